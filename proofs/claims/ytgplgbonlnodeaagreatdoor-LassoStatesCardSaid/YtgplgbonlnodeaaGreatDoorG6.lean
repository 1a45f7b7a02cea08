/-
  A value-level evaluator for Go functions; the functions of this cut by it; plain laws. Text G6.
-/
import Derived.Test.YtgplgbonlnodeaaGreatDoorG5
import Derived.Test.YtgplgbonlnodeaaGreatDoorG4
open Bool renaming and_eq_true->bL,false_eq_true->qp,not_false->Q9,true_and->Q6
open Classical renaming byContradiction->pL
open Int renaming fdiv_eq_ediv_of_nonneg->aoN,natCast_inj->rF,natCast_one->ue,natCast_pow->Rf,natCast_zero->gH,ofNat_le->aoQ,tdiv_eq_ediv_of_nonneg->aoM,tmod_eq_emod_of_nonneg->aab,toNat_natCast->sQ
open List renaming all_eq_true->gV,append_assoc->j2,append_eq_nil_iff->tX,append_nil->iQ,cons_append->jo,drop_append_of_le_length->Z8,drop_eq_nil_of_le->Rc,drop_of_length_le->Gd,drop_zero->pM,eq_nil_of_length_eq_zero->sO,ext_getElem?->lO,filter_append->Rg,filter_cons->Az,filter_nil->Ra,flatMap_cons->sP,getD_eq_getElem?_getD->im,getElem?_append_left->aT,getElem?_append_right->cR,getElem?_cons_succ->vY,getElem?_drop->lN,getElem?_eq_getElem->aD,getElem?_eq_none->nS,getElem?_eq_some_iff->af,getElem?_map->cG,getElem?_modify->AD,getElem?_of_mem->dV,getElem?_set->nU,getElem?_set_ne->bp,getElem?_set_self->eA,getElem?_take->gL,getElem?_take_of_lt->kX,getElem_cons_succ->yb,getElem_cons_zero->pR,getElem_mem->dw,getElem_of_mem->ya,length->oI,length_append->gG,length_cons->ew,length_eq_zero_iff->CR,length_filter_le->C3,length_map->bT,length_nil->fH,length_pos_iff->wh,length_set->Ge,length_singleton->AA,length_take->kY,length_take_le'->aaa,map->xW,map_append->oJ,map_congr_left->pN,map_cons->cB,map_id->Le,map_map->pO,map_nil->j4,mem_append->cx,mem_cons->cq,mem_cons_of_mem->kA,mem_cons_self->rD,mem_map->cA,mem_of_getElem?->bB,mem_of_mem_drop->tT,mem_of_mem_take->jn,mem_or_eq_of_mem_set->K8,mem_singleton->nT,nil_append->fF,not_mem_nil->iC,pairwise_iff_getElem->C1,replicate->dX,replicate_succ'->aac,set_append_right->Rh,sum_append->Rb,sum_cons->Lf,take->rE,take_append_drop->Aw,take_append_of_le_length->Re,take_length->lQ,take_of_length_le->fK,take_succ_cons->aoO,take_succ_eq_append_getElem->C2,take_take->Q8,take_zero->tY
open List.cons renaming injEq->xY
open Nat renaming add_comm->CT,add_mul->fX,add_sub_cancel_left->tZ,add_zero->nO,le_refl->aK,le_trans->fW,lt_or_ge->fA,lt_trichotomy->Gf,min_eq_left->x9,min_eq_right->aoP,mul_comm->tV,mul_le_mul->ud,mul_le_mul_right->ju,not_lt->Lg,not_lt_zero->CY,one_mul->nP,reduceAdd->wk,zero_add->ez,zero_le->bD
open Option renaming getD_some->mq,map_eq_some_iff->ak,map_some->fy
open Option.some renaming injEq->bM
open List renaming length->O
open Option renaming some->Z,none->Y
set_option maxHeartbeats 4000000
set_option maxRecDepth 100000
open Go.Vs

section
open Go.Proofs.YtgplgbonlnodeaaGreatDoor
attribute [local simp] cH aP fY put Env.get Env.keep entry aA.ev pU yi aw cutAt yg D.uf D.lS u8 AG ye AH kD sub AJ rG PD.eqv j7 cls gY ug aV lg oL qx eR sT finish mD rJ aH D.ai D.refs D.aC D.bk cX gI aF pT fg dJ D.iR D.eZ sQ yh sS D.j6 ay IB IC Bw ID IE jT JV gives nx JR JS JT rF E4 bX below Out.ren D.ren D.aZ E6 JU JB qW JC xm JD JE JF JG JH JI JJ JK E5 JL JM JN JO JP BX JQ
namespace Go.Proofs.YtgplgbonlnodeaaGreatDoor
variable{at_:D}{fc:FC}{H H' H2 Hs:Hp}{t a st lp:Int}{R:List (Int×List Int)}{S S':List (List (Int×List Int))}{aa cs:List D}{l l' al:List Int}{ids:List Nat}{es ps:List PD}{i sz f j m v:Nat}{y:PD}{bs:Sl Bool}{α:Type}{P:α->Prop}
theorem B2(h:i<O l):(l.take (i+1)).sum=(l.take i).sum+l[i]:=by
 rw[C2 h,Rb];simp
theorem JX:∀{l:List Int} {m:Int},(∀x∈l,0<=x/\x<=m)->0<=l.sum/\l.sum<=O l*m
 |[],m,_=>by simp
 |a::l,m,h=>by
  have h1:=h a (by simp);have h2:=JX (l:=l) (m:=m) λx hx=>h x (by simp[hx]);simp only[Lf,ew];have :((O l+1 :Nat):Int)*m=O l*m+m:=by
   rw[Int.natCast_add,Int.add_mul];simp
  omega
theorem W8{m:Int}(h:∀x∈l,0<=x/\x<=m)(i:Nat):0<=(l.take i).sum/\(l.take i).sum<=O l*m:=by
 have h1:=JX (l:=l.take i) (m:=m) λx hx=>h x (jn hx);have h2:=JX (l:=l.drop i) (m:=m) λx hx=>h x (tT hx);have h3:=JX h;have :l.sum=(l.take i).sum+(l.drop i).sum:=by rw[<-Rb,Aw]
 omega
theorem W9(a:Sl Int)(st:Int)(hl:O (els a)<=1000)(h:∀x∈els a,0<=x/\x<=5):
    ∀H,au (call pg) 48 [.p (.agg [ax a,.int .i64 st])] H=Z (.val (.p (.int .i64 ((els a).sum))),H):=by
 have hb0:=rf (bd I8 0)
 conv at hb0=>rhs;reduce
 have hf:=rf I8
 conv at hf=>rhs;reduce
 rw[<-hb0] at hf;have key:=lI (c:=call pg) (G:=pg.G) (keep:=[1,3,4]) (b:=bd I8 0) (λi=>[(1,.box 0 0),(3,.p (.int .i64 (((els a).take i).sum))),(4,.p (.int .i64 i))]) (λ_=>⟨[[.p (ax a),.p (.int .i64 st)]],[]⟩) (O (els a)) (λ_=>True)
  (λo e H=>o= .exit 0/\e.get 3= .p (.int .i64 ((els a).sum))) trivial ?_ ?_
 .obtain⟨o,e,H,hx,rfl,h3⟩:=bC key;refine aR (aa:=[_]) hf rfl rfl rfl ?_;clear hf hb0;simp at hx;simp[hx,h3]
 .intro i hi _;have hw:IntKind.i64.wrap (((els a).take i).sum+(els a)[i])=((els a).take i).sum+(els a)[i]:=by
   have:=W8 h (i+1);rw[B2 hi] at this;exact wrap64 (by omega) (by omega)
  rw[hb0];clear hf hb0;simp[bG,eK hi,hi,bt (k:=i) (by omega),B2 hi,hw]
 .intro _;rw[hb0];clear hf hb0;simp[bG]
def JY(n:Nat)(a:Sl Int)(st:Int):Prop:=O (els a)=n/\n<=4/\1<=st/\st<=4/\(∀x∈els a,1<=x/\x<=5)/\(els a).sum<=12
theorem Xa{P:Int->Prop}:(∀i,i<O l->∀x,l[i]? =Z x->P x)↔∀x∈l,P x:=by
 constructor
 .intro h x hx;obtain⟨i,hi,rfl⟩:=ya hx;exact h i hi _ (aD hi)
 .intro h i hi x hx;exact h x (bB hx)
theorem ahC{so f2 f3 f4:PD}{n:Nat}(dW:dF 1 (.p so)=Z n)(o1:so.one=true)(o2:f2.one=true)(o3:f3.one=true)(o4:f4.one=true)(a:Sl Int)(st:Int)(hn:n<4611686018427387904)(_:O (els a)<4611686018427387904):
    ∃r:Bool,(∀H,au (call pg) 47 [.p (.agg [so,f2,f3,f4]),.p (.agg [ax a,.int .i64 st])] H=Z (.val (.p (.bool r)),H))/\(r=true↔JY n a st):=by
 have hb0:=rf (bd I7 0)
 conv at hb0=>rhs;reduce
 have hf:=rf I7
 conv at hf=>rhs;reduce
 rw[<-hb0] at hf;by_cases h0:O (els a)=n/\n<=4/\1<=st/\st<=4
 .obtain⟨e1,e2,e3,e4⟩:=h0;have key:=zP (c:=call pg) (G:=pg.G) (keep:=[3,5]) (b:=bd I7 0) (λi=>[(3,.box 1 0),(5,.p (.int .i64 i))]) ⟨[[.p so,.p f2,.p f3,.p f4],[.p (ax a),.p (.int .i64 st)]],[]⟩ (O (els a))
   (λi=>∀x,(els a)[i]? =Z x->1<=x/\x<=5) 0 (λe=>e.get 3= .box 1 0) (λe=>e.get 4= .p (.bool false)) ?_ ?_ ?_
  .rcases key with⟨e,hx,hq,hp⟩ |⟨e,hx,hr,hp⟩
   .rw[Xa] at hp;have hat:=W9 a st (by omega) λx hx=>by have:=hp x hx;omega
    refine⟨decide ((els a).sum<=12),aR (aa:=[_,_]) hf rfl rfl rfl ?_,?_⟩
    .clear hf hb0;simp at hx;have g1:¬4<n:=by omega
     have g2:¬st<1:=by omega
     have g3:¬4<st:=by omega
     have g4:¬((4 :Int)<(n:Int)):=by omega
     simp[bG,dW,o1,o2,o3,o4,e1,g2,g3,g4,hx,hq,hat]
    .rw[decide_eq_true_eq];exact⟨λh=>⟨e1,e2,e3,e4,hp,h⟩,λh=>h.2.2.2.2.2⟩
   .rw[Xa] at hp;refine⟨false,aR (aa:=[_,_]) hf rfl rfl rfl ?_,iff_of_false (by simp) λhh=>hp hh.2.2.2.2.1⟩;clear hf hb0;simp at hx;have g1:¬4<n:=by omega
    have g2:¬st<1:=by omega
    have g3:¬4<st:=by omega
    have g4:¬((4 :Int)<(n:Int)):=by omega
    simp[bG,dW,o1,o2,o3,o4,e1,g2,g3,g4,hx,hr]
  .intro i hi hP;rw[hb0];clear hf hb0;have hP:=hP _ (aD hi);have g1:¬(els a)[i]<1:=by omega
   have g2:¬5<(els a)[i]:=by omega
   simp[bG,eK hi,hi,g1,g2,bt (k:=i) (by omega)]
  .intro i hi hP;rw[hb0];clear hf hb0;have hP:¬(1<=(els a)[i]/\(els a)[i]<=5):=λh=>hP λx hx=>by
    rw[aD hi] at hx;cases hx;exact h
   by_cases g1:(els a)[i]<1
   .simp[bG,eK hi,hi,g1]
   .have g2:5<(els a)[i]:=by omega
    simp[bG,eK hi,hi,g1,g2]
  .rw[hb0];clear hf hb0;simp[bG]
 .refine⟨false,aR (aa:=[_,_]) hf rfl rfl rfl ?_,iff_of_false (by simp) λh=>h0 ⟨h.1,h.2.1,h.2.2.1,h.2.2.2.1⟩⟩;clear hf hb0;by_cases g1:O (els a)=n
  .by_cases g2:4<n
   .have g4:((4 :Int)<(n:Int)):=by omega
    simp[bG,dW,o1,o2,o3,o4,g1,g4]
   .have g4:¬((4 :Int)<(n:Int)):=by omega
    by_cases g3:st<1
    .simp[bG,dW,o1,o2,o3,o4,g1,g3,g4]
    .have g5:4<st:=by omega
     simp[bG,dW,o1,o2,o3,o4,g1,g3,g4,g5]
  .simp[bG,dW,o1,o2,o3,o4,g1]
theorem B3{n:Nat}(hn:n<=12)(hi:i<=3):n ^ i<=1728:=by
 have h1:n ^ i<=12 ^ i:=Nat.pow_le_pow_left hn i;have h2:(12 :Nat) ^ i<=12 ^ 3:=Nat.pow_le_pow_right (by omega) hi;omega
theorem ahD{n k:Nat}(hn:n<=12)(hk:k<=3):∀H,au (call pg) 126 [.p (.int .i64 ((n:Nat):Int)),.p (.int .i64 ((k:Nat):Int))] H=Z (.val (.p (.int .i64 ((n ^ k:Nat):Int))),H):=by
 have hb0:=rf (bd Ja 0)
 conv at hb0=>rhs;reduce
 have hf:=rf Ja
 conv at hf=>rhs;reduce
 rw[<-hb0] at hf;have key:=lI (c:=call pg) (G:=pg.G) (keep:=[0,1,5,6]) (b:=bd Ja 0) (λi=>[(0,.p (.int .i64 ((n:Nat):Int))),(1,.p (.int .i64 ((k:Nat):Int))),(5,.p (.int .i64 ((n ^ i:Nat):Int))),(6,.p (.int .i64 ((i:Nat):Int)))]) (λ_=>⟨[],[]⟩) k (λ_=>True)
  (λo e H=>o= .exit 0/\e.get 5= .p (.int .i64 ((n ^ k:Nat):Int))) trivial ?_ ?_
 .obtain⟨o,e,H,hx,rfl,h3⟩:=bC key;refine aR (aa:=[_,_]) hf rfl rfl rfl ?_;clear hf hb0;simp at hx;simp[hx,h3]
 .intro i hi _;rw[hb0];clear hf hb0;have h1:(i:Int)<3:=by omega
  have h2:IntKind.i64.wrap ((n:Int) ^ i*(n:Int))=(n:Int) ^ (i+1):=by
   have:=B3 hn (i:=i+1) (by omega);rw[show(n:Int) ^ i*(n:Int)=((n ^ (i+1):Nat):Int) by rw[Nat.pow_succ];simp,wrap64 (by omega) (by omega)];simp
  simp[hi,h1,h2,bt (k:=i) (by omega)]
 .intro _;rw[hb0];clear hf hb0;simp
def mg:List Int->Int->Int->Int
 |[],_,_=> -1
 |a::r,k,x=>if x<a then k else mg r (k+1) (x-a)
def JZ(ats:List Int)(n:Int):List Int->Int->Prop
 |[],_=>True
 |s::r,t=>mg ats 0 (t.tmod n)=s/\JZ ats n r (t.tdiv n)
def Xb(ats:List Int):Int:=if 1<ats.sum then ats.sum else 1
def Pc(ats so tu:List Int):Prop:=∀t∈tu,JZ ats (Xb ats) so.reverse t
theorem Pf{n:Int}(hn:1<=n)(ht:0<=t/\t<=4611686018427387904):0<=t.tdiv n/\t.tdiv n<=4611686018427387904:=by
 constructor
 .exact Int.tdiv_nonneg ht.1 (by omega)
 .rw[aoM ht.1];have:=Int.ediv_le_self (b:=n) ht.1;omega
theorem vA{l:List α}:(∀i,i<O l->∀x,l[i]? =Z x->P x)↔∀x∈l,P x:=by
 constructor
 .intro h x hx;obtain⟨i,hi,rfl⟩:=ya hx;exact h i hi _ (aD hi)
 .intro h i hi x hx;exact h x (bB hx)
theorem ahE{l:List α}(hi:i<O l)(h:¬∀x,l[i]? =Z x->P x):¬P l[i]:=λhh=>h λx hx=>by
 rw[aD hi] at hx;cases hx;exact hh
theorem Xc{l:List α}(hi:i<O l)(h:∀x,l[i]? =Z x->P x):P l[i]:=h _ (aD hi)
def sB(n:Nat)(so:List Int):Prop:=(∀s∈so,0<=s/\s<(n:Int))/\1<=O so/\O so<=3
theorem ahF(a b:Sl Int)(x y:Int)(ha:O (els a)<4611686018427387904):
    ∃r:Bool,(∀H,au (call pg) 38 [.p (.agg [.int .i64 x,ax a]),.p (.agg [.int .i64 y,ax b])] H=Z (.val (.p (.bool r)),H))/\(r=true↔x=y/\els a=els b):=by
 have hb0:=rf (bd I4 0)
 conv at hb0=>rhs;reduce
 have hf:=rf I4
 conv at hf=>rhs;reduce
 rw[<-hb0] at hf;by_cases lG:x=y
 .by_cases hl:O (els a)=O (els b)
  .have key:=zP (c:=call pg) (G:=pg.G) (keep:=[2,3,5]) (b:=bd I4 0) (λi=>[(2,.box 0 0),(3,.box 1 0),(5,.p (.int .i64 ((i:Nat):Int)))]) ⟨[[.p (.int .i64 x),.p (ax a)],[.p (.int .i64 y),.p (ax b)]],[]⟩ (O (els a))
    (λi=>(els a)[i]? =(els b)[i]?) 0 (λ_=>True) (λe=>e.get 4= .p (.bool false)) ?_ ?_ ?_
   .rcases key with⟨e,hx,-,hp⟩ |⟨e,hx,hr,hp⟩
    .refine⟨true,aR (aa:=[_,_]) hf rfl rfl rfl ?_,iff_of_true rfl ⟨lG,?_⟩⟩
     .clear hf hb0;simp at hx;simp[bG,hl,lG] at hx|-;simp[hx]
     .refine lO λi=>?_;rcases fA i (O (els a)) with h |h
      .exact hp i h
      .rw[nS h,nS (hl▸h)]
    .refine⟨false,aR (aa:=[_,_]) hf rfl rfl rfl ?_,iff_of_false (by simp) λhh=>hp λi _=>by rw[hh.2]⟩;clear hf hb0;simp[bG,hl,lG] at hx|-;simp[hx,hr]
   .intro i hi hP;rw[hb0];clear hf hb0;have bJ:i<O (els b):=hl▸hi;rw[aD hi,aD bJ,bM] at hP;simp[bG,eK hi,eK bJ,hi,hP,bt (k:=i) (by omega)]
   .intro i hi hP;rw[hb0];clear hf hb0;have bJ:i<O (els b):=hl▸hi;rw[aD hi,aD bJ,bM] at hP;simp[bG,eK hi,eK bJ,hi,hP]
   .rw[hb0];clear hf hb0;simp[bG]
  .refine⟨false,aR (aa:=[_,_]) hf rfl rfl rfl ?_,iff_of_false (by simp) λh=>hl (by rw[h.2])⟩;clear hf hb0;simp[bG,hl,lG]
 .refine⟨false,aR (aa:=[_,_]) hf rfl rfl rfl ?_,iff_of_false (by simp) λh=>lG h.1⟩;clear hf hb0;simp[lG]
def vC(n:Int)(ar:Int)(tu:List Int):Prop:=0<=n/\n<=12/\1<=ar/\ar<=3/\
 ∀i,i<O tu->(∀x,tu[i]? =Z x->0<=x/\x<n ^ ar.toNat)/\∀x y,0<i->tu[i]? =Z x->tu[i-1]? =Z y->y<x
theorem J5(n ar:Int)(a:Sl Int)(ha:O (els a)<4611686018427387904):
    ∃r:Bool,(∀H,au (call pg) 80 [.p (.int .i64 n),.p (.agg [.int .i64 ar,ax a])] H=Z (.val (.p (.bool r)),H))/\(r=true↔vC n ar (els a)):=by
 have hb0:=rf (bd a80 0)
 conv at hb0=>rhs;reduce
 have hf:=rf a80
 conv at hf=>rhs;reduce
 rw[<-hb0] at hf;by_cases h0:0<=n/\n<=12/\1<=ar/\ar<=3
 .obtain⟨e1,e2,e3,e4⟩:=h0;have zR:=ahD (n:=n.toNat) (k:=ar.toNat) (by omega) (by omega);have hn:((n.toNat:Nat):Int)=n:=by omega
  have uJ:((ar.toNat:Nat):Int)=ar:=by omega
  have Ph:((n.toNat ^ ar.toNat:Nat):Int)=n ^ ar.toNat:=by rw[Rf,hn]
  rw[hn,uJ,Ph] at zR;have key:=zP (c:=call pg) (G:=pg.G) (keep:=[0,3,5]) (b:=bd a80 0) (λi=>[(0,.p (.int .i64 n)),(3,.box 0 0),(5,.p (.int .i64 ((i:Nat):Int)))]) ⟨[[.p (.int .i64 ar),.p (ax a)]],[]⟩ (O (els a))
   (λi=>(∀x,(els a)[i]? =Z x->0<=x/\x<n ^ ar.toNat)/\∀x y,0<i->(els a)[i]? =Z x->(els a)[i-1]? =Z y->y<x) 0 (λ_=>True) (λe=>e.get 4= .p (.bool false)) ?_ ?_ ?_
  .rcases key with⟨e,hx,-,hp⟩ |⟨e,hx,hr,hp⟩
   .refine⟨true,aR (aa:=[_,_]) hf rfl rfl rfl ?_,iff_of_true rfl ⟨e1,e2,e3,e4,hp⟩⟩;clear hf hb0;simp at hx;have g1:¬n<0:=by omega
    have g2:¬12<n:=by omega
    have g3:¬ar<1:=by omega
    have g4:¬3<ar:=by omega
    simp[hx,g1,g2,g3,g4]
   .refine⟨false,aR (aa:=[_,_]) hf rfl rfl rfl ?_,iff_of_false (by simp) λhh=>hp hh.2.2.2.2⟩;clear hf hb0;simp at hx;have g1:¬n<0:=by omega
    have g2:¬12<n:=by omega
    have g3:¬ar<1:=by omega
    have g4:¬3<ar:=by omega
    simp[hx,hr,g1,g2,g3,g4]
  .intro i hi hP;obtain⟨p1,p2⟩:=hP;have p1:=Xc hi p1;have g1:¬(els a)[i]<0:=by omega
   have g2:¬n ^ ar.toNat<=(els a)[i]:=by omega
   rw[hb0];clear hf hb0;cases i with
   |zero=>
    have c6:=eK hi;simp only[gH] at c6;simp[bG,c6,hi,zR,g1,g2,wrap64]
   |succ k=>
    have hk:k<O (els a):=by omega
    have p2:=p2 (els a)[k+1] (els a)[k] (by omega) (aD hi) (aD hk);have c1:IntKind.i64.wrap (((k+1 :Nat):Int)-1)=(k:Int):=by rw[wrap64 (by omega) (by omega)];omega
    have c2:(0 :Int)<((k+1 :Nat):Int):=by omega
    have c3:¬(els a)[k+1]<=(els a)[k]:=by omega
    have c4:=bt (k:=k+1) (by omega);have c5:((k+1 :Nat):Int)<(O (els a):Int):=by omega
    have c6:=eK hi;generalize ((k+1 :Nat):Int)=kk at *;simp[bG,c6,eK hk,zR,g1,g2,c1,c2,c3,c4,c5]
  .intro i hi hP;rw[hb0];clear hf hb0;by_cases g1:(els a)[i]<0
   .simp[bG,eK hi,hi,g1]
   .by_cases g2:n ^ ar.toNat<=(els a)[i]
    .simp[bG,eK hi,hi,zR,g1,g2]
    .cases i with
     |zero=>
      refine absurd ⟨λx hx=>?_,λx y h=>absurd h (by omega)⟩ hP;rw[aD hi] at hx;cases hx;omega
     |succ k=>
      have hk:k<O (els a):=by omega
      have c1:IntKind.i64.wrap (((k+1 :Nat):Int)-1)=(k:Int):=by rw[wrap64 (by omega) (by omega)];omega
      have c2:(0 :Int)<((k+1 :Nat):Int):=by omega
      have c3:(els a)[k+1]<=(els a)[k]:=by
       refine Int.not_lt.1 λhlt=>hP ⟨λx hx=>?_,λx y _ hx hy=>?_⟩
       .rw[aD hi] at hx;cases hx;omega
       .rw[aD hi] at hx;cases hx;rw[Nat.add_sub_cancel,aD hk] at hy;cases hy;exact hlt
      have c5:((k+1 :Nat):Int)<(O (els a):Int):=by omega
      have c6:=eK hi;generalize ((k+1 :Nat):Int)=kk at *;simp[bG,c6,eK hk,zR,g1,g2,c1,c2,c3,c5]
  .rw[hb0];clear hf hb0;simp[bG]
 .refine⟨false,aR (aa:=[_,_]) hf rfl rfl rfl ?_,iff_of_false (by simp) λh=>h0 ⟨h.1,h.2.1,h.2.2.1,h.2.2.2.1⟩⟩;clear hf hb0;by_cases g1:n<0
  .simp[g1]
  .by_cases g2:12<n
   .simp[g1,g2]
   .by_cases g3:ar<1
    .simp[g1,g2,g3]
    .have g4:3<ar:=by omega
     simp[g1,g2,g3,g4]
abbrev dn(l:List Int):Prop:=l.Pairwise (· < ·)
theorem ahG(l:Sl Int)(ar x:Int)(hl:O (els l)<4611686018427387904)(hs:dn (els l)):
    ∃r:Bool,(∀H,au (call pg) 70 [.p (.agg [.int .i64 ar,ax l]),.p (.int .i64 x)] H=Z (.val (.p (.bool r)),H))/\(r=true↔x∈els l):=by
 have hb0:=rf (bd a70 0)
 conv at hb0=>rhs;reduce
 have hf:=rf a70
 conv at hf=>rhs;reduce
 rw[<-hb0] at hf;have hs':=C1.1 hs;have key:=dT (c:=call pg) (G:=pg.G) (keep:=[1,2,5,6]) (b:=bd a70 0) (σ:=Nat×Nat) (λs=>[(1,.p (.int .i64 x)),(2,.box 0 0),(5,.p (.int .i64 ((s.1:Nat):Int))),(6,.p (.int .i64 ((s.2:Nat):Int)))]) (λ_=>⟨[[.p (.int .i64 ar),.p (ax l)]],[]⟩) (λs=>s.2-s.1)
  (λs=>s.1<=s.2/\s.2<=O (els l)/\(∀i (h:i<O (els l)),i<s.1->(els l)[i]<x)/\∀i (h:i<O (els l)),s.2<=i->x<=(els l)[i])
  (λo e H=>H=⟨[[.p (.int .i64 ar),.p (ax l)]],[]⟩/\o= .exit 0/\e.get 1= .p (.int .i64 x)/\e.get 2= .box 0 0/\∃k:Nat,e.get 5= .p (.int .i64 ((k:Nat):Int))/\k<=O (els l)/\(∀i (h:i<O (els l)),i<k->(els l)[i]<x)/\∀i (h:i<O (els l)),k<=i->x<=(els l)[i])
  ?_ (0,O (els l)) ⟨bD _,aK _,λi _ h=>absurd h (CY _),λi h h'=>absurd h (Lg.2 h')⟩
 .obtain⟨o,e,H,hx,rfl,rfl,g1,g2,k,g5,hk,p1,p2⟩:=bC key;simp at hx;by_cases hlt:k<O (els l)
  .by_cases hq:(els l)[k]=x
   .refine⟨true,aR (aa:=[_,_]) hf rfl rfl rfl ?_,iff_of_true rfl (hq▸dw hlt)⟩;clear hf hb0;simp[bG,hx,g1,g2,g5,hlt,eK hlt,hq]
   .refine⟨false,aR (aa:=[_,_]) hf rfl rfl rfl ?_,iff_of_false (by simp) λhm=>?_⟩
    .clear hf hb0;simp[bG,hx,g1,g2,g5,hlt,eK hlt,hq]
    .obtain⟨i,hi,rfl⟩:=ya hm;rcases Gf i k with h |h |h
     .have:=p1 i hi h;omega
     .subst h;exact hq rfl
     .have:=p2 k hlt (aK _);have:=hs' k i hlt hi h;omega
  .refine⟨false,aR (aa:=[_,_]) hf rfl rfl rfl ?_,iff_of_false (by simp) λhm=>?_⟩
   .clear hf hb0;simp[bG,hx,g2,g5,hlt]
   .obtain⟨i,hi,rfl⟩:=ya hm;have:=p1 i hi (by omega);omega
 .rintro⟨lo,hi⟩ ⟨h1,h2,h3,h4⟩;dsimp only at h1 h2 h3 h4|-;by_cases hlt:lo<hi
  .have hm:(lo+hi)/2<O (els l):=by omega
   have c1:IntKind.i64.wrap ((lo:Int)+(hi:Int))=((lo+hi:Nat):Int):=by rw[wrap64 (by omega) (by omega)];simp
   have c2:IntKind.i64.wrap (((lo+hi:Nat):Int).tdiv 2)=(((lo+hi)/2 :Nat):Int):=by
    rw[aoM (by omega),wrap64 (by omega) (by omega)];omega
   have c3:=bt (k:=(lo+hi)/2) (by omega);have aS:=eK hm;by_cases hc:(els l)[(lo+hi)/2]<x
   .refine aG (Q:=λo e H=>nx [1,2,5,6] [(1,.p (.int .i64 x)),(2,.box 0 0),(5,.p (.int .i64 (((lo+hi)/2+1 :Nat):Int))),(6,.p (.int .i64 ((hi:Nat):Int)))] ⟨[[.p (.int .i64 ar),.p (ax l)]],[]⟩ o e H) ?_ λo e H hh=>.inl ⟨((lo+hi)/2+1,hi),⟨by dsimp only;omega,h2,λi h h'=>?_,h4⟩,by dsimp only;omega,hh⟩
    .rw[hb0];clear hf hb0;generalize (((lo+hi)/2 :Nat):Int)=m at *;generalize ((((lo+hi)/2+1 :Nat)):Int)=m1 at *;generalize ((lo+hi:Nat):Int)=m2 at *;simp[hlt,c1,c2,c3,aS,hc]
    .dsimp only at h';rcases fA i ((lo+hi)/2) with mM |mM
     .have:=hs' i _ h hm mM;omega
     .have :i=(lo+hi)/2:=by omega
      subst this;exact hc
   .refine aG (Q:=λo e H=>nx [1,2,5,6] [(1,.p (.int .i64 x)),(2,.box 0 0),(5,.p (.int .i64 ((lo:Nat):Int))),(6,.p (.int .i64 (((lo+hi)/2 :Nat):Int)))] ⟨[[.p (.int .i64 ar),.p (ax l)]],[]⟩ o e H) ?_ λo e H hh=>.inl ⟨(lo,(lo+hi)/2),⟨by dsimp only;omega,by dsimp only;omega,h3,λi h h'=>?_⟩,by dsimp only;omega,hh⟩
    .rw[hb0];clear hf hb0;generalize (((lo+hi)/2 :Nat):Int)=m at *;generalize ((lo+hi:Nat):Int)=m2 at *;simp[hlt,c1,c2,aS,hc]
    .dsimp only at h';rcases fA ((lo+hi)/2) i with mM |mM
     .have:=hs' _ i hm h mM;omega
     .have :i=(lo+hi)/2:=by omega
      subst this;omega
  .have :lo=hi:=by omega
   subst this;refine aG (Q:=λo e H=>o= .exit 0/\H=⟨[[.p (.int .i64 ar),.p (ax l)]],[]⟩/\e.get 1= .p (.int .i64 x)/\e.get 2= .box 0 0/\e.get 5= .p (.int .i64 ((lo:Nat):Int))) ?_ λo e H hh=>.inr ?_
   .rw[hb0];clear hf hb0;simp
   .obtain⟨rfl,rfl,q1,q2,q3⟩:=hh;exact⟨by simp,rfl,rfl,q1,q2,lo,q3,h2,h3,h4⟩
theorem ahH(l:Sl Int)(x:Int)(hl:O (els l)<4611686018427387904):
    ∀H,au (call pg) 103 [.p (ax l),.p (.int .i64 x)] H=Z (.val (.p (.bool (decide (x∈els l)))),H):=by
 have hb0:=rf (bd I9 0)
 conv at hb0=>rhs;reduce
 have hf:=rf I9
 conv at hf=>rhs;reduce
 rw[<-hb0] at hf;have key:=zP (c:=call pg) (G:=pg.G) (keep:=[0,1,5]) (b:=bd I9 0) (λi=>[(0,.p (ax l)),(1,.p (.int .i64 x)),(5,.p (.int .i64 ((i:Nat):Int)))]) ⟨[],[]⟩ (O (els l))
  (λi=>∀y,(els l)[i]? =Z y->y≠x) 0 (λ_=>True) (λe=>e.get 4= .p (.bool true)) ?_ ?_ ?_
 .rcases key with⟨e,hx,-,hp⟩ |⟨e,hx,hr,hp⟩
  .rw[vA] at hp;have hm:¬x∈els l:=λh=>hp x h rfl;refine aR (aa:=[_,_]) hf rfl rfl rfl ?_;clear hf hb0;simp at hx;simp[hx,hm]
  .rw[vA] at hp;have hm:x∈els l:=pL λh=>hp λy hy he=>h (he▸hy);refine aR (aa:=[_,_]) hf rfl rfl rfl ?_;clear hf hb0;simp at hx;simp[hx,hr,hm]
 .intro i hi hP;rw[hb0];clear hf hb0;simp[bG,eK hi,hi,Xc hi hP,bt (k:=i) (by omega)]
 .intro i hi hP;have hP:=Classical.not_not.1 (ahE hi hP);rw[hb0];clear hf hb0;simp[bG,eK hi,hi,hP]
 .rw[hb0];clear hf hb0;simp[bG]
def kR(e sz:Nat)(es:List PD):D:=match es with |[]=>.p .aj |_::_=>.aX 0 e sz es
def tK(es:List PD):List Nat:=match es with |[]=>[] |_::_=>[O es]
theorem Pj{e by':Nat}{x:PD}{bx:List (List D)}(h:O es<1000000000)(hb:by'<=1000):fg e sz by' (kR e sz es) [x] ⟨bx,tK es⟩=Z (kR e sz (es++[x]),⟨bx,tK (es++[x])⟩):=by
 have hr:roomy (O es+1) by'=true:=by
  have :(O es+1)*by'<=1000000000*1000:=ud (by omega) hb;simp only[roomy,bL,decide_eq_true_eq];omega
 cases es with
 |nil=>
  simp only[fH,ez] at hr;simp[kR,tK,fg,hr]
 |cons a r=>
  simp only[ew] at hr;simp[kR,tK,fg,hr]

@[simp] theorem arh(e sz:Nat)(es:List PD):(kR e sz es).one=true:=by cases es<;>rfl
@[simp] theorem ari(e sz:Nat):kR e sz []= .p .aj:=rfl
@[simp] theorem arj:tK []=[]:=rfl
theorem Xd(e sz:Nat)(es:List PD):(kR e sz es).cells=[kR e sz es]:=by cases es<;>rfl
def Pk(d:D)(ar:Int)(tu:Sl Int):Prop:=d= .p (.agg [.int .i64 ar,ax tu])\/d= .agg [.p (.int .i64 ar),.p (ax tu)]
def qX(l:List Int):Sl Int:=match l with |[]=>.nil |_::_=>.of l
theorem zT(l:List Int):els (qX l)=l:=by cases l<;>rfl
theorem Xe(l:List Int)(e:Nat):(l=[]/\kR e 1 (l.map (PD.int .i64))= .p (ax (qX l)))\/(∃t,kR e 1 (l.map (PD.int .i64))= .aX t e 1 (l.map (PD.int .i64))/\ax (qX l)= .slice 1 (l.map (PD.int .i64))):=by
 cases l with
 |nil=>exact .inl ⟨rfl,rfl⟩
 |cons a r=>exact .inr ⟨0,rfl,rfl⟩
theorem ahI(a b:Sl Int)(x y:Int)(ha:O (els a)<1000000000)(hb:O (els b)<4611686018427387904)(hs:dn (els b)):
    ∃d,(∀H,au (call pg) 155 [.p (.agg [.int .i64 x,ax a]),.p (.agg [.int .i64 y,ax b])] H=Z (.val d,H))/\Pk d x (qX ((els a).filter λt=>!(els b).contains t)):=by
 have hb0:=rf (bd Jc 0)
 conv at hb0=>rhs;reduce
 have hf:=rf Jc
 conv at hf=>rhs;reduce
 rw[<-hb0] at hf;have key:=lI (c:=call pg) (G:=pg.G) (keep:=[2,3,4,5,6]) (b:=bd Jc 0) (λi=>[(2,.box 0 0),(3,.box 1 0),(4,.box 2 0),(5,.box 3 0),(6,.p (.int .i64 ((i:Nat):Int)))])
  (λi=>⟨[[.p (.int .i64 x),.p (ax a)],[.p (.int .i64 y),.p (ax b)],[.p (.int .i64 0),.p .aj],[.p (.int .i64 x),kR 3 1 ((((els a).take i).filter λt=>!(els b).contains t).map (PD.int .i64))]],tK ((((els a).take i).filter λt=>!(els b).contains t).map (PD.int .i64))⟩) (O (els a)) (λ_=>True)
  (λo e H=>o= .exit 0/\e.get 4= .box 2 0/\e.get 5= .box 3 0/\∃tk,H=⟨[[.p (.int .i64 x),.p (ax a)],[.p (.int .i64 y),.p (ax b)],[.p (.int .i64 0),.p .aj],[.p (.int .i64 x),kR 3 1 (((els a).filter λt=>!(els b).contains t).map (PD.int .i64))]],tk⟩) trivial ?_ ?_
 .obtain⟨o,e,H,hx,rfl,g4,g5,tk,rfl⟩:=bC key;generalize (els a).filter (λt=>!(els b).contains t)=L at *;simp at hx;rcases Xe L 3 with⟨-,hg⟩ |⟨t,hg,hk⟩
  .refine⟨.p (.agg [.int .i64 x,ax (qX L)]),aR (aa:=[_,_]) hf rfl rfl rfl ?_,.inl rfl⟩;clear hf hb0;rw[hg] at hx;simp[hx,g4,g5]
  .refine⟨.agg [.p (.int .i64 x),.p (ax (qX L))],aR (aa:=[_,_]) hf rfl rfl rfl ?_,.inr rfl⟩;clear hf hb0;rw[hg] at hx;simp[hx,g4,g5,hk]
 .intro i hi _;obtain⟨r,c1,d1⟩:=ahG b y (els a)[i] hb hs;rw[C2 hi,Rg,oJ];have hlen:O ((((els a).take i).filter λt=>!(els b).contains t).map (PD.int .i64))<1000000000:=by
   rw[bT];have h1:=C3 (λt=>!(els b).contains t) ((els a).take i);have h2:O ((els a).take i)<=O (els a):=aaa ..;omega
  have hap:=λbx=>Pj (e:=3) (sz:=1) (by':=8) (x:=.int .i64 (els a)[i]) (bx:=bx) hlen (by omega);generalize hL:(((els a).take i).filter λt=>!(els b).contains t).map (PD.int .i64)=L at *;rw[hb0];clear hf hb0;cases r with
  |true=>
   have hm:els b |>.contains (els a)[i]:=by simpa using d1.1 rfl
   simp only[Az,hm,Bool.not_true,qp,if_false,Ra,j4,iQ];simp[bG,eK hi,hi,c1,bt (k:=i) (by omega)]
  |false=>
   have hm:(els b).contains (els a)[i]=false:=by
    rw[Bool.eq_false_iff];intro h;have:=d1.2 (by simpa using h);cases this
   simp only[Az,hm,Q9,if_true,Ra,cB,j4];simp[-fg,bG,eK hi,hi,c1,hap,Xd,bt (k:=i) (by omega)]
 .intro _;rw[lQ];rw[hb0];clear hf hb0;simp[bG]
theorem Xf(x:Int):∀H,au (call pg) 123 [.p (.int .i64 x)] H=Z (.val (.p (.bool false)),H):=by
 have hf:=rf Ol
 conv at hf=>rhs;reduce
 refine aR (aa:=[_]) hf rfl rfl rfl ?_;clear hf;simp
theorem ahJ(x:Int):∀H,au (call pg) 180 [.p (.int .i64 x)] H=Z (.val (.p (.bool false)),H):=by
 have hf:=rf Vj
 conv at hf=>rhs;reduce
 refine aR (aa:=[_]) hf rfl rfl rfl ?_;clear hf;simp
theorem J6(x y:Int):∀H,au (call pg) 122 [.p (.int .i64 x),.p (.int .i64 y)] H=Z (.val (.p (.bool (decide (x<y)))),H):=by
 have hf:=rf Vi
 conv at hf=>rhs;reduce
 refine aR (aa:=[_,_]) hf rfl rfl rfl ?_;clear hf;simp[ahJ]
def At(l:List Int)(x:Int)(k:Nat):Prop:=k<=O l/\(∀i (h:i<O l),i<k->l[i]<x)/\∀i (h:i<O l),k<=i->x<=l[i]
theorem ahK(l:Sl Int)(x:Int)(hl:O (els l)<4611686018427387904)(hs:dn (els l)):
    ∃k:Nat,At (els l) x k/\∀H,au (call pg) 69 [.p (ax l),.p (.int .i64 x)] H=Z (.val (.ba [.p (.int .i64 ((k:Nat):Int)),.p (.bool (decide (x∈els l)))]),H):=by
 have hs':=C1.1 hs;have key:=dT (c:=call pg) (G:=pg.G) (keep:=[0,1,6,7,8]) (b:=bd mJ 0) (σ:=Nat×Nat) (λs=>[(0,.p (ax l)),(1,.p (.int .i64 x)),(6,.p (.int .i64 ((O (els l):Nat):Int))),(7,.p (.int .i64 ((s.1:Nat):Int))),(8,.p (.int .i64 ((s.2:Nat):Int)))]) (λ_=>⟨[],[]⟩) (λs=>s.2-s.1)
  (λs=>s.1<=s.2/\s.2<=O (els l)/\(∀i (h:i<O (els l)),i<s.1->(els l)[i]<x)/\∀i (h:i<O (els l)),s.2<=i->x<=(els l)[i])
  (λo e H=>H=⟨[],[]⟩/\o= .exit 0/\e.get 0= .p (ax l)/\e.get 1= .p (.int .i64 x)/\e.get 6= .p (.int .i64 ((O (els l):Nat):Int))/\∃k:Nat,e.get 7= .p (.int .i64 ((k:Nat):Int))/\At (els l) x k)
  ?_ (0,O (els l)) ⟨bD _,aK _,λi _ h=>absurd h (CY _),λi h h'=>absurd h (Lg.2 h')⟩
 .obtain⟨o,e,H,hx,rfl,rfl,g0,g1,g6,k,g7,hk⟩:=bC key;refine⟨k,hk,?_⟩;obtain⟨eM,p1,p2⟩:=hk;simp at hx;have hb0:=rf (bd mJ 0)
  conv at hb0=>rhs;reduce
  have hf:=rf mJ
  conv at hf=>rhs;reduce
  rw[<-hb0] at hf;by_cases hlt:k<O (els l)
  .by_cases hq:(els l)[k]=x
   .have hm:x∈els l:=hq▸dw hlt;refine aR (aa:=[_,_]) hf rfl rfl rfl ?_;clear hf hb0;simp[bG,hx,g0,g1,g6,g7,hlt,eK hlt,hq,hm]
   .have hm:¬x∈els l:=λhm=>by
     obtain⟨i,hi,rfl⟩:=ya hm;rcases Gf i k with h |h |h
     .have:=p1 i hi h;omega
     .subst h;exact hq rfl
     .have:=p2 k hlt (aK _);have:=hs' k i hlt hi h;omega
    refine aR (aa:=[_,_]) hf rfl rfl rfl ?_;clear hf hb0;simp[bG,hx,g0,g1,g6,g7,hlt,eK hlt,hq,hm,Xf]
  .have hm:¬x∈els l:=λhm=>by
    obtain⟨i,hi,rfl⟩:=ya hm;have:=p1 i hi (by omega);omega
   refine aR (aa:=[_,_]) hf rfl rfl rfl ?_;clear hf hb0;simp[bG,hx,g6,g7,hlt,hm]
 .rintro⟨lo,hi⟩ ⟨h1,h2,h3,h4⟩;dsimp only at h1 h2 h3 h4|-;by_cases hlt:lo<hi
  .have hm:(lo+hi)/2<O (els l):=by omega
   have c1:IntKind.i64.wrap ((lo:Int)+(hi:Int))=((lo+hi:Nat):Int):=by rw[wrap64 (by omega) (by omega)];simp
   have c0:IntKind.u64.wrap ((lo+hi:Nat):Int)=((lo+hi:Nat):Int):=by
    simp[IntKind.wrap,IntKind.bits,IntKind.signed];omega
   have c2:lR .shr .u64 ((lo+hi:Nat):Int) 1=Z (.int .u64 (((lo+hi)/2 :Nat):Int)):=by
    have :(((lo+hi:Nat):Int)).fdiv 2=(((lo+hi)/2 :Nat):Int):=by
     rw[aoN _ (by omega)];omega
    simp only[lR,IntKind.bits];rw[if_neg (by omega)];exact congrArg (λz=>Z (PD.int .u64 z)) this
   have c4:IntKind.i64.wrap (((lo+hi)/2 :Nat):Int)=(((lo+hi)/2 :Nat):Int):=wrap64 (by omega) (by omega);have c3:=bt (k:=(lo+hi)/2) (by omega);have aS:=eK hm;by_cases hc:(els l)[(lo+hi)/2]<x
   .refine aG (Q:=λo e H=>nx [0,1,6,7,8] [(0,.p (ax l)),(1,.p (.int .i64 x)),(6,.p (.int .i64 ((O (els l):Nat):Int))),(7,.p (.int .i64 (((lo+hi)/2+1 :Nat):Int))),(8,.p (.int .i64 ((hi:Nat):Int)))] ⟨[],[]⟩ o e H) ?_ λo e H hh=>.inl ⟨((lo+hi)/2+1,hi),⟨by dsimp only;omega,h2,λi h h'=>?_,h4⟩,by dsimp only;omega,hh⟩
    .have hd:decide ((els l)[(lo+hi)/2]<x)=true:=decide_eq_true hc;have c5:=J6 (els l)[(lo+hi)/2] x;rw[hd] at c5
     conv in bd mJ 0=>reduce
     generalize (els l)[(lo+hi)/2]=y at *;generalize (((lo+hi)/2+1 :Nat):Int)=m1 at *;generalize (((lo+hi)/2 :Nat):Int)=m at *;generalize ((lo+hi:Nat):Int)=m2 at *;simp[hlt,c0,c1,c2,c3,c4,c5,aS]
    .dsimp only at h';rcases fA i ((lo+hi)/2) with mM |mM
     .have:=hs' i _ h hm mM;omega
     .have :i=(lo+hi)/2:=by omega
      subst this;exact hc
   .refine aG (Q:=λo e H=>nx [0,1,6,7,8] [(0,.p (ax l)),(1,.p (.int .i64 x)),(6,.p (.int .i64 ((O (els l):Nat):Int))),(7,.p (.int .i64 ((lo:Nat):Int))),(8,.p (.int .i64 (((lo+hi)/2 :Nat):Int)))] ⟨[],[]⟩ o e H) ?_ λo e H hh=>.inl ⟨(lo,(lo+hi)/2),⟨by dsimp only;omega,by dsimp only;omega,h3,λi h h'=>?_⟩,by dsimp only;omega,hh⟩
    .have hd:decide ((els l)[(lo+hi)/2]<x)=false:=decide_eq_false hc;have c5:=J6 (els l)[(lo+hi)/2] x;rw[hd] at c5
     conv in bd mJ 0=>reduce
     generalize (els l)[(lo+hi)/2]=y at *;generalize (((lo+hi)/2+1 :Nat):Int)=m1 at *;generalize (((lo+hi)/2 :Nat):Int)=m at *;generalize ((lo+hi:Nat):Int)=m2 at *;simp[hlt,c0,c1,c2,c4,c5,aS]
    .dsimp only at h';rcases fA ((lo+hi)/2) i with mM |mM
     .have:=hs' _ i hm h mM;omega
     .have :i=(lo+hi)/2:=by omega
      subst this;omega
  .have :lo=hi:=by omega
   subst this;refine aG (Q:=λo e H=>o= .exit 0/\H=⟨[],[]⟩/\e.get 0= .p (ax l)/\e.get 1= .p (.int .i64 x)/\e.get 6= .p (.int .i64 ((O (els l):Nat):Int))/\e.get 7= .p (.int .i64 ((lo:Nat):Int))) ?_ λo e H hh=>.inr ?_
   .skip
    conv in bd mJ 0=>reduce
    simp
   .obtain⟨rfl,rfl,q1,q2,q3,q4⟩:=hh;exact⟨by simp,rfl,rfl,q1,q2,q3,lo,q4,h2,h3,h4⟩
structure Bt where
 l:List Bool
 h:O l=64
def Bt.g(b:Bt)(k:Nat):Bool:=b.l.getD k false
def Bt.s(b:Bt)(k:Nat)(v:Bool):Bt:=⟨b.l.set k v,by rw[Ge];exact b.h⟩
def Bt.e:Bt:=⟨dX 64 false,by simp⟩
def ah(a:Int)(b:Bt):List PD:=.int .i64 a::b.l.map PD.bool
noncomputable def cy:List PD:=.int .i64 0::(dX 64 false).map PD.bool
noncomputable def z66:List PD:=.str []:: .int .i64 0::(dX 64 false).map PD.bool
theorem b9:cy=ah 0 Bt.e:=rfl
@[simp] theorem ark(a:Int)(b:Bt):O (ah a b)=65:=by simp[ah,b.h]
@[simp] theorem arl(a:Int)(b:Bt):(ah a b)[0]? =Z (.int .i64 a):=rfl
@[simp] theorem arn(a:Int)(b:Bt)(h:0<O (ah a b)):(ah a b)[0]'h= .int .i64 a:=rfl
variable{b:Bt}
theorem tL{k:Nat}(h:k<64):(ah a b)[1+k]? =Z (.bool (b.g k)):=by
 rw[CT];simp only[ah,vY,cG,Bt.g,im];rw[aD (by rw[b.h];exact h)];rfl
theorem dC(a:Int)(b:Bt):rE 65 ((ah a b).map D.p)=(ah a b).map D.p:=fK (by simp)
theorem sD(a:Int)(b:Bt):rE 65 (ah a b)=ah a b:=fK (by simp)
theorem cn(a c:Int)(b d:Bt):aw ((ah a b).map D.p) 0 ((ah c d).map D.p)=(ah c d).map D.p:=by
 unfold aw;rw[tY,fF,Rc (by simp),iQ]
theorem B4{k:Nat}{v:Bool}(h:k<64):aw ((ah a b).map D.p) (1+k) [.p (.bool v)]=(ah a (b.s k v)).map D.p:=by
 unfold aw;refine lO λi=>?_;rw[CT 1 k];have hl:O b.l=64:=b.h;rcases i with _ |i
 .simp[ah]
 .simp only[ah,cB,aoO,jo,vY,AA,List.drop_succ_cons,Bt.s,pO];rcases Gf i k with hi |hi |hi
  .rw[j2,aT (by simp[hl];omega),kX hi,cG,cG,bp (by omega)]
  .subst hi;rw[j2,cR (by simp[hl];omega)];have :i-O (rE i (xW (D.p∘PD.bool) b.l))=0:=by simp[hl];omega
   rw[this,cG,eA (by omega)];rfl
  .rw[cR (by simp[hl];omega),lN,cG,cG,bp (by omega)];have :k+1+(i-O (rE k (xW (D.p∘PD.bool) b.l)++[D.p (PD.bool v)]))=i:=by simp[hl];omega
   rw[this]
theorem Pl(a:Int)(b:Bt):∀x∈ah a b,x.one=true:=by
 intro x hx;simp only[ah,cq,cA] at hx;rcases hx with rfl |⟨y,-,rfl⟩<;>rfl
theorem bY(a:Int)(b:Bt):(∀x∈ah a b,x.one=true)=True:=eq_true (Pl a b)
theorem ahL(a:Int)(b:Bt):((ah a b).map D.p).all D.one=true:=by
 rw[gV];intro x hx;obtain⟨y,hy,rfl⟩:=cA.1 hx;exact Pl a b y hy
theorem xu(a c:Int)(b:Bt):aF ((ah c b).map D.p) [(0,1,.p (.int .i64 a))]=Z ((ah a b).map D.p):=by
 simp[aF,ah,aw,E5]
theorem jG(l:List D):aF l []=Z l:=rfl
theorem aro(a:Int):aF [.p (.int .i64 0),.p (.int .i64 0)] [(0,1,.p (.int .i64 a))]=Z [.p (.int .i64 a),.p (.int .i64 0)]:=rfl
theorem oB(a b:Int):aF [.p (.int .i64 0),.p (.int .i64 0)] [(0,1,.p (.int .i64 a)),(1,1,.p (.int .i64 b))]=Z [.p (.int .i64 a),.p (.int .i64 b)]:=rfl
theorem eP(x y a b:D):aw [x,y] 0 [a,b]=[a,b]:=rfl
theorem tM(a b c d e f g h:D):aw [a,b,c,d,e,f,g] 6 [h]=[a,b,c,d,e,f,h]:=rfl
abbrev gF(a:Int)(b:Bt):PD:=.agg (ah a b)
theorem J7(k:Int):∃n:Nat,(∀H,au (call pg) 373 [.p (.int .i64 k)] H=Z (.val (.p (.int .i64 ((n:Nat):Int))),H))/\1<=n/\n<=64/\(1<=k->4<=n)/\(n=1\/n=4\/n=16\/n=64):=by
 have hf:=rf Vv
 conv at hf=>rhs;reduce
 by_cases h1:k<1
 .refine⟨1,aR (aa:=[_]) hf rfl rfl rfl ?_,by omega⟩;clear hf;simp[h1]
 .by_cases h2:k=1
  .refine⟨4,aR (aa:=[_]) hf rfl rfl rfl ?_,by omega⟩;clear hf;simp[h2]
  .by_cases h3:k=2
   .refine⟨16,aR (aa:=[_]) hf rfl rfl rfl ?_,by omega⟩;clear hf;simp[h3]
   .refine⟨64,aR (aa:=[_]) hf rfl rfl rfl ?_,by omega⟩;clear hf;simp[h1,h2,h3]
theorem B5(a c:Int)(b d:Bt):∃r:Bt,∀H,au (call pg) 325 [.p (gF a b),.p (gF c d)] H=Z (.val (.p (gF a r)),H):=by
 have key:=dT (c:=call pg) (G:=pg.G) (keep:=[2,3,4,5]) (b:=bd EC 0) (σ:=Nat×Bt) (λs=>[(2,.box 0 0),(3,.box 1 0),(4,.box 2 0),(5,.p (.int .i64 ((s.1:Nat):Int)))]) (λs=>⟨[(ah a s.2).map D.p,(ah c d).map D.p,(ah 0 Bt.e).map D.p],[]⟩) (λs=>64-s.1) (λs=>s.1<=64)
  (λo e H=>o= .exit 0/\e.get 2= .box 0 0/\e.get 4= .box 2 0/\∃r,H=⟨[(ah a r).map D.p,(ah c d).map D.p,(ah 0 Bt.e).map D.p],[]⟩)
  (by
   rintro⟨i,x⟩ hi;dsimp only at hi|-
   conv in bd EC 0=>reduce
   by_cases h:i<64
   .have h1:(i:Int)<64:=by omega
    have h2:1+i<=64:=by omega
    have g1:=tL (a:=a) (b:=x) h;have g2:=tL (a:=c) (b:=d) h;have g3:=λv=>B4 (a:=a) (b:=x) (v:=v) h;have k1:=bt (k:=i) (by omega);refine aG (Q:=nx [2,3,4,5] [(2,.box 0 0),(3,.box 1 0),(4,.box 2 0),(5,.p (.int .i64 ((i+1 :Nat):Int)))] ⟨[(ah a (x.s i (x.g i||d.g i))).map D.p,(ah c d).map D.p,(ah 0 Bt.e).map D.p],[]⟩) ?_ λo e H hh=>.inl ⟨(i+1,_),by dsimp only;omega,by dsimp only;omega,hh⟩;cases hx:x.g i with
    |true=>
     rw[hx] at g1;simp[-aw,jT,h1,h2,g1,g3,k1]
    |false=>
     rw[hx] at g1;simp[-aw,jT,h1,h2,g1,g2,g3,k1]
   .have :i=64:=by omega
    subst this;refine aG (Q:=λo e H=>o= .exit 0/\e.get 2= .box 0 0/\e.get 4= .box 2 0/\H=⟨[(ah a x).map D.p,(ah c d).map D.p,(ah 0 Bt.e).map D.p],[]⟩) ?_ ?_
    .simp
    .rintro o e H ⟨rfl,q1,q2,rfl⟩;exact .inr ⟨by simp,rfl,q1,q2,x,rfl⟩) (0,b) (bD _)
 obtain⟨o,e,H,hx,rfl,q1,q2,r,rfl⟩:=bC key;simp only[gH] at hx;have hb0:=rf (bd EC 0)
 conv at hb0=>rhs;reduce
 have hf:=rf EC
 conv at hf=>rhs;reduce
 rw[<-hb0] at hf;have az:cy=cy:=rfl
 conv at az=>rhs;reduce
 try rw[<-az] at hf
 try rw[<-az] at hb0
 clear az;refine⟨r,aR (aa:=[_,_]) hf rfl rfl rfl ?_⟩;clear hf hb0;simp[-aw,b9,hx,q1,q2,dC,cn,cP,bY]
theorem ahM(a c:Int)(b d:Bt):∃r:Bt,∀H,au (call pg) 326 [.p (gF a b),.p (gF c d)] H=Z (.val (.p (gF a r)),H):=by
 have key:=dT (c:=call pg) (G:=pg.G) (keep:=[2,3,4,5]) (b:=bd ED 0) (σ:=Nat×Bt) (λs=>[(2,.box 0 0),(3,.box 1 0),(4,.box 2 0),(5,.p (.int .i64 ((s.1:Nat):Int)))]) (λs=>⟨[(ah a s.2).map D.p,(ah c d).map D.p,(ah 0 Bt.e).map D.p],[]⟩) (λs=>64-s.1) (λs=>s.1<=64)
  (λo e H=>o= .exit 0/\e.get 2= .box 0 0/\e.get 4= .box 2 0/\∃r,H=⟨[(ah a r).map D.p,(ah c d).map D.p,(ah 0 Bt.e).map D.p],[]⟩)
  (by
   rintro⟨i,x⟩ hi;dsimp only at hi|-
   conv in bd ED 0=>reduce
   by_cases h:i<64
   .have h1:(i:Int)<64:=by omega
    have h2:1+i<=64:=by omega
    have g1:=tL (a:=a) (b:=x) h;have g2:=tL (a:=c) (b:=d) h;have g3:=λv=>B4 (a:=a) (b:=x) (v:=v) h;have k1:=bt (k:=i) (by omega);refine aG (Q:=nx [2,3,4,5] [(2,.box 0 0),(3,.box 1 0),(4,.box 2 0),(5,.p (.int .i64 ((i+1 :Nat):Int)))] ⟨[(ah a (x.s i (x.g i&&d.g i))).map D.p,(ah c d).map D.p,(ah 0 Bt.e).map D.p],[]⟩) ?_ λo e H hh=>.inl ⟨(i+1,_),by dsimp only;omega,by dsimp only;omega,hh⟩;cases hx:x.g i with
    |true=>
     rw[hx] at g1;simp[-aw,jT,h1,h2,g1,g2,g3,k1]
    |false=>
     rw[hx] at g1;simp[-aw,jT,h1,h2,g1,g3,k1]
   .have :i=64:=by omega
    subst this;refine aG (Q:=λo e H=>o= .exit 0/\e.get 2= .box 0 0/\e.get 4= .box 2 0/\H=⟨[(ah a x).map D.p,(ah c d).map D.p,(ah 0 Bt.e).map D.p],[]⟩) ?_ ?_
    .simp
    .rintro o e H ⟨rfl,q1,q2,rfl⟩;exact .inr ⟨by simp,rfl,q1,q2,x,rfl⟩) (0,b) (bD _)
 obtain⟨o,e,H,hx,rfl,q1,q2,r,rfl⟩:=bC key;simp only[gH] at hx;have hb0:=rf (bd ED 0)
 conv at hb0=>rhs;reduce
 have hf:=rf ED
 conv at hf=>rhs;reduce
 rw[<-hb0] at hf;have az:cy=cy:=rfl
 conv at az=>rhs;reduce
 try rw[<-az] at hf
 try rw[<-az] at hb0
 clear az;refine⟨r,aR (aa:=[_,_]) hf rfl rfl rfl ?_⟩;clear hf hb0;simp[-aw,b9,hx,q1,q2,dC,cn,cP,bY]
structure J8 (d:D) (n:Nat):Prop where
 len:dF 1 d=Z n
 ia:∀k,k<n->∃v,dE Y 1 d (k:Int)=Z (.ro [.int .i64 v] 0)
 rf:d.refs=[]
 tk:d.bk=[]
 rn:∀f g,d.ren f g=Z d
theorem ahN(s:Sl Int):J8 (.p (ax s)) (O (els s)):=⟨bG s,λ_ h=>⟨_,eK h⟩,rfl,rfl,λ_ _=>rfl⟩
theorem Pn(a:Int):J8 (.cC 3 1 [.int .i64 a]) 1:=⟨rfl,λk h=>⟨a,by
 have :k=0:=by omega
 subst this;exact IG (es:=[PD.int .i64 a]) (k:=0) h⟩,rfl,rfl,λ_ _=>rfl⟩
theorem Xg(a b:Int):J8 (.cC 3 1 [.int .i64 a,.int .i64 b]) 2:=⟨rfl,λk h=>by
 have hk:k=0\/k=1:=by omega
 rcases hk with rfl |rfl
 .exact⟨a,IG (es:=[PD.int .i64 a,.int .i64 b]) (k:=0) h⟩
 .exact⟨b,IG (es:=[PD.int .i64 a,.int .i64 b]) (k:=1) h⟩,rfl,rfl,λ_ _=>rfl⟩
theorem B6{d:D}{n:Nat}(hd:J8 d n)(hn:n<4611686018427387904):∃r:Bt,∀H,au (call pg) 243 [d] H=Z (.val (.p (gF n r)),H):=by
 have key:=dT (c:=call pg) (G:=pg.G) (keep:=[0,2,3,4,5]) (b:=bd EA 0) (σ:=Nat×Int) (λs=>[(0,d),(2,.box 0 0),(3,.box 1 0),(4,.p (.int .i64 s.2)),(5,.p (.int .i64 ((s.1:Nat):Int)))]) (λ_=>⟨[(ah 0 Bt.e).map D.p,(ah n Bt.e).map D.p],[]⟩) (λs=>n-s.1) (λs=>s.1<=n)
  (λo e H=>H=⟨[(ah 0 Bt.e).map D.p,(ah n Bt.e).map D.p],[]⟩/\o= .exit 0/\e.get 2= .box 0 0/\e.get 3= .box 1 0/\∃x:Int,e.get 4= .p (.int .i64 x))
  (by
   rintro⟨i,x⟩ hi;dsimp only at hi|-
   conv in bd EA 0=>reduce
   by_cases h:i<n
   .obtain⟨v,hv⟩:=hd.ia i h;have hl:=hd.len;have k1:=bt (k:=i) (by omega);refine aG (Q:=nx [0,2,3,4,5] [(0,d),(2,.box 0 0),(3,.box 1 0),(4,.p (.int .i64 (IntKind.i64.wrap (IntKind.i64.wrap (4*x)+v)))),(5,.p (.int .i64 ((i+1 :Nat):Int)))] ⟨[(ah 0 Bt.e).map D.p,(ah n Bt.e).map D.p],[]⟩) ?_ λo e H hh=>.inl ⟨(i+1,_),by dsimp only;omega,by dsimp only;omega,hh⟩;simp[-aw,-aF,hl,hv,h,k1]
   .have :i=n:=by omega
    subst this;have hl:=hd.len;refine aG (Q:=λo e H=>o= .exit 0/\H=⟨[(ah 0 Bt.e).map D.p,(ah i Bt.e).map D.p],[]⟩/\e.get 2= .box 0 0/\e.get 3= .box 1 0/\e.get 4= .p (.int .i64 x)) ?_ ?_
    .simp[-aw,-aF,hl]
    .rintro o e H ⟨rfl,rfl,q1,q2,q3⟩;exact .inr ⟨by simp,rfl,rfl,q1,q2,x,q3⟩) (0,0) (bD _)
 obtain⟨o,e,H,hx,rfl,rfl,q1,q2,x,q3⟩:=bC key;simp only[gH] at hx;have hl:=hd.len;have hr:D.ai [d]=[]:=by simp[D.ai,hd.rf]
 have ht:D.aC [d]=[]:=by simp[D.aC,hd.tk]
 have cE:D.aZ (idx []) (idx []) [d]=Z [d]:=by simp[D.aZ,hd.rn]
 have hb0:=rf (bd EA 0)
 conv at hb0=>rhs;reduce
 have hf:=rf EA
 conv at hf=>rhs;reduce
 rw[<-hb0] at hf;have az:cy=cy:=rfl
 conv at az=>rhs;reduce
 try rw[<-az] at hf
 try rw[<-az] at hb0
 clear az;by_cases hx2:0<=x/\x<64
 .obtain⟨k,rfl⟩:∃k:Nat,x=(k:Int):=⟨x.toNat,by omega⟩;have hk:k<64:=by omega
  have h2:1+k<=64:=by omega
  have h3:(k:Int)<64:=by omega
  have g3:=λv=>B4 (a:=n) (b:=Bt.e) (v:=v) hk;refine⟨Bt.s Bt.e k true,zQ hf rfl rfl rfl hr ht cE ?_⟩;clear hf hb0;simp[-aw,-aF,b9,dC,cn,cP,bY,xu,jT,hl,hx,q1,q2,q3,h2,h3,g3]
 .refine⟨Bt.e,zQ hf rfl rfl rfl hr ht cE ?_⟩;clear hf hb0;by_cases hx3:0<=x
  .have hx4:¬x<64:=by omega
   simp[-aw,-aF,b9,dC,cn,cP,bY,xu,hl,hx,q1,q2,q3,hx3,hx4]
  .simp[-aw,-aF,b9,dC,cn,cP,bY,xu,hl,hx,q1,q2,q3,hx3]
theorem ahP(a:Int)(b:Bt):∃r:Bt,∀H,au (call pg) 329 [.p (gF a b)] H=Z (.val (.p (gF 2 r)),H):=by
 have key:=dT (c:=call pg) (G:=pg.G) (keep:=[1,2,3,4]) (b:=bd EE 0) (σ:=Nat×Bt) (λs=>[(1,.box 0 0),(2,.box 1 0),(3,.box 2 0),(4,.p (.int .i64 ((s.1:Nat):Int)))]) (λs=>⟨[(ah a b).map D.p,(ah 0 Bt.e).map D.p,(ah 2 s.2).map D.p],[]⟩) (λs=>16-s.1) (λs=>s.1<=16)
  (λo e H=>o= .exit 0/\e.get 2= .box 1 0/\e.get 3= .box 2 0/\∃r,H=⟨[(ah a b).map D.p,(ah 0 Bt.e).map D.p,(ah 2 r).map D.p],[]⟩)
  (by
   rintro⟨i,x⟩ hi;dsimp only at hi|-
   conv in bd EE 0=>reduce
   by_cases h:i<16
   .have h1:(i:Int)<16:=by omega
    have h2:(i:Int)<64:=by omega
    have hk:i%4*4+i/4<64:=by omega
    have h3:1+(i%4*4+i/4)<=64:=by omega
    have g1:=tL (a:=a) (b:=b) (k:=i) (by omega);have g3:=λv=>B4 (a:=2) (b:=x) (v:=v) hk;have w1:IntKind.i64.wrap (IntKind.i64.wrap ((i:Int).tmod 4*4)+IntKind.i64.wrap ((i:Int)/4))=((i%4*4+i/4 :Nat):Int):=by
     rw[aab (by omega),wrap64 (n:=(i:Int)%4*4) (by omega) (by omega),wrap64 (n:=(i:Int)/4) (by omega) (by omega),wrap64 (by omega) (by omega)];omega
    have h4:((i%4*4+i/4 :Nat):Int)<64:=by omega
    have h5:(0 :Int)<=((i%4*4+i/4 :Nat):Int):=by omega
    have k1:=bt (k:=i) (by omega);refine aG (Q:=nx [1,2,3,4] [(1,.box 0 0),(2,.box 1 0),(3,.box 2 0),(4,.p (.int .i64 ((i+1 :Nat):Int)))] ⟨[(ah a b).map D.p,(ah 0 Bt.e).map D.p,(ah 2 (x.s (i%4*4+i/4) (b.g i))).map D.p],[]⟩) ?_ λo e H hh=>.inl ⟨(i+1,_),by dsimp only;omega,by dsimp only;omega,hh⟩;have ht:(((i%4*4+i/4 :Nat):Int)).toNat=i%4*4+i/4:=by omega
    generalize i%4*4+i/4=K at *;generalize ((K:Nat):Int)=KI at *;simp[-aw,-aF,jT,h1,h2,h3,h4,h5,ht,w1,g1,g3,k1]
   .have :i=16:=by omega
    subst this;refine aG (Q:=λo e H=>o= .exit 0/\e.get 2= .box 1 0/\e.get 3= .box 2 0/\H=⟨[(ah a b).map D.p,(ah 0 Bt.e).map D.p,(ah 2 x).map D.p],[]⟩) ?_ ?_
    .simp[-aw,-aF]
    .rintro o e H ⟨rfl,q1,q2,rfl⟩;exact .inr ⟨by simp,rfl,q1,q2,x,rfl⟩) (0,Bt.e) (bD _)
 obtain⟨o,e,H,hx,rfl,q1,q2,r,rfl⟩:=bC key;simp only[gH] at hx;have hb0:=rf (bd EE 0)
 conv at hb0=>rhs;reduce
 have hf:=rf EE
 conv at hf=>rhs;reduce
 rw[<-hb0] at hf;have az:cy=cy:=rfl
 conv at az=>rhs;reduce
 try rw[<-az] at hf
 try rw[<-az] at hb0
 clear az;refine⟨r,aR (aa:=[_]) hf rfl rfl rfl ?_⟩;clear hf hb0;simp[-aw,-aF,b9,dC,cn,cP,bY,xu,hx,q1,q2]
theorem Xh(a b:Nat):(a:Int).tmod (b:Int)=((a%b:Nat):Int):=by
 rw[aab (by omega)];rfl
theorem ahQ(a c:Int)(b d:Bt):∃r:Bt,∀H,au (call pg) 328 [.p (gF a b),.p (gF c d)] H=Z (.val (.p (gF (IntKind.i64.wrap (a+c)) r)),H):=by
 obtain⟨n,sn,n1,n2,-,-⟩:=J7 c;obtain⟨m,sm,m1,m2,-,-⟩:=J7 a;generalize Po:IntKind.i64.wrap (a+c)=ac at *;have inner:=fun(i:Nat) (hi:i<64) (y:Bt)=>dT (c:=call pg) (G:=pg.G) (keep:=[2,3,4,5,6,7,8]) (b:=bd sw 1) (σ:=Nat×Bt) (λs=>[(2,.box 0 0),(3,.box 1 0),(4,.box 2 0),(5,.box 3 0),(6,.p (.int .i64 ((n:Nat):Int))),(7,.p (.int .i64 ((i:Nat):Int))),(8,.p (.int .i64 ((s.1:Nat):Int)))]) (λs=>⟨[(ah a b).map D.p,(ah c d).map D.p,(ah 0 Bt.e).map D.p,(ah ac s.2).map D.p],[]⟩) (λs=>n-s.1) (λs=>s.1<=n)
  (λo e H=>o= .exit 2/\e.get 2= .box 0 0/\e.get 3= .box 1 0/\e.get 4= .box 2 0/\e.get 5= .box 3 0/\e.get 6= .p (.int .i64 ((n:Nat):Int))/\e.get 7= .p (.int .i64 ((i:Nat):Int))/\∃r,H=⟨[(ah a b).map D.p,(ah c d).map D.p,(ah 0 Bt.e).map D.p,(ah ac r).map D.p],[]⟩)
  (by
   rintro⟨k,x⟩ hk;dsimp only at hk|-
   conv in bd sw 1=>reduce
   by_cases h:k<n
   .have h1:(k:Int)<64:=by omega
    have h2:(i:Int)<64:=by omega
    have g1:=tL (a:=a) (b:=b) hi;have g2:=tL (a:=c) (b:=d) (k:=k) (by omega);have cU:i*n<=64*64:=ud (by omega) n2;have w1:IntKind.i64.wrap (IntKind.i64.wrap ((i:Int)*(n:Int))+(k:Int))=((i*n+k:Nat):Int):=by
     rw[<-Int.natCast_mul,wrap64 (n:=((i*n:Nat):Int)) (by omega) (by omega),wrap64 (by omega) (by omega)];simp
    have k1:=bt (k:=k) (by omega);cases hb:b.g i with
    |false=>
     rw[hb] at g1;refine aG (Q:=nx [2,3,4,5,6,7,8] [(2,.box 0 0),(3,.box 1 0),(4,.box 2 0),(5,.box 3 0),(6,.p (.int .i64 ((n:Nat):Int))),(7,.p (.int .i64 ((i:Nat):Int))),(8,.p (.int .i64 ((k+1 :Nat):Int)))] ⟨[(ah a b).map D.p,(ah c d).map D.p,(ah 0 Bt.e).map D.p,(ah ac x).map D.p],[]⟩) ?_ λo e H hh=>.inl ⟨(k+1,_),by dsimp only;omega,by dsimp only;omega,hh⟩;simp[-aw,-aF,jT,h,h2,g1,k1]
    |true=>
     rw[hb] at g1;cases hd:d.g k with
     |false=>
      rw[hd] at g2;refine aG (Q:=nx [2,3,4,5,6,7,8] [(2,.box 0 0),(3,.box 1 0),(4,.box 2 0),(5,.box 3 0),(6,.p (.int .i64 ((n:Nat):Int))),(7,.p (.int .i64 ((i:Nat):Int))),(8,.p (.int .i64 ((k+1 :Nat):Int)))] ⟨[(ah a b).map D.p,(ah c d).map D.p,(ah 0 Bt.e).map D.p,(ah ac x).map D.p],[]⟩) ?_ λo e H hh=>.inl ⟨(k+1,_),by dsimp only;omega,by dsimp only;omega,hh⟩;simp[-aw,-aF,jT,h,h1,h2,g1,g2,k1]
     |true=>
      rw[hd] at g2;by_cases hK:i*n+k<64
      .have g3:=λv=>B4 (a:=ac) (b:=x) (v:=v) hK;have h3:1+(i*n+k)<=64:=by omega
       have h4:((i*n+k:Nat):Int)<64:=by omega
       have h5:(0 :Int)<=((i*n+k:Nat):Int):=by omega
       have ht:(((i*n+k:Nat):Int)).toNat=i*n+k:=by omega
       refine aG (Q:=nx [2,3,4,5,6,7,8] [(2,.box 0 0),(3,.box 1 0),(4,.box 2 0),(5,.box 3 0),(6,.p (.int .i64 ((n:Nat):Int))),(7,.p (.int .i64 ((i:Nat):Int))),(8,.p (.int .i64 ((k+1 :Nat):Int)))] ⟨[(ah a b).map D.p,(ah c d).map D.p,(ah 0 Bt.e).map D.p,(ah ac (x.s (i*n+k) true)).map D.p],[]⟩) ?_ λo e H hh=>.inl ⟨(k+1,_),by dsimp only;omega,by dsimp only;omega,hh⟩;generalize i*n+k=K at *;generalize ((K:Nat):Int)=KI at *;simp[-aw,-aF,jT,h,h1,h2,h3,h4,h5,ht,w1,g1,g2,g3,k1]
      .have h4:¬((i*n+k:Nat):Int)<64:=by omega
       refine aG (Q:=nx [2,3,4,5,6,7,8] [(2,.box 0 0),(3,.box 1 0),(4,.box 2 0),(5,.box 3 0),(6,.p (.int .i64 ((n:Nat):Int))),(7,.p (.int .i64 ((i:Nat):Int))),(8,.p (.int .i64 ((k+1 :Nat):Int)))] ⟨[(ah a b).map D.p,(ah c d).map D.p,(ah 0 Bt.e).map D.p,(ah ac x).map D.p],[]⟩) ?_ λo e H hh=>.inl ⟨(k+1,_),by dsimp only;omega,by dsimp only;omega,hh⟩;generalize ((i*n+k:Nat):Int)=KI at *;simp[-aw,-aF,jT,h,h1,h2,h4,w1,g1,g2,k1]
   .have :k=n:=by omega
    subst this;refine aG (Q:=λo e H=>o= .exit 2/\e.get 2= .box 0 0/\e.get 3= .box 1 0/\e.get 4= .box 2 0/\e.get 5= .box 3 0/\e.get 6= .p (.int .i64 ((k:Nat):Int))/\e.get 7= .p (.int .i64 ((i:Nat):Int))/\H=⟨[(ah a b).map D.p,(ah c d).map D.p,(ah 0 Bt.e).map D.p,(ah ac x).map D.p],[]⟩) ?_ ?_
    .simp[-aw,-aF]
    .rintro o e H ⟨rfl,q1,q2,q3,q4,q5,q6,rfl⟩;exact .inr ⟨by simp,rfl,q1,q2,q3,q4,q5,q6,x,rfl⟩) (0,y) (bD _)
 have key:=dT (c:=call pg) (G:=pg.G) (keep:=[2,3,4,5,6,7]) (b:=bd sw 0) (σ:=Nat×Bt) (λs=>[(2,.box 0 0),(3,.box 1 0),(4,.box 2 0),(5,.box 3 0),(6,.p (.int .i64 ((n:Nat):Int))),(7,.p (.int .i64 ((s.1:Nat):Int)))]) (λs=>⟨[(ah a b).map D.p,(ah c d).map D.p,(ah 0 Bt.e).map D.p,(ah ac s.2).map D.p],[]⟩) (λs=>m-s.1) (λs=>s.1<=m)
  (λo e H=>o= .exit 0/\e.get 4= .box 2 0/\e.get 5= .box 3 0/\∃r,H=⟨[(ah a b).map D.p,(ah c d).map D.p,(ah 0 Bt.e).map D.p,(ah ac r).map D.p],[]⟩)
  (by
   rintro⟨i,x⟩ hi;dsimp only at hi|-;by_cases h:i<m
   .obtain⟨o,e,H,hx,rfl,q2,q3,q4,q5,q6,q7,r,rfl⟩:=bC (inner i (by omega) x);simp only[gH] at hx;have k1:=bt (k:=i) (by omega);refine aG (Q:=nx [2,3,4,5,6,7] [(2,.box 0 0),(3,.box 1 0),(4,.box 2 0),(5,.box 3 0),(6,.p (.int .i64 ((n:Nat):Int))),(7,.p (.int .i64 ((i+1 :Nat):Int)))] ⟨[(ah a b).map D.p,(ah c d).map D.p,(ah 0 Bt.e).map D.p,(ah ac r).map D.p],[]⟩) ?_ λo e H hh=>.inl ⟨(i+1,r),by dsimp only;omega,by dsimp only;omega,hh⟩;have hb1:=rf (bd sw 1)
    conv at hb1=>rhs;reduce
    have hb0:=rf (bd sw 0)
    conv at hb0=>rhs;reduce
    rw[<-hb1] at hb0;rw[hb0];clear hb0 hb1;simp[-aw,-aF,sm,h,hx,q2,q3,q4,q5,q6,q7,k1]
   .have :i=m:=by omega
    subst this;refine aG (Q:=λo e H=>o= .exit 0/\e.get 4= .box 2 0/\e.get 5= .box 3 0/\H=⟨[(ah a b).map D.p,(ah c d).map D.p,(ah 0 Bt.e).map D.p,(ah ac x).map D.p],[]⟩) ?_ ?_
    .have hb1:=rf (bd sw 1)
     conv at hb1=>rhs;reduce
     have hb0:=rf (bd sw 0)
     conv at hb0=>rhs;reduce
     rw[<-hb1] at hb0;rw[hb0];clear hb0 hb1;simp[-aw,-aF,sm]
    .rintro o e H ⟨rfl,q1,q2,rfl⟩;exact .inr ⟨by simp,rfl,q1,q2,x,rfl⟩) (0,Bt.e) (bD _)
 obtain⟨o,e,H,hx,rfl,q1,q2,r,rfl⟩:=bC key;simp only[gH] at hx;have hb1:=rf (bd sw 1)
 conv at hb1=>rhs;reduce
 have hb0:=rf (bd sw 0)
 conv at hb0=>rhs;reduce
 rw[<-hb1] at hb0;have hf:=rf sw
 conv at hf=>rhs;reduce
 rw[<-hb1] at hf;rw[<-hb0] at hf;have az:cy=cy:=rfl
 conv at az=>rhs;reduce
 try rw[<-az] at hf
 try rw[<-az] at hb0
 try rw[<-az] at hb1
 clear az;refine⟨r,aR (aa:=[_,_]) hf rfl rfl rfl ?_⟩;clear hf hb0 hb1;simp[-aw,-aF,b9,dC,cn,cP,bY,xu,Po,sn,hx,q1,q2]
theorem Xi(a c:Int)(b d:Bt)(hc:1<=c):∃r:Bt,∀H,au (call pg) 327 [.p (gF a b),.p (gF c d)] H=Z (.val (.p (gF (IntKind.i64.wrap (IntKind.i64.wrap (a+c)-2)) r)),H):=by
 obtain⟨n4,sn,n1,n2,n3,n5⟩:=J7 c;have n3:=n3 hc;obtain⟨m,sm,m1,m2,-,-⟩:=J7 a;generalize Po:IntKind.i64.wrap (IntKind.i64.wrap (a+c)-2)=ac at *;obtain⟨n,hn⟩:∃n,n=n4/4:=⟨_,rfl⟩;have ke:1<=n:=by omega
 have kf:n<=16:=by omega
 have inner:=fun(i:Nat) (hi:i<64) (y:Bt)=>dT (c:=call pg) (G:=pg.G) (keep:=[2,3,4,5,6,7,8]) (b:=bd su 1) (σ:=Nat×Bt) (λs=>[(2,.box 0 0),(3,.box 1 0),(4,.box 2 0),(5,.box 3 0),(6,.p (.int .i64 ((n:Nat):Int))),(7,.p (.int .i64 ((i:Nat):Int))),(8,.p (.int .i64 ((s.1:Nat):Int)))]) (λs=>⟨[(ah a b).map D.p,(ah c d).map D.p,(ah 0 Bt.e).map D.p,(ah ac s.2).map D.p],[]⟩) (λs=>n4-s.1) (λs=>s.1<=n4)
  (λo e H=>o= .exit 2/\e.get 2= .box 0 0/\e.get 3= .box 1 0/\e.get 4= .box 2 0/\e.get 5= .box 3 0/\e.get 6= .p (.int .i64 ((n:Nat):Int))/\e.get 7= .p (.int .i64 ((i:Nat):Int))/\∃r,H=⟨[(ah a b).map D.p,(ah c d).map D.p,(ah 0 Bt.e).map D.p,(ah ac r).map D.p],[]⟩)
  (by
   rintro⟨k,x⟩ hk;dsimp only at hk|-
   conv in bd su 1=>reduce
   by_cases h:k<n4
   .have h1:(k:Int)<64:=by omega
    have h2:(i:Int)<64:=by omega
    have h6:¬(n:Int)=0:=by omega
    have h7:¬n=0:=by omega
    have g1:=tL (a:=a) (b:=b) hi;have g2:=tL (a:=c) (b:=d) (k:=k) (by omega);have cU:i/4*n<=64*16:=ud (by omega) kf;have iw:k%n<n:=Nat.mod_lt _ (by omega);have w1:IntKind.i64.wrap (IntKind.i64.wrap (IntKind.i64.wrap ((i:Int)/4)*(n:Int))+(k:Int).tmod (n:Int))=((i/4*n+k%n:Nat):Int):=by
     rw[Xh,wrap64 (n:=(i:Int)/4) (by omega) (by omega),show(i:Int)/4*(n:Int)=((i/4*n:Nat):Int) by simp,wrap64 (n:=((i/4*n:Nat):Int)) (by omega) (by omega),wrap64 (by omega) (by omega)];simp
    have w2:IntKind.i64.wrap ((k:Int)/(n:Int))=((k/n:Nat):Int):=by
     have hle:k/n<=k:=Nat.div_le_self _ _;rw[<-Int.natCast_ediv];generalize k/n=q at *;exact wrap64 (by omega) (by omega)
    have w3:(i:Int).tmod 4=((i%4 :Nat):Int):=Xh i 4;have k1:=bt (k:=k) (by omega);cases hb:b.g i with
    |false=>
     rw[hb] at g1;refine aG (Q:=nx [2,3,4,5,6,7,8] [(2,.box 0 0),(3,.box 1 0),(4,.box 2 0),(5,.box 3 0),(6,.p (.int .i64 ((n:Nat):Int))),(7,.p (.int .i64 ((i:Nat):Int))),(8,.p (.int .i64 ((k+1 :Nat):Int)))] ⟨[(ah a b).map D.p,(ah c d).map D.p,(ah 0 Bt.e).map D.p,(ah ac x).map D.p],[]⟩) ?_ λo e H hh=>.inl ⟨(k+1,_),by dsimp only;omega,by dsimp only;omega,hh⟩;simp[-aw,-aF,jT,h,h2,h7,sn,g1,k1]
    |true=>
     rw[hb] at g1;cases hd:d.g k with
     |false=>
      rw[hd] at g2;refine aG (Q:=nx [2,3,4,5,6,7,8] [(2,.box 0 0),(3,.box 1 0),(4,.box 2 0),(5,.box 3 0),(6,.p (.int .i64 ((n:Nat):Int))),(7,.p (.int .i64 ((i:Nat):Int))),(8,.p (.int .i64 ((k+1 :Nat):Int)))] ⟨[(ah a b).map D.p,(ah c d).map D.p,(ah 0 Bt.e).map D.p,(ah ac x).map D.p],[]⟩) ?_ λo e H hh=>.inl ⟨(k+1,_),by dsimp only;omega,by dsimp only;omega,hh⟩;simp[-aw,-aF,jT,h,h1,h2,h7,sn,g1,g2,k1]
     |true=>
      rw[hd] at g2;by_cases hq:i%4=k/n
      .by_cases hK:i/4*n+k%n<64
       .have g3:=λv=>B4 (a:=ac) (b:=x) (v:=v) hK;have h3:1+(i/4*n+k%n)<=64:=by omega
        have h4:((i/4*n+k%n:Nat):Int)<64:=by omega
        have h5:(0 :Int)<=((i/4*n+k%n:Nat):Int):=by omega
        have ht:(((i/4*n+k%n:Nat):Int)).toNat=i/4*n+k%n:=by omega
        refine aG (Q:=nx [2,3,4,5,6,7,8] [(2,.box 0 0),(3,.box 1 0),(4,.box 2 0),(5,.box 3 0),(6,.p (.int .i64 ((n:Nat):Int))),(7,.p (.int .i64 ((i:Nat):Int))),(8,.p (.int .i64 ((k+1 :Nat):Int)))] ⟨[(ah a b).map D.p,(ah c d).map D.p,(ah 0 Bt.e).map D.p,(ah ac (x.s (i/4*n+k%n) true)).map D.p],[]⟩) ?_ λo e H hh=>.inl ⟨(k+1,_),by dsimp only;omega,by dsimp only;omega,hh⟩;rw[hq] at w3;generalize i/4*n+k%n=K at *;generalize ((K:Nat):Int)=KI at *;generalize ((k/n:Nat):Int)=QI at *;simp[-aw,-aF,jT,h,h1,h2,h3,h4,h5,h7,sn,ht,w1,w2,w3,g1,g2,g3,k1]
       .have h4:¬((i/4*n+k%n:Nat):Int)<64:=by omega
        refine aG (Q:=nx [2,3,4,5,6,7,8] [(2,.box 0 0),(3,.box 1 0),(4,.box 2 0),(5,.box 3 0),(6,.p (.int .i64 ((n:Nat):Int))),(7,.p (.int .i64 ((i:Nat):Int))),(8,.p (.int .i64 ((k+1 :Nat):Int)))] ⟨[(ah a b).map D.p,(ah c d).map D.p,(ah 0 Bt.e).map D.p,(ah ac x).map D.p],[]⟩) ?_ λo e H hh=>.inl ⟨(k+1,_),by dsimp only;omega,by dsimp only;omega,hh⟩;rw[hq] at w3;generalize ((i/4*n+k%n:Nat):Int)=KI at *;generalize ((k/n:Nat):Int)=QI at *;simp[-aw,-aF,jT,h,h1,h2,h4,h7,sn,w1,w2,w3,g1,g2,k1]
      .have hq':¬((i%4 :Nat):Int)=((k/n:Nat):Int):=by omega
       refine aG (Q:=nx [2,3,4,5,6,7,8] [(2,.box 0 0),(3,.box 1 0),(4,.box 2 0),(5,.box 3 0),(6,.p (.int .i64 ((n:Nat):Int))),(7,.p (.int .i64 ((i:Nat):Int))),(8,.p (.int .i64 ((k+1 :Nat):Int)))] ⟨[(ah a b).map D.p,(ah c d).map D.p,(ah 0 Bt.e).map D.p,(ah ac x).map D.p],[]⟩) ?_ λo e H hh=>.inl ⟨(k+1,_),by dsimp only;omega,by dsimp only;omega,hh⟩;generalize ((i/4*n+k%n:Nat):Int)=KI at *;generalize ((k/n:Nat):Int)=QI at *;generalize ((i%4 :Nat):Int)=RI at *;simp[-aw,-aF,jT,h,h1,h2,h7,sn,w1,w2,w3,hq',g1,g2,k1]
   .have :k=n4:=by omega
    subst this;refine aG (Q:=λo e H=>o= .exit 2/\e.get 2= .box 0 0/\e.get 3= .box 1 0/\e.get 4= .box 2 0/\e.get 5= .box 3 0/\e.get 6= .p (.int .i64 ((n:Nat):Int))/\e.get 7= .p (.int .i64 ((i:Nat):Int))/\H=⟨[(ah a b).map D.p,(ah c d).map D.p,(ah 0 Bt.e).map D.p,(ah ac x).map D.p],[]⟩) ?_ ?_
    .simp[-aw,-aF,sn]
    .rintro o e H ⟨rfl,q1,q2,q3,q4,q5,q6,rfl⟩;exact .inr ⟨by simp,rfl,q1,q2,q3,q4,q5,q6,x,rfl⟩) (0,y) (bD _)
 have key:=dT (c:=call pg) (G:=pg.G) (keep:=[2,3,4,5,6,7]) (b:=bd su 0) (σ:=Nat×Bt) (λs=>[(2,.box 0 0),(3,.box 1 0),(4,.box 2 0),(5,.box 3 0),(6,.p (.int .i64 ((n:Nat):Int))),(7,.p (.int .i64 ((s.1:Nat):Int)))]) (λs=>⟨[(ah a b).map D.p,(ah c d).map D.p,(ah 0 Bt.e).map D.p,(ah ac s.2).map D.p],[]⟩) (λs=>m-s.1) (λs=>s.1<=m)
  (λo e H=>o= .exit 0/\e.get 4= .box 2 0/\e.get 5= .box 3 0/\∃r,H=⟨[(ah a b).map D.p,(ah c d).map D.p,(ah 0 Bt.e).map D.p,(ah ac r).map D.p],[]⟩)
  (by
   rintro⟨i,x⟩ hi;dsimp only at hi|-;by_cases h:i<m
   .obtain⟨o,e,H,hx,rfl,q2,q3,q4,q5,q6,q7,r,rfl⟩:=bC (inner i (by omega) x);simp only[gH] at hx;have k1:=bt (k:=i) (by omega);refine aG (Q:=nx [2,3,4,5,6,7] [(2,.box 0 0),(3,.box 1 0),(4,.box 2 0),(5,.box 3 0),(6,.p (.int .i64 ((n:Nat):Int))),(7,.p (.int .i64 ((i+1 :Nat):Int)))] ⟨[(ah a b).map D.p,(ah c d).map D.p,(ah 0 Bt.e).map D.p,(ah ac r).map D.p],[]⟩) ?_ λo e H hh=>.inl ⟨(i+1,r),by dsimp only;omega,by dsimp only;omega,hh⟩;have hb1:=rf (bd su 1)
    conv at hb1=>rhs;reduce
    have hb0:=rf (bd su 0)
    conv at hb0=>rhs;reduce
    rw[<-hb1] at hb0;rw[hb0];clear hb0 hb1;simp[-aw,-aF,sm,h,hx,q2,q3,q4,q5,q6,q7,k1]
   .have :i=m:=by omega
    subst this;refine aG (Q:=λo e H=>o= .exit 0/\e.get 4= .box 2 0/\e.get 5= .box 3 0/\H=⟨[(ah a b).map D.p,(ah c d).map D.p,(ah 0 Bt.e).map D.p,(ah ac x).map D.p],[]⟩) ?_ ?_
    .have hb1:=rf (bd su 1)
     conv at hb1=>rhs;reduce
     have hb0:=rf (bd su 0)
     conv at hb0=>rhs;reduce
     rw[<-hb1] at hb0;rw[hb0];clear hb0 hb1;simp[-aw,-aF,sm]
    .rintro o e H ⟨rfl,q1,q2,rfl⟩;exact .inr ⟨by simp,rfl,q1,q2,x,rfl⟩) (0,Bt.e) (bD _)
 obtain⟨o,e,H,hx,rfl,q1,q2,r,rfl⟩:=bC key;simp only[gH] at hx;have hb1:=rf (bd su 1)
 conv at hb1=>rhs;reduce
 have hb0:=rf (bd su 0)
 conv at hb0=>rhs;reduce
 rw[<-hb1] at hb0;have hf:=rf su
 conv at hf=>rhs;reduce
 rw[<-hb1] at hf;rw[<-hb0] at hf;have az:cy=cy:=rfl
 conv at az=>rhs;reduce
 try rw[<-az] at hf
 try rw[<-az] at hb0
 try rw[<-az] at hb1
 clear az;refine⟨r,aR (aa:=[_,_]) hf rfl rfl rfl ?_⟩;clear hf hb0 hb1;have w4:IntKind.i64.wrap ((n4:Int)/4)=(n:Int):=by rw[wrap64 (by omega) (by omega)];omega
 simp[-aw,-aF,b9,dC,cn,cP,bY,xu,Po,sn,w4,hx,q1,q2]
theorem ahR(op:Int):∃k:UInt8,(∀H,au (call pg) 242 [.p (.int .i64 op)] H=Z (.val (.p (.int .u8 k.toNat)),H))/\(k=101↔1<=op/\op<=15)/\(k=102↔30<=op/\op<=51)/\(k=105↔20<=op/\op<=23):=by
 have hf:=rf Vq
 conv at hf=>rhs;reduce
 by_cases h1:1<=op/\op<=15
 .refine⟨101,aR (aa:=[_]) hf rfl rfl rfl ?_,iff_of_true rfl h1,iff_of_false (by decide) (by omega),iff_of_false (by decide) (by omega)⟩;clear hf;simp[h1.1,h1.2]
 .by_cases h2:20<=op/\op<=23
  .refine⟨105,aR (aa:=[_]) hf rfl rfl rfl ?_,iff_of_false (by decide) h1,iff_of_false (by decide) (by omega),iff_of_true rfl h2⟩;clear hf;have g1:1<=op:=by omega
   have g2:¬op<=15:=by omega
   simp[g1,g2,h2.1,h2.2]
  .by_cases h3:30<=op/\op<=51
   .refine⟨102,aR (aa:=[_]) hf rfl rfl rfl ?_,iff_of_false (by decide) h1,iff_of_true rfl h3,iff_of_false (by decide) h2⟩;clear hf;have g1:1<=op:=by omega
    have g2:¬op<=15:=by omega
    have g3:20<=op:=by omega
    have g4:¬op<=23:=by omega
    simp[g1,g2,g3,g4,h3.1,h3.2]
   .refine⟨0,aR (aa:=[_]) hf rfl rfl rfl ?_,iff_of_false (by decide) h1,iff_of_false (by decide) h3,iff_of_false (by decide) h2⟩;clear hf;by_cases g1:1<=op
    .have g2:¬op<=15:=by omega
     by_cases g3:20<=op
     .have g4:¬op<=23:=by omega
      by_cases g5:30<=op
      .have g6:¬op<=51:=by omega
       simp[g1,g2,g3,g4,g5,g6]
      .simp[g1,g2,g3,g4,g5]
     .have g5:¬30<=op:=by omega
      simp[g1,g2,g3,g5]
    .have g3:¬20<=op:=by omega
     have g5:¬30<=op:=by omega
     simp[g1,g3,g5]
def xv(op:Int)(n:Nat)(w:List UInt8):Prop:=
 (op∈[1,2,3,4,20,30,31]/\w=[])\/(op∈[5,11,12,13,21,34,35,36,37]/\w=[101])\/(op∈[6,7,8,9,10,14,32,33]/\w=[101,101])\/(op∈[15,45,46]/\w=[101,102])\/
 (op∈[22,23,38,39]/\w=[105,105])\/(op∈[40,48,49,50]/\w=[102])\/(op∈[41,42,43,44,51]/\w=[102,102])\/(op=47/\w=dX (min n 401) 101)
theorem ahS(op:Int)(n:Nat)(hn:n<4611686018427387904):∃w b,(∀H,au (call pg) 241 [.p (.int .i64 op),.p (.int .i64 ((n:Nat):Int))] H=Z (.val (.ba [.p (.str w),.p (.bool b)]),H))/\(b=true->xv op n w):=by
 have hb0:=rf (bd Je 0)
 conv at hb0=>rhs;reduce
 have hf:=rf Je
 conv at hf=>rhs;reduce
 rw[<-hb0] at hf;by_cases h1:op∈[1,2,3,4,20,30,31]
 .refine⟨[],true,aR (aa:=[_,_]) hf rfl rfl rfl ?_,λ_=>.inl ⟨h1,rfl⟩⟩;clear hf hb0;simp at h1;rcases h1 with rfl |rfl |rfl |rfl |rfl |rfl |rfl<;>simp
 .by_cases h2:op∈[5,11,12,13,21,34,35,36,37]
  .refine⟨[101],true,aR (aa:=[_,_]) hf rfl rfl rfl ?_,λ_=>.inr (.inl ⟨h2,rfl⟩)⟩;clear hf hb0;clear h1;simp at h2;rcases h2 with rfl |rfl |rfl |rfl |rfl |rfl |rfl |rfl |rfl<;>simp
  .by_cases h3:op∈[6,7,8,9,10,14,32,33]
   .refine⟨[101,101],true,aR (aa:=[_,_]) hf rfl rfl rfl ?_,λ_=>.inr (.inr (.inl ⟨h3,rfl⟩))⟩;clear hf hb0;clear h1 h2;simp at h3;rcases h3 with rfl |rfl |rfl |rfl |rfl |rfl |rfl |rfl<;>simp
   .by_cases h4:op∈[15,45,46]
    .refine⟨[101,102],true,aR (aa:=[_,_]) hf rfl rfl rfl ?_,λ_=>.inr (.inr (.inr (.inl ⟨h4,rfl⟩)))⟩;clear hf hb0;clear h1 h2 h3;simp at h4;rcases h4 with rfl |rfl |rfl<;>simp
    .by_cases h5:op∈[22,23,38,39]
     .refine⟨[105,105],true,aR (aa:=[_,_]) hf rfl rfl rfl ?_,λ_=>.inr (.inr (.inr (.inr (.inl ⟨h5,rfl⟩))))⟩;clear hf hb0;clear h1 h2 h3 h4;simp at h5;rcases h5 with rfl |rfl |rfl |rfl<;>simp
     .by_cases h6:op∈[40,48,49,50]
      .refine⟨[102],true,aR (aa:=[_,_]) hf rfl rfl rfl ?_,λ_=>.inr (.inr (.inr (.inr (.inr (.inl ⟨h6,rfl⟩)))))⟩;clear hf hb0;clear h1 h2 h3 h4 h5;simp at h6;rcases h6 with rfl |rfl |rfl |rfl<;>simp
      .by_cases h7:op∈[41,42,43,44,51]
       .refine⟨[102,102],true,aR (aa:=[_,_]) hf rfl rfl rfl ?_,λ_=>.inr (.inr (.inr (.inr (.inr (.inr (.inl ⟨h7,rfl⟩))))))⟩;clear hf hb0;clear h1 h2 h3 h4 h5 h6;simp at h7;rcases h7 with rfl |rfl |rfl |rfl |rfl<;>simp
       .by_cases h8:op=47
        .subst h8;have key:=lI (c:=call pg) (G:=pg.G) (keep:=[1,6,7]) (b:=bd Je 0) (λi=>[(1,.p (.int .i64 ((n:Nat):Int))),(6,.p (.str (dX i 101))),(7,.p (.int .i64 ((i:Nat):Int)))]) (λ_=>⟨[],[]⟩) (min n 401) (λ_=>True)
          (λo e H=>o= .exit 1/\e.get 6= .p (.str (dX (min n 401) 101))) trivial ?_ ?_
         .obtain⟨o,e,H,hx,rfl,h6⟩:=bC key;refine⟨dX (min n 401) 101,true,aR (aa:=[_,_]) hf rfl rfl rfl ?_,λ_=>.inr (.inr (.inr (.inr (.inr (.inr (.inr ⟨rfl,rfl⟩))))))⟩;clear hf hb0;generalize dX (min n 401) (101 :UInt8)=L at *;simp at hx;simp[hx,h6]
         .intro i hi _;rw[hb0];clear hf hb0;have g1:(i:Int)<(n:Int):=by omega
          have g2:(i:Int)<401:=by omega
          have g3:i<n:=by omega
          have g4:i<=140737488355327:=by omega
          simp[g1,g2,g4,aac,bt (k:=i) (by omega)]
         .intro _;rw[hb0];clear hf hb0;generalize hL:dX (min n 401) (101 :UInt8)=L at *;by_cases g:n<401
          .rw[x9 (by omega)];simp
          .rw[aoP (by omega)];by_cases g2:401<n
           .have g3:(401 :Int)<(n:Int):=by omega
            simp[g3]
           .have g3:¬(401 :Int)<(n:Int):=by omega
            simp[g3]
        .refine⟨[],false,aR (aa:=[_,_]) hf rfl rfl rfl ?_,λh=>by cases h⟩;clear hf hb0;simp only[cq,iC,or_false,not_or] at h1 h2 h3 h4 h5 h6 h7;simp[h1,h2,h3,h4,h5,h6,h7,h8]
def xw:Nat->List α->Sl α
 | 0,[]=>.nil
 | 1,[]=>.cJ
 |_,l=>.of l
theorem E9(c:Nat)(l:List α):els (xw c l)=l:=by
 unfold xw;split<;>rfl
theorem ahT{β:Type}(f:α->β)(c:Nat)(l:List α):(xw c l).map f=xw c (l.map f):=by
 cases l with
 |nil=>match c with
  | 0=>rfl
  | 1=>rfl
  |c+2=>rfl
 |cons x l=>match c with
  | 0=>rfl
  | 1=>rfl
  |c+2=>rfl

inductive Nd where
 |mk (op:Int) (nm:List UInt8) (n:Int) (c:Nat) (ks:List Nd) (pos:Int)
def Nd.op:Nd->Int | .mk op _ _ _ _ _=>op
def Nd.nm:Nd->List UInt8 | .mk _ nm _ _ _ _=>nm
def Nd.n:Nd->Int | .mk _ _ n _ _ _=>n
def Nd.c:Nd->Nat | .mk _ _ _ c _ _=>c
def Nd.ks:Nd->List Nd | .mk _ _ _ _ ks _=>ks
def Nd.pos:Nd->Int | .mk _ _ _ _ _ pos=>pos

mutual
def Nd.pd:Nd->PD
 | .mk op nm n c ks pos=>.agg [.int .i64 op,.str nm,.int .i64 n,eh 5 (xw c (Nd.J9 ks)),.int .i64 pos]
def Nd.J9:List Nd->List PD
 |[]=>[]
 |k::ks=>k.pd::Nd.J9 ks
end
theorem Xj:∀ks:List Nd,Nd.J9 ks=ks.map Nd.pd
 |[]=>rfl
 |k::ks=>by simp[Nd.J9,Xj ks]
def Nd.oC(a:Nd):PD:=eh 5 ((xw a.c a.ks).map Nd.pd)
abbrev Nd.cl(a:Nd):List PD:=[.int .i64 a.op,.str a.nm,.int .i64 a.n,a.oC,.int .i64 a.pos]
theorem Xk(a:Nd):a.pd= .agg a.cl:=by
 cases a with
 |mk op nm n c ks pos=>simp only[Nd.pd,Nd.cl,Nd.op,Nd.nm,Nd.n,Nd.oC,Nd.c,Nd.ks,Nd.pos,Xj,ahT]

@[simp] theorem Xl(a:Nd):a.oC.one=true:=nj ..

mutual
def Nd.size:Nd->Nat
 | .mk _ _ _ _ ks _=>1+Nd.gw ks
def Nd.gw:List Nd->Nat
 |[]=>0
 |k::ks=>k.size+Nd.gw ks
end
theorem size_eq(a:Nd):a.size=1+Nd.gw a.ks:=by cases a;rfl
theorem Xm:∀{ks:List Nd} {k:Nd},k∈ks->k.size<=Nd.gw ks
 |x::ks,k,h=>by
  simp only[Nd.gw];rcases cq.1 h with rfl |h
  .omega
  .have:=Xm h;omega
theorem B7{a k:Nd}(h:k∈a.ks):k.size<a.size:=by
 have:=Xm h;rw[size_eq a];omega
theorem size_pos(a:Nd):1<=a.size:=by rw[size_eq];omega
theorem Pp:∀(l m:List Nd),Nd.gw (l++m)=Nd.gw l+Nd.gw m
 |[],m=>by simp[Nd.gw]
 |k::l,m=>by simp only[jo,Nd.gw,Pp l m];omega
theorem B8:∀ks:List Nd,O ks<=Nd.gw ks
 |[]=>aK _
 |k::ks=>by
  have:=B8 ks;have:=size_pos k;simp only[Nd.gw,ew];omega
theorem ko(a:Nd):dF 1 (.p a.oC)=Z (O a.ks):=by
 unfold Nd.oC;rw[nh,E9]
theorem xx{a:Nd}{k:Nat}(h:k<O a.ks):dE Y 5 (.p a.oC) (k:Int)=Z (.ro (a.ks[k]).cl 0):=by
 unfold Nd.oC;rw[ni (by rw[E9];exact h)];have :(els (xw a.c a.ks))[k]'(by rw[E9];exact h)=a.ks[k]:=by simp only[E9]
 rw[this,Xk];rfl

inductive mh:Nd->Prop
 |mk (a:Nd) (h:O a.ks<4611686018427387904) (hk:∀k∈a.ks,mh k):mh a
theorem mh.len{a:Nd}(h:mh a):O a.ks<4611686018427387904:=by cases h;assumption
theorem mh.kid{a k:Nd}(h:mh a)(hk:k∈a.ks):mh k:=by cases h;rename_i h;exact h k hk
theorem ahU{e0:Nat}{k:Nat}(h:k<O es):dE Y sz (.cC e0 sz es) (k:Int)=Z (.ro (es[k]).cells 0):=IG h
theorem ahV(s:List UInt8):∃r:Bool,∀H,au (call pg) 290 [.p (.str s)] H=Z (.val (.p (.bool r)),H):=by
 have key:=fun(L:List PD) (hL:∀x∈L,∃s,x= .str s) (hl:O L<4611686018427387904)=>lI (c:=call pg) (G:=pg.G) (keep:=[0,3,4]) (b:=bd BJ 0) (λi=>[(0,.p (.str s)),(3,.cC 9 1 L),(4,.p (.int .i64 ((i:Nat):Int)))]) (λ_=>⟨[],[]⟩) (O L) (λ_=>True)
  (λo e H=>H=⟨[],[]⟩/\(o= .exit 0\/(o= .ret/\e.get 2= .p (.bool true)))) trivial
  (λi hi _=>by
   conv in bd BJ 0=>reduce
   obtain⟨w,hw⟩:=hL _ (dw hi);have aS:=ahU (e0:=9) (sz:=1) hi;rw[hw] at aS;by_cases hc:w=s
   .simp[aS,hi,hc]
   .simp[aS,hi,hc,bt (k:=i) (by omega)])
  (λ_=>by
   conv in bd BJ 0=>reduce
   simp)
 have hb0:=rf (bd BJ 0)
 conv at hb0=>rhs;reduce
 have hf:=rf BJ
 conv at hf=>rhs;reduce
 rw[<-hb0] at hf;refine WE (f:=290) (aa:=[.str s]) (y:=λr:Bool=>.p (.bool r)) hf rfl rfl rfl ?_
 .clear hf hb0;simp;refine ag7 (ag8 (aG (key _ ?_ ?_) ?_))
  .simp
  .simp
  .rintro o e H ⟨rfl,rfl |⟨rfl,h⟩⟩
   .simp
   .simp[h]
theorem ahW(s:List UInt8):∃r:Bool,∀H,au (call pg) 240 [.p (.str s)] H=Z (.val (.p (.bool r)),H):=by
 obtain⟨kw,hk⟩:=ahV s;have key:=fun(hl:O s<=16)=>lI (c:=call pg) (G:=pg.G) (keep:=[0,3]) (b:=bd BI 0) (λi=>[(0,.p (.str s)),(3,.p (.int .i64 ((i:Nat):Int)))]) (λ_=>⟨[],[]⟩) (O s) (λ_=>True)
  (λo e H=>H=⟨[],[]⟩/\(o= .exit 0\/(o= .ret/\e.get 2= .p (.bool false)))) trivial
  (λi hi _=>by
   conv in bd BI 0=>reduce
   have hc:s[i].toNat<256:=UInt8.toNat_lt _;generalize hn:(s[i].toNat:Int)=n at *;have k1:=bt (k:=i) (by omega);have th:(0<=n/\n<=47)\/(48<=n/\n<=57)\/(58<=n/\n<=64)\/(65<=n/\n<=90)\/(91<=n/\n<=94)\/(95<=n/\n<=95)\/(96<=n/\n<=96)\/(97<=n/\n<=122)\/(123<=n/\n<=255):=by omega
   have hz:((i:Int)==0)=true\/((i:Int)==0)=false:=by cases ((i:Int)==0)<;>simp
   have yB:0<=n/\n<256:=by omega
   rcases th with hh |hh |hh |hh |hh |hh |hh |hh |hh
   .have f1:¬97<=n:=by omega
    have f2:n<=122:=by omega
    have f3:¬65<=n:=by omega
    have f4:n<=90:=by omega
    have f5:¬n=95:=by omega
    have f6:n<48:=by omega
    have f7:¬57<n:=by omega
    rcases hz with hz |hz<;>simp[-rF,hi,hn,f1,f3,f5,f6,hz]
   .have f1:¬97<=n:=by omega
    have f2:n<=122:=by omega
    have f3:¬65<=n:=by omega
    have f4:n<=90:=by omega
    have f5:¬n=95:=by omega
    have f6:¬n<48:=by omega
    have f7:¬57<n:=by omega
    rcases hz with hz |hz<;>simp[-rF,hi,hn,f1,f3,f5,f6,f7,hz,k1]
   .have f1:¬97<=n:=by omega
    have f2:n<=122:=by omega
    have f3:¬65<=n:=by omega
    have f4:n<=90:=by omega
    have f5:¬n=95:=by omega
    have f6:¬n<48:=by omega
    have f7:57<n:=by omega
    rcases hz with hz |hz<;>simp[-rF,hi,hn,f1,f3,f5,f6,f7,hz]
   .have f1:¬97<=n:=by omega
    have f2:n<=122:=by omega
    have f3:65<=n:=by omega
    have f4:n<=90:=by omega
    have f5:¬n=95:=by omega
    have f6:¬n<48:=by omega
    have f7:57<n:=by omega
    rcases hz with hz |hz<;>simp[-rF,hi,hn,f1,f3,f4,k1]
   .have f1:¬97<=n:=by omega
    have f2:n<=122:=by omega
    have f3:65<=n:=by omega
    have f4:¬n<=90:=by omega
    have f5:¬n=95:=by omega
    have f6:¬n<48:=by omega
    have f7:57<n:=by omega
    rcases hz with hz |hz<;>simp[-rF,hi,hn,f1,f3,f4,f5,f6,f7,hz]
   .have f1:¬97<=n:=by omega
    have f2:n<=122:=by omega
    have f3:65<=n:=by omega
    have f4:¬n<=90:=by omega
    have f5:n=95:=by omega
    have f6:¬n<48:=by omega
    have f7:57<n:=by omega
    rcases hz with hz |hz<;>simp[-rF,hi,hn,f5,hz,k1]
   .have f1:¬97<=n:=by omega
    have f2:n<=122:=by omega
    have f3:65<=n:=by omega
    have f4:¬n<=90:=by omega
    have f5:¬n=95:=by omega
    have f6:¬n<48:=by omega
    have f7:57<n:=by omega
    rcases hz with hz |hz<;>simp[-rF,hi,hn,f1,f3,f4,f5,f6,f7,hz]
   .have f1:97<=n:=by omega
    have f2:n<=122:=by omega
    have f3:65<=n:=by omega
    have f4:¬n<=90:=by omega
    have f5:¬n=95:=by omega
    have f6:¬n<48:=by omega
    have f7:57<n:=by omega
    rcases hz with hz |hz<;>simp[-rF,hi,hn,f1,f2,k1]
   .have f1:97<=n:=by omega
    have f2:¬n<=122:=by omega
    have f3:65<=n:=by omega
    have f4:¬n<=90:=by omega
    have f5:¬n=95:=by omega
    have f6:¬n<48:=by omega
    have f7:57<n:=by omega
    rcases hz with hz |hz<;>simp[-rF,hi,hn,f1,f2,f3,f4,f5,f6,f7,hz])
  (λ_=>by
   conv in bd BI 0=>reduce
   simp)
 have hb0:=rf (bd BI 0)
 conv at hb0=>rhs;reduce
 have hf:=rf BI
 conv at hf=>rhs;reduce
 rw[<-hb0] at hf;refine WE (f:=240) (aa:=[.str s]) (y:=λr:Bool=>.p (.bool r)) hf rfl rfl rfl ?_
 .clear hf hb0;by_cases h1:O s=0
  .simp[h1]
  .by_cases h2:16<O s
   .have h3:(16 :Int)<(O s:Int):=by omega
    have h4:¬s=[]:=λh=>h1 (by rw[h];rfl);simp[h1,h3]
   .have h3:¬(16 :Int)<(O s:Int):=by omega
    have h4:¬s=[]:=λh=>h1 (by rw[h];rfl);cases kw with
    |true=>simp[h1,h3,hk]
    |false=>
     obtain⟨o,e,H,hx,rfl,hq⟩:=bC (key (by omega));simp at hx;rcases hq with rfl |⟨rfl,h⟩
     .simp[h1,h3,hk,hx]
     .simp[h1,h3,hk,hx,h]
theorem ahX(op n pos:Int)(nm:List UInt8)(ks:PD)(hk:ks.one=true):
    ∃r:Bool,(∀H,au (call pg) 182 [.p (.agg [.int .i64 op,.str nm,.int .i64 n,ks,.int .i64 pos])] H=Z (.val (.p (.bool r)),H))/\(r=true->op=2->1<=n/\n<=3):=by
 obtain⟨nr,hn⟩:=ahW nm;have hf:=rf a182
 conv at hf=>rhs;reduce
 refine xn (f:=182) (aa:=[_]) (y:=λr:Bool=>.p (.bool r)) hf rfl rfl rfl ?_;clear hf;by_cases h1:op=1
 .subst h1;cases nr<;>simp[hk,hn]<;>omega
 .by_cases h2:op=15
  .subst h2;cases nr<;>simp[hk,hn]<;>omega
  .by_cases h3:op=45
   .subst h3;cases nr<;>simp[hk,hn]<;>omega
   .by_cases h4:op=46
    .subst h4;cases nr<;>simp[hk,hn]<;>omega
    .by_cases h5:op=47
     .subst h5;cases nr<;>simp[hk,hn]<;>omega
     .cases nr with
      |true=>simp[hk,hn,h1,h2,h3,h4,h5]
      |false=>
       by_cases h6:nm=[]
       .subst h6;by_cases h7:op=2
        .subst h7;by_cases h8:1<=n
         .simp[hk,hn,h8]<;>omega
         .simp[hk,hn,h8]<;>omega
        .by_cases h8:op=20
         .subst h8;by_cases h9: -64<=n
          .simp[hk,hn,h9]<;>omega
          .simp[hk,hn,h9]<;>omega
         .simp[hk,hn,h1,h2,h3,h4,h5,h7,h8]<;>omega
       .simp[hk,hn,h1,h2,h3,h4,h5,h6]
def Ka(op:Int)(c:UInt8):Prop:=(c=101->1<=op/\op<=15)/\(c=102->30<=op/\op<=51)/\(c=105->20<=op/\op<=23)
def Pq(op:Int)(ks:List Nd):Prop:=∃w,xv op (O ks) w/\O w=O ks/\∀i,i<O ks->∀k c,ks[i]? =Z k->w[i]? =Z c->Ka k.op c
theorem ahY(op:Int)(a:Nd)(hl:O a.ks<4611686018427387904):
    ∃r:Bool,(∀H,au (call pg) 183 [.p (.int .i64 op),.p a.oC] H=Z (.val (.p (.bool r)),H))/\(r=true->Pq op a.ks):=by
 obtain⟨w,b,c1,d1⟩:=ahS op (O a.ks) hl;have key:=fun(hw:O w=O a.ks)=>mL (c:=call pg) (G:=pg.G) (keep:=[1,5,7]) (b:=bd a183 0) (λi=>[(1,.p a.oC),(5,.p (.str w)),(7,.p (.int .i64 ((i:Nat):Int)))]) ⟨[],[]⟩ (O a.ks)
  (λi=>∀k c,a.ks[i]? =Z k->w[i]? =Z c->Ka k.op c) 0 (λ_=>True) (λe=>e.get 4= .p (.bool false))
  (λi hi=>by
   obtain⟨k,c2,d2,d3,d4⟩:=ahR (a.ks[i]).op;have bJ:i<O w:=by omega
   have aS:=xx hi;have k1:=bt (k:=i) (by omega);have hP:k=w[i]->∀k c,a.ks[i]? =Z k->w[i]? =Z c->Ka k.op c:=by
    rintro h k' c' h1 h2;rw[aD hi] at h1;rw[aD bJ] at h2;cases h1;cases h2;rw[<-h];exact⟨d2.1,d3.1,d4.1⟩
   generalize (∀k c,a.ks[i]? =Z k->w[i]? =Z c->Ka k.op c)=PP at *
   conv in bd a183 0=>reduce
   by_cases hk:k=w[i]
   .have hP:=hP hk;have iw:w[i].toNat=k.toNat:=by rw[hk]
    clear hk;simp[ko,hi,aS,c2,iw,hP,k1,bJ]
   .have hne:¬k.toNat=w[i].toNat:=λh=>hk (UInt8.toNat.inj h);simp[ko,hi,aS,c2,bJ,hne])
  (by
   conv in bd a183 0=>reduce
   simp[ko])
 have hb0:=rf (bd a183 0)
 conv at hb0=>rhs;reduce
 have hf:=rf a183
 conv at hf=>rhs;reduce
 rw[<-hb0] at hf;refine xn (f:=183) (aa:=[_,_]) (y:=λr:Bool=>.p (.bool r)) hf rfl rfl rfl ?_;clear hf hb0;cases b with
 |false=>simp[c1,ko]
 |true=>
  by_cases hw:O w=O a.ks
  .rcases key hw with⟨e,hx,-,hp⟩ |⟨e,hx,hr⟩
   .simp at hx;have :Pq op a.ks:=⟨w,d1 rfl,hw,hp⟩;simp[c1,ko,hw,hx,this]
   .simp at hx;simp[c1,ko,hw,hx,hr]
  .simp[c1,ko,hw]
theorem ahZ:∀(m:Nat) (a:Nd) (l:Nat),a.size<=m->mh a->l<=1000->∀H,au (call pg) 128 [.p (.agg a.cl),.p (.int .i64 ((l:Nat):Int))] H=Z (.val (.p (.int .i64 ((min a.size (l+1):Nat):Int))),H):=by
 intro m
 induction m with
 |zero=>intro a l h;have:=size_pos a;omega
 |succ m ih=>
  intro a l hm ok hl;have key:=dT (c:=call pg) (G:=pg.G) (keep:=[1,2,5,6]) (b:=bd Ey 0) (σ:=Nat) (λi=>[(1,.p (.int .i64 ((l:Nat):Int))),(2,.box 0 0),(5,.p (.int .i64 ((min (1+Nd.gw (a.ks.take i)) (l+1):Nat):Int))),(6,.p (.int .i64 ((i:Nat):Int)))]) (λ_=>⟨[a.cl.map .p],[]⟩) (λi=>O a.ks-i) (λi=>i<=O a.ks/\i<=l+1)
   (λo e H=>o= .exit 0/\e.get 5= .p (.int .i64 ((min a.size (l+1):Nat):Int))) ?_ 0 ⟨bD _,bD _⟩
  .obtain⟨o,e,H,hx,rfl,h5⟩:=bC key;have hb0:=rf (bd Ey 0)
   conv at hb0=>rhs;reduce
   have hf:=rf Ey
   conv at hf=>rhs;reduce
   rw[<-hb0] at hf;refine aR (aa:=[_,_]) hf rfl rfl rfl ?_;clear hf hb0;simp[Nd.gw] at hx;have h1:min 1 (l+1)=1:=by omega
   simp[hx,h5]
  .rintro i ⟨hi,cW⟩;have hlen:=ok.len
   conv in bd Ey 0=>reduce
   by_cases h1:i<O a.ks
   .have hT:=Pp (a.ks.take i) [a.ks[i]];rw[<-C2 h1] at hT;simp only[Nd.gw,nO] at hT;have kH:i<=Nd.gw (a.ks.take i):=by
     have:=B8 (a.ks.take i);rw[kY] at this;omega
    have aS:=xx h1;by_cases h2:1+Nd.gw (a.ks.take i)<=l
    .have iA:min (1+Nd.gw (a.ks.take i)) (l+1)=1+Nd.gw (a.ks.take i):=by omega
     have Ps:=B7 (dw h1);have hc:=ih (a.ks[i]) (l-(1+Nd.gw (a.ks.take i))) (by omega) (ok.kid (dw h1)) (by omega);have rM:IntKind.i64.wrap ((l:Int)-((1+Nd.gw (a.ks.take i):Nat):Int))=((l-(1+Nd.gw (a.ks.take i)):Nat):Int):=by
      rw[wrap64 (by omega) (by omega)];omega
     have hw2:IntKind.i64.wrap (((1+Nd.gw (a.ks.take i):Nat):Int)+((min (a.ks[i]).size (l-(1+Nd.gw (a.ks.take i))+1):Nat):Int))=((min (1+Nd.gw (a.ks.take (i+1))) (l+1):Nat):Int):=by
      rw[wrap64 (by omega) (by omega),hT];omega
     have eF:=bt (k:=i) (by omega);have hle:((1+Nd.gw (a.ks.take i):Nat):Int)<=(l:Int):=by omega
     refine aG (Q:=nx [1,2,5,6] [(1,.p (.int .i64 ((l:Nat):Int))),(2,.box 0 0),(5,.p (.int .i64 ((min (1+Nd.gw (a.ks.take (i+1))) (l+1):Nat):Int))),(6,.p (.int .i64 ((i+1 :Nat):Int)))] ⟨[a.cl.map .p],[]⟩) ?_ λo e H h=>.inl ⟨i+1,⟨h1,by omega⟩,by omega,h⟩;rw[iA];generalize ((1+Nd.gw (a.ks.take i):Nat):Int)=A at *;generalize ((min (1+Nd.gw (a.ks.take (i+1))) (l+1):Nat):Int)=B at *;generalize ((l-(1+Nd.gw (a.ks.take i)):Nat):Int)=C at *;generalize ((min (a.ks[i]).size (l-(1+Nd.gw (a.ks.take i))+1):Nat):Int)=D0 at *;simp[ko,h1,aS,hle,rM,hc,hw2,eF]
    .have iA:min (1+Nd.gw (a.ks.take i)) (l+1)=l+1:=by omega
     have hs:min a.size (l+1)=l+1:=by
      have h3:=Pp (a.ks.take i) (a.ks.drop i);rw[Aw] at h3;have:=size_eq a;omega
     rw[iA,hs];have hle:¬((l+1 :Nat):Int)<=(l:Int):=by omega
     generalize ((l+1 :Nat):Int)=A at *;simp[ko,h1,hle]
   .have hi':i=O a.ks:=by omega
    subst hi';rw[lQ,<-size_eq];generalize ((min a.size (l+1):Nat):Int)=A at *;simp[ko]

inductive Wf:Nd->Prop
 |mk (a:Nd) (own:a.op=2->1<=a.n/\a.n<=3) (fits:Pq a.op a.ks) (kids:∀k∈a.ks,Wf k):Wf a
theorem ah0:∀(m:Nat) (a:Nd) (d:Nat),a.size<=m->m<=400->d<=24->
    ∃r:Bool,(∀H,au (call pg) 129 [.p (.agg a.cl),.p (.int .i64 ((d:Nat):Int))] H=Z (.val (.p (.bool r)),H))/\(r=true->Wf a):=by
 intro m
 induction m with
 |zero=>intro a l h;have:=size_pos a;omega
 |succ m ih=>
  intro a d hm hm4 hd;have hlen:O a.ks<4611686018427387904:=by
   have:=B8 a.ks;have:=size_eq a;omega
  obtain⟨b1,c1,d1⟩:=ahX a.op a.n a.pos a.nm a.oC (Xl a);obtain⟨b2,c2,d2⟩:=ahY a.op a hlen;have key:=fun(cO:1<=d)=>mL (c:=call pg) (G:=pg.G) (keep:=[1,2,5]) (b:=bd BH 0) (λi=>[(1,.p (.int .i64 ((d:Nat):Int))),(2,.box 0 0),(5,.p (.int .i64 ((i:Nat):Int)))]) ⟨[a.cl.map .p],[]⟩ (O a.ks)
   (λi=>∀k,a.ks[i]? =Z k->Wf k) 0 (λ_=>True) (λe=>e.get 4= .p (.bool false))
   (λi hi=>by
    have Ps:=B7 (dw hi);obtain⟨b3,c3,d3⟩:=ih (a.ks[i]) (d-1) (by omega) (by omega) (by omega);have aS:=xx hi;have k1:=bt (k:=i) (by omega);have hw:IntKind.i64.wrap ((d:Int)-1)=((d-1 :Nat):Int):=by rw[wrap64 (by omega) (by omega)];omega
    have hP:b3=true->∀k,a.ks[i]? =Z k->Wf k:=by
     intro h k hk;rw[aD hi] at hk;cases hk;exact d3 h
    generalize (∀k,a.ks[i]? =Z k->Wf k)=PP at *;generalize ((d-1 :Nat):Int)=D1 at *
    conv in bd BH 0=>reduce
    cases b3 with
    |true=>
     have hP:=hP rfl;simp[ko,hi,aS,c3,hw,hP,k1]
    |false=>simp[ko,hi,aS,c3,hw])
   (by
    conv in bd BH 0=>reduce
    simp[ko])
  have hb0:=rf (bd BH 0)
  conv at hb0=>rhs;reduce
  have hf:=rf BH
  conv at hf=>rhs;reduce
  rw[<-hb0] at hf;refine xn (f:=129) (aa:=[_,_]) (y:=λr:Bool=>.p (.bool r)) hf rfl rfl rfl ?_;clear hf hb0;by_cases cO:1<=d
  .have g1:¬(d:Int)<1:=by omega
   have g2:¬d=0:=by omega
   cases b1 with
   |false=>simp[g1,c1]
   |true=>
    cases b2 with
    |false=>simp[g1,c1,c2]
    |true=>
     rcases key cO with⟨e,hx,-,hp⟩ |⟨e,hx,hr⟩
     .have V8:Wf a:=⟨a,d1 rfl,d2 rfl,vA.1 hp⟩;simp at hx;simp[g1,c1,c2,hx,V8]
     .simp at hx;simp[g1,c1,c2,hx,hr]
  .have g1:(d:Int)<1:=by omega
   have g2:d=0:=by omega
   subst g2;simp
theorem Xn(a:Nd)(ok:mh a):∃r:Bool,(∀H,au (call pg) 84 [.p (.agg a.cl)] H=Z (.val (.p (.bool r)),H))/\(r=true->a.size<=400/\Wf a):=by
 have h1:=ahZ _ a 400 (aK _) ok (by omega);have hf:=rf Vk
 conv at hf=>rhs;reduce
 refine xn (f:=84) (aa:=[_]) (y:=λr:Bool=>.p (.bool r)) hf rfl rfl rfl ?_;clear hf;by_cases h2:a.size<=400
 .obtain⟨b,c2,d2⟩:=ah0 400 a 24 h2 (aK _) (aK _);have h3:min a.size (400+1)=a.size:=by omega
  have h4:(a.size:Int)<=400:=by omega
  rw[h3] at h1;cases b with
  |true=>
   have d2:=d2 rfl;simp at h1 c2;simp[h1,h4,c2,h2,d2]
  |false=>
   simp at h1 c2;simp[h1,h4,c2]
 .have h3:min a.size (400+1)=401:=by omega
  rw[h3] at h1;simp at h1;simp[h1]
structure Sr where
 nm:List UInt8
 od:Bool
def Sr.p(s:Sr):PD:=.agg [.str s.nm,.bool s.od]
def jU(s:Sl Sr):PD:=eh 2 (s.map Sr.p)
theorem iM(s:Sl Sr):dF 1 (.p (jU s))=Z (O (els s)):=nh 2 _ s
theorem Pt{s:Sl Sr}{k:Nat}(h:k<O (els s)):dE Y 2 (.p (jU s)) (k:Int)=Z (.ro [.str (els s)[k].nm,.bool (els s)[k].od] 0):=ni h
@[simp] theorem arq(a:Sl Sr):(jU a).one=true:=nj 2 _
structure Pm where
 nm:List UInt8
 so:Int
def Pm.p(s:Pm):PD:=.agg [.str s.nm,.int .i64 s.so]
def gU(s:Sl Pm):PD:=eh 2 (s.map Pm.p)
theorem kS(s:Sl Pm):dF 1 (.p (gU s))=Z (O (els s)):=nh 2 _ s
theorem Fb{s:Sl Pm}{k:Nat}(h:k<O (els s)):dE Y 2 (.p (gU s)) (k:Int)=Z (.ro [.str (els s)[k].nm,.int .i64 (els s)[k].so] 0):=ni h
@[simp] theorem ars(a:Sl Pm):(gU a).one=true:=nj 2 _
structure Pr where
 nm:List UInt8
 ps:Sl Pm
 bo:Nd
def Pr.p(s:Pr):PD:=.agg [.str s.nm,gU s.ps,.int .i64 s.bo.op,.str s.bo.nm,.int .i64 s.bo.n,s.bo.oC,.int .i64 s.bo.pos]
def jV(s:Sl Pr):PD:=eh 7 (s.map Pr.p)
theorem kT(s:Sl Pr):dF 1 (.p (jV s))=Z (O (els s)):=nh 7 _ s
theorem Fc{s:Sl Pr}{k:Nat}(h:k<O (els s)):dE Y 7 (.p (jV s)) (k:Int)=Z (.ro [.str (els s)[k].nm,gU (els s)[k].ps,.int .i64 (els s)[k].bo.op,.str (els s)[k].bo.nm,.int .i64 (els s)[k].bo.n,(els s)[k].bo.oC,.int .i64 (els s)[k].bo.pos] 0):=ni h
@[simp] theorem art(a:Sl Pr):(jV a).one=true:=nj 7 _
structure Fa where
 nm:List UInt8
 bo:Nd
def Fa.p(s:Fa):PD:=.agg [.str s.nm,.int .i64 s.bo.op,.str s.bo.nm,.int .i64 s.bo.n,s.bo.oC,.int .i64 s.bo.pos]
def jW(s:Sl Fa):PD:=eh 6 (s.map Fa.p)
theorem qf(s:Sl Fa):dF 1 (.p (jW s))=Z (O (els s)):=nh 6 _ s
theorem Kb{s:Sl Fa}{k:Nat}(h:k<O (els s)):dE Y 6 (.p (jW s)) (k:Int)=Z (.ro [.str (els s)[k].nm,.int .i64 (els s)[k].bo.op,.str (els s)[k].bo.nm,.int .i64 (els s)[k].bo.n,(els s)[k].bo.oC,.int .i64 (els s)[k].bo.pos] 0):=ni h
@[simp] theorem aru(a:Sl Fa):(jW a).one=true:=nj 6 _
structure Sp where
 so:Sl Sr
 fi:Sl Fi
 pr:Sl Pr
 fa:Sl Fa
abbrev Sp.cl(s:Sp):List PD:=[jU s.so,fT s.fi,jV s.pr,jW s.fa]
def B9(ns:Nat)(l:List Pm):Prop:=O l<=8/\∀p∈l,0<=p.so/\p.so<(ns:Int)
theorem ah1(sp:Sp)(l:Sl Pm):
    ∃r:Bool,(∀H,au (call pg) 96 [.p (.agg sp.cl),.p (gU l)] H=Z (.val (.p (.bool r)),H))/\(r=true->B9 (O (els sp.so)) (els l)):=by
 have key:=fun(hl:O (els l)<=8)=>mL (c:=call pg) (G:=pg.G) (keep:=[1,2,5]) (b:=bd BG 0) (λi=>[(1,.p (gU l)),(2,.box 0 0),(5,.p (.int .i64 ((i:Nat):Int)))]) ⟨[sp.cl.map .p],[]⟩ (O (els l))
  (λi=>∀p,(els l)[i]? =Z p->0<=p.so/\p.so<(O (els sp.so):Int)) 0 (λ_=>True) (λe=>e.get 4= .p (.bool false))
  (λi hi=>by
   have k1:=bt (k:=i) (by omega);have aS:=Fb hi;have hP:0<=(els l)[i].so/\(els l)[i].so<(O (els sp.so):Int)->∀p,(els l)[i]? =Z p->0<=p.so/\p.so<(O (els sp.so):Int):=by
    intro h p hp;rw[aD hi] at hp;cases hp;exact h
   generalize (∀p,(els l)[i]? =Z p->0<=p.so/\p.so<(O (els sp.so):Int))=PP at *;generalize (els l)[i]=q at *
   conv in bd BG 0=>reduce
   by_cases g1:q.so<0
   .simp[kS,hi,aS,g1]
   .by_cases g2:(O (els sp.so):Int)<=q.so
    .simp[kS,iM,hi,aS,g1,g2]
    .have hP:=hP ⟨by omega,by omega⟩;simp[kS,iM,hi,aS,g1,g2,hP,k1])
  (by
   conv in bd BG 0=>reduce
   simp[kS])
 have hb0:=rf (bd BG 0)
 conv at hb0=>rhs;reduce
 have hf:=rf BG
 conv at hf=>rhs;reduce
 rw[<-hb0] at hf;refine xn (f:=96) (aa:=[_,_]) (y:=λr:Bool=>.p (.bool r)) hf rfl rfl rfl ?_;clear hf hb0;by_cases hl:O (els l)<=8
 .have g1:¬(8 :Int)<(O (els l):Int):=by omega
  rcases key hl with⟨e,hx,-,hp⟩ |⟨e,hx,hr⟩
  .have bV:B9 (O (els sp.so)) (els l):=⟨hl,vA.1 hp⟩;simp at hx;simp[kS,g1,hx,bV]
  .simp at hx;simp[kS,g1,hx,hr]
 .have g1:(8 :Int)<(O (els l):Int):=by omega
  simp[kS,g1]
def tN(a:Nd):Prop:=a.size<=400/\Wf a
structure mN (sp:Sp):Prop where
 ns:O (els sp.so)<=4
 nf:O (els sp.fi)<=6
 np:O (els sp.pr)<=8
 na:O (els sp.fa)<=16
 fd:∀f∈els sp.fi,sB (O (els sp.so)) (els f.so)
 pd:∀p∈els sp.pr,B9 (O (els sp.so)) (els p.ps)/\tN p.bo
 fc:∀p∈els sp.fa,tN p.bo
structure Ca (sp:Sp):Prop where
 pr:∀p∈els sp.pr,mh p.bo
 fa:∀p∈els sp.fa,mh p.bo
theorem ah2(sp:Sp)(xy:Ca sp):
    ∃r:Bool,(∀H,au (call pg) 46 [.p (.agg sp.cl)] H=Z (.val (.p (.bool r)),H))/\(r=true->mN sp):=by
 have Fe:=fun(i:Nat) (hi:i<O (els sp.fi)) (hl:O (els (els sp.fi)[i].so)<=3)=>mL (c:=call pg) (G:=pg.G) (keep:=[1,3,4,5]) (b:=bd a46 1) (λk=>[(1,.box 0 0),(3,.p (.int .i64 ((i:Nat):Int))),(4,.p (ax (els sp.fi)[i].so)),(5,.p (.int .i64 ((k:Nat):Int)))]) ⟨[sp.cl.map .p],[]⟩ (O (els (els sp.fi)[i].so))
  (λk=>∀s,(els (els sp.fi)[i].so)[k]? =Z s->0<=s/\s<(O (els sp.so):Int)) 2 (λe=>e.get 1= .box 0 0/\e.get 3= .p (.int .i64 ((i:Nat):Int))) (λe=>e.get 2= .p (.bool false))
  (λk hk=>by
   generalize (els sp.fi)[i]=f at *;have k1:=bt (k:=k) (by omega);have aS:=eK hk;have hP:0<=(els f.so)[k]/\(els f.so)[k]<(O (els sp.so):Int)->∀s,(els f.so)[k]? =Z s->0<=s/\s<(O (els sp.so):Int):=by
    intro h p hp;rw[aD hk] at hp;cases hp;exact h
   generalize (∀s,(els f.so)[k]? =Z s->0<=s/\s<(O (els sp.so):Int))=PP at *;generalize (els f.so)[k]=q at *
   conv in bd a46 1=>reduce
   by_cases g1:q<0
   .simp[bG,hk,aS,g1]
   .by_cases g2:(O (els sp.so):Int)<=q
    .simp[bG,iM,hk,aS,g1,g2]
    .have hP:=hP ⟨by omega,by omega⟩;simp[bG,iM,hk,aS,g1,g2,hP,k1])
  (by
   conv in bd a46 1=>reduce
   simp[bG])
 have Pu:=fun(hl:O (els sp.fi)<=6)=>mL (c:=call pg) (G:=pg.G) (keep:=[1,3]) (b:=bd a46 0) (λk=>[(1,.box 0 0),(3,.p (.int .i64 ((k:Nat):Int)))]) ⟨[sp.cl.map .p],[]⟩ (O (els sp.fi))
  (λi=>∀f,(els sp.fi)[i]? =Z f->sB (O (els sp.so)) (els f.so)) 0 (λe=>e.get 1= .box 0 0) (λe=>e.get 2= .p (.bool false))
  (λi hi=>by
   have k1:=bt (k:=i) (by omega);have aS:=py hi;have hP:sB (O (els sp.so)) (els (els sp.fi)[i].so)->∀f,(els sp.fi)[i]? =Z f->sB (O (els sp.so)) (els f.so):=by
    intro h p hp;rw[aD hi] at hp;cases hp;exact h
   generalize (∀f,(els sp.fi)[i]? =Z f->sB (O (els sp.so)) (els f.so))=PP at *;have hb3:=rf (bd a46 3)
   conv at hb3=>rhs;reduce
   have hb2:=rf (bd a46 2)
   conv at hb2=>rhs;reduce
   have hb1:=rf (bd a46 1)
   conv at hb1=>rhs;reduce
   have hb0:=rf (bd a46 0)
   conv at hb0=>rhs;reduce
   rw[<-hb1] at hb0;have hf:=rf a46
   conv at hf=>rhs;reduce
   rw[<-hb3] at hf;rw[<-hb2] at hf;rw[<-hb1] at hf;rw[<-hb0] at hf;by_cases g1:O (els (els sp.fi)[i].so)<1
   .rw[hb0];clear hf hb0 hb1 hb2 hb3;have g0:(els (els sp.fi)[i].so)=[]:=CR.1 (by omega);simp[bG,il,hi,aS,g0]
   .have Ff:¬(O (els (els sp.fi)[i].so):Int)<1:=by omega
    have arv:(1 :Int)<=(O (els (els sp.fi)[i].so):Int):=by omega
    have g0:¬(els (els sp.fi)[i].so)=[]:=λh=>g1 (by rw[h];simp);by_cases g2:3<O (els (els sp.fi)[i].so)
    .have Kc:(3 :Int)<(O (els (els sp.fi)[i].so):Int):=by omega
     rw[hb0];clear hf hb0 hb1 hb2 hb3;simp[bG,il,hi,aS,Ff,Kc]
    .have Kc:¬(3 :Int)<(O (els (els sp.fi)[i].so):Int):=by omega
     rcases Fe i hi (by omega) with⟨e,hx,⟨q1,q3⟩,hp⟩ |⟨e,hx,hr⟩
     .rw[vA] at hp;have hP:=hP ⟨hp,by omega,by omega⟩;simp at hx;rw[hb0];clear hf hb0 hb1 hb2 hb3;simp[bG,il,hi,aS,Ff,Kc,hx,q1,q3,hP,k1]
     .simp at hx;rw[hb0];clear hf hb0 hb1 hb2 hb3;simp[bG,il,hi,aS,Ff,Kc,hx,hr])
  (by
   have hb1:=rf (bd a46 1)
   conv at hb1=>rhs;reduce
   have hb0:=rf (bd a46 0)
   conv at hb0=>rhs;reduce
   rw[<-hb1] at hb0;rw[hb0];clear hb0 hb1;simp[il])
 have Pv:=fun(hl:O (els sp.pr)<=8)=>mL (c:=call pg) (G:=pg.G) (keep:=[1,6]) (b:=bd a46 2) (λk=>[(1,.box 0 0),(6,.p (.int .i64 ((k:Nat):Int)))]) ⟨[sp.cl.map .p],[]⟩ (O (els sp.pr))
  (λi=>∀p,(els sp.pr)[i]? =Z p->B9 (O (els sp.so)) (els p.ps)/\tN p.bo) 4 (λe=>e.get 1= .box 0 0) (λe=>e.get 2= .p (.bool false))
  (λi hi=>by
   have k1:=bt (k:=i) (by omega);have aS:=Fc hi;obtain⟨b1,c1,d1⟩:=ah1 sp (els sp.pr)[i].ps;obtain⟨b2,c2,d2⟩:=Xn (els sp.pr)[i].bo (xy.pr _ (dw hi));have hP:b1=true->b2=true->∀p,(els sp.pr)[i]? =Z p->B9 (O (els sp.so)) (els p.ps)/\tN p.bo:=by
    intro h h' p hp;rw[aD hi] at hp;cases hp;exact⟨d1 h,d2 h'⟩
   generalize (∀p,(els sp.pr)[i]? =Z p->B9 (O (els sp.so)) (els p.ps)/\tN p.bo)=PP at *
   conv in bd a46 2=>reduce
   cases b1 with
   |false=>simp[kT,hi,aS,c1]
   |true=>
    cases b2 with
    |false=>simp[kT,hi,aS,c1,c2]
    |true=>
     have hP:=hP rfl rfl;simp[kT,hi,aS,c1,c2,hP,k1])
  (by
   conv in bd a46 2=>reduce
   simp[kT])
 have ah3:=fun(hl:O (els sp.fa)<=16)=>mL (c:=call pg) (G:=pg.G) (keep:=[1,7]) (b:=bd a46 3) (λk=>[(1,.box 0 0),(7,.p (.int .i64 ((k:Nat):Int)))]) ⟨[sp.cl.map .p],[]⟩ (O (els sp.fa))
  (λi=>∀p,(els sp.fa)[i]? =Z p->tN p.bo) 6 (λ_=>True) (λe=>e.get 2= .p (.bool false))
  (λi hi=>by
   have k1:=bt (k:=i) (by omega);have aS:=Kb hi;obtain⟨b2,c2,d2⟩:=Xn (els sp.fa)[i].bo (xy.fa _ (dw hi));have hP:b2=true->∀p,(els sp.fa)[i]? =Z p->tN p.bo:=by
    intro h p hp;rw[aD hi] at hp;cases hp;exact d2 h
   generalize (∀p,(els sp.fa)[i]? =Z p->tN p.bo)=PP at *
   conv in bd a46 3=>reduce
   cases b2 with
   |false=>simp[qf,hi,aS,c2]
   |true=>
    have hP:=hP rfl;simp[qf,hi,aS,c2,hP,k1])
  (by
   conv in bd a46 3=>reduce
   simp[qf])
 have hb3:=rf (bd a46 3)
 conv at hb3=>rhs;reduce
 have hb2:=rf (bd a46 2)
 conv at hb2=>rhs;reduce
 have hb1:=rf (bd a46 1)
 conv at hb1=>rhs;reduce
 have hb0:=rf (bd a46 0)
 conv at hb0=>rhs;reduce
 rw[<-hb1] at hb0;have hf:=rf a46
 conv at hf=>rhs;reduce
 rw[<-hb3] at hf;rw[<-hb2] at hf;rw[<-hb1] at hf;rw[<-hb0] at hf;refine xn (f:=46) (aa:=[_]) (y:=λr:Bool=>.p (.bool r)) hf rfl rfl rfl ?_;clear hf hb0 hb1 hb2 hb3;by_cases h1:O (els sp.so)<=4
 .have k1:¬(4 :Int)<(O (els sp.so):Int):=by omega
  by_cases h2:O (els sp.fi)<=6
  .have k2:¬(6 :Int)<(O (els sp.fi):Int):=by omega
   by_cases h3:O (els sp.pr)<=8
   .have k3:¬(8 :Int)<(O (els sp.pr):Int):=by omega
    by_cases h4:O (els sp.fa)<=16
    .have k4:¬(16 :Int)<(O (els sp.fa):Int):=by omega
     rcases Pu h2 with⟨e,hx,q1,hp⟩ |⟨e,hx,hr⟩
     .rcases Pv h3 with⟨e',gz,xl,yn⟩ |⟨e',gz,wD⟩
      .rcases ah3 h4 with⟨e'',Fh,-,ah5⟩ |⟨e'',Fh,ah6⟩
       .have bV:mN sp:=⟨h1,h2,h3,h4,vA.1 hp,vA.1 yn,vA.1 ah5⟩;simp at hx gz Fh;simp[iM,il,kT,qf,k1,k2,k3,k4,hx,q1,gz,xl,Fh,bV]
       .simp at hx gz Fh;simp[iM,il,kT,qf,k1,k2,k3,k4,hx,q1,gz,xl,Fh,ah6]
      .simp at hx gz;simp[iM,il,kT,qf,k1,k2,k3,k4,hx,q1,gz,wD]
     .simp at hx;simp[iM,il,kT,qf,k1,k2,k3,k4,hx,hr]
    .have k4:(16 :Int)<(O (els sp.fa):Int):=by omega
     simp[iM,il,kT,qf,k1,k2,k3,k4]
   .have k3:(8 :Int)<(O (els sp.pr):Int):=by omega
    simp[iM,il,kT,k1,k2,k3]
  .have k2:(6 :Int)<(O (els sp.fi):Int):=by omega
   simp[iM,il,k1,k2]
 .have k1:(4 :Int)<(O (els sp.so):Int):=by omega
  simp[iM,k1]
inductive SF where
 |pl (x:PD)
 |tk (es:List PD)
def SF.d(e sz:Nat):SF->Nat->D
 | .pl x,_=>.p x
 | .tk es,t=>.aX t e sz es
def SF.k:SF->List Nat
 | .pl _=>[]
 | .tk es=>[O es]
def SF.at(e sz:Nat)(s:SF)(d:D)(H:Hp):Prop:=match s with
 | .pl x=>d= .p x
 | .tk es=>∃t,d= .aX t e sz es/\H.tk[t]? =Z (O es)
structure Pw (y:D):Prop where
 rn:∀f g,y.ren f g=Z y
 fz:∀n H k,y.av n H k=y
theorem Fj(x:PD):Pw (.p x):=⟨λ_ _=>rfl,λn H k=>kj n H k x⟩
theorem Ke(xs:List PD):Pw (.ba (xs.map .p)):=⟨λf g=>by simp[D.ren],λn H k=>by
 cases k with
 |zero=>unfold D.av;rfl
 |succ k=>unfold D.av;simp[kj]⟩
def dm(res:List pS)(k:List Nat)(y:D):Out->Env->Hp->Prop:=λo e H=>(o= .ret\/o= .norm)/\mD pg.G e H res=Z y/\H.tk.take (O k)=k
theorem Kf:∀a b:List D,D.ai (a++b)=D.ai a++D.ai b
 |[],b=>rfl
 |x::a,b=>by simp[D.ai,Kf a b]
theorem Kg:∀a b:List D,D.aC (a++b)=D.aC a++D.aC b
 |[],b=>rfl
 |x::a,b=>by simp[D.aC,Kg a b]
theorem Xo{f g:Nat->Option Nat}:∀{a b a' b':List D},D.aZ f g a=Z a'->D.aZ f g b=Z b'->D.aZ f g (a++b)=Z (a'++b')
 |[],b,a',b',ha,hb=>by
  simp[D.aZ] at ha;subst ha;exact hb
 |x::a,b,a',b',ha,hb=>by
  simp only[D.aZ] at ha;cases hx:x.ren f g with
  |none=>rw[hx] at ha;cases ha
  |some y=>
   rw[hx] at ha;obtain⟨a'',h1,rfl⟩:=ak.1 ha;simp only[jo,D.aZ,hx,Xo h1 hb,fy]
theorem vD{e:Nat}{pre suf:List PD}{s:SF}{y:D}(hy:Pw y)(hF:pg.F f=Z fc)(kn:∀k,pg.lib f (pre.map .p++s.d e sz 0::suf.map .p) ⟨[],k⟩=Y)(hn:O (pre.map D.p++s.d e sz 0::suf.map .p)=fc.np)(hd:fc.gW=Y)
    (h:post (dm fc.res s.k y) (aq (call pg) pg.G aM fc.body ⟨entry 0 (pre.map .p++s.d e sz 0::suf.map .p),⟨[],s.k⟩⟩)):
    ∀d H,s.at e sz d H->au (call pg) f (pre.map .p++d::suf.map .p) H=Z (.val y,H):=by
 intro d H hs;obtain⟨o,e1,H1,hx,ho,hr,ht⟩:=bC h;have fu:finish pg.G fc.res (Z (o,⟨e1,H1⟩))=Z (.val y,H1):=by
  rcases ho with rfl |rfl
  .simp only[finish,hr]
  .simp only[finish,hr]
 have hc:∃bl,call pg f (pre.map .p++s.d e sz 0::suf.map .p) ⟨[],s.k⟩=Z (.val y,⟨bl,H1.tk⟩):=by
  cases hz:fc.av with
  |false=>exact⟨H1.bx,tD (kn _) hF hn (by simp only[hz,mE,iE,hd,hx,fu];rfl)⟩
  |true=>
   exact⟨[],tD (kn _) hF hn (by
    simp only[hz,mE,iE,hd,hx,fu,if_true,fy,ui,fH,tY,aH,bR.av,bR.ren,hy.rn,hy.fz,bD])⟩
 obtain⟨bl,hc⟩:=hc;have yL:∀n,reach H n []=[]:=by
  intro n;cases n<;>simp[reach,eQ]
 cases s with
 |pl x=>
  have hs:d= .p x:=hs;subst hs;have e0:pre.map D.p++D.p x::suf.map .p=(pre++x::suf).map .p:=by simp
  have hc':call pg f ((pre++x::suf).map .p) ⟨[],[]⟩=Z (.val y,⟨bl,H1.tk⟩):=by rw[<-e0];exact hc
  rw[e0];exact NA hc' (qP _) (tB _) (qO _ _ _) (hy.rn _ _)
 |tk es=>
  obtain⟨t,rfl,aO⟩:=hs;have a1:D.ai (pre.map D.p++D.aX t e sz es::suf.map .p)=[]:=by
   rw[Kf,qP];simp[D.ai,D.refs]
  have a2:D.aC (pre.map D.p++D.aX t e sz es::suf.map .p)=[t]:=by
   rw[Kg,tB];simp[D.aC,D.bk]
  have a3:D.aZ (idx []) (idx [t]) (pre.map D.p++D.aX t e sz es::suf.map .p)=Z (pre.map D.p++D.aX 0 e sz es::suf.map .p):=by
   refine Xo (qO _ _ _) ?_;simp[D.aZ,D.ren,idx]
  have a4:ins [] [t]=[t]:=by simp[ins]
  have a5:nodupB [t]=true:=by simp[Vs.nodupB]
  have a6:aH (λt=>H.tk[t]?) [t]=Z [O es]:=by simp[aH,aO]
  have hc':call pg f (pre.map .p++D.aX 0 e sz es::suf.map .p) ⟨[],[O es]⟩=Z (.val y,⟨bl,H1.tk⟩):=hc;have uV:H1.tk.take 1=[O es]:=ht;have tJ:1<=O H1.tk:=by
   cases hh:H1.tk with
   |nil=>rw[hh] at uV;cases uV
   |cons=>simp
  unfold au;simp only[a1,a2,ins,yL,gM,iQ,a4,a5,Vs.nodupB,Q6,if_true,a3,aH,a6,hc'];unfold back;have eJ:H.tk.set t (O es)=H.tk:=by
   obtain⟨h1,h2⟩:=af.1 aO;rw[<-h2,List.set_getElem_self]
  simp[iD,tJ,uV,aH,bR.ren,hy.rn,bZ,eJ]
structure xz (e sz:Nat) (s:SF) (es:List PD):Prop where
 len:∀t,dF 1 (s.d e sz t)=Z (O es)
 ia:∀t k (h:k<O es),dE Y sz (s.d e sz t) (k:Int)=Z (.ro (es[k]).cells 0)
 src:∀t,dJ sz (s.d e sz t)=Z es
theorem Xp{e:Nat}:xz e sz (.tk es) es:=⟨λ_=>rfl,λ_ _ h=>UH h,λ_=>by simp[SF.d,dJ,D.iR]⟩
theorem Xq(a:Int)(b:Bt)(ha:1<=a):∃r:Bt,∀H,au (call pg) 330 [.p (gF a b)] H=Z (.val (.p (gF a r)),H):=by
 have key:=dT (c:=call pg) (G:=pg.G) (keep:=[1,2,3]) (b:=bd EF 0) (σ:=Nat×Bt) (λs=>[(1,.box 0 0),(2,.box 1 0),(3,.p (.int .i64 ((s.1:Nat):Int)))]) (λs=>⟨[(ah a s.2).map D.p,(ah 0 Bt.e).map D.p],[]⟩) (λs=>4-s.1) (λs=>s.1<=4)
  (λo e H=>o= .exit 0/\e.get 1= .box 0 0/\e.get 2= .box 1 0/\∃r,H=⟨[(ah a r).map D.p,(ah 0 Bt.e).map D.p],[]⟩)
  (by
   rintro⟨i,x⟩ hi;dsimp only at hi|-
   conv in bd EF 0=>reduce
   by_cases h:i<4
   .have h1:(i:Int)<4:=by omega
    obtain⟨j,hj⟩:=Xi a a x x ha;obtain⟨u,hu⟩:=B5 a (IntKind.i64.wrap (IntKind.i64.wrap (a+a)-2)) x j;have k1:=bt (k:=i) (by omega);refine aG (Q:=nx [1,2,3] [(1,.box 0 0),(2,.box 1 0),(3,.p (.int .i64 ((i+1 :Nat):Int)))] ⟨[(ah a u).map D.p,(ah 0 Bt.e).map D.p],[]⟩) ?_ λo e H hh=>.inl ⟨(i+1,u),by dsimp only;omega,by dsimp only;omega,hh⟩;simp[-aw,-aF,dC,cn,cP,bY,h1,hj,hu,k1]
   .have :i=4:=by omega
    subst this;refine aG (Q:=λo e H=>o= .exit 0/\e.get 1= .box 0 0/\e.get 2= .box 1 0/\H=⟨[(ah a x).map D.p,(ah 0 Bt.e).map D.p],[]⟩) ?_ ?_
    .simp[-aw,-aF]
    .rintro o e H ⟨rfl,q1,q2,rfl⟩;exact .inr ⟨by simp,rfl,q1,q2,x,rfl⟩) (0,b) (bD _)
 obtain⟨o,e,H,hx,rfl,q1,q2,r,rfl⟩:=bC key;simp only[gH] at hx;have hb0:=rf (bd EF 0)
 conv at hb0=>rhs;reduce
 have hf:=rf EF
 conv at hf=>rhs;reduce
 rw[<-hb0] at hf;have az:cy=cy:=rfl
 conv at az=>rhs;reduce
 try rw[<-az] at hf
 try rw[<-az] at hb0
 clear az;refine⟨r,aR (aa:=[_]) hf rfl rfl rfl ?_⟩;clear hf hb0;simp[-aw,-aF,b9,dC,cn,cP,bY,hx,q1,q2]
theorem Xr(sp:Sp)(k:Int)(hk:k=1\/k=2)(hs:O (els sp.so)<4611686018427387904):∃r:Bt,∀H,au (call pg) 324 [.p (.agg sp.cl),.p (.int .i64 k)] H=Z (.val (.p (gF k r)),H):=by
 have key:=dT (c:=call pg) (G:=pg.G) (keep:=[1,2,4,5,6]) (b:=bd EB 0) (σ:=Nat×Bt) (λs=>[(1,.p (.int .i64 k)),(2,.box 0 0),(4,.box 1 0),(5,.box 2 0),(6,.p (.int .i64 ((s.1:Nat):Int)))]) (λs=>⟨[sp.cl.map .p,(ah 0 Bt.e).map D.p,(ah k s.2).map D.p],[]⟩) (λs=>O (els sp.so)-s.1) (λs=>s.1<=O (els sp.so))
  (λo e H=>o= .exit 0/\e.get 4= .box 1 0/\e.get 5= .box 2 0/\∃r,H=⟨[sp.cl.map .p,(ah 0 Bt.e).map D.p,(ah k r).map D.p],[]⟩)
  (by
   rintro⟨i,x⟩ hi;dsimp only at hi|-
   conv in bd EB 0=>reduce
   by_cases h:i<O (els sp.so)
   .have k1:=bt (k:=i) (by omega);rcases hk with rfl |rfl
    .obtain⟨j,hj⟩:=B6 (Pn (i:Int)) (by omega);obtain⟨u,hu⟩:=B5 1 1 x j;simp only[ue] at hj;refine aG (Q:=nx [1,2,4,5,6] [(1,.p (.int .i64 1)),(2,.box 0 0),(4,.box 1 0),(5,.box 2 0),(6,.p (.int .i64 ((i+1 :Nat):Int)))] ⟨[sp.cl.map .p,(ah 0 Bt.e).map D.p,(ah 1 u).map D.p],[]⟩) ?_ λo e H hh=>.inl ⟨(i+1,u),by dsimp only;omega,by dsimp only;omega,hh⟩;simp[-aw,-aF,dC,cn,cP,bY,iM,h,hj,hu,k1]
    .obtain⟨j,hj⟩:=B6 (Xg (i:Int) (i:Int)) (by omega);obtain⟨u,hu⟩:=B5 2 2 x j;simp at hj;refine aG (Q:=nx [1,2,4,5,6] [(1,.p (.int .i64 2)),(2,.box 0 0),(4,.box 1 0),(5,.box 2 0),(6,.p (.int .i64 ((i+1 :Nat):Int)))] ⟨[sp.cl.map .p,(ah 0 Bt.e).map D.p,(ah 2 u).map D.p],[]⟩) ?_ λo e H hh=>.inl ⟨(i+1,u),by dsimp only;omega,by dsimp only;omega,hh⟩;simp[-aw,-aF,dC,cn,cP,bY,iM,h,hj,hu,k1]
   .have :i=O (els sp.so):=by omega
    subst this;refine aG (Q:=λo e H=>o= .exit 0/\e.get 4= .box 1 0/\e.get 5= .box 2 0/\H=⟨[sp.cl.map .p,(ah 0 Bt.e).map D.p,(ah k x).map D.p],[]⟩) ?_ ?_
    .simp[-aw,-aF,iM]
    .rintro o e H ⟨rfl,q1,q2,rfl⟩;exact .inr ⟨by simp,rfl,q1,q2,x,rfl⟩) (0,Bt.e) (bD _)
 obtain⟨o,e,H,hx,rfl,q1,q2,r,rfl⟩:=bC key;simp only[gH,cB,j4] at hx;have hb0:=rf (bd EB 0)
 conv at hb0=>rhs;reduce
 have hf:=rf EB
 conv at hf=>rhs;reduce
 rw[<-hb0] at hf;have az:cy=cy:=rfl
 conv at az=>rhs;reduce
 try rw[<-az] at hf
 try rw[<-az] at hb0
 clear az;refine⟨r,aR (aa:=[_,_]) hf rfl rfl rfl ?_⟩;clear hf hb0;simp[-aw,-aF,b9,dC,cn,cP,bY,xu,hx,q1,q2]
theorem ah7{cs:List PD}(hF:pg.F f=Z fc)(kn:pg.lib f aa ⟨[cs.map .p],[]⟩=Y)(hn:O aa=fc.np)(hd:fc.gW=Y)
    (h:post (λo e H=>(o= .ret\/o= .norm)/\mD pg.G e H fc.res=Z (.p y)/\H=⟨[cs.map .p],[]⟩) (aq (call pg) pg.G aM fc.body ⟨entry 0 aa,⟨[cs.map .p],[]⟩⟩)):
    call pg f aa ⟨[cs.map .p],[]⟩=Z (.val (.p y),⟨[cs.map .p],[]⟩):=by
 obtain⟨o,e,H1,hx,ho,hr,rfl⟩:=bC h;have fu:finish pg.G fc.res (Z (o,⟨e,⟨[cs.map .p],[]⟩⟩))=Z (.val (.p y),⟨[cs.map .p],[]⟩):=by
  rcases ho with rfl |rfl
  .simp only[finish,hr]
  .simp only[finish,hr]
 cases hz:fc.av with
 |false=>exact tD kn hF hn (by simp only[hz,mE,iE,hd,hx,fu];rfl)
 |true=>
  have h1:∀H,oM 1 H (cs.map D.p)=cs.map .p:=λH=>by simp[oM,qP]
  exact tD kn hF hn (by
   simp only[hz,mE,iE,hd,hx,fu,if_true,fy];simp[ui,aH,bR.av,bR.ren,h1,qO,kj,D.ren])
def bz(l:List Int):List D:=(l.map λx=>PD.int .i64 x).map .p
theorem Px(i e n sz:Nat):dF 1 (.ae i e n sz)=Z n:=by simp[dF]
theorem vE(l:List Int):ay (bz l)=false:=vg (l.map λx=>PD.int .i64 x)
theorem Fm(f g:Nat->Option Nat)(l:List Int):D.aZ f g (bz l)=Z (bz l):=qO _ _ (l.map λx=>PD.int .i64 x)
theorem Py{k:Nat}(h:k<O l):(bz l)[k]? =Z (.p (.int .i64 (l[k]))):=by simp[bz,h]
theorem Xs{k:Nat}(h:k<O l):dE Y 1 (.ae 0 3 (O l) 1) (k:Int)=Z (.box 0 k):=by
 simp[dE,h]
theorem Pz{z:PD}(hcs:cs=ps.map .p)(hF:pg.F f=Z fc)(kn:pg.lib f aa ⟨[cs],[]⟩=Y)(hn:O aa=fc.np)(hd:fc.gW=Y)
    (h:post (λo e H=>(o= .ret\/o= .norm)/\mD pg.G e H fc.res=Z (.ba [.p y,.p z])/\H=⟨[cs],[]⟩) (aq (call pg) pg.G aM fc.body ⟨entry 0 aa,⟨[cs],[]⟩⟩)):
    call pg f aa ⟨[cs],[]⟩=Z (.val (.ba [.p y,.p z]),⟨[cs],[]⟩):=by
 obtain⟨o,e,H1,hx,ho,hr,rfl⟩:=bC h;have fu:finish pg.G fc.res (Z (o,⟨e,⟨[cs],[]⟩⟩))=Z (.val (.ba [.p y,.p z]),⟨[cs],[]⟩):=by
  rcases ho with rfl |rfl
  .simp only[finish,hr]
  .simp only[finish,hr]
 cases hz:fc.av with
 |false=>exact tD kn hF hn (by simp only[hz,mE,iE,hd,hx,fu];rfl)
 |true=>
  have h1:∀H,oM 1 H cs=cs:=λH=>by rw[hcs];simp[oM,qP]
  have h2:∀f g,D.aZ f g cs=Z cs:=λf g=>by rw[hcs];exact qO _ _ _
  exact tD kn hF hn (by
   simp only[hz,mE,iE,hd,hx,fu,if_true,fy];simp[ui,aH,bR.av,bR.ren,h1,h2,D.ren,D.av,D.aZ])
theorem ah8(l:List Int)(x:Int)(hl:O l<4611686018427387904)(hs:dn l):
    ∃k:Nat,At l x k/\call pg 69 [.ae 0 3 (O l) 1,.p (.int .i64 x)] ⟨[bz l],[]⟩=Z (.val (.ba [.p (.int .i64 ((k:Nat):Int)),.p (.bool (decide (x∈l)))]),⟨[bz l],[]⟩):=by
 have hs':=C1.1 hs;have key:=dT (c:=call pg) (G:=pg.G) (keep:=[0,1,6,7,8]) (b:=bd mJ 0) (σ:=Nat×Nat) (λs=>[(0,.ae 0 3 (O l) 1),(1,.p (.int .i64 x)),(6,.p (.int .i64 ((O l:Nat):Int))),(7,.p (.int .i64 ((s.1:Nat):Int))),(8,.p (.int .i64 ((s.2:Nat):Int)))]) (λ_=>⟨[bz l],[]⟩) (λs=>s.2-s.1)
  (λs=>s.1<=s.2/\s.2<=O l/\(∀i (h:i<O l),i<s.1->l[i]<x)/\∀i (h:i<O l),s.2<=i->x<=l[i])
  (λo e H=>H=⟨[bz l],[]⟩/\o= .exit 0/\e.get 0= .ae 0 3 (O l) 1/\e.get 1= .p (.int .i64 x)/\e.get 6= .p (.int .i64 ((O l:Nat):Int))/\∃k:Nat,e.get 7= .p (.int .i64 ((k:Nat):Int))/\At l x k)
  ?_ (0,O l) ⟨bD _,aK _,λi _ h=>absurd h (CY _),λi h h'=>absurd h (Lg.2 h')⟩
 .obtain⟨o,e,H,hx,rfl,rfl,g0,g1,g6,k,g7,hk⟩:=bC key;refine⟨k,hk,?_⟩;obtain⟨eM,p1,p2⟩:=hk;simp at hx;have hb0:=rf (bd mJ 0)
  conv at hb0=>rhs;reduce
  have hf:=rf mJ
  conv at hf=>rhs;reduce
  rw[<-hb0] at hf;by_cases hlt:k<O l
  .have hc:=Py hlt;have aS:=Xs hlt;by_cases hq:l[k]=x
   .have hm:x∈l:=hq▸dw hlt;rw[hq] at hc;refine Pz (ps:=l.map λx=>PD.int .i64 x) rfl hf rfl rfl rfl ?_;clear hf hb0;simp[-ay,vE,Px,hx,g0,g1,g6,g7,hlt,aS,hc,hm]
   .have hm:¬x∈l:=λhm=>by
     obtain⟨i,hi,rfl⟩:=ya hm;rcases Gf i k with h |h |h
     .have:=p1 i hi h;omega
     .subst h;exact hq rfl
     .have:=p2 k hlt (aK _);have:=hs' k i hlt hi h;omega
    refine Pz (ps:=l.map λx=>PD.int .i64 x) rfl hf rfl rfl rfl ?_;clear hf hb0;simp[-ay,vE,Px,hx,g0,g1,g6,g7,hlt,aS,hc,hq,hm,Xf]
  .have hm:¬x∈l:=λhm=>by
    obtain⟨i,hi,rfl⟩:=ya hm;have:=p1 i hi (by omega);omega
   refine Pz (ps:=l.map λx=>PD.int .i64 x) rfl hf rfl rfl rfl ?_;clear hf hb0;simp[-ay,Px,hx,g6,g7,hlt,hm]
 .rintro⟨lo,hi⟩ ⟨h1,h2,h3,h4⟩;dsimp only at h1 h2 h3 h4|-;by_cases hlt:lo<hi
  .have hm:(lo+hi)/2<O l:=by omega
   have c1:IntKind.i64.wrap ((lo:Int)+(hi:Int))=((lo+hi:Nat):Int):=by rw[wrap64 (by omega) (by omega)];simp
   have c0:IntKind.u64.wrap ((lo+hi:Nat):Int)=((lo+hi:Nat):Int):=by
    simp[IntKind.wrap,IntKind.bits,IntKind.signed];omega
   have c2:lR .shr .u64 ((lo+hi:Nat):Int) 1=Z (.int .u64 (((lo+hi)/2 :Nat):Int)):=by
    have :(((lo+hi:Nat):Int)).fdiv 2=(((lo+hi)/2 :Nat):Int):=by
     rw[aoN _ (by omega)];omega
    simp only[lR,IntKind.bits];rw[if_neg (by omega)];exact congrArg (λz=>Z (PD.int .u64 z)) this
   have c4:IntKind.i64.wrap (((lo+hi)/2 :Nat):Int)=(((lo+hi)/2 :Nat):Int):=wrap64 (by omega) (by omega);have c3:=bt (k:=(lo+hi)/2) (by omega);have aS:=Xs hm;have hcc:=Py hm;by_cases hc:l[(lo+hi)/2]<x
   .refine aG (Q:=λo e H=>nx [0,1,6,7,8] [(0,.ae 0 3 (O l) 1),(1,.p (.int .i64 x)),(6,.p (.int .i64 ((O l:Nat):Int))),(7,.p (.int .i64 (((lo+hi)/2+1 :Nat):Int))),(8,.p (.int .i64 ((hi:Nat):Int)))] ⟨[bz l],[]⟩ o e H) ?_ λo e H hh=>.inl ⟨((lo+hi)/2+1,hi),⟨by dsimp only;omega,h2,λi h h'=>?_,h4⟩,by dsimp only;omega,hh⟩
    .have hd:decide (l[(lo+hi)/2]<x)=true:=decide_eq_true hc;have c5:=J6 l[(lo+hi)/2] x;rw[hd] at c5
     conv in bd mJ 0=>reduce
     generalize l[(lo+hi)/2]=y at *;generalize (((lo+hi)/2+1 :Nat):Int)=m1 at *;generalize Jv:(lo+hi)/2=m3 at *;generalize ((lo+hi:Nat):Int)=m2 at *;simp[-ay,vE,Fm,hlt,c0,c1,c2,c3,c4,c5,aS,hcc]
    .dsimp only at h';rcases fA i ((lo+hi)/2) with mM |mM
     .have:=hs' i _ h hm mM;omega
     .have :i=(lo+hi)/2:=by omega
      subst this;exact hc
   .refine aG (Q:=λo e H=>nx [0,1,6,7,8] [(0,.ae 0 3 (O l) 1),(1,.p (.int .i64 x)),(6,.p (.int .i64 ((O l:Nat):Int))),(7,.p (.int .i64 ((lo:Nat):Int))),(8,.p (.int .i64 (((lo+hi)/2 :Nat):Int)))] ⟨[bz l],[]⟩ o e H) ?_ λo e H hh=>.inl ⟨(lo,(lo+hi)/2),⟨by dsimp only;omega,by dsimp only;omega,h3,λi h h'=>?_⟩,by dsimp only;omega,hh⟩
    .have hd:decide (l[(lo+hi)/2]<x)=false:=decide_eq_false hc;have c5:=J6 l[(lo+hi)/2] x;rw[hd] at c5
     conv in bd mJ 0=>reduce
     generalize l[(lo+hi)/2]=y at *;generalize (((lo+hi)/2+1 :Nat):Int)=m1 at *;generalize Jv:(lo+hi)/2=m3 at *;generalize ((lo+hi:Nat):Int)=m2 at *;simp[-ay,vE,Fm,hlt,c0,c1,c2,c4,c5,aS,hcc]
    .dsimp only at h';rcases fA ((lo+hi)/2) i with mM |mM
     .have:=hs' _ i hm h mM;omega
     .have :i=(lo+hi)/2:=by omega
      subst this;omega
  .have :lo=hi:=by omega
   subst this;refine aG (Q:=λo e H=>o= .exit 0/\H=⟨[bz l],[]⟩/\e.get 0= .ae 0 3 (O l) 1/\e.get 1= .p (.int .i64 x)/\e.get 6= .p (.int .i64 ((O l:Nat):Int))/\e.get 7= .p (.int .i64 ((lo:Nat):Int))) ?_ λo e H hh=>.inr ?_
   .skip
    conv in bd mJ 0=>reduce
    simp[-ay,Fm]
   .obtain⟨rfl,rfl,q1,q2,q3,q4⟩:=hh;exact⟨by simp,rfl,rfl,q1,q2,q3,lo,q4,h2,h3,h4⟩
theorem ah9(l:List Int)(x:Int)(hl:O l<4611686018427387904)(hs:dn l):
    ∃k:Nat,At l x k/\∀(H:Hp) (i:Nat),H.bx[i]? =Z (bz l)->au (call pg) 69 [.ae i 3 (O l) 1,.p (.int .i64 x)] H=Z (.val (.ba [.p (.int .i64 ((k:Nat):Int)),.p (.bool (decide (x∈l)))]),H):=by
 obtain⟨k,h1,hc⟩:=ah8 l x hl hs;refine⟨k,h1,λH i hi=>?_⟩;have hr:D.ai (bz l)=[]:=qP (l.map λx=>PD.int .i64 x);have ht:D.aC (bz l)=[]:=tB (l.map λx=>PD.int .i64 x);have hrc:∀n,reach H n [i]=[i]
  | 0=>rfl
  |n+1=>by simp[reach,eQ,hi,hr]
 have eJ:H.bx.set i (bz l)=H.bx:=by
  apply lO;intro j;rw[nU];split
  .rename_i e;subst e;obtain⟨a,b⟩:=af.1 hi;rw[if_pos a,hi]
  .rfl
 have hrn:∀f g,D.aZ f g (bz l)=Z (bz l):=λf g=>qO _ _ (l.map λx=>PD.int .i64 x);simp only[au,D.ai,D.refs,iQ,ins,List.contains_nil,qp,if_false,fF,hrc,D.aC,D.bk,gM,hi,ht,Vs.nodupB,Q9,Bool.and_self,if_true,idx,D.aZ,D.ren,fy,aH,hrn,hc,back,iD,ew,fH,aK,ez,aoO,tY,bR.ren,bZ,eJ]
theorem Xt:∀l:List Int,aH BB (bz l)=Z l
 |[]=>rfl
 |x::r=>by
  have:=Xt r;unfold bz at this|-;rw[cB,cB];simp only[aH,BB];rw[this];rfl
theorem Xu(a:List D)(H:Hp):pg.lib 77 a H=zA a H:=rfl
theorem tO(l:List Int):O (bz l)=O l:=by simp[bz]
theorem aic(l:List Int)(k:Nat)(t:Int):((dO l k t).map λx=>D.p (.int .i64 x))=bz (dO l k t):=by
 unfold bz;rw[pO];rfl
theorem Cb(l:List Int):D.ai (bz l)=[]:=qP (l.map λx=>PD.int .i64 x)
theorem Cc(l:List Int):D.aC (bz l)=[]:=tB (l.map λx=>PD.int .i64 x)
theorem aid{k:Nat}(cI:i≠j)(hi:H.bx[i]? =Z (bz l))(hj:H.bx[j]? =Z [.p (.int .i64 t)])(hne:l≠[])(hk:k<=O l)(hn:O l<1000000):
    au (call pg) 77 [.ae i 3 (O l) 1,.p (.int .i64 ((k:Nat):Int)),.ae j 3 1 1] H=Z (.val (.ae (O H.bx) 3 (O l+1) 1),⟨H.bx.set i []++[bz (dO l k t)],H.tk⟩):=by
 have aie:bz l≠[]:=λh=>hne (by
  have:=tO l;rw[h] at this;exact sO this.symm)
 have hc:call pg 77 [.ae 0 3 (O l) 1,.p (.int .i64 ((k:Nat):Int)),.ae 1 3 1 1] ⟨[bz l,[.p (.int .i64 t)]],[]⟩=Z (.val (.ae 2 3 (O l+1) 1),⟨[[],[.p (.int .i64 t)],bz (dO l k t)],[]⟩):=by
  refine Lp ?_;rw[Xu];unfold zA;have h1:(bz l).take (O l)=bz l:=fK (by rw[tO];exact aK _);simp[-ay,h1,Xt,vE,tO,aie,hk,hn,<-aic]
 have hr2:∀n,reach H n [i,j]=[i,j]
  | 0=>rfl
  |n+1=>by simp[reach,eQ,hi,hj,Cb,D.ai,D.refs]
 have eJ:(H.bx.set i []).set j [.p (.int .i64 t)]=H.bx.set i []:=by
  apply lO;intro m;rw[nU];split
  .rename_i e;subst e;obtain⟨a,b⟩:=af.1 hj;rw[if_pos (by simpa using a),bp cI,hj]
  .rfl
 have lF:¬j=i:=λh=>cI h.symm;have e1:ins [] (D.ai [.ae i 3 (O l) 1,.p (.int .i64 ((k:Nat):Int)),.ae j 3 1 1])=[i,j]:=by simp[D.ai,D.refs,ins,lF]
 have e2:nodupB [i,j]=true:=by simp[nodupB,cI]
 unfold au;simp only[e1,hr2];simp[D.aC,D.bk,gM,hi,hj,Cc,ins,nodupB,idx,cI,D.aZ,D.ren,aH,Fm,hc,back,iD,bR.ren,bZ,eJ]
theorem Xv{d:D}(hd:d= .p .aj\/d= .cC 3 1 [])(hj:H.bx[j]? =Z [.p (.int .i64 t)]):
    au (call pg) 77 [d,.p (.int .i64 0),.ae j 3 1 1] H=Z (.val (.ae (O H.bx) 3 1 1),⟨H.bx++[bz [t]],H.tk⟩):=by
 have hc:call pg 77 [d,.p (.int .i64 0),.ae 0 3 1 1] ⟨[[.p (.int .i64 t)]],[]⟩=Z (.val (.ae 1 3 1 1),⟨[[.p (.int .i64 t)],bz [t]],[]⟩):=by
  refine Lp ?_;rw[Xu];rcases hd with rfl |rfl
  .simp[zA,iT,aH,dO,bz]
  .simp[zA,iT,aH,dO,bz]
 have hr2:∀n,reach H n [j]=[j]
  | 0=>rfl
  |n+1=>by simp[reach,eQ,hj,D.ai,D.refs]
 have eJ:H.bx.set j [.p (.int .i64 t)]=H.bx:=by
  apply lO;intro m;rw[nU];split
  .rename_i e;subst e;obtain⟨a,b⟩:=af.1 hj;rw[if_pos a,hj]
  .rfl
 have e0:D.ai [d]=[]/\D.aC [d]=[]/\∀f g,d.ren f g=Z d:=by
  rcases hd with rfl |rfl<;>exact⟨rfl,rfl,λ_ _=>rfl⟩
 have Fo:d.refs=[]/\d.bk=[]:=by
  rcases hd with rfl |rfl<;>exact⟨rfl,rfl⟩
 have e1:ins [] (D.ai [d,.p (.int .i64 0),.ae j 3 1 1])=[j]:=by simp[D.ai,D.refs,ins,Fo.1]
 unfold au;simp only[e1,hr2];simp[D.aC,D.bk,Fo.2,gM,hj,ins,nodupB,idx,D.aZ,D.ren,e0.2.2,aH,hc,back,iD,bR.ren,bZ,eJ,Fm]
def fU(l:List α):Sl α:=match l with |[]=>.nil |_::_=>.of l
theorem Xw(l:List α):els (fU l)=l:=by cases l<;>rfl
def gy(p:Int×Int):PD:=.agg [.int .i64 p.1,.int .i64 p.2]
def pB(s:Sl (Int×Int)):PD:=eh 2 (s.map gy)
theorem aif(s:Sl (Int×Int)):dF 1 (.p (pB s))=Z (O (els s)):=nh 2 _ s
theorem aih{s:Sl (Int×Int)}{k:Nat}(h:k<O (els s)):dE Y 2 (.p (pB s)) (k:Int)=Z (.ro [.int .i64 (els s)[k].1,.int .i64 (els s)[k].2] 0):=ni h
@[simp] theorem arw(a:Sl (Int×Int)):(pB a).one=true:=nj 2 _
theorem aii(f:α->PD)(l:List α)(e sz:Nat):(l=[]/\kR e sz (l.map f)= .p (eh sz ((fU l).map f)))\/(∃t,kR e sz (l.map f)= .aX t e sz (l.map f)/\eh sz ((fU l).map f)= .slice sz (l.map f)):=by
 cases l with
 |nil=>exact .inl ⟨rfl,rfl⟩
 |cons a r=>exact .inr ⟨0,rfl,rfl⟩
def mO(i:Nat)(b:Bn)(ts:List Int):List (Int×Int):=(ts.filter λt=>!(els b.lo.tu).contains t).map λt=>((i:Int),t)
def bu:Nat->List Bn->List (Int×Int)
 |_,[]=>[]
 |i,b::r=>mO i b (els b.up.tu)++bu (i+1) r
theorem PA:∀(l:List Bn) (i:Nat) (b:Bn),bu i (l++[b])=bu i l++mO (i+O l) b (els b.up.tu)
 |[],i,b=>by simp[bu]
 |a::l,i,b=>by
  simp only[jo,bu,PA l (i+1) b,j2,ew];rw[show i+1+O l=i+(O l+1) by omega]
theorem Xx(i:Nat)(b:Bn)(ts:List Int):O (mO i b ts)<=O ts:=by
 unfold mO;rw[bT];exact C3 _ _
theorem xA:∀(l:List Bn) (i m:Nat),(∀b∈l,O (els b.up.tu)<=m)->O (bu i l)<=O l*m
 |[],_,_,_=>by simp[bu]
 |b::l,i,m,h=>by
  have h1:=Xx i b (els b.up.tu);have h2:=h b (by simp);have h3:=xA l (i+1) m λx hx=>h x (by simp[hx]);simp only[bu,gG,ew,fX,nP];omega
theorem aij(bs:Sl Bn)(hl:O (els bs)<=1000)(hu:∀b∈els bs,O (els b.up.tu)<=1000/\O (els b.lo.tu)<=1000):
    ∀H,au (call pg) 53 [.p (cM bs)] H=Z (.val (.p (pB (fU (bu 0 (els bs))))),H):=by
 have inner:=fun(i:Nat) (hi:i<O (els bs))=>lI (c:=call pg) (G:=pg.G) (keep:=[0,3,4,5]) (b:=bd a53 1) (λk=>[(0,.p (cM bs)),(3,kR 112 2 ((bu 0 ((els bs).take i)++mO i (els bs)[i] ((els (els bs)[i].up.tu).take k)).map gy)),(4,.p (.int .i64 ((i:Nat):Int))),(5,.p (.int .i64 ((k:Nat):Int)))])
  (λk=>⟨[],tK ((bu 0 ((els bs).take i)++mO i (els bs)[i] ((els (els bs)[i].up.tu).take k)).map gy)⟩) (O (els (els bs)[i].up.tu)) (λ_=>True)
  (λo e H=>o= .exit 2/\e.get 0= .p (cM bs)/\e.get 3=kR 112 2 ((bu 0 ((els bs).take (i+1))).map gy)/\e.get 4= .p (.int .i64 ((i:Nat):Int))/\H=⟨[],tK ((bu 0 ((els bs).take (i+1))).map gy)⟩) trivial
  (λk hk _=>by
   conv in bd a53 1=>reduce
   have hm:=hu _ (dw hi);have c1:=ahH (els bs)[i].lo.tu (els (els bs)[i].up.tu)[k] (by omega);have hlen:O ((bu 0 ((els bs).take i)++mO i (els bs)[i] ((els (els bs)[i].up.tu).take k)).map gy)<1000000000:=by
    rw[bT,gG];have h1:=xA ((els bs).take i) 0 1000 λb hb=>(hu b (jn hb)).1;have h2:=Xx i (els bs)[i] ((els (els bs)[i].up.tu).take k);have h3:O ((els bs).take i)<=O (els bs):=aaa ..;have h4:O ((els (els bs)[i].up.tu).take k)<=O (els (els bs)[i].up.tu):=aaa ..;have h5:=ju 1000 (fW h3 hl);omega
   have hap:=λbx=>Pj (e:=112) (sz:=2) (by':=16) (x:=.agg [.int .i64 i,.int .i64 (els (els bs)[i].up.tu)[k]]) (bx:=bx) hlen (by omega);have dZ:mO i (els bs)[i] ((els (els bs)[i].up.tu).take (k+1))=mO i (els bs)[i] ((els (els bs)[i].up.tu).take k)++if(els (els bs)[i].up.tu)[k]∈els (els bs)[i].lo.tu then[] else[((i:Int),(els (els bs)[i].up.tu)[k])]:=by
    unfold mO;rw[C2 hk,Rg,oJ];congr 1
    by_cases hc:(els (els bs)[i].up.tu)[k]∈els (els bs)[i].lo.tu<;>simp[hc]
   rw[dZ,<-j2,oJ];generalize hL:(bu 0 ((els bs).take i)++mO i (els bs)[i] ((els (els bs)[i].up.tu).take k)).map gy=L at *;by_cases hc:(els (els bs)[i].up.tu)[k]∈els (els bs)[i].lo.tu
   .rw[if_pos hc];simp[-fg,bG,pz hi,eK hk,hk,c1,hc,bt (k:=k) (by omega)]
   .rw[if_neg hc];simp[-fg,bG,pz hi,eK hk,hk,c1,hc,hap,gy,bt (k:=k) (by omega)])
  (λ_=>by
   conv in bd a53 1=>reduce
   rw[lQ,C2 hi,PA,kY,x9 (by omega),ez];simp[bG,pz hi])
 have key:=lI (c:=call pg) (G:=pg.G) (keep:=[0,3,4]) (b:=bd a53 0) (λi=>[(0,.p (cM bs)),(3,kR 112 2 ((bu 0 ((els bs).take i)).map gy)),(4,.p (.int .i64 ((i:Nat):Int)))])
  (λi=>⟨[],tK ((bu 0 ((els bs).take i)).map gy)⟩) (O (els bs)) (λ_=>True)
  (λo e H=>o= .exit 0/\e.get 3=kR 112 2 ((bu 0 (els bs)).map gy)) trivial
  (λi hi _=>by
   have cU:=inner i hi;have h0:mO i (els bs)[i] ((els (els bs)[i].up.tu).take 0)=[]:=rfl;rw[h0,iQ] at cU;obtain⟨o,e,H,hx,rfl,g0,g3,g4,rfl⟩:=bC cU;simp at hx;have hb1:=rf (bd a53 1)
   conv at hb1=>rhs;reduce
   have hb0:=rf (bd a53 0)
   conv at hb0=>rhs;reduce
   rw[<-hb1] at hb0;rw[hb0];clear hb0 hb1;simp[iL,hi,hx,g0,g3,g4,bt (k:=i) (by omega)])
  (λ_=>by
   have hb1:=rf (bd a53 1)
   conv at hb1=>rhs;reduce
   have hb0:=rf (bd a53 0)
   conv at hb0=>rhs;reduce
   rw[<-hb1] at hb0;rw[hb0];clear hb0 hb1;rw[lQ];simp[iL])
 obtain⟨o,e,H,hx,rfl,g3⟩:=bC key;have h0:bu 0 ((els bs).take 0)=[]:=by simp[bu]
 rw[h0] at hx;simp at hx;have hb1:=rf (bd a53 1)
 conv at hb1=>rhs;reduce
 have hb0:=rf (bd a53 0)
 conv at hb0=>rhs;reduce
 rw[<-hb1] at hb0;have hf:=rf a53
 conv at hf=>rhs;reduce
 rw[<-hb1] at hf;rw[<-hb0] at hf;refine aR (aa:=[_]) hf rfl rfl rfl ?_;clear hf hb0 hb1;generalize bu 0 (els bs)=L at *;rcases aii gy L 112 2 with⟨-,hg⟩ |⟨t,hg,hk⟩
 .rw[hg] at g3;simp[hx,g3,pB]
 .rw[hg] at g3;simp[hx,g3,pB,hk]
def dr(s:Sl Bool):PD:=eh 1 (s.map PD.bool)
theorem Ce(s:Sl Bool):dF 1 (.p (dr s))=Z (O (els s)):=nh 1 _ s
theorem PB{s:Sl Bool}{k:Nat}(h:k<O (els s)):dE Y 1 (.p (dr s)) (k:Int)=Z (.ro [.bool (els s)[k]] 0):=ni h
@[simp] theorem arx(a:Sl Bool):(dr a).one=true:=nj 1 _
theorem PC(s:Sl Bool)(v:Nat)(_:O (els s)<4611686018427387904)(hv:v<4611686018427387904)(hi:H.bx[i]? =Z [.p (dr s)]):
    au (call pg) 73 [.p (.int .i64 ((v+1 :Nat):Int)),.box i 0] H=Z (.val (.p (.bool ((els s).getD v false))),H):=by
 have c1:IntKind.i64.wrap (((v+1 :Nat):Int)-1)=((v:Nat):Int):=by rw[wrap64 (by omega) (by omega)];omega
 have hc:call pg 73 [.p (.int .i64 ((v+1 :Nat):Int)),.box 0 0] ⟨[[.p (dr s)]],[]⟩=Z (.val (.p (.bool ((els s).getD v false))),⟨[[.p (dr s)]],[]⟩):=by
  have hf:=rf Vg
  conv at hf=>rhs;reduce
  refine ah7 (cs:=[dr s]) hf rfl rfl rfl ?_;clear hf;by_cases h:v<O (els s)
  .have h2:(((v+1 :Nat):Int))<=((O (els s):Nat):Int):=by omega
   have h3:(els s).getD v false=(els s)[v]:=by simp[im,h]
   rw[h3];generalize ((v+1 :Nat):Int)=m1 at *;simp[Ce,PB h,h2,c1]
  .have h2:¬(((v+1 :Nat):Int))<=((O (els s):Nat):Int):=by omega
   have h3:(els s).getD v false=false:=by simp[im,h]
   rw[h3];generalize ((v+1 :Nat):Int)=m1 at *;simp[Ce,h2]
 have hr2:∀n,reach H n [i]=[i]
  | 0=>rfl
  |n+1=>by simp[reach,eQ,hi,D.ai,D.refs]
 have eJ:H.bx.set i [.p (dr s)]=H.bx:=by
  apply lO;intro m;rw[nU];split
  .rename_i e;subst e;obtain⟨a,b⟩:=af.1 hi;rw[if_pos a,hi]
  .rfl
 have e1:ins [] (D.ai [.p (.int .i64 ((v+1 :Nat):Int)),.box i 0])=[i]:=by simp[D.ai,D.refs,ins]
 generalize (els s).getD v false=b at *;generalize ((v+1 :Nat):Int)=m1 at *;unfold au;simp only[e1,hr2];simp[D.aC,D.bk,gM,hi,ins,nodupB,idx,D.aZ,D.ren,aH,hc,back,iD,bR.ren,bZ,eJ]
theorem aik{e n:Nat}(hF:pg.F f=Z fc)(kn:pg.lib f aa ⟨[],[]⟩=Y)(hn:O aa=fc.np)(hd:fc.gW=Y)(hz:fc.av=false)(hr:D.ai aa=[])(ht:D.aC aa=[])(ha:D.aZ (idx []) (idx []) aa=Z aa)
    (h:post (λo e1 H=>(o= .ret\/o= .norm)/\mD pg.G e1 H fc.res=Z (.ae 0 e n sz)/\H=⟨[ps.map .p],[]⟩) (aq (call pg) pg.G aM fc.body ⟨entry 0 aa,⟨[],[]⟩⟩)):
    ∀H,au (call pg) f aa H=Z (.val (.ae (O H.bx) e n sz),⟨H.bx++[ps.map .p],H.tk⟩):=by
 intro H;obtain⟨o,e1,H1,hx,ho,hr1,rfl⟩:=bC h;have fu:finish pg.G fc.res (Z (o,⟨e1,⟨[ps.map .p],[]⟩⟩))=Z (.val (.ae 0 e n sz),⟨[ps.map .p],[]⟩):=by
  rcases ho with rfl |rfl
  .simp only[finish,hr1]
  .simp only[finish,hr1]
 have hc:call pg f aa ⟨[],[]⟩=Z (.val (.ae 0 e n sz),⟨[ps.map .p],[]⟩):=tD kn hF hn (by simp only[hz,mE,iE,hd,hx,fu];rfl);unfold au;have e1:ins [] (D.ai aa)=[]:=by rw[hr];rfl
 have e2:gM H []=[]:=rfl;simp[e1,p9,ht,e2,ins,Vs.nodupB,ha,aH,hc,back,iD,bR.ren,D.ren,qO,bZ]
theorem ail:∀H,au (call pg) 74 [.p .aj] H=Z (.val (.p .aj),H):=by
 have hf:=rf I5
 conv at hf=>rhs;reduce
 refine aR (aa:=[_]) hf rfl rfl rfl ?_;clear hf;simp[D.AE]
theorem aim:∀H,au (call pg) 74 [.p (.emp 1)] H=Z (.val (.cC 3 1 []),H):=by
 have hf:=rf I5
 conv at hf=>rhs;reduce
 refine aR (aa:=[_]) hf rfl rfl rfl ?_;clear hf;simp[D.AE,gX,dx,iT];simp[fin,D.ren]
theorem PE:∀r:List Int,(r.map λx=>PD.int .i64 x).flatMap PD.cells=r.map λx=>PD.int .i64 x
 |[]=>rfl
 |x::r=>by rw[cB,sP,PE r];rfl
theorem ain(x:Int)(r:List Int)(hl:O r<=100000):∀H,au (call pg) 74 [.p (.slice 1 ((x::r).map λx=>.int .i64 x))] H=Z (.val (.ae (O H.bx) 3 (O r+1) 1),⟨H.bx++[((x::r).map λx=>PD.int .i64 x).map .p],H.tk⟩):=by
 have hr:roomy (O r+1) 8=true:=by simp[roomy];omega
 have hf:=rf I5
 conv at hf=>rhs;reduce
 refine aik hf rfl rfl rfl rfl rfl rfl rfl ?_;clear hf;simp[D.AE,gX,dx,iT,hr];rw[PE,pO]
theorem aio(x:Int):∀H,au (call pg) 69 [.cC 3 1 [],.p (.int .i64 x)] H=Z (.val (.ba [.p (.int .i64 0),.p (.bool false)]),H):=by
 have key:=lI (c:=call pg) (G:=pg.G) (keep:=[0,1,6,7,8]) (b:=bd mJ 0) (λ_=>[(0,.cC 3 1 []),(1,.p (.int .i64 x)),(6,.p (.int .i64 0)),(7,.p (.int .i64 0)),(8,.p (.int .i64 0))]) (λ_=>⟨[],[]⟩) 0 (λ_=>True)
  (λo e H=>H=⟨[],[]⟩/\o= .exit 0/\e.get 0= .cC 3 1 []/\e.get 1= .p (.int .i64 x)/\e.get 6= .p (.int .i64 0)/\e.get 7= .p (.int .i64 0)) trivial
  (λi hi _=>absurd hi (CY _))
  (λ_=>by
   conv in bd mJ 0=>reduce
   simp)
 obtain⟨o,e,H,hx,rfl,rfl,g0,g1,g6,g7⟩:=bC key;have hb0:=rf (bd mJ 0)
 conv at hb0=>rhs;reduce
 have hf:=rf mJ
 conv at hf=>rhs;reduce
 rw[<-hb0] at hf;refine zQ hf rfl rfl rfl rfl rfl rfl ?_;clear hf hb0;simp[hx,g6,g7]

inductive fE (H:Hp):D->List Int->Prop where
 |aj:fE H (.p .aj) []
 |emp:fE H (.cC 3 1 []) []
 |row (i:Nat) (l:List Int) (hi:H.bx[i]? =Z (bz l)) (hl:l≠[]):fE H (.ae i 3 (O l) 1) l
theorem aip(x:Int):At [] x 0:=⟨aK _,λ_ h=>absurd h (CY _),λ_ h=>absurd h (CY _)⟩
theorem fE.search{d:D}(r:fE H d l)(x:Int)(hl:O l<4611686018427387904)(hs:dn l):
    ∃k:Nat,At l x k/\au (call pg) 69 [d,.p (.int .i64 x)] H=Z (.val (.ba [.p (.int .i64 ((k:Nat):Int)),.p (.bool (decide (x∈l)))]),H):=by
 cases r with
 |aj=>
  obtain⟨k,h1,h2⟩:=ahK .nil x (by simp[els]) (by simp[els,dn]);exact⟨k,h1,h2 H⟩
 |emp=>exact⟨0,aip x,by simpa using aio x H⟩
 |row i l hi hne=>
  obtain⟨k,h1,h2⟩:=ah9 l x hl hs;exact⟨k,h1,h2 H i hi⟩
def cK:D->List Nat
 | .ae i _ _ _=>[i]
 |_=>[]
theorem fE.insert{d:D}(r:fE H d l){k:Nat}(hj:H.bx[j]? =Z [.p (.int .i64 t)])(El:j∉cK d)(hk:k<=O l)(hn:O l<1000000):
    ∃bx,au (call pg) 77 [d,.p (.int .i64 ((k:Nat):Int)),.ae j 3 1 1] H=Z (.val (.ae (O H.bx) 3 (O l+1) 1),⟨bx++[bz (dO l k t)],H.tk⟩)/\O bx=O H.bx/\(∀m,m∉cK d->bx[m]? =H.bx[m]?)/\∀(m:Nat) cs,bx[m]? =Z cs->H.bx[m]? =Z cs\/cs=[]:=by
 have qF:l=[]->k=0:=λh=>by subst h;simpa using hk
 cases r with
 |aj=>
  obtain rfl:=qF rfl;exact⟨H.bx,Xv (.inl rfl) hj,rfl,λ_ _=>rfl,λ_ _ h=>.inl h⟩
 |emp=>
  obtain rfl:=qF rfl;exact⟨H.bx,Xv (.inr rfl) hj,rfl,λ_ _=>rfl,λ_ _ h=>.inl h⟩
 |row i l hi hne=>
  have cI:i≠j:=λh=>El (by simp[cK,h]);refine⟨H.bx.set i [],aid cI hi hj hne hk hn,by simp,λm hm=>?_,λm cs hm=>?_⟩
  .have :i≠m:=λh=>hm (by simp[cK,h]);rw[bp this]
  .rw[nU] at hm;split at hm
   .split at hm
    .cases hm;exact .inr rfl
    .cases hm
   .exact .inl hm
theorem fE.other{d:D}(r:fE H d l)(h:∀m∈cK d,H'.bx[m]? =H.bx[m]?):fE H' d l:=by
 cases r with
 |aj=>exact .aj
 |emp=>exact .emp
 |row i l hi hne=>exact .row i l (by rw[h i (by simp[cK]),hi]) hne
inductive ep where
 |none
 |model
 |states
 |state (s:Nat)
 |row (s f:Nat)
 |lH (n:Nat)
def iN(H:Hp)(lab:Nat->ep)(s:Nat)(d:D)(R:List (Int×List Int)):Prop:=
 (d= .p .aj/\R=[])\/∃k cs,d= .ae k 85 (O R) 2/\lab k= .state s/\H.bx[k]? =Z cs/\O cs=O R*2/\
  ∀(f:Nat) (a:Int) (l:List Int),R[f]? =Z (a,l)->cs[2*f]? =Z (.p (.int .i64 a))/\∃d',cs[2*f+1]? =Z d'/\fE H d' l/\∀i∈cK d',lab i= .row s f
def PF(H:Hp)(lab:Nat->ep)(sd:D)(S:List (List (Int×List Int))):Prop:=
 (sd= .p .aj/\S=[])\/∃s0 ds,sd= .ae s0 78 (O S) 1/\lab s0= .states/\H.bx[s0]? =Z ds/\O ds=O S/\
  ∀(s:Nat) R,S[s]? =Z R->∃d,ds[s]? =Z d/\iN H lab s d R
def nD(H:Hp)(lab:Nat->ep)(m:Nat)(at_:D)(st lp:Int)(S:List (List (Int×List Int))):Prop:=
 lab m= .model/\∃sd,H.bx[m]? =Z [at_,.p (.int .i64 st),sd,.p (.int .i64 lp)]/\PF H lab sd S
variable{lab:Nat->ep}
theorem iN.other{bh:Nat->ep}{s:Nat}{d:D}(r:iN H lab s d R)
    (h:∀m,(lab m= .state s\/∃f,lab m= .row s f)->(bh m=lab m/\∀cs,H.bx[m]? =Z cs->H'.bx[m]? =Z cs)):iN H' bh s d R:=by
 rcases r with⟨h1,h2⟩ |⟨k,cs,h1,h2,h3,h4,h5⟩
 .exact .inl ⟨h1,h2⟩
 .refine .inr ⟨k,cs,h1,(h k (.inl h2)).1.trans h2,(h k (.inl h2)).2 _ h3,h4,λf a l hf=>?_⟩;obtain⟨q1,d',q2,q3,q4⟩:=h5 f a l hf;refine⟨q1,d',q2,?_,λi hi=>(h i (.inr ⟨f,q4 i hi⟩)).1.trans (q4 i hi)⟩;cases q3 with
  |aj=>exact .aj
  |emp=>exact .emp
  |row i l hb hne=>exact .row i l ((h i (.inr ⟨f,q4 i (by simp[cK])⟩)).2 _ hb) hne
theorem nD.ext(r:nD H lab m at_ st lp S)(h:∀(i:Nat) cs,H.bx[i]? =Z cs->H'.bx[i]? =Z cs):nD H' lab m at_ st lp S:=by
 obtain⟨h1,sd,h2,h3⟩:=r;refine⟨h1,sd,h _ _ h2,?_⟩;rcases h3 with h3 |⟨s0,ds,q1,q2,q3,q4,q5⟩
 .exact .inl h3
 .refine .inr ⟨s0,ds,q1,q2,h _ _ q3,q4,λs R hR=>?_⟩;obtain⟨d,w1,w2⟩:=q5 s R hR;exact⟨d,w1,w2.other λm _=>⟨rfl,λcs hcs=>h _ _ hcs⟩⟩
theorem nD.ins(r:nD H lab m at_ st lp S){s:Nat}(hR:S[s]? =Z R)(hf:R[f]? =Z (a,l))(hl':l'≠[]):
    ∃s0 ds k cs d',H.bx[m]? =Z [at_,.p (.int .i64 st),.ae s0 78 (O S) 1,.p (.int .i64 lp)]/\H.bx[s0]? =Z ds/\O ds=O S/\ds[s]? =Z (.ae k 85 (O R) 2)/\lab k= .state s/\H.bx[k]? =Z cs/\O cs=O R*2/\cs[2*f+1]? =Z d'/\fE H d' l/\k∉cK d'/\
     ∀(bx:List (List D)) (tk:List Nat),O bx=O H.bx->(∀j,j∉cK d'->bx[j]? =H.bx[j]?)->lab (O H.bx)= .none->
      ∃bh,nD ⟨(bx++[bz l']).set k (cs.set (2*f+1) (.ae (O H.bx) 3 (O l') 1)),tk⟩ bh m at_ st lp (S.set s (R.set f (a,l')))/\(∀j,j≠O H.bx->bh j=lab j)/\bh (O H.bx)≠.none/\
          ∀j n cs',lab j= .lH n->H.bx[j]? =Z cs'->((bx++[bz l']).set k (cs.set (2*f+1) (.ae (O H.bx) 3 (O l') 1)))[j]? =Z cs':=by
 obtain⟨h1,sd,h2,h3⟩:=r;rcases h3 with⟨-,rfl⟩ |⟨s0,ds,rfl,q2,q3,q4,q5⟩
 .simp at hR
 obtain⟨d,w1,w2⟩:=q5 s R hR;rcases w2 with⟨-,rfl⟩ |⟨k,cs,rfl,w3,w4,w5,w6⟩
 .simp at hf
 obtain⟨e1,d',e2,e3,e4⟩:=w6 f a l hf;have hk:k∉cK d':=λh=>by have:=e4 k h;rw[w3] at this;cases this
 refine⟨s0,ds,k,cs,d',h2,q3,q4,w1,w3,w4,w5,e2,e3,hk,λbx tk hbl bS lA=>?_⟩;have eM:k<O H.bx:=(af.1 w4).1
 -- what else there is stays
 have keep:∀j cs',lab j≠.none->lab j≠.state s->lab j≠.row s f->H.bx[j]? =Z cs'->((bx++[bz l']).set k (cs.set (2*f+1) (.ae (O H.bx) 3 (O l') 1)))[j]? =Z cs':=by
  intro j cs' n0 n1 n2 hj;have hjk:k≠j:=λh=>n1 (by rw[<-h];exact w3);have El:j∉cK d':=λh=>n2 (e4 j h);have jz:j<O bx:=by rw[hbl];exact(af.1 hj).1
  rw[bp hjk,aT jz,bS j El,hj]
 have jd:∀j,lab j≠.none->j≠O H.bx:=λj h e=>h (by rw[e];exact lA);obtain⟨bh,cN,qD⟩:∃bh:Nat->ep,(∀j,j≠O H.bx->bh j=lab j)/\bh (O H.bx)= .row s f:=
  ⟨λj=>if j=O H.bx then .row s f else lab j,λj hj=>by simp[hj],by simp⟩
 refine⟨bh,⟨?_,.ae s0 78 (O S) 1,?_,.inr ⟨s0,ds,by simp,?_,?_,by simpa using q4,?_⟩⟩,cN,by rw[qD];simp,λj n cs' hj=>keep j cs' (by rw[hj];simp) (by rw[hj];simp) (by rw[hj];simp)⟩
 .rw[cN _ (jd m (by rw[h1];simp))];exact h1
 .exact keep m _ (by rw[h1];simp) (by rw[h1];simp) (by rw[h1];simp) h2
 .rw[cN _ (jd s0 (by rw[q2];simp))];exact q2
 .exact keep s0 _ (by rw[q2];simp) (by rw[q2];simp) (by rw[q2];simp) q3
 .intro s' R' ie;by_cases hs:s'=s
  .subst hs;have bW:s'<O S:=(af.1 hR).1;rw[eA bW] at ie;cases ie;refine⟨_,w1,.inr ⟨k,cs.set (2*f+1) (.ae (O H.bx) 3 (O l') 1),by simp,?_,?_,by simpa using w5,?_⟩⟩
   .rw[cN _ (jd k (by rw[w3];simp))];exact w3
   .rw[eA (by simp;omega)]
   .intro f' a' Em hf';have dZ:f<O R:=(af.1 hf).1;by_cases iH:f'=f
    .subst iH;rw[eA dZ] at hf';cases hf';refine⟨by rw[bp (by omega)];exact e1,_,eA (by omega),.row _ _ ?_ hl',λi hi=>?_⟩
     .show((bx++[bz l']).set k _)[O H.bx]? =_;rw[bp (by omega),<-hbl];simp
     .have :i=O H.bx:=by simpa[cK] using hi
      rw[this,qD]
    .rw[bp (Ne.symm iH)] at hf';obtain⟨g1,d2,g2,g3,g4⟩:=w6 f' a' Em hf';refine⟨by rw[bp (by omega)];exact g1,d2,by rw[bp (by omega)];exact g2,?_,λi hi=>?_⟩
     .cases g3 with
      |aj=>exact .aj
      |emp=>exact .emp
      |row i l3 hb hne=>
       have hi:=g4 i (by simp[cK]);refine .row i _ (keep i _ (by rw[hi];simp) (by rw[hi];simp) (by rw[hi];simp[iH]) hb) hne
     .have bJ:=g4 i hi;rw[cN _ (jd i (by rw[bJ];simp))];exact bJ
  .rw[bp (Ne.symm hs)] at ie;obtain⟨d,u1,u2⟩:=q5 s' R' ie;refine⟨d,u1,u2.other λj hj=>⟨?_,λcs' hj'=>?_⟩⟩
   .rcases hj with h |⟨f',h⟩
    .rw[cN _ (jd j (by rw[h];simp))]
    .rw[cN _ (jd j (by rw[h];simp))]
   .rcases hj with h |⟨f',h⟩
    .exact keep j _ (by rw[h];simp) (by rw[h];simp[hs]) (by rw[h];simp) hj'
    .exact keep j _ (by rw[h];simp) (by rw[h];simp) (by rw[h];simp[hs]) hj'
theorem oQ(hi:i∈ids)(hc:H.bx[i]? =Z cs):(kg H ids).bx[bU ids i]? =Z (D.aU (bU ids) cs):=by
 unfold kg;simp only;rw[cG,qb hi];simp[im,hc]
theorem Xy(g:Nat->Nat):∀(ps:List PD),D.aU g (ps.map .p)=ps.map .p
 |[]=>rfl
 |p::ps=>by simp[D.aU,D.mv,Xy g ps]
theorem Xz(g:Nat->Nat)(l:List Int):D.aU g (bz l)=bz l:=Xy g _
theorem Cg{g:Nat->Nat}{d:D}(h:cs[j]? =Z d):(D.aU g cs)[j]? =Z (d.mv g):=by
 rw[pn,cG,h];rfl
theorem Kh{d:D}(h:cs[j]? =Z d):∀x∈d.refs,x∈D.ai cs:=by
 induction cs generalizing j with
 |nil=>simp at h
 |cons c cs ih=>
  intro x hx;simp only[D.ai,cx];cases j with
  |zero=>cases h;exact .inl hx
  |succ j=>exact .inr (ih (by simpa using h) x hx)
def zU(lab:Nat->ep)(ids:List Nat)(j:Nat):ep:=if j<O ids then lab (ids.getD j 0) else .none
theorem vF(h:i∈ids):zU lab ids (bU ids i)=lab i:=by
 obtain⟨h2,h3⟩:=af.1 (qb h);simp[zU,h2,im,h3]
theorem fE.sub{d:D}(r:fE H d l)(h:∀i∈cK d,i∈ids):fE (kg H ids) (d.mv (bU ids)) l/\∀j∈cK (d.mv (bU ids)),∃i∈cK d,j=bU ids i:=by
 cases r with
 |aj=>exact⟨.aj,λj hj=>by cases hj⟩
 |emp=>exact⟨.emp,λj hj=>by cases hj⟩
 |row i l hi hne=>
  have h1:=h i (by simp[cK]);refine⟨.row _ _ (by rw[oQ h1 hi,Xz]) hne,λj hj=>⟨i,by simp[cK],?_⟩⟩;simpa[D.mv,cK] using hj
theorem Fp{d:D}:∀i∈cK d,i∈d.refs:=by
 intro i h;cases d<;>simp_all[cK,D.refs]
theorem nD.sub(r:nD H lab m at_ st lp S)(hs:nu H ids)(hm:m∈ids):
    nD (kg H ids) (zU lab ids) (bU ids m) (at_.mv (bU ids)) st lp S:=by
 obtain⟨h1,sd,h2,h3⟩:=r;refine⟨by rw[vF hm];exact h1,sd.mv (bU ids),by rw[oQ hm h2];rfl,?_⟩;rcases h3 with⟨rfl,rfl⟩ |⟨s0,ds,rfl,q2,q3,q4,q5⟩
 .exact .inl ⟨rfl,rfl⟩
 have i0:s0∈ids:=hs m hm _ h2 s0 (by simp[D.ai,D.refs]);refine .inr ⟨bU ids s0,_,rfl,by rw[vF i0];exact q2,oQ i0 q3,by rw[pn,bT];exact q4,λs R hR=>?_⟩;obtain⟨d,w1,w2⟩:=q5 s R hR;refine⟨_,Cg w1,?_⟩;rcases w2 with⟨rfl,rfl⟩ |⟨k,cs,rfl,w3,w4,w5,w6⟩
 .exact .inl ⟨rfl,rfl⟩
 have ik:k∈ids:=hs s0 i0 _ q3 k (Kh w1 k (by simp[D.refs]));refine .inr ⟨bU ids k,_,rfl,by rw[vF ik];exact w3,oQ ik w4,by rw[pn,bT];exact w5,λf a l hf=>?_⟩;obtain⟨e1,d',e2,e3,e4⟩:=w6 f a l hf;have ir:∀i∈cK d',i∈ids:=λi hi=>hs k ik _ w4 i (Kh e2 i (Fp i hi));obtain⟨g1,g2⟩:=e3.sub ir;refine⟨Cg e1,_,Cg e2,g1,λj hj=>?_⟩;obtain⟨i,hi,rfl⟩:=g2 j hj;rw[vF (ir i hi)];exact e4 i hi
theorem fE.map{g:Nat->Nat}(h:∀(i:Nat) cs,H.bx[i]? =Z cs->H2.bx[g i]? =Z (D.aU g cs)){d:D}(r:fE H d l):fE H2 (d.mv g) l/\∀j∈cK (d.mv g),∃i∈cK d,j=g i/\∃cs,H.bx[i]? =Z cs:=by
 cases r with
 |aj=>exact⟨.aj,λj hj=>by cases hj⟩
 |emp=>exact⟨.emp,λj hj=>by cases hj⟩
 |row i l hi hne=>
  refine⟨.row _ _ (by rw[h i _ hi,Xz]) hne,λj hj=>⟨i,by simp[cK],?_,_,hi⟩⟩;simpa[D.mv,cK] using hj
theorem nD.map{g:Nat->Nat}{lab2:Nat->ep}(h:∀(i:Nat) cs,H.bx[i]? =Z cs->H2.bx[g i]? =Z (D.aU g cs))(hl:∀(i:Nat) cs,H.bx[i]? =Z cs->lab2 (g i)=lab i)(r:nD H lab m at_ st lp S):
    nD H2 lab2 (g m) (at_.mv g) st lp S:=by
 obtain⟨h1,sd,h2,h3⟩:=r;refine⟨by rw[hl m _ h2];exact h1,sd.mv g,by rw[h m _ h2];rfl,?_⟩;rcases h3 with⟨rfl,rfl⟩ |⟨s0,ds,rfl,q2,q3,q4,q5⟩
 .exact .inl ⟨rfl,rfl⟩
 refine .inr ⟨g s0,_,rfl,by rw[hl s0 _ q3];exact q2,h s0 _ q3,by rw[pn,bT];exact q4,λs R hR=>?_⟩;obtain⟨d,w1,w2⟩:=q5 s R hR;refine⟨_,Cg w1,?_⟩;rcases w2 with⟨rfl,rfl⟩ |⟨k,cs,rfl,w3,w4,w5,w6⟩
 .exact .inl ⟨rfl,rfl⟩
 refine .inr ⟨g k,_,rfl,by rw[hl k _ w4];exact w3,h k _ w4,by rw[pn,bT];exact w5,λf a l hf=>?_⟩;obtain⟨e1,d',e2,e3,e4⟩:=w6 f a l hf;obtain⟨g1,g2⟩:=e3.map h;refine⟨Cg e1,_,Cg e2,g1,λj hj=>?_⟩;obtain⟨i,hi,rfl,GA,N0⟩:=g2 j hj;rw[hl i _ N0];exact e4 i hi
theorem aiq(hn:ids.Nodup)(hj:j<O ids):bU ids ids[j]=j:=by
 have h1:=qb (dw hj);have h2:ids[j]? =Z ids[j]:=aD hj;exact(List.getElem?_inj hj hn |>.1 (h2.trans h1.symm)).symm
def nE(H:Hp)(ids:List Nat)(Hs:Hp):Hp:=
 ⟨bZ H.bx ids ((Hs.bx.take (O ids)).map (D.aU (bK ids (O H.bx))))++(Hs.bx.drop (O ids)).map (D.aU (bK ids (O H.bx))),H.tk⟩
theorem Ch(hn:ids.Nodup)(hv:∀x∈ids,x<O H.bx)(hl:O ids<=O Hs.bx)(hc:Hs.bx[j]? =Z cs):
    (nE H ids Hs).bx[bK ids (O H.bx) j]? =Z (D.aU (bK ids (O H.bx)) cs):=by
 obtain⟨hj,hjc⟩:=af.1 hc;unfold nE;simp only;by_cases hlt:j<O ids
 .have ho:bK ids (O H.bx) j=ids[j]:=by simp[bK,hlt]
  have hm:ids[j]<O H.bx:=hv _ (dw hlt);rw[aT (by rw[ic,ho];exact hm),ho];rw[A7 ids _ _ j ids[j] hn (aD hlt) hm (by simp;omega)];rw[cG,gL,if_pos hlt,hc];rfl
 .have ho:bK ids (O H.bx) j=O H.bx+(j-O ids):=by simp[bK,hlt]
  rw[cR (by rw[ic,ho];omega),ic,ho,cG,lN];have :O ids+(O H.bx+(j-O ids)-O H.bx)=j:=by omega
  rw[this,hc];rfl
def Ki(lab:Nat->ep)(ids:List Nat)(N x:Nat):ep:=if x<N then(if x∈ids then lab (bU ids x) else .none) else lab (O ids+(x-N))
theorem air{N:Nat}(hn:ids.Nodup)(hv:∀x∈ids,x<N):Ki lab ids N (bK ids N j)=lab j:=by
 by_cases hlt:j<O ids
 .have ho:bK ids N j=ids[j]:=by simp[bK,hlt]
  have hm:ids[j]<N:=hv _ (dw hlt);rw[ho];simp[Ki,hm,aiq hn hlt]
 .have ho:bK ids N j=N+(j-O ids):=by simp[bK,hlt]
  rw[ho];have :O ids+(N+(j-O ids)-N)=j:=by omega
  simp only[Ki];rw[if_neg (by omega),this]
theorem nD.out(hn:ids.Nodup)(hv:∀x∈ids,x<O H.bx)(hl:O ids<=O Hs.bx)(r:nD Hs lab m at_ st lp S):
    nD (nE H ids Hs) (Ki lab ids (O H.bx)) (bK ids (O H.bx) m) (at_.mv (bK ids (O H.bx))) st lp S:=
 r.map (λ_ _ h=>Ch hn hv hl h) λ_ _ _=>air hn hv
structure Wk (H:Hp) (lab:Nat->ep) (c v m:Nat) (at_:D) (al:List Int) (bs:Sl Bool) (st lp:Int) (S:List (List (Int×List Int))):Prop where
 mod:nD H lab m at_ st lp S
 ats:fE H at_ al
 mP:∀i∈cK at_,lab i= .lH 2
 cc:H.bx[c]? =Z [.fn 73 [] [.box v 0]]
 cl:lab c= .lH 0
 vv:H.bx[v]? =Z [.p (dr bs)]
 vl:lab v= .lH 1
 rf:∀(i:Nat) cs,H.bx[i]? =Z cs->∀x∈D.ai cs,lab x≠.none
 tk:∀(i:Nat) cs,H.bx[i]? =Z cs->D.aC cs=[]
 fr:∀j,O H.bx<=j->lab j= .none
theorem Wk.lt{c:Nat}(w:Wk H lab c v m at_ al bs st lp S){x:Nat}(h:lab x≠.none):x<O H.bx:=by
 refine pL λhn=>h (w.fr x (by omega))
theorem Wk.ok{c:Nat}(w:Wk H lab c v m at_ al bs st lp S):H.Ok:=
 λi cs hi x hx=>w.lt (w.rf i cs hi x hx)
theorem Wk.snoc{c:Nat}(w:Wk H lab c v m at_ al bs st lp S)(cs:List D)(hr:∀x∈D.ai cs,lab x≠.none)(ht:D.aC cs=[])(tk:List Nat):Wk ⟨H.bx++[cs],tk⟩ lab c v m at_ al bs st lp S:=by
 have hx:∀(i:Nat) ds,H.bx[i]? =Z ds->(H.bx++[cs])[i]? =Z ds:=λi ds h=>by
  rw[aT (af.1 h).1,h]
 have hy:∀(i:Nat) ds,(H.bx++[cs])[i]? =Z ds->H.bx[i]? =Z ds\/ds=cs:=λi ds h=>by
  rcases fA i (O H.bx) with hl |hl
  .rw[aT hl] at h;exact .inl h
  .rw[cR hl] at h;have:=bB h;exact .inr (by simpa using this)
 refine⟨w.mod.ext hx,w.ats.other λi hi=>?_,w.mP,hx _ _ w.cc,w.cl,hx _ _ w.vv,w.vl,λi ds hi x eE=>?_,λi ds hi=>?_,λj hj=>w.fr j (by simp at hj;omega)⟩
 .have:=w.lt (x:=i) (by rw[w.mP i hi];simp);exact aT this
 .rcases hy i ds hi with h |rfl
  .exact w.rf i ds h x eE
  .exact hr x eE
 .rcases hy i ds hi with h |rfl
  .exact w.tk i ds h
  .exact ht
theorem ais{d:D}:∀x∈D.ai (cs.set j d),x∈D.ai cs\/x∈d.refs:=by
 induction cs generalizing j with
 |nil=>intro x hx;exact .inl hx
 |cons a cs ih=>
  intro x hx;cases j with
  |zero=>
   simp only[List.set_cons_zero,D.ai,cx] at hx|-;rcases hx with h |h
   .exact .inr h
   .exact .inl (.inr h)
  |succ j=>
   simp only[List.set_cons_succ,D.ai,cx] at hx|-;rcases hx with h |h
   .exact .inl (.inl h)
   .rcases ih x h with h |h
    .exact .inl (.inr h)
    .exact .inr h
theorem ait{d:D}(h:D.aC cs=[])(hd:d.bk=[]):D.aC (cs.set j d)=[]:=by
 induction cs generalizing j with
 |nil=>exact h
 |cons a cs ih=>
  simp only[D.aC,tX] at h;cases j with
  |zero=>simp[D.aC,hd,h.2]
  |succ j=>simp[D.aC,h.1,ih h.2]
theorem Wk.ins{c:Nat}(w:Wk H lab c v m at_ al bs st lp S){s:Nat}(hR:S[s]? =Z R)(hf:R[f]? =Z (a,l))(hl':l'≠[]):
    ∃s0 ds k cs d',H.bx[m]? =Z [at_,.p (.int .i64 st),.ae s0 78 (O S) 1,.p (.int .i64 lp)]/\H.bx[s0]? =Z ds/\O ds=O S/\ds[s]? =Z (.ae k 85 (O R) 2)/\k<O H.bx/\H.bx[k]? =Z cs/\O cs=O R*2/\cs[2*f+1]? =Z d'/\fE H d' l/\k∉cK d'/\(∀i∈cK d',i<O H.bx)/\
     ∀(bx:List (List D)) (tk:List Nat),O bx=O H.bx->(∀j,j∉cK d'->bx[j]? =H.bx[j]?)->(∀(j:Nat) ds,bx[j]? =Z ds->H.bx[j]? =Z ds\/ds=[])->
      ∃bh,Wk ⟨(bx++[bz l']).set k (cs.set (2*f+1) (.ae (O H.bx) 3 (O l') 1)),tk⟩ bh c v m at_ al bs st lp (S.set s (R.set f (a,l')))/\∀j,j≠O H.bx->bh j=lab j:=by
 obtain⟨s0,ds,k,cs,d',h1,h2,h3,h4,h4b,h5,h6,h7,h8,h9,h10⟩:=w.mod.ins hR hf hl';have eM:k<O H.bx:=(af.1 h5).1;refine⟨s0,ds,k,cs,d',h1,h2,h3,h4,eM,h5,h6,h7,h8,h9,λi hi=>?_,λbx tk b1 b2 b3=>?_⟩
 .cases h8 with
  |aj=>cases hi
  |emp=>cases hi
  |row i2 l hb hne=>
   have :i=i2:=by simpa[cK] using hi
   subst this;exact(af.1 hb).1
 obtain⟨bh,q1,q2,q3,q4⟩:=h10 bx tk b1 b2 (w.fr _ (aK _));have hne:∀j,lab j≠.none->bh j=lab j:=λj hj=>q2 j λh=>hj (by rw[h];exact w.fr _ (aK _));have ot:∀j,lab j≠.none->bh j≠.none:=λj hj=>by rw[hne j hj];exact hj
 have hc:∀(i:Nat) es,((bx++[bz l']).set k (cs.set (2*f+1) (.ae (O H.bx) 3 (O l') 1)))[i]? =Z es->es=cs.set (2*f+1) (.ae (O H.bx) 3 (O l') 1)\/es=bz l'\/es=[]\/H.bx[i]? =Z es:=by
  intro i es h;rw[nU] at h;split at h
  .split at h
   .cases h;exact .inl rfl
   .cases h
  .rcases fA i (O bx) with hl |hl
   .rw[aT hl] at h;rcases b3 i es h with h |h
    .exact .inr (.inr (.inr h))
    .exact .inr (.inr (.inl h))
   .rw[cR hl] at h;have:=bB h;exact .inr (.inl (by simpa using this))
 refine⟨bh,⟨q1,?_,λi hi=>?_,q4 _ _ _ w.cl w.cc,?_,q4 _ _ _ w.vl w.vv,?_,λi es hi x hx=>?_,λi es hi=>?_,λj hj=>?_⟩,q2⟩
 .have hr:=w.ats;have hl:=w.mP;generalize at_=at' at hr hl;generalize al=al' at hr;cases hr with
  |aj=>exact .aj
  |emp=>exact .emp
  |row i l hb hne=>exact .row i _ (q4 i 2 _ (hl i (by simp[cK])) hb) hne
 .rw[hne i (by rw[w.mP i hi];simp)];exact w.mP i hi
 .rw[hne c (by rw[w.cl];simp)];exact w.cl
 .rw[hne v (by rw[w.vl];simp)];exact w.vl
 .rcases hc i es hi with rfl |rfl |rfl |h
  .rcases ais x hx with h |h
   .exact ot x (w.rf k cs h5 x h)
   .have :x=O H.bx:=by simpa[D.refs] using h
    rw[this];exact q3
  .rw[Cb] at hx;cases hx
  .cases hx
  .exact ot x (w.rf i es h x hx)
 .rcases hc i es hi with rfl |rfl |rfl |h
  .exact ait (w.tk k cs h5) rfl
  .exact Cc l'
  .rfl
  .exact w.tk i es h
 .simp[b1] at hj;rw[q2 j (by omega)];exact w.fr j (by omega)
theorem Wk.take{c:Nat}(w:Wk H lab c v m at_ al bs st lp S){n:Nat}(hn:n<=O H.bx)(hr:∀i,i<n->∀cs,H.bx[i]? =Z cs->∀x∈D.ai cs,x<n)(hm:m<n)(hc:c<n)(tk:List Nat):
    ∃bh,Wk ⟨H.bx.take n,tk⟩ bh c v m at_ al bs st lp S/\∀j,j<n->bh j=lab j:=by
 obtain⟨bh,l1,l2⟩:∃bh:Nat->ep,(∀j,j<n->bh j=lab j)/\∀j,n<=j->bh j= .none:=
  ⟨λj=>if j<n then lab j else .none,λj hj=>by simp[hj],λj hj=>by simp;intro h;omega⟩
 have hg:∀i,i<n->∀cs,H.bx[i]? =Z cs->(H.bx.take n)[i]? =Z cs:=λi hi cs h=>by
  rw[gL,if_pos hi,h]
 have hb:∀(i:Nat) cs,(H.bx.take n)[i]? =Z cs->i<n/\H.bx[i]? =Z cs:=λi cs h=>by
  rw[gL] at h;split at h
  .rename_i hi;exact⟨hi,h⟩
  .cases h
 have hv:v<n:=hr c hc _ w.cc v (by simp[D.ai,D.refs]);have hrow:∀{d:D} {l:List Int},fE H d l->(∀i∈cK d,i<n)->fE ⟨H.bx.take n,tk⟩ d l:=λh h2=>by
  cases h with
  |aj=>exact .aj
  |emp=>exact .emp
  |row i l hb hne=>exact .row i _ (hg i (h2 i (by simp[cK])) _ hb) hne
 obtain⟨m1,sd,m2,m3⟩:=w.mod;have hat:∀i∈cK at_,i<n:=λi hi=>hr m hm _ m2 i (by simp[D.ai,Fp i hi]);refine⟨bh,⟨⟨(l1 _ hm).trans m1,sd,hg m hm _ m2,?_⟩,hrow w.ats hat,λi hi=>(l1 _ (hat i hi)).trans (w.mP i hi),hg c hc _ w.cc,(l1 _ hc).trans w.cl,hg v hv _ w.vv,(l1 _ hv).trans w.vl,λi cs hi x hx=>?_,λi cs hi=>w.tk i cs (hb i cs hi).2,λj hj=>?_⟩,l1⟩
 .rcases m3 with m3 |⟨s0,ds,rfl,q2,q3,q4,q5⟩
  .exact .inl m3
  have i0:s0<n:=hr m hm _ m2 s0 (by simp[D.ai,D.refs]);refine .inr ⟨s0,ds,rfl,(l1 _ i0).trans q2,hg _ i0 _ q3,q4,λs R hR=>?_⟩;obtain⟨d,w1,w2⟩:=q5 s R hR;refine⟨d,w1,?_⟩;rcases w2 with w2 |⟨k,cs,rfl,w3,w4,w5,w6⟩
  .exact .inl w2
  have ik:k<n:=hr s0 i0 _ q3 k (Kh w1 k (by simp[D.refs]));refine .inr ⟨k,cs,rfl,(l1 _ ik).trans w3,hg _ ik _ w4,w5,λf a l hf=>?_⟩;obtain⟨e1,d',e2,e3,e4⟩:=w6 f a l hf;have ir:∀i∈cK d',i<n:=λi hi=>hr k ik _ w4 i (Kh e2 i (Fp i hi));exact⟨e1,d',e2,hrow e3 ir,λi hi=>(l1 _ (ir i hi)).trans (e4 i hi)⟩
 .obtain⟨h1,h2⟩:=hb i cs hi;have:=hr i h1 cs h2 x hx;rw[l1 _ this];exact w.rf i cs h2 x hx
 .exact l2 j (by simp at hj;omega)
variable{c:Nat}     
theorem Wk.XA(w:Wk H lab c v m at_ al bs st lp S)(hs:nu H ids)(hc:c∈ids):v∈ids:=
 hs c hc _ w.cc v (by simp[D.ai,D.refs])
theorem Wk.XB(w:Wk H lab c v m at_ al bs st lp S)(hs:nu H ids)(hm:m∈ids):∀r∈at_.refs,r∈ids:=by
 obtain⟨_,sd,m2,_⟩:=w.mod;exact λr hr=>hs m hm _ m2 r (by simp[D.ai,hr])
theorem Wk.sub(w:Wk H lab c v m at_ al bs st lp S)(hs:nu H ids)(hv:∀x∈ids,x<O H.bx)(hc:c∈ids)(hm:m∈ids):
    Wk (kg H ids) (zU lab ids) (bU ids c) (bU ids v) (bU ids m) (at_.mv (bU ids)) al bs st lp S:=by
 have Ci:=w.XA hs hc;have hat:=w.XB hs hm;have hb:∀(i:Nat) cs,(kg H ids).bx[i]? =Z cs->∃i0∈ids,∃cs0,H.bx[i0]? =Z cs0/\cs=D.aU (bU ids) cs0:=by
  intro i cs hi;unfold kg at hi;simp only[cG] at hi;obtain⟨j,hj,rfl⟩:=ak.1 hi;have hm:j∈ids:=bB hj;refine⟨j,hm,_,?_,rfl⟩;simp[im,hv j hm]
 obtain⟨g1,g2⟩:=w.ats.sub (ids:=ids) λi hi=>hat i (Fp i hi);refine⟨w.mod.sub hs hm,g1,λi hi=>?_,by rw[oQ hc w.cc];rfl,by rw[vF hc];exact w.cl,by rw[oQ Ci w.vv];rfl,by rw[vF Ci];exact w.vl,λi cs hi x hx=>?_,λi cs hi=>?_,λj hj=>?_⟩
 .obtain⟨j,hj,rfl⟩:=g2 i hi;rw[vF (hat j (Fp j hj))];exact w.mP j hj
 .obtain⟨i0,h1,cs0,h2,rfl⟩:=hb i cs hi;rw[si] at hx;obtain⟨y,hy,rfl⟩:=cA.1 hx;rw[vF (hs i0 h1 _ h2 y hy)];exact w.rf i0 cs0 h2 y hy
 .obtain⟨i0,h1,cs0,h2,rfl⟩:=hb i cs hi;rw[sj];exact w.tk i0 cs0 h2
 .unfold zU;rw[if_neg];unfold kg at hj;simp at hj;omega
theorem Wk.out(w:Wk H lab c v m at_ al bs st lp S)(hn:ids.Nodup)(hs:nu H ids)(hv:∀x∈ids,x<O H.bx)(hc:c∈ids)(hm:m∈ids){di:Nat->ep}
    (ws:Wk Hs di (bU ids c) (bU ids v) (bU ids m) (at_.mv (bU ids)) al bs st lp S') (hl:O ids<=O Hs.bx) (hk:∀j,j<O ids->di j=zU lab ids j):
    ∃lab2,Wk (nE H ids Hs) lab2 c v m at_ al bs st lp S'/\(∀j,j<O H.bx->lab2 j=lab j)/\(∀j,j∉ids->j<O H.bx->(nE H ids Hs).bx[j]? =H.bx[j]?):=by
 obtain⟨lab2,l1,l2⟩:∃lab2:Nat->ep,(∀j,j<O H.bx->lab2 j=lab j)/\∀j,O H.bx<=j->lab2 j=di (O ids+(j-O H.bx)):=
  ⟨λj=>if j<O H.bx then lab j else di (O ids+(j-O H.bx)),λj hj=>by simp[hj],λj hj=>by simp;intro h;omega⟩
 have Ci:=w.XA hs hc;have hat:=w.XB hs hm;have ho:∀j,lab2 (bK ids (O H.bx) j)=di j:=λj=>by
  by_cases hlt:j<O ids
  .have ho:bK ids (O H.bx) j=ids[j]:=by simp[bK,hlt]
   have kN:ids[j]<O H.bx:=hv _ (dw hlt);rw[ho,l1 _ kN,hk j hlt];simp[zU,hlt]
  .have ho:bK ids (O H.bx) j=O H.bx+(j-O ids):=by simp[bK,hlt]
   rw[ho,l2 _ (by omega)];congr 1
   omega
 have e1:∀{i},i∈ids->bK ids (O H.bx) (bU ids i)=i:=λh=>NV h;have e2:(at_.mv (bU ids)).mv (bK ids (O H.bx))=at_:=IP at_ λr hr=>e1 (hat r hr);have gQ:∀j,j∉ids->j<O H.bx->(nE H ids Hs).bx[j]? =H.bx[j]?:=λj h1 h2=>by
  unfold nE;simp only;rw[aT (by rw[ic];exact h2),wH _ _ _ _ h1]
 have hb:∀(i:Nat) cs,(nE H ids Hs).bx[i]? =Z cs->(i<O H.bx/\H.bx[i]? =Z cs)\/∃j cs0,Hs.bx[j]? =Z cs0/\cs=D.aU (bK ids (O H.bx)) cs0:=λi cs hi=>by
  by_cases cU:i∈ids
  .have h1:=qb cU;obtain⟨h2,h3⟩:=af.1 h1;have h4:Hs.bx[bU ids i]? =Z Hs.bx[bU ids i]:=aD (by omega);have h5:=Ch hn hv hl h4;rw[e1 cU,hi] at h5;exact .inr ⟨_,_,h4,by cases h5;rfl⟩
  .by_cases hlt:i<O H.bx
   .rw[gQ i cU hlt] at hi;exact .inl ⟨hlt,hi⟩
   .unfold nE at hi;simp only at hi;rw[cR (by rw[ic];omega),ic,cG] at hi;obtain⟨cs0,h1,rfl⟩:=ak.1 hi;rw[lN] at h1;exact .inr ⟨_,cs0,h1,rfl⟩
 have hlen:O (nE H ids Hs).bx=O H.bx+(O Hs.bx-O ids):=by
  unfold nE;simp[ic]
 obtain⟨g1,g2⟩:=ws.ats.map (H2:=nE H ids Hs) (g:=bK ids (O H.bx)) λi cs h=>Ch hn hv hl h;rw[e2] at g1 g2;have yA:=ws.mod.map (H2:=nE H ids Hs) (g:=bK ids (O H.bx)) (lab2:=lab2) (λ_ _ h=>Ch hn hv hl h) λi _ _=>ho i;rw[e2,e1 hm] at yA;have hcc:=Ch hn hv hl ws.cc;rw[e1 hc] at hcc;have wO:=Ch hn hv hl ws.vv;rw[e1 Ci] at wO;refine⟨lab2,⟨yA,g1,λi hi=>?_,?_,?_,wO,?_,λi cs hi x hx=>?_,λi cs hi=>?_,λj hj=>?_⟩,l1,gQ⟩
 .obtain⟨j,hj,rfl,-⟩:=g2 i hi;rw[ho];exact ws.mP j hj
 .rw[hcc];simp[D.aU,D.mv,e1 Ci]
 .have:=ho (bU ids c);rw[e1 hc] at this;rw[this];exact ws.cl
 .have:=ho (bU ids v);rw[e1 Ci] at this;rw[this];exact ws.vl
 .rcases hb i cs hi with⟨_,h⟩ |⟨j,cs0,h,rfl⟩
  .have:=w.rf i cs h x hx;rw[l1 x (w.lt this)];exact this
  .rw[si] at hx;obtain⟨y,hy,rfl⟩:=cA.1 hx;rw[ho];exact ws.rf j cs0 h y hy
 .rcases hb i cs hi with⟨_,h⟩ |⟨j,cs0,h,rfl⟩
  .exact w.tk i cs h
  .rw[sj];exact ws.tk j cs0 h
 .rw[l2 j (by rw[hlen] at hj;omega)];exact ws.fr _ (by rw[hlen] at hj;omega)
theorem Wk.call(w:Wk H lab c v m at_ al bs st lp S){args:List D}{K:Nat}(ht:D.aC args=[])(ha:∀x∈D.ai args,lab x≠.none)(hc:c∈D.ai args)(hm:m∈D.ai args)
    (h:∀(g:Nat->Nat) (H':Hp) (bh:Nat->ep) (at':D),Wk H' bh (g c) (g v) (g m) at' al bs st lp S->(∀x∈D.ai args,bh (g x)=lab x)->O H'.bx<=O H.bx->H'.tk=[]->
     ∃Hs di,call pg f (D.aU g args) H'=Z (.val .undef,Hs)/\Wk Hs di (g c) (g v) (g m) at' al bs st lp S'/\O H'.bx<=O Hs.bx/\O Hs.bx<=O H'.bx+K/\∀j,j<O H'.bx->di j=bh j):
    ∃H2 lab2,au (call pg) f args H=Z (.val .undef,H2)/\Wk H2 lab2 c v m at_ al bs st lp S'/\H2.tk=H.tk/\O H.bx<=O H2.bx/\O H2.bx<=O H.bx+K/\(∀j,j<O H.bx->lab2 j=lab j)/\∀j,j<O H.bx->lab j= .none->H2.bx[j]? =H.bx[j]?:=by
 obtain⟨ids,i1,i2,i3,i4,i5,i6⟩:=NW (c:=Go.Vs.call pg) (f:=f) (args:=args) w.ok ht w.tk λx hx=>w.lt (ha x hx);have hc:=i3 c hc;have hm:=i3 m hm;have ws:=w.sub i4 i2 hc hm;have bW:O (kg H ids).bx=O ids:=by unfold kg;simp
 obtain⟨Hs,di,h1,h2,h3,hK,h4⟩:=h (bU ids) _ _ _ ws (λx hx=>vF (i3 x hx)) (by rw[bW];exact IJ _ _ i1 i2) rfl;rw[bW] at h3 h4 hK;have N3:=i5 (λx=>lab x≠.none) ha λi cs _ hi x hx=>w.rf i cs hi x hx;have Ep:∀j,lab j= .none->j∉ids:=λj hj cU=>N3 j cU hj;obtain⟨k,hk,jB⟩:=i6 _ _ h1 h3 h2.ok (λcs hcs=>by
  obtain⟨i,hi⟩:=dV hcs;exact h2.tk i cs hi) (by simp[D.refs]) rfl
 rcases hk with⟨rfl,-,hk⟩ |rfl
 .have hr:∀i,i<O ids->∀cs,Hs.bx[i]? =Z cs->∀x∈D.ai cs,x<O ids:=λi hi cs hcs=>by
   refine hk cs ?_;have :(Hs.bx.take (O ids))[i]? =Z cs:=by rw[gL,if_pos hi,hcs]
   exact bB this
  have dN:=(af.1 (qb hm)).1;have dG:=(af.1 (qb hc)).1;obtain⟨afl,t1,t2⟩:=h2.take h3 hr dN dG [];have lu:(Hs.bx.take (O ids)).length=O ids:=by simp;omega
  obtain⟨lab2,o1,o2,o3⟩:=w.out i1 i4 i2 hc hm t1 (by rw[lu];exact aK _) λj hj=>(t2 j hj).trans (h4 j hj);have e:nE H ids ⟨Hs.bx.take (O ids),[]⟩=⟨bZ H.bx ids ((Hs.bx.take (O ids)).map (D.aU (bK ids (O H.bx))))++((Hs.bx.drop (O ids)).map (D.aU (bK ids (O H.bx)))).take 0,H.tk⟩:=by
   unfold nE;simp only[Q8,Nat.min_self,tY];have ed:(Hs.bx.take (O ids)).drop (O ids)=[]:=Gd (List.length_take_le _ _);rw[ed];rfl
  rw[e] at o1 o3;refine⟨_,lab2,jB,o1,rfl,?_,?_,o2,λj hj hl=>o3 j (Ep j hl) hj⟩
  .simp[ic]
  .simp[ic];try omega
 .obtain⟨lab2,o1,o2,o3⟩:=w.out i1 i4 i2 hc hm h2 h3 h4;have e:nE H ids Hs=⟨bZ H.bx ids ((Hs.bx.take (O ids)).map (D.aU (bK ids (O H.bx))))++((Hs.bx.drop (O ids)).map (D.aU (bK ids (O H.bx)))).take (O Hs.bx-O ids),H.tk⟩:=by
   have ed:((Hs.bx.drop (O ids)).map (D.aU (bK ids (O H.bx)))).take (O Hs.bx-O ids)=(Hs.bx.drop (O ids)).map (D.aU (bK ids (O H.bx))):=fK (by simp);rw[ed];rfl
  rw[e] at o1 o3;refine⟨_,lab2,jB,o1,rfl,?_,?_,o2,λj hj hl=>o3 j (Ep j hl) hj⟩
  .simp[ic]
  .simp[ic];try omega

end Go.Proofs.YtgplgbonlnodeaaGreatDoor

namespace Go.Proofs.YtgplgbonlnodeaaGreatDoor
def gu(t:Int):List Int->List Int
 |[]=>[t]
 |x::r=>if x<t then x::gu t r else t::x::r
theorem XC(t:Int)(l:List Int):gu t l≠[]:=by
 cases l with
 |nil=>simp[gu]
 |cons x r=>simp only[gu];split<;>simp
theorem PG{t:Int}:∀{l:List Int} {k:Nat},At l t k->dO l k t=gu t l
 |[],k,h=>by
  have:=h.1;have :k=0:=by simpa using this
  subst this;rfl
 |x::r,0,h=>by
  have:=h.2.2 0 (by simp) (aK _);simp only[pR] at this;simp only[dO,tY,fF,pM,gu];rw[if_neg (by omega)]
 |x::r,k+1,h=>by
  have h1:=h.2.1 0 (by simp) (Nat.succ_pos k);simp only[pR] at h1;have ih:=PG (t:=t) (l:=r) (k:=k) ⟨by have:=h.1;simpa using this,λi hi hik=>h.2.1 (i+1) (by simpa using hi) (by omega),λi hi hik=>h.2.2 (i+1) (by simpa using hi) (by omega)⟩;simp only[gu];rw[if_pos h1,<-ih];simp[dO]
variable{at_:D}{H:Hp}{r st lp a:Int}{R:List (Int×List Int)}{L:List Bool}{cs:List D}{l al:List Int}{es:List PD}{f v m nb sz by':Nat}{lab:Nat->ep}{Q:Out->Env->Hp->Prop}{x:PD}{bs:Sl Bool}{α:Type}
theorem Cj{fc:FC}{aa:List D}{y:D}{Q:Hp->Prop}(hF:pg.F f=Z fc)(kn:pg.lib f aa H=Y)(hn:O aa=fc.np)(hd:fc.gW=Y)(hz:fc.av=false)
    (h:post (λo e H1=>(o= .ret\/o= .norm)/\mD pg.G e H1 fc.res=Z y/\Q H1) (aq (call pg) pg.G aM fc.body ⟨entry 0 aa,H⟩)):
    ∃Hs,call pg f aa H=Z (.val y,Hs)/\Q Hs:=by
 obtain⟨o,e,H1,hx,ho,hr,hq⟩:=bC h;have fu:finish pg.G fc.res (Z (o,⟨e,H1⟩))=Z (.val y,H1):=by
  rcases ho with rfl |rfl
  .simp only[finish,hr]
  .simp only[finish,hr]
 exact⟨H1,tD kn hF hn (by simp only[hz,mE,iE,hd,hx,fu];rfl),hq⟩
theorem aiu{c:Nat}(cc:H.bx[c]? =Z [.fn 73 [] [.box v 0]])(vv:H.bx[v]? =Z [.p (dr bs)]){k s:Nat}(eU:O (els bs)<4611686018427387904)(hk:k<4611686018427387904)(hb:(els bs).getD k false=false):
    call pg 76 [.p (.agg [.int .i64 ((k+1 :Nat):Int),.int .i64 (s:Int),.int .i64 (f:Int),.int .i64 r]),.box c 0,.box m 0] H=Z (.val .undef,⟨H.bx++[([.p (.int .i64 ((k+1 :Nat):Int)),.p (.int .i64 ((s:Nat):Int)),.p (.int .i64 ((f:Nat):Int)),.p (.int .i64 r)]:List D)],H.tk⟩):=by
 have dG:=(af.1 cc).1;have n9:=(af.1 vv).1;have hc2:∀cs:List D,(H.bx++[cs])[c]? =Z [.fn 73 [] [.box v 0]]:=λcs=>by rw[aT dG,cc]
 have hv2:∀cs:List D,(H.bx++[cs])[v]? =Z [.p (dr bs)]:=λcs=>by rw[aT n9,vv]
 have hval:=PC (H:=⟨H.bx++[([.p (.int .i64 ((k+1 :Nat):Int)),.p (.int .i64 ((s:Nat):Int)),.p (.int .i64 ((f:Nat):Int)),.p (.int .i64 r)]:List D)],H.tk⟩) bs k eU hk (hv2 _);rw[hb] at hval;generalize ((k+1 :Nat):Int)=k1 at *;generalize ((s:Nat):Int)=s1 at *;generalize ((f:Nat):Int)=f1 at *;have hf:=rf a76
 conv at hf=>rhs;reduce
 obtain⟨Hs,h1,h2⟩:=Cj (f:=76) (y:=.undef) (H:=H) (Q:=λHs=>Hs=⟨H.bx++[[.p (.int .i64 k1),.p (.int .i64 s1),.p (.int .i64 f1),.p (.int .i64 r)]],H.tk⟩) (aa:=[.p (.agg [.int .i64 k1,.int .i64 s1,.int .i64 f1,.int .i64 r]),.box c 0,.box m 0]) hf rfl rfl rfl rfl (by
  clear hf;simp[hc2,hval])
 rw[h1,h2]
theorem xB{i:Nat}{d:D}(h:cs[i]? =Z d)(hd:ay [d]=false):ay cs=false:=by
 match cs,h with
 |[],_=>rfl
 |[a],h=>
  cases i with
  |zero=>cases h;exact hd
  |succ i=>simp at h
 |a::b::r,_=>cases a<;>rfl
theorem aiv{d:D}(h:fE H d l):ay [d]=false:=by
 cases h<;>rfl
theorem XD{j:Nat}(h:j<O cs)(d:D):aw cs j [d]=cs.set j d:=by
 unfold aw;rw[List.set_eq_take_append_cons_drop,if_pos h];simp
theorem PH(a b:D):aw [a] 0 [b]=[b]:=rfl
theorem aiw(a b c d:Nat):(D.ae a b c d).one=true:=rfl
theorem zV(x:Nat):(3+2*x=2)=False:=by simp;omega
theorem fw(a b:D)(r:List D):ay (a::b::r)=false:=by cases a<;>rfl
theorem sF(f:Nat)(a c:List D):ay [.fn f a c]=false:=rfl
theorem Fq(b e n sz s:Nat)(i:Int):dE Y s (.ae b e n sz) i=if sz=s/\0<=i/\i<n then Z (.box b (i.toNat*s)) else Y:=rfl
theorem aix{c:Nat}{S:List (List (Int×List Int))}(w:Wk H lab c v m at_ al bs st lp S)
    {k s:Nat}  (eU:O (els bs)<4611686018427387904) (hk:k<4611686018427387904) (hb:(els bs).getD k false=true)    (hR:S[s]? =Z R) (hf:R[f]? =Z (a,l)) (hs:dn l) (hl:O l<1000000) (nG:O H.bx<1000000000):
    ∃Hs di,call pg 76 [.p (.agg [.int .i64 ((k+1 :Nat):Int),.int .i64 (s:Int),.int .i64 (f:Int),.int .i64 r]),.box c 0,.box m 0] H=Z (.val .undef,Hs)/\
     Wk Hs di c v m at_ al bs st lp (S.set s (R.set f (a,gu r l)))/\O H.bx<=O Hs.bx/\O Hs.bx<=O H.bx+3/\∀j,j<O H.bx->di j=lab j:=by
 have bW:s<O S:=(af.1 hR).1;have dZ:f<O R:=(af.1 hf).1;have w1:=w.snoc [.p (.int .i64 ((k+1 :Nat):Int)),.p (.int .i64 ((s:Nat):Int)),.p (.int .i64 ((f:Nat):Int)),.p (.int .i64 r)] (by simp[D.ai,D.refs]) rfl H.tk;have w2:=w1.snoc [.p (.int .i64 r)] (by simp[D.ai,D.refs]) rfl H.tk;obtain⟨s0,ds,q,cs,d',g1,g2,g3,g4,gq,g5,g6,g7,g8,g9,XE,-⟩:=w1.ins hR hf (XC r l);obtain⟨s0',eL,q',cs',d'',u1,u2,u3,u4,uq,u5,u6,u7,u8,u9,u9b,PI⟩:=w2.ins hR hf (XC r l);have lf:∀{i:Nat} {es fs:List D},(H.bx++[([.p (.int .i64 ((k+1 :Nat):Int)),.p (.int .i64 ((s:Nat):Int)),.p (.int .i64 ((f:Nat):Int)),.p (.int .i64 r)]:List D)])[i]? =Z es->(H.bx++[([.p (.int .i64 ((k+1 :Nat):Int)),.p (.int .i64 ((s:Nat):Int)),.p (.int .i64 ((f:Nat):Int)),.p (.int .i64 r)]:List D)]++[fs])[i]? =Z es:=λ{i es fs} h=>by
  rw[aT (af.1 h).1,h]
 dsimp only at g1 g2 g5 u1 u2 u5;have e1:=(lf g1).symm.trans u1;simp only[bM,xY,D.ae.injEq,and_true,true_and] at e1;subst e1;have e2:=(lf g2).symm.trans u2;cases e2;have e4:=g4.symm.trans u4;simp only[bM,D.ae.injEq,and_true] at e4;subst e4;have e5:=(lf g5).symm.trans u5;cases e5;have e7:=g7.symm.trans u7;cases e7;have hc2:=w1.cc;have hv2:=w1.vv;dsimp only at hc2 hv2;have hval:=PC (H:=⟨H.bx++[([.p (.int .i64 ((k+1 :Nat):Int)),.p (.int .i64 ((s:Nat):Int)),.p (.int .i64 ((f:Nat):Int)),.p (.int .i64 r)]:List D)],H.tk⟩) bs k eU hk hv2;rw[hb] at hval;obtain⟨kk,hat,gJ⟩:=g8.search r (by omega) hs;have gi:=hat.1;have hN:(H.bx++[([.p (.int .i64 ((k+1 :Nat):Int)),.p (.int .i64 ((s:Nat):Int)),.p (.int .i64 ((f:Nat):Int)),.p (.int .i64 r)]:List D)]++[([.p (.int .i64 r)]:List D)])[O (H.bx++[([.p (.int .i64 ((k+1 :Nat):Int)),.p (.int .i64 ((s:Nat):Int)),.p (.int .i64 ((f:Nat):Int)),.p (.int .i64 r)]:List D)])]? =Z [.p (.int .i64 r)]:=by simp
 obtain⟨bx,i1,i2,i3,i4⟩:=u8.insert (j:=O (H.bx++[([.p (.int .i64 ((k+1 :Nat):Int)),.p (.int .i64 ((s:Nat):Int)),.p (.int .i64 ((f:Nat):Int)),.p (.int .i64 r)]:List D)])) (k:=kk) (t:=r) hN (λh=>absurd (XE _ h) (Nat.lt_irrefl _)) gi (by omega);rw[PG hat] at i1;have hlen:O (gu r l)=O l+1:=by rw[<-PG hat];simp[dO];omega
 obtain⟨bh,z1,z2⟩:=PI bx H.tk i2 i3 i4;have qY:bx[q]? =Z cs:=(i3 q u9).trans u5;have m1:=xB g4 rfl;have m2:=xB g7 (aiv g8);have hsp:=XD (cs:=cs) (j:=f*2+1) (by omega) (.ae (O (H.bx++[([.p (.int .i64 ((k+1 :Nat):Int)),.p (.int .i64 ((s:Nat):Int)),.p (.int .i64 ((f:Nat):Int)),.p (.int .i64 r)]:List D)]++[([.p (.int .i64 r)]:List D)])) 3 (O l+1) 1);rw[hlen] at z1;rw[tV 2 f] at z1 g7;have kO:q<O bx:=(af.1 qY).1;have PJ:(bx++[bz (gu r l)])[q]? =Z cs:=by rw[aT kO,qY]
 refine⟨_,bh,?_,z1,?_,?_,λj hj=>z2 j (by simp;omega)⟩
 .have kN:=g1;have Ck:((s:Nat):Int)<((O S:Nat):Int):=by omega
  have PK:((f:Nat):Int)<((O R:Nat):Int):=by omega
  simp only[j2,gG,ew,fH,jo,fF,ez,wk] at i1 hsp;simp only[gG,ew,fH] at gq;have iH:f*2+1+1<=O R*2:=by omega
  generalize ((k+1 :Nat):Int)=k1 at *;have hf:=rf a76
  conv at hf=>rhs;reduce
  obtain⟨Hs,h1,h2⟩:=Cj (f:=76) (y:=.undef) (H:=H) (Q:=λHs=>Hs=⟨(bx++[bz (gu r l)]).set q (cs.set (f*2+1) (.ae (O (H.bx++[([.p (.int .i64 k1),.p (.int .i64 ((s:Nat):Int)),.p (.int .i64 ((f:Nat):Int)),.p (.int .i64 r)]:List D)]++[([.p (.int .i64 r)]:List D)])) 3 (O l+1) 1)),H.tk⟩) (aa:=[.p (.agg [.int .i64 k1,.int .i64 (s:Int),.int .i64 (f:Int),.int .i64 r]),.box c 0,.box m 0]) hf rfl rfl rfl rfl (by
   clear hf;simp[-aw,-ay,fw,sF,zV,hc2,hval,kN,g2,g4,g5,g7,bW,dZ,m1,m2,gJ,Fq];rw[if_pos (by left;split;rfl;split<;>rfl)];simp[-aw,-ay,fw,zV,PH,aiw,iH,g5,g7,m2,i1,PJ,hsp,g6];rw[if_pos ⟨by rw[if_pos (by omega)];omega,.inl (by split;(split<;>rfl);(split<;>rfl))⟩];simp)
  rw[h1,h2]
 .simp[i2];omega
 .simp[i2]
abbrev fV:=List (List (Int×List Int))
def Cl(s f:Nat)(r:Int)(S:fV):fV:=S.modify s λR=>R.modify f λp=>(p.1,gu r p.2)
variable{S:fV}
theorem aiz{s:Nat}(hR:S[s]? =Z R)(hf:R[f]? =Z (a,l)):S.set s (R.set f (a,gu r l))=Cl s f r S:=by
 unfold Cl;apply lO;intro i;rw[nU,AD];by_cases h:s=i
 .subst h;have hl:=(af.1 hR).1;rw[if_pos rfl,if_pos hl,hR];show Z _=Z (if s=s then _ else _);rw[if_pos rfl];congr 1
  apply lO;intro k;rw[nU,AD];by_cases h:f=k
  .subst h;have hl:=(af.1 hf).1;rw[if_pos rfl,if_pos hl,hf];show Z _=Z (if f=f then _ else _);rw[if_pos rfl]
  .rw[if_neg h];cases R[k]? with
   |none=>rfl
   |some x=>
    show Z _=Z (if f=k then _ else _);rw[if_neg h]
 .rw[if_neg h];cases S[i]? with
  |none=>rfl
  |some x=>
   show Z _=Z (if s=i then _ else _);rw[if_neg h]
def Kj(s f:Nat)(S:fV):Prop:=∃R a l,S[s]? =Z R/\R[f]? =Z (a,l)/\dn l/\O l<1000000
def nH(bs:List Bool)(k s f:Nat)(r:Int)(S:fV):fV:=if bs.getD k false=true then Cl s f r S else S
theorem XF{c:Nat}(w:Wk H lab c v m at_ al bs st lp S)
    {k s:Nat}  (eU:O (els bs)<4611686018427387904) (hk:k<4611686018427387904) (hp:Kj s f S) (nG:O H.bx<1000000000):
    ∃H2 lab2,au (call pg) 76 [.p (.agg [.int .i64 ((k+1 :Nat):Int),.int .i64 (s:Int),.int .i64 (f:Int),.int .i64 r]),.box c 0,.box m 0] H=Z (.val .undef,H2)/\
     Wk H2 lab2 c v m at_ al bs st lp (nH (els bs) k s f r S)/\H2.tk=H.tk/\O H.bx<=O H2.bx/\O H2.bx<=O H.bx+3/\(∀j,j<O H.bx->lab2 j=lab j)/\∀j,j<O H.bx->lab j= .none->H2.bx[j]? =H.bx[j]?:=by
 obtain⟨R,a,l,hR,hf,hs,hl⟩:=hp;refine w.call (K:=3) rfl ?_ (by simp[D.ai,D.refs]) (by simp[D.ai,D.refs]) ?_
 .intro x hx;have :x=c\/x=m:=by simpa[D.ai,D.refs] using hx
  rcases this with rfl |rfl
  .rw[w.cl];simp
  .rw[w.mod.1];simp
 .intro g H' bh at' w' _ hlen _;show ∃Hs di,call pg 76 [.p (.agg [.int .i64 ((k+1 :Nat):Int),.int .i64 (s:Int),.int .i64 (f:Int),.int .i64 r]),.box (g c) 0,.box (g m) 0] H'=Z (.val .undef,Hs)/\_;unfold nH;cases hb:(els bs).getD k false with
  |true=>
   rw[if_pos rfl,<-aiz hR hf];exact aix w' eU hk hb hR hf hs hl (by omega)
  |false=>
   rw[if_neg (by simp)];exact⟨_,_,aiu w'.cc w'.vv eU hk hb,w'.snoc _ (by simp[D.ai,D.refs]) rfl _,by simp,by simp,λj hj=>rfl⟩
theorem Wk.loc{c:Nat}(w:Wk H lab c v m at_ al bs st lp S)(fl:nb<=O H.bx)(hc:c<nb)(hm:m<nb)(aO:H.tk=[])(o:Out)(ho:∀f g,o.ren f g=Z o):
    ∃H3 eG,(∀e,∃e3,bX nb 0 (o,⟨e,H⟩)=(o,⟨e3,H3⟩)/\(e3=e\/e3=e.map λy=>(y.1,(y.2.ren (below nb) (below 0)).getD .dead)))/\Wk H3 eG c v m at_ al bs st lp S/\H3.tk=[]/\nb<=O H3.bx/\O H3.bx<=O H.bx/\(∀j,j<nb->eG j=lab j)/\∀j,j<nb->H3.bx[j]? =H.bx[j]?:=by
 unfold bX;dsimp only;simp only[if_pos (show nb<=O H.bx/\0<=O H.tk from⟨fl,bD _⟩),ho];cases hx:aH (D.aZ (below nb) (below 0)) (H.bx.take nb) with
 |none=>exact⟨H,lab,λe=>⟨e,rfl,.inl rfl⟩,w,aO,fl,aK _,λ_ _=>rfl,λ_ _=>rfl⟩
 |some bx=>
  have hg:∀r j,below nb r=Z j->j=id r:=λr j h=>by
   unfold below at h;split at h
   .cases h;rfl
   .cases h
  have ht:∀cs∈H.bx.take nb,D.aC cs=[]:=λcs hcs=>by
   obtain⟨i,hi⟩:=dV (jn hcs);exact w.tk i cs hi
  have h1:=IL hg _ bx ht hx;have N4:∀cs:List D,D.aU id cs=cs:=vo;have h2:bx=H.bx.take nb:=by rw[h1];exact(pN λcs _=>N4 cs).trans (Le _)
  subst h2;have N5:=Ej _ _ hx;have hr:∀i,i<nb->∀cs,H.bx[i]? =Z cs->∀x∈D.ai cs,x<nb:=λi hi cs hcs x eE=>by
   have eV:cs∈H.bx.take nb:=bB (i:=i) (by rw[gL,if_pos hi,hcs]);obtain⟨j,hj⟩:=N5 cs eV x eE;unfold below at hj;split at hj
   .assumption
   .cases hj
  obtain⟨eG,t1,t2⟩:=w.take fl hr hm hc [];refine⟨⟨H.bx.take nb,H.tk.take 0⟩,eG,λe=>⟨_,rfl,.inr rfl⟩,by simpa[aO] using t1,by simp,by simp;omega,by simp;omega,t2,λj hj=>?_⟩;simp only;rw[gL,if_pos hj]
theorem PL{o:Out}{H3:Hp}{P:Env->Env->Prop}(h:∀e,∃e3,bX nb 0 (o,⟨e,H⟩)=(o,⟨e3,H3⟩)/\P e e3)(hq:∀e,Q o e H3){e:Env}:post Q (Z (bX nb 0 (o,⟨e,H⟩))):=by
 obtain⟨e3,h1,-⟩:=h e;rw[h1];exact hq e3
def XG:List PD->List PD->Int->PD
 |a::r,v::w,t=>if iU (.int .i64 t) a then v else XG r w t
 |_,_,_=>.int .i64 0
theorem rO(x:α):∀(n:Nat) (l:List α),O (eD n x l)=O l+1
 | 0,_=>rfl
 |_+1,[]=>rfl
 |n+1,a::r=>by simp[eD,rO x n r]
structure XH (l:List Int) (ks vs:List PD):Prop where
 len:O vs=O ks
 val:∀t,∃c:Int,XG ks vs t= .int .i64 c/\0<=c/\c<=O l/\(0<c↔t∈l)
theorem XH.nil:XH [] [] []:=⟨rfl,λt=>⟨0,rfl,by omega,by simp,by simp⟩⟩
@[simp] theorem arA:PD.qw.one=true:=rfl
@[simp] theorem aeZ(i:Nat):(D.dD i).one=true:=rfl
abbrev Kk(a b:List Int):List Int:=a.filter λt=>!b.contains t
theorem Kl{ea eb:St->Option (Out×St)}{env:Env}{ps:List Nat}{kb:Hp->Bool}(I:Nat->Hp->Prop):
    ∀(xs:List (List D)) (n:Nat) (H:Hp),I n H->
    (∀i x H,xs[i]? =Z x->I (n+i) H->O x=O ps/\post (λo e H1=>o= .norm/\post (λo _ H2=>o= .norm/\kb H2=true/\I (n+i+1) H2) (eb ⟨e,H1⟩)) (ea ⟨mC env ps x,H⟩))->
    ∃H',kE ea eb env ps kb xs H=Z (.norm,⟨env,H'⟩)/\I (n+O xs) H'
 |[],n,H,h0,_=>⟨H,rfl,h0⟩
 |x::xs,n,H,h0,h=>by
  obtain⟨hl,h1⟩:=h 0 x H rfl h0;obtain⟨o,e,H1,hx,rfl,h2⟩:=bC h1;obtain⟨o,e2,H2,hx2,rfl,hk,h3⟩:=bC h2;obtain⟨H',h4,h5⟩:=Kl I xs (n+1) H2 h3 λi y H hy hI=>by
   have:=h (i+1) y H hy (by rw[show n+(i+1)=n+1+i by omega];exact hI);rw[show n+(i+1)+1=n+1+i+1 by omega] at this;exact this
  refine⟨H',?_,by rw[ew,show n+(O xs+1)=n+1+O xs by omega];exact h5⟩;simp only[kE,hl,ne_eq,not_true_eq_false,if_false,hx,hx2,hk,if_true,h4]
theorem aiA{c:br}{G:Nat->Option (List PD)}{xs:List (List D)}{fe b rest:SC}{env:Env}{ps:List Nat}{kb:Hp->Bool}{kk:Nat}(I:Nat->Hp->Prop)(h0:I 0 H)
    (h:∀i x H,xs[i]? =Z x->I i H->O x=O ps/\post (λo e H1=>o= .norm/\post (λo _ H2=>o= .norm/\kb H2=true/\I (i+1) H2) (aq c G aM b ⟨e,H1⟩)) (aq c G aM fe ⟨mC env ps x,H⟩))
    (hq:∀H',I (O xs) H'->post Q (se c G (Z (.norm,⟨env,H'⟩)) rest)):post Q (se c G (sf kk (y9 c G (Z xs) fe b env ps kb H)) rest):=by
 obtain⟨H',h1,h2⟩:=Kl (kb:=kb) I xs 0 H h0 λi x H hx hI=>by simpa using h i x H hx (by simpa using hI)
 rw[ez] at h2;have h3:y9 c G (Z xs) fe b env ps kb H=Z (.norm,⟨env,H'⟩):=h1;rw[h3];exact hq H' h2
theorem p9(H:Hp)(n:Nat):reach H n []=[]:=by cases n<;>simp[reach,eQ]
theorem xC(H H':Hp):Gp [] H H'=true:=rfl
def nI(sz:Nat)(x:PD):Prop:=(sz=1/\x.cells=[x])\/(sz≠1/\∃cs,x= .agg cs/\O cs=sz)
theorem nI.len(h:nI sz x):O x.cells=sz:=by
 rcases h with⟨rfl,h⟩ |⟨_,cs,rfl,h⟩
 .rw[h];rfl
 .exact h
theorem PM(h:∀x∈es,nI sz x):O (es.flatMap PD.cells)=O es*sz:=by
 induction es with
 |nil=>simp
 |cons a r ih=>rw[sP,gG,ih λx hx=>h x (kA _ hx),(h a rD).len,ew,fX];omega
theorem vG{sz:Nat}:∀{es:List PD},(∀x∈es,nI sz x)->chunks sz (O es) (es.flatMap PD.cells)=es
 |[],_=>rfl
 |a::r,h=>by
  have ih:=vG (es:=r) λx hx=>h x (kA _ hx);rcases h a rD with⟨rfl,h1⟩ |⟨hs,cs,rfl,h1⟩
  .rw[sP,h1,ew];simp[chunks,ih]
  .rw[sP,ew];show chunks sz (O r+1) (cs++r.flatMap PD.cells)=_;simp only[chunks];rw[Z8 (by omega),Gd (by omega),fF,ih,Re (by omega),fK (by omega)];congr 1
   split
   .exact absurd rfl hs
   .rfl
def rowP(sz:Nat)(es:List PD):PD:=match es with |[]=>.aj |_::_=>.slice sz es
def Gr(e sz base:Nat)(es:List PD)(d:D)(rest:List (List D)):Prop:=
 (∀cs∈rest,∃ys:List PD,cs=ys.map D.p)/\(∀x∈es,nI sz x)/\((d= .p .aj/\es=[])\/∃i,d= .ae (base+i) e (O es) sz/\rest[i]? =Z ((es.flatMap PD.cells).map D.p)/\es≠[])
theorem Gr.nil(e sz base:Nat):Gr e sz base [] (.p .aj) []:=⟨by simp,by simp,.inl ⟨rfl,rfl⟩⟩
theorem Gr.app{e base:Nat}{d:D}{rest:List (List D)}(h:Gr e sz base es d rest)(hn:O es<1000000)(hb:by'<=1000)(hs:0<sz)(bs:List (List D))(eU:O bs=base)(k:List Nat)(hx:nI sz x):
    ∃d' rest',dx e sz by' d 1 (x.cells.map .p) ⟨bs++rest,k⟩=Z (d',⟨bs++rest',k⟩)/\Gr e sz base (es++[x]) d' rest':=by
 have hr:roomy (O es+1) by'=true:=by
  have :(O es+1)*by'<=1000000*1000:=ud (by omega) hb;simp only[roomy,bL,decide_eq_true_eq];omega
 obtain⟨hpl,hE,h⟩:=h;have XI:∀y∈es++[x],nI sz y:=λy hy=>by
  rcases cx.1 hy with h |h
  .exact hE y h
  .rw[nT.1 h];exact hx
 have nv:O (x.cells.map D.p)=sz:=by rw[bT];exact hx.len
 have Fs:∀ys:List PD,∀r:List (List D),(∀cs∈r,∃ys:List PD,cs=ys.map D.p)->∀cs∈r++[ys.map D.p],∃ys:List PD,cs=ys.map D.p:=λys r hr cs hcs=>by
  rcases cx.1 hcs with h |h
  .exact hr cs h
  .exact⟨ys,nT.1 h⟩
 rcases h with⟨rfl,rfl⟩ |⟨i,rfl,hi,hne⟩
 .refine⟨.ae (base+O rest) e 1 sz,rest++[x.cells.map .p],?_,Fs _ _ hpl,XI,.inr ⟨O rest,rfl,by simp,by simp⟩⟩;have hr1:roomy 1 by'=true:=by simpa using hr
  simp[dx,iT,hr1,eU]
 .have cW:i<O rest:=(af.1 hi).1;refine⟨.ae (base+O rest) e (O es+1) sz,rest.set i []++[((es++[x]).flatMap PD.cells).map D.p],?_,Fs _ _ λcs hcs=>?_,XI,.inr ⟨O rest,by simp,by simp,by simp⟩⟩
  .have dG:=PM hE;have s7:0<O es*sz:=Nat.mul_pos (wh.2 hne) hs;have h1:(bs++rest)[base+i]? =Z ((es.flatMap PD.cells).map D.p):=by
    rw[cR (by omega),eU,tZ];exact hi
   have h2:¬(O es+1)*sz<=O es*sz:=by rw[fX];omega
   have h3:(es.flatMap PD.cells).map D.p≠[]:=λh=>by
    have:=congrArg oI h;rw[bT,dG] at this;simp at this;omega
   have h4:rE (O es*sz) ((es.flatMap PD.cells).map D.p)=(es.flatMap PD.cells).map D.p:=fK (by rw[bT,dG];exact aK _);have h5:(bs++rest).set (base+i) []=bs++rest.set i []:=by
    rw[Rh _ _ (by omega),eU,tZ]
   have h6:O ((es.flatMap PD.cells).map D.p)=O es*sz:=by rw[bT,dG]
   simp only[dx,h1,h3,h4,h5,h6,hr,vg,and_self,if_true,if_false,aK,ne_eq,not_false_eq_true,h2,Nat.succ_ne_zero];simp[eU]
  .rcases K8 hcs with h |rfl
   .exact hpl cs h
   .exact⟨[],rfl⟩
def pC(sp:Sp):Prop:=∀s∈els sp.so,O s.nm<=140737488355000
theorem aiB(sp:Sp)(ok:mN sp)(hn:pC sp)(nm:List UInt8):
    ∃(ar:Int) (r:Bt) (k:Nat),(∀H,au (call pg) 186 [.p (.agg sp.cl),.p (.str nm)] H=Z (.val (.ba [.p (gF ar r),.p (.int .i64 ((k:Nat):Int))]),H))/\(1<=k->1<=ar/\ar<=3):=by
 have Pu:=dT (c:=call pg) (G:=pg.G) (keep:=[1,2,4,6,7,8]) (b:=bd xg 0) (σ:=Nat×Int×Bt×Nat) (λs=>[(1,.p (.str nm)),(2,.box 0 0),(4,.box 1 0),(6,.box 2 0),(7,.p (.int .i64 ((s.2.2.2:Nat):Int))),(8,.p (.int .i64 ((s.1:Nat):Int)))]) (λs=>⟨[sp.cl.map .p,(ah 0 Bt.e).map D.p,(ah s.2.1 s.2.2.1).map D.p],[]⟩) (λs=>O (els sp.fi)-s.1) (λs=>s.1<=O (els sp.fi)/\s.2.2.2<=s.1/\(1<=s.2.2.2->1<=s.2.1/\s.2.1<=3))
  (λo e H=>o= .exit 0/\e.get 1= .p (.str nm)/\e.get 2= .box 0 0/\e.get 4= .box 1 0/\e.get 6= .box 2 0/\∃(ar:Int) (r:Bt) (k:Nat),e.get 7= .p (.int .i64 ((k:Nat):Int))/\k<=6/\(1<=k->1<=ar/\ar<=3)/\H=⟨[sp.cl.map .p,(ah 0 Bt.e).map D.p,(ah ar r).map D.p],[]⟩)
  (by
   rintro⟨i,ar,x,k⟩ ⟨hi,hk,gi⟩;dsimp only at hi hk gi|-;have hf6:=ok.nf
   conv in bd xg 0=>reduce
   by_cases h:i<O (els sp.fi)
   .have aS:=py h;have fo:=ok.fd _ (dw h);obtain⟨u,hu⟩:=B6 (ahN (els sp.fi)[i].so) (by have:=fo.2.2;omega);have k1:=bt (k:=i) (by omega);have k2:=bt (k:=k) (by omega);by_cases hc:(els sp.fi)[i].nm=nm
    .refine aG (Q:=nx [1,2,4,6,7,8] [(1,.p (.str nm)),(2,.box 0 0),(4,.box 1 0),(6,.box 2 0),(7,.p (.int .i64 ((k+1 :Nat):Int))),(8,.p (.int .i64 ((i+1 :Nat):Int)))] ⟨[sp.cl.map .p,(ah 0 Bt.e).map D.p,(ah (O (els (els sp.fi)[i].so):Int) u).map D.p],[]⟩) ?_ λo e H hh=>.inl ⟨(i+1,(O (els (els sp.fi)[i].so):Int),u,k+1),⟨by dsimp only;omega,by dsimp only;omega,λ_=>⟨aoQ.2 fo.2.1,aoQ.2 fo.2.2⟩⟩,by dsimp only;omega,hh⟩;simp[-aw,-aF,cn,bY,il,h,aS,hc,hu,k1,k2]
    .refine aG (Q:=nx [1,2,4,6,7,8] [(1,.p (.str nm)),(2,.box 0 0),(4,.box 1 0),(6,.box 2 0),(7,.p (.int .i64 ((k:Nat):Int))),(8,.p (.int .i64 ((i+1 :Nat):Int)))] ⟨[sp.cl.map .p,(ah 0 Bt.e).map D.p,(ah ar x).map D.p],[]⟩) ?_ λo e H hh=>.inl ⟨(i+1,ar,x,k),⟨by dsimp only;omega,by dsimp only;omega,gi⟩,by dsimp only;omega,hh⟩;simp[-aw,-aF,il,h,aS,hc,k1]
   .have :i=O (els sp.fi):=by omega
    subst this;refine aG (Q:=λo e H=>o= .exit 0/\e.get 1= .p (.str nm)/\e.get 2= .box 0 0/\e.get 4= .box 1 0/\e.get 6= .box 2 0/\e.get 7= .p (.int .i64 ((k:Nat):Int))/\H=⟨[sp.cl.map .p,(ah 0 Bt.e).map D.p,(ah ar x).map D.p],[]⟩) ?_ ?_
    .simp[-aw,-aF,il]
    .rintro o e H ⟨rfl,q1,q2,q3,q4,q5,rfl⟩;exact .inr ⟨by simp,rfl,q1,q2,q3,q4,ar,x,k,q5,by omega,gi,rfl⟩) (0,0,Bt.e,0) ⟨bD _,aK _,λh=>by dsimp only at h;omega⟩
 have Fe:=fun(PN:Int) (r0:Bt) (k0:Nat) (h60:k0<=6) (h00:1<=k0->1<=PN/\PN<=3)=>dT (c:=call pg) (G:=pg.G) (keep:=[1,2,4,6,7,9]) (b:=bd xg 1) (σ:=Nat×Int×Bt×Nat) (λs=>[(1,.p (.str nm)),(2,.box 0 0),(4,.box 1 0),(6,.box 2 0),(7,.p (.int .i64 ((s.2.2.2:Nat):Int))),(9,.p (.int .i64 ((s.1:Nat):Int)))]) (λs=>⟨[sp.cl.map .p,(ah 0 Bt.e).map D.p,(ah s.2.1 s.2.2.1).map D.p],[]⟩) (λs=>O (els sp.so)-s.1) (λs=>s.1<=O (els sp.so)/\s.2.2.2<=6+3*s.1/\(1<=s.2.2.2->1<=s.2.1/\s.2.1<=3))
  (λo e H=>o= .exit 2/\e.get 4= .box 1 0/\e.get 6= .box 2 0/\∃(ar:Int) (r:Bt) (k:Nat),e.get 7= .p (.int .i64 ((k:Nat):Int))/\(1<=k->1<=ar/\ar<=3)/\H=⟨[sp.cl.map .p,(ah 0 Bt.e).map D.p,(ah ar r).map D.p],[]⟩)
  (by
   rintro⟨i,ar,x,k⟩ ⟨hi,hk,gi⟩;dsimp only at hi hk gi|-;have hf6:=ok.ns
   conv in bd xg 1=>reduce
   by_cases h:i<O (els sp.so)
   .have aS:=Pt h;have A4:=hn _ (dw h);obtain⟨u,hu⟩:=B6 (Pn (i:Int)) (by omega);obtain⟨v,hv⟩:=B6 (Xg (i:Int) (i:Int)) (by omega);simp at hu hv;have k1:=bt (k:=i) (by omega);have k2:=bt (k:=k) (by omega);have k3:=bt (k:=k+1) (by omega);have k4:=bt (k:=k+1+1) (by omega);have g1:O (els sp.so)[i].nm+6<=140737488355328:=by omega
    have g2:O (els sp.so)[i].nm+5<=140737488355328:=by omega
    generalize (els sp.so)[i]=q at *;have fin:∀(zW:Int) (x':Bt) (k':Nat),k'<=k+3->(1<=k'->1<=zW/\zW<=3)->∀X,post (nx [1,2,4,6,7,9] [(1,.p (.str nm)),(2,.box 0 0),(4,.box 1 0),(6,.box 2 0),(7,.p (.int .i64 ((k':Nat):Int))),(9,.p (.int .i64 ((i+1 :Nat):Int)))] ⟨[sp.cl.map .p,(ah 0 Bt.e).map D.p,(ah zW x').map D.p],[]⟩) X->
        post (λo e H=>(∃s':Nat×Int×Bt×Nat,(s'.1<=O (els sp.so)/\s'.2.2.2<=6+3*s'.1/\(1<=s'.2.2.2->1<=s'.2.1/\s'.2.1<=3))/\O (els sp.so)-s'.1<O (els sp.so)-i/\nx [1,2,4,6,7,9] [(1,.p (.str nm)),(2,.box 0 0),(4,.box 1 0),(6,.box 2 0),(7,.p (.int .i64 ((s'.2.2.2:Nat):Int))),(9,.p (.int .i64 ((s'.1:Nat):Int)))] ⟨[sp.cl.map .p,(ah 0 Bt.e).map D.p,(ah s'.2.1 s'.2.2.1).map D.p],[]⟩ o e H)\/o≠.norm/\o= .exit 2/\e.get 4= .box 1 0/\e.get 6= .box 2 0/\∃(ar:Int) (r:Bt) (k:Nat),e.get 7= .p (.int .i64 ((k:Nat):Int))/\(1<=k->1<=ar/\ar<=3)/\H=⟨[sp.cl.map .p,(ah 0 Bt.e).map D.p,(ah ar r).map D.p],[]⟩) X:=by
     intro zW x' k' h1 h2 X hX;exact aG hX λo e H hh=>.inl ⟨(i+1,zW,x',k'),⟨by dsimp only;omega,by dsimp only;omega,h2⟩,by dsimp only;omega,hh⟩
    by_cases c1:q.nm=nm
    .cases oZ:q.od with
     |false=>
      refine fin 1 u (k+1) (by omega) (λ_=>by omega) _ ?_;simp[-aw,-aF,cn,bY,iM,h,aS,c1,oZ,hu,k1,k2]
     |true=>
      by_cases c2:q.nm++[95,102,105,114,115,116]=nm
      .by_cases c3:q.nm++[95,110,101,120,116]=nm
       .exfalso;have:=congrArg oI (c2.trans c3.symm);simp at this
       .exfalso;have:=congrArg oI (c1.trans c2.symm);simp at this
      .by_cases c3:q.nm++[95,110,101,120,116]=nm
       .exfalso;have:=congrArg oI (c1.trans c3.symm);simp at this
       .refine fin 1 u (k+1) (by omega) (λ_=>by omega) _ ?_;rw[c1] at c2 c3 g1 g2;simp[-aw,-aF,cn,bY,iM,h,aS,c1,oZ,hu,k1,k2,c2,c3,g1,g2]
    .cases oZ:q.od with
     |false=>
      refine fin ar x k (by omega) gi _ ?_;simp[-aw,-aF,iM,h,aS,c1,oZ,k1]
     |true=>
      by_cases c2:q.nm++[95,102,105,114,115,116]=nm
      .by_cases c3:q.nm++[95,110,101,120,116]=nm
       .exfalso;have:=congrArg oI (c2.trans c3.symm);simp at this
       .refine fin 1 u (k+1) (by omega) (λ_=>by omega) _ ?_;simp[-aw,-aF,cn,bY,iM,h,aS,c1,oZ,hu,k1,k2,c2,c3,g1,g2]
      .by_cases c3:q.nm++[95,110,101,120,116]=nm
       .refine fin 2 v (k+1) (by omega) (λ_=>by omega) _ ?_;simp[-aw,-aF,cn,bY,iM,h,aS,c1,oZ,hv,k1,k2,c2,c3,g1,g2]
       .refine fin ar x k (by omega) gi _ ?_;simp[-aw,-aF,iM,h,aS,c1,oZ,k1,c2,c3,g1,g2]
   .have :i=O (els sp.so):=by omega
    subst this;refine aG (Q:=λo e H=>o= .exit 2/\e.get 4= .box 1 0/\e.get 6= .box 2 0/\e.get 7= .p (.int .i64 ((k:Nat):Int))/\H=⟨[sp.cl.map .p,(ah 0 Bt.e).map D.p,(ah ar x).map D.p],[]⟩) ?_ ?_
    .simp[-aw,-aF,iM]
    .rintro o e H ⟨rfl,q3,q4,q5,rfl⟩;exact .inr ⟨by simp,rfl,q3,q4,ar,x,k,q5,gi,rfl⟩) (0,PN,r0,k0) ⟨bD _,by dsimp only;omega,h00⟩
 obtain⟨o,e,H,hx,rfl,q1,q2,q4,q6,ar,r,k,q7,hk6,gi,rfl⟩:=bC Pu;obtain⟨o,e',H,gz,rfl,q4',q6',zW,r',k',q7',aiI,rfl⟩:=bC (Fe ar r k hk6 gi);simp only[gH,cB,j4] at hx gz;have hb1:=rf (bd xg 1)
 conv at hb1=>rhs;reduce
 have hb0:=rf (bd xg 0)
 conv at hb0=>rhs;reduce
 have hf:=rf xg
 conv at hf=>rhs;reduce
 rw[<-hb1] at hf;rw[<-hb0] at hf;have az:cy=cy:=rfl
 conv at az=>rhs;reduce
 try rw[<-az] at hf
 try rw[<-az] at hb0
 try rw[<-az] at hb1
 clear az;refine⟨zW,r',k',aR (aa:=[_,_]) hf rfl rfl rfl ?_,aiI⟩;clear hf hb0 hb1;simp[-aw,-aF,b9,dC,cn,cP,bY,jG,hx,q1,q2,q4,q6,q7,gz,q4',q6',q7']
theorem Km(sp:Sp)(hp:O (els sp.pr)<4611686018427387904)(calls:Nat)(nm:List UInt8):
    ∃p:Int,(∀H,au (call pg) 152 [.p (.agg sp.cl),.p (.int .i64 ((calls:Nat):Int)),.p (.str nm)] H=Z (.val (.p (.int .i64 p)),H))/\(0<=p->∃i:Nat,p=(i:Int)/\i<O (els sp.pr)/\i<calls):=by
 have key:=lI (c:=call pg) (G:=pg.G) (keep:=[1,2,3,7]) (b:=bd a152 0) (λi=>[(1,.p (.int .i64 ((calls:Nat):Int))),(2,.p (.str nm)),(3,.box 0 0),(7,.p (.int .i64 ((i:Nat):Int)))]) (λ_=>⟨[sp.cl.map .p],[]⟩) (min calls (O (els sp.pr))) (λ_=>True)
  (λo e H=>o= .exit 0\/(o= .ret/\∃i:Nat,e.get 6= .p (.int .i64 ((i:Nat):Int))/\i<O (els sp.pr)/\i<calls)) trivial
  (λi hi _=>by
   have h1:i<calls:=by omega
   have h2:i<O (els sp.pr):=by omega
   have aS:=Fc h2;have k1:=bt (k:=i) (by omega)
   conv in bd a152 0=>reduce
   by_cases hc:(els sp.pr)[i].nm=nm
   .refine aG (Q:=λo e H=>o= .ret/\e.get 6= .p (.int .i64 ((i:Nat):Int))) ?_ ?_
    .simp[kT,h1,h2,aS,hc]
    .rintro o e H ⟨rfl,q⟩;exact .inr ⟨by simp,.inr ⟨rfl,i,q,h2,h1⟩⟩
   .simp[kT,h1,h2,aS,hc,k1])
  (λ_=>by
   conv in bd a152 0=>reduce
   by_cases h1:calls<=O (els sp.pr)
   .rw[x9 h1];simp
   .rw[aoP (by omega)];have h2:O (els sp.pr)<calls:=by omega
    simp[kT,h2])
 obtain⟨o,e,H,hx,hq⟩:=bC key;simp only[gH,cB,j4] at hx;have hb0:=rf (bd a152 0)
 conv at hb0=>rhs;reduce
 have hf:=rf a152
 conv at hf=>rhs;reduce
 rw[<-hb0] at hf;rcases hq with rfl |⟨rfl,i,q,h1,h2⟩
 .refine⟨-1,aR (aa:=[_,_,_]) hf rfl rfl rfl ?_,λh=>by omega⟩;clear hf hb0;simp[hx]
 .refine⟨(i:Int),aR (aa:=[_,_,_]) hf rfl rfl rfl ?_,λ_=>⟨i,rfl,h1,h2⟩⟩;clear hf hb0;simp[hx,q]
theorem XJ(op:Int):∃r:Bool,∀H,au (call pg) 282 [.p (.int .i64 op)] H=Z (.val (.p (.bool r)),H):=by
 have hf:=rf Vt
 conv at hf=>rhs;reduce
 by_cases h1:op=5
 .refine⟨true,aR (aa:=[_]) hf rfl rfl rfl ?_⟩;clear hf;simp[h1]
 .by_cases h2:48<=op
  .refine⟨decide (op<=51),aR (aa:=[_]) hf rfl rfl rfl ?_⟩;clear hf;simp[h1,h2]
  .refine⟨false,aR (aa:=[_]) hf rfl rfl rfl ?_⟩;clear hf;simp[h1,h2]
def PO(s:SF)(L:List Bool):Prop:=xz 4 1 s (L.map PD.bool)
theorem zX(e sz:Nat)(s:SF)(bx:List (List D)):s.at e sz (s.d e sz 0) ⟨bx,s.k⟩:=by
 cases s with
 |pl x=>rfl
 |tk es=>exact⟨0,rfl,rfl⟩
theorem XK(sp:Sp)(hp:O (els sp.pr)<4611686018427387904){s:SF}(hs:PO s L)(calls:Nat)(nm:List UInt8):
    ∃r:Bool,∀d H,s.at 4 1 d H->au (call pg) 283 [.p (.agg sp.cl),d,.p (.int .i64 ((calls:Nat):Int)),.p (.str nm)] H=Z (.val (.p (.bool r)),H):=by
 obtain⟨p,hc,Ph⟩:=Km sp hp calls nm;have hlen:=hs.len 0;rw[bT] at hlen;have hf:=rf Vu
 conv at hf=>rhs;reduce
 by_cases h1:0<=p
 .obtain⟨i,rfl,-,-⟩:=Ph h1;by_cases h2:i<O L
  .have aS:=hs.ia 0 i (by simpa using h2);have hg:((L.map PD.bool)[i]'(by simpa using h2)).cells=[PD.bool L[i]]:=by simp[BX]
   rw[hg] at aS;refine⟨L[i],vD (e:=4) (sz:=1) (pre:=[.agg sp.cl]) (suf:=[.int .i64 calls,.str nm]) (s:=s) (Fj _) hf (λ_=>by cases s<;>rfl) (by cases s<;>rfl) rfl ?_⟩;clear hf;cases s<;>(simp only[SF.d,SF.k] at *;simp[dm,hc,hlen,aS,h2])
  .refine⟨false,vD (e:=4) (sz:=1) (pre:=[.agg sp.cl]) (suf:=[.int .i64 calls,.str nm]) (s:=s) (Fj _) hf (λ_=>by cases s<;>rfl) (by cases s<;>rfl) rfl ?_⟩;clear hf;cases s<;>(simp only[SF.d,SF.k] at *;simp[dm,hc,hlen,h2])
 .refine⟨false,vD (e:=4) (sz:=1) (pre:=[.agg sp.cl]) (suf:=[.int .i64 calls,.str nm]) (s:=s) (Fj _) hf (λ_=>by cases s<;>rfl) (by cases s<;>rfl) rfl ?_⟩;clear hf;cases s<;>(simp only[SF.d,SF.k] at *;simp[dm,hc,h1])
theorem aiJ(sp:Sp)(hp:O (els sp.pr)<4611686018427387904){s:SF}(hs:PO s L):∀(m:Nat) (a:Nd),a.size<=m->m<4611686018427387904->
    ∃r:Bool,∀d H,s.at 4 1 d H->au (call pg) 288 [.p (.agg sp.cl),d,.p (.agg a.cl)] H=Z (.val (.p (.bool r)),H):=by
 intro m
 induction m with
 |zero=>intro a h;have:=size_pos a;omega
 |succ m ih=>
  intro a hm hB;have hlen:=hs.len 0;rw[bT] at hlen;obtain⟨b1,c1⟩:=XJ a.op;obtain⟨b2,c2⟩:=XK sp hp hs (O L) a.nm;have c2:=λbx=>c2 (s.d 4 1 0) ⟨bx,s.k⟩ (zX 4 1 s bx);have eM:O a.ks<4611686018427387904:=by
   have:=B8 a.ks;have:=size_eq a;omega
  have key:=mL (c:=call pg) (G:=pg.G) (keep:=[1,3,5,7]) (b:=bd vt 0) (λi=>[(1,s.d 4 1 0),(3,.box 0 0),(5,.box 1 0),(7,.p (.int .i64 ((i:Nat):Int)))]) ⟨[sp.cl.map .p,a.cl.map .p],s.k⟩ (O a.ks) (λ_=>True) 0 (λ_=>True) (λe=>e.get 6= .p (.bool true))
   (λi hi=>by
    obtain⟨b3,c3⟩:=ih (a.ks[i]) (by have:=B7 (dw hi);omega) (by omega);have c3:=λbx=>c3 (s.d 4 1 0) ⟨bx,s.k⟩ (zX 4 1 s bx);have aS:=xx hi;have k1:=bt (k:=i) (by omega)
    conv in bd vt 0=>reduce
    clear hs ih;cases s<;>cases b3<;>(simp only[SF.d,SF.k] at *;simp[ko,hi,aS,c3,k1,iW]))
   (by
    conv in bd vt 0=>reduce
    clear hs ih;cases s<;>(simp only[SF.d,SF.k] at *;simp[ko]))
  have fin:∀r:Bool,post (dm [.t 6] s.k (.p (.bool r))) (aq (call pg) pg.G aM ((vt.map λf=>f.body).getD .skip) ⟨entry 0 ([PD.agg sp.cl].map .p++s.d 4 1 0::[PD.agg a.cl].map .p),⟨[],s.k⟩⟩)->
      ∃r:Bool,∀d H,s.at 4 1 d H->au (call pg) 288 [.p (.agg sp.cl),d,.p (.agg a.cl)] H=Z (.val (.p (.bool r)),H):=by
   intro r hr;have hb0:=rf (bd vt 0)
   conv at hb0=>rhs;reduce
   have hf:=rf vt
   conv at hf=>rhs;reduce
   rw[<-hb0] at hf;rw[hf] at hr;exact⟨r,vD (e:=4) (sz:=1) (pre:=[.agg sp.cl]) (suf:=[.agg a.cl]) (s:=s) (Fj _) hf (λ_=>by cases s<;>rfl) (by cases s<;>rfl) rfl hr⟩
  have hb0:=rf (bd vt 0)
  conv at hb0=>rhs;reduce
  have hf:=rf vt
  conv at hf=>rhs;reduce
  rw[<-hb0] at hf;rw[hf] at fin;simp only[fy,mq] at fin;clear hf hb0;clear hs ih;rcases key with⟨e,hx,-,-⟩ |⟨e,hx,h6⟩
  .simp at hx;cases b1 with
   |true=>
    refine fin true ?_;clear fin;cases s<;>(simp only[SF.d,SF.k] at *;simp[dm,c1])
   |false=>
    by_cases mQ:a.op=47
    .refine fin b2 ?_;clear fin;rw[mQ] at c1 hx;cases s<;>cases b2<;>(simp only[SF.d,SF.k] at *;simp[dm,c1,mQ,c2,hlen,hx])
    .refine fin false ?_;clear fin;cases s<;>(simp only[SF.d,SF.k] at *;simp[dm,c1,mQ,hx])
  .simp at hx;refine fin true ?_;clear fin;cases b1 with
   |true=>cases s<;>(simp only[SF.d,SF.k] at *;simp[dm,c1])
   |false=>
    by_cases mQ:a.op=47
    .rw[mQ] at c1 hx;cases s<;>cases b2<;>(simp only[SF.d,SF.k] at *;simp[dm,c1,mQ,c2,hlen,hx,h6])
    .cases s<;>(simp only[SF.d,SF.k] at *;simp[dm,c1,mQ,hx,h6])
def Kn(l:List α):Sl α:=match l with |[]=>.cJ |_::_=>.of l
theorem aiK(sz:Nat)(f:α->PD)(l:List α):eh sz ((Kn l).map f)= .slice sz (l.map f):=by cases l<;>rfl
theorem PQ{e:Nat}{bx:List (List D)}(h:O es<1000000000)(hb:by'<=1000):fg e sz by' (.aX 0 e sz es) [x] ⟨bx,[O es]⟩=Z (.aX 0 e sz (es++[x]),⟨bx,[O es+1]⟩):=by
 have hr:roomy (O es+1) by'=true:=by
  have :(O es+1)*by'<=1000000000*1000:=ud (by omega) hb;simp only[roomy,bL,decide_eq_true_eq];omega
 simp[fg,hr]
theorem aiL(sp:Sp)(ok:mN sp):∃L:List Bool,∀H,au (call pg) 223 [.p (.agg sp.cl)] H=Z (.val (.p (dr (Kn L))),H):=by
 have hp:=ok.np;have key:=dT (c:=call pg) (G:=pg.G) (keep:=[1,3,4]) (b:=bd Ez 0) (σ:=Nat×List Bool) (λs=>[(1,.box 0 0),(3,.aX 0 4 1 (s.2.map PD.bool)),(4,.p (.int .i64 ((s.1:Nat):Int)))]) (λs=>⟨[sp.cl.map .p],[O (s.2.map PD.bool)]⟩) (λs=>O (els sp.pr)-s.1) (λs=>s.1<=O (els sp.pr)/\O s.2=s.1)
  (λo e H=>o= .exit 0/\∃L:List Bool,e.get 3= .aX 0 4 1 (L.map PD.bool))
  (by
   rintro⟨i,L⟩ ⟨hi,hL⟩;dsimp only at hi hL|-
   conv in bd Ez 0=>reduce
   by_cases h:i<O (els sp.pr)
   .have aS:=Fc h;have Fu:=(ok.pd _ (dw h)).2;obtain⟨r,hr⟩:=aiJ sp (by omega) (s:=.tk (L.map PD.bool)) (L:=L) Xp 400 (els sp.pr)[i].bo Fu.1 (by omega);have hr:=λbx=>hr (.aX 0 4 1 (L.map PD.bool)) ⟨bx,[O (L.map PD.bool)]⟩ ⟨0,rfl,rfl⟩;have k1:=bt (k:=i) (by omega);have hap:=λbx=>PQ (e:=4) (sz:=1) (by':=1) (es:=L.map PD.bool) (x:=.bool r) (bx:=bx) (by rw[bT];omega) (by omega);refine aG (Q:=nx [1,3,4] [(1,.box 0 0),(3,.aX 0 4 1 (L.map PD.bool++[PD.bool r])),(4,.p (.int .i64 ((i+1 :Nat):Int)))] ⟨[sp.cl.map .p],[O (L.map PD.bool)+1]⟩) ?_ ?_
    .generalize L.map PD.bool=M at *;simp[-fg,kT,h,aS,hr,hap,k1,iW]
    .intro o e H hh;refine .inl ⟨(i+1,L++[r]),⟨by dsimp only;omega,by simp[hL]⟩,by dsimp only;omega,?_⟩;simpa using hh
   .have :i=O (els sp.pr):=by omega
    subst this;refine aG (Q:=λo e H=>o= .exit 0/\e.get 3= .aX 0 4 1 (L.map PD.bool)) ?_ ?_
    .simp[kT]
    .rintro o e H ⟨rfl,q⟩;exact .inr ⟨by simp,rfl,L,q⟩) (0,[]) ⟨bD _,rfl⟩
 obtain⟨o,e,H,hx,rfl,L,h3⟩:=bC key;simp only[gH,cB,j4,fH] at hx;have hb0:=rf (bd Ez 0)
 conv at hb0=>rhs;reduce
 have hf:=rf Ez
 conv at hf=>rhs;reduce
 rw[<-hb0] at hf;refine⟨L,aR (aa:=[_]) hf rfl rfl rfl ?_⟩;clear hf hb0;simp[pV,hx,h3,dr,aiK]
structure eH where
 ar:Int
 b:Bt
def eH.p(s:eH):PD:=gF s.ar s.b
theorem kU{L:List eH}{t k:Nat}(h:k<O L):dE Y 65 (.aX t 253 65 (L.map eH.p)) (k:Int)=Z (.ro (ah (L[k]).ar (L[k]).b) 0):=by
 have:=UH (t:=t) (e:=253) (sz:=65) (es:=L.map eH.p) (k:=k) (by simpa using h);rw[this];simp[eH.p,xm]
def Sets(op n:Int)(L:List eH):Prop:=
 (op=2->1<=n/\n<=3)/\(op∈[5,11,12,13]->∃a l,L=a::l/\1<=a.ar/\a.ar<=3)/\
 (op∈[6,7,8,9,10,14,32,33]->∃a c l,L=a::c::l/\(1<=a.ar/\a.ar<=3)/\1<=c.ar/\c.ar<=3)/\op≠1/\op≠15
theorem aiM(sp:Sp)(hs:O (els sp.so)<4611686018427387904)(op n pos:Int)(nm:List UInt8)(ks:PD)(hk:ks.one=true)(L:List eH)(hL:Sets op n L):
    ∃(ar:Int) (r:Bt) (ok:Bool),(∀d H,(SF.tk (L.map eH.p)).at 253 65 d H->au (call pg) 287 [.p (.agg sp.cl),.p (.agg [.int .i64 op,.str nm,.int .i64 n,ks,.int .i64 pos]),d] H=Z (.val (.ba [.p (gF ar r),.p (.bool ok)]),H))/\(ok=true->1<=op->op<=15->1<=ar/\ar<=3):=by
 obtain⟨l2,l1,lb,ln1,arD⟩:=hL;obtain⟨u1,hu1⟩:=Xr sp 1 (.inl rfl) hs;obtain⟨u2,XL⟩:=Xr sp 2 (.inr rfl) hs;have hf:=rf Oo
 conv at hf=>rhs;reduce
 have az:cy=cy:=rfl
 conv at az=>rhs;reduce
 try rw[<-az] at hf
 clear az;have fin:∀(ar:Int) (r:Bt) (ok:Bool),(ok=true->1<=op->op<=15->1<=ar/\ar<=3)->post (dm [.cell 6 (Z 65),.t 7] (SF.tk (L.map eH.p)).k (.ba [.p (gF ar r),.p (.bool ok)])) (aq (call pg) pg.G aM (((Oo.map λf=>f.body)).getD .skip) ⟨entry 0 [.p (.agg sp.cl),.p (.agg [.int .i64 op,.str nm,.int .i64 n,ks,.int .i64 pos]),.aX 0 253 65 (L.map eH.p)],⟨[],[O (L.map eH.p)]⟩⟩)->
     ∃(ar:Int) (r:Bt) (ok:Bool),(∀d H,(SF.tk (L.map eH.p)).at 253 65 d H->au (call pg) 287 [.p (.agg sp.cl),.p (.agg [.int .i64 op,.str nm,.int .i64 n,ks,.int .i64 pos]),d] H=Z (.val (.ba [.p (gF ar r),.p (.bool ok)]),H))/\(ok=true->1<=op->op<=15->1<=ar/\ar<=3):=by
  intro ar r ok h1 h2;rw[hf] at h2;exact⟨ar,r,ok,vD (e:=253) (sz:=65) (pre:=[.agg sp.cl,.agg [.int .i64 op,.str nm,.int .i64 n,ks,.int .i64 pos]]) (suf:=[]) (s:=.tk (L.map eH.p)) (Ke [_,_]) hf (λ_=>rfl) rfl rfl h2,h1⟩
 rw[hf] at fin;clear hf;simp only[fy,mq] at fin;by_cases h2:op=2
 .subst h2;have l2:=l2 rfl;refine fin n Bt.e true (λ_ _ _=>l2) ?_;simp[-aw,-aF,b9,dC,cn,cP,bY,xu,dm,SF.k,hk]
 .by_cases h3:op=3
  .subst h3;refine fin 1 u1 true (λ_ _ _=>by omega) ?_;simp[-aw,-aF,b9,dC,cn,cP,bY,dm,SF.k,hk,hu1]
  .by_cases h4:op=4
   .subst h4;refine fin 2 u2 true (λ_ _ _=>by omega) ?_;simp[-aw,-aF,b9,dC,cn,cP,bY,dm,SF.k,hk,XL]
   .by_cases h5:op=5
    .subst h5;obtain⟨a,l,rfl,ha1,ha2⟩:=l1 (by simp);have i0:=kU (L:=a::l) (t:=0) (k:=0) (by simp);simp only[gH,pR,cB] at i0;refine fin a.ar a.b true (λ_ _ _=>⟨ha1,ha2⟩) ?_;simp[-aw,-aF,b9,dC,sD,cn,cP,bY,dm,SF.k,hk,i0]
    .by_cases h6:op=6
     .subst h6;obtain⟨a,c,l,rfl,⟨ha1,ha2⟩,hc1,hc2⟩:=lb (by simp);have i0:=kU (L:=a::c::l) (t:=0) (k:=0) (by simp);have i1:=kU (L:=a::c::l) (t:=0) (k:=1) (by simp);simp only[gH,ue,pR,yb,cB] at i0 i1;obtain⟨u,hu⟩:=B5 a.ar c.ar a.b c.b;refine fin a.ar u (a.ar==c.ar) (λ_ _ _=>⟨ha1,ha2⟩) ?_;simp[-aw,-aF,b9,dC,sD,cn,cP,bY,dm,SF.k,hk,i0,i1,hu]
     .by_cases XM:op=14
      .subst XM;obtain⟨a,c,l,rfl,⟨ha1,ha2⟩,hc1,hc2⟩:=lb (by simp);have i0:=kU (L:=a::c::l) (t:=0) (k:=0) (by simp);have i1:=kU (L:=a::c::l) (t:=0) (k:=1) (by simp);simp only[gH,ue,pR,yb,cB] at i0 i1;obtain⟨u,hu⟩:=B5 a.ar c.ar a.b c.b;refine fin a.ar u (a.ar==c.ar) (λ_ _ _=>⟨ha1,ha2⟩) ?_;simp[-aw,-aF,b9,dC,sD,cn,cP,bY,dm,SF.k,hk,i0,i1,hu]
      .by_cases h7:op=7
       .subst h7;obtain⟨a,c,l,rfl,⟨ha1,ha2⟩,hc1,hc2⟩:=lb (by simp);have i0:=kU (L:=a::c::l) (t:=0) (k:=0) (by simp);have i1:=kU (L:=a::c::l) (t:=0) (k:=1) (by simp);simp only[gH,ue,pR,yb,cB] at i0 i1;obtain⟨u,hu⟩:=ahM a.ar c.ar a.b c.b;refine fin a.ar u (a.ar==c.ar) (λ_ _ _=>⟨ha1,ha2⟩) ?_;simp[-aw,-aF,b9,dC,sD,cn,cP,bY,dm,SF.k,hk,i0,i1,hu]
       .by_cases h8:op=8
        .subst h8;obtain⟨a,c,l,rfl,⟨ha1,ha2⟩,hc1,hc2⟩:=lb (by simp);have i0:=kU (L:=a::c::l) (t:=0) (k:=0) (by simp);have i1:=kU (L:=a::c::l) (t:=0) (k:=1) (by simp);simp only[gH,ue,pR,yb,cB] at i0 i1;refine fin a.ar a.b (a.ar==c.ar) (λ_ _ _=>⟨ha1,ha2⟩) ?_;simp[-aw,-aF,b9,dC,sD,cn,cP,bY,dm,SF.k,hk,i0,i1]
        .by_cases vH:op=32
         .subst vH;obtain⟨a,c,l,rfl,⟨ha1,ha2⟩,hc1,hc2⟩:=lb (by simp);have i0:=kU (L:=a::c::l) (t:=0) (k:=0) (by simp);have i1:=kU (L:=a::c::l) (t:=0) (k:=1) (by simp);simp only[gH,ue,pR,yb,cB] at i0 i1;refine fin 0 Bt.e (a.ar==c.ar) (λ_ _ h=>by omega) ?_;simp[-aw,-aF,b9,dC,cn,cP,bY,jG,dm,SF.k,hk,i0,i1]
         .by_cases XN:op=33
          .subst XN;obtain⟨a,c,l,rfl,⟨ha1,ha2⟩,hc1,hc2⟩:=lb (by simp);have i0:=kU (L:=a::c::l) (t:=0) (k:=0) (by simp);have i1:=kU (L:=a::c::l) (t:=0) (k:=1) (by simp);simp only[gH,ue,pR,yb,cB] at i0 i1;refine fin 0 Bt.e (a.ar==c.ar) (λ_ _ h=>by omega) ?_;simp[-aw,-aF,b9,dC,cn,cP,bY,jG,dm,SF.k,hk,i0,i1]
          .by_cases h9:op=9
           .subst h9;obtain⟨a,c,l,rfl,⟨ha1,ha2⟩,hc1,hc2⟩:=lb (by simp);have i0:=kU (L:=a::c::l) (t:=0) (k:=0) (by simp);have i1:=kU (L:=a::c::l) (t:=0) (k:=1) (by simp);simp only[gH,ue,pR,yb,cB] at i0 i1;obtain⟨u,hu⟩:=Xi a.ar c.ar a.b c.b hc1;have w:IntKind.i64.wrap (IntKind.i64.wrap (a.ar+c.ar)-2)=a.ar+c.ar-2:=by rw[wrap64 (n:=a.ar+c.ar) (by omega) (by omega),wrap64 (by omega) (by omega)]
            rw[w] at hu;by_cases g:1<=a.ar+c.ar-2
            .refine fin (a.ar+c.ar-2) u (decide (a.ar+c.ar-2<=3)) (λh _ _=>by simp at h;omega) ?_;simp[-aw,-aF,b9,dC,sD,cn,cP,bY,dm,SF.k,hk,i0,i1,hu,w,g]
            .refine fin (a.ar+c.ar-2) u false (λh=>by cases h) ?_;simp[-aw,-aF,b9,dC,sD,cn,cP,bY,dm,SF.k,hk,i0,i1,hu,w,g]
           .by_cases h10:op=10
            .subst h10;obtain⟨a,c,l,rfl,⟨ha1,ha2⟩,hc1,hc2⟩:=lb (by simp);have i0:=kU (L:=a::c::l) (t:=0) (k:=0) (by simp);have i1:=kU (L:=a::c::l) (t:=0) (k:=1) (by simp);simp only[gH,ue,pR,yb,cB] at i0 i1;obtain⟨u,hu⟩:=ahQ a.ar c.ar a.b c.b;have w:IntKind.i64.wrap (a.ar+c.ar)=a.ar+c.ar:=wrap64 (by omega) (by omega);rw[w] at hu;refine fin (a.ar+c.ar) u (decide (a.ar+c.ar<=3)) (λh _ _=>by simp at h;omega) ?_;simp[-aw,-aF,b9,dC,sD,cn,cP,bY,dm,SF.k,hk,i0,i1,hu,w]
            .by_cases h11:op=11
             .subst h11;obtain⟨a,l,rfl,ha1,ha2⟩:=l1 (by simp);have i0:=kU (L:=a::l) (t:=0) (k:=0) (by simp);simp only[gH,pR,cB] at i0;obtain⟨u,hu⟩:=ahP a.ar a.b;refine fin 2 u (a.ar==2) (λ_ _ _=>by omega) ?_;simp[-aw,-aF,b9,dC,sD,cn,cP,bY,dm,SF.k,hk,i0,hu]
             .by_cases Fv:op=12
              .subst Fv;obtain⟨a,l,rfl,ha1,ha2⟩:=l1 (by simp);have i0:=kU (L:=a::l) (t:=0) (k:=0) (by simp);simp only[gH,pR,cB] at i0;obtain⟨u,hu⟩:=Xq a.ar a.b ha1;refine fin a.ar u (a.ar==2) (λ_ _ _=>⟨ha1,ha2⟩) ?_;simp[-aw,-aF,b9,dC,sD,cn,cP,bY,dm,SF.k,hk,i0,hu]
              .by_cases Fw:op=13
               .subst Fw;obtain⟨a,l,rfl,ha1,ha2⟩:=l1 (by simp);have i0:=kU (L:=a::l) (t:=0) (k:=0) (by simp);simp only[gH,pR,cB] at i0;obtain⟨u,hu⟩:=Xq a.ar a.b ha1;obtain⟨v,hv⟩:=B5 a.ar 2 u u2;refine fin a.ar v (a.ar==2) (λ_ _ _=>⟨ha1,ha2⟩) ?_;simp[-aw,-aF,b9,dC,sD,cn,cP,bY,dm,SF.k,hk,i0,hu,XL,hv]
               .refine fin 0 Bt.e true (λ_ _ h=>by omega) ?_;simp[-aw,-aF,b9,dC,cn,cP,bY,jG,dm,SF.k,hk,h2,h3,h4,h5,h6,XM,h7,h8,vH,XN,h9,h10,h11,Fv,Fw]
structure Vr where
 nm:List UInt8
 b:Bt
def ku(v:Vr):List PD:=.str v.nm::ah 1 v.b
def Vr.p(v:Vr):PD:=.agg (ku v)

@[simp] theorem arE(v:Vr):O (ku v)=66:=by simp[ku]
@[simp] theorem arF(v:Vr):(ku v)[0]? =Z (.str v.nm):=rfl
@[simp] theorem arG(v:Vr)(h:0<O (ku v)):(ku v)[0]'h= .str v.nm:=rfl
theorem arH(v:Vr):List.drop 1 (rE 66 (ku v))=ah 1 v.b:=by
 rw[fK (by simp)];rfl
theorem aiO(v:Vr):(ku v).tail=ah 1 v.b:=rfl
theorem aiP(v:Vr):rE 66 (ku v)=ku v:=fK (by simp)
abbrev vP(sp:Sp)(T:Sl Bool)(calls:Nat)(ins:Bool):PD:=.agg [jU sp.so,fT sp.fi,jV sp.pr,jW sp.fa,dr T,.int .i64 calls,.bool ins]
theorem aiQ{s:SF}{L:List Vr}(hs:xz 361 66 s (L.map Vr.p)){k:Nat}(h:k<O L)(t:Nat):dE Y 66 (s.d 361 66 t) (k:Int)=Z (.ro (ku L[k]) 0):=by
 have:=hs.ia t k (by simpa using h);rw[this];simp[Vr.p,xm]
def vI(sp:Sp)(f:Nat)(a:Nd)(rel:Prop):Prop:=
 ∀(T:Sl Bool) (calls:Nat) (ins:Bool) (s:SF) (L:List Vr),xz 361 66 s (L.map Vr.p)->O L+a.size<=1000->
  ∃(ar:Int) (r:Bt) (er pos:Int),(∀d H,s.at 361 66 d H->au (call pg) f [.p (vP sp T calls ins),d,.p (.agg a.cl)] H=Z (.val (.ba [.p (gF ar r),.p (.agg [.int .i64 er,.int .i64 pos])]),H))/\
   (er=0->rel->1<=ar/\ar<=3)
theorem aiR(sp:Sp)(ok:mN sp)(hn:pC sp)(a:Nd):vI sp 284 a True:=by
 intro T calls ins s L hs hb;obtain⟨ar,r,k,hk,gi⟩:=aiB sp ok hn a.nm;have hlen:=hs.len 0;rw[bT] at hlen;have key:=dT (c:=call pg) (G:=pg.G) (keep:=[1,3,5,6,7,8]) (b:=bd vq 0) (σ:=Nat) (λi=>[(1,s.d 361 66 0),(3,.box 0 0),(5,.box 1 0),(6,.box 2 0),(7,.box 3 0),(8,.p (.int .i64 ((i:Int)-1)))])
  (λ_=>⟨[[.p (jU sp.so),.p (fT sp.fi),.p (jV sp.pr),.p (jW sp.fa),.p (dr T),.p (.int .i64 ((calls:Nat):Int)),.p (.bool ins)],a.cl.map .p,(ah 0 Bt.e).map .p,[.p (.int .i64 0),.p (.int .i64 0)]],s.k⟩) (λi=>i) (λi=>i<=O L)
  (λo e H=>(o= .exit 0/\e.get 5= .box 1 0/\e.get 3= .box 0 0/\e.get 6= .box 2 0/\e.get 7= .box 3 0/\H=⟨[[.p (jU sp.so),.p (fT sp.fi),.p (jV sp.pr),.p (jW sp.fa),.p (dr T),.p (.int .i64 ((calls:Nat):Int)),.p (.bool ins)],a.cl.map .p,(ah 0 Bt.e).map .p,[.p (.int .i64 0),.p (.int .i64 0)]],s.k⟩)\/
   (o= .ret/\e.get 6= .box 2 0/\e.get 7= .box 3 0/\∃u:Bt,H=⟨[[.p (jU sp.so),.p (fT sp.fi),.p (jV sp.pr),.p (jW sp.fa),.p (dr T),.p (.int .i64 ((calls:Nat):Int)),.p (.bool ins)],a.cl.map .p,(ah 1 u).map .p,[.p (.int .i64 0),.p (.int .i64 0)]],s.k⟩))
  (by
   intro i hi;have hb0:=rf (bd vq 0)
   conv at hb0=>rhs;reduce
   have hf:=rf vq
   conv at hf=>rhs;reduce
   rw[<-hb0] at hf;have az:cy=cy:=rfl
   conv at az=>rhs;reduce
   try rw[<-az] at hf
   try rw[<-az] at hb0
   clear az;rw[hb0];clear hf hb0;cases i with
   |zero=>
    clear hs hk;refine aG (Q:=λo e H=>o= .exit 0/\e.get 5= .box 1 0/\e.get 3= .box 0 0/\e.get 6= .box 2 0/\e.get 7= .box 3 0/\H=⟨[[.p (jU sp.so),.p (fT sp.fi),.p (jV sp.pr),.p (jW sp.fa),.p (dr T),.p (.int .i64 ((calls:Nat):Int)),.p (.bool ins)],a.cl.map .p,(ah 0 Bt.e).map .p,[.p (.int .i64 0),.p (.int .i64 0)]],s.k⟩) ?_ λo e H h=>.inr ⟨by obtain⟨rfl,-⟩:=h;simp,.inl h⟩;cases s<;>(simp only[SF.d,SF.k] at *;simp[-aw,-aF])
   |succ j=>
    have hj:j<O L:=hi;have aS:=aiQ hs hj 0;have w0:((j+1 :Nat):Int)-1=(j:Int):=by omega
    have w1:IntKind.i64.wrap ((j:Int)-1)=(j:Int)-1:=wrap64 (by omega) (by omega);rw[w0];clear hs hk;generalize L[j]=v at *;by_cases hc:v.nm=a.nm
    .refine aG (Q:=λo e H=>o= .ret/\e.get 6= .box 2 0/\e.get 7= .box 3 0/\H=⟨[[.p (jU sp.so),.p (fT sp.fi),.p (jV sp.pr),.p (jW sp.fa),.p (dr T),.p (.int .i64 ((calls:Nat):Int)),.p (.bool ins)],a.cl.map .p,(ah 1 v.b).map .p,[.p (.int .i64 0),.p (.int .i64 0)]],s.k⟩) ?_ ?_
     .cases s<;>(simp only[SF.d,SF.k] at *;simp[-aw,-aF,cn,eP,bY,jG,aS,hc,aiO,aiP])
     .rintro o e H ⟨rfl,q1,q2,rfl⟩;exact .inr ⟨by simp,.inr ⟨rfl,q1,q2,v.b,rfl⟩⟩
    .refine aG (Q:=nx [1,3,5,6,7,8] [(1,s.d 361 66 0),(3,.box 0 0),(5,.box 1 0),(6,.box 2 0),(7,.box 3 0),(8,.p (.int .i64 ((j:Int)-1)))] ⟨[[.p (jU sp.so),.p (fT sp.fi),.p (jV sp.pr),.p (jW sp.fa),.p (dr T),.p (.int .i64 ((calls:Nat):Int)),.p (.bool ins)],a.cl.map .p,(ah 0 Bt.e).map .p,[.p (.int .i64 0),.p (.int .i64 0)]],s.k⟩) ?_ λo e H h=>.inl ⟨j,by omega,by omega,h⟩;cases s<;>(simp only[SF.d,SF.k] at *;simp[-aw,-aF,aS,hc,w1])) (O L) (aK _)
 obtain⟨o,e,H,hx,hq⟩:=bC key;have hw:IntKind.i64.wrap ((O L:Int)-1)=(O L:Int)-1:=wrap64 (by omega) (by omega);have fin:∀(ar:Int) (r:Bt) (er pos:Int),(er=0->1<=ar/\ar<=3)->post (dm [.cell 6 (Z 65),.cell 7 (Z 2)] s.k (.ba [.p (gF ar r),.p (.agg [.int .i64 er,.int .i64 pos])])) (aq (call pg) pg.G aM ((vq.map λf=>f.body).getD .skip) ⟨entry 0 ([vP sp T calls ins].map .p++s.d 361 66 0::[PD.agg a.cl].map .p),⟨[],s.k⟩⟩)->
     ∃(ar:Int) (r:Bt) (er pos:Int),(∀d H,s.at 361 66 d H->au (call pg) 284 [.p (vP sp T calls ins),d,.p (.agg a.cl)] H=Z (.val (.ba [.p (gF ar r),.p (.agg [.int .i64 er,.int .i64 pos])]),H))/\(er=0->True->1<=ar/\ar<=3):=by
  intro ar r er pos h1 hr;have hb0:=rf (bd vq 0)
  conv at hb0=>rhs;reduce
  have hf:=rf vq
  conv at hf=>rhs;reduce
  rw[<-hb0] at hf;rw[hf] at hr;exact⟨ar,r,er,pos,vD (e:=361) (sz:=66) (pre:=[vP sp T calls ins]) (suf:=[.agg a.cl]) (s:=s) (Ke [_,_]) hf (λ_=>by cases s<;>rfl) (by cases s<;>rfl) rfl hr,λh _=>h1 h⟩
 have hb0:=rf (bd vq 0)
 conv at hb0=>rhs;reduce
 have hf:=rf vq
 conv at hf=>rhs;reduce
 rw[<-hb0] at hf;have az:cy=cy:=rfl
 conv at az=>rhs;reduce
 try rw[<-az] at hf
 try rw[<-az] at hb0
 clear az;rw[hf] at fin;simp only[fy,mq] at fin;clear hf hb0;clear hs key;simp at hx;rcases hq with⟨rfl,q5,q3,q6,q7,rfl⟩ |⟨rfl,q6,q7,u,rfl⟩
 .by_cases k0:k=0
  .refine fin 0 Bt.e 40 a.pos (λh=>by omega) ?_;clear fin;cases s<;>(simp only[SF.d,SF.k] at *;simp[-aw,-aF,b9,dC,cn,eP,cP,bY,jG,oB,dm,hlen,hw,hx,q5,q3,q6,q7,hk,k0])
  .by_cases k1:1<k
   .refine fin 0 Bt.e 44 a.pos (λh=>by omega) ?_;clear fin;have k2:(1 :Int)<(k:Int):=by omega
    cases s<;>(simp only[SF.d,SF.k] at *;simp[-aw,-aF,b9,dC,cn,eP,cP,bY,jG,oB,dm,hlen,hw,hx,q5,q3,q6,q7,hk,k0,k2])
   .refine fin ar r 0 0 (λ_=>gi (by omega)) ?_;clear fin;have k2:¬(1 :Int)<(k:Int):=by omega
    cases s<;>(simp only[SF.d,SF.k] at *;simp[-aw,-aF,b9,dC,cn,eP,cP,bY,jG,dm,hlen,hw,hx,q5,q3,q6,q7,hk,k0,k2])
 .refine fin 1 u 0 0 (λ_=>by omega) ?_;clear fin;cases s<;>(simp only[SF.d,SF.k] at *;simp[-aw,-aF,b9,dC,cP,bY,dm,hlen,hw,hx,q6,q7])

end Go.Proofs.YtgplgbonlnodeaaGreatDoor

end
