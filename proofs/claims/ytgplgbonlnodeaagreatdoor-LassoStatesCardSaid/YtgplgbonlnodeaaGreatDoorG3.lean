/-
  A value-level evaluator for Go functions; the functions of this cut by it; plain laws. Text G3.
-/
import Derived.Test.YtgplgbonlnodeaaGreatDoorG2
import Derived.RangeFuncLeaves
import Derived.OrdersIn
import Derived.TacticsIn
import Derived.LoopNIn
import Derived.LoopN
import Derived.Scope
import Derived.RangeFuncRecord
import Derived.RangeFuncSeq
import Derived.Laws.ResultCell
import Derived.Recover
import Derived.Test.YtgplgbonlnodeaaGreatDoorG1
import Derived.Carry
import Derived.ChangeSlices
import Derived.ChangeMaps5
import Derived.RowKit
open Array renaming all_eq_true'->aoB,foldl_toList->ZY,getD_eq_getD_getElem?->bP,getElem?_append->CU,getElem?_append_right->Z0,getElem?_eq_getElem->rC,getElem?_eq_some_iff->fG,getElem?_replicate->Z6,getElem?_setIfInBounds->K7,getElem?_toList->CQ,length_toList->qq,replicate->mU,size_setIfInBounds->ZX
open Bool renaming and_eq_false_iff->Ld,and_eq_true->bL,and_eq_true_iff->CW,false_eq_true->qp,false_or->Q2,not_eq_false'->Z3,not_eq_true'->sR,or_comm->aoC,or_eq_false_iff->Ay,or_eq_true->nR,true_and->Q6,true_or->Z5
open Classical renaming byContradiction->pL
open List renaming all_eq_true->gV,any_eq_true->Q5,append_assoc->j2,append_cancel_right->aoF,append_nil->iQ,drop_eq_getElem_cons->CZ,drop_length->C0,eq_nil_of_length_eq_zero->sO,ext_getElem?->lO,filter_cons->Az,foldl_cons->tU,getD_cons_succ->Z4,getD_cons_zero->aoD,getD_eq_getElem?_getD->im,getElem?_append_left->aT,getElem?_append_right->cR,getElem?_cons_zero->ey,getElem?_drop->lN,getElem?_eq_getElem->aD,getElem?_eq_some_iff->af,getElem?_map->cG,getElem?_of_mem->dV,getElem?_set_ne->bp,getElem?_set_self->eA,getElem?_take->gL,getElem?_take_of_lt->kX,length_append->gG,length_cons->ew,length_dropLast->aoI,length_eq_one_iff->aoG,length_eq_zero_iff->CR,length_map->bT,length_nil->fH,length_singleton->AA,map->xW,map_congr_left->pN,map_cons->cB,map_inj_right->Z7,map_nil->j4,mem_append->cx,mem_cons->cq,mem_filter->my,mem_map->cA,mem_of_getElem?->bB,mem_of_mem_drop->tT,mem_of_mem_take->jn,mem_or_eq_of_mem_set->K8,mem_range->aoA,nodup_cons->tW,not_mem_nil->iC,range->j3,range'->xX,singleton_append->aoH,take_append_drop->Aw,take_zero->tY
open List.cons renaming injEq->xY
open Nat renaming add_assoc->wb,add_comm->CT,add_mul->fX,le_refl->aK,le_trans->fW,lt_of_lt_of_le->vZ,mul_le_mul_right->ju,one_mul->nP,sub_self->Au,zero_add->ez,zero_le->bD
open Option renaming bind_some->Lc,getD_some->mq,map_eq_some_iff->ak,map_some->fy
open Option.some renaming inj->nQ,injEq->bM
open Prod.mk renaming injEq->mr
open List renaming length->O
open Option renaming some->Z,none->Y

namespace Go.Vs

variable {P : Program} {W : World} {G : Nat -> Option (List PD)}
def aJ(L:Array Bool)(i:Nat):Bool:=L.getD i false
variable{L:Array Bool}{ops:Array Oper}{env:Env}{Q:Exit->Act->World->Prop}{γ:Gh}{H H':Hp}{pairs cs:List (Nat×Nat)}{sl:List SO}{i m nt:Nat}{a b:Nat×Nat}{l:Nat->Bool}{α:Type}{w:World}{f:Nat->α->α}{g0:α}
theorem Dz(hi:i<L.size)(j:Nat):aJ (L.setIfInBounds i true) j=if i=j then true else aJ L j:=by
 simp only[aJ,bP,K7];split
 .rename_i h;subst h;simp
 .rfl
theorem mem_ready(hL:L.size=ops.size)(h:i∈Region.ready .any ops L):∃o,ops[i]? =Z o/\i<ops.size/\aJ L i=false/\∀p∈lD o,aJ L p=true:=by
 simp only[Region.ready,my,aoA,bL,sR] at h;obtain⟨hi,h1,h2⟩:=h;have ho:ops[i]? =Z ops[i]:=rC hi;rw[ho] at h2;simp only[fy,mq] at h2;refine⟨_,ho,hi,?_,λp hp=>?_⟩
 .have MK:i<L.size:=by omega
  simp only[aJ,bP,rC MK,mq] at h1|-;exact h1
 .simp only[lD,cA,my,Array.mem_toList_iff] at hp;obtain⟨e,⟨he,hb⟩,rfl⟩:=hp;have:=(aoB.1 h2) e he;simpa[hb,aJ] using this
theorem acU(hL:L.size=ops.size){o:Oper}(ho:ops[i]? =Z o)(hl:aJ L i=false)(hp:∀p∈lD o,aJ L p=true):i∈Region.ready .any ops L:=by
 have hi:i<ops.size:=(fG.1 ho).1;simp only[Region.ready,my,aoA,bL,sR];refine⟨hi,?_,?_⟩
 .have MK:i<L.size:=by omega
  simp only[aJ,bP,rC MK,mq] at hl|-;exact hl
 .rw[ho];simp only[fy,mq];refine aoB.2 λe he=>?_;by_cases hb:Region.binds .any e=true
  .have:=hp e.on (cA.2 ⟨e,my.2 ⟨by simpa using he,hb⟩,rfl⟩);simpa[hb,aJ] using this
  .simp[hb]
def left(l:Nat->Bool):Nat->Nat
 | 0=>0
 |n+1=>left l n+if l n then 0 else 1
theorem ML{l:Nat->Bool}:∀{n:Nat},left l n=0->∀j,j<n->l j=true
 |n+1,h,j,hj=>by
  simp only[left] at h;by_cases DA:j=n
  .subst DA;cases hl:l j<;>simp_all
  .exact ML (n:=n) (by omega) j (by omega)
theorem MM{l l':Nat->Bool}{i:Nat}(hi:l i=false)(hs:∀j,l' j=if i=j then true else l j):∀{n:Nat},(i<n->left l' n+1=left l n)/\(n<=i->left l' n=left l n)
 | 0=>⟨λh=>by omega,λ_=>rfl⟩
 |n+1=>by
  obtain⟨h1,h2⟩:=MM hi hs (n:=n);simp only[left,hs n];refine⟨λh=>?_,λh=>?_⟩
  .by_cases hn:i=n
   .subst hn;rw[h2 (by omega)];simp[hi]
   .rw[if_neg hn,<-h1 (by omega)];omega
  .have hne:¬i=n:=by omega
   rw[if_neg hne,h2 (by omega)]
theorem HF{l:Nat->Bool}:∀(n:Nat),(∃j,j<n/\l j=false)->∃j,j<n/\l j=false/\∀k,k<j->l k=true
 | 0,⟨j,h,_⟩=>by omega
 |n+1,⟨j,h,hj⟩=>by
  by_cases q:∃j,j<n/\l j=false
  .obtain⟨k,h1,h2,h3⟩:=HF n q;exact⟨k,by omega,h2,h3⟩
  .refine⟨j,h,hj,λk hk=>?_⟩;cases hl:l k with
   |true=>rfl
   |false=>exact absurd ⟨k,by omega,hl⟩ q
theorem Tk(i:Nat):aV (3+2*i)=false:=by
 simp only[aV,Ay,Ld,decide_eq_false_iff_not,beq_eq_false_iff_ne];omega
def touches(b c:Nat):Bool:=aV c&&(c==2|| !oL b ((c-4)/2))
theorem MN{b c:Nat}(h:touches b c=true):aV c=true:=(CW.1 h).1
theorem acV{b c:Nat}(h:touches b c=false):aV c=false\/∃i,c=4+2*i/\oL b i=true:=by
 cases hw:aV c with
 |false=>exact .inl rfl
 |true=>
  right;simp only[touches,hw,Q6,Ay,beq_eq_false_iff_ne,Z3] at h;simp only[aV,nR,beq_iff_eq,bL,decide_eq_true_eq] at hw;exact⟨(c-4)/2,by omega,h.2⟩
theorem MO{b:Nat}(hi:i<2000000000):touches b (4+2*i)=(b==i):=by
 have hw:aV (4+2*i)=true:=uM i;have h2:(4+2*i==2)=false:=by simp;omega
 have h3:(4+2*i-4)/2=i:=by omega
 simp only[touches,hw,h2,h3,oL,if_pos hi,Q6,Q2];cases h:b==i<;>simp[bne,h]
theorem acW(a b:Nat×Nat):qx a b=qx b a:=by
 rw[Bool.eq_iff_iff];simp only[qx,bL,bne_iff_ne,beq_iff_eq];constructor<;>rintro⟨⟨⟨h1,h2⟩,h3⟩,h4⟩<;>exact⟨⟨⟨h2,h1⟩,h3.symm⟩,λe=>h4 e.symm⟩
theorem acX(a b:Nat×Nat):eR a b=eR b a:=by
 simp only[eR];rw[Bool.and_comm (a.1 !=0),aoC (aV a.1),aoC (lg a.1 b.1),acW a b]
theorem acY(h:eR a b=true):a.1≠0/\b.1≠0:=by
 simp only[eR,bL,bne_iff_ne] at h;exact h.1.1.1
theorem DB{a b:Nat}(h:lg a b=true):(∃i,a=3+2*i)/\aV a=false/\aV b=true:=by
 simp only[lg,bL,decide_eq_true_eq,beq_iff_eq] at h;refine⟨⟨(a-3)/2,by omega⟩,?_,?_⟩
 .simp only[aV,Ay,Ld,decide_eq_false_iff_not,beq_eq_false_iff_ne];omega
 .simp only[aV,nR,bL,decide_eq_true_eq,beq_iff_eq];omega
theorem HI{b:Nat}(h:aV b=true):b≠0:=λe=>by subst e;cases h
theorem MP(h:a.2=0\/b.2=0\/a.1≠b.1\/a.2=b.2):qx a b=false:=by
 cases q:qx a b with
 |false=>rfl
 |true=>
  simp only[qx,bL,bne_iff_ne,beq_iff_eq] at q;obtain⟨⟨⟨h1,h2⟩,h3⟩,h4⟩:=q;rcases h with h |h |h |h
  .exact absurd h h1
  .exact absurd h h2
  .exact absurd h3 h
  .exact absurd h h4
theorem Tl(h0:a.1≠0)(hn:∀i,a.1≠3+2*i)(h2:a.2=0)(h:aV b.1=true):eR a b=true:=by
 simp only[eR,bL,bne_iff_ne,nR,sR,Ay];refine⟨⟨⟨⟨h0,HI h⟩,.inr h⟩,?_,?_⟩,MP (.inl h2)⟩
 .cases q:lg a.1 b.1 with
  |false=>rfl
  |true=>obtain⟨⟨i,hi⟩,_⟩:=DB q;exact absurd hi (hn i)
 .cases q:lg b.1 a.1 with
  |false=>rfl
  |true=>obtain⟨_,h1,_⟩:=DB q;rw[h] at h1;cases h1
theorem DC(ha:aV a.1=true)(hb:aV b.1=true)(h2:a.2=0\/b.2=0\/a.1≠b.1\/a.2=b.2):eR a b=true:=by
 simp only[eR,bL,bne_iff_ne,nR,sR,Ay];refine⟨⟨⟨⟨HI ha,HI hb⟩,.inr hb⟩,?_,?_⟩,MP h2⟩
 .cases q:lg a.1 b.1 with
  |false=>rfl
  |true=>obtain⟨_,h1,_⟩:=DB q;rw[ha] at h1;cases h1
 .cases q:lg b.1 a.1 with
  |false=>rfl
  |true=>obtain⟨_,h1,_⟩:=DB q;rw[hb] at h1;cases h1
theorem acZ{b:Nat}{c:Nat×Nat}(ha:a.1=3+2*b)(h:touches b c.1=true):eR a c=true:=by
 have hw:=MN h;have h0:=h;simp only[touches,bL,nR,beq_iff_eq,sR] at h;simp only[eR,bL,bne_iff_ne,nR,sR,Ay];refine⟨⟨⟨⟨by omega,HI hw⟩,.inr hw⟩,?_,?_⟩,MP (.inr (.inr (.inl (λe=>by rw[<-e,ha,Tk] at hw;cases hw))))⟩
 .cases q:lg a.1 c.1 with
  |false=>rfl
  |true=>
   simp only[lg,bL,decide_eq_true_eq,beq_iff_eq] at q;rw[ha,show(3+2*b-3)/2=b by omega] at q;rcases h.2 with h2 |h2
   .omega
   .rw[h2] at q;exact absurd q.2 (by simp)
 .cases q:lg c.1 a.1 with
  |false=>rfl
  |true=>obtain⟨_,h1,_⟩:=DB q;rw[hw] at h1;cases h1
theorem ac0{a b:PD}(h:iU a b=true):cY a=cY b:=by
 unfold iU at h;split at h
 .rw[eq_of_beq h]
 .simp only[beq_iff_eq] at h;subst h;rfl
 .rw[eq_of_beq h]
 .simp only[bL,beq_iff_eq] at h;obtain⟨⟨rfl,rfl⟩,rfl⟩:=h;rfl
 .cases h
theorem Tm{k x:PD}:∀(p:Nat) (l:List PD),p<=O l->(iV k (eD p x l)=Y↔iV k l=Y/\iU k x=false)
 | 0,l,_=>by
  simp only[eD,iV];cases iU k x<;>simp
 |p+1,[],h=>by simp at h
 |p+1,a::l,h=>by
  have:=Tm (k:=k) (x:=x) p l (by simpa using h);simp only[eD,iV];cases iU k a with
  |true=>simp
  |false=>simpa using this
theorem MQ{α:Type}{k1 k2:PD}(hne:cY k1≠cY k2)(y1 y2:α):∀(ks:List PD) (zs:List α),O zs=O ks->
    eD (iq (cY k1) (eD (iq (cY k2) ks) k2 ks)) y1 (eD (iq (cY k2) ks) y2 zs)=eD (iq (cY k2) (eD (iq (cY k1) ks) k1 ks)) y2 (eD (iq (cY k1) ks) y1 zs)
 |[],[],_=>by
  by_cases h:cY k1<cY k2
  .have h':¬cY k2<cY k1:=by omega
   simp[iq,eD,h,h']
  .have h':cY k2<cY k1:=by omega
   simp[iq,eD,h,h']
 |a::ks,z::zs,hl=>by
  have ih:=MQ hne y1 y2 ks zs (by simpa using hl);by_cases h1:cY k1<cY a
  .by_cases h2:cY k2<cY a
   .by_cases h:cY k1<cY k2
    .have h':¬cY k2<cY k1:=by omega
     simp[iq,eD,h,h',h1,h2]
    .have h':cY k2<cY k1:=by omega
     simp[iq,eD,h,h',h1,h2]
   .have h':¬cY k2<cY k1:=by omega
    simp[iq,eD,h',h1,h2]
  .by_cases h2:cY k2<cY a
   .have h':¬cY k1<cY k2:=by omega
    simp[iq,eD,h',h1,h2]
   .simp[iq,eD,h1,h2,ih]
 |[],_::_,h=>by simp at h
 |_::_,[],h=>by simp at h

section
variable {q1 q2 : Nat × Nat × PD × D} (hne : cY q1.2.2.1 ≠ cY q2.2.2.1)
include hne
theorem DD{ks:List PD}{vs:List D}:(iV q1.2.2.1 (eD (iq (cY q2.2.2.1) ks) q2.2.2.1 ks)=Y/\O (eD (iq (cY q2.2.2.1) ks) q2.2.2.2 vs)=O (eD (iq (cY q2.2.2.1) ks) q2.2.2.1 ks))↔(iV q1.2.2.1 ks=Y/\O vs=O ks):=by
 have hk:iU q1.2.2.1 q2.2.2.1=false:=by
  cases h:iU q1.2.2.1 q2.2.2.1 with
  |false=>rfl
  |true=>exact absurd (ac0 h) hne
 rw[Tm _ _ (Mi _ _),rO,rO,hk];simp
theorem Tn{o:Option (List D)}:qH q1 (mF q2 o)↔qH q1 o:=by
 have key:∀{kd:Nat} {ks:List PD} {vs:List D},qH q1 (Z [.cD kd ks vs])↔kd=q1.1/\dS q1.2.2.1=q1.1/\q1.1≠1/\iV q1.2.2.1 ks=Y/\O vs=O ks:=by
  intro kd ks vs;constructor
  .rintro⟨wG,cL,h,h1,h2,h3,h4⟩;simp only[bM,xY,D.cD.injEq,and_true] at h;obtain⟨rfl,rfl,rfl⟩:=h;exact⟨rfl,h1,h2,h3,h4⟩
  .rintro⟨rfl,h1,h2,h3,h4⟩;exact⟨ks,vs,rfl,h1,h2,h3,h4⟩
 unfold mF;split
 .rename_i kd ks vs;split
  .rename_i hc;obtain⟨c1,c2,c3,c4,c5⟩:=hc;rw[key,key,DD hne,c2]
  .rfl
 .rfl
theorem ac1(o:Option (List D)):mF q1 (mF q2 o)=mF q2 (mF q1 o):=by
 have Tp:cY q2.2.2.1≠cY q1.2.2.1:=λe=>hne e.symm;have tj:∀(q:Nat×Nat×PD×D) kd ks vs,mF q (Z [.cD kd ks vs])=if dS q.2.2.1=q.1/\kd=q.1/\q.1≠1/\iV q.2.2.1 ks=Y/\O vs=O ks then
     Z [.cD q.1 (eD (iq (cY q.2.2.1) ks) q.2.2.1 ks) (eD (iq (cY q.2.2.1) ks) q.2.2.2 vs)] else Z [.cD kd ks vs]:=λq kd ks vs=>rfl
 by_cases oX:∃kd ks vs,o=Z [.cD kd ks vs]
 .obtain⟨kd,ks,vs,rfl⟩:=oX;rw[tj q1,tj q2];by_cases h1:dS q1.2.2.1=q1.1/\kd=q1.1/\q1.1≠1/\iV q1.2.2.1 ks=Y/\O vs=O ks
  .by_cases h2:dS q2.2.2.1=q2.1/\kd=q2.1/\q2.1≠1/\iV q2.2.2.1 ks=Y/\O vs=O ks
   .rw[if_pos h1,if_pos h2,tj,tj];obtain⟨a1,a2,a3,a4,a5⟩:=h1;obtain⟨b1,b2,b3,b4,b5⟩:=h2;have e:q1.1=q2.1:=a2.symm.trans b2;rw[if_pos ⟨a1,e.symm,a3,(DD hne).2 ⟨a4,a5⟩⟩,if_pos ⟨b1,e,b3,(DD Tp).2 ⟨b4,b5⟩⟩];rw[MQ hne q1.2.2.1 q2.2.2.1 ks ks rfl,MQ hne q1.2.2.2 q2.2.2.2 ks vs a5,e]
   .rw[if_pos h1,if_neg h2,tj,tj,if_pos h1,if_neg];rintro⟨b1,b2,b3,b4⟩;exact h2 ⟨b1,h1.2.1.trans b2,b3,(DD Tp).1 b4⟩
  .by_cases h2:dS q2.2.2.1=q2.1/\kd=q2.1/\q2.1≠1/\iV q2.2.2.1 ks=Y/\O vs=O ks
   .rw[if_neg h1,if_pos h2,tj,tj,if_pos h2,if_neg];rintro⟨b1,b2,b3,b4⟩;exact h1 ⟨b1,h2.2.1.trans b2,b3,(DD hne).1 b4⟩
   .rw[if_neg h1,if_neg h2,tj,tj,if_neg h1,if_neg h2]
 .have no:∀q,mF q o=o:=λq=>by
   unfold mF;split
   .exact absurd ⟨_,_,_,rfl⟩ oX
   .rfl
  rw[no,no,no]
theorem ac2(hb:q1.2.1=q2.2.1)(h:Hp):fO q1 (fO q2 h)=fO q2 (fO q1 h):=by
 have tk:∀q (h:Hp),(fO q h).tk=h.tk:=λq h=>by unfold fO;split<;>rfl
 have e1:(fO q1 (fO q2 h)).bx=(fO q2 (fO q1 h)).bx:=by
  refine lO λb=>?_;rw[uP,uP,uP,uP];by_cases hq:q1.2.1=b
  .have kO:q2.2.1=b:=hb▸hq;rw[if_pos hq,if_pos kO,if_pos kO,if_pos hq];exact ac1 hne _
  .have kO:¬q2.2.1=b:=hb▸hq;rw[if_neg hq,if_neg kO,if_neg kO,if_neg hq]
 have e2:(fO q1 (fO q2 h)).tk=(fO q2 (fO q1 h)).tk:=by rw[tk,tk,tk,tk]
 cases ha:fO q1 (fO q2 h);cases hc:fO q2 (fO q1 h);rw[ha,hc] at e1 e2;simp only at e1 e2;rw[e1,e2]
end
theorem Tq{wr:Nat->Bool}(h:l m=true/\wr m=true):bE g0 wr f l (m+1)=f m (bE g0 wr f l m):=if_pos h
theorem Tr{wr:Nat->Bool}(h:¬(l m=true/\wr m=true)):bE g0 wr f l (m+1)=bE g0 wr f l m:=if_neg h
theorem Ts:∀{cs:List (Nat×Nat)},sT cs=true->∀(i j:Nat),i≠j->(cs.getD i (0,0)).2≠0->cs.getD i (0,0)≠cs.getD j (0,0)
 |[],_,i,j,_,h=>by simp at h
 |c::r,hk,i,j,cI,h=>by
  simp only[sT,bL,nR,beq_iff_eq,sR] at hk;have mem:∀m,(r.getD m (0,0)).2≠0->r.getD m (0,0)∈r:=λm hm=>by
   simp only[im] at hm|-;cases hr:r[m]? with
   |none=>rw[hr] at hm;simp at hm
   |some x=>simpa using bB hr
  match i,j with
  | 0,0=>exact absurd rfl cI
  | 0,j+1=>
   simp only[aoD,Z4] at h|-;intro e;rcases hk.1 with q |q
   .exact h q
   .have:=mem j (by rw[<-e];exact h);rw[<-e] at this;simp[this] at q
  |i+1,0=>
   simp only[aoD,Z4] at h|-;intro e;rcases hk.1 with q |q
   .rw[e] at h;exact h q
   .have:=mem i h;rw[e] at this;simp[this] at q
  |i+1,j+1=>
   simp only[Z4] at h|-;exact Ts hk.2 i j (by omega) h
theorem ac3(ops:List SO)(e:Env)(t:Nat):(ym ops e).get t=if(ops.any λo=>o.dst==Z t)=true then .dead else e.get t:=by
 induction e with
 |nil=>simp[ym,Env.get]
 |cons y e ih=>
  obtain⟨s,x⟩:=y;simp only[ym,Az] at ih|-;by_cases hs:s=t
  .subst hs;by_cases h:(ops.any λo=>o.dst==Z s)=true
   .rw[if_pos h] at ih|-;simpa[h] using ih
   .rw[if_neg h];simp[h,Env.get]
  .split
   .simp only[Env.get,if_neg hs];exact ih
   .rw[ih];simp only[Env.get,if_neg hs]
theorem Tt{wr:Nat->Bool}{d:Nat->α}:∀{n:Nat},(∀j,j<n->wr j=true->False)->jC g0 wr d l n=g0
 | 0,_=>rfl
 |n+1,h=>by
  simp only[jC];rw[if_neg λhw=>h n (by omega) hw.2,Tt λj hj=>h j (by omega)]
structure DF (W:World) (G:Nat->Option (List PD)) (sl:List SO) (n:Nat) (R:Nat->Nat->Bool) (mk X:Nat->Bool) (E0:Env) (d:Nat->D) (fh:(Nat->Bool)->Hp) (γ:Gh) (H0:Hp) (w:World) (M L:Array Bool) (γ1:Gh) (a1:Act) (w1:World) (B:Nat->Bool):Prop where
 hL:L.size=n
 dG:∀i,i<n->aJ L i=true->∀j,j<i->R i j=true->aJ L j=true
 uQ:∀i,i<n->X i=true->aJ L i=false
 hle:γ.le γ1
 hF:Frame γ H0 w γ1 (fh (aJ L)) w1
 hI:bw W G γ1 (fh (aJ L)) w1
 hM:∀j,aJ M j=(aJ L j||B j)
 hB:∃blk:Nat->Nat,(∀b b',B b=true->B b'=true->blk b=blk b'->b=b')/\∀b,B b=true->mk b=true/\aJ L b=false/\b<n/\∃y ty zs,sl[b]? =Z y/\y.dst=Z ty/\y.k= .alloc zs/\a1.tmps.getD ty undef= .pointer (Z ⟨blk b,0,Y⟩)/\oW γ1 (fh (aJ L)) w.heap.size zs (blk b) w1
 hE:∀t,(∀b y,B b=true->sl[b]? =Z y->y.dst≠Z t)->aB γ1 (a1.tmps.getD t undef) (jC (E0.get t) (l8 sl t) d (aJ L) n)
theorem Tu{c:br}(S:Sound P W G c)(hlen:ops.size=O sl)(kM:∀(i:Nat) o so,ops[i]? =Z o->sl[i]? =Z so->p8 P ops nt o so)
    (hlt:∀(j:Nat) o' t,ops[j]? =Z o'->o'.dst=Z t->t<nt)  (bV:Bd pairs ops.toList sl=true) {E:Nat->Env} {Hs:Nat->Hp} {d:Nat->D}  {X:Nat->Bool}
    (T:Trace c G sl E Hs d (λj=>cs.getD j (0,0)) X)
    (yN:uh pairs cs=true) (eE:∀a0,jD pairs a0=true->∀i,X i=false)  {a:Act}  (I:bw W G γ (Hs 0) w) (En:aW γ (E 0) a.tmps) (hn:a.tmps.size=nt) 
    (hX:∀(i:Nat) so,sl[i]? =Z so->X i=true->
     (∃j ft,j<i/\X j=true/\sl[j]? =Z ft/\lC ft so=true)\/
     (∃j ft,j<i/\X j=true/\sl[j]? =Z ft/\ft.k.fj=false/\so.k.fj=false/\(j,i)∉pairs)\/
     (so.k.fj=false/\(∀j,j<O sl->j≠i->aV (cs.getD j (0,0)).1=true->j<i/\(j,i)∉pairs)/\fY (E i) so.g=Z true/\∃dv H1,cH c G (E i) (Hs i) so.k=Z (.bN dv,H1)/\
      ∀γ' v a' w',γ.le γ'->Frame γ (Hs 0) w γ' H1 w'->bw W G γ' H1 w'->aB γ' v dv->aW γ' (ym sl (E 0)) a'.tmps->a'.tmps.size=nt->a'.defers=a.defers->Q (.panic [{v,recovered:=false}]) a' w'))
    (hQ:(∀i,i<ops.size->X i=false)->∀γ' a' w',γ.le γ'->Frame γ (Hs 0) w γ' (Hs (O sl)) w'->bw W G γ' (Hs (O sl)) w'->aW γ' (E (O sl)) a'.tmps->a'.tmps.size=nt->a'.defers=a.defers->Q .normal a' w'):
    wpAny P .any ops Q ops.size (mU ops.size false) a w:=by
 obtain⟨R0,iy,DG⟩:=acA bV;obtain⟨R,yO⟩:∃R:Nat->Nat->Bool,∀i j,R i j=(R0 i j||(jD pairs i&&rT sl j)):=⟨_,λ_ _=>rfl⟩;have Tv:∀(i j:Nat),jD pairs i=true->j<i->j<O sl->R0 i j=false:=λi j hm hj jz=>by
  obtain⟨x,o,e,zx,tx,e1,e2,e3,e4,e5,e6,e7,e8⟩:=(DG i hm).al;rcases(iy i o x e2 e1).2 j _ hj (aD jz) with⟨_,p,hp,_⟩ |⟨h,_⟩
  .rw[e8] at hp;simp at hp
  .exact h
 have hR:∀(i:Nat) o b,ops.toList[i]? =Z o->sl[i]? =Z b->(∀p∈lD o,p<i)/\∀(j:Nat) a,j<i->sl[j]? =Z a->
     (R i j=true/\((jD pairs i=true/\lC a b=false)\/(R0 i j=true/\∃p∈lD o,p=j\/(j<p/\R0 p j=true))))\/(R i j=false/\lC a b=false/\(a.k.fj=true\/b.k.fj=true\/(j,i)∈pairs)):=λi o b ho hb=>by
  obtain⟨h1,h2⟩:=iy i o b ho hb;refine⟨h1,λj a hj ha=>?_⟩;rcases h2 j a hj ha with⟨q1,q2⟩ |⟨q1,q2,q3⟩
  .exact .inl ⟨by rw[yO,q1,Z5],.inr ⟨q1,q2⟩⟩
  .cases hm:jD pairs i with
   |true=>
    cases hh:a.k.fj with
    |true=>exact .inr ⟨by rw[yO,q1,hm];simp[rT,ha,hh],q2,.inl rfl⟩
    |false=>exact .inl ⟨by rw[yO,q1,hm];simp[rT,ha,hh],.inl ⟨rfl,q2⟩⟩
   |false=>exact .inr ⟨by rw[yO,q1,hm];rfl,q2,by rw[hm] at q3;simpa using q3⟩
 have qI:∀i,i<ops.size->∃o b,ops[i]? =Z o/\ops.toList[i]? =Z o/\sl[i]? =Z b:=λi hi=>
  ⟨ops[i],sl[i]'(by omega),rC hi,by simp[hi],aD (by omega)⟩
 unfold uh at yN;rw[bL] at yN;obtain⟨hp,iG⟩:=yN;have DI:∀(j i:Nat),(j,i)∈pairs->eR (cs.getD j (0,0)) (cs.getD i (0,0))=false:=λj i h=>by simpa using gV.1 hp (j,i) h
 have Tw:=Ts iG;generalize HJ:(λj=>cs.getD j (0,0))=cf at T;have rW:∀j,cs.getD j (0,0)=cf j:=λj=>by rw[<-HJ]
 simp only[rW] at Tw hX;have ac4:∀(M L:Array Bool) (γ1:Gh) (a1:Act) (w1:World) (B:Nat->Bool) (b:Nat),DF W G sl ops.size R (jD pairs) X (E 0) d (λl=>bE (Hs 0) (λj=>aV (cf j).1) (cT sl E Hs cf) l ops.size) γ (Hs 0) w M L γ1 a1 w1 B->B b=true->(∀j,j<b->rT sl j=true->aJ L j=true)->
     ∃γ2,DF W G sl ops.size R (jD pairs) X (E 0) d (λl=>bE (Hs 0) (λj=>aV (cf j).1) (cT sl E Hs cf) l ops.size) γ (Hs 0) w M (L.setIfInBounds b true) γ2 a1 w1 (λj=>B j&&j !=b):=by
  intro M L γ1 a1 w1 B b st hb oo;obtain⟨hL,dG,uQ,hle,hF,hI,hM,⟨blk,Bg,hB⟩,hE⟩:=st;obtain⟨mb,lb,bn,y,ty,zs,hy,rX,HL,htm,MR⟩:=hB b hb;obtain⟨x,o,e,zx,tx,e1,e2,e3,e4,e5,e6,e7,e8⟩:=(DG b mb).al;have :x=y:=by rw[hy] at e1;cases e1;rfl
  subst this;have :zx=zs:=by rw[HL] at e4;cases e4;rfl
  subst this;have fP:zx.all PD.one=true/\d b= .box (O (Hs b).bx) 0/\Hs (b+1)={Hs b with bx:=(Hs b).bx++[zx.map .p]}/\cf b=(4+2*O (Hs b).bx,0):=by
   rcases T.step b x hy with⟨q,_⟩ |⟨_,q2,q3⟩
   .exfalso;rcases q with q |q
    .rw[eE b mb b] at q;cases q
    .rw[e6] at q;cases q
   .rw[HL,lZ rfl] at q2;simp only[aP] at q2;split at q2
    .rename_i d0 H0 eW;split at eW
     .rename_i ac6;cases eW;simp only[bM,mr,bR.val.injEq] at q2;obtain⟨q4,q5⟩:=q2;refine⟨ac6,q4.symm,q5.symm,?_⟩;rw[q3,HL];simp[j7,cls,ug,gY]
     .cases eW
    .cases q2
  obtain⟨sy1,sy2,Tx,DJ⟩:=fP;have hwy:aV (cf b).1=true:=by rw[DJ];exact uM _
  have late:∀j,b<j->j<ops.size->R j b=true->aJ L j=false:=λj hj DA hr=>by
   cases hl:aJ L j with
   |false=>rfl
   |true=>rw[dG j DA hl b hj hr] at lb;cases lb
  have Ty:∀j,b<j->j<ops.size->aV (cf j).1=true->aJ L j=false:=λj h1 h3 h4=>by
   obtain⟨oj,bj,_,rY,oY⟩:=qI j h3;refine late j h1 h3 ?_;rcases(hR j oj bj rY oY).2 b _ h1 hy with q |⟨_,_,q⟩
   .exact q.1
   .exfalso;rcases q with q |q |q
    .rw[HL] at q;cases q
    .rw[T.fj oY q] at h4;cases h4
    .have:=DI b j q;rw[rW,rW,Tl (by rw[DJ];dsimp only;omega) (λb=>by rw[DJ];dsimp only;omega) (by rw[DJ]) h4] at this;cases this
  have MS:bE (Hs 0) (λj=>aV (cf j).1) (cT sl E Hs cf) (aJ L) ops.size=Hs b:=by
   rw[T.heap b (by omega),<-Dy ops.size (by omega)];refine rV _ λj hj hw=>?_;by_cases hne:j=b
   .subst hne;simp[lb]
   .by_cases hjb:j<b
    .obtain⟨oj,bj,_,rY,oY⟩:=qI j hj;rw[oo j hjb ?_]
     .simp[hjb]
     .cases hh:bj.k.fj with
      |false=>simp[rT,oY,hh]
      |true=>rw[T.fj oY hh] at hw;cases hw
    .rw[Ty j (by omega) hj hw];simp[hjb]
  have rZ:=Dz (L:=L) (i:=b) (by omega);have hH3:bE (Hs 0) (λj=>aV (cf j).1) (cT sl E Hs cf) (aJ (L.setIfInBounds b true)) ops.size=Hs (b+1):=
   MJ (g0:=Hs 0) (wr:=λj=>aV (cf j).1) (f:=cT sl E Hs cf) (l:=aJ (L.setIfInBounds b true)) (i:=b) (x:=Hs (b+1)) (by rw[rZ];simp) hwy (λ_=>HB (by rw[DJ])) _ bn λj h1 h3 h4=>by
    rw[rZ,if_neg (by omega)];exact Ty j h1 h3 h4
  have hF:Frame γ (Hs 0) w γ1 (bE (Hs 0) (λj=>aV (cf j).1) (cT sl E Hs cf) (aJ L) ops.size) w1:=hF;have hI:bw W G γ1 (bE (Hs 0) (λj=>aV (cf j).1) (cT sl E Hs cf) (aJ L) ops.size) w1:=hI;have MR:oW γ1 (bE (Hs 0) (λj=>aV (cf j).1) (cT sl E Hs cf) (aJ L) ops.size) w.heap.size zx (blk b) w1:=MR;obtain⟨γ2,g1,g2,g3,g4,g5⟩:=MR.add hI hF I.nc.size sy1 e5;rw[MS,<-Tx] at g2 g3;rw[MS] at g4;have g5:∀(s1:Nat) (wK:List PD) (b1:Nat),b1≠blk b->oW γ1 (bE (Hs 0) (λj=>aV (cf j).1) (cT sl E Hs cf) (aJ L) ops.size) s1 wK b1 w1->oW γ2 (Hs (b+1)) s1 wK b1 w1:=by
   rw[Tx,<-MS];exact g5
  rw[<-hH3] at g2 g3 g5;refine⟨γ2,by simp[hL],λk hk hlk j hj hr=>?_,λj _ hx=>(by rw[eE b mb j] at hx;cases hx),hle.trans g1,g2,g3,λj=>?_,⟨blk,λb1 b2 h1 h2=>Bg b1 b2 ((CW.1 h1).1) ((CW.1 h2).1),λb1 h1=>?_⟩,λt ht=>?_⟩
  .rw[rZ];split
   .rfl
   .rw[rZ] at hlk;split at hlk
    .rename_i tq;subst tq;rw[yO,nR] at hr;rcases hr with hr |hr
     .rw[Tv b j mb hj (by omega)] at hr;cases hr
     .exact oo j hj (CW.1 hr).2
    .exact dG k hk hlk j hj hr
  .rw[hM,rZ];by_cases q1:b=j
   .subst q1;simp[hb]
   .have q':(j !=b)=true:=by simpa using λe:j=b=>q1 e.symm
    rw[if_neg q1,q',Bool.and_true]
  .obtain⟨h1,h2⟩:=CW.1 h1;have h2:b1≠b:=by simpa using h2
   obtain⟨m1,m2,m3,y1,ty1,wK,m4,m5,m6,m7,m8⟩:=hB b1 h1;exact⟨m1,by rw[rZ,if_neg (Ne.symm h2)];exact m2,m3,y1,ty1,wK,m4,m5,m6,m7,g5 _ _ _ (λq=>h2 (Bg b1 b h1 hb q)) m8⟩
  .by_cases DK:t=ty
   .subst DK;rw[MB (i:=b) (by rw[rZ];simp) (by simp[l8,hy,rX]) _ bn λj h1 h2 h3=>?_,htm,sy2]
    .exact g4
    .rw[rZ,if_neg (by omega)];obtain⟨oj,bj,_,rY,oY⟩:=qI j h2;refine late j h1 h2 ?_;rcases(hR j oj bj rY oY).2 b _ h1 hy with q |⟨_,q,_⟩
     .exact q.1
     .exfalso;have :bj.dst=Z t:=by simpa[l8,oY] using h3
      simp[lC,rX,this] at q
   .rw[Bc (l:=aJ (L.setIfInBounds b true)) (l':=aJ L) _ λj hj hw=>by
     rw[rZ,if_neg];intro e;subst e;have :x.dst=Z t:=by simpa[l8,hy] using hw
     rw[rX] at this;cases this;exact DK rfl]
    refine(hE t λb1 y1 h1 h2=>?_).mono g1;by_cases lB:b1=b
    .subst lB;rw[hy] at h2;cases h2;rw[rX];intro q;cases q;exact DK rfl
    .exact ht b1 y1 (by simp[h1,lB]) h2
 have prom:∀(m:Nat) (M L:Array Bool) (γ1:Gh) (a1:Act) (w1:World) (B:Nat->Bool),left (aJ L) ops.size=m->DF W G sl ops.size R (jD pairs) X (E 0) d (λl=>bE (Hs 0) (λj=>aV (cf j).1) (cT sl E Hs cf) l ops.size) γ (Hs 0) w M L γ1 a1 w1 B->
     ∃L' γ' B',DF W G sl ops.size R (jD pairs) X (E 0) d (λl=>bE (Hs 0) (λj=>aV (cf j).1) (cT sl E Hs cf) l ops.size) γ (Hs 0) w M L' γ' a1 w1 B'/\∀b,B' b=true->∃j,j<b/\rT sl j=true/\aJ L' j=false:=by
  intro m
  induction m with
  |zero=>
   intro M L γ1 a1 w1 B hm st;refine⟨L,γ1,B,st,λb hb=>?_⟩;obtain⟨blk,_,hB⟩:=st.hB;obtain⟨_,h2,h3,_⟩:=hB b hb;rw[ML hm b h3] at h2;cases h2
  |succ m ih=>
   intro M L γ1 a1 w1 B hm st;by_cases hex:∃b,B b=true/\∀j,j<b->rT sl j=true->aJ L j=true
   .obtain⟨b,hb,oo⟩:=hex;obtain⟨γ2,st2⟩:=ac4 M L γ1 a1 w1 B b st hb oo;obtain⟨blk,_,hB⟩:=st.hB;obtain⟨_,h2,h3,_⟩:=hB b hb;refine ih M _ γ2 a1 w1 _ ?_ st2;have hLs:=st.hL;have:=(MM h2 (Dz (L:=L) (i:=b) (by omega)) (n:=ops.size)).1 h3;omega
   .refine⟨L,γ1,B,st,λb hb=>?_⟩;refine pL λhne=>hex ⟨b,hb,λj hj gA=>?_⟩;cases hl:aJ L j with
    |true=>rfl
    |false=>exact absurd ⟨j,hj,gA,hl⟩ hne
 -- what is related
 have key:∀(fuel:Nat) (M L:Array Bool) (γ1:Gh) (a1:Act) (w1:World) (B:Nat->Bool),M.size=ops.size->left (aJ M) ops.size=fuel->DF W G sl ops.size R (jD pairs) X (E 0) d (λl=>bE (Hs 0) (λj=>aV (cf j).1) (cT sl E Hs cf) l ops.size) γ (Hs 0) w M L γ1 a1 w1 B->a1.tmps.size=nt->a1.defers=a.defers->
     wpAny P .any ops Q fuel M a1 w1:=by
  intro fuel
  induction fuel with
  |zero=>
   intro M L0 γ0 a1 w1 B0 DL MT MU hsz DM;have Tz:=ML MT;obtain⟨L,γ1,B,st,uR⟩:=prom _ M L0 γ0 a1 w1 B0 rfl MU;have hall:∀j,j<ops.size->aJ L j=true:=by
    refine λj hj=>pL λhne=>?_;obtain⟨j0,h1,h2,h3⟩:=HF (l:=aJ L) ops.size ⟨j,hj,by simpa using hne⟩;have hm:=Tz j0 h1;rw[st.hM,h2,Q2] at hm;obtain⟨k,k1,_,k2⟩:=uR j0 hm;rw[h3 k k1] at k2;cases k2
   obtain⟨hL,dG,uQ,hle,hF,hI,hM,⟨blk,Bg,hB⟩,hE⟩:=st;have hF:Frame γ (Hs 0) w γ1 (bE (Hs 0) (λj=>aV (cf j).1) (cT sl E Hs cf) (aJ L) ops.size) w1:=hF;have hI:bw W G γ1 (bE (Hs 0) (λj=>aV (cf j).1) (cT sl E Hs cf) (aJ L) ops.size) w1:=hI;have hE:∀t,aB γ1 (a1.tmps.getD t undef) (jC ((E 0).get t) (l8 sl t) d (aJ L) ops.size):=λt=>hE t λb y hb _=>by
    obtain⟨_,h2,h3,_⟩:=hB b hb;rw[hall b h3] at h2;cases h2
   refine⟨?_,?_⟩
   .refine List.eq_nil_iff_forall_not_mem.2 λi hi=>?_;obtain⟨o,_,h1,h2,_⟩:=mem_ready DL hi;rw[Tz i h1] at h2;cases h2
   .have e1:∀t,jC ((E 0).get t) (l8 sl t) d (aJ L) ops.size=(E (O sl)).get t:=λt=>by
     rw[T.get t _ (aK _),<-hlen];exact Bc _ λj hj _=>hall j hj
    have e2:bE (Hs 0) (λj=>aV (cf j).1) (cT sl E Hs cf) (aJ L) ops.size=Hs (O sl):=by
     rw[T.heap _ (aK _),<-hlen];exact rV _ λj hj _=>hall j hj
    rw[e2] at hF hI;exact hQ (λi hi=>by
     cases hx:X i with
     |false=>rfl
     |true=>have:=uQ i hi hx;rw[hall i hi] at this;cases this) γ1 a1 w1 hle hF hI (λt=>by rw[<-e1 t];exact hE t) hsz DM
  |succ fuel ih=>
   intro M L0 γ0 a1 w1 B0 DL MT MU hsz DM;refine⟨λhnil=>?_,λi hi=>?_⟩
   .exfalso;have hex:∃j,j<ops.size/\aJ M j=false:=by
     refine pL λhne=>?_;have hz:∀n,n<=ops.size->left (aJ M) n=0:=by
      intro n
      induction n with
      |zero=>intro _;rfl
      |succ n yP=>
       intro hn;have :aJ M n=true:=by
        cases hl:aJ M n with
        |true=>rfl
        |false=>exact absurd ⟨n,by omega,hl⟩ hne
       simp only[left,this,if_true,yP (by omega)]
     rw[hz _ (aK _)] at MT;omega
    obtain⟨j,h1,h2,h3⟩:=HF _ hex;obtain⟨o,b,ho,Ba,hb⟩:=qI j h1;have :j∈Region.ready .any ops M:=acU DL ho h2 λp hp=>h3 p ((hR j o b Ba hb).1 p hp);rw[hnil] at this;cases this
   .obtain⟨o,ho,Bh,MV,oo⟩:=mem_ready DL hi;obtain⟨o2,so,TA,jy,dW⟩:=qI i Bh;have :o2=o:=by rw[ho] at TA;cases TA;rfl
    subst this;have oq:=kM i o2 so ho dW;obtain⟨L,γ1,B,st,uR⟩:=prom _ M L0 γ0 a1 w1 B0 rfl MU;obtain⟨hL,dG,uQ,hle,hF,hI,hM,⟨blk,Bg,hB⟩,HM⟩:=st;have hF:Frame γ (Hs 0) w γ1 (bE (Hs 0) (λj=>aV (cf j).1) (cT sl E Hs cf) (aJ L) ops.size) w1:=hF;have hI:bw W G γ1 (bE (Hs 0) (λj=>aV (cf j).1) (cT sl E Hs cf) (aJ L) ops.size) w1:=hI;obtain⟨cW,MW⟩:aJ L i=false/\B i=false:=by
     rw[hM] at MV;simpa using MV
    have TB:left (aJ (M.setIfInBounds i true)) ops.size=fuel:=by
     have:=(MM MV (Dz (L:=M) (i:=i) (by omega)) (n:=ops.size)).1 Bh;omega
    have DN:(M.setIfInBounds i true).size=ops.size:=by simp[DL]
    have TC:=Dz (L:=M) (i:=i) (by omega);have MX:∀(i j:Nat) a b,jD pairs i=true->j<i->sl[j]? =Z a->sl[i]? =Z b->lC a b=false:=λi j a b hm hj ha hb=>by
     obtain⟨x,o,e,zx,tx,e1,e2,e3,e4,e5,e6,e7,e8⟩:=(DG i hm).al;rcases(iy i o b e2 hb).2 j a hj ha with⟨_,p,hp,_⟩ |⟨_,h,_⟩
     .rw[e8] at hp;simp at hp
     .exact h
    by_cases jN:jD pairs i=true
    .
     obtain⟨x,o',e,zx,tx,e1,e2,e3,e4,e5,e6,e7,e8⟩:=(DG i jN).al;have :x=so:=by rw[dW] at e1;cases e1;rfl
     subst this;have :o'=o2:=by rw[jy] at e2;cases e2;rfl
     subst this;have hw:=A9 (γ:=γ1) (env:=[]) oq (λt=>aB.dead _) hsz hlt (b:=true) (by rw[e6];rfl);simp only[wpOp,ho];rw[if_pos hw];refine .inl ?_;obtain⟨w2,r1,r2,r3,r4⟩:=acv (s0:=w.heap.size) (a:=a1) hI e3 (by rw[<-e4];exact oq.k) hF.size;have oZ:o'.dst=Z tx:=by rw[<-oq.dst];exact e7
     have htx:tx<a1.tmps.size:=by rw[hsz];exact oq.lt tx oZ
     have lr:∀b y ty,B b=true->sl[b]? =Z y->y.dst=Z ty->ty≠tx:=λb y ty hb hy rX e=>by
      subst e;obtain⟨m1,_⟩:=hB b hb;have hne:b≠i:=λe=>by rw[e,MW] at hb;cases hb
      by_cases hlt:b<i
      .have:=MX i b y x jN hlt hy dW;simp[lC,rX,e7] at this
      .have:=MX b i x y m1 (by omega) dW hy;simp[lC,rX,e7] at this
     unfold Oper.wp;rw[r1];refine ih (M.setIfInBounds i true) L γ1 _ w2 (λj=>B j||j==i) DN TB ⟨hL,dG,uQ,hle,hF.trans hle.base r2,r3,λj=>?_,⟨λj=>if j=i then w1.heap.size else blk j,λb b' h1 h2 h3=>?_,λb hb=>?_⟩,λt ht=>?_⟩ ?_ ?_
     .rw[TC,hM];by_cases q:i=j
      .subst q;simp
      .have q':(j==i)=false:=by simpa using λe:j=i=>q e.symm
       rw[if_neg q,q',Bool.or_false]
     .have jO:∀b,B b=true->blk b<w1.heap.size:=λb hb=>by
       obtain⟨_,_,_,_,_,_,_,_,_,_,h⟩:=hB b hb;exact h.lt
      dsimp only at h1 h2 h3;by_cases q1:b=i
      .by_cases q2:b'=i
       .rw[q1,q2]
       .rw[if_pos q1,if_neg q2] at h3;have:=jO b' (by simpa[q2] using h2);omega
      .by_cases q2:b'=i
       .rw[if_neg q1,if_pos q2] at h3;have:=jO b (by simpa[q1] using h1);omega
       .rw[if_neg q1,if_neg q2] at h3;exact Bg b b' (by simpa[q1] using h1) (by simpa[q2] using h2) h3
     .dsimp only at hb|-;by_cases q1:b=i
      .subst q1;rw[if_pos rfl];refine⟨jN,cW,Bh,x,tx,zx,dW,e7,e4,?_,r4⟩;rw[oZ];simp[Act.put,bP,htx]
      .rw[if_neg q1];have hb:B b=true:=by simpa[q1] using hb
       obtain⟨m1,m2,m3,y,ty,zs,m4,m5,m6,m7,m8⟩:=hB b hb;refine⟨m1,m2,m3,y,ty,zs,m4,m5,m6,?_,m8.keep (.refl γ1) r2⟩;rw[oZ,<-m7];simp[Act.put,bP,Ne.symm (lr b y ty hb m4 m5)]
     .have DK:t≠tx:=λe=>ht i x (by simp) dW (by rw[e7,e]);have:=HM t λb y hb hy=>ht b y (by simp[hb]) hy;rw[oZ];simpa[Act.put,bP,K7,Ne.symm DK] using this
     .rw[oZ];simp[Act.put,hsz]
     .rw[oZ];simp[Act.put,DM]
    have jN:jD pairs i=false:=by simpa using jN
    -- nothing that was made ahead is waited for
    have TD:∀b,B b=true->b<i->R0 i b=false:=λb hb yH=>by
     cases hr:R0 i b with
     |false=>rfl
     |true=>
      exfalso;obtain⟨m1,_⟩:=hB b hb;obtain⟨k,k1,k2,k3⟩:=uR b hb;obtain⟨j0,q1,q2,q3⟩:=HF (l:=λj=>aJ L j|| !rT sl j) b ⟨k,k1,by simp[k2,k3]⟩;have q2:aJ L j0=false/\rT sl j0=true:=by simpa using q2
      have q4:B j0=false:=by
       cases hb0:B j0 with
       |false=>rfl
       |true=>
        obtain⟨k',c1,c2,c3⟩:=uR j0 hb0;have:=q3 k' c1;simp[c2,c3] at this
      obtain⟨p,hp,yQ⟩:=(DG b m1).late i o2 jy yH hr j0 q1 q2.2;have je:=oo p hp;rw[hM,nR] at je;rcases yQ with rfl |⟨eo,yQ,tr⟩
      .rw[q2.1,q4] at je;simp at je
      .rcases je with je |je
       .have:=dG p (by have:=(hR i o2 so jy dW).1 p hp;omega) je j0 yQ (by rw[yO,tr,Z5]);rw[q2.1] at this;cases this
       .obtain⟨m2,_⟩:=hB p je;rw[eo] at m2;cases m2
    -- all that i must follow is listed
    have pre:∀j,j<i->R i j=true->aJ L j=true:=λj hj hr=>by
     obtain⟨b,hb⟩:∃b,sl[j]? =Z b:=⟨_,aD (by omega)⟩;rcases(hR i o2 so jy dW).2 j b hj hb with⟨_,h1⟩ |h1
     .rcases h1 with⟨h1,_⟩ |⟨yK,p,hp,h1⟩
      .rw[jN] at h1;cases h1
      .have je:=oo p hp;rw[hM,nR] at je;rcases je with je |je
       .rcases h1 with rfl |⟨h1,h2⟩
        .exact je
        .exact dG p (by have:=(hR i o2 so jy dW).1 p hp;omega) je j h1 (by rw[yO,h2,Z5])
       .exfalso;rcases h1 with rfl |⟨h1,h2⟩
        .rw[TD p je hj] at yK;cases yK
        .rw[Tv p j (hB p je).1 h1 (by omega)] at h2;cases h2
     .rw[h1.1] at hr;cases hr
    -- what stands for the slots of i
    have gA:∀b y t,B b=true->sl[b]? =Z y->y.dst=Z t->¬(t∈so.uses\/so.dst=Z t):=λb y t hb hy rX ht=>by
     have hne:b≠i:=λe=>by rw[e,MW] at hb;cases hb
     have hcc:lC y so=true/\lC so y=true:=by
      simp only[lC,rX,nR];rcases ht with ht |ht
      .exact⟨.inl (.inl (by simpa using ht)),.inr (by simpa using ht)⟩
      .exact⟨.inl (.inr (by simp[ht])),.inl (by rw[ht];simp)⟩
     by_cases hlt:b<i
     .rcases(iy i o2 so jy dW).2 b y hlt hy with⟨yK,_⟩ |⟨_,h1,_⟩
      .rw[TD b hb hlt] at yK;cases yK
      .rw[hcc.1] at h1;cases h1
     .have:=MX b i so y (hB b hb).1 (by omega) dW hy;rw[hcc.2] at this;cases this
    have hE0:∀t,(t∈so.uses\/so.dst=Z t)->aB γ1 (a1.tmps.getD t undef) (jC ((E 0).get t) (l8 sl t) d (aJ L) ops.size):=λt ht=>
     HM t λb y hb hy rX=>gA b y t hb hy rX ht
    -- what must follow i is not listed
    have post:∀j,i<j->j<ops.size->R j i=true->aJ L j=false:=λj hj DA hr=>by
     cases hl:aJ L j with
     |false=>rfl
     |true=>rw[dG j DA hl i hj hr] at cW;cases cW
    -- what is not related to i is apart from it
    have slots:∀t,(t∈so.uses\/so.dst=Z t)->∀j,j<ops.size->l8 sl t j=true->j≠i->(aJ L j=decide (j<i)):=λt ht j hj hw hne=>by
     obtain⟨_,b,_,rY,hb⟩:=qI j hj;have o0:b.dst=Z t:=by simpa[l8,hb] using hw
     by_cases lF:j<i
     .rw[pre j lF ?_];simp[lF];rcases(hR i o2 so jy dW).2 j b lF hb with h |h
      .exact h.1
      .exfalso;have:=h.2.1;simp only[lC,o0,Ay] at this;rcases ht with ht |ht
       .simp[ht] at this
       .simp[ht] at this
     .rw[post j (by omega) hj ?_];simp[lF];rcases(hR j _ b rY hb).2 i so (by omega) dW with h |h
      .exact h.1
      .exfalso;have:=h.2.1;simp only[lC,o0,Ay] at this;rcases ht with ht |ht
       .simp[ht] at this
       .simp[ht] at this
    have tied:∀j,j<ops.size->j≠i->eR (cf i) (cf j)=true->aJ L j=decide (j<i):=λj hj hne h2=>by
     obtain⟨_,b,_,rY,hb⟩:=qI j hj;have jd:∀(x:SO) (n:Nat),sl[n]? =Z x->(cf n).1≠0->x.k.fj=true->False:=λx n hx h0 hh=>h0 (by rw[T.fj hx hh]);obtain⟨uS,HN⟩:=acY h2;have h3:eR (cf j) (cf i)=true:=by rw[acX];exact h2
     by_cases lF:j<i
     .rw[pre j lF ?_];simp[lF];rcases(hR i o2 so jy dW).2 j b lF hb with h |h
      .exact h.1
      .exfalso;rcases h.2.2 with q |q |q
       .exact jd b j hb HN q
       .exact jd so i dW uS q
       .have:=DI j i q;rw[rW,rW,h3] at this;cases this
     .rw[post j (by omega) hj ?_];simp[lF];rcases(hR j _ b rY hb).2 i so (by omega) dW with h |h
      .exact h.1
      .exfalso;rcases h.2.2 with q |q |q
       .exact jd so i dW uS q
       .exact jd b j hb HN q
       .have:=DI i j q;rw[rW,rW,h2] at this;cases this
    have heaps:(cf i).1≠0->(∀b,(cf i).1≠3+2*b)->(cf i).2=0->∀j,j<ops.size->j≠i->aV (cf j).1=true->aJ L j=decide (j<i):=λuS tv hz j hj hne h2=>
     tied j hj hne (Tl uS tv hz h2)
    -- the slots that i reads hold what they held in the text's order
    have j9:∀t∈so.uses,jC ((E 0).get t) (l8 sl t) d (aJ L) ops.size=(E i).get t:=λt ht=>by
     rw[T.get t i (by omega),<-S3 ops.size (by omega)];refine Bc _ λj hj hw=>?_;by_cases hne:j=i
     .subst hne;simp[cW]
     .exact slots t (.inl ht) j hj hw hne
    have adi:(cf i).1≠0->(∀b,(cf i).1≠3+2*b)->(cf i).2=0->bE (Hs 0) (λj=>aV (cf j).1) (cT sl E Hs cf) (aJ L) ops.size=Hs i:=λh0 tv hz=>by
     rw[T.heap i (by omega),<-Dy ops.size (by omega)];refine rV _ λj hj hw=>?_;by_cases hne:j=i
     .subst hne;simp[cW]
     .exact heaps h0 tv hz j hj hne hw
    have wM:aW γ1 ((E i).keep so.uses) a1.tmps:=λt=>by
     rw[Env.GC];split
     .rename_i ht;rw[<-j9 t ht];exact hE0 t (.inl ht)
     .exact .dead _
    have hgd:fY ((E i).keep so.uses) so.g=fY (E i) so.g:=by
     unfold fY;cases hg:so.g with
     |none=>rfl
     |some tw=>
      obtain⟨t,want⟩:=tw;have :t∈so.uses:=by simp[SO.uses,hg]
      simp only[Env.GC,this,if_true]
    have DO:∀H2,cH c G ((E i).keep so.uses) H2 so.k=cH c G (E i) H2 so.k:=λH2=>
     acs λt ht=>by rw[Env.GC,if_pos (by simp[SO.uses,ht])]
    by_cases uT:X i=true
    .
     rcases hX i so dW uT with⟨j,ft,hj,iz,hsj,r5⟩ |⟨j,ft,hj,iz,hsj,h1,h2,h3⟩ |⟨hhl,hwr,hg,dv,H1,uK,hQp⟩
     .exfalso;have hf:=uQ j (by omega) iz;rcases(hR i o2 so jy dW).2 j ft hj hsj with h |h
      .rw[pre j hj h.1] at hf;cases hf
      .rw[r5] at h;cases h.2.1
     .exfalso;have hf:=uQ j (by omega) iz;rcases(hR i o2 so jy dW).2 j ft hj hsj with h |h
      .rw[pre j hj h.1] at hf;cases hf
      .rcases h.2.2 with q |q |q
       .rw[h1] at q;cases q
       .rw[h2] at q;cases q
       .exact h3 q
     .have hHi:bE (Hs 0) (λj=>aV (cf j).1) (cT sl E Hs cf) (aJ L) ops.size=Hs i:=by
       rw[T.heap i (by omega),<-Dy ops.size (by omega)];refine rV _ λj hj hw=>?_;by_cases hne:j=i
       .subst hne;simp[cW]
       .obtain⟨lF,uR⟩:=hwr j (by omega) hne hw;obtain⟨_,b,_,rY,hb⟩:=qI j hj;rw[pre j lF ?_]
        .simp[lF]
        .rcases(hR i o2 so jy dW).2 j b lF hb with h |h
         .exact h.1
         .exfalso;rcases h.2.2 with q |q |q
          .have:=T.fj hb q;rw[this] at hw;cases hw
          .rw[hhl] at q;cases q
          .exact uR q
      have hE:∀t,aB γ1 (a1.tmps.getD t undef) (jC ((E 0).get t) (l8 sl t) d (aJ L) ops.size):=λt=>HM t λb y hb _=>by
       rw[eE b (hB b hb).1 i] at uT;cases uT
      have hw:=A9 oq wM hsz hlt (hgd.trans hg);simp only[wpOp,ho];rw[if_pos hw];refine .inl ?_;rw[hHi] at hF hI;refine yJ S hI wM oq.k ((DO _).trans uK) (λv γ2 w2 d2 hr _ _ _ _=>by cases hr) (λv γ2 w2 d2 hr h1 h2 h3 h4=>?_);cases hr;refine hQp γ2 v a1 w2 (hle.trans h1) (hF.trans hle.base h2) h3 h4 (λt=>?_) hsz DM;rw[ac3];split
      .exact .dead _
      .rename_i yr;have:=(hE t).mono h1
       rwa [Tt λj hj qa=>yr (by
        simp only[l8,beq_iff_eq,Option.bind_eq_some_iff] at qa;obtain⟨b,hb,o0⟩:=qa;exact Q5.2 ⟨b,bB hb,by rw[o0];exact beq_self_eq_true _⟩)] at this
    have uT:X i=false:=by simpa using uT
    -- behind i
    have hL2:(L.setIfInBounds i true).size=ops.size:=by simp[hL]
    have eJ:=Dz (L:=L) (i:=i) (by omega);have MZ:∀k,k<ops.size->aJ (L.setIfInBounds i true) k=true->∀j,j<k->R k j=true->aJ (L.setIfInBounds i true) j=true:=λk hk hlk j hj hr=>by
     rw[eJ j];split
     .rfl
     .rw[eJ k] at hlk;split at hlk
      .rename_i h;subst h;exact pre j hj hr
      .exact dG k hk hlk j hj hr
    have hW2:∀t,jC ((E 0).get t) (l8 sl t) d (aJ (L.setIfInBounds i true)) ops.size=if so.dst=Z t then d i else jC ((E 0).get t) (l8 sl t) d (aJ L) ops.size:=λt=>by
     split
     .rename_i ht;refine MB (by rw[eJ];simp) (by simp[l8,dW,ht]) _ Bh λj h1 h2 h3=>?_;rw[eJ,if_neg (by omega),slots t (.inr ht) j h2 h3 (by omega)];simp;omega
     .rename_i ht;refine Bc _ λj hj hw=>?_;rw[eJ,if_neg];intro h;subst h;simp[l8,dW] at hw;exact ht hw
    have fin:∀γ2 w2 v,γ1.le γ2->Frame γ1 (bE (Hs 0) (λj=>aV (cf j).1) (cT sl E Hs cf) (aJ L) ops.size) w1 γ2 (bE (Hs 0) (λj=>aV (cf j).1) (cT sl E Hs cf) (aJ (L.setIfInBounds i true)) ops.size) w2->
        bw W G γ2 (bE (Hs 0) (λj=>aV (cf j).1) (cT sl E Hs cf) (aJ (L.setIfInBounds i true)) ops.size) w2->aB γ2 v (d i)->wpAny P .any ops Q fuel (M.setIfInBounds i true) (a1.put o2.dst v) w2:=λγ2 w2 v h1 h2 h3 h4=>by
     refine ih _ (L.setIfInBounds i true) γ2 _ w2 B DN TB ⟨hL2,MZ,λj hj hx=>?_,hle.trans h1,hF.trans hle.base h2,h3,λj=>?_,⟨blk,Bg,λb hb=>?_⟩,λt ht=>?_⟩ ?_ ?_
     .rw[eJ];split
      .rename_i e;rw[<-e,uT] at hx;cases hx
      .exact uQ j hj hx
     .rw[TC,eJ,hM];split<;>rfl
     .obtain⟨m1,m2,m3,y,ty,zs,m4,m5,m6,m7,m8⟩:=hB b hb;have hne:i≠b:=λe=>by rw[<-e,MW] at hb;cases hb
      refine⟨m1,by rw[eJ,if_neg hne];exact m2,m3,y,ty,zs,m4,m5,m6,?_,m8.keep h1 h2⟩;rw[<-m7];have TE:so.dst≠Z ty:=λe=>gA b y ty hb m4 m5 (.inr e);rw[oq.dst] at TE;cases hd:o2.dst with
      |none=>simp[Act.put]
      |some u=>
       have p7:u≠ty:=λe=>TE (by rw[hd,e]);simp[Act.put,bP,p7]
     .rw[hW2 t];have hE:=HM t ht;rw[oq.dst];cases hd:o2.dst with
      |none=>simpa[Act.put] using hE.mono h1
      |some u=>
       have hu:u<a1.tmps.size:=by rw[hsz];exact oq.lt u hd
       simp only[Act.put,bM];split
       .rename_i p7;subst p7;simpa[bP,hu] using h4
       .rename_i p7;have:=hE.mono h1;simpa[bP,K7,p7] using this
     .cases o2.dst<;>simp[Act.put,hsz]
     .cases o2.dst<;>simp[Act.put,DM]
    -- where i does not write, the heap stays
    have HP:aV (cf i).1=false->bE (Hs 0) (λj=>aV (cf j).1) (cT sl E Hs cf) (aJ (L.setIfInBounds i true)) ops.size=bE (Hs 0) (λj=>aV (cf j).1) (cT sl E Hs cf) (aJ L) ops.size:=λh2=>
     rV _ λj hj hw=>by
      rw[eJ,if_neg];intro h;subst h;rw[h2] at hw;cases hw
    simp only[wpOp,ho];rcases T.step i so dW with⟨hg,hd,hH,hc0⟩ |⟨hg,hd,_⟩
    .have hg:fY (E i) so.g=Z false:=by
      rcases hg with hg |hg
      .rw[uT] at hg;cases hg
      .exact hg
     have hw:=A9 oq wM hsz hlt (hgd.trans hg);rw[if_neg (by simp[hw])];have hs:=HP (by rw[hc0];rfl);refine fin γ1 w1 undef (.refl γ1) ?_ ?_ ?_
     .rw[hs];exact .refl _ _ _
     .rw[hs];exact hI
     .rw[hd];exact aB.undef
    .have hw:=A9 oq wM hsz hlt (hgd.trans hg);rw[if_pos hw];refine .inl ?_;by_cases h0:(cf i).1=0
     .have hs:=HP (by rw[h0];rfl);have dA:=T.free dW uT h0 hg (bE (Hs 0) (λj=>aV (cf j).1) (cT sl E Hs cf) (aJ L) ops.size);refine yJ S hI wM oq.k ((DO _).trans dA) (λv γ2 w2 d2 hr h1 h2 h3 h4=>?_) (λv γ2 w2 d2 hr _ _ _ _=>by cases hr);cases hr;refine fin γ2 w2 v h1 ?_ ?_ h4
      .rw[hs];exact h2
      .rw[hs];exact h3
     .by_cases TF:∃b,(cf i).1=3+2*b
      .obtain⟨b,hb⟩:=TF;have hs:=HP (by rw[hb];exact Tk b);have bS:(bE (Hs 0) (λj=>aV (cf j).1) (cT sl E Hs cf) (aJ L) ops.size).bx[b]? =(Hs i).bx[b]?:=by
        -- the variable alone
        let gx:Nat->Option (List D)->Option (List D):=λj o=>if(cf j).2=0 then(Hs (j+1)).bx[b]? else match(sl[j]?).bind λso=>uO (E j) so.k with
         |some q=>mF q o
         |none=>(Hs (j+1)).bx[b]?
        have TG:∀m,m<ops.size->(cf m).2≠0->∃q,(∀h,cT sl E Hs cf m h=fO q h)/\(∀o,gx m o=mF q o)/\((cf m).1=4+2*q.2.1/\q.2.1<2000000000)/\Hs (m+1)=fO q (Hs m):=by
         intro m hm hz;have hsm:sl[m]? =Z (sl[m]'(by omega)):=aD (by omega);obtain⟨q,h1,h2,h3,h4⟩:=T.ins hsm hz;refine⟨q,λh=>HE hsm hz h1,λo=>?_,⟨by rw[h2],T.acP hsm hz q h1⟩,(HA h1 h4).2.2.1⟩;simp only[gx,hz,if_false,hsm,Lc,h1]
        have one:∀m,m<=ops.size->(Hs m).bx[b]? =bE ((Hs 0).bx[b]?) (λj=>touches b (cf j).1) gx (λ_=>true) m:=by
         intro m
         induction m with
         |zero=>intro _;rfl
         |succ m o6=>
          intro hm;have hsm:sl[m]? =Z (sl[m]'(by omega)):=aD (by omega);simp only[bE,true_and];rw[<-o6 (by omega)];split
          .rename_i ht;by_cases hz:(cf m).2=0
           .simp only[gx,hz,if_true]
           .obtain⟨q,_,g2,g3,g4⟩:=TG m (by omega) hz;rw[g2,g4,uP,if_pos];rw[g3.1,MO g3.2] at ht;have :b=q.2.1:=by simpa using ht
            exact this.symm
          .rename_i iF;rcases acV (b:=b) (by simpa using iF) with q |⟨i',q,hne⟩
           .rw[T.quiet hsm q]
           .exact T.apart hsm q hne
        have adm:∀m,m<ops.size->aJ L m=true->aV (cf m).1=true->(cf m).2=0->∀j,j<m->aV (cf j).1=true->aJ L j=true:=λm hm uU yR hz j hj qa=>by
         obtain⟨om,bm,_,uv,jP⟩:=qI m hm;obtain⟨oj,bj,_,rY,oY⟩:=qI j (by omega);refine dG m hm uU j hj ?_;rcases(hR m om bm uv jP).2 j bj hj oY with h |h
         .exact h.1
         .exfalso;rcases h.2.2 with q |q |q
          .have:=T.fj oY q;rw[this] at qa;cases qa
          .have:=T.fj jP q;rw[this] at yR;cases yR
          .have:=DI j m q;rw[rW,rW,DC qa yR (.inr (.inl hz))] at this;cases this
        have two:∀m,m<=ops.size->(bE (Hs 0) (λj=>aV (cf j).1) (cT sl E Hs cf) (aJ L) m).bx[b]? =bE ((Hs 0).bx[b]?) (λj=>touches b (cf j).1) gx (aJ L) m:=by
         intro m
         induction m with
         |zero=>intro _;rfl
         |succ m o6=>
          intro hm;by_cases hw:aJ L m=true/\aV (cf m).1=true
          .by_cases hz:(cf m).2=0
           .have e1:bE (Hs 0) (λj=>aV (cf j).1) (cT sl E Hs cf) (aJ L) (m+1)=Hs (m+1):=by
             simp only[bE];rw[if_pos hw,HB hz]
            rw[e1,one (m+1) hm];refine rV _ λj hj ht=>?_;by_cases M0:j=m
            .subst M0;exact hw.1.symm
            .exact(adm m (by omega) hw.1 hw.2 hz j (by omega) (MN ht)).symm
           .obtain⟨q,g1,g2,g3,g4⟩:=TG m (by omega) hz;have e1:bE (Hs 0) (λj=>aV (cf j).1) (cT sl E Hs cf) (aJ L) (m+1)=fO q (bE (Hs 0) (λj=>aV (cf j).1) (cT sl E Hs cf) (aJ L) m):=by
             simp only[bE];rw[if_pos hw,g1]
            rw[e1,uP,o6 (by omega)];by_cases yS:q.2.1=b
            .have ht:touches b (cf m).1=true:=by
              rw[g3.1,MO g3.2,yS];simp
             simp only[bE];rw[if_pos yS,if_pos ⟨hw.1,ht⟩,g2]
            .have ht:¬touches b (cf m).1=true:=by
              rw[g3.1,MO g3.2];simpa using λe:b=q.2.1=>yS e.symm
             simp only[bE];rw[if_neg yS,if_neg λh=>ht h.2]
          .have e1:bE (Hs 0) (λj=>aV (cf j).1) (cT sl E Hs cf) (aJ L) (m+1)=bE (Hs 0) (λj=>aV (cf j).1) (cT sl E Hs cf) (aJ L) m:=by
            simp only[bE];rw[if_neg hw]
           have e2:bE ((Hs 0).bx[b]?) (λj=>touches b (cf j).1) gx (aJ L) (m+1)=bE ((Hs 0).bx[b]?) (λj=>touches b (cf j).1) gx (aJ L) m:=by
            simp only[bE];rw[if_neg λh=>hw ⟨h.1,MN h.2⟩]
           rw[e1,e2,o6 (by omega)]
        rw[two _ (aK _),one i (by omega),<-Dy ops.size (by omega)];refine rV _ λj hj ht=>?_;by_cases hne:j=i
        .subst hne;simp[cW]
        .exact tied j hj hne (acZ hb ht)
       have dA:=T.acO dW uT hb hg bS;refine yJ S hI wM oq.k ((DO _).trans dA) (λv γ2 w2 d2 hr h1 h2 h3 h4=>?_) (λv γ2 w2 d2 hr _ _ _ _=>by cases hr);cases hr;refine fin γ2 w2 v h1 ?_ ?_ h4
       .rw[hs];exact h2
       .rw[hs];exact h3
      .have tv:∀b,(cf i).1≠3+2*b:=λb h=>TF ⟨b,h⟩;by_cases hz:(cf i).2=0
       .have hb:=adi h0 tv hz;have qJ:Hs (i+1)=bE (Hs 0) (λj=>aV (cf j).1) (cT sl E Hs cf) (aJ (L.setIfInBounds i true)) ops.size:=by
         by_cases h2:aV (cf i).1=true
         .refine(MJ (g0:=Hs 0) (wr:=λj=>aV (cf j).1) (f:=cT sl E Hs cf) (l:=aJ (L.setIfInBounds i true)) (i:=i) (x:=Hs (i+1)) (by rw[eJ];simp) h2 (λ_=>HB hz) _ Bh λj h1 h3 h4=>?_).symm;rw[eJ,if_neg (by omega),heaps h0 tv hz j h3 (by omega) h4];simp;omega
         .have h2:aV (cf i).1=false:=by simpa using h2
          rw[HP h2,hb,T.quiet dW h2]
        rw[hb] at hI fin;refine yJ S hI wM oq.k ((DO _).trans hd) (λv γ2 w2 d2 hr h1 h2 h3 h4=>?_) (λv γ2 w2 d2 hr _ _ _ _=>by cases hr);cases hr;refine fin γ2 w2 v h1 ?_ ?_ h4
        .rw[<-qJ];exact h2
        .rw[<-qJ];exact h3
       .
        obtain⟨q,TH,kO,_,hq4⟩:=T.ins dW hz;obtain⟨Dx,ib,uQ,adp⟩:=HA TH hq4;have HQ:aV (cf i).1=true:=by rw[kO];exact uM _
        -- a write that is apart from it is another key of the same map
        have HR:∀j,j<ops.size->j≠i->aV (cf j).1=true->(eR (cf i) (cf j)=true/\aJ L j=decide (j<i))\/∃q',(∀h,cT sl E Hs cf j h=fO q' h)/\(cf j).2≠0/\(cf j).1=(cf i).1/\q.2.1=q'.2.1/\cY q.2.2.1≠cY q'.2.2.1:=by
         intro j hj hne hw;by_cases DR:eR (cf i) (cf j)=true
         .exact .inl ⟨DR,tied j hj hne DR⟩
         .right;have h1:(cf j).2≠0:=λe=>DR (DC HQ hw (.inr (.inl e)));have h2:(cf i).1=(cf j).1:=pL λe=>DR (DC HQ hw (.inr (.inr (.inl e))));have h3:(cf i).2≠(cf j).2:=λe=>DR (DC HQ hw (.inr (.inr (.inr e))));have hsj:sl[j]? =Z (sl[j]'(by omega)):=aD (by omega);obtain⟨q',g1,g2,_,_⟩:=T.ins hsj h1;rw[kO,g2] at h2 h3;dsimp only at h2 h3;exact⟨q',λh=>HE hsj h1 g1,h1,by rw[kO,g2];dsimp only;omega,by omega,λe=>h3 (by rw[e])⟩
        have qJ:bE (Hs 0) (λj=>aV (cf j).1) (cT sl E Hs cf) (aJ (L.setIfInBounds i true)) ops.size=fO q (bE (Hs 0) (λj=>aV (cf j).1) (cT sl E Hs cf) (aJ L) ops.size):=by
         have low:∀m,m<=i->bE (Hs 0) (λj=>aV (cf j).1) (cT sl E Hs cf) (aJ (L.setIfInBounds i true)) m=bE (Hs 0) (λj=>aV (cf j).1) (cT sl E Hs cf) (aJ L) m:=λm hm=>
          rV m λj hj _=>by rw[eJ,if_neg (by omega)]
         have high:∀m,m<=ops.size->i<m->bE (Hs 0) (λj=>aV (cf j).1) (cT sl E Hs cf) (aJ (L.setIfInBounds i true)) m=fO q (bE (Hs 0) (λj=>aV (cf j).1) (cT sl E Hs cf) (aJ L) m):=by
          intro m
          induction m with
          |zero=>intro _ h;omega
          |succ m o6=>
           intro hm LL;by_cases jN:m=i
           .subst jN;simp only[bE];rw[if_pos ⟨by rw[eJ];simp,HQ⟩,if_neg (λh=>by rw[cW] at h;cases h.1),low m (aK _)];exact HE dW hz TH
           .have hs':aJ (L.setIfInBounds i true) m=aJ L m:=by rw[eJ m,if_neg (λe=>jN e.symm)]
            by_cases hw:aJ L m=true/\aV (cf m).1=true
            .rw[Tq (l:=aJ (L.setIfInBounds i true)) ⟨hs'.trans hw.1,hw.2⟩,Tq hw,o6 (by omega) (by omega)];rcases HR m (by omega) jN hw.2 with⟨_,h⟩ |⟨q',g1,_,_,g4,g5⟩
             .rw[hw.1] at h;have :m<i:=by simpa using h.symm
              omega
             .rw[g1,g1];exact(ac2 g5 g4 _).symm
            .rw[Tr (l:=aJ (L.setIfInBounds i true)) (λh=>hw ⟨hs'.symm.trans h.1,h.2⟩),Tr hw,o6 (by omega) (by omega)]
         exact high _ (aK _) Bh
        have adq:qH q ((bE (Hs 0) (λj=>aV (cf j).1) (cT sl E Hs cf) (aJ L) ops.size).bx[q.2.1]?):=by
         -- up to i: as in the text's order
         have pr:∀m,m<i->aJ L m=true->aV (cf m).1=true->((cf m).2=0\/(cf m).1≠(cf i).1)->∀j,j<m->aV (cf j).1=true->aJ L j=true:=λm hm uU yR DT j hj qa=>by
          obtain⟨om,bm,_,uv,jP⟩:=qI m (by omega);obtain⟨oj,bj,_,rY,oY⟩:=qI j (by omega);rcases HR j (by omega) (by omega) qa with⟨hcc,h⟩ |⟨q',g1,g2,g3,g4,g5⟩
          .rw[h];simp;omega
          .refine dG m (by omega) uU j hj ?_;rcases(hR m om bm uv jP).2 j bj hj oY with h |h
           .exact h.1
           .exfalso;rcases h.2.2 with q |q |q
            .have:=T.fj oY q;rw[this] at qa;cases qa
            .have:=T.fj jP q;rw[this] at yR;cases yR
            .have:=DI j m q;rw[rW,rW,DC qa yR ?_] at this
             .cases this
             .rcases DT with e |e
              .exact .inr (.inl e)
              .exact .inr (.inr (.inl λe'=>e (e'.symm.trans g3)))
         have cmp:∀m,m<=i->(qH q ((bE (Hs 0) (λj=>aV (cf j).1) (cT sl E Hs cf) (λ_=>true) m).bx[q.2.1]?)↔qH q ((bE (Hs 0) (λj=>aV (cf j).1) (cT sl E Hs cf) (aJ L) m).bx[q.2.1]?)):=by
          intro m
          induction m with
          |zero=>intro _;rfl
          |succ m o6=>
           intro hm;by_cases hw:aV (cf m).1=true
           .rcases HR m (by omega) (by omega) hw with⟨hcc,h⟩ |⟨q',g1,g2,g3,g4,g5⟩
            .by_cases DT:(cf m).2=0\/(cf m).1≠(cf i).1
             .have uU:aJ L m=true:=by rw[h];simp;omega
              have :bE (Hs 0) (λj=>aV (cf j).1) (cT sl E Hs cf) (λ_=>true) (m+1)=bE (Hs 0) (λj=>aV (cf j).1) (cT sl E Hs cf) (aJ L) (m+1):=
               rV _ λj hj qa=>by
                by_cases M0:j=m
                .subst M0;exact uU.symm
                .exact(pr m (by omega) uU hw DT j (by omega) qa).symm
              rw[this]
             .
              exfalso;have TI:(cf m).2≠0:=λe=>DT (.inl e);have TJ:(cf m).1=(cf i).1:=pL λe=>DT (.inr e);have jN:=Tw m i (by omega) TI;have MZ:¬eR (cf i) (cf m)=true:=by
               intro hc;simp only[eR,bL,sR] at hc;have:=hc.2;simp only[qx,Ld,bne_eq_false_iff_eq,beq_eq_false_iff_ne] at this;rcases this with((e |e) |e) |e
               .exact hz e
               .exact TI e
               .exact e TJ.symm
               .exact jN (Prod.ext TJ e.symm)
              exact MZ hcc
            .have gg:∀h:Hp,qH q ((fO q' h).bx[q.2.1]?)↔qH q (h.bx[q.2.1]?):=λh=>by
              rw[uP,if_pos g4.symm];exact Tn g5
             simp only[bE,true_and];rw[if_pos hw,g1,gg,o6 (by omega)];by_cases uU:aJ L m=true
             .rw[if_pos ⟨uU,hw⟩,g1,gg]
             .rw[if_neg λh=>uU h.1]
           .simp only[bE,true_and];rw[if_neg hw,if_neg λh=>hw h.2];exact o6 (by omega)
         have up:∀m,m<=ops.size->i<=m->qH q ((bE (Hs 0) (λj=>aV (cf j).1) (cT sl E Hs cf) (aJ L) m).bx[q.2.1]?):=by
          intro m
          induction m with
          |zero=>
           intro _ h;have uS:i=0:=by omega
           rw[<-cmp 0 (by omega)];have:=Dx;rw[T.heap i (by omega),uS] at this;exact this
          |succ m o6=>
           intro hm LL;by_cases jN:i=m+1
           .rw[<-jN,<-cmp i (aK _),<-T.heap i (by omega)];exact Dx
           .have ih:=o6 (by omega) (by omega);by_cases hw:aJ L m=true/\aV (cf m).1=true
            .have hne:m≠i:=λe=>by rw[e,cW] at hw;cases hw.1
             rcases HR m (by omega) hne hw.2 with⟨hcc,h⟩ |⟨q',g1,g2,g3,g4,g5⟩
             .rw[hw.1] at h;have :m<i:=by simpa using h.symm
              omega
             .simp only[bE];rw[if_pos hw,g1,uP,if_pos g4.symm];exact(Tn g5).2 ih
            .simp only[bE];rw[if_neg hw];exact ih
         exact up _ (aK _) (by omega)
        have hrun:=Tg adq;have dA:cH c G (E i) (bE (Hs 0) (λj=>aV (cf j).1) (cT sl E Hs cf) (aJ L) ops.size) so.k=Z (.val .undef,fO q (bE (Hs 0) (λj=>aV (cf j).1) (cT sl E Hs cf) (aJ L) ops.size)):=by
         rw[adp,hrun]
        refine yJ S hI wM oq.k ((DO _).trans dA) (λv γ2 w2 d2 hr h1 h2 h3 h4=>?_) (λv γ2 w2 d2 hr _ _ _ _=>by cases hr);cases hr;refine fin γ2 w2 v h1 ?_ ?_ ?_
        .rw[qJ];exact h2
        .rw[qJ];exact h3
        .rw[ib];exact h4
 refine key _ (mU ops.size false) (mU ops.size false) γ a w (λ_=>false) (by simp) ?_ ⟨by simp,λi hi hl=>by simp[aJ,bP,hi] at hl,λi hi _=>by simp[aJ,bP,hi],.refl γ,?_,?_,λj=>by simp,⟨λ_=>0,λ_ _ h=>(by cases h),λ_ h=>(by cases h)⟩,λt _=>?_⟩ hn rfl
 .have :∀n,n<=ops.size->left (aJ (mU ops.size false)) n=n:=by
   intro n
   induction n with
   |zero=>intro _;rfl
   |succ n yP=>
    intro h;have h1:aJ (mU ops.size false) n=false:=by simp[aJ,bP,Z6];split<;>rfl
    simp only[left,h1,yP (by omega)];rfl
  exact this _ (aK _)
 all_goals
  have hz2:∀{α:Type} (g0:α) (wr:Nat->Bool) (d:Nat->α->α) (n:Nat),bE g0 wr d (aJ (mU ops.size false)) n=g0:=by
   intro α g0 wr d n
   induction n with
   |zero=>rfl
   |succ n yP=>
    have h1:aJ (mU ops.size false) n=false:=by simp[aJ,bP,Z6];split<;>rfl
    simp only[bE,h1,qp,false_and,if_false,yP]
  have hz:∀{α:Type} (g0:α) (wr:Nat->Bool) (d:Nat->α) (n:Nat),jC g0 wr d (aJ (mU ops.size false)) n=g0:=by
   intro α g0 wr d n
   induction n with
   |zero=>rfl
   |succ n yP=>
    have h1:aJ (mU ops.size false) n=false:=by simp[aJ,bP,Z6];split<;>rfl
    simp only[jC,h1,qp,false_and,if_false,yP]
  first |(rw[hz2];exact .refl _ _ _) |(rw[hz2];exact I) |(rw[hz];exact En t)
theorem ads{c:br}(S:Sound P W G c)(hlen:ops.size=O sl)(kM:∀(i:Nat) o so,ops[i]? =Z o->sl[i]? =Z so->p8 P ops nt o so)
    (hlt:∀(j:Nat) o' t,ops[j]? =Z o'->o'.dst=Z t->t<nt)  (bV:Bd pairs ops.toList sl=true) {gj:Env}   (ev:gP c G sl env H=Z (gj,H',cs))
    (yN:uh pairs cs=true)  {a:Act}  (I:bw W G γ H w) (En:aW γ env a.tmps) (hn:a.tmps.size=nt) 
    (hQ:∀γ' a' w',γ.le γ'->Frame γ H w γ' H' w'->bw W G γ' H' w'->aW γ' gj a'.tmps->a'.tmps.size=nt->a'.defers=a.defers->Q .normal a' w'):
    wpAny P .any ops Q ops.size (mU ops.size false) a w:=by
 obtain⟨E,Hs,d,rfl,rfl,rfl,rfl,T⟩:=MD ev;exact Tu S hlen kM hlt bV T yN (λ_ _ _=>rfl) I En hn (λi so _ h=>by cases h) λ_=>hQ
theorem TK{c:br}{e:Env}{k:SK}{d:D}(h:cH c G e H k=Z (.bN d,H')):k.fj=false:=by
 cases hk:k.fj with
 |false=>rfl
 |true=>
  have hc:k.lz=false:=by cases k<;>first |rfl |cases hk
  rw[lZ hc] at h;split at h<;>cases h
theorem adt{c:br}(S:Sound P W G c)(hlen:ops.size=O sl)(kM:∀(i:Nat) o so,ops[i]? =Z o->sl[i]? =Z so->p8 P ops nt o so)
    (hlt:∀(j:Nat) o' t,ops[j]? =Z o'->o'.dst=Z t->t<nt)  (bV:Bd pairs ops.toList sl=true)   {dv:D}  {k:Nat} (ev:iX c G pairs 0 sl env H=Z (dv,H',cs,k))
    (yN:uh pairs cs=true) (eo:Gm pairs cs k=true)  {a:Act}  (I:bw W G γ H w) (En:aW γ env a.tmps) (hn:a.tmps.size=nt) 
    (hQ:∀γ' v a' w',γ.le γ'->Frame γ H w γ' H' w'->bw W G γ' H' w'->aB γ' v dv->aW γ' (ym sl env) a'.tmps->a'.tmps.size=nt->a'.defers=a.defers->Q (.panic [{v,recovered:=false}]) a' w'):
    wpAny P .any ops Q ops.size (mU ops.size false) a w:=by
 obtain⟨E,Hs,d,X,k0,rfl,rfl,rfl,T,b1,b2,⟨so0,b3,b4,b5⟩,b6,b7⟩:=Td ev;have HT:k0<O sl:=(af.1 b3).1;refine Tu S hlen kM hlt bV T yN (λa0 ha0=>by
  have hm:(1000000+a0,0)∈pairs:=by simpa[jD] using ha0
  have:=gV.1 eo _ hm;simp only[bL,decide_eq_true_eq] at this;omega) I En hn (λi so hs hx=>?_) λhall=>?_
 .by_cases hik:i=k0
  .subst hik;rw[b3] at hs;cases hs;refine .inr (.inr ⟨TK b5,λj hj hne hw=>?_,b4,dv,H',b5,hQ⟩);have lF:j<i:=by
    by_cases h:j<i
    .exact h
    .rw[b6 j (by omega)] at hw;cases hw
   refine⟨lF,λhm=>?_⟩;have:=gV.1 eo (j,i) hm;rw[im] at hw;simp[hw] at this
  .obtain⟨h1,h2⟩:=b7 i so hs hx hik;rcases h2 with⟨j',ft,q1,q2,q3,q4⟩ |⟨q1,q2⟩
   .exact .inl ⟨j',ft,q1,q2,q3,q4⟩
   .refine .inr (.inl ⟨k0,so0,h1,b1,b3,TK b5,q1,?_⟩);rw[ez,ez] at q2;exact q2
 .have:=hall k0 (by omega);rw[b1] at this;cases this

end Go.Vs

namespace Go.Vs

variable {P : Program}
def wr(ro:Option Nat):Fence:={Fence.wide with round:=ro}
theorem adv(ro:Option Nat)(n:Nat):(wr ro).room n:=room_wide n
theorem TL(ro:Option Nat):(wr ro).depth.isSome=true->1<=0:=λh=>by cases h
variable{a:Act}{K:Act->World->Prop}{args:Array Value}{x y:Code}{R:Ending->World->Prop}{Q:Exit->Act->World->Prop}{b:Go.Frame}{cs:List Go.Frame}{o:Oper}{ro:Option Nat}{w:World}
theorem qK{n:Nat}{f:FuncId}:CallsIn (wr ro) n P f args w R↔Calls P f args w R:=
 (callsIn_wide:CallsIn Fence.wide n P f args w R↔Calls P f args w R)
theorem adw{n:Nat}{row:String}{R:Value->World->Prop}(h:Rows P row args w R):RowsIn (wr ro) n P row args w R:=
 λc cs _=>let⟨v,w',r,s⟩:=h c cs;⟨v,w',r,stepsIn_wide.2 s⟩
def yT(o:Oper):Bool:=match o.op with
 | .defer _=>false
 |_=>true
theorem adx(h:yT o=true):∀c,o.op≠.defer c:=by
 intro c e;unfold yT at h;rw[e] at h;cases h
theorem upR{r:Result Next}(h:o.upon P a K Q r):o.uponIn (wr ro) 0 P a K Q r:=by
 unfold Oper.upon at h;unfold Oper.uponIn;split at h
 .exact h
 .exact h
 .exact h
 .exact⟨TL ro,qK.2 h⟩
 .exact⟨TL ro,adw h⟩
 .exact h
 .exact h.elim
theorem TM(hd:yT o=true)(h:o.wp P a w K Q):o.wpIn (wr ro) 0 P a w K Q:=by
 refine⟨λ_ _=>trivial,?_⟩;rw[Oper.semAt_eq _ _ _ (adx hd)];exact upR h
theorem HV{ro:Option Nat}{ops:Array Oper}{Q:Exit->Act->World->Prop}(hQ:∀a w,¬Q .outgrown a w):∀(l:List Oper),(∀o∈l,yT o=true)->∀a w,wpList P ops Q l a w->wpListIn (wr ro) 0 P ops Q l a w
 |[],_,a,w,h=>h
 |o::l,hl,a,w,h=>by
  simp only[wpList] at h;simp only[wpListIn];split at h
  .rename_i hw;rw[if_pos hw];rcases h with h |⟨_,a',w',q⟩
   .exact TM (hl o (by simp)) (Oper.wp_mono (λa w q=>HV hQ l (λo ho=>hl o (by simp[ho])) a w q) h)
   .exact(hQ _ _ q).elim
  .rename_i hw;rw[if_neg hw];exact⟨λ_ _=>trivial,HV hQ l (λo ho=>hl o (by simp[ho])) _ _ h⟩
theorem DU{ro:Option Nat}{md:Region.Mode}{ops:Array Oper}{Q:Exit->Act->World->Prop}(hQ:∀a w,¬Q .outgrown a w)(hd:∀o∈ops.toList,yT o=true):∀(fuel:Nat) (listed:Array Bool) (a:Act) (w:World),wpAny P md ops Q fuel listed a w->wpAnyIn (wr ro) 0 P md ops Q fuel listed a w
 | 0,listed,a,w,h=>h
 |fuel+1,listed,a,w,h=>by
  refine⟨h.1,λi hi=>?_⟩;have h2:=h.2 i hi;unfold wpOp at h2;unfold wpOpIn;cases ho:ops[i]? with
  |none=>
   rw[ho] at h2;exact DU hQ hd fuel _ _ _ h2
  |some o=>
   rw[ho] at h2;dsimp only at h2|-;split at h2
   .rename_i hw;rw[if_pos hw];rcases h2 with h2 |⟨_,a',w',q⟩
    .refine TM (hd o ?_) (Oper.wp_mono (λa w q=>DU hQ hd fuel _ a w q) h2);rw[<-CQ] at ho;exact bB ho
    .exact(hQ _ _ q).elim
   .rename_i hw;rw[if_neg hw];exact⟨λ_ _=>trivial,DU hQ hd fuel _ _ _ h2⟩
def roundEnd(P:Program)(l:Nat)(R:Ending->World->Prop):Exit->Act->World->Prop
 | .normal,_,w=>∃v w',(Instr.endRound l Y).run P w= .ok v w'/\R (.returned v) w'
 | .ret,_,w=>∃v w',(Instr.endRound l (Z .ret)).run P w= .ok v w'/\R (.returned v) w'
 | .exit id,_,w=>∃v w',(Instr.endRound l (Z (.exit id))).run P w= .ok v w'/\R (.returned v) w'
 | .panic chain,a,w=>a.defers=[]/\R (.panicked chain) w
 |_,_,_=>False
def gm(ro:Option Nat)(fid:Nat)(P:Program)(c:Code)(Q:Exit->Act->World->Prop)(a:Act)(w:World):Prop:=
 ∀(b:Go.Frame) (k:List Item) (cs:List Go.Frame),b.roundOf=ro->b.fn=fid->
  ∃e a' w',Q e a' w'/\ArrivesIn (Machine.fenced P Fence.wide) P (lone (b.atR a (.code c::k)) cs w) b k cs e a' w'

section
variable{fid : Nat} {c : Code}   
theorem o7(h:c.wpIn (wr ro) 0 P Q a w):gm ro fid P c Q a w:=λb k cs hb _=>h b k cs hb trivial (adv _ _)
theorem yU{Q':Exit->Act->World->Prop}(h:gm ro fid P c Q a w)(hq:∀e a w,Q e a w->Q' e a w):gm ro fid P c Q' a w:=λb k cs hb hf=>
 let⟨e,a',w',q,r⟩:=h b k cs hb hf
 ⟨e,a',w',hq _ _ _ q,r⟩
theorem mG{m m':Machine}(h:step P m= .next m'):StepsIn (Machine.fenced P Fence.wide) P m m':=.one (fenced_wide P m) h
theorem tz(h:gm ro fid P x (Exit.then (gm ro fid P y Q) Q) a w):gm ro fid P (.seq x y) Q a w:=by
 intro b k cs hb hf;have h0:StepsIn (Machine.fenced P Fence.wide) P (lone (b.atR a (.code (.seq x y)::k)) cs w) _:=mG stepR_seq;obtain⟨e,a1,w1,q,r⟩:=h b (.code y::k) cs hb hf;cases e with
 |normal=>
  obtain⟨e2,a2,w2,q2,r2⟩:=q b k cs hb hf;exact⟨e2,a2,w2,q2,.of_steps (h0.trans r) r2⟩
 |_=>exact⟨_,a1,w1,q,.of_steps h0 (.pass (x:=.code y) rfl (λ_ _=>.inl (by simp)) r)⟩
theorem adz{o:Operand}{t:Bool}(ho:a.eval o= .bool t)(h:gm ro fid P (if t then x else y) Q a w):gm ro fid P (.cond o x y) Q a w:=by
 intro b k cs hb hf;obtain⟨e,a1,w1,q,r⟩:=h b k cs hb hf;exact⟨e,a1,w1,q,.of_steps (mG (stepR_cond ho)) r⟩
theorem TN(m:Nat):∀{a:Act} {w:World},(∀R:Nat->Act->World->Prop,(∀a w,¬R 0 a w)->(∀n a w,gm ro fid P c (Exit.then (R n) Q) a w->R (n+1) a w)->R m a w)->gm ro fid P (.loop c) Q a w:=by
 intro a w h b k cs hb hf;have key:=h (λn a w=>n≠0/\∃e a' w',Q e a' w'/\ArrivesIn (Machine.fenced P Fence.wide) P (lone (b.atR a (.code c:: .inLoop c::k)) cs w) b k cs e a' w') (λa w q=>q.1 rfl) (λn a w hn=>by
  refine⟨by omega,?_⟩;obtain⟨e,a1,w1,q,r⟩:=hn b (.inLoop c::k) cs hb hf;cases e with
  |normal=>
   obtain⟨_,e2,a2,w2,q2,r2⟩:=q;exact⟨e2,a2,w2,q2,.of_steps (StepsIn.trans r (mG stepR_inLoop)) r2⟩
  |_=>exact⟨_,a1,w1,q,.pass (x:=.inLoop c) rfl (λ_ _=>.inl (by simp)) r⟩)
 obtain⟨_,e,a1,w1,q,r⟩:=key;exact⟨e,a1,w1,q,.of_steps (mG stepR_loop) r⟩
theorem yV{id:Nat}(h:gm ro fid P c (Exit.inBlock id Q) a w):gm ro fid P (.block id c) Q a w:=by
 intro b k cs hb hf;have h0:StepsIn (Machine.fenced P Fence.wide) P (lone (b.atR a (.code (.block id c)::k)) cs w) _:=mG stepR_block;obtain⟨e,a1,w1,q,r⟩:=h b (.inBlock id::k) cs hb hf;cases e with
 |normal=>exact⟨.normal,a1,w1,q,h0.trans (StepsIn.trans r (mG stepR_inBlock))⟩
 |exit i=>
  by_cases hi:i=id
  .simp only[Exit.inBlock,hi,if_true] at q;exact⟨.normal,a1,w1,q,h0.trans (r.1 k (by simp[exitTo,hi]))⟩
  .simp only[Exit.inBlock,hi,if_false] at q;have hx:exitTo i (.inBlock id::k)=exitTo i k:=by
    have :(id==i)=false:=by simpa using λe=>hi e.symm
    simp[exitTo,this]
   refine⟨.exit i,a1,w1,q,?_,?_⟩
   .intro k' hk;exact h0.trans (r.1 k' (hx.trans hk))
   .intro hr hk;obtain⟨k1,g1,g2⟩:=r.2 hr (hx.trans hk);exact⟨k1,g1,h0.trans g2⟩
 |goto l=>
  have hx:gotoIn l (.inBlock id::k)=gotoIn l k:=by simp[gotoIn]
  refine⟨.goto l,a1,w1,q,?_,?_⟩
  .intro k' hk;exact h0.trans (r.1 k' (hx.trans hk))
  .intro hr hk;obtain⟨k1,g1,g2⟩:=r.2 hr (hx.trans hk);exact⟨k1,g1,h0.trans g2⟩
 |_=>exact⟨_,a1,w1,q,.of_steps h0 r⟩
theorem adA{k:List Item}:step P (lone (b.atR a (.code (.scope c)::k)) cs w)= .next (lone (b.atR a (.code c:: .inScope c::k)) cs w):=
 step_lone_go (by simp[stepG,stepG.exec,Go.Frame.atR])
theorem adB{k:List Item}:step P (lone (b.atR a (.inScope c::k)) cs w)= .next (lone (b.atR a k) cs w):=
 step_lone_go (by simp[stepG,stepG.exec,Go.Frame.atR])
theorem adC(h:gm ro fid P c (Exit.noGoto Q) a w):gm ro fid P (.scope c) Q a w:=by
 intro b k cs hb hf;have h0:StepsIn (Machine.fenced P Fence.wide) P (lone (b.atR a (.code (.scope c)::k)) cs w) _:=mG adA;obtain⟨e,a1,w1,q,r⟩:=h b (.inScope c::k) cs hb hf;cases e with
 |normal=>exact⟨.normal,a1,w1,q,h0.trans (StepsIn.trans r (mG adB))⟩
 |exit i=>
  have hx:exitTo i (.inScope c::k)=exitTo i k:=by simp[exitTo]
  refine⟨.exit i,a1,w1,q,?_,?_⟩
  .intro k' hk;exact h0.trans (r.1 k' (hx.trans hk))
  .intro hr hk;obtain⟨k1,g1,g2⟩:=r.2 hr (hx.trans hk);exact⟨k1,g1,h0.trans g2⟩
 |goto l=>exact q.elim
 |_=>exact⟨_,a1,w1,q,.of_steps h0 r⟩
end
theorem TP{l:Nat}{fid:FuncId}{fnc:Func}(hfn:P.funcs[fid]? =Z fnc){tmps:Array Value}{assign body:Code}
    (h:gm (Z l) fid P assign (Exit.then (λa₁ w₁=>∃w₂,(Instr.beginRound l).run P w₁= .ok () w₂/\gm (Z l) fid P body (roundEnd P l R) a₁ w₂) (λ_ _ _=>False))
     {tmps:=tmps,defers:=[]} w):RoundIn (wr Y) 0 P l fid tmps assign body w R:=by
 refine⟨trivial,λc cs _=>?_⟩;obtain⟨b,hb⟩:∃b:Go.Frame,b={(default:Go.Frame) with fn:=fid,kind:=.normal,roundOf:=Z l}:=⟨_,rfl⟩;have b1:b.roundOf=Z l:=by rw[hb]
 have b2:b.fn=fid:=by rw[hb]
 have b3:b.kind= .normal:=by rw[hb]
 have hb0:Go.Frame.round l fid tmps assign body .normal=b.atR {tmps:=tmps,defers:=[]} [.code assign,.beginRound,.code body]:=by
  rw[hb];simp[Go.Frame.round,Go.Frame.atR]
 rw[hb0];obtain⟨e,a1,w1,hq,Bi⟩:=h b [.beginRound,.code body] (c::cs) b1 b2;cases e with
 |normal=>
  obtain⟨w2,hbr,HX⟩:=hq;have s1:=StepsIn.trans Bi (mG (stepR_beginRound (k:=[.code body]) (cs:=c::cs) (a:=a1) b1 hbr));obtain⟨e2,a2,w3,kO,HY⟩:=HX b [] (c::cs) b1 b2;cases e2 with
  |normal=>
   obtain⟨v,w4,hend,hR⟩:=kO;exact⟨.returned v,w4,hR,s1.trans (StepsIn.trans HY (mG (stepR_round_end b1 b3 hend)))⟩
  |ret=>
   obtain⟨v,w4,hend,hR⟩:=kO;obtain⟨k1,hs⟩:=HY.2 (by rw[b1];rfl);exact⟨.returned v,w4,hR,s1.trans (StepsIn.trans hs (mG (stepR_round_ret b1 b3 hend)))⟩
  |exit id=>
   obtain⟨v,w4,hend,hR⟩:=kO;obtain⟨k1,hk,hs⟩:=HY.2 (by rw[b1];rfl) rfl;exact⟨.returned v,w4,hR,s1.trans (StepsIn.trans hs (mG (stepR_round_exit b1 b3 hk hend)))⟩
  |panic chain=>
   obtain⟨hd,hR⟩:=kO;obtain⟨todo,hs⟩:=HY;have HZ:Go.Frame.leaving P ({b.atR a2 todo with mode:=.panicking chain}:Go.Frame) w3 (.panicked chain):=⟨rfl,hd,fnc,by show P.funcs[b.fn]? =_;rw[b2];exact hfn⟩;exact⟨.panicked chain,w3,hR,s1.trans (StepsIn.trans hs (mG (step_leave_panicked HZ)))⟩
  |goto t=>exact kO.elim
  |outgrown=>exact kO.elim
 |exit id=>exact hq.elim
 |goto t=>exact hq.elim
 |ret=>exact hq.elim
 |panic chain=>exact hq.elim
 |outgrown=>exact hq.elim

end Go.Vs

namespace Go.Vs

variable{γ':Gh}{H':Hp}{b:Nat}{o:Obj}{w w':World}
variable{P : Program} {W : World} {G : Nat -> Option (List PD)} {γ : Gh} {H : Hp} 
def Obj.plainO:Obj->Bool
 | .loop _=>true
 | .deferred _=>true
 |_=>false
theorem Inv.TQ(I:Inv G γ H w)(hb:w.heap[b]? =Z o)(ho:Obj.plainO o=true):b∉γ.boxes:=λh=>by
 obtain⟨i,hi⟩:=dV h;have hlt:i<O H.bx:=by rw[<-I.cS];exact(af.1 hi).1
 obtain⟨vs,T,fr,q,_⟩:=I.box i b _ hi (aD hlt);unfold nY at q;rw[hb] at q;split at q
 .cases o<;>first |(cases ho;done) |(simp at q)
 .cases q;cases ho
theorem Inv.TR(I:Inv G γ H w)(hb:w.heap[b]? =Z o)(ho:Obj.plainO o=true):¬j8 γ H b:=by
 rintro (h |⟨t,row,f,cap,h1,h2,h3,h4⟩)
 .exact I.TQ hb ho h.mem
 .obtain⟨r,hr,bV⟩:=I.row t row f h1 h2;rw[h3] at hr;cases hr;obtain⟨cur,fr,q,_⟩:=bV.2 h4;rw[hb] at q;cases q;cases ho
theorem Frame.stands(I:Inv G γ H w)(F:Frame γ H w γ' H' w')(hb:w.heap[b]? =Z o)(ho:Obj.plainO o=true):w'.heap[b]? =Z o:=by
 have hlt:b<w.heap.size:=(fG.1 hb).1;rcases(F.blk b hlt (I.TR hb ho)).2 with h |⟨cs,T,fr,ct,h1,_⟩
 .rw[h];exact hb
 .rw[hb] at h1;cases h1;cases ho
theorem yX(h:w'.heap[b]? =w.heap[b]?)(o:Nat):w'.cell? ⟨b,o,Y⟩=w.cell? ⟨b,o,Y⟩:=by
 simp only[World.cell?];rw[h]
theorem M3{m:Nat->Option Value}(h:pX m w.heap[b]? w'.heap[b]?)(o:Nat):w'.cell? ⟨b,o,Y⟩=w.cell? ⟨b,o,Y⟩:=by
 rcases h with h |⟨cs,T,fr,ct,h1,h2,_⟩
 .exact yX h o
 .simp only[World.cell?,h1,h2]
theorem Inv.turn(I:Inv G γ H w)(hb:w.heap[b]? =Z o)(ho:Obj.plainO o=true)(o':Obj):Inv G γ H (w.putObj b o'):=by
 have hk:∀k,k≠b->(w.putObj b o').heap[k]? =w.heap[k]?:=λk h=>World.putObj_heap_other h;have hs:(w.putObj b o').heap.size=w.heap.size:=World.putObj_size;have hno:=I.TR hb ho;constructor
 .rw[hs];exact I.size
 .intro c T n h;obtain⟨vs,fr,h1,h2⟩:=I.aY c T n h;have :c≠b:=λe=>by rw[e,hb] at h1;cases h1;cases ho
  exact⟨vs,fr,by rw[hk c this];exact h1,h2⟩
 .exact I.jq
 .intro c j v h;have h1:=I.mem c j v h;have :c≠b:=λe=>by
   rw[e] at h1;simp only[World.cell?,hb] at h1;cases o<;>first |(cases ho;done) |(simp at h1)
  rw[yX (hk c this)];exact h1
 .exact I.jv
 .exact I.cS
 .exact I.nodup
 .intro i c cs h1 h2;have :c≠b:=λe=>I.TQ hb ho (by rw[<-e];exact bB h1);rw[hk c this];exact I.box i c cs h1 h2
 .exact I.gZ
 .exact I.js
 .exact I.fZ
 .intro t row f h1 h2;obtain⟨r,a1,a2⟩:=I.row t row f h1 h2;refine⟨r,a1,a2.keep (λ_ _ h=>h) (λc cap hr hlt=>hk c λe=>hno (.inr ⟨t,row,f,cap,h1,h2,?_,hlt⟩)) (λ_ _ _ _ _=>rfl) (λ_ _ _ _ h=>h)⟩;rw[<-e,<-hr];exact a1
 .exact I.jx
 .exact I.free
theorem bw.turn(I:bw W G γ H w)(hb:w.heap[b]? =Z o)(ho:Obj.plainO o=true)(hW:W.heap.size<=b)(o':Obj):bw W G γ H (w.putObj b o'):=by
 refine⟨I.toInv.turn hb ho o',I.Ds,⟨I.nc.os,I.nc.tape,I.nc.output,?_,λk hk=>?_⟩,I.own⟩
 .rw[World.putObj_size];exact I.nc.size
 .rw[World.putObj_heap_other (by omega)];exact I.nc.block k hk
theorem Frame.turn(F:Frame γ H w γ' H' w')(hb:w.heap.size<=b)(o':Obj):Frame γ H w γ' H' (w'.putObj b o'):=by
 refine⟨F.os,F.tape,F.output,by rw[World.putObj_size];exact F.size,λk hk ho=>?_,F.mem,F.box,F.uo,F.ur⟩;rw[World.putObj_heap_other (by omega)];exact F.blk k hk ho
theorem Inv.below(I:Inv G γ H w)(B:RowKit.Below w.heap.size w w'):Frame γ H w γ H w'/\Inv G γ H w':=by
 have hb:∀b,b<w.heap.size->w'.heap[b]? =w.heap[b]?:=λb h=>B.block b h;refine⟨⟨B.os,B.tape,B.output,B.size,λb h _=>by rw[hb b h];exact⟨λ_=>rfl,.refl _ _⟩,λ_ _ _ _=>rfl,λ_ h=>.inl h,λ_ _ h=>.inl h,λ_ h=>.inl h⟩,?_⟩;constructor
 .exact fW I.size B.size
 .intro b T n h;have:=I.LB h;rw[hb b this];exact I.aY b T n h
 .exact I.jq
 .intro b o v h;rw[yX (w:=w) (hb b (I.sV h))];exact I.mem b o v h
 .exact I.jv
 .exact I.cS
 .exact I.nodup
 .intro i b cs h1 h2;rw[hb b (I.nZ (bB h1))];exact I.box i b cs h1 h2
 .exact I.gZ
 .exact I.js
 .exact I.fZ
 .intro t row f h1 h2;obtain⟨r,a1,a2⟩:=I.row t row f h1 h2;exact⟨r,a1,a2.keep (λ_ _ h=>h) (λb cap hr hlt=>hb b (I.oO ⟨row,f,cap,h1,h2,hr▸a1,hlt⟩)) (λ_ _ _ _ _=>rfl) (λ_ _ _ _ h=>h)⟩
 .exact I.jx
 .exact I.free
def mark(m:Nat):Deferred:={target:=.collected m,args:=#[]}
def wN(mk:Option Nat)(df l:List Deferred)(w:World):Prop:=
 match mk with
 |none=>l=df
 |some B=>B<=w.heap.size/\∃ms:List Nat,l=ms.map mark++df/\ms.Nodup/\∀m∈ms,B<=m/\w.heap[m]? =Z (.deferred (Z []))
theorem wN.keep{mk:Option Nat}{df l l':List Deferred}(h:wN mk df l w)(I:Inv G γ H w)(F:Frame γ H w γ' H' w')(e:l'=l):wN mk df l' w':=by
 subst e;cases mk with
 |none=>exact h
 |some B=>
  obtain⟨h0,ms,h1,h2,h3⟩:=h;exact⟨fW h0 F.size,ms,h1,h2,λm hm=>⟨(h3 m hm).1,F.stands I (h3 m hm).2 rfl⟩⟩
def Kept(W:World)(G:Nat->Option (List PD))(γ:Gh)(H:Hp)(ids:List Nat)(A:World):Prop:=∃γ' H',γ.le γ'/\bw W G γ' H' A/\∀i∈ids,H'.bx[i]? =H.bx[i]?
def ng(b:Nat)(A B:World):Prop:=(∀o,B.cell? ⟨b,o,Y⟩=A.cell? ⟨b,o,Y⟩)/\∀o,A.heap[b]? =Z o->Obj.plainO o=true->B.heap[b]? =Z o
def r6(P:Program)(W:World)(G:Nat->Option (List PD))(f:Nat)(gen:List D->List D->Hp->Option (List (List D))):Prop:=
 Enters P f/\∀fi cap H xs,gen fi cap H=Z xs->∀γ w la lb,bw W G γ H w->cv γ la fi->cv γ lb cap->
  ∃en:Nat->Array Value,(∀k x,xs[k]? =Z x->(en k).size=O x/\∀γ',cv γ' (en k) x)/\
   ∀(l:Nat) (J:Nat->(Nat->Prop)->World->Prop) (X:Ending->World->Prop) (w0:World),RowKit.Below w.heap.size w w0->
    (∀k fb A,J k fb A->Kept W G γ H (nX (.fn f fi cap) H) A)->
    (∀k fb A B,J k fb A->RowKit.Below A.heap.size A B->J k (λb=>fb b\/(A.heap.size<=b/\b<B.heap.size)) B)->
    (∀k fb A b o o',J k fb A->fb b->A.heap[b]? =Z o->Obj.plainO o=true->J k fb (A.putObj b o'))->(∀e A B,X e A->RowKit.Below A.heap.size A B->X e B)->
    (∀e A b o o',X e A->w0.heap.size<=b->A.heap[b]? =Z o->Obj.plainO o=true->X e (A.putObj b o'))->
    (∀k fb x A,xs[k]? =Z x->J k fb A->YieldAt (wr Y) 0 P l (en k) A λe B=>(A.heap.size<=B.heap.size/\∀b,fb b->ng b A B)/\((e= .returned (.bool true)/\J (k+1) fb B)\/(e= .returned (.bool false)/\X e B)\/∃ch,e= .panicked ch/\X e B))->
    J 0 (λ_=>False) w0->CallsIn (wr Y) 0 P f (la++ #[.func (.yield l) #[] #[]]++lb) w0 λe B=>((∃v,e= .returned v)/\((∃fb,J (O xs) fb B)\/X (.returned (.bool false)) B))\/∃ch,e= .panicked ch/\X e B
def SC.fQ(P:Program)(W:World)(G:Nat->Option (List PD)):SC->Prop
 | .mA f gen _ _ a b=>r6 P W G f gen/\a.fQ P W G/\b.fQ P W G
 | .seq a b=>a.fQ P W G/\b.fQ P W G
 | .cond _ a b=>a.fQ P W G/\b.fQ P W G
 | .block _ b=>b.fQ P W G
 | .loop _ b=>b.fQ P W G
 | .scope b=>b.fQ P W G
 | .loc b=>b.fQ P W G
 | .mz b=>b.fQ P W G
 |_=>True
def SC.dg:SC->Bool
 | .mA .. =>false
 | .seq a b=>a.dg&&b.dg
 | .cond _ a b=>a.dg&&b.dg
 | .block _ b=>b.dg
 | .loop _ b=>b.dg
 | .scope b=>b.dg
 | .loc b=>b.dg
 | .mz b=>b.dg
 |_=>true
theorem SC.r7:∀{s:SC},s.dg=true->s.fQ P W G
 | .mA ..,h=>by cases h
 | .seq a b,h=>by simp only[SC.dg,bL] at h;exact⟨r7 h.1,r7 h.2⟩
 | .cond _ a b,h=>by simp only[SC.dg,bL] at h;exact⟨r7 h.1,r7 h.2⟩
 | .block _ b,h=>r7 (s:=b) h
 | .loop _ b,h=>r7 (s:=b) h
 | .scope b,h=>r7 (s:=b) h
 | .loc b,h=>r7 (s:=b) h
 | .mz b,h=>r7 (s:=b) h
 | .skip,_ | .region ..,_ | .draw ..,_ | .tok ..,_ | .tokb ..,_ | .stuck,_ | .exit _,_ | .ret,_=>trivial
theorem TS{fid:Nat}{g:Operand}{ps:Array Tmp}{fe body:Code}{Q:Exit->Act->World->Prop}{a:Act}{gf:Nat}{la lb:Array Value}(hg:a.eval g= .func (.func gf) la lb)(rR:Enters P gf)
    (h:Calls P gf (la++ #[.func (.yield (w.heap.size+1)) #[] #[]]++lb) ((w.alloc (.deferred (Z []))).alloc (.loop {state:=.ready,pending:=Y,fn:=fid,tmps:=a.tmps,params:=ps,assign:=fe,body,defers:=w.heap.size})) λe B=>match e with
     | .returned _=>∃jump w4,(Instr.endLoop (w.heap.size+1)).run P B= .ok jump w4/\(match jump with
      |none=>Q .normal {a with defers:=mark w.heap.size::a.defers} w4
      |some c=>gm Y fid P c Q {a with defers:=mark w.heap.size::a.defers} w4)
     | .panicked ch=>Q (.panic ch) {a with defers:=mark w.heap.size::a.defers} B
     | .outgrown=>False):gm Y fid P (.rangeFunc g ps fe body) Q a w:=by
 intro b k cs hb hf;have he:(Instr.enterLoop b.fn a.tmps ps fe body b.roundOf).run P w= .ok (w.heap.size+1,[mark w.heap.size]) ((w.alloc (.deferred (Z []))).alloc (.loop {state:=.ready,pending:=Y,fn:=fid,tmps:=a.tmps,params:=ps,assign:=fe,body,defers:=w.heap.size})):=by
  rw[hb,hf];exact run_enterLoop_outer ..
 generalize (w.alloc (.deferred (Z []))).alloc (.loop {state:=.ready,pending:=Y,fn:=fid,tmps:=a.tmps,params:=ps,assign:=fe,body,defers:=w.heap.size})=W1 at he h;have hres:(resolve a.eval (rangeCall g (w.heap.size+1)) 0).run P W1= .ok {target:=.fn (.func gf) lb,args:=la++ #[.func (.yield (w.heap.size+1)) #[] #[]]} W1:=by
  simp only[resolve,hg];simp[go_sem]
 have hinv:(invoke (.fn (.func gf) lb) (la++ #[.func (.yield (w.heap.size+1)) #[] #[]])).run P W1= .ok (.enter gf (la++ #[.func (.yield (w.heap.size+1)) #[] #[]]++lb)) W1:=by
  simp only[invoke];exact Mw rR _ _
 have hst:=stepR_rangeFunc (P:=P) (b:=b) (a:=a) (k:=k) (cs:=cs) (w:=w) he hres hinv;obtain⟨e,w3,fr,hR,TT,_,HZ⟩:=h (b.atR {a with defers:=mark w.heap.size::a.defers} (.inRangeFunc (w.heap.size+1)::k)::cs);have hs0:StepsIn (Machine.fenced P Fence.wide) P (lone (b.atR a (.code (.rangeFunc g ps fe body)::k)) cs w) _:=mG hst;cases e with
 |outgrown=>exact hR.elim
 |returned v=>
  obtain⟨jump,w4,hend,hj⟩:=hR;have hs1:StepsIn (Machine.fenced P Fence.wide) P (lone (Go.Frame.enter P gf (la++ #[.func (.yield (w.heap.size+1)) #[] #[]]++lb) .normal) (b.atR {a with defers:=mark w.heap.size::a.defers} (.inRangeFunc (w.heap.size+1)::k)::cs) W1) _:=stepsIn_wide.2 TT;have hs2:=mG (step_leave_returned (cs:=cs) (c:=b.atR {a with defers:=mark w.heap.size::a.defers} (.inRangeFunc (w.heap.size+1)::k)) HZ);rw[finish_atR_inRangeFunc] at hs2;have hs3:=mG (stepR_endRangeFunc (b:=b) (a:={a with defers:=mark w.heap.size::a.defers}) (k:=k) (cs:=cs) hend);have hall:=hs0.trans (StepsIn.trans hs1 (StepsIn.trans hs2 hs3));cases jump with
  |none=>exact⟨.normal,_,w4,hj,hall⟩
  |some c=>
   obtain⟨e2,a2,w5,q,r⟩:=hj b k cs hb hf;exact⟨e2,a2,w5,q,.of_steps hall r⟩
 |panicked ch=>
  have hs1:StepsIn (Machine.fenced P Fence.wide) P (lone (Go.Frame.enter P gf (la++ #[.func (.yield (w.heap.size+1)) #[] #[]]++lb) .normal) (b.atR {a with defers:=mark w.heap.size::a.defers} (.inRangeFunc (w.heap.size+1)::k)::cs) W1) _:=stepsIn_wide.2 TT;have hs2:=mG (step_leave_panicked (cs:=cs) (c:=b.atR {a with defers:=mark w.heap.size::a.defers} (.inRangeFunc (w.heap.size+1)::k)) HZ);exact⟨.panic ch,_,w3,hR,_,hs0.trans (StepsIn.trans hs1 hs2)⟩

end Go.Vs

namespace Go.Vs

variable {P : Program} {W : World} {G : Nat -> Option (List PD)}
def H7(P:Program)(nt:Nat)(ops:Array Oper)(hint:Option SK)(o:Oper):Option SO:=
    if(match o.dst with |some t=>decide (t<nt) |none=>true) then
     match o.guard with
     |none=>Z ⟨o.dst,pZ P o hint,Y⟩
     |some (j,want)=>match(ops[j]?).bind (·.dst) with
      |some t=>Z ⟨o.dst,pZ P o hint,Z (t,want)⟩
      |none=>Y
    else Y
variable{ops:Array Oper}{tmps vs:Array Value}{d':D}{env:Env}{Q:Exit->Act->World->Prop}{γ γ':Gh}{H H':Hp}{it:It}{bx:List (List D)}{cs:List D}{df:List Deferred}{nt sz i b nb o:Nat}{mk:Option Nat}{x:Out×St}{s':St}{w w' A B:World}
theorem M4{hint:Option SK}{o:Oper}{so:SO}(h:H7 P nt ops hint o=Z so):p8 P ops nt o so:=by
    have hk:∀k,pZ P o hint=k->∃hint,pZ P o hint=k:=λk h=>⟨hint,h⟩;unfold H7 at h;obtain⟨dst,op,type,pos,after,guard⟩:=o;generalize hd:(match dst with |some t=>decide (t<nt) |none=>true)=bb at h;cases bb with
    |true=>
     rw[if_pos rfl] at h;have hlt:∀t,dst=Z t->t<nt:=λt ht=>by subst ht;simpa using hd
     cases guard with
     |none=>
      cases h;exact⟨hk _ rfl,rfl,hlt,rfl,λj want hj=>by cases hj⟩
     |some jw=>
      obtain⟨j,want⟩:=jw;cases ht:(ops[j]?).bind (·.dst) with
      |none=>simp only[ht] at h;cases h
      |some t=>
       simp only[ht] at h;cases h;exact⟨hk _ rfl,rfl,hlt,by simp only[ht],λj' want' hj=>by cases hj;rw[ht];rfl⟩
    |false=>
     rw[if_neg (by simp)] at h;cases h
def Bj(P:Program)(nt:Nat)(ops:Array Oper):List Oper->List SO->Option (List SO)
 |[],_=>Z []
 |o::r,hs=>match H7 P nt ops (hs.head?.map (·.k)) o with
  |some s=>(Bj P nt ops r hs.tail).map (s:: ·)
  |none=>Y
def Ia(P:Program)(nt:Nat)(ops:Array Oper)(hs:List SO):Option (List SO):=Bj P nt ops ops.toList hs
theorem Ib{nt:Nat}{ops:Array Oper}:∀{l:List Oper} {hs r:List SO},Bj P nt ops l hs=Z r->O l=O r/\∀(i:Nat) a b,l[i]? =Z a->r[i]? =Z b->∃h,H7 P nt ops h a=Z b
 |[],hs,r,h=>by simp only[Bj,bM] at h;subst h;exact⟨rfl,λi a b h=>by simp at h⟩
 |x::l,hs,r,h=>by
  simp only[Bj] at h;split at h
  .rename_i y hy;obtain⟨r',hr,rfl⟩:=ak.1 h;obtain⟨h1,h2⟩:=Ib hr;refine⟨by simp[h1],λi a b ha hb=>?_⟩
   match i with
   | 0=>simp only[ey,bM] at ha hb;subst ha;subst hb;exact⟨_,hy⟩
   |i+1=>exact h2 i a b (by simpa using ha) (by simpa using hb)
  .cases h
theorem Ic{α β:Type}{f:α->Option β}:∀{l:List α} {r:List β},aH f l=Z r->O l=O r/\∀(i:Nat) a b,l[i]? =Z a->r[i]? =Z b->f a=Z b
 |[],r,h=>by simp only[aH,bM] at h;subst h;exact⟨rfl,λi a b h=>by simp at h⟩
 |x::l,r,h=>by
  simp only[aH] at h;split at h
  .rename_i y hy;obtain⟨r',hr,rfl⟩:=ak.1 h;obtain⟨h1,h2⟩:=Ic hr;refine⟨by simp[h1],λi a b ha hb=>?_⟩
   match i with
   | 0=>simp only[ey,bM] at ha hb;subst ha;subst hb;exact hy
   |i+1=>exact h2 i a b (by simpa using ha) (by simpa using hb)
  .cases h
structure adD (P:Program) (nt:Nat) (ops:Array Oper) (sl:List SO):Prop where
 len:ops.size=O sl
 of:∀(i:Nat) o so,ops[i]? =Z o->sl[i]? =Z so->p8 P ops nt o so
 lt:∀(j:Nat) o' t,ops[j]? =Z o'->o'.dst=Z t->t<nt
theorem M5{hs sl:List SO}(h:Ia P nt ops hs=Z sl):adD P nt ops sl:=by
 obtain⟨h1,h2⟩:=Ib h;have hlen:ops.size=O sl:=by simpa using h1
 have kM:∀(i:Nat) o so,ops[i]? =Z o->sl[i]? =Z so->p8 P ops nt o so:=λi o so ho hs=>by
  obtain⟨hh,q⟩:=h2 i o so (by simpa using ho) hs;exact M4 q
 refine⟨hlen,kM,λj o' t ho hd=>?_⟩;have hj:j<O sl:=by rw[<-hlen];exact(fG.1 ho).1
 exact(kM j o' sl[j] ho (aD hj)).lt t hd
def dR(P:Program)(nt:Nat):SC->Code->Option SC
 | .loc b,c=>(dR P nt b c).map .loc
 | .skip,.skip=>Z .skip
 | .skip,.label _=>Z .skip
 | .region keep hs,.region _ ops false=>if ops.toList.all yT then(Ia P nt ops hs).map (.region keep) else Y
 | .draw keep pairs hs,.region _ ops true=>match Ia P nt ops hs with
  |some sl=>if Bd pairs ops.toList sl&&ops.toList.all yT then Z (.draw keep pairs sl) else Y
  |none=>Y
 | .mA f gen _ _ a b,.rangeFunc g ps x y=>match aL g,dR P nt a x,dR P nt b y with
  |some g',Z a',Z b'=>if a'.dg&&b'.dg&&ps.toList.all (λp=>decide (p<nt)) then Z (.mA f gen g' ps.toList a' b') else Y
  |_,_,_=>Y
 | .seq (.tok s e z) b,c=>if s<nt/\0<z then(dR P nt b c).map (.seq (.tok s e z)) else Y
 | .seq (.tokb s off e z) b,c=>if s<nt/\0<z then(dR P nt b c).map (.seq (.tokb s off e z)) else Y
 | .seq a b,.seq x y=>match dR P nt a x,dR P nt b y with
  |some a',Z b'=>Z (.seq a' b')
  |_,_=>Y
 | .cond _ a b,.cond c x y=>match aL c,dR P nt a x,dR P nt b y with
  |some c',Z a',Z b'=>Z (.cond c' a' b')
  |_,_,_=>Y
 | .block _ b,.block id x=>(dR P nt b x).map (.block id)
 | .loop keep b,.loop x=>(dR P nt b x).map (.loop keep)
 | .scope b,.scope x=>(dR P nt b x).map .scope
 | .exit _,.exit id=>Z (.exit id)
 | .ret,.ret=>Z .ret
 | .mz b,c=>(dR P nt b c).map .mz
 | .stuck,_=>Z .stuck
 |_,_=>Y
def Post(W:World)(G:Nat->Option (List PD))(nt:Nat)(mk:Option Nat)(df:List Deferred)(Q:Exit->Act->World->Prop)(γ:Gh)(H:Hp)(w:World)(out:Out)(s':St):Prop:=
 ∀γ' a' w',γ.le γ'->Frame γ H w γ' s'.hp w'->bw W G γ' s'.hp w'->wN mk df a'.defers w'->
  match out with
  | .norm=>a'.tmps.size=nt->aW γ' s'.env a'.tmps->Q .normal a' w'
  | .exit id=>a'.tmps.size=nt->aW γ' s'.env a'.tmps->Q (.exit id) a' w'
  | .ret=>a'.tmps.size=nt->aW γ' s'.env a'.tmps->Q .ret a' w'
  | .bN d=>a'.tmps.size=nt->aW γ' s'.env a'.tmps->∀v,aB γ' v d->Q (.panic [{v,recovered:=false}]) a' w'
theorem Post.later{γ1:Gh}{H1:Hp}{w1:World}{out:Out}(h:Post W G nt mk df Q γ H w out s')(L:γ.le γ1)(F:Frame γ H w γ1 H1 w1):Post W G nt mk df Q γ1 H1 w1 out s':=
 λγ' a' w' l f=>h γ' a' w' (L.trans l) (F.trans L.base f)
theorem Post.other{Q':Exit->Act->World->Prop}{out:Out}(h:Post W G nt mk df Q γ H w out s')
    (hq:∀e a w,(match out with | .norm=>e= .normal | .exit id=>e= .exit id | .ret=>e= .ret | .bN _=>∃ch,e= .panic ch)->Q e a w->Q' e a w):Post W G nt mk df Q' γ H w out s':=by
 intro γ' a' w' h1 h2 h3 h5;have:=h γ' a' w' h1 h2 h3 h5;cases out with
 |norm=>exact λm e=>hq _ _ _ rfl (this m e)
 |exit id=>exact λm e=>hq _ _ _ rfl (this m e)
 |ret=>exact λm e=>hq _ _ _ rfl (this m e)
 |bN d=>exact λm e v hv=>hq _ _ _ ⟨_,rfl⟩ (this m e v hv)
theorem TU{v:Value}{d:D}{e:Nat}(I:Inv G γ H w)(h:pV e sz d H=Z (d',H'))(hv:aB γ v d):∃γ',γ.le γ'/\Frame γ H w γ' H' w/\Inv G γ' H' w/\aB γ' v d':=by
 unfold pV at h;split at h
 .cases h;have wO:=hv.cu.sY;subst wO
  let row:Row:=⟨e,sz,λn=>if n=0 then Z Y else Y⟩
  obtain⟨b1,b2,b3⟩:=I.GG row 0 Y rfl (λn x hx=>by
   simp only[row] at hx;split at hx
   .omega
   .cases hx) rfl (λ_ _ h=>by cases h) (λn b cap hx=>by
   simp only[row] at hx;split at hx<;>cases hx)
  refine⟨_,b1,b2,b3,?_⟩;exact .aX _ _ _ _ _ row Y (by show(γ.rows++[row])[O H.tk]? =_;rw[<-I.fZ];simp) rfl rfl (.lq _ _ _) rfl rfl
 .rename_i e' bQ es;split at h
  .rename_i hc;obtain⟨rfl,rfl,_⟩:=hc;cases h;cases hv with
   |cC b n _ _ es' hbase dY hlen ja=>
    subst hlen
    let row:Row:=⟨e',bQ,λn=>if n=O es then Z (Z (b,O es)) else Y⟩
    obtain⟨b1,b2,b3⟩:=I.GG row (O es) (Z (b,O es)) (by simp[row]) (λn x hx=>by
     simp only[row] at hx;split at hx
     .omega
     .cases hx) ⟨⟨aK _,dY⟩,λh=>by omega⟩ (λ_ _ h=>by cases h;rfl) (λn b' cap hx=>by
     simp only[row] at hx;split at hx
     .cases hx;exact hbase
     .cases hx)
    refine⟨_,b1,b2,b3,?_⟩;exact .aX _ _ _ _ _ row (Z (b,O es)) (by show(γ.rows++[row])[O H.tk]? =_;rw[<-I.fZ];simp) rfl rfl (ja.mono b1.mem) (by simp[row]) rfl
  .cases h
 .rename_i t e' bQ es;split at h
  .rename_i hc;obtain⟨rfl,rfl⟩:=hc;cases h;exact⟨γ,.refl γ,.refl γ H w,I,hv⟩
  .cases h
 .cases h
theorem aW.tok(E:aW γ env tmps)(L:γ.le γ'){s:Nat}{d:D}(h:aB γ' (tmps.getD s undef) d):aW γ' ((s,d)::env) tmps:=λt=>by
 simp only[Env.get];split
 .rename_i hs;subst hs;exact h
 .exact(E t).mono L
theorem Inv.adE(I:Inv G γ H w){k:Nat}{d:D}(hb:γ.boxes[i]? =Z b)(hc:H.bx[i]? =Z cs)(hd:cs[k]? =Z d)(h1:d'.one=true)(gh:ay cs=false)(hr:∀vs T fr,w.heap[b]? =Z (.cells vs T fr)->aB γ (vs.getD k undef) d'):
    Frame γ H w γ {H with bx:=H.bx.set i (cs.set k d')} w/\Inv G γ {H with bx:=H.bx.set i (cs.set k d')} w:=by
 have hi:i<O H.bx:=(af.1 hc).1;have hk:k<O cs:=(af.1 hd).1;have mX:cs≠[]:=λe=>by subst e;simp at hk
 have dM:∀t c,cZ γ {H with bx:=H.bx.set i (cs.set k d')} t c->cZ γ H t c:=λt c h=>cZ.congr (λ_ _ h=>h) (λ_ _ h=>h) h;refine⟨⟨rfl,rfl,rfl,aK _,λ_ _ _=>⟨λ_=>rfl,.refl _ _⟩,λ_ _ _ _=>rfl,λ_ h=>.inl (Lv.set hc mX h),λt b h=>.inl (dM t b h),λ_ h=>.inl h⟩,I.size,I.aY,I.jq,I.mem,I.jv,by simp[I.cS],I.GF hc mX,?_,λc o h=>I.gZ c o (Lv.set hc mX h),λj c hj hcs=>by
  have hcs:(H.bx.set i (cs.set k d'))[j]? =Z []:=hcs;by_cases cI:i=j
  .subst cI;rw[eA hi] at hcs;have h0:O (cs.set k d')=0:=by simp at hcs;rw[hcs];rfl
   simp at h0;exact(mX h0).elim
  .rw[bp cI] at hcs;exact I.js j c hj hcs,I.fZ,I.row,I.jx,λt t' b h h'=>I.free t t' b (dM t b h) (dM t' b h')⟩
 intro j c cs' hj hcs;by_cases cI:i=j
 .subst cI;rw[hb] at hj;cases hj;have hcs:(H.bx.set i (cs.set k d'))[i]? =Z cs':=hcs;rw[eA hi] at hcs;cases hcs;obtain⟨vs,T,fr,q1,q2,q3,q4⟩:=I.box i b cs hb hc;rw[iu gh] at q1;have q3:=q3 gh;have hall:∀x∈cs.set k d',x.one=true:=λx hx=>by
   rcases K8 hx with h |h
   .exact q3 x h
   .subst h;exact h1
  refine⟨vs,T,fr,(iu (Da hall) _).trans q1,⟨by simpa using q2.1,λm x hm=>?_⟩,λ_=>hall,λhn=>q4 (λe=>hn (by subst e;rfl))⟩
  .by_cases Bk:k=m
   .subst Bk;rw[eA hk] at hm;cases hm;exact hr vs T fr q1
   .rw[bp Bk] at hm;exact q2.2 m x hm
 .have hcs:(H.bx.set i (cs.set k d'))[j]? =Z cs':=hcs;rw[bp cI] at hcs;exact I.box j c cs' hj hcs
theorem adF{e:Nat}{d:D}(h:pV e sz d H=Z (d',H')):H'.bx=H.bx/\d'.one=true:=by
 unfold pV at h;split at h
 .cases h;exact⟨rfl,rfl⟩
 .split at h<;>cases h;exact⟨rfl,rfl⟩
 .split at h<;>cases h;exact⟨rfl,rfl⟩
 .cases h
theorem adG{slot off e:Nat}{s:St}(I:Inv G γ s.hp w)(h:Gn slot off e sz s=Z s')(E:aW γ s.env tmps):∃γ',γ.le γ'/\Frame γ s.hp w γ' s'.hp w/\Inv G γ' s'.hp w/\aW γ' s'.env tmps:=by
 unfold Gn at h;split at h
 .rename_i i o adH;split at h
  .rename_i cs hcs;split at h
   .cases h;exact⟨γ,.refl γ,.refl γ _ w,I,E⟩
   rename_i hm;have hm:ay cs=false:=by simpa using hm
   split at h
   .rename_i d hd;split at h
    .rename_i d' H' ht;cases h;have hb:=E slot;rw[adH] at hb;generalize tmps.getD slot undef=v at hb;cases hb with
     |box _ _ b lB=>
      obtain⟨vs,T,fr,q1,q2,q3,q4⟩:=I.box i b cs lB hcs;rw[iu hm] at q1;obtain⟨γ',L,F,J,V⟩:=TU I ht (q2.2 _ d hd);obtain⟨t1,t2⟩:=adF ht;obtain⟨F2,J2⟩:=J.adE (L.boxes _ _ lB) (by rw[t1];exact hcs) hd t2 hm (λcL T' ct hw=>by
       rw[q1] at hw;cases hw;exact V)
      exact⟨γ',L,F.trans L.base F2,J2,λt=>(E t).mono L⟩
    .cases h;exact⟨γ,.refl γ,.refl γ _ w,I,E⟩
   .cases h
  .cases h
 .cases h;exact⟨γ,.refl γ,.refl γ _ w,I,E⟩
def Gh.cut(γ:Gh)(nb nt:Nat):Gh:={γ with boxes:=γ.boxes.take nb,rows:=γ.rows.take nt}
theorem M6{n j:Nat}(h:below n i=Z j):i<n/\j=i:=by
 unfold below at h;split at h
 .rename_i hi;cases h;exact⟨hi,rfl⟩
 .cases h
theorem TV(γ:Gh)(nb nt:Nat):Ren γ (γ.cut nb nt) (below nb) (below nt):=by
 refine⟨rfl,λ_ _ h=>h,λ_ _ _ h=>h,λi j b hi hb=>?_,λt u row ht hr=>?_⟩
 .obtain⟨h1,rfl⟩:=M6 hi;show(γ.boxes.take nb)[j]? =Z b;rw[kX h1];exact hb
 .obtain⟨h1,rfl⟩:=M6 ht;refine⟨row,?_,rfl,rfl,λ_ _ h=>h⟩;show(γ.rows.take nt)[u]? =Z row;rw[kX h1];exact hr
theorem pj{α:Type}{l:List α}{n:Nat}{a:α}(h:(l.take n)[i]? =Z a):i<n/\l[i]? =Z a:=by
 rw[gL] at h;split at h
 .exact⟨‹_›,h⟩
 .cases h
theorem M7{t:Nat}(h:cZ (γ.cut nb nt) ⟨bx,H.tk.take nt⟩ t b):cZ γ H t b:=by
 obtain⟨row,f,cap,h1,h2,h3,h4⟩:=h;exact⟨row,f,cap,(pj h1).2,(pj h2).2,h3,h4⟩
theorem Ie(_:Inv G γ H w)(_:nb<=O H.bx)(hr:aH (D.aZ (below nb) (below nt)) (H.bx.take nb)=Z bx)(h1:(γ.cut nb nt).boxes[i]? =Z b)(h2:bx[i]? =Z cs):
    γ.boxes[i]? =Z b/\∃c0,H.bx[i]? =Z c0/\D.aZ (below nb) (below nt) c0=Z cs:=by
 obtain⟨hi,uG⟩:=pj h1;obtain⟨c0,q1,q2⟩:=oP hr h2;rw[kX hi] at q1;exact⟨uG,c0,q1,q2⟩
theorem TW(J:Inv G γ H w)(hb:nb<=O H.bx){tk:List Nat}(hr:aH (D.aZ (below nb) (below nt)) (H.bx.take nb)=Z bx)(h:Lv (γ.cut nb nt) ⟨bx,tk⟩ b):Lv γ H b:=by
 obtain⟨i,cs,h1,h2,h3⟩:=h;obtain⟨q1,c0,q2,q3⟩:=Ie J hb hr h1 h2;exact⟨i,c0,q1,q2,lY q3 h3⟩
theorem TX{bi ti:Nat->Option Nat}{c0:List D}(h:D.aZ bi ti c0=Z []):c0=[]:=by
 cases c0 with
 |nil=>rfl
 |cons d r=>have:=(oV h).1;simp at this
theorem adI(J:Inv G γ H w)(hb:nb<=O H.bx)(ht:nt<=O H.tk)(hr:aH (D.aZ (below nb) (below nt)) (H.bx.take nb)=Z bx):
    Inv G (γ.cut nb nt) ⟨bx,H.tk.take nt⟩ w:=by
 obtain⟨hl,hg⟩:=Ic hr;have hl':O bx=nb:=by rw[<-hl];simp;omega
 refine⟨J.size,J.aY,λt row n b cap h1 h2=>J.jq t row n b cap (pj h1).2 h2,J.mem,J.jv,?_,λi j b ci cj h1 h2 h3 h4 n1 n2=>?_,λi b cs h1 h2=>?_,λb o h=>J.gZ b o (TW J hb hr h),λi b h1 h2=>?_,?_,λt row f h1 h2=>?_,λt row f h1 h2=>J.jx t row f (pj h1).2 (pj h2).2,λt t' b h h'=>J.free t t' b (M7 h) (M7 h')⟩
 .have:=J.cS;show(γ.boxes.take nb).length=O bx;rw[hl'];simp;omega
 .obtain⟨q1,c0,q2,q3⟩:=Ie J hb hr h1 h3;obtain⟨r1,c1,r2,r3⟩:=Ie J hb hr h2 h4;exact J.nodup i j b c0 c1 q1 r1 q2 r2 (lY q3 n1) (lY r3 n2)
 .obtain⟨hi,uG⟩:=pj h1;have hc:(H.bx.take nb)[i]? =Z (H.bx[i]'(by omega)):=by rw[kX hi];exact aD _
  have l7:=hg i _ cs hc h2;obtain⟨vs,T,fr,q1,q2,q3,q4⟩:=J.box i b _ uG (aD (by omega));exact⟨vs,T,fr,(Gz (yG l7) _).trans q1,He (TV γ nb nt) q2 l7,λhm=>Hf l7 (q3 ((yG l7).symm.trans hm)),λhn=>q4 (lY l7 hn)⟩
 .obtain⟨q1,c0,q2,q3⟩:=Ie J hb hr h1 h2;have:=TX q3;subst this;exact J.js i b q1 q2
 .have:=J.fZ;show(γ.rows.take nt).length=O (H.tk.take nt);simp;omega
 .obtain⟨r,q1,q2⟩:=J.row t row f (pj h1).2 (pj h2).2;refine⟨r,q1,?_⟩;cases r with
  |none=>exact q2
  |some bc=>
   refine⟨q2.1,λhf=>?_⟩;obtain⟨cur,fr,a1,a2,a3,a4,a5,a6⟩:=q2.2 hf;exact⟨cur,fr,a1,a2,a3,a4,a5,λh=>a6 (jn h)⟩
theorem TY(I:bw W G γ H w)(h:Post W G nt mk df Q γ H w (bX (O H.bx) (O H.tk) x).1 (bX (O H.bx) (O H.tk) x).2):Post W G nt mk df Q γ H w x.1 x.2:=by
 unfold bX at h;split at h
 .rename_i hc;split at h
  .rename_i bx o bS ho;intro γ' a' w' L F J hd;have R:=TV γ' (O H.bx) (O H.tk);have L2:γ.le (γ'.cut (O H.bx) (O H.tk)):=by
    refine⟨L.base,L.aY,L.mem,λi b hi=>?_,λt r ht=>?_⟩
    .have hi':i<O H.bx:=by rw[<-I.cS];exact(af.1 hi).1
     show(γ'.boxes.take (O H.bx))[i]? =Z b;rw[kX hi'];exact L.boxes i b hi
    .have uV:t<O H.tk:=by rw[<-I.fZ];exact(af.1 ht).1
     obtain⟨r',q1,q2⟩:=L.rows t r ht;refine⟨r',?_,q2⟩;show(γ'.rows.take (O H.tk))[t]? =Z r';rw[kX uV];exact q1
   have F2:Frame γ H w (γ'.cut (O H.bx) (O H.tk)) ⟨bx,x.2.hp.tk.take (O H.tk)⟩ w':=
    ⟨F.os,F.tape,F.output,F.size,F.blk,F.mem,λb hb=>F.box b (TW J.toInv hc.1 bS hb),λt b hb=>F.uo t b (M7 hb),λb hb=>F.ur b (jn hb)⟩
   have J2:=I.up L2 F2 (adI J.toInv hc.1 hc.2 bS);have:=h _ a' w' L2 F2 J2 hd;have hE:aW γ' x.2.env a'.tmps->aW (γ'.cut (O H.bx) (O H.tk)) (x.2.env.map λy=>(y.1,(y.2.ren (below (O H.bx)) (below (O H.tk))).getD .dead)) a'.tmps:=λE t=>by
    have j9:∀(e:Env),Env.get (e.map λy=>(y.1,(y.2.ren (below (O H.bx)) (below (O H.tk))).getD .dead)) t=((e.get t).ren (below (O H.bx)) (below (O H.tk))).getD .dead:=by
     intro e
     induction e with
     |nil=>rfl
     |cons y e ih=>
      obtain⟨s,d⟩:=y;simp only[cB,Env.get];split
      .rfl
      .exact ih
    rw[j9];cases l7:(x.2.env.get t).ren (below (O H.bx)) (below (O H.tk)) with
    |none=>exact .dead _
    |some d'=>exact yF R (E t) l7
   obtain⟨xo,xs⟩:=x;cases xo with
   |norm=>cases ho;exact λm E=>this m (hE E)
   |exit id=>cases ho;exact λm E=>this m (hE E)
   |ret=>cases ho;exact λm E=>this m (hE E)
   |bN d=>
    obtain⟨d',bO,rfl⟩:=ak.1 ho;exact λm E v hv=>this m (hE E) v (yF R hv bO)
  .exact h
 .exact h

section
def qL(γ:Gh)(H:Hp)(nb b:Nat):Prop:=∃(i:Nat) (cs:List D),nb<=i/\γ.boxes[i]? =Z b/\H.bx[i]? =Z cs/\cs≠[]
theorem qL.lv(h:qL γ H nb b):Lv γ H b:=by
 obtain⟨i,cs,_,h1,h2,h3⟩:=h;exact⟨i,cs,h1,h2,h3⟩

open Classical in
noncomputable def Gh.jE (γ:Gh) (H:Hp) (w:World) (nb:Nat):Gh:=
 {γ with mem:=λb o=>if qL γ H nb b then(match w.heap[b]? with |some (.cells vs _ _)=>vs[o]? |_=>Y) else γ.mem b o}

noncomputable def Gh.uW (γ:Gh) (H:Hp) (w:World) (nb:Nat):Gh:={γ.jE H w nb with boxes:=γ.boxes.take nb}
theorem Gh.DV(h:¬qL γ H nb b):(γ.jE H w nb).mem b o=γ.mem b o:=by simp[Gh.jE,h]
theorem Gh.DW(I:Inv G γ H w)(nb:Nat):γ.le (γ.jE H w nb):=by
 refine⟨rfl,λ_ _ h=>h,λb o v h=>?_,λ_ _ h=>h,λt r h=>⟨r,h,rfl,rfl,λ_ _ h=>h⟩⟩;rw[Gh.DV]
 .exact h
 .intro hb;rw[I.gZ b o hb.lv] at h;cases h
theorem Gh.Ig{T:Nat}{fr:Nat×Nat}(h:qL γ H nb b)(hw:w.heap[b]? =Z (.cells vs T fr))(o:Nat):(γ.jE H w nb).mem b o=vs[o]?:=by simp[Gh.jE,h,hw]
theorem Gh.adJ{es:Array MapEntry}{ck:Nat}(h:qL γ H nb b)(hw:w.heap[b]? =Z (.map es ck)):(γ.jE H w nb).mem b o=Y:=by simp[Gh.jE,h,hw]
theorem DX{k:Nat}:∀(f:Nat) (d:D),d.one=true->(d.av k H f).one=true
 | 0,d,h=>h
 |f+1,d,h=>by
  cases d<;>simp only[D.av]<;>first |exact h |(simp[D.one] at h;done) |skip
  .split<;>rfl
  .split
   .split
    .split
     .rfl
     .split<;>rfl
    .rfl
   .rfl
  .split
   .split
    .split
     .split<;>rfl
     .rfl
    .rfl
   .rfl
  .split<;>rfl
  .split
   .split
    .split
     .split<;>rfl
     .rfl
    .rfl
   .rfl
theorem qM(J:Inv G γ H w){nb:Nat}:∀(f:Nat) {v:Value} {d:D},aB (γ.jE H w nb) v d->aB (γ.jE H w nb) v (d.av nb H f)
 | 0,v,d,r=>r
 |f+1,v,d,r=>by
  have hle:=Gh.DW J nb;have box:∀(i b:Nat) (cs:List D) (j:Nat),nb<=i->γ.boxes[i]? =Z b->H.bx[i]? =Z cs->j<O cs->qL γ H nb b:=λi b cs j hi hb hc hj=>
   ⟨i,cs,hi,hb,hc,λe=>by subst e;simp at hj⟩
  cases r with
  |box i off b hb=>
   simp only[D.av];split
   .rename_i hk;split
    .rename_i cs hcs;split
     .exact .box i off b hb
     rename_i hm;have hm:ay cs=false:=by simpa using hm
     split
     .rename_i ps jM;obtain⟨vs,T,fr,q1,q2,q3,_⟩:=J.box i b cs hb hcs;rw[iu hm] at q1;have q3:=q3 hm;obtain⟨l1,l2⟩:=yy jM;have eV:∀j,j<O cs->(γ.jE H w nb).mem b j=vs[j]?:=λj hj=>Gh.Ig (γ:=γ) (H:=H) (w:=w) (nb:=nb) (box i b cs j hk hb hcs hj) q1 j;have hl:O ps=O cs:=by rw[l1];simp
      have q:=aB.ro (γ:=γ.jE H w nb) b 0 off ps (λj=>vs.getD j undef) (λj hj=>by
       rw[ez,eV j (by omega)];have :j<vs.size:=by have:=q2.1;omega
       simp[bP,this]) (λj c hc=>by
       obtain⟨d0,a1,a2⟩:=l2 j c hc;simp only[cG,ak] at a1;obtain⟨d1,cO,rfl⟩:=a1;exact⟨yz (qM J f ((q2.2 j d1 cO).mono hle)) a2,Dk a2 (DX f d1 (q3 d1 (bB cO)))⟩)
      rw[ez] at q;exact q
     .exact .box i off b hb
    .exact .box i off b hb
   .exact .box i off b hb
  |bH i off n c sz b cp hb hc dQ=>
   simp only[D.av];split
   .rename_i hk;split
    .rename_i cs hcs;split
     .rename_i fk;obtain⟨hm,fk,hs⟩:=fk;split
      .rename_i ps jM;obtain⟨vs,T,fr,q1,q2,q3,_⟩:=J.box i b cs hb hcs;rw[iu hm] at q1;have q3:=q3 hm;obtain⟨l1,l2⟩:=yy jM;have eV:∀j,j<O cs->(γ.jE H w nb).mem b j=vs[j]?:=λj hj=>Gh.Ig (γ:=γ) (H:=H) (w:=w) (nb:=nb) (box i b cs j hk hb hcs hj) q1 j;have hpl:O ps=n*sz:=by rw[l1,bT,wC _ _ _ fk];omega
       have iZ:∀(j:Nat) c,ps[j]? =Z c->aQ (γ.jE H w nb).mem (vs.getD (off+j) undef) c/\c.one=true:=λj c hc=>by
        obtain⟨d0,a1,a2⟩:=l2 j c hc;simp only[cG,ak] at a1;obtain⟨d1,cO,rfl⟩:=a1;have gp:=cO;rw[oQ] at gp;split at gp
        .exact⟨yz (qM J f ((q2.2 _ d1 gp).mono hle)) a2,Dk a2 (DX f d1 (q3 d1 (bB gp)))⟩
        .cases gp
       have DY:∀p∈ps,p.one=true:=λp hp=>by
        obtain⟨j,hj⟩:=dV hp;exact(iZ j p hj).2
       obtain⟨c1,c2⟩:=G1 hs n ps hpl DY;have hlt:∀k j,k<n->j<sz->k*sz+j<n*sz:=λk j hk hj=>by
        calc k*sz+j<k*sz+sz:=by omega
         _=(k+1)*sz:=by rw[fX,nP]
         _<=n*sz:=ju _ hk
       have q:=aQ.sl (m:=(γ.jE H w nb).mem) b off cp sz (chunks sz n ps) (λk j=>vs.getD (off+(k*sz+j)) undef) (by rw[c1];exact hc) (λe he=>by
        obtain⟨k,hk⟩:=dV he;have iw:k<n:=by rw[<-c1];exact(af.1 hk).1
        have h0:=hlt k 0 iw hs;have h1:=hlt k (sz-1) iw (by omega);rw[c2 k e hk];simp;omega) (λe he c hcm=>by
        obtain⟨k,hk⟩:=dV he;rw[c2 k e hk] at hcm;exact DY c (tT (jn hcm))) (λk j hk hj=>by
        rw[c1] at hk;have:=hlt k j hk hj;rw[eV _ (by omega)];have lT:off+k*sz+j<vs.size:=by have:=q2.1;omega
        rw[<-wb];simp[bP,lT]) (λk e j c hk hc=>by
        have iw:k<n:=by rw[<-c1];exact(af.1 hk).1
        rw[c2 k e hk,gL] at hc;split at hc
        .rw[lN] at hc;exact(iZ _ c hc).1
        .cases hc)
       rw[c1] at q;exact .p _ _ q
      .exact .bH i off n c sz b cp hb hc dQ
     .exact .bH i off n c sz b cp hb hc dQ
    .exact .bH i off n c sz b cp hb hc dQ
   .exact .bH i off n c sz b cp hb hc dQ
  |ae i e n sz b cp hb hc hcm hk2 dY=>
   simp only[D.av];split
   .rename_i hk;split
    .rename_i cs hcs;split
     .rename_i fk;obtain⟨hm,fk,hs⟩:=fk;split
      .rename_i ps jM;obtain⟨vs,T,fr,q1,q2,q3,_⟩:=J.box i b cs hb hcs;rw[iu hm] at q1;have q3:=q3 hm;obtain⟨l1,l2⟩:=yy jM;have eV:∀j,j<O cs->(γ.jE H w nb).mem b j=vs[j]?:=λj hj=>Gh.Ig (γ:=γ) (H:=H) (w:=w) (nb:=nb) (box i b cs j hk hb hcs hj) q1 j;have hpl:O ps=n*sz:=by rw[l1,bT,wC _ _ _ fk];omega
       have iZ:∀(j:Nat) c,ps[j]? =Z c->aQ (γ.jE H w nb).mem (vs.getD (0+j) undef) c/\c.one=true:=λj c hc=>by
        obtain⟨d0,a1,a2⟩:=l2 j c hc;simp only[cG,ak] at a1;obtain⟨d1,cO,rfl⟩:=a1;have gp:=cO;rw[oQ] at gp;split at gp
        .exact⟨yz (qM J f ((q2.2 _ d1 gp).mono hle)) a2,Dk a2 (DX f d1 (q3 d1 (bB gp)))⟩
        .cases gp
       have DY:∀p∈ps,p.one=true:=λp hp=>by
        obtain⟨j,hj⟩:=dV hp;exact(iZ j p hj).2
       obtain⟨c1,c2⟩:=G1 hs n ps hpl DY;have hlt:∀k j,k<n->j<sz->k*sz+j<n*sz:=λk j hk hj=>by
        calc k*sz+j<k*sz+sz:=by omega
         _=(k+1)*sz:=by rw[fX,nP]
         _<=n*sz:=ju _ hk
       have q:=aQ.sl (m:=(γ.jE H w nb).mem) b 0 cp sz (chunks sz n ps) (λk j=>vs.getD (0+(k*sz+j)) undef) (by rw[c1];exact hc) (λe' he=>by
        obtain⟨k,hk⟩:=dV he;have iw:k<n:=by rw[<-c1];exact(af.1 hk).1
        have h0:=hlt k 0 iw hs;have h1:=hlt k (sz-1) iw (by omega);rw[c2 k e' hk];simp;omega) (λe' he c hcm=>by
        obtain⟨k,hk⟩:=dV he;rw[c2 k e' hk] at hcm;exact DY c (tT (jn hcm))) (λk j hk hj=>by
        rw[c1] at hk;have:=hlt k j hk hj;rw[eV _ (by omega)];have lT:0+k*sz+j<vs.size:=by have:=q2.1;omega
        rw[<-wb];rw[bP,rC lT];rfl) (λk e' j c hk hc=>by
        have iw:k<n:=by rw[<-c1];exact(af.1 hk).1
        rw[c2 k e' hk,gL] at hc;split at hc
        .rw[lN] at hc;exact(iZ _ c hc).1
        .cases hc)
       rw[c1] at q;exact .p _ _ q
      .exact .ae i e n sz b cp hb hc hcm hk2 dY
     .exact .ae i e n sz b cp hb hc hcm hk2 dY
    .exact .ae i e n sz b cp hb hc hcm hk2 dY
   .exact .ae i e n sz b cp hb hc hcm hk2 dY
  |agg cs ds hl dP hr=>
   simp only[D.av];refine Di ⟨by simpa using hl,λi d hd=>?_⟩ (λd hd=>?_)
   .simp only[cG,ak] at hd;obtain⟨d1,cO,rfl⟩:=hd;exact qM J f (hr i d1 cO)
   .obtain⟨d1,cO,rfl⟩:=cA.1 hd;exact DX f d1 (dP d1 cO)
  |ba cs ds hl hr=>
   simp only[D.av];refine .ba cs _ (by simpa using hl) λi d hd=>?_;simp only[cG,ak] at hd;obtain⟨d1,cO,rfl⟩:=hd;exact qM J f (hr i d1 cO)
  |eC t v d h=>
   simp only[D.av];have q:=qM J f h;split
   .rename_i y hy;rw[hy] at q;exact .p _ _ (.iface t v y q.cu)
   .exact .eC t v _ q
  |dead v=>exact .dead v
  |undef=>exact .undef
  |p v x h=>exact .p v x h
  |cC b n e sz es a1 a2 a3 a4=>exact .p _ _ (yz (.cC b n e sz es a1 a2 a3 a4) rfl)
  |aX v t e sz es row r a1 a2 a3 a4 a5 a6=>exact .aX v t e sz es row r a1 a2 a3 a4 a5 a6
  |eB g off=>exact .eB g off
  |ro b o off cs vs a1 a2=>exact .ro b o off cs vs a1 a2
  |fn f0 as cs ds es a1 a2 a3 a4=>
   simp only[D.av];refine .fn f0 as cs _ _ (by simpa using a1) (λi d hd=>?_) (by simpa using a3) (λi d hd=>?_)
   .simp only[cG,ak] at hd;obtain⟨d1,cO,rfl⟩:=hd;exact qM J f (a2 i d1 cO)
   .simp only[cG,ak] at hd;obtain⟨d1,cO,rfl⟩:=hd;exact qM J f (a4 i d1 cO)
  |fL a sz=>exact .fL a sz
  |fB a n sz es hn hx=>exact .fB a n sz es hn hx
  |dD i b a1=>exact .dD i b a1
  |cD as cs kd ks ds s a1 a2 a3 a4 a5 a6 a7 a8 a9=>exact .cD as cs kd ks ds s a1 a2 a3 a4 a5 a6 a7 a8 a9
theorem adK{k:Nat}:∀(f:Nat) (d:D),Dq (D.av k H f d)=Dq d
 | 0,d=>rfl
 |f+1,d=>by
  cases d with
  |bH i off n c sz=>
   simp only[D.av];split
   .split
    .split
     .split<;>rfl
     .rfl
    .rfl
   .rfl
  |ae i e n sz=>
   simp only[D.av];split
   .split
    .split
     .split<;>rfl
     .rfl
    .rfl
   .rfl
  |box i off=>
   simp only[D.av];split
   .split
    .split
     .rfl
     .split<;>rfl
    .rfl
   .rfl
  |agg cs=>simp only[D.av,cX];split<;>rfl
  |eC t d=>simp only[D.av];split<;>rfl
  |_=>rfl
theorem adL{k:Nat}(f:Nat)(cs:List D):ay (cs.map (D.av k H f))=ay cs:=by
 match cs with
 |[]=>rfl
 |[d]=>rw[cB,j4,G8,G8,adK]
 |d::e::r=>rw[cB,cB,G9,G9]
theorem M8(γ:Gh)(H:Hp)(w:World)(nb:Nat):Ren (γ.jE H w nb) (γ.uW H w nb) (below nb) Z:=by
 refine⟨rfl,λ_ _ h=>h,λ_ _ _ h=>h,λi j b hi hb=>?_,λt u row ht hr=>?_⟩
 .obtain⟨h1,rfl⟩:=M6 hi;show(γ.boxes.take nb)[j]? =Z b;rw[kX h1];exact hb
 .cases ht;exact⟨row,hr,rfl,rfl,λ_ _ h=>h⟩
theorem TZ{k:Nat}{d:D}(h:(oM k H cs)[i]? =Z d):∃d1,cs[i]? =Z d1/\(d=d1\/d=d1.av k H 8):=by
 unfold oM at h;split at h
 .exact⟨d,h,.inl rfl⟩
 .simp only[cG,ak] at h;obtain⟨d1,cO,rfl⟩:=h;exact⟨d1,cO,.inr rfl⟩
theorem T3(k:Nat)(H:Hp)(cs:List D):O (oM k H cs)=O cs:=by unfold oM;split<;>simp
theorem adM(k:Nat)(H:Hp)(cs:List D):ay (oM k H cs)=ay cs:=by
 unfold oM;split
 .rfl
 .exact adL 8 cs
theorem T4(I:Inv G γ H w){Hx:Hp}(L:γ.le γ')(F:Frame γ H w γ' Hx w')(J:Inv G γ' Hx w')(bS:aH (λcs=>D.aZ (below (O H.bx)) Z (oM (O H.bx) Hx cs)) (Hx.bx.take (O H.bx))=Z bx)(fl:O H.bx<=O Hx.bx):
    γ.le (γ'.uW Hx w' (O H.bx))/\Frame γ H w (γ'.uW Hx w' (O H.bx)) ⟨bx,Hx.tk⟩ w'/\Inv G (γ'.uW Hx w' (O H.bx)) ⟨bx,Hx.tk⟩ w':=by
     have uI:O γ.boxes=O H.bx:=I.cS;have ao7:O γ'.boxes=O Hx.bx:=J.cS;have DZ:∀b,qL γ' Hx (O H.bx) b->b<w.heap.size->Lv γ H b:=λb hb hlt=>by
      rcases F.box b hb.lv with q |q
      .exact q
      .omega
     have T5:∀b,Lv (γ'.uW Hx w' (O H.bx)) ⟨bx,Hx.tk⟩ b->Lv γ' Hx b/\¬qL γ' Hx (O H.bx) b:=λb hb=>by
      obtain⟨i,cs,h1,h2,h3⟩:=hb;obtain⟨r8,bJ⟩:=pj h1;obtain⟨c0,q1,q2⟩:=oP bS h2;rw[kX r8] at q1;have jb:c0≠[]:=λe=>lY q2 h3 (by rw[e];rfl);refine⟨⟨i,c0,bJ,q1,jb⟩,λhd=>?_⟩;obtain⟨j,cj,a1,a2,a3,a4⟩:=hd;have:=J.nodup i j b c0 cj bJ a2 q1 a3 jb a4;omega
     have hM:=Gh.DW J (O H.bx);have R:=M8 γ' Hx w' (O H.bx);have dM:∀t b,cZ (γ'.uW Hx w' (O H.bx)) ⟨bx,Hx.tk⟩ t b->cZ γ' Hx t b:=λt b h=>cZ.congr (λ_ _ h=>h) (λ_ _ h=>h) h;refine⟨?_,?_,?_⟩
     .refine⟨L.base,L.aY,λb o v h=>hM.mem _ _ _ (L.mem _ _ _ h),λi b h=>?_,L.rows⟩;show(γ'.boxes.take (O H.bx))[i]? =Z b;rw[kX (by rw[<-uI];exact(af.1 h).1)];exact L.boxes i b h
     .refine⟨F.os,F.tape,F.output,F.size,λb hb ho=>?_,λb o hb ho=>?_,λb hb=>F.box b (T5 b hb).1,λt b h=>F.uo t b (dM t b h),λb hb=>F.ur b (jn hb)⟩
      .obtain⟨q1,q2⟩:=F.blk b hb ho;refine⟨q1,?_⟩;exact(pX.refl (γ'.mem b) _).trans q2 (λ_ h=>h) |>.trans (pX.refl _ _) (λj hj=>by
        show(γ'.jE Hx w' (O H.bx)).mem b j≠Y;cases hm:γ'.mem b j with
        |none=>exact absurd hm hj
        |some v=>rw[hM.mem _ _ _ hm];simp)
      .have gA:¬qL γ' Hx (O H.bx) b:=λh=>ho (.inl (DZ b h hb));exact(Gh.DV gA).trans (F.mem b o hb ho)
     .obtain⟨hl,hg⟩:=Ic bS;have hbl:O bx=O H.bx:=by rw[<-hl];simp;omega
      constructor
      .exact J.size
      .exact J.aY
      .exact J.jq
      .intro b o v h;by_cases hd:qL γ' Hx (O H.bx) b
       .obtain⟨j,cj,HN,hj,oT,hj3⟩:=hd;have hd:qL γ' Hx (O H.bx) b:=⟨j,cj,HN,hj,oT,hj3⟩;obtain⟨vs,T,fr,q1,_⟩:=J.box _ b _ hj oT;have h:(γ'.jE Hx w' (O H.bx)).mem b o=Z v:=h;have hm:ay cj=false:=by
         cases hm:ay cj with
         |false=>rfl
         |true=>
          exfalso;simp only[nY,hm,if_true] at q1;split at q1
          .rename_i es ck hmap;rw[Gh.adJ hd hmap] at h;cases h
          .cases q1
        rw[iu hm] at q1;rw[Gh.Ig hd q1] at h;simp only[World.cell?,q1];simpa using h
       .have h:(γ'.jE Hx w' (O H.bx)).mem b o=Z v:=h;rw[Gh.DV hd] at h;exact J.mem b o v h
      .intro g cs hgl j c hc;obtain⟨h1,v,h2,h3⟩:=J.jv g cs hgl j c hc;exact⟨h1,v,hM.mem _ _ _ h2,h3.mono hM.mem⟩
      .show(γ'.boxes.take (O H.bx)).length=O bx;rw[hbl];simp;omega
      .intro i j b ci cj h1 h2 h3 h4 n1 n2;obtain⟨r8,bJ⟩:=pj h1;obtain⟨M9,oT⟩:=pj h2;obtain⟨c0,q1,q2⟩:=oP bS h3;obtain⟨c1,r1,r2⟩:=oP bS h4;rw[kX r8] at q1;rw[kX M9] at r1;exact J.nodup i j b c0 c1 bJ oT q1 r1 (λe=>lY q2 n1 (by rw[e];rfl)) (λe=>lY r2 n2 (by rw[e];rfl))
      .intro i b cs h1 h2;obtain⟨hi,uG⟩:=pj h1;have cW:i<O Hx.bx:=by omega
       have hc:(Hx.bx.take (O H.bx))[i]? =Z (Hx.bx[i]'cW):=by rw[kX hi];exact aD _
       have l7:=hg i _ cs hc h2;obtain⟨vs,T,fr,q1,q2,q3,q4⟩:=J.box i b _ uG (aD cW);have jL:=(yG l7).trans (adM _ _ _);refine⟨vs,T,fr,(Gz jL _).trans q1,He R ⟨by rw[T3];exact q2.1,λk d hd=>?_⟩ l7,λhm=>Hf l7 (λd hd=>?_),λhn=>q4 (λe=>lY l7 hn (by rw[e];rfl))⟩
       .obtain⟨d1,cO,rfl |rfl⟩:=TZ hd
        .exact(q2.2 k d cO).mono hM
        .exact qM J 8 ((q2.2 k d1 cO).mono hM)
       .obtain⟨k,hk⟩:=dV hd;obtain⟨d1,cO,rfl |rfl⟩:=TZ hk
        .exact q3 (jL.symm.trans hm) d (bB cO)
        .exact DX 8 d1 (q3 (jL.symm.trans hm) d1 (bB cO))
      .intro b o hb;obtain⟨k1,k2⟩:=T5 b hb;show(γ'.jE Hx w' (O H.bx)).mem b o=Y;rw[Gh.DV k2];exact J.gZ b o k1
      .intro i b h1 h2;obtain⟨r8,bJ⟩:=pj h1;obtain⟨c0,q1,q2⟩:=oP bS h2;rw[kX r8] at q1;have h0:c0=[]:=by have:=TX q2;exact sO (by rw[<-T3 (O H.bx) Hx,this];rfl)
       subst h0;exact J.js i b bJ q1
      .exact J.fZ
      .intro t row f h1 h2;obtain⟨q,a1,a2⟩:=J.row t row f h1 h2;refine⟨q,a1,a2.keep (λ_ _ h=>h) (λ_ _ _ _=>rfl) (λb cap hq hlt o=>?_) (λb cap hq hlt hb hb'=>hb (jn hb'))⟩;subst hq;obtain⟨_,_,_,_,_,_,_,Mt⟩:=a2.2 hlt;exact Gh.DV λhd=>Mt hd.lv.mem
      .exact J.jx
      .exact λt t' b h h'=>J.free t t' b (dM t b h) (dM t' b h')
theorem adP(I:bw W G γ H w)(h:Post W G nt mk df Q γ H w (wx (O H.bx) x).1 (wx (O H.bx) x).2):Post W G nt mk df Q γ H w x.1 x.2:=by
 unfold wx at h;split at h
 .rename_i bx o bS ho;split at h
  .rename_i fl;intro γ' a' w' L F J hd;obtain⟨L2,F2,J2⟩:=T4 I.toInv L F J.toInv bS fl;have:=h _ a' w' L2 F2 (I.up L2 F2 J2) hd;have ja:∀v d d',aB γ' v d->(d.av (O H.bx) x.2.hp 8).ren (below (O H.bx)) Z=Z d'->aB (γ'.uW x.2.hp w' (O H.bx)) v d':=λv d d' hv hr=>
    yF (M8 γ' x.2.hp w' (O H.bx)) (qM J.toInv 8 (hv.mono (Gh.DW J.toInv (O H.bx)))) hr
   have hE:aW γ' x.2.env a'.tmps->aW (γ'.uW x.2.hp w' (O H.bx)) (x.2.env.map λy=>(y.1,((y.2.av (O H.bx) x.2.hp 8).ren (below (O H.bx)) Z).getD .dead)) a'.tmps:=λE t=>by
    have j9:∀(e:Env),Env.get (e.map λy=>(y.1,((y.2.av (O H.bx) x.2.hp 8).ren (below (O H.bx)) Z).getD .dead)) t=(((e.get t).av (O H.bx) x.2.hp 8).ren (below (O H.bx)) Z).getD .dead:=by
     intro e
     induction e with
     |nil=>rfl
     |cons y e ih=>
      obtain⟨s,d⟩:=y;simp only[cB,Env.get];split
      .rfl
      .exact ih
    rw[j9];cases l7:((x.2.env.get t).av (O H.bx) x.2.hp 8).ren (below (O H.bx)) Z with
    |none=>exact .dead _
    |some d'=>exact ja _ _ _ (E t) l7
   obtain⟨xo,xs⟩:=x;cases xo with
   |norm=>cases ho;exact λm E=>this m (hE E)
   |exit id=>cases ho;exact λm E=>this m (hE E)
   |ret=>cases ho;exact λm E=>this m (hE E)
   |bN d=>
    obtain⟨d',bO,rfl⟩:=ak.1 ho;exact λm E v hv=>this m (hE E) v (ja _ _ _ hv bO)
  .exact h
 .exact h

end
theorem T6{γ:Gh}:∀(ps:List Nat) (x:List D) (vs:List Value) (env:Env) (tmps:Array Value),aW γ env tmps->(∀p∈ps,p<tmps.size)->O vs=O x->(∀(i:Nat) d v,x[i]? =Z d->vs[i]? =Z v->aB γ v d)->
    aW γ (mC env ps x) ((ps.zip vs).foldl (λt (y:Nat×Value)=>t.setIfInBounds y.1 y.2) tmps)/\((ps.zip vs).foldl (λt (y:Nat×Value)=>t.setIfInBounds y.1 y.2) tmps).size=tmps.size
 |[],x,vs,env,tmps,E,_,_,_=>by
  cases x<;>exact⟨E,rfl⟩
 |p::ps,[],[],env,tmps,E,_,_,_=>⟨E,rfl⟩
 |p::ps,[],_::_,env,tmps,E,_,hl,_=>by cases hl
 |p::ps,d::x,[],env,tmps,E,_,hl,_=>by cases hl
 |p::ps,d::x,v::vs,env,tmps,E,hp,hl,hr=>by
  have E':=E.put (hp p (by simp)) (hr 0 d v rfl rfl);obtain⟨h1,h2⟩:=T6 ps x vs ((p,d)::env) (tmps.setIfInBounds p v) E' (λq hq=>by rw[ZX];exact hp q (by simp[hq])) (by simpa using hl) (λi d' v' h1 h2=>hr (i+1) d' v' h1 h2);refine⟨h1,?_⟩;rw[List.zip_cons_cons,tU,h2,ZX]
theorem adQ{ps:Array Nat}{x:List D}(E:aW γ env tmps)(hp:∀p∈ps.toList,p<tmps.size)(hr:cv γ vs x):
    aW γ (mC env ps.toList x) ((ps.zip vs).foldl (λt (p,v)=>t.setIfInBounds p v) tmps)/\((ps.zip vs).foldl (λt (p,v)=>t.setIfInBounds p v) tmps).size=tmps.size:=by
 have h:=T6 ps.toList x vs.toList env tmps E hp (by rw[qq];exact hr.1) (λi d v h1 h2=>by
  have:=hr.2 i d h1;have hi:i<vs.size:=by rw[hr.1];exact(af.1 h1).1
  rw[CQ] at h2;simpa[bP,h2] using this)
 rw[<-ZY,Array.toList_zip];exact h
def T7(W:World)(G:Nat->Option (List PD))(γ:Gh)(H:Hp)(w:World)(ea eb:St->Option (Out×St))(env:Env)(ps:List Nat)(ids:List Nat)(xs:List (List D))(r:Out×St)(rec:Loop)(k:Nat)(fb:Nat->Prop)(A:World):Prop:=
 ∃Hk γk,(∀i∈ids,Hk.bx[i]? =H.bx[i]?)/\(∀b,fb b->b<A.heap.size/\w.heap.size+1<b/\¬j8 γk Hk b)/\kE ea eb env ps (Gp ids H) (xs.drop k) Hk=Z r/\γ.le γk/\Frame γ H w γk Hk A/\bw W G γk Hk A/\A.heap[w.heap.size+1]? =Z (.loop rec)/\A.heap[w.heap.size]? =Z (.deferred (Z []))
def Na(W:World)(G:Nat->Option (List PD))(γ:Gh)(H:Hp)(w:World)(r:Out×St)(rec:Loop)(e:Ending)(B:World):Prop:=
 ∃γ',γ.le γ'/\Frame γ H w γ' r.2.hp B/\bw W G γ' r.2.hp B/\B.heap[w.heap.size]? =Z (.deferred (Z []))/\
  match e with
  | .returned _=>∃j,((r.1= .ret/\j=Code.ret)\/∃id,r.1= .exit id/\j=Code.exit id)/\B.heap[w.heap.size+1]? =Z (.loop {rec with state:=.done,pending:=Z j})
  | .panicked ch=>∃d v,r.1= .bN d/\ch=[{v,recovered:=false}]/\aB γ' v d
  | .outgrown=>False
theorem bw.below(I:bw W G γ H w)(B:RowKit.Below w.heap.size w w'):bw W G γ H w':=I.up (.refl γ) (I.toInv.below B).1 (I.toInv.below B).2
theorem Frame.below(F:Frame γ H w γ' H' A)(h:RowKit.Below A.heap.size A B):Frame γ H w γ' H' B:=by
 refine⟨h.os.trans F.os,h.tape.trans F.tape,h.output.trans F.output,fW F.size h.size,λk hk ho=>?_,F.mem,F.box,F.uo,F.ur⟩;rw[h.block k (vZ hk F.size)];exact F.blk k hk ho
theorem Ih(h:RowKit.Below A.heap.size A B){o:Obj}(hb:A.heap[b]? =Z o):B.heap[b]? =Z o:=by
 rw[h.block b (fG.1 hb).1];exact hb
theorem D2{c:br}(S:Sound P W G c)(hm:P.follows .mixedOrders=true)(hit:∀b s r,it b s=Z r->∃m,iter b m s=Z r):
    ∀(sc:SC) (cd:Code) (jQ:SC),dR P nt sc cd=Z jQ->∀{ro:Option Nat} {fid:Nat} {mk:Option Nat} {df:List Deferred},jQ.fQ P W G->(jQ.dg=true\/(ro=Y/\(∃B,mk=Z B)/\∃fnc,P.funcs[fid]? =Z fnc))->∀(Q:Exit->Act->World->Prop) (γ:Gh) (s:St) (a:Act) (w:World) (out:Out) (s':St),(∀a w,¬Q .outgrown a w)->aq c G it jQ s=Z (out,s')->
     bw W G γ s.hp w->aW γ s.env a.tmps->a.tmps.size=nt->wN mk df a.defers w->Post W G nt mk df Q γ s.hp w out s'->gm ro fid P cd Q a w:=by
 intro sc cd
 fun_induction dR P nt sc cd
 all_goals (intro jQ h ro fid mk df hG hr Q γ s a w out s' hQ he I E hn hd hp)
 case case1 b cd ih=>
  obtain⟨b',hb,rfl⟩:=ak.1 h;simp only[aq] at he;obtain⟨x,hx,heq⟩:=ak.1 he;have h1:out=(bX (O s.hp.bx) (O s.hp.tk) x).1:=by rw[heq]
  have h2:s'=(bX (O s.hp.bx) (O s.hp.tk) x).2:=by rw[heq]
  rw[h1,h2] at hp;exact ih b' hb hG hr Q γ s a w x.1 x.2 hQ hx I E hn hd (TY I hp)
 case case2=>
  cases h;simp only[aq] at he;cases he;exact o7 (wpIn_skip (hp γ a w (.refl γ) (.refl γ _ w) I hd hn E))
 case case3=>
  cases h;simp only[aq] at he;cases he;exact o7 (wpIn_label (hp γ a w (.refl γ) (.refl γ _ w) I hd hn E))
 case case4 keep hs id ops gA=>
  obtain⟨sl,bW,rfl⟩:=ak.1 h;have gA:=gV.1 gA;have o:=M5 bW;simp only[aq] at he;have hl:O ops.toList=O sl:=by simpa using o.len
  have kM:∀(i:Nat) x so,ops.toList[i]? =Z x->sl[i]? =Z so->p8 P ops nt x so:=λi x so hx hs=>o.of i x so (by simpa using hx) hs;split at he
  .rename_i gj H' dA;cases he;refine o7 (wpIn_region_list (HV hQ _ gA _ _ (My S o.lt ops.toList sl γ s.env s.hp a w hl kM I E hn _ dA (λγ' e2 H2 a' w' hr L F J E' cE bO=>?_) (λγ' d e2 H2 v a' w' hr _ _ _ _ _ _ _=>by cases hr))));cases hr;exact hp γ' a' w' L F J (hd.keep I.toInv F bO) cE (E'.keep keep)
  .rename_i d gj H' dA;cases he;refine o7 (wpIn_region_list (HV hQ _ gA _ _ (My S o.lt ops.toList sl γ s.env s.hp a w hl kM I E hn _ dA (λγ' e2 H2 a' w' hr _ _ _ _ _ _=>by cases hr) (λγ' d e2 H2 v a' w' hr L F J V E' cE bO=>?_))));cases hr;exact hp γ' a' w' L F J (hd.keep I.toInv F bO) cE E' v V
  .cases he
 case case6 keep pairs hs id ops sl bW hdr=>
  cases h;rw[bL] at hdr;have gA:=gV.1 hdr.2;have o:=M5 bW;simp only[aq] at he;split at he
  .rename_i gj H' cs dA;split at he
   .rename_i oo;cases he;refine o7 (wpIn_region_any hm (DU hQ gA _ _ _ _ (ads S o.len o.of o.lt hdr.1 dA oo (w:=w.drew) (I.up (.refl γ) (Frame.drew γ s.hp w) I.toInv.drew) E hn λγ' a' w' L F J E' cE bO=>?_)));have F2:=(Frame.drew γ s.hp w).trans rfl F;exact hp γ' a' w' L F2 J (hd.keep I.toInv F2 bO) cE (E'.keep keep)
   .cases he
  .split at he
   .rename_i d H' cs k dA;split at he
    .rename_i oo;cases he;rw[bL] at oo;refine o7 (wpIn_region_any hm (DU hQ gA _ _ _ _ (adt S o.len o.of o.lt hdr.1 dA oo.1 oo.2 (w:=w.drew) (I.up (.refl γ) (Frame.drew γ s.hp w) I.toInv.drew) E hn λγ' v a' w' L F J V E' cE bO=>?_)));have F2:=(Frame.drew γ s.hp w).trans rfl F;exact hp γ' a' w' L F2 J (hd.keep I.toInv F2 bO) cE E' v V
    .cases he
   .cases he
 case case9 f gen _ _ sa sb g ps x y g' a' b' hb ha hg hcnd fC fD=>
  cases h;simp only[bL] at hcnd;obtain⟨⟨na,nb⟩,jM⟩:=hcnd;have jM:∀p∈ps.toList,p<nt:=λp hp=>by simpa using gV.1 jM p hp
  rcases hr with hr |⟨rfl,⟨B0,rfl⟩,fnc,hfn⟩
  .cases hr
  obtain⟨⟨rR,adR⟩,ga,gb⟩:=hG;simp only[aq] at he;split at he
  .rename_i xs qC;have hgr:=cg E hg;unfold C9 at qC;split at qC
   .rename_i f' fi cap Ii;split at qC
    .rename_i iH;subst iH;rw[Ii] at hgr;obtain⟨as,lb,hgv,r1,r2⟩:=hgr.GM;obtain⟨en,hen,hseq⟩:=adR fi cap s.hp xs qC γ w as lb I r1 r2;rw[Ii] at he;generalize rP:nX (.fn f' fi cap) s.hp=ids at hseq he;obtain⟨rec,jF⟩:∃rec:Loop,rec={state:=.ready,pending:=Y,fn:=fid,tmps:=a.tmps,params:=ps,assign:=x,body:=y,defers:=w.heap.size}:=⟨_,rfl⟩;obtain⟨W1,hW1⟩:∃W1,(w.alloc (.deferred (Z []))).alloc (.loop rec)=W1:=⟨_,rfl⟩;have hL1:W1.heap[w.heap.size+1]? =Z (.loop rec):=by
      rw[<-hW1];have:=World.alloc_heap_new (w.alloc (.deferred (Z []))) (.loop rec);rwa [World.size_alloc] at this
     have hK1:W1.heap[w.heap.size]? =Z (.deferred (Z [])):=by
      rw[<-hW1];exact(RowKit.Below.heap_alloc _ _ _ (by simp)).trans (World.alloc_heap_new w _)
     have uX:RowKit.Below w.heap.size w W1:=by
      rw[<-hW1];exact((RowKit.Below.refl _ w).alloc (aK _) _).alloc (by simp) _
     have hWw:=I.nc.size
     -- the rounds
     have adV:∀k fb z A,xs[k]? =Z z->T7 W G γ s.hp w (aq c G it a') (aq c G it b') s.env ps.toList ids xs (out,s') rec k fb A->
         YieldAt (wr Y) 0 P (w.heap.size+1) (en k) A λe B=>(A.heap.size<=B.heap.size/\∀b,fb b->ng b A B)/\((e= .returned (.bool true)/\T7 W G γ s.hp w (aq c G it a') (aq c G it b') s.env ps.toList ids xs (out,s') rec (k+1) fb B)\/(e= .returned (.bool false)/\Na W G γ s.hp w (out,s') rec e B)\/∃ch,e= .panicked ch/\Na W G γ s.hp w (out,s') rec e B):=by
      rintro k fb z A hz ⟨Hk,γk,T8,Ij,dA,Lk,Fk,Ik,hlk,hdk⟩;obtain⟨hes,her⟩:=hen k z hz;have DZ:xs.drop k=z::xs.drop (k+1):=by
       obtain⟨hlt,rfl⟩:=af.1 hz;exact CZ hlt
      rw[DZ] at dA;simp only[kE] at dA;split at dA
      .cases dA
      rename_i hzl;have hzl:O z=O ps.toList:=Classical.not_not.1 hzl;have hy:=run_yield (P:=P) (args:=en k) hlk (by rw[hes,jF,hzl];simp);rw[jF] at hy;have hy':(Instr.yield (w.heap.size+1) (en k)).run P A= .ok (.round (w.heap.size+1) fid ((ps.zip (en k)).foldl (λt (p,v)=>t.setIfInBounds p v) a.tmps) x y) A:=hy;refine⟨_,_,_,_,hy',TP hfn ?_⟩;obtain⟨E1,hs1⟩:=adQ (E.mono Lk) (λp hp=>by rw[hn];exact jM p hp) (her γk);split at dA
      .rename_i s1 hea;refine fC a' ha (ro:=Z (w.heap.size+1)) (fid:=fid) (mk:=Y) (df:=[]) ga (.inl na) _ γk ⟨mC s.env ps.toList z,Hk⟩ _ A .norm s1 (λ_ _ h=>h) hea Ik E1 (by rw[hs1,hn]) rfl λγ1 a1 w1 L1 F1 J1 cO ke E2=>?_;have cO:a1.defers=[]:=cO;have jO:=F1.stands Ik.toInv hlk rfl;have eF:=F1.stands Ik.toInv hdk rfl;have hbr:=run_beginRound (P:=P) jO (by rw[jF]);refine⟨_,hbr,?_⟩;have J2:=J1.turn jO rfl (by omega) (.loop {rec with state:=.busy});have Nb:=(Fk.trans Lk.base F1).turn (b:=w.heap.size+1) (by omega) (.loop {rec with state:=.busy});have hl2:(w1.putObj (w.heap.size+1) (.loop {rec with state:=.busy})).heap[w.heap.size+1]? =Z (.loop {rec with state:=.busy}):=World.putObj_heap_same (fG.1 jO).1;have hk2:(w1.putObj (w.heap.size+1) (.loop {rec with state:=.busy})).heap[w.heap.size]? =Z (.deferred (Z [])):=(World.putObj_heap_other (by omega)).trans eF;have Nc:∀b,fb b->b<(w1.putObj (w.heap.size+1) (.loop {rec with state:=.busy})).heap.size/\¬j8 γ1 s1.hp b/\ng b A (w1.putObj (w.heap.size+1) (.loop {rec with state:=.busy})):=λb hb=>by
        obtain⟨b1,b2,b3⟩:=Ij b hb;refine⟨by rw[World.putObj_size];exact vZ b1 F1.size,λho=>?_,λo=>?_,λo h1 h2=>?_⟩
        .rcases F1.own b ho with q |q
         .exact b3 q
         .omega
        .rw[yX (w:=w1) (World.putObj_heap_other (by omega))];exact M3 (F1.blk b b1 b3).2 o
        .exact(World.putObj_heap_other (by omega)).trans (F1.stands Ik.toInv h1 h2)
       have wE:A.heap.size<=(w1.putObj (w.heap.size+1) (.loop {rec with state:=.busy})).heap.size:=by rw[World.putObj_size];exact F1.size
       generalize w1.putObj (w.heap.size+1) (.loop {rec with state:=.busy})=w2 at J2 Nb hl2 hk2 Nc wE;have Nf:∀(j:Option Code) (γ3:Gh) (H3:Hp) (w3:World),γ1.le γ3->Frame γ1 s1.hp w2 γ3 H3 w3->bw W G γ3 H3 w3->∃w4,(Instr.endRound (w.heap.size+1) j).run P w3= .ok (.bool j.isNone) w4/\γ.le γ3/\Frame γ s.hp w γ3 H3 w4/\bw W G γ3 H3 w4/\w4.heap[w.heap.size+1]? =Z (.loop {rec with state:=if j.isNone then .ready else .done,pending:=j})/\w4.heap[w.heap.size]? =Z (.deferred (Z []))/\A.heap.size<=w4.heap.size/\∀b,fb b->(b<w4.heap.size/\w.heap.size+1<b/\¬j8 γ3 H3 b)/\ng b A w4:=by
        intro j γ3 H3 w3 L3 F3 J3;have D3:=F3.stands J2.toInv hl2 rfl;have hk3:=F3.stands J2.toInv hk2 rfl;have uE:=run_endRound (P:=P) j D3;exact⟨_,uE,Lk.trans (L1.trans L3),(Nb.trans (L1.base.trans Lk.base) F3).turn (by omega) _,J3.turn D3 rfl (by omega) _,World.putObj_heap_same (fG.1 D3).1,(World.putObj_heap_other (by omega)).trans hk3,by rw[World.putObj_size];exact fW wE F3.size,λb hb=>by
         obtain⟨_,b2,_⟩:=Ij b hb;obtain⟨c1,c2,c3⟩:=Nc b hb;refine⟨⟨by rw[World.putObj_size];exact vZ c1 F3.size,b2,λho=>?_⟩,λo=>?_,λo h1 h2=>?_⟩
         .rcases F3.own b ho with q |q
          .exact c2 q
          .omega
         .rw[yX (w:=w3) (World.putObj_heap_other (by omega)),<-c3.1 o];exact M3 (F3.blk b c1 c2).2 o
         .exact(World.putObj_heap_other (by omega)).trans (F3.stands J2.toInv (c3.2 o h1 h2) h2)⟩
       split at dA
       .rename_i s2 Ng;split at dA
        case isFalse=>cases dA
        rename_i hkb;have adY:∀i∈ids,s2.hp.bx[i]? =s.hp.bx[i]?:=λi hi=>aao (gV.1 hkb i hi);refine fD b' hb (ro:=Z (w.heap.size+1)) (fid:=fid) (mk:=Y) (df:=[]) gb (.inl nb) _ γ1 s1 a1 w2 .norm s2 (λ_ _ h=>h) Ng J2 E2 ke cO λγ3 a3 w3 L3 F3 J3 tA Bl E3=>?_;obtain⟨w4,q1,q2,q3,q4,q5,q6,q7,q8⟩:=Nf Y γ3 s2.hp w3 L3 F3 J3;refine⟨_,w4,q1,⟨q7,λb hb=>(q8 b hb).2⟩,.inl ⟨rfl,⟨s2.hp,γ3,adY,λb hb=>(q8 b hb).1,dA,q2,q3,q4,?_,q6⟩⟩⟩;rw[q5,jF];rfl
       .rename_i o s2 hno Ng;have uu:o=out/\s'.hp=s2.hp:=by
         simp only[bM,mr] at dA;exact⟨dA.1,by rw[<-dA.2]⟩
        obtain⟨rfl,hh⟩:=uu;refine fD b' hb (ro:=Z (w.heap.size+1)) (fid:=fid) (mk:=Y) (df:=[]) gb (.inl nb) _ γ1 s1 a1 w2 o s2 (λ_ _ h=>h) Ng J2 E2 ke cO λγ3 a3 w3 L3 F3 J3 tA=>?_;cases o with
        |norm=>exact(hno rfl).elim
        |exit id=>
         intro Bl E3;obtain⟨w4,q1,q2,q3,q4,q5,q6,q7,q8⟩:=Nf (Z (.exit id)) γ3 s2.hp w3 L3 F3 J3;exact⟨_,w4,q1,⟨q7,λb hb=>(q8 b hb).2⟩,.inr (.inl ⟨rfl,γ3,q2,by rw[hh];exact q3,by rw[hh];exact q4,q6,_,.inr ⟨id,rfl,rfl⟩,q5⟩)⟩
        |ret=>
         intro Bl E3;obtain⟨w4,q1,q2,q3,q4,q5,q6,q7,q8⟩:=Nf (Z .ret) γ3 s2.hp w3 L3 F3 J3;exact⟨_,w4,q1,⟨q7,λb hb=>(q8 b hb).2⟩,.inr (.inl ⟨rfl,γ3,q2,by rw[hh];exact q3,by rw[hh];exact q4,q6,_,.inl ⟨rfl,rfl⟩,q5⟩)⟩
        |bN d=>
         intro Bl E3 v V;exact⟨tA,⟨fW wE F3.size,λb hb=>by
          obtain⟨c1,c2,c3⟩:=Nc b hb;exact⟨λo=>by rw[<-c3.1 o];exact M3 (F3.blk b c1 c2).2 o,λo h1 h2=>F3.stands J2.toInv (c3.2 o h1 h2) h2⟩⟩,.inr (.inr ⟨_,rfl,γ3,Lk.trans (L1.trans L3),by rw[hh];exact Nb.trans (L1.base.trans Lk.base) F3,by rw[hh];exact J3,F3.stands J2.toInv hk2 rfl,d,v,rfl,rfl,V⟩)⟩
       .cases dA
      .cases dA
     have jB:=hseq (w.heap.size+1) _ (Na W G γ s.hp w (out,s') rec) W1 uX
      (λk fb A hj=>by
       obtain⟨Hk,γk,qk,_,_,q2,_,q4,_⟩:=hj;exact⟨γk,Hk,q2,q4,qk⟩)
      (λk fb A B hj hb2=>by
       obtain⟨Hk,γk,qk,q0,q1,q2,q3,q4,q5,q6⟩:=hj;refine⟨Hk,γk,qk,λb hb=>?_,q1,q2,q3.below hb2,q4.below hb2,Ih hb2 q5,Ih hb2 q6⟩;rcases hb with hb |⟨hb,hb'⟩
       .obtain⟨c1,c2,c3⟩:=q0 b hb;exact⟨vZ c1 hb2.size,c2,c3⟩
       .have hlt:w.heap.size+1<A.heap.size:=(fG.1 q5).1;exact⟨hb',by omega,λho=>by have:=q4.toInv.aaB ho;omega⟩)
      (λk fb A b o o' hj hb ho hpl=>by
       obtain⟨Hk,γk,qk,q0,q1,q2,q3,q4,q5,q6⟩:=hj;obtain⟨c1,c2,c3⟩:=q0 b hb;exact⟨Hk,γk,qk,λb' hb'=>by rw[World.putObj_size];exact q0 b' hb',q1,q2,q3.turn (by omega) o',q4.turn ho hpl (by omega) o',(World.putObj_heap_other (by omega)).trans q5,(World.putObj_heap_other (by omega)).trans q6⟩)
      (λe A B hx hb2=>by
       obtain⟨γ',q2,q3,q4,q5,q6⟩:=hx;refine⟨γ',q2,q3.below hb2,q4.below hb2,Ih hb2 q5,?_⟩;cases e with
       |returned v=>obtain⟨j,h1,h2⟩:=q6;exact⟨j,h1,Ih hb2 h2⟩
       |panicked ch=>exact q6
       |outgrown=>exact q6)
      (λe A b o o' hx hb ho hpl=>by
       have hb':w.heap.size+2<=b:=by rw[<-hW1] at hb;simpa using hb
       obtain⟨γ',q2,q3,q4,q5,q6⟩:=hx;refine⟨γ',q2,q3.turn (by omega) o',q4.turn ho hpl (by omega) o',(World.putObj_heap_other (by omega)).trans q5,?_⟩;cases e with
       |returned v=>obtain⟨j,h1,h2⟩:=q6;exact⟨j,h1,(World.putObj_heap_other (by omega)).trans h2⟩
       |panicked ch=>exact q6
       |outgrown=>exact q6)
      adV ⟨s.hp,γ,λ_ _=>rfl,λ_ h=>h.elim,he,.refl γ,(Frame.refl γ s.hp w).below uX,I.below uX,hL1,hK1⟩
     have jB:=qK.1 jB;refine TS hgv rR ?_;rw[<-jF,hW1];refine jB.mono ?_
     -- behind the call
     have fin:∀(γ':Gh) (H':Hp) (B:World) (rc:Loop),γ.le γ'->Frame γ s.hp w γ' H' B->bw W G γ' H' B->B.heap[w.heap.size+1]? =Z (.loop rc)->B.heap[w.heap.size]? =Z (.deferred (Z []))->rc.state≠.busy->
         ∃w4,(Instr.endLoop (w.heap.size+1)).run P B= .ok rc.pending w4/\Frame γ s.hp w γ' H' w4/\bw W G γ' H' w4/\wN (Z B0) df (mark w.heap.size::a.defers) w4:=by
      intro γ' H' B rc L F J hl hk hst;have F4:=F.turn (b:=w.heap.size+1) (by omega) (.loop {rc with state:=.exhausted});refine⟨_,run_endLoop (P:=P) hl hst,F4,J.turn hl rfl (by omega) _,?_⟩;obtain⟨h0,ms,h1,h2,h3⟩:=hd.keep I.toInv F4 rfl;refine⟨h0,w.heap.size::ms,by rw[h1];rfl,?_,λm hm=>?_⟩
      .refine tW.2 ⟨λhm=>?_,h2⟩;obtain⟨_,D4,g1,g2,g3⟩:=hd;have :D4=ms:=by
        have e:=g1.symm.trans h1;have e2:D4.map mark=ms.map mark:=aoF e;exact(Z7 (λx y lG=>by simpa[mark] using lG)).1 e2
       rw[<-this] at hm;have:=(fG.1 (g3 _ hm).2).1;omega
      .rcases cq.1 hm with rfl |hm
       .exact⟨hd.1,(World.putObj_heap_other (by omega)).trans hk⟩
       .exact h3 m hm
     rintro e B (⟨⟨v,rfl⟩,hj |hx⟩ |⟨ch,rfl,hx⟩)
     .obtain⟨fb,Hk,γk,_,_,q1,q2,q3,q4,q5,q6⟩:=hj;rw[C0] at q1;simp only[kE,bM,mr] at q1;obtain⟨rfl,rfl⟩:=q1;obtain⟨w4,e1,e2,e3,e4⟩:=fin γk Hk B rec q2 q3 q4 q5 q6 (by rw[jF];simp);refine⟨Y,w4,by rw[e1,jF],?_⟩;exact hp γk {a with defers:=mark w.heap.size::a.defers} w4 q2 e2 e3 e4 hn (E.mono q2)
     .obtain⟨γ',q2,q3,q4,q5,j,hj,q6⟩:=hx;obtain⟨w4,e1,e2,e3,e4⟩:=fin γ' s'.hp B _ q2 q3 q4 q6 q5 (by simp);refine⟨Z j,w4,e1,?_⟩;have Il:s'.env=s.env:=by
       have key:∀(kb:Hp->Bool) (xs:List (List D)) (H:Hp),kE (aq c G it a') (aq c G it b') s.env ps.toList kb xs H=Z (out,s')->s'.env=s.env:=by
        intro kb xs
        induction xs with
        |nil=>intro H h;cases h;rfl
        |cons z xs ih=>
         intro H h;simp only[kE] at h;split at h
         .cases h
         .split at h
          .split at h
           .split at h
            .exact ih _ h
            .cases h
           .cases h;rfl
           .cases h
          .cases h
       exact key _ _ _ he
      have T9:=hp γ' {a with defers:=mark w.heap.size::a.defers} w4 q2 e2 e3 e4;rcases hj with⟨ho,rfl⟩ |⟨id,ho,rfl⟩
      .have ho:out= .ret:=ho;subst ho;exact o7 (wpIn_ret (T9 hn (by rw[Il];exact E.mono q2)))
      .have ho:out= .exit id:=ho;subst ho;exact o7 (wpIn_exit (T9 hn (by rw[Il];exact E.mono q2)))
     .obtain⟨γ',q2,q3,q4,q5,d,v,ho,rfl,V⟩:=hx;have ho:out= .bN d:=ho;subst ho;have Il:s'.env=s.env:=by
       have key:∀(kb:Hp->Bool) (xs:List (List D)) (H:Hp),kE (aq c G it a') (aq c G it b') s.env ps.toList kb xs H=Z (.bN d,s')->s'.env=s.env:=by
        intro kb xs
        induction xs with
        |nil=>intro H h;cases h
        |cons z xs ih=>
         intro H h;simp only[kE] at h;split at h
         .cases h
         .split at h
          .split at h
           .split at h
            .exact ih _ h
            .cases h
           .cases h;rfl
           .cases h
          .cases h
       exact key _ _ _ he
      obtain⟨h0,ms,h1,h2,h3⟩:=hd.keep I.toInv q3 rfl;have hdd:wN (Z B0) df (mark w.heap.size::a.defers) B:=by
       refine⟨h0,w.heap.size::ms,by rw[h1];rfl,?_,λm hm=>?_⟩
       .refine tW.2 ⟨λhm=>?_,h2⟩;obtain⟨_,D4,g1,g2,g3⟩:=hd;have :D4=ms:=by
         have e:=g1.symm.trans h1;have e2:D4.map mark=ms.map mark:=aoF e;exact(Z7 (λx y lG=>by simpa[mark] using lG)).1 e2
        rw[<-this] at hm;have:=(fG.1 (g3 _ hm).2).1;omega
       .rcases cq.1 hm with rfl |hm
        .exact⟨hd.1,q5⟩
        .exact h3 m hm
      exact hp γ' {a with defers:=mark w.heap.size::a.defers} B q2 q3 q4 hdd hn (by rw[Il];exact E.mono q2) v V
    .cases qC
   .cases qC
  .cases he
 case case12 st e z b cd hs ih=>
  obtain⟨b',hb,rfl⟩:=ak.1 h;simp only[aq] at he;split at he
  .rename_i s1 h1;split at h1
   .rename_i d H1 ht;cases h1;obtain⟨γ1,L,F,J0,V⟩:=TU I.toInv ht (E st);have J:=I.up L F J0;exact ih b' hb hG.2 (by simpa[SC.dg] using hr) Q γ1 _ a w out s' hQ he J (E.tok L V) hn hd (hp.later L F)
   .cases h1
  .rename_i hne;cases ht:pV e z (s.env.get st) s.hp with
   |none=>rw[ht] at he;cases he
   |some dh=>exact(hne _ (by rw[ht])).elim
 case case14 st off e z b cd hs ih=>
  obtain⟨b',hb,rfl⟩:=ak.1 h;simp only[aq] at he;split at he
  .rename_i s1 h1;obtain⟨s2,ht,heq⟩:=ak.1 h1;cases heq;obtain⟨γ1,L,F,J0,E'⟩:=adG I.toInv ht E;have J:=I.up L F J0;exact ih b' hb hG.2 (by simpa[SC.dg] using hr) Q γ1 _ a w out s' hQ he J E' hn hd (hp.later L F)
  .rename_i hne;obtain⟨s2,ht,heq⟩:=ak.1 he;exact(hne s2 (by rw[ht];rfl)).elim
 case case16 sa sb x y _ a' b' hb ha fC fD=>
  cases h;have hr1:a'.dg=true\/(ro=Y/\(∃B,mk=Z B)/\∃fnc,P.funcs[fid]? =Z fnc):=hr.imp (λq=>by simp only[SC.dg,bL] at q;exact q.1) id;have hr2:b'.dg=true\/(ro=Y/\(∃B,mk=Z B)/\∃fnc,P.funcs[fid]? =Z fnc):=hr.imp (λq=>by simp only[SC.dg,bL] at q;exact q.2) id;simp only[aq] at he;split at he
  .rename_i s1 h1;refine tz (fC a' ha hG.1 hr1 _ γ s a w .norm s1 hQ h1 I E hn hd λγ' a2 w2 L F J bO cE E'=>?_);exact fD b' hb hG.2 hr2 Q γ' s1 a2 w2 out s' hQ he J E' cE bO (hp.later L F)
  .rename_i hne;refine tz (fC a' ha hG.1 hr1 _ γ s a w out s' hQ he I E hn hd (hp.other λe a w hx q=>?_));cases out with
   |norm=>exact absurd he (hne s')
   |exit id=>cases hx;exact q
   |ret=>cases hx;exact q
   |bN d=>obtain⟨ch,rfl⟩:=hx;exact q
 case case18 _ sa sb cnd x y c' a' b' hb ha hc fC fD=>
  cases h;have hr1:a'.dg=true\/(ro=Y/\(∃B,mk=Z B)/\∃fnc,P.funcs[fid]? =Z fnc):=hr.imp (λq=>by simp only[SC.dg,bL] at q;exact q.1) id;have hr2:b'.dg=true\/(ro=Y/\(∃B,mk=Z B)/\∃fnc,P.funcs[fid]? =Z fnc):=hr.imp (λq=>by simp only[SC.dg,bL] at q;exact q.2) id;simp only[aq] at he;split at he
  .rename_i t hcv;have hr:=cg E hc;rw[hcv] at hr;have hv:=hr.cu.sX;refine adz hv ?_;cases t with
   |true=>exact fC a' ha hG.1 hr1 Q γ s a w out s' hQ he I E hn hd hp
   |false=>exact fD b' hb hG.2 hr2 Q γ s a w out s' hQ he I E hn hd hp
  .cases he
 case case20 _ sb id x ih=>
  obtain⟨b',hb,rfl⟩:=ak.1 h;simp only[aq] at he;split at he
  .rename_i i s1 h1;split at he
   .rename_i hi;cases he;refine yV (ih b' hb hG hr _ γ s a w _ _ hQ h1 I E hn hd λγ' a2 w2 L F J bO cE E'=>?_);simp only[Exit.inBlock,hi,if_true];exact hp γ' a2 w2 L F J bO cE E'
   .rename_i hi;cases he;refine yV (ih b' hb hG hr _ γ s a w _ _ hQ h1 I E hn hd λγ' a2 w2 L F J bO cE E'=>?_);simp only[Exit.inBlock,hi,if_false];exact hp γ' a2 w2 L F J bO cE E'
  .rename_i hne;refine yV (ih b' hb hG hr _ γ s a w out s' hQ he I E hn hd (hp.other λe a w hx q=>?_));cases out with
   |norm=>cases hx;exact q
   |exit id=>exact absurd he (hne id s')
   |ret=>cases hx;exact q
   |bN d=>obtain⟨ch,rfl⟩:=hx;exact q
 case case21 keep sb x ih=>
  obtain⟨b',hb,rfl⟩:=ak.1 h;simp only[aq] at he;obtain⟨m,hm⟩:=hit _ _ _ he;refine TN m λR h0 hS=>?_;clear he
  induction m generalizing γ s a w with
  |zero=>cases hm
  |succ m o6=>
   simp only[iter] at hm;split at hm
   .rename_i s1 h1;refine hS m a w (ih b' hb hG hr _ γ _ a w .norm s1 hQ h1 I (E.keep keep) hn hd λγ' a2 w2 L F J bO cE E'=>?_);exact o6 γ' s1 a2 w2 J E' cE bO (hp.later L F) hm
   .rename_i hne;refine hS m a w (ih b' hb hG hr _ γ _ a w out s' hQ hm I (E.keep keep) hn hd (hp.other λe a w hx q=>?_));cases out with
    |norm=>exact absurd hm (hne s')
    |exit id=>cases hx;exact q
    |ret=>cases hx;exact q
    |bN d=>obtain⟨ch,rfl⟩:=hx;exact q
 case case22 sb x ih=>
  obtain⟨b',hb,rfl⟩:=ak.1 h;simp only[aq] at he;refine adC (ih b' hb hG hr _ γ s a w out s' hQ he I E hn hd (hp.other λe a w hx q=>?_));cases out with
  |norm=>cases hx;exact q
  |exit id=>cases hx;exact q
  |ret=>cases hx;exact q
  |bN d=>obtain⟨ch,rfl⟩:=hx;exact q
 case case23 id _=>
  cases h;simp only[aq] at he;cases he;exact o7 (wpIn_exit (hp γ a w (.refl γ) (.refl γ _ w) I hd hn E))
 case case24=>
  cases h;simp only[aq] at he;cases he;exact o7 (wpIn_ret (hp γ a w (.refl γ) (.refl γ _ w) I hd hn E))
 case case25 b cd ih=>
  obtain⟨b',hb,rfl⟩:=ak.1 h;simp only[aq] at he;obtain⟨x,hx,heq⟩:=ak.1 he;have h1:out=(bX (O s.hp.bx) (O s.hp.tk) (wx (O s.hp.bx) x)).1:=by rw[heq]
  have h2:s'=(bX (O s.hp.bx) (O s.hp.tk) (wx (O s.hp.bx) x)).2:=by rw[heq]
  rw[h1,h2] at hp;exact ih b' hb hG hr Q γ s a w x.1 x.2 hQ hx I E hn hd (adP I (TY I hp))
 case case26=>
  cases h;simp only[aq] at he;cases he
 all_goals cases h
theorem adZ{cd:Code}{a:Act}(h:∀fid,gm Y fid P cd Q a w):cd.wp P Q a w:=
 (wpIn_wide (n:=0)).1 λb k cs hb _ _=>h b.fn b k cs hb rfl
theorem D5{c:br}(S:Sound P W G c)(hm:P.follows .mixedOrders=true)(hit:∀b s r,it b s=Z r->∃m,iter b m s=Z r)
    (sc:SC) (cd:Code) (jQ:SC) (h:dR P nt sc cd=Z jQ) (hN:jQ.dg=true) (Q:Exit->Act->World->Prop) (γ:Gh) (s:St) (a:Act) (w:World) (out:Out) (s':St) (hQ:∀a w,¬Q .outgrown a w) (he:aq c G it jQ s=Z (out,s'))
    (I:bw W G γ s.hp w) (E:aW γ s.env a.tmps) (hn:a.tmps.size=nt) (hd:a.defers=df) (hp:Post W G nt Y df Q γ s.hp w out s'):cd.wp P Q a w:=
 adZ λfid=>D2 S hm hit sc cd jQ h (ro:=Y) (fid:=fid) (mk:=Y) (df:=df) (SC.r7 hN) (.inl hN) Q γ s a w out s' hQ he I E hn hd hp

end Go.Vs

namespace Go.Vs

variable{a:Act}{tmps vs:Array Value}{R:Ending->World->Prop}{env:Env}{Q:Exit->Act->List Go.Frame->World->Prop}{fc:FC}{fn:Func}{γ:Gh}{H H':Hp}{it:It}{ds:List D}{cs:List Go.Frame}{f:Nat}{x:Option (Out×St)}{r r':bR}{t:TypeId}{w:World}
variable{P : Program} {W : World} {G : Nat -> Option (List PD)}   
theorem Nh{n:Option Nat}(ht:lU P t=Z n){b base off:Nat}{f:Nat->Value}(hcell:∀j,j<O ds->w.cell? ⟨b,base+j,Y⟩=Z (f j))
    (hr:∀j d,ds[j]? =Z d->aB γ (f j) d) (h1:∀d∈ds,d.one=true) {d:D} (hd:cutAt ds off n id cX=Z d):∃v,(loadVar t ⟨b,base+off,Y⟩).run P w= .ok v w/\aB γ v d:=by
 unfold cutAt at hd;split at hd
 .obtain⟨d',bO,hh⟩:=ak.1 hd;cases hh;have hlt:off<O ds:=(af.1 bO).1;have q:=GX (P:=P) (w:=w) ht (b:=b) (off:=base+off) (f:=λj=>f (off+j)) (λj hj=>by
   rw[wb];exact hcell (off+j) (by simp at hj;omega))
  exact⟨_,q,hr _ _ bO⟩
 .rename_i k;split at hd
  .rename_i hk;cases hd;have q:=GX (P:=P) (w:=w) ht (b:=b) (off:=base+off) (f:=λj=>f (off+j)) (λj hj=>by
    simp only[mq] at hj;rw[wb];exact hcell (off+j) (by omega))
   exact⟨_,q,Di (R9 hk λj d hj hd=>hr _ _ hd) (λd hd=>h1 d (A2 hd))⟩
  .cases hd
theorem ad0(I:Inv G γ H w){n:Option Nat}(ht:lU P t=Z n){v0:Value}{d0:D}(hv:aB γ v0 d0){d:D}(hd:pU G H n d0=Z d):
    ∃ad v,v0= .pointer (Z ad)/\(loadVar t ad).run P w= .ok v w/\aB γ v d:=by
 unfold pU at hd;split at hd
 .rename_i i off;split at hd
  .rename_i cs hcs;split at hd
   .cases hd
   rename_i hm;have hm:ay cs=false:=by simpa using hm
   cases hv with
   |box _ _ b hb=>
    obtain⟨vs,T,fr,q1,q2,q3,_⟩:=I.box i b cs hb hcs;rw[iu hm] at q1;have q3:=q3 hm;obtain⟨v,h1,h2⟩:=Nh (P:=P) (w:=w) ht (b:=b) (base:=0) (off:=off) (ds:=cs) (f:=λj=>vs.getD j undef) (λj hj=>by
     have hj':j<vs.size:=by have:=q2.1;omega
     simp[World.cell?,q1,hj',bP]) q2.2 q3 hd
    rw[ez] at h1;exact⟨_,v,rfl,h1,h2⟩
  .cases hd
 .rename_i cs off;cases hv with
  |ro b base _ _ vs hm hr=>
   obtain⟨v,h1,h2⟩:=Nh (P:=P) (w:=w) ht (b:=b) (base:=base) (off:=off) (ds:=cs.map .p) (f:=vs) (λj hj=>I.mem _ _ _ (hm j (by simpa using hj))) (λj d hd=>by
    simp only[cG,ak] at hd;obtain⟨z,hz,rfl⟩:=hd;exact .p _ _ (hr j z hz).1) (λd hd=>by
    obtain⟨z,hz,rfl⟩:=cA.1 hd;obtain⟨j,hj⟩:=dV hz;exact(hr j z hj).2) (A0 hd)
   exact⟨_,v,rfl,h1,h2⟩
 .rename_i g off;split at hd
  .rename_i cs hcs;cases hv with
   |eB _ _=>
    have hg:=I.jv g cs hcs;obtain⟨v,h1,h2⟩:=Nh (P:=P) (w:=w) ht (b:=g) (base:=0) (off:=off) (ds:=cs.map .p) (f:=λj=>(γ.mem g j).getD undef) (λj hj=>by
     have hj:j<O cs:=by simpa using hj
     obtain⟨_,v,q1,q2⟩:=hg j _ (aD hj);rw[q1];simp only[ez,mq];exact I.mem _ _ _ q1) (λj d hd=>by
     simp only[cG,ak] at hd;obtain⟨z,hz,rfl⟩:=hd;obtain⟨_,v,q1,q2⟩:=hg j z hz;rw[q1];exact .p _ _ q2) (λd hd=>by
     obtain⟨z,hz,rfl⟩:=cA.1 hd;obtain⟨j,hj⟩:=dV hz;exact(hg j z hj).1) (A0 hd)
    rw[ez] at h1;exact⟨_,v,rfl,h1,h2⟩
  .cases hd
 .cases hd
def uY(P:Program):ResultVar->Option pS
 | .tmp t=>Z (.t t)
 | .cell a t=>(lU P t).map (.cell a)
def D6(tmps:Array Value):ResultVar->Sem Value
 | .tmp t=>pure (tmps.getD t undef)
 | .cell a t=>do loadVar t (<-asAddr (tmps.getD a undef))
theorem ad1(I:Inv G γ H w)(E:aW γ env tmps){rv:ResultVar}{r:pS}(h:uY P rv=Z r){d:D}(hd:rJ G env H r=Z d):
    ∃v,(D6 tmps rv).run P w= .ok v w/\aB γ v d:=by
 cases rv with
 |tmp t=>
  cases h;cases hd;exact⟨_,rfl,E t⟩
 |cell a t=>
  obtain⟨n,hn,rfl⟩:=ak.1 h;simp only[rJ] at hd;obtain⟨ad,v,h1,h2,h3⟩:=ad0 (P:=P) I hn (E a) hd;refine⟨v,?_,h3⟩;simp only[D6,h1,asAddr,Sem.run_bind,Sem.run_pure,Result.andThen_ok,h2]
theorem Im(I:Inv G γ H w){env:Env}{tmps:Array Value}(E:aW γ env tmps):∀{Ni:List ResultVar} {rs:List pS},aH (uY P) Ni=Z rs->∀{ds:List D},aH (rJ G env H) rs=Z ds->
    ∃vs:List Value,(Ni.mapM (D6 tmps)).run P w= .ok vs w/\O vs=O ds/\∀(i:Nat) v d,vs[i]? =Z v->ds[i]? =Z d->aB γ v d
 |[],rs,h,ds,hd=>by
  simp only[aH,bM] at h;subst h;simp only[aH,bM] at hd;subst hd;exact⟨[],rfl,rfl,λi v d h=>by simp at h⟩
 |rv::Ni,rs,h,ds,hd=>by
  simp only[aH] at h;split at h
  .rename_i r hr;obtain⟨rs',uZ,rfl⟩:=ak.1 h;simp only[aH] at hd;split at hd
   .rename_i d cO;obtain⟨eL,oh,rfl⟩:=ak.1 hd;obtain⟨v,h1,h2⟩:=ad1 I E hr cO;obtain⟨vs,h3,h4,h5⟩:=Im I E uZ oh;refine⟨v::vs,?_,by simp[h4],λi u e hu he=>?_⟩
    .simp only[List.mapM_cons,Sem.run_bind,h1,Result.andThen_ok,h3,Sem.run_pure]
    .match i with
     | 0=>simp only[ey,bM] at hu he;subst hu;subst he;exact h2
     |i+1=>exact h5 i u e (by simpa using hu) (by simpa using he)
   .cases hd
  .cases h
theorem Ua(I:Inv G γ H w)(E:aW γ env tmps){rs:List pS}(h:aH (uY P) fn.results.toList=Z rs){d:D}(hd:mD G env H rs=Z d):
    ∃v,(results fn tmps).run P w= .ok v w/\aB γ v d:=by
 have hrun:∀vs,(fn.results.toList.mapM (D6 tmps)).run P w= .ok vs w->(results fn tmps).run P w= .ok (if h:vs.toArray.size=1 then vs.toArray[0] else .tuple vs.toArray) w:=by
  intro vs lT;have :results fn tmps=(fn.results.mapM (D6 tmps))>>=λvs=>pure (if h:vs.size=1 then vs[0] else .tuple vs):=rfl;rw[this,Array.mapM_eq_mapM_toList];simp only[Sem.run_bind,map_eq_pure_bind,lT,Result.andThen_ok,Sem.run_pure]
 unfold mD at hd;split at hd
 .cases hd;obtain⟨vs,h1,h2,_⟩:=Im I E h (ds:=[]) rfl;have hv:vs=[]:=CR.1 h2;subst hv;exact⟨_,hrun _ h1,aB.undef⟩
 .rename_i r;obtain⟨vs,h1,h2,h3⟩:=Im I E h (ds:=[d]) (by simp only[aH,hd,fy]);obtain⟨v,rfl⟩:=aoG.1 h2;exact⟨v,by simpa using hrun _ h1,h3 0 v d rfl rfl⟩
 .rename_i rs0 MA ot;obtain⟨ds,oh,rfl⟩:=ak.1 hd;obtain⟨vs,h1,h2,h3⟩:=Im I E h oh;have hl:O rs=O ds:=(Ic oh).1;have hne:¬vs.toArray.size=1:=by
   intro hs;simp at hs;rw[<-h2] at hl;rw[hs] at hl;obtain⟨r,hr⟩:=aoG.1 hl;exact ot r hr
  refine⟨.tuple vs.toArray,?_,?_⟩
  .have:=hrun _ h1;rw[dif_neg hne] at this;exact this
  .refine .ba _ _ (by simpa using h2) λi d hd=>?_;have hi:i<O vs:=by rw[h2];exact(af.1 hd).1
   have:=h3 i vs[i] d (aD hi) hd;simpa[bP,hi] using this
def spine:Code->List Code
 | .seq a b=>spine a++spine b
 |c=>[c]
def D7(P:Program):List Code->(Exit->Act->World->Prop)->Act->World->Prop
 |[],Q,a,w=>Q .normal a w
 |c::r,Q,a,w=>c.wp P (Exit.then (D7 P r Q) Q) a w
def wP(P:Program):List Code->(Exit->Act->List Go.Frame->World->Prop)->Act->List Go.Frame->World->Prop
 |[],Q,a,cs,w=>Q .normal a cs w
 |c::r,Q,a,cs,w=>c.wpS P (Exit.thenS (wP P r Q) Q) a cs w
theorem Nj{c:Code}{Q':Exit->Act->List Go.Frame->World->Prop}(h:c.wpS P Q a cs w)(hq:∀e a cs w,Q e a cs w->Q' e a cs w):c.wpS P Q' a cs w:=
 λb k h1 h2=>let⟨e,a',cs',w',q,r⟩:=h b k h1 h2;⟨e,a',cs',w',hq _ _ _ _ q,r⟩
theorem Ub:∀(x y:List Code) (Q:Exit->Act->List Go.Frame->World->Prop) (a:Act) (cs:List Go.Frame) (w:World),wP P (x++y) Q a cs w->wP P x (Exit.thenS (wP P y Q) Q) a cs w
 |[],y,Q,a,cs,w,h=>h
 |c::x,y,Q,a,cs,w,h=>by
  refine Nj (P:=P) h λe a cs w q=>?_;cases e with
  |normal=>exact Ub x y Q a cs w q
  |_=>exact q
theorem Uc:∀(x:List Code) {Q Q':Exit->Act->List Go.Frame->World->Prop} {a:Act} {cs:List Go.Frame} {w:World},wP P x Q a cs w->(∀e a cs w,Q e a cs w->Q' e a cs w)->wP P x Q' a cs w
 |[],Q,Q',a,cs,w,h,k=>k _ _ _ _ h
 |c::x,Q,Q',a,cs,w,h,k=>by
  refine Nj (P:=P) h λe a cs w q=>?_;cases e with
  |normal=>exact Uc x q k
  |_=>exact k _ _ _ _ q
theorem ad3:∀(c:Code) {Q:Exit->Act->List Go.Frame->World->Prop} {a:Act} {cs:List Go.Frame} {w:World},wP P (spine c) Q a cs w->c.wpS P Q a cs w:=by
 intro c
 induction c with
 |seq x y Nk Nl=>
  intro Q a cs w h;refine wpS_seq (Nk (Uc (spine x) (Ub (spine x) (spine y) Q a cs w h) λe a cs w q=>?_));cases e with
  |normal=>exact Nl q
  |_=>exact q
 |_=>
  intro Q a cs w h;refine Nj (P:=P) h λe a cs w q=>?_;cases e with
  |normal=>exact q
  |_=>exact q
theorem Ud:∀(x:List Code) {Q:Exit->Act->List Go.Frame->World->Prop} {a:Act} {cs:List Go.Frame} {w:World},D7 P x (λe a w=>Q e a cs w) a w->wP P x Q a cs w
 |[],Q,a,cs,w,h=>h
 |c::x,Q,a,cs,w,h=>by
  refine wpS_of_wp (wp_mono (P:=P) h λe a w q=>?_);cases e with
  |normal=>exact Ud x q
  |_=>exact q
theorem ad4{id:Nat}{ops:Array Oper}{o:Oper}{l:List Oper}(ho:ops.toList=o::l)(hg:o.guard=Y){b:Builtin}(hb:b= .recover){as:Array Operand}{ts:Array TypeId}(hop:o.op= .call {callee:=.builtin b,args:=as,argTypes:=ts})
       
    (h:∀v cs',(recoverD cs=Z (v,cs')\/(recoverD cs=Y/\v= .nilIface/\cs'=cs))->wpList P ops (λe a w=>Q e a cs' w) l (a.put o.dst v) w):(Code.region id ops false).wpS P Q a cs w:=by
 intro b' k hk hro;have hsz:ops.size=O l+1:=by rw[<-qq,ho];rfl
 have h0:ops[0]? =Z o:=by rw[<-CQ,ho];rfl
 have ad6:∀j,l[j]? =ops[1+j]?:=λj=>by rw[<-CQ,ho,CT];rfl
 have ad7:j3 ops.size=0::xX 1 (O l):=by
  rw[hsz,List.range_eq_range'];rfl
 have hw:Region.wanted o (yielded ops a.tmps)=true:=by simp[Region.wanted,hg]
 have hrun:(execOp a.eval o).run P w= .ok .recover w:=by
  subst hb;simp[execOp,hop,resolve,invoke,builtin]
 have hgo:=stepG_op (P:=P) (b:=b') (k:=k) (cs:=cs) (w:=w) (rest:=xX 1 (O l)) h0 hw;have fu:∀v,(b'.at a (.inRegion ops (0::xX 1 (O l))::k)).finish v=b'.at (a.put o.dst v) (.inRegion ops (xX 1 (O l))::k):=by
  intro v;rw[Go.Frame.finish_at,h0];rfl
 have Io:=tryRecover_deferred (fr:=b'.at a (.inRegion ops (0::xX 1 (O l))::k)) hk cs;obtain⟨v,cs',jF,hstep⟩:∃v cs',(recoverD cs=Z (v,cs')\/(recoverD cs=Y/\v= .nilIface/\cs'=cs))/\
     step P (lone (b'.at a (.inRegion ops (0::xX 1 (O l))::k)) cs w)= .next (lone (b'.at (a.put o.dst v) (.inRegion ops (xX 1 (O l))::k)) cs' w):=by
  cases hr:recoverD cs with
  |some x=>
   obtain⟨v,cs'⟩:=x;refine⟨v,cs',.inl rfl,step_lone_go ?_⟩;rw[hgo,<-fu];simp only[Go.Frame.at] at Io|-;simp[stepG.apply,hrun,Io,hr]
  |none=>
   refine⟨.nilIface,cs,.inr ⟨rfl,rfl,rfl⟩,step_lone_go ?_⟩;rw[hgo,<-fu];simp only[Go.Frame.at] at Io|-;simp[stepG.apply,hrun,Io,hr]
 have hl:=h v cs' jF;rw[<-wpOps_eq_wpList l 1 ad6] at hl;obtain⟨e,a',w',q,r⟩:=wp_ops _ _ _ hl b' k cs';refine⟨e,a',cs',w',q,.of_steps (.head step_region ?_) r⟩;rw[ad7];exact .one hstep
def Ip(P:Program)(nt:Nat):List SC->List Code->Option (List SC)
 |[],[]=>Z []
 |s::r,c::cr=>match dR P nt s c,Ip P nt r cr with
  |some a,Z b=>Z (a::b)
  |_,_=>Y
 |_,_=>Y
def yY(P:Program)(nt:Nat):SC->List Code->Option SC
 | .seq a b,c::d::r=>match dR P nt a c,yY P nt b (d::r) with
  |some x,Z y=>Z (.seq x y)
  |_,_=>Y
 |s,[c]=>dR P nt s c
 |_,_=>Y
theorem Nn{c:br}(S:Sound P W G c)(hm:P.follows .mixedOrders=true){it:It}(hit:∀b s r,it b s=Z r->∃m,iter b m s=Z r){nt:Nat}{df:List Deferred}:
    ∀(l:List SC) (cd:List Code) (l':List SC),Ip P nt l cd=Z l'->l'.all SC.dg=true->∀(Q:Exit->Act->World->Prop) (γ:Gh) (s:St) (a:Act) (w:World) (out:Out) (s':St),(∀a w,¬Q .outgrown a w)->oN c G it l' s=Z (out,s')->
     bw W G γ s.hp w->aW γ s.env a.tmps->a.tmps.size=nt->a.defers=df->Post W G nt Y df Q γ s.hp w out s'->D7 P cd Q a w
 |[],[],l',h,_,Q,γ,s,a,w,out,s',_,he,I,E,hn,hd,hp=>by
  cases h;simp only[oN] at he;cases he;exact hp γ a w (.refl γ) (.refl γ _ w) I hd hn E
 |x::l,y::cd,l',h,hN,Q,γ,s,a,w,out,s',hQ,he,I,E,hn,hd,hp=>by
  simp only[Ip] at h;split at h
  .rename_i x' r' hx hr;cases h;simp only[List.all_cons,bL] at hN;simp only[oN] at he;split at he
   .rename_i s1 h1;refine D5 S hm hit x y x' hx hN.1 _ γ s a w .norm s1 hQ h1 I E hn hd λγ' a2 w2 L F J bO cE E'=>?_;exact Nn S hm hit l cd r' hr hN.2 Q γ' s1 a2 w2 out s' hQ he J E' cE bO (hp.later L F)
   .rename_i hne;refine D5 S hm hit x y x' hx hN.1 _ γ s a w out s' hQ he I E hn hd (hp.other λe a w hx q=>?_);cases out with
    |norm=>exact absurd he (hne s')
    |exit id=>cases hx;exact q
    |ret=>cases hx;exact q
    |bN d=>obtain⟨ch,rfl⟩:=hx;exact q
  .cases h
 |[],_::_,l',h,_,Q,γ,s,a,w,out,s',_,he,I,E,hn,hd,hp=>by cases h
 |_::_,[],l',h,_,Q,γ,s,a,w,out,s',_,he,I,E,hn,hd,hp=>by cases h
theorem ad8{c:br}(S:Sound P W G c)(hm:P.follows .mixedOrders=true)(hit:∀b s r,it b s=Z r->∃m,iter b m s=Z r){nt:Nat}{df:List Deferred}(sc:SC)(cd:List Code):
    ∀(jQ:SC),yY P nt sc cd=Z jQ->jQ.dg=true->∀(Q:Exit->Act->World->Prop) (γ:Gh) (s:St) (a:Act) (w:World) (out:Out) (s':St),(∀a w,¬Q .outgrown a w)->aq c G it jQ s=Z (out,s')->
     bw W G γ s.hp w->aW γ s.env a.tmps->a.tmps.size=nt->a.defers=df->Post W G nt Y df Q γ s.hp w out s'->D7 P cd Q a w:=by
 fun_induction yY P nt sc cd
 all_goals (intro jQ h hN Q γ s a w out s' hQ he I E hn hd hp)
 case case1 x y c0 d r x' y' hy hx ih=>
  cases h;simp only[SC.dg,bL] at hN;simp only[aq] at he;split at he
  .rename_i s1 h1;refine D5 S hm hit x c0 x' hx hN.1 _ γ s a w .norm s1 hQ h1 I E hn hd λγ' a2 w2 L F J bO cE E'=>?_;exact ih y' hy hN.2 Q γ' s1 a2 w2 out s' hQ he J E' cE bO (hp.later L F)
  .rename_i hne;refine D5 S hm hit x c0 x' hx hN.1 _ γ s a w out s' hQ he I E hn hd (hp.other λe a w hx q=>?_);cases out with
   |norm=>exact absurd he (hne s')
   |exit id=>cases hx;exact q
   |ret=>cases hx;exact q
   |bN d=>obtain⟨ch,rfl⟩:=hx;exact q
 case case3=>
  refine D5 S hm hit _ _ jQ h hN _ γ s a w out s' hQ he I E hn hd (hp.other λe a w hx q=>?_);cases e<;>exact q
 all_goals cases h
def Np(P:Program)(nt:Nat)(x:Gi)(body:SC)(c:Code):Option (Gi×SC):=
 match(spine c).drop (O x.pre) with
 | .region _ ops false::rest=>match ops.back? with
  |some o=>match o.op,o.guard with
   | .defer ⟨.value f,as,_⟩,Y=>
    match Ip P nt x.pre ((spine c).take (O x.pre)),Ia P nt ops (x.ops++[⟨Y,.stuck,Y⟩]),aL f,aH aL as.toList,yY P nt body rest with
    |some pre,Z sl,Z f',Z as',Z b=>if o.dst.isNone then Z (⟨pre,x.keep,sl.dropLast,f',as'⟩,b) else Y
    |_,_,_,_,_=>Y
   |_,_=>Y
  |none=>Y
 |_=>Y
def FC.dg(fc:FC):Bool:=fc.body.dg&&(match fc.gW with |none=>true |some x=>x.pre.all SC.dg)
structure FOk0 (P:Program) (f:Nat) (fc:FC):Prop where
 ex:∃fn c,P.funcs[f]? =Z fn/\(fn.name== "runtime.NumGoroutine")=false/\fn.body=Z c/\fn.ntmps=fc.nt/\fc.np<=fc.nt/\aH (uY P) fn.results.toList=Z fc.res/\
  (match fc.gW with |none=>∃sk,dR P fc.nt sk c=Z fc.body |some x=>Np P fc.nt x fc.body c=Z (x,fc.body))
structure wQ (P:Program) (f:Nat) (fc:FC):Prop extends FOk0 P f fc where
 nr:fc.dg=true
def D8(P:Program)(fn:Func)(fc:FC):Option FC:=
 if fn.name== "runtime.NumGoroutine" then Y else
 match fn.body,aH (uY P) fn.results.toList with
 |some c,Z res=>if fn.ntmps=fc.nt/\fc.np<=fc.nt then(match fc.gW with
  |none=>(dR P fc.nt fc.body c).map λb=>⟨fc.nt,fc.np,res,b,fc.av,Y⟩
  |some x=>(Np P fc.nt x fc.body c).map λy=>⟨fc.nt,fc.np,res,y.2,fc.av,Z y.1⟩) else Y
 |_,_=>Y
def Ue(P:Program)(fn:Func)(fc:FC):Option FC:=if fc.dg then D8 P fn fc else Y
theorem FOk0.of(hf:P.funcs[f]? =Z fn)(h:D8 P fn fc=Z fc):FOk0 P f fc:=by
 unfold D8 at h;split at h
 .cases h
 .rename_i hn;split at h
  .rename_i c res hb hres;split at h
   .rename_i hc;cases hd:fc.gW with
    |none=>
     rw[hd] at h;obtain⟨b,hb',heq⟩:=ak.1 h;have e1:res=fc.res:=congrArg FC.res heq;have e2:b=fc.body:=congrArg FC.body heq;exact⟨fn,c,hf,by simpa using hn,hb,hc.1,hc.2,by rw[hres,e1],by rw[hd];dsimp only;exact⟨fc.body,by rw[hb',e2]⟩⟩
    |some x=>
     rw[hd] at h;obtain⟨y,hb',heq⟩:=ak.1 h;have e1:res=fc.res:=congrArg FC.res heq;have e2:y.2=fc.body:=congrArg FC.body heq;have e3:Z y.1=Z x:=by rw[<-hd];exact congrArg FC.gW heq
     cases e3;exact⟨fn,c,hf,by simpa using hn,hb,hc.1,hc.2,by rw[hres,e1],by rw[hd];dsimp only;rw[hb',<-e2]⟩
   .cases h
  .cases h
theorem FOk0.made{sk:FC}(hf:P.funcs[f]? =Z fn)(hsk:sk.gW=Y)(h:D8 P fn sk=Z fc):FOk0 P f fc:=by
 unfold D8 at h;split at h
 .cases h
 .rename_i hn;split at h
  .rename_i c res hb hres;split at h
   .rename_i hc;rw[hsk] at h;obtain⟨b,hb',heq⟩:=ak.1 h;subst heq;exact⟨fn,c,hf,by simpa using hn,hb,hc.1,hc.2,hres,⟨sk.body,hb'⟩⟩
   .cases h
  .cases h
theorem wQ.of(hf:P.funcs[f]? =Z fn)(h:Ue P fn fc=Z fc):wQ P f fc:=by
 unfold Ue at h;split at h
 .rename_i hr;exact⟨FOk0.of hf h,hr⟩
 .cases h
def Nq(P:Program)(nt dst:Nat)(sc:SC)(c:Code):Option SC:=
 match sc,spine c with
 | .seq (.region keep hs) b,.region _ ops false::d::rest=>match ops.toList with
  |o::l=>match o.op,o.guard with
   | .call ⟨.builtin .recover,_,_⟩,Y=>match Bj P nt ops l hs.tail,yY P nt b (d::rest) with
    |some sl,Z b'=>if o.dst=Z dst/\dst<nt/\(ops.toList.all λx=>match x.dst with |some t=>decide (t<nt) |none=>true)=true then Z (.seq (.region keep (⟨Z dst,.move (.t dst),Y⟩::sl)) b') else Y
    |_,_=>Y
   |_,_=>Y
  |[]=>Y
 |_,_=>Y
structure wR (P:Program) (f dst:Nat) (fc:FC):Prop where
 ex:∃fn c,P.funcs[f]? =Z fn/\(fn.name== "runtime.NumGoroutine")=false/\fn.body=Z c/\fn.ntmps=fc.nt/\fc.np<=fc.nt/\aH (uY P) fn.results.toList=Z fc.res/\Nq P fc.nt dst fc.body c=Z fc.body
 nr:fc.body.dg=true
def Uf(P:Program)(fn:Func)(dst:Nat)(fc:FC):Option FC:=
 if fn.name== "runtime.NumGoroutine" then Y else
 match fn.body,aH (uY P) fn.results.toList with
 |some c,Z res=>if(fn.ntmps=fc.nt/\fc.np<=fc.nt)/\fc.body.dg=true then(Nq P fc.nt dst fc.body c).map λb=>⟨fc.nt,fc.np,res,b,fc.av,fc.gW⟩ else Y
 |_,_=>Y
theorem wR.of{dst:Nat}(hf:P.funcs[f]? =Z fn)(h:Uf P fn dst fc=Z fc):wR P f dst fc:=by
 unfold Uf at h;split at h
 .cases h
 .rename_i hn;split at h
  .rename_i c res hb hres;split at h
   .rename_i hc;obtain⟨b,hb',heq⟩:=ak.1 h;have e1:res=fc.res:=congrArg FC.res heq;have e2:b=fc.body:=congrArg FC.body heq;exact⟨⟨fn,c,hf,by simpa using hn,hb,hc.1.1,hc.1.2,by rw[hres,e1],by rw[hb',e2]⟩,hc.2⟩
   .cases h
  .cases h
theorem Ug:∀(n:Nat) (l:List D) (t:Nat),(entry n l).get t=if n<=t/\t<n+O l then l.getD (t-n) .dead else .dead
 |n,[],t=>by simp only[entry,Env.get,fH];rw[if_neg (by omega)]
 |n,d::l,t=>by
  simp only[entry,Env.get,ew];split
  .rename_i h;subst h;rw[if_pos (by omega),Au];rfl
  .rename_i h;rw[Ug (n+1) l t];by_cases hc:n+1<=t/\t<n+1+O l
   .rw[if_pos hc,if_pos (by omega)];rw[show t-n=(t-(n+1))+1 by omega];rfl
   .rw[if_neg hc,if_neg (by omega)]
theorem Iq(h:cv γ vs ds)(k:Nat):aW γ (entry 0 ds) (vs++mU k undef):=by
 intro t;rw[Ug];split
 .rename_i ht;have hlt:t<O ds:=by omega
  have e:ds[t]? =Z (ds.getD (t-0) .dead):=by simp[im,hlt]
  have:=h.2 t _ e;have hv:t<vs.size:=by rw[h.1];exact hlt
  simpa[bP,CU,hv] using this
 .exact .dead _
theorem Uh{res:List pS}(h:finish G res x=Z (r,H')):
    (∃s d,(x=Z (.norm,s)\/x=Z (.ret,s))/\mD G s.env s.hp res=Z d/\r= .val d/\H'=s.hp)\/∃s d,x=Z (.bN d,s)/\r= .bN d/\H'=s.hp:=by
 unfold finish at h;split at h
 .rename_i s;split at h
  .rename_i d hd;cases h;exact .inl ⟨s,d,.inl rfl,hd,rfl,rfl⟩
  .cases h
 .rename_i s;split at h
  .rename_i d hd;cases h;exact .inl ⟨s,d,.inr rfl,hd,rfl,rfl⟩
  .cases h
 .rename_i d s;cases h;exact .inr ⟨s,d,rfl,rfl,rfl⟩
 .cases h
theorem Nr(h6:aH (uY P) fn.results.toList=Z fc.res)(h:finish G fc.res x=Z (r,H')):
    ∃out s,x=Z (out,s)/\Post W G fc.nt Y [] (bodyPost P fn λe w'=>∃γ',γ.le γ'/\Frame γ H w γ' H' w'/\bw W G γ' H' w'/\jA γ' r e) γ H w out s:=by
 rcases Uh h with⟨s,d,hx,hd,rfl,rfl⟩ |⟨s,d,hx,rfl,rfl⟩
 .have post:∀γ' (a':Act) w',γ.le γ'->Frame γ H w γ' s.hp w'->bw W G γ' s.hp w'->a'.defers=[]->aW γ' s.env a'.tmps->a'.defers=[]/\∃v,(results fn a'.tmps).run P w'= .ok v w'/\∃γ',γ.le γ'/\Frame γ H w γ' s.hp w'/\bw W G γ' s.hp w'/\jA γ' (.val d) (.returned v):=by
   intro γ' a' w' L F J bO E;obtain⟨v,q1,q2⟩:=Ua J.toInv E h6 hd;exact⟨bO,v,q1,γ',L,F,J,v,rfl,q2⟩
  rcases hx with hx |hx
  .exact⟨.norm,s,hx,λγ' a' w' L F J bO _ E=>post γ' a' w' L F J bO E⟩
  .exact⟨.ret,s,hx,λγ' a' w' L F J bO _ E=>post γ' a' w' L F J bO E⟩
 .exact⟨.bN d,s,hx,λγ' a' w' L F J bO _ _ v V=>⟨bO,γ',L,F,J,v,rfl,V⟩⟩
theorem Ns:¬jA γ r .outgrown:=by
 cases r with
 |val d=>rintro⟨v,h,_⟩;cases h
 |bN d=>rintro⟨v,h,_⟩;cases h
def D9(P:Program)(f:Nat)(vs:Array Value)(w:World)(R:Ending->World->Prop):Prop:=
 ∀(v:Value) (cL:Array Value),vs= #[v]++cL->Enters P f/\(v= .nilIface->CallsD P f cL .returning w λe u' w'=>u'= .returning/\R e w')/\
  CallsD P f cL (.panicking [{v:=v,recovered:=false}]) w λe u' w'=>u'= .panicking [{v:=v,recovered:=true}]/\R e w'
theorem ad9{rv:D}{v:Value}{cL:Array Value}(h:cv γ (#[v]++cL) (rv::ds)):aB γ v rv/\cv γ cL ds:=by
 have h0:=h.2 0 rv rfl;have e0:(#[v]++cL).getD 0 undef=v:=by
  simp only[bP];rw[Array.getElem?_append_left (by simp)];simp
 rw[e0] at h0;refine⟨h0,by have:=h.1;simp at this;omega,λi d hd=>?_⟩;have:=h.2 (i+1) d (by simpa using hd);have e:(#[v]++cL).getD (i+1) undef=cL.getD i undef:=by
  simp only[bP];rw[Z0 (by simp)];simp
 rwa [e] at this
theorem aea{c:br}(S:Sound P W G c)(hm:P.follows .mixedOrders=true)(hit:∀b s r,it b s=Z r->∃m,iter b m s=Z r){T:Nat->Option (Nat×FC)}(hT:∀f x,T f=Z x->wR P f x.1 x.2):
    ∀args H r H',uj c T G it f args H=Z (r,H')->∀γ w vs,bw W G γ H w->cv γ vs args->D9 P f vs w λe w'=>∃γ',γ.le γ'/\Frame γ H w γ' H' w'/\bw W G γ' H' w'/\jA γ' r e:=by
 intro args H r H' h γ w vs I hv v cL lT;subst lT;unfold uj at h;split at h
 .rename_i dst fc rv as Ui;split at h
  .rename_i hl;split at h
   .rename_i d0 H0 fu;cases h;obtain⟨fn,cd,h1,h2,h3,h4,h5,h6,h7⟩:=(hT f (dst,fc) Ui).ex;have tv:=(hT f (dst,fc) Ui).nr;dsimp only at h4 h5 h6 h7 tv;obtain⟨hrv,has⟩:=ad9 hv;have hsz:(cL++mU (fn.ntmps-cL.size) undef).size=fc.nt:=by simp[h4,has.1,hl.1];omega
    refine⟨⟨fn,h1,h2,by rw[h3];rfl⟩,?_⟩
    -- the body
    have key:∀(u u':FrameMode),(∀(c₀:Go.Frame) cs,c₀.mode=u->∀v1 cs1,(recoverD (c₀::cs)=Z (v1,cs1)\/(recoverD (c₀::cs)=Y/\v1= .nilIface/\cs1=c₀::cs))->v1=v/\cs1={c₀ with mode:=u'}::cs)->
        CallsD P f cL u w λe u2 w'=>u2=u'/\∃γ',γ.le γ'/\Frame γ H w γ' H' w'/\bw W G γ' H' w'/\jA γ' (.val d0) e:=by
     intro u u' hu;refine callsD_of_wpS h1 h3 λc₀ cs hc₀=>?_;refine ad3 cd ?_;unfold Nq at h7;split at h7
     .rename_i keep hs b id ops d rest HX hsp;split at h7
      .rename_i o l jy;split at h7
       .rename_i rS ts0 hop hgd;split at h7
        .rename_i sl b' bW hb';split at h7
         .rename_i Nt;cases hh:fc.body with
          |seq x y=>
           rw[hh] at h7 fu tv;cases h7;have fl:b'.dg=true:=by simpa[SC.dg] using tv
           rw[hsp];obtain⟨ho,aed,hall⟩:=Nt;refine ad4 (b:=.recover) jy hgd rfl hop λv1 cs1 hr=>?_;obtain⟨rfl,rfl⟩:=hu c₀ cs hc₀ v1 cs1 hr;rw[ho];obtain⟨out,s,hx,hp⟩:=Nr (W:=W) (γ:=γ) (H:=H) (w:=w) h6 fu
           -- the state behind recover
           have E1:aW γ ((dst,rv)::(dst,rv)::entry 0 as) (({tmps:=cL++mU (fn.ntmps-cL.size) undef,defers:=[]}:Act).put (Z dst) v1).tmps:=by
            have E0:=(Iq has (fn.ntmps-cL.size)).put (t:=dst) (by rw[hsz];exact aed) hrv;intro t;have:=E0 t;simp only[Env.get,Act.put] at this|-;split
            .rename_i ht;rw[if_pos ht] at this;exact this
            .rename_i ht;rw[if_neg ht] at this;first |exact this |(rw[if_neg ht];exact this)
           have hlt:∀(j:Nat) o' t,ops[j]? =Z o'->o'.dst=Z t->t<fc.nt:=λj o' t hj ht=>by
            have eV:o'∈ops.toList:=by
             rw[<-CQ] at hj;exact bB hj
            have:=gV.1 hall o' eV;rw[ht] at this;simpa using this
           obtain⟨jc,kM⟩:=Ib bW;have aee:∀(i:Nat) a so,l[i]? =Z a->sl[i]? =Z so->p8 P ops fc.nt a so:=λi a so ha dW=>by
            obtain⟨_,q⟩:=kM i a so ha dW;exact M4 q
           simp only[aq] at hx;simp only[jJ,fY,cH,aP,aA.ev,Env.get,if_true,put] at hx;have done:∀{γ':Gh} {a':Act} {w':World} {e:Exit},bodyPost P fn (λe w'=>∃γ',γ.le γ'/\Frame γ H w γ' H' w'/\bw W G γ' H' w'/\jA γ' (.val d0) e) e a' w'->
               bodyPostS P fn c₀ cs (λe u2 w'=>u2=u'/\∃γ',γ.le γ'/\Frame γ H w γ' H' w'/\bw W G γ' H' w'/\jA γ' (.val d0) e) e a' ({c₀ with mode:=u'}::cs) w':=by
            intro γ' a' w' e hq;cases e with
            |normal=>obtain⟨q1,v,q2,q3⟩:=hq;exact⟨q1,u',rfl,v,q2,rfl,q3⟩
            |ret=>obtain⟨q1,v,q2,q3⟩:=hq;exact⟨q1,u',rfl,v,q2,rfl,q3⟩
            |panic ch=>obtain⟨q1,q3⟩:=hq;exact⟨q1,u',rfl,rfl,q3⟩
            |outgrown=>exact⟨u',rfl,hq⟩
            |exit id=>exact hq.elim
            |goto t=>exact hq.elim
           cases dA:jJ c G sl ((dst,rv)::(dst,rv)::entry 0 as) H with
           |none=>rw[dA] at hx;simp at hx
           |some ro=>
            rw[dA] at hx;refine My S hlt l sl γ _ H _ w jc aee I E1 (by simp[Act.put,hsz]) ro dA (λγ' e2 H2 a' w' hr L F J E' cE bO=>?_) (λγ' d2 e2 H2 v2 a' w' hr L F J V E' cE bO=>?_)
            .subst hr;simp only at hx;refine Ud (d::rest) ?_;refine ad8 S hm hit b (d::rest) _ hb' fl _ γ' _ a' w' out s ?_ hx J (E'.keep _) cE (df:=[]) (by rw[bO];simp[Act.put]) ?_
             .rintro a w ⟨_,_,_,_,_,_,q⟩;exact Ns q
             refine(hp.later L F).other λe a w _ q=>done (γ':=γ') q
            .subst hr;simp only[bM,mr] at hx;obtain⟨rfl,rfl⟩:=hx;have:=hp γ' a' w' L F J (by show a'.defers=[];rw[bO];simp[Act.put]) cE E' v2 V;exact done (γ':=γ') this
          |_=>rw[hh] at h7;cases h7
         .cases h7
        .cases h7
       .cases h7
      .cases h7
     .cases h7
    refine⟨λhv0=>key .returning .returning ?_,key _ _ ?_⟩
    .intro c₀ cs hc v1 cs1 hr;have hn:recoverD (c₀::cs)=Y:=by simp[recoverD,hc]
     rcases hr with hr |⟨_,rfl,rfl⟩
     .rw[hn] at hr;cases hr
     .exact⟨hv0.symm,by rw[<-hc]⟩
    .intro c₀ cs hc v1 cs1 hr;have hs:recoverD (c₀::cs)=Z (v,{c₀ with mode:=.panicking [{v:=v,recovered:=true}]}::cs):=by simp[recoverD,hc]
     rcases hr with hr |⟨hr,_,_⟩
     .rw[hs] at hr;cases hr;exact⟨rfl,rfl⟩
     .rw[hs] at hr;cases hr
   .cases h
  .cases h
 .cases h
theorem Bo{e:Exit}(h:bodyPost P fn R e a w):bodyPostD P fn R e a w:=by
 cases e with
 |normal=>
  obtain⟨q1,v,q2,q3⟩:=h;show Leaves P fn a.tmps R a.defers .returning w;rw[q1];exact⟨v,q2,q3⟩
 |ret=>
  obtain⟨q1,v,q2,q3⟩:=h;show Leaves P fn a.tmps R a.defers .returning w;rw[q1];exact⟨v,q2,q3⟩
 |panic ch=>
  obtain⟨q1,q3⟩:=h;show Leaves P fn a.tmps R a.defers (.panicking ch) w;rw[q1];exact q3
 |outgrown=>exact h
 |exit id=>exact h
 |goto t=>exact h
theorem D9.mono{R':Ending->World->Prop}(h:D9 P f vs w R)(k:∀e w',R e w'->R' e w'):D9 P f vs w R':=λv cL hv=>
 let⟨h0,h1,h2⟩:=h v cL hv
 ⟨h0,λhn=>(h1 hn).mono λ_ _ _ q=>⟨q.1,k _ _ q.2⟩,h2.mono λ_ _ _ q=>⟨q.1,k _ _ q.2⟩⟩
theorem aef(J:Inv G γ H w){nb:Nat}{e:Ending}(E:jA γ r e)(h:(r.av nb H).ren (below nb) Z=Z r'):jA (γ.uW H w nb) r' e:=by
 refine Mv (M8 γ H w nb) h ?_;cases r with
 |val d=>
  obtain⟨v,rfl,hv⟩:=E;exact⟨v,rfl,qM J 8 (hv.mono (Gh.DW J nb))⟩
 |bN d=>
  obtain⟨v,rfl,hv⟩:=E;exact⟨v,rfl,qM J 8 (hv.mono (Gh.DW J nb))⟩
theorem aeg(I:Inv G γ H w){γ':Gh}{Hx:Hp}{w':World}(L:γ.le γ')(F:Frame γ H w γ' Hx w')(J:Inv G γ' Hx w'){e:Ending}(E:jA γ' r e)(h:ui (O H.bx) (r,Hx)=(r',H')):
    ∃γ'',γ.le γ''/\Frame γ H w γ'' H' w'/\Inv G γ'' H' w'/\jA γ'' r' e:=by
 unfold ui at h;dsimp only at h;split at h
 .rename_i bx r1 bS hr;split at h
  .rename_i fl;cases h;obtain⟨L2,F2,J2⟩:=T4 I L F J bS fl;exact⟨_,L2,F2,J2,aef J E hr⟩
  .cases h;exact⟨γ',L,F,J,E⟩
 .cases h;exact⟨γ',L,F,J,E⟩
theorem aeh{args:List D}{av:Bool}{x:Option (bR×Hp)}(h:mE av (O H.bx) x=Z (r,H'))(hx:∀r0 H0,x=Z (r0,H0)->wJ P W G f args H r0 H0):wJ P W G f args H r H':=by
 unfold mE at h;split at h
 .obtain⟨y,hy,hs⟩:=ak.1 h;obtain⟨r0,H0⟩:=y;obtain⟨rR,hm⟩:=hx r0 H0 hy;refine⟨rR,λγ w vs I hv=>(hm γ w vs I hv).mono ?_⟩;rintro e w' ⟨γ',L,F,J,E⟩;obtain⟨γ2,L2,F2,J2,E2⟩:=aeg I.toInv L F J.toInv E hs;exact⟨γ2,L2,F2,I.up L2 F2 J2,E2⟩
 .exact hx r H' h

end Go.Vs

namespace Go.Vs
structure Cf where
 /-- Functions whose literals are rows of their own. -/
 bg:List Nat
 /-- Functions that do not seal what they give. -/
 aei:List Nat
 /-- Ranges over functions: function, iterator. -/
 rg:List (Nat×Nat)
 fQ:Nat->List D->List D->Hp->Option (List (List D))
 /-- Functions whose rows that grow are plain data. -/
 ap:List Nat
 /-- Loops whose row that grows begins with a token: function, slot, type, size. -/
 tk:List (Nat×Nat×Nat×Nat)
 /-- Functions whose rounds keep what they make. -/
 nl:List Nat
 /-- Functions where one variable made in an open order is made ahead. -/
 m1:List Nat:=[]
def gu(x:Nat):List Nat->List Nat
 |[]=>[x]
 |y::l=>if x<y then x::y::l else if x=y then y::l else y::gu x l
def qN(a b:List Nat):List Nat:=b.foldr gu a
def Uj(ops:List SO)(out:List Nat):List Nat:=ops.foldr (λo l=>qN (match o.dst with |some t=>l.filter (λx=>!Nat.beq x t) |none=>l) o.uses) out
def Ir:SC->List Nat
 | .exit i=>[i]
 | .seq a b | .cond _ a b | .mA _ _ _ _ a b=>Ir a++Ir b
 | .block _ b | .loop _ b | .scope b | .loc b | .mz b=>Ir b
 |_=>[]
def Iu:SC->Bool
 | .ret=>true
 | .seq a b | .cond _ a b | .mA _ _ _ _ a b=>Iu a||Iu b
 | .block _ b | .loop _ b | .scope b | .loc b | .mz b=>Iu b
 |_=>false
def Nu(id:Nat):List (Nat×List Nat)->List Nat
 |[]=>[]
 |(i,l)::r=>if i=id then l else Nu id r
def eN(fin:List Nat):SC->List (Nat×List Nat)->List Nat->List Nat×SC
 | .skip,_,out=>(out,.skip)
 | .region _ ops,_,out=>(Uj ops out,.region out ops)
 | .draw _ pairs ops,_,out=>(Uj ops out,.draw out pairs ops)
 | .seq a b,ex,out=>
  match eN fin b ex out with
  |(l1,b')=>match eN fin a ex l1 with
   |(l0,a')=>(l0,.seq a' b')
 | .cond c a b,ex,out=>
  match eN fin a ex out,eN fin b ex out with
  |(la,a'),(lb,b')=>(qN (qN la lb) c.slots,.cond c a' b')
 | .block id b,ex,out=>
  match eN fin b ((id,out)::ex) out with
  |(l,b')=>(l,.block id b')
 | .loop _ b,ex,_=>
  match eN fin b ex [] with
  |(l1,_)=>match eN fin b ex l1 with
   |(l2,b')=>(qN l1 l2,.loop (qN l1 l2) b')
 | .mA f gn g ps a b,ex,out=>
  match eN [] b [] [] with
  |(l1,b')=>match eN [] a [] l1 with
   |(l0,a')=>(qN (qN (qN (qN out (l0.filter λx=>!ps.contains x)) ((Ir b).flatMap λi=>Nu i ex)) g.slots) (if Iu b then fin else[]),.mA f gn g ps a' b')
 | .tok s e z,_,out=>(qN out [s],.tok s e z)
 | .tokb s o e z,_,out=>(qN out [s],.tokb s o e z)
 | .stuck,_,_=>([],.stuck)
 | .mz b,ex,out=>match eN fin b ex out with |(l,b')=>(l,.mz b')
 | .scope b,ex,out=>match eN fin b ex out with |(l,b')=>(l,.scope b')
 | .loc b,ex,out=>match eN fin b ex out with |(l,b')=>(l,.loc b')
 | .exit id,ex,_=>(Nu id ex,.exit id)
 | .ret,_,_=>(fin,.ret)
def Ea(p:Op->Bool):Code->Bool
 | .region _ ops _=>ops.toList.any λo=>p o.op
 | .seq a b | .cond _ a b | .rangeFunc _ _ a b=>Ea p a||Ea p b
 | .block _ b | .loop b | .scope b=>Ea p b
 |_=>false
def aej:Op->Bool
 | .call c=>match c.callee with
  | .builtin .append=>true
  |_=>false
 |_=>false
def aek:Op->Bool
 | .alloc _ | .box _ _ | .buildSlice _ _ _ | .makeSlice _ _ _=>true
 | .call c=>match c.callee with
  | .builtin .len=>false
  | .builtin .cap=>false
  |_=>true
 |_=>false
def Uk(cf:Cf)(fi:Nat)(o:Oper):SO:=
 ⟨Y,match o.op with
  | .buildSlice _ _ _=>if cf.bg.contains fi then .bsliceG 0 0 0 .kB [] else .stuck
  | .call c=>match c.callee with
   | .builtin .append=>if cf.ap.contains fi then .append 0 0 0 (.t 0) (.t 0) else .appendg 0 0 0 (.t 0) (.t 0)
   |_=>.stuck
  |_=>.stuck,Y⟩
def Iw(nl:Bool)(b:Code)(x:SC):SC:=if !nl&&Ea aek b&& !Ea aej b then .loc x else x
def Ul(fi:Nat):List (Nat×Nat×Nat×Nat)->Option (Nat×Nat×Nat)
 |[]=>Y
 |(i,x)::r=>if i=fi then Z x else Ul fi r
def Bp(fi:Nat):List (Nat×Nat)->Option Nat
 |[]=>Y
 |(i,x)::r=>if i=fi then Z x else Bp fi r
def Nv:Op->Bool
 | .move _ | .assign _ | .pick _ _ _ | .build _ _ | .nilCheck _ | .binOp _ _ _ _ _ | .unOp _ _ _ | .makeInterface _ _ | .makeFunc _ _ _ | .slice _ _ _ _ _ | .fieldAddr _ _ _ | .field _ _ _ | .indexAddr _ _ _ | .index _ _ _ | .extract _ _=>true
 | .call c=>match c.callee with
  | .builtin .len=>true
  | .builtin .cap=>true
  |_=>false
 |_=>false
def Nw(ms:List Nat)(i:Nat):Nat->List Oper->List (Nat×Nat)
 |_,[]=>[]
 |j,o::r=>if decide (i<=j)||Nv o.op||rel ms i j then(if decide (i<=j) then[] else Nw ms i (j+1) r) else(j,i)::Nw ms i (j+1) r
def Ix(ms:List Nat)(ops:List Oper):Nat->List Oper->List (Nat×Nat)
 |_,[]=>[]
 |i,o::r=>if Nv o.op then Ix ms ops (i+1) r else Nw ms i 0 ops++Ix ms ops (i+1) r
def Nx:Nat->List Oper->List Nat
 |_,[]=>[]
 |i,o::r=>if Hu o&&o.guard.isNone&&(lD o).isEmpty then i::Nx (i+1) r else Nx (i+1) r
def ndO(ops:List Oper)(j:Nat):Bool:=match ops[j]? with
 |some o=>!Nv o.op
 |none=>false
def aem(least:Nat)(ms:List Nat)(ops:List Oper)(c:List Nat):List (Nat×Nat):=
 if decide (least<=O c)&&c.all (λa=>Dw ms (c.map λi=>(1000000+i,0)) (ndO ops) a 0 ops) then(c.map λi=>(1000000+i,0))++(Ix ms ops 0 ops).filter λp=>!c.contains p.2
 else Ix ms ops 0 ops
def aen(least:Nat)(ms:List Nat)(ops:List Oper):List (Nat×Nat):=aem least ms ops (Nx 0 ops)
def ou(cf:Cf)(fi:Nat):Code->SC
 | .skip=>.skip
 | .region _ ops draw=>if draw then .draw [] (aen (if cf.m1.contains fi then 1 else 2) (Du ops.toList []) ops.toList) (ops.toList.map (Uk cf fi)) else .region [] (ops.toList.map (Uk cf fi))
 | .seq a b=>.seq (ou cf fi a) (ou cf fi b)
 | .cond _ a b=>.cond (.t 0) (ou cf fi a) (ou cf fi b)
 | .block id b=>.block id (ou cf fi b)
 | .loop b=>match Ul fi cf.tk with
  |some (s,e,z)=>.seq (.tok s e z) (.loop [] (.loc (ou cf fi b)))
  |none=>.loop [] (Iw (cf.nl.contains fi) b (ou cf fi b))
 | .exit id=>.exit id
 | .scope b=>.scope (ou cf fi b)
 | .ret=>.ret
 | .rangeFunc _ ps a b=>match Bp fi cf.rg with
  |some f=>.mA f (cf.fQ f) (.t 0) ps.toList (ou cf fi a) (Iw (cf.nl.contains fi) b (ou cf fi b))
  |none=>.stuck
 | .label _=>.skip
 |_=>.stuck
theorem Um:∀(sc:SC) (fin:List Nat) (ex:List (Nat×List Nat)) (out:List Nat),(eN fin sc ex out).2.dg=sc.dg:=by
 intro sc
 induction sc with
 |seq a b fC fD=>intro fin ex out;show((eN fin a ex (eN fin b ex out).1).2.dg&&(eN fin b ex out).2.dg)=_;rw[fC,fD];rfl
 |cond c a b fC fD=>intro fin ex out;show((eN fin a ex out).2.dg&&(eN fin b ex out).2.dg)=_;rw[fC,fD];rfl
 |block id b ih=>intro fin ex out;show(eN fin b ((id,out)::ex) out).2.dg=_;rw[ih];rfl
 |loop k b ih=>intro fin ex out;show(eN fin b ex (eN fin b ex []).1).2.dg=_;rw[ih];rfl
 |mz b ih=>intro fin ex out;show(eN fin b ex out).2.dg=_;rw[ih];rfl
 |scope b ih=>intro fin ex out;show(eN fin b ex out).2.dg=_;rw[ih];rfl
 |loc b ih=>intro fin ex out;show(eN fin b ex out).2.dg=_;rw[ih];rfl
 |_=>intros;rfl
variable{env:Env}{H:Hp}{nt:Nat}{P:Program}{b:SC}{s':St}
theorem aeo{a a' b':SC}{x y:Code}(ha:dR P nt a x=Z a')(hb:dR P nt b y=Z b'):dR P nt (.seq a b) (.seq x y)=Z (.seq a' b'):=by
 cases a
 case tok=>cases x<;>simp[dR] at ha
 case tokb=>cases x<;>simp[dR] at ha
 all_goals (show(match dR P nt _ x,dR P nt b y with |some a',Z b'=>Z (SC.seq a' b') |_,_=>Y)=_;rw[ha,hb])
theorem aep(sk:SC)(c:Code):∀sc,dR P nt sk c=Z sc->∀(fin:List Nat) (ex:List (Nat×List Nat)) (out:List Nat),∃sk',dR P nt sk' c=Z (eN fin sc ex out).2:=by
 fun_induction dR P nt sk c
 all_goals (intro sc h fin ex out)
 all_goals try (cases h;done)
 case case1 ih=>
  obtain⟨b',hb,rfl⟩:=ak.1 h;obtain⟨k,hk⟩:=ih b' hb fin ex out;exact⟨.loc k,by simp only[dR,hk];rfl⟩
 case case2=>cases h;exact⟨.skip,rfl⟩
 case case3=>cases h;exact⟨.skip,rfl⟩
 case case4 keep hs id ops hn=>
  obtain⟨sl,bW,rfl⟩:=ak.1 h;exact⟨.region out hs,by simp only[dR,hn,bW,if_true];rfl⟩
 case case6 keep pairs hs id ops sl bW hn=>
  cases h;exact⟨.draw out pairs hs,by simp only[dR,bW,hn,if_true];rfl⟩
 case case9 f gen g0 ps0 a b g ps x y g' a' b' hb ha hg hn fC fD=>
  cases h;obtain⟨kb,hkb⟩:=fD b' hb [] [] [];obtain⟨ka,hka⟩:=fC a' ha [] [] (eN [] b' [] []).1;refine⟨.mA f gen (.t 0) [] ka kb,?_⟩;have h1:((eN [] a' [] (eN [] b' [] []).1).2.dg&&(eN [] b' [] []).2.dg&&ps.toList.all λp=>decide (p<nt))=true:=by rw[Um,Um];exact hn
  simp only[dR,hg,hka,hkb,h1,if_true];rfl
 case case12 s e z b c hc ih=>
  obtain⟨b',hb,rfl⟩:=ak.1 h;obtain⟨k,hk⟩:=ih b' hb fin ex out;exact⟨.seq (.tok s e z) k,by simp only[dR,hk,if_pos hc];rfl⟩
 case case14 s off e z b c hc ih=>
  obtain⟨b',hb,rfl⟩:=ak.1 h;obtain⟨k,hk⟩:=ih b' hb fin ex out;exact⟨.seq (.tokb s off e z) k,by simp only[dR,hk,if_pos hc];rfl⟩
 case case16 a b x y n1 n2 a' b' hb ha fC fD=>
  cases h;obtain⟨kb,hkb⟩:=fD b' hb fin ex out;obtain⟨ka,hka⟩:=fC a' ha fin ex (eN fin b' ex out).1;exact⟨.seq ka kb,aeo hka hkb⟩
 case case18 c0 a b c x y g' a' b' hb ha hg fC fD=>
  cases h;obtain⟨kb,hkb⟩:=fD b' hb fin ex out;obtain⟨ka,hka⟩:=fC a' ha fin ex out;exact⟨.cond (.t 0) ka kb,by simp only[dR,hg,hka,hkb];rfl⟩
 case case20 id0 b id x ih=>
  obtain⟨b',hb,rfl⟩:=ak.1 h;obtain⟨k,hk⟩:=ih b' hb fin ((id,out)::ex) out;exact⟨.block 0 k,by simp only[dR,hk];rfl⟩
 case case21 keep b x ih=>
  obtain⟨b',hb,rfl⟩:=ak.1 h;obtain⟨k,hk⟩:=ih b' hb fin ex (eN fin b' ex []).1;exact⟨.loop (qN (eN fin b' ex []).1 (eN fin b' ex (eN fin b' ex []).1).1) k,by simp only[dR,hk];rfl⟩
 case case22 b x ih=>
  obtain⟨b',hb,rfl⟩:=ak.1 h;obtain⟨k,hk⟩:=ih b' hb fin ex out;exact⟨.scope k,by simp only[dR,hk];rfl⟩
 case case23=>cases h;exact⟨.exit 0,rfl⟩
 case case24=>cases h;exact⟨.ret,rfl⟩
 case case25 ih=>
  obtain⟨b',hb,rfl⟩:=ak.1 h;obtain⟨k,hk⟩:=ih b' hb fin ex out;exact⟨.mz k,by simp only[dR,hk];rfl⟩
 case case26=>cases h;exact⟨.stuck,by simp only[dR];rfl⟩
def Bq(P:Program)(cf:Cf)(fi:Nat)(f:Func):Option FC:=
 if f.name== "runtime.NumGoroutine" then Y else
 match f.body,aH (uY P) f.results.toList with
 |some c,Z res=>if f.params.size+f.nfree<=f.ntmps then(match dR P f.ntmps (ou cf fi c) c with
  |some b=>Z ⟨f.ntmps,f.params.size+f.nfree,res,(eN (res.map λ| .t i=>i | .cell i _=>i) b [] (res.map λ| .t i=>i | .cell i _=>i)).2,!cf.aei.contains fi,Y⟩
  |none=>Y) else Y
 |_,_=>Y
theorem aet{cf:Cf}{fi:Nat}{f:Func}{fc:FC}(hf:P.funcs[fi]? =Z f)(h:Bq P cf fi f=Z fc):FOk0 P fi fc:=by
 unfold Bq at h;split at h
 .cases h
 .rename_i hn;split at h
  .rename_i c res hb hres;split at h
   .rename_i hle;split at h
    .rename_i b Ny;cases h;exact⟨f,c,hf,by simpa using hn,hb,rfl,hle,hres,aep _ _ _ Ny _ _ _⟩
    .cases h
   .cases h
  .cases h
variable {c : br} {G : Nat -> Option (List PD)}
def r9(c:br)(G:Nat->Option (List PD))(keep:List Nat)(ops:List SO)(env:Env)(H:Hp):Option (Out×St):=
 match jJ c G ops env H with
 |some (.ok env H)=>Z (.norm,⟨env.keep keep,H⟩)
 |some (.bN d env H)=>Z (.bN d,⟨env,H⟩)
 |none=>Y
def opsV(c:br)(G:Nat->Option (List PD))(keep:List Nat)(x:Option (bR×Hp))(dst:Option Nat)(r:List SO)(env:Env):Option (Out×St):=
 match x with
 |some (.val d,H')=>r9 c G keep r (put dst d env) H'
 |some (.bN d,H')=>Z (.bN d,⟨env,H'⟩)
 |none=>Y
def Br(c:br)(G:Nat->Option (List PD))(keep:List Nat)(g:Option Bool)(o:SO)(r:List SO)(env:Env)(H:Hp):Option (Out×St):=
 match g with
 |some true=>opsV c G keep (cH c G env H o.k) o.dst r env
 |some false=>r9 c G keep r (put o.dst .undef env) H
 |none=>Y

@[simp] theorem apb(it:It)(keep:List Nat)(ops:List SO)(env:Env)(H:Hp):aq c G it (.region keep ops) ⟨env,H⟩=r9 c G keep ops env H:=rfl
@[simp] theorem apc(keep:List Nat)(env:Env)(H:Hp):r9 c G keep [] env H=Z (.norm,⟨env.keep keep,H⟩):=rfl
theorem Un(keep:List Nat)(o:SO)(r:List SO)(env:Env)(H:Hp):r9 c G keep (o::r) env H=Br c G keep (fY env o.g) o r env H:=by
 unfold r9 Br;simp only[jJ];cases fY env o.g with
 |none=>rfl
 |some b=>
  cases b with
  |false=>rfl
  |true=>
   unfold opsV;cases cH c G env H o.k with
   |none=>rfl
   |some x=>
    obtain⟨y,H'⟩:=x;cases y<;>rfl
@[simp] theorem apd(keep:List Nat)(dst:Option Nat)(k:SK)(r:List SO)(env:Env)(H:Hp):r9 c G keep (⟨dst,k,Y⟩::r) env H=opsV c G keep (cH c G env H k) dst r env:=Un ..
@[simp] theorem ape(keep:List Nat)(dst:Option Nat)(k:SK)(g:Nat×Bool)(r:List SO)(env:Env)(H:Hp):r9 c G keep (⟨dst,k,Z g⟩::r) env H=Br c G keep (fY env (Z g)) ⟨dst,k,Z g⟩ r env H:=Un ..
@[simp] theorem apf(keep:List Nat)(d:D)(H':Hp)(dst:Option Nat)(r:List SO)(env:Env):opsV c G keep (Z (.val d,H')) dst r env=r9 c G keep r (put dst d env) H':=rfl
@[simp] theorem apg(keep:List Nat)(d:D)(H':Hp)(dst:Option Nat)(r:List SO)(env:Env):opsV c G keep (Z (.bN d,H')) dst r env=Z (.bN d,⟨env,H'⟩):=rfl
@[simp] theorem aph(keep:List Nat)(o:SO)(r:List SO)(env:Env)(H:Hp):Br c G keep (Z true) o r env H=opsV c G keep (cH c G env H o.k) o.dst r env:=rfl
@[simp] theorem api(keep:List Nat)(o:SO)(r:List SO)(env:Env)(H:Hp):Br c G keep (Z false) o r env H=r9 c G keep r (put o.dst .undef env) H:=rfl
def Nz(c:br)(G:Nat->Option (List PD))(pairs:List (Nat×Nat))(un:Env)(d:D)(H':Hp)(o:SO)(r:List SO)(env:Env)(H:Hp)(acc:List (Nat×Nat)):Option (Out×St):=
 match nW c G pairs (O acc) (O acc+1) o.dst.toList r (put o.dst .undef env) H with
 |some cs=>if uh pairs (acc++(0,0)::cs)&&Gm pairs (acc++(0,0)::cs) (O acc) then Z (.bN d,⟨un,H'⟩) else Y
 |none=>Y
def l9(c:br)(G:Nat->Option (List PD))(keep:List Nat)(pairs:List (Nat×Nat))(un:Env)(ops:List SO)(env:Env)(H:Hp)(acc:List (Nat×Nat)):Option (Out×St):=
 match gP c G ops env H with
 |some (env,H,cs)=>if uh pairs (acc++cs) then Z (.norm,⟨env.keep keep,H⟩) else Y
 |none=>match iX c G pairs (O acc) ops env H with
  |some (d,H',cs,k)=>if uh pairs (acc++cs)&&Gm pairs (acc++cs) k then Z (.bN d,⟨un,H'⟩) else Y
  |none=>Y
def yZ(c:br)(G:Nat->Option (List PD))(keep:List Nat)(pairs:List (Nat×Nat))(un:Env)(x:Option (bR×Hp))(o:SO)(r:List SO)(env:Env)(H:Hp)(acc:List (Nat×Nat)):Option (Out×St):=
 match x with
 |some (.val d,H')=>l9 c G keep pairs un r (put o.dst d env) H' (acc++[j7 env H H' o.k])
 |some (.bN d,H')=>Nz c G pairs un d H' o r env H acc
 |none=>Y
def y0(c:br)(G:Nat->Option (List PD))(keep:List Nat)(pairs:List (Nat×Nat))(un:Env)(g:Option Bool)(o:SO)(r:List SO)(env:Env)(H:Hp)(acc:List (Nat×Nat)):Option (Out×St):=
 match g with
 |some true=>yZ c G keep pairs un (cH c G env H o.k) o r env H acc
 |some false=>l9 c G keep pairs un r (put o.dst .undef env) H (acc++[(0,0)])
 |none=>Y

@[simp] theorem apj(it:It)(keep:List Nat)(pairs:List (Nat×Nat))(ops:List SO)(env:Env)(H:Hp):aq c G it (.draw keep pairs ops) ⟨env,H⟩=l9 c G keep pairs (ym ops env) ops env H []:=rfl
theorem aeu(keep:List Nat)(pairs:List (Nat×Nat))(un env:Env)(H:Hp)(acc:List (Nat×Nat)):l9 c G keep pairs un [] env H acc=if uh pairs acc then Z (.norm,⟨env.keep keep,H⟩) else Y:=by
 simp only[l9,gP,iQ]
@[simp] theorem apk(keep:List Nat)(pairs:List (Nat×Nat))(un env:Env)(H:Hp)(acc:List (Nat×Nat)):l9 c G keep pairs un [] env H acc=if pairs.all (λp=>!eR (acc.getD p.1 (0,0)) (acc.getD p.2 (0,0)))&&sT acc then Z (.norm,⟨env.keep keep,H⟩) else Y:=
 aeu ..
theorem Uo{keep:List Nat}{pairs:List (Nat×Nat)}{un:Env}{o:SO}{r:List SO}{gj:Env}{H':Hp}{acc:List (Nat×Nat)}{x:Nat×Nat}
    (h1:gP c G (o::r) env H=match gP c G r gj H' with |some (e,h,cs)=>Z (e,h,x::cs) |none=>Y)
    (h2:∀i,iX c G pairs i (o::r) env H=(iX c G pairs (i+1) r gj H').map λy=>(y.1,y.2.1,x::y.2.2.1,y.2.2.2)):
    l9 c G keep pairs un (o::r) env H acc=l9 c G keep pairs un r gj H' (acc++[x]):=by
 unfold l9;rw[h1,h2];cases gP c G r gj H' with
 |some z=>obtain⟨e,h,cs⟩:=z;simp only[j2,aoH]
 |none=>
  simp only[gG,AA];cases iX c G pairs (O acc+1) r gj H' with
  |none=>rfl
  |some z=>obtain⟨d,h,cs,k⟩:=z;simp only[fy,j2,aoH]
theorem Up(keep:List Nat)(pairs:List (Nat×Nat))(un:Env)(o:SO)(r:List SO)(env:Env)(H:Hp)(acc:List (Nat×Nat)):l9 c G keep pairs un (o::r) env H acc=y0 c G keep pairs un (fY env o.g) o r env H acc:=by
 cases hg:fY env o.g with
 |none=>
  unfold l9 y0;simp only[gP,iX,hg]
 |some b=>
  cases b with
  |false=>exact Uo (by simp only[gP,hg];cases gP c G r (put o.dst .undef env) H<;>rfl) (λi=>by simp only[iX,hg])
  |true=>
   unfold y0 yZ;dsimp only;cases hk:cH c G env H o.k with
   |none=>
    unfold l9;simp only[gP,iX,hg,hk]
   |some x=>
    obtain⟨y,H'⟩:=x;cases y with
    |val d=>exact Uo (by simp only[gP,hg,hk];cases gP c G r (put o.dst d env) H'<;>rfl) (λi=>by simp only[iX,hg,hk])
    |bN d=>
     unfold l9 Nz;simp only[gP,iX,hg,hk];cases nW c G pairs (O acc) (O acc+1) o.dst.toList r (put o.dst .undef env) H<;>rfl
@[simp] theorem apl(keep:List Nat)(pairs:List (Nat×Nat))(un:Env)(dst:Option Nat)(k:SK)(r:List SO)(env:Env)(H:Hp)(acc:List (Nat×Nat)):l9 c G keep pairs un (⟨dst,k,Y⟩::r) env H acc=yZ c G keep pairs un (cH c G env H k) ⟨dst,k,Y⟩ r env H acc:=Up ..
@[simp] theorem apm(keep:List Nat)(pairs:List (Nat×Nat))(un:Env)(dst:Option Nat)(k:SK)(g:Nat×Bool)(r:List SO)(env:Env)(H:Hp)(acc:List (Nat×Nat)):l9 c G keep pairs un (⟨dst,k,Z g⟩::r) env H acc=y0 c G keep pairs un (fY env (Z g)) ⟨dst,k,Z g⟩ r env H acc:=Up ..
@[simp] theorem apn(keep:List Nat)(pairs:List (Nat×Nat))(un:Env)(d:D)(H':Hp)(o:SO)(r:List SO)(env:Env)(H:Hp)(acc:List (Nat×Nat)):yZ c G keep pairs un (Z (.val d,H')) o r env H acc=l9 c G keep pairs un r (put o.dst d env) H' (acc++[j7 env H H' o.k]):=rfl
@[simp] theorem apo(keep:List Nat)(pairs:List (Nat×Nat))(un:Env)(d:D)(H':Hp)(o:SO)(r:List SO)(env:Env)(H:Hp)(acc:List (Nat×Nat)):yZ c G keep pairs un (Z (.bN d,H')) o r env H acc=Nz c G pairs un d H' o r env H acc:=rfl
@[simp] theorem apq(keep:List Nat)(pairs:List (Nat×Nat))(un:Env)(o:SO)(r:List SO)(env:Env)(H:Hp)(acc:List (Nat×Nat)):y0 c G keep pairs un (Z true) o r env H acc=yZ c G keep pairs un (cH c G env H o.k) o r env H acc:=rfl
@[simp] theorem apr(keep:List Nat)(pairs:List (Nat×Nat))(un:Env)(o:SO)(r:List SO)(env:Env)(H:Hp)(acc:List (Nat×Nat)):y0 c G keep pairs un (Z false) o r env H acc=l9 c G keep pairs un r (put o.dst .undef env) H (acc++[(0,0)]):=rfl

noncomputable def se (c:br) (G:Nat->Option (List PD)) (x:Option (Out×St)) (b:SC):Option (Out×St):=
 match x with
 |some (.norm,s')=>aq c G aM b s'
 |r=>r

noncomputable def Iy (c:br) (G:Nat->Option (List PD)) (t:D) (a b:SC) (s:St):Option (Out×St):=
 match t with
 | .p (.bool t)=>if t then aq c G aM a s else aq c G aM b s
 |_=>Y
def sf(id:Nat)(x:Option (Out×St)):Option (Out×St):=
 match x with
 |some (.exit i,s')=>if i=id then Z (.norm,s') else Z (.exit i,s')
 |r=>r

noncomputable def dB (c:br) (G:Nat->Option (List PD)) (keep:List Nat) (b:SC) (s:St):Option (Out×St):=aM (λs=>aq c G aM b ⟨s.env.keep keep,s.hp⟩) s
def Uq(nb nt:Nat)(x:Option (Out×St)):Option (Out×St):=x.map (bX nb nt)
def Ur(nb nt:Nat)(x:Option (Out×St)):Option (Out×St):=x.map λx=>bX nb nt (wx nb x)
def Us(x:Option St):Option (Out×St):=x.map λs=>(.norm,s)
def Ut(slot:Nat)(x:Option (D×Hp))(env:Env):Option (Out×St):=
 match x with
 |some (d,H)=>Z (.norm,⟨(slot,d)::env,H⟩)
 |none=>Y

@[simp] theorem aps(s:St):aq c G aM .skip s=Z (.norm,s):=rfl
@[simp] theorem apt(id:Nat)(s:St):aq c G aM (.exit id) s=Z (.exit id,s):=rfl
@[simp] theorem apu(s:St):aq c G aM .ret s=Z (.ret,s):=rfl
@[simp] theorem apv(b:SC)(s:St):aq c G aM (.scope b) s=aq c G aM b s:=rfl
@[simp] theorem Uu(a b:SC)(s:St):aq c G aM (.seq a b) s=se c G (aq c G aM a s) b:=rfl
@[simp] theorem apw(x:aA)(a b:SC)(env:Env)(H:Hp):aq c G aM (.cond x a b) ⟨env,H⟩=Iy c G (x.ev env) a b ⟨env,H⟩:=rfl
@[simp] theorem apx(id:Nat)(b:SC)(s:St):aq c G aM (.block id b) s=sf id (aq c G aM b s):=rfl
theorem Uv{f:St->Option (Out×St)}{s:St}(h:f s=f s'):aM f s=aM f s':=by
 have key:∀m,iter f m s=iter f m s':=by
  intro m;cases m with
  |zero=>rfl
  |succ m=>simp only[iter,h]
 cases hx:aM f s' with
 |some r=>
  obtain⟨m,hm⟩:=sU.1 hx;exact sU.2 ⟨m,by rw[key];exact hm⟩
 |none=>
  cases hy:aM f s with
  |none=>rfl
  |some r=>
   obtain⟨m,hm⟩:=sU.1 hy;rw[key] at hm;rw[sU.2 ⟨m,hm⟩] at hx;cases hx
theorem aev{ks:List Nat}{e:Env}{t:Nat}(h:t∈ks):(e.keep ks).get t=e.get t:=by
 induction ks with
 |nil=>cases h
 |cons k ks ih=>
  show(if k=t then e.get k else Env.get (xW (λt=>(t,e.get t)) ks) t)=_;split
  .rename_i hk;rw[hk]
  .rename_i hk;have :t∈ks:=by
    rcases cq.1 h with h |h
    .exact absurd h.symm hk
    .exact h
   exact ih this
theorem aew(ks:List Nat)(e:Env):(e.keep ks).keep ks=e.keep ks:=
 pN λt ht=>by rw[aev ht]
@[simp] theorem apy(keep:List Nat)(b:SC)(env:Env)(H:Hp):aq c G aM (.loop keep b) ⟨env,H⟩=dB c G keep b ⟨env.keep keep,H⟩:=
 Uv (by dsimp only;rw[aew])
@[simp] theorem apz(b:SC)(env:Env)(H:Hp):aq c G aM (.loc b) ⟨env,H⟩=Uq (O H.bx) (O H.tk) (aq c G aM b ⟨env,H⟩):=rfl
@[simp] theorem apA(slot e sz:Nat)(env:Env)(H:Hp):aq c G aM (.tok slot e sz) ⟨env,H⟩=Ut slot (pV e sz (env.get slot) H) env:=rfl
noncomputable def y9 (c:br) (G:Nat->Option (List PD)) (xs:Option (List (List D))) (fe b:SC) (env:Env) (ps:List Nat) (kb:Hp->Bool) (H:Hp):Option (Out×St):=
 match xs with
 |some xs=>kE (aq c G aM fe) (aq c G aM b) env ps kb xs H
 |none=>Y

@[simp] theorem apB(f:Nat)(gen:List D->List D->Hp->Option (List (List D)))(g:aA)(ps:List Nat)(fe b:SC)(env:Env)(H:Hp):aq c G aM (.mA f gen g ps fe b) ⟨env,H⟩=y9 c G (C9 f gen (g.ev env) H) fe b env ps (Gp (nX (g.ev env) H) H) H:=rfl
@[simp] theorem apD(f:Nat)(gen:List D->List D->Hp->Option (List (List D)))(fi cap:List D)(H:Hp):C9 f gen (.fn f fi cap) H=gen fi cap H:=by simp[C9]

@[simp] theorem apE(b:SC)(env:Env)(H:Hp):aq c G aM (.mz b) ⟨env,H⟩=Ur (O H.bx) (O H.tk) (aq c G aM b ⟨env,H⟩):=rfl
@[simp] theorem apF(slot off e sz:Nat)(s:St):aq c G aM (.tokb slot off e sz) s=Us (Gn slot off e sz s):=rfl
@[simp] theorem apG(s:St):Us (Z s)=Z (.norm,s):=rfl
@[simp] theorem apH(nb nt:Nat)(x:Out×St):Ur nb nt (Z x)=Z (bX nb nt (wx nb x)):=rfl
@[simp] theorem apI(s:St)(b:SC):se c G (Z (.norm,s)) b=aq c G aM b s:=rfl
@[simp] theorem apJ(id:Nat)(s:St)(b:SC):se c G (Z (.exit id,s)) b=Z (.exit id,s):=rfl
@[simp] theorem apK(s:St)(b:SC):se c G (Z (.ret,s)) b=Z (.ret,s):=rfl
@[simp] theorem apL(d:D)(s:St)(b:SC):se c G (Z (.bN d,s)) b=Z (.bN d,s):=rfl
@[simp] theorem apM(a b:SC)(s:St):Iy c G (.p (.bool true)) a b s=aq c G aM a s:=rfl
@[simp] theorem apN(a b:SC)(s:St):Iy c G (.p (.bool false)) a b s=aq c G aM b s:=rfl
@[simp] theorem apO(id:Nat)(s:St):sf id (Z (.norm,s))=Z (.norm,s):=rfl
@[simp] theorem apP(id:Nat)(s:St):sf id (Z (.ret,s))=Z (.ret,s):=rfl
@[simp] theorem apQ(id:Nat)(d:D)(s:St):sf id (Z (.bN d,s))=Z (.bN d,s):=rfl
@[simp] theorem apR(id i:Nat)(s:St):sf id (Z (.exit i,s))=if i=id then Z (.norm,s) else Z (.exit i,s):=rfl
@[simp] theorem apS(nb nt:Nat)(x:Out×St):Uq nb nt (Z x)=Z (bX nb nt x):=rfl
@[simp] theorem apT(slot:Nat)(d:D)(H:Hp)(env:Env):Ut slot (Z (d,H)) env=Z (.norm,⟨(slot,d)::env,H⟩):=rfl
theorem Uw{keep:List Nat}(h:aq c G aM b ⟨env.keep keep,H⟩=Z (.norm,s')):dB c G keep b ⟨env,H⟩=dB c G keep b s':=aas h
theorem Ux{keep:List Nat}{o:Out}(h:aq c G aM b ⟨env.keep keep,H⟩=Z (o,s'))(ho:o≠.norm):dB c G keep b ⟨env,H⟩=Z (o,s'):=aat h ho

@[simp] theorem apU(k:IntKind)(a b:Int):lR .add k a b=Z (.int k (k.wrap (a+b))):=rfl
@[simp] theorem apV(k:IntKind)(a b:Int):lR .sub k a b=Z (.int k (k.wrap (a-b))):=rfl
@[simp] theorem apW(k:IntKind)(a b:Int):lR .mul k a b=Z (.int k (k.wrap (a*b))):=rfl
@[simp] theorem apX(k:IntKind)(a b:Int):lR .quo k a b=if b=0 then Y else Z (.int k (k.wrap (a.tdiv b))):=rfl
@[simp] theorem apY(k:IntKind)(a b:Int):lR .rem k a b=if b=0 then Y else Z (.int k (a.tmod b)):=rfl
@[simp] theorem apZ(k:IntKind)(a b:Int):lR .eql k a b=Z (.bool (a==b)):=rfl
@[simp] theorem ap0(k:IntKind)(a b:Int):lR .neq k a b=Z (.bool (a !=b)):=rfl
@[simp] theorem ap1(k:IntKind)(a b:Int):lR .lss k a b=Z (.bool (decide (a<b))):=rfl
@[simp] theorem ap2(k:IntKind)(a b:Int):lR .leq k a b=Z (.bool (decide (a<=b))):=rfl
@[simp] theorem ap3(k:IntKind)(a b:Int):lR .gtr k a b=Z (.bool (decide (a>b))):=rfl
@[simp] theorem ap4(k:IntKind)(a b:Int):lR .geq k a b=Z (.bool (decide (a≥b))):=rfl
theorem wrap64{n:Int}(h1: -9223372036854775808<=n)(h2:n<9223372036854775808):IntKind.i64.wrap n=n:=by
 simp[IntKind.wrap,IntKind.bits,IntKind.signed];omega

@[simp] theorem ap5(f:aA)(args:List aA)(env:Env)(H:Hp):cH c G env H (.call f args)=fM c (f.ev env) (args.map (·.ev env)) H:=rfl
@[simp] theorem ap6(x:aA)(env:Env)(H:Hp):cH c G env H (.panic x)=Gl (x.ev env) H:=rfl
@[simp] theorem ap7(g:Nat)(first cap args:List D)(H:Hp):fM c (.fn g first cap) args H=au c g (first++args++cap) H:=rfl
theorem NA{f:Nat}{args:List D}{d:D}{Hl:Hp}{d':D}(h:c f args ⟨[],[]⟩=Z (.val d,Hl))(hr:D.ai args=[])(ht:D.aC args=[])(ha:D.aZ (idx []) (idx []) args=Z args)
    (hd:d.ren (λ_=>Y) (λ_=>Y)=Z d'):au c f args H=Z (.val d',H):=by
 have yL:∀n,reach H n []=[]:=by
  intro n;cases n<;>simp[reach,eQ]
 unfold au;simp only[hr,ht,ins,yL,gM,iQ,nodupB,Bool.and_self,if_true,aH,ha,h];unfold back;simp only[iD,fH,bD,if_true,tY,List.getElem?_nil,aH,bZ,bR.ren,hd,fy]

end Go.Vs

namespace Go.Vs

variable{a:Act}{R:Ending->World->Prop}{fn:Func}{H:Hp}{it:It}{fid:Nat}{w:World}
variable{P : Program} {W : World} {G : Nat -> Option (List PD)} {γ : Gh}  
theorem vd{c:Code}{Q:Exit->Act->World->Prop}(h:c.wp P Q a w):gm Y fid P c Q a w:=
 o7 (ro:=Y) ((wpIn_wide (n:=0)).2 h)
def pk(P:Program)(fn:Func)(tmps:Array Value)(R:Ending->World->Prop):List Deferred->FrameMode->World->Prop
 |[],u,w=>Leaves P fn tmps R [] u w
 |d::ds,u,w=>(u≠.run/\∃r w',d.target= .collected r/\(Instr.takeDeferred r).run P w= .ok [] w'/\pk P fn tmps R ds u w')\/Leaves P fn tmps R (d::ds) u w
theorem Bu{tmps:Array Value}{ds:List Deferred}{u:FrameMode}(h:Leaves P fn tmps R ds u w):pk P fn tmps R ds u w:=by
 cases ds with
 |nil=>exact h
 |cons d ds=>exact .inr h
theorem Uy{fn:Func}{tmps:Array Value}{R:Ending->World->Prop}:∀(ds:List Deferred) (u:FrameMode) (w:World) (fr:Go.Frame) (cs:List Go.Frame),fr.mode=u->fr.defers=ds->fr.tmps=tmps->P.funcs[fr.fn]? =Z fn->fr.kind= .normal->pk P fn tmps R ds u w->
    ∃e w' ct,R e w'/\Comes P (lone fr cs w) (lone ct cs w') e/\ct.fn=fr.fn/\ct.leaving P w' e
 |[],u,w,fr,cs,h1,h2,h3,h4,h5,h=>leaves_steps [] u w fr cs h1 h2 h3 h4 h5 h
 |d::ds,u,w,fr,cs,h1,h2,h3,h4,h5,h=>by
  rcases h with⟨hu,r,w1,ht,hk,h⟩ |h
  .have hs:=step_collected (cs:=cs) (by rw[h1];exact hu) h2 ht hk;obtain⟨e,w',ct,q1,q2,q3,q4⟩:=Uy ds u w1 ({fr with defers:=[]++ds}:Go.Frame) cs h1 rfl h3 h4 h5 h;exact⟨e,w',ct,q1,Comes.of_steps (.one hs) q2,q3,q4⟩
  .exact leaves_steps (d::ds) u w fr cs h1 h2 h3 h4 h5 h
def ve(P:Program)(fn:Func)(R:Ending->World->Prop):Exit->Act->World->Prop
 | .normal,a,w | .ret,a,w=>pk P fn a.tmps R a.defers .returning w
 | .panic chain,a,w=>pk P fn a.tmps R a.defers (.panicking chain) w
 | .outgrown,_,w=>R .outgrown w
 |_,_,_=>False
theorem NB{f:FuncId}{c:Code}{args:Array Value}(hf:P.funcs[f]? =Z fn)(hb:fn.body=Z c)
    (h:gm Y f P c (ve P fn R) {tmps:=args++mU (fn.ntmps-args.size) undef,defers:=[]} w):Calls P f args w R:=by
 intro cs;obtain⟨b,hb0⟩:∃b:Go.Frame,b={(default:Go.Frame) with fn:=f,kind:=.normal,roundOf:=Y}:=⟨_,rfl⟩;have b1:b.roundOf=Y:=by rw[hb0]
 have b2:b.fn=f:=by rw[hb0]
 have b3:b.kind= .normal:=by rw[hb0]
 have aex:Go.Frame.enter P f args .normal=b.atR {tmps:=args++mU (fn.ntmps-args.size) undef,defers:=[]} [.code c]:=by
  rw[hb0];simp[Go.Frame.enter,Go.Frame.atR,hf,hb]
 obtain⟨e,a1,w1,hq,Bi⟩:=h b [] cs b1 b2;rw[aex];have leave:∀(u:FrameMode) (todo:List Item),pk P fn a1.tmps R a1.defers u w1->∃e w' ct,R e w'/\Comes P (lone ({b.atR a1 todo with mode:=u}:Go.Frame) cs w1) (lone ct cs w') e/\ct.fn=f/\ct.leaving P w' e:=by
  intro u todo hl;obtain⟨e,w',ct,h1,h2,h3,h4⟩:=Uy a1.defers u w1 ({b.atR a1 todo with mode:=u}:Go.Frame) cs rfl rfl rfl (by show P.funcs[b.fn]? =_;rw[b2];exact hf) b3 hl;exact⟨e,w',ct,h1,h2,h3.trans b2,h4⟩
 cases e with
 |normal=>
  obtain⟨e,w',ct,h1,h2,h3,h4⟩:=leave .returning [] hq;exact⟨e,w',ct,h1,Comes.of_steps (Steps.trans (StepsIn.steps Bi) (.one (stepR_end b1))) h2,h3,h4⟩
 |ret=>
  obtain⟨todo,hs⟩:=Bi.1 b1;obtain⟨e,w',ct,h1,h2,h3,h4⟩:=leave .returning todo hq;exact⟨e,w',ct,h1,Comes.of_steps (StepsIn.steps hs) h2,h3,h4⟩
 |panic ch=>
  obtain⟨todo,hs⟩:=Bi;obtain⟨e,w',ct,h1,h2,h3,h4⟩:=leave (.panicking ch) todo hq;exact⟨e,w',ct,h1,Comes.of_steps (StepsIn.steps hs) h2,h3,h4⟩
 |outgrown=>exact⟨.outgrown,w1,b,hq,Bi.resolve_left (by rw[b3];simp),b2,trivial⟩
 |exit id=>exact hq.elim
 |goto l=>exact hq.elim
theorem NC{fn:Func}{tmps:Array Value}{R:Ending->World->Prop}{ds:List Deferred}{u:FrameMode}{B:Nat}{K:World->Prop}(hu:u≠.run)(hK:∀w,K w->pk P fn tmps R ds u w)
    (hT:∀w m,K w->B<=m->w.heap[m]? =Z (.deferred (Z []))->K (w.putObj m (.deferred Y))):∀(ms:List Nat) (w:World),K w->ms.Nodup->(∀m∈ms,B<=m/\w.heap[m]? =Z (.deferred (Z [])))->pk P fn tmps R (ms.map mark++ds) u w
 |[],w,h,_,_=>hK w h
 |m::ms,w,h,hn,hm=>by
  obtain⟨h1,h2⟩:=tW.1 hn;obtain⟨g1,g2⟩:=hm m (by simp);refine .inl ⟨hu,m,w.putObj m (.deferred Y),rfl,run_takeDeferred g2,?_⟩;refine NC hu hK hT ms _ (hT w m h g1 g2) h2 λk hk=>?_;obtain⟨k1,k2⟩:=hm k (by simp[hk]);exact⟨k1,(World.putObj_heap_other (λe=>h1 (by rw[<-e];exact hk))).trans k2⟩
def ov(fid:Nat)(P:Program):List Code->(Exit->Act->World->Prop)->Act->World->Prop
 |[],Q,a,w=>Q .normal a w
 |c::r,Q,a,w=>gm Y fid P c (Exit.then (ov fid P r Q) Q) a w
theorem Uz{fid:Nat}:∀(x:List Code) {Q Q':Exit->Act->World->Prop} {a:Act} {w:World},ov fid P x Q a w->(∀e a w,Q e a w->Q' e a w)->ov fid P x Q' a w
 |[],Q,Q',a,w,h,k=>k _ _ _ h
 |c::x,Q,Q',a,w,h,k=>by
  refine yU (P:=P) h λe a w q=>?_;cases e with
  |normal=>exact Uz x q k
  |_=>exact k _ _ _ q
theorem UA{fid:Nat}:∀(x y:List Code) (Q:Exit->Act->World->Prop) (a:Act) (w:World),ov fid P (x++y) Q a w->ov fid P x (Exit.then (ov fid P y Q) Q) a w
 |[],y,Q,a,w,h=>h
 |c::x,y,Q,a,w,h=>by
  refine yU (P:=P) h λe a w q=>?_;cases e with
  |normal=>exact UA x y Q a w q
  |_=>exact q
theorem UB{fid:Nat}:∀(x y:List Code) (Q:Exit->Act->World->Prop) (a:Act) (w:World),ov fid P x (Exit.then (ov fid P y Q) Q) a w->ov fid P (x++y) Q a w
 |[],y,Q,a,w,h=>h
 |c::x,y,Q,a,w,h=>by
  refine yU (P:=P) h λe a w q=>?_;cases e with
  |normal=>exact UB x y Q a w q
  |_=>exact q
theorem aey:∀(c:Code) {Q:Exit->Act->World->Prop} {a:Act} {w:World},ov fid P (spine c) Q a w->gm Y fid P c Q a w:=by
 intro c
 induction c with
 |seq x y Nk Nl=>
  intro Q a w h;refine tz (Nk (Uz (spine x) (UA (spine x) (spine y) Q a w h) λe a w q=>?_));cases e with
  |normal=>exact Nl q
  |_=>exact q
 |_=>
  intro Q a w h;refine yU (P:=P) h λe a w q=>?_;cases e with
  |normal=>exact q
  |_=>exact q
theorem ND{fid:Nat}:∀(x:List Code) {Q:Exit->Act->World->Prop} {a:Act} {w:World},D7 P x Q a w->ov fid P x Q a w
 |[],Q,a,w,h=>h
 |c::x,Q,a,w,h=>by
  refine yU (vd (fid:=fid) h) λe a w q=>?_;cases e with
  |normal=>exact ND x q
  |_=>exact q
theorem aez{c:br}(S:Sound P W G c)(hm:P.follows .mixedOrders=true)(hit:∀b s r,it b s=Z r->∃m,iter b m s=Z r){nt B:Nat}{fnc:Func}(hfn:P.funcs[fid]? =Z fnc){df:List Deferred}(sc:SC)(cd:List Code):
    ∀(jQ:SC),yY P nt sc cd=Z jQ->jQ.fQ P W G->∀(Q:Exit->Act->World->Prop) (γ:Gh) (s:St) (a:Act) (w:World) (out:Out) (s':St),(∀a w,¬Q .outgrown a w)->aq c G it jQ s=Z (out,s')->
     bw W G γ s.hp w->aW γ s.env a.tmps->a.tmps.size=nt->wN (Z B) df a.defers w->Post W G nt (Z B) df Q γ s.hp w out s'->ov fid P cd Q a w:=by
 fun_induction yY P nt sc cd
 all_goals (intro jQ h hG Q γ s a w out s' hQ he I E hn hd hp)
 case case1 x y c0 d r x' y' hy hx ih=>
  cases h;simp only[aq] at he;split at he
  .rename_i s1 h1;refine D2 S hm hit x c0 x' hx (ro:=Y) hG.1 (.inr ⟨rfl,⟨B,rfl⟩,fnc,hfn⟩) _ γ s a w .norm s1 hQ h1 I E hn hd λγ' a2 w2 L F J bO cE E'=>?_;exact ih y' hy hG.2 Q γ' s1 a2 w2 out s' hQ he J E' cE bO (hp.later L F)
  .rename_i hne;refine D2 S hm hit x c0 x' hx (ro:=Y) hG.1 (.inr ⟨rfl,⟨B,rfl⟩,fnc,hfn⟩) _ γ s a w out s' hQ he I E hn hd (hp.other λe a w hx q=>?_);cases out with
   |norm=>exact absurd he (hne s')
   |exit id=>cases hx;exact q
   |ret=>cases hx;exact q
   |bN d=>obtain⟨ch,rfl⟩:=hx;exact q
 case case3=>
  refine D2 S hm hit _ _ jQ h (ro:=Y) hG (.inr ⟨rfl,⟨B,rfl⟩,fnc,hfn⟩) _ γ s a w out s' hQ he I E hn hd (hp.other λe a w hx q=>?_);cases e<;>exact q
 all_goals cases h
theorem NF{e:Exit}(h:bodyPostD P fn R e a w):ve P fn R e a w:=by
 cases e with
 |normal=>exact Bu h
 |ret=>exact Bu h
 |panic ch=>exact Bu h
 |outgrown=>exact h
 |exit id=>exact h
 |goto t=>exact h
theorem aeA{c:br}(S:Sound P W G c)(hm:P.follows .mixedOrders=true)(hit:∀b s r,it b s=Z r->∃m,iter b m s=Z r){T:Nat->Option (Nat×FC)}(hT:∀f x,T f=Z x->wR P f x.1 x.2){f:Nat}{fc:FC}(hf:FOk0 P f fc){x:Gi}(hx:fc.gW=Z x)(uR:x.pre.all SC.dg=true)(hG:fc.body.fQ P W G)
    {args:List D}  {r:bR} {H':Hp} (hl:O args=fc.np) (h:iE c T G it fc ⟨entry 0 args,H⟩=Z (r,H')):wJ P W G f args H r H':=by
 obtain⟨fn,cd,h1,h2,h3,h4,h5,h6,h7⟩:=hf.ex;rw[hx] at h7;dsimp only at h7;refine⟨⟨fn,h1,h2,by rw[h3];rfl⟩,λγ w vs I hv=>?_⟩;have lT:vs.size=fc.np:=by rw[hv.1,hl]
 have hsz:(vs++mU (fn.ntmps-vs.size) undef).size=fc.nt:=by simp[h4,lT];omega
 refine NB h1 h3 (aey cd ?_);generalize hR:(fun(e:Ending) (w':World)=>∃γ',γ.le γ'/\Frame γ H w γ' H' w'/\bw W G γ' H' w'/\jA γ' r e)=R;have Eb:∀(a:Act) (w':World),¬ve P fn R .outgrown a w':=by
  rintro a w' q;have q:R .outgrown w':=q;rw[<-hR] at q;obtain⟨_,_,_,_,q⟩:=q;exact Ns q
 unfold Np at h7;split at h7
 .rename_i id ops rest DZ;split at h7
  .rename_i o hback;split at h7
   .rename_i f0 rS ts0 hop hgd;split at h7
    .rename_i pre sl f' as' b Ec bW hf' UC hb;split at h7
     .rename_i Nt;simp only[bM,mr] at h7;obtain⟨gz,HX⟩:=h7;have e1:x.pre=pre:=by rw[<-gz]
      have e2:x.ops=sl.dropLast:=by rw[<-gz]
      have e3:x.f=f':=by rw[<-gz]
      have e4:x.as=as':=by rw[<-gz]
      rw[<-e1] at Ec;rw[<-e3] at hf';rw[<-e4] at UC;rw[HX] at hb;rw[<-Aw (O x.pre) (spine cd),DZ];refine UB _ _ _ _ _ ?_;unfold iE at h;rw[hx] at h;dsimp only at h;split at h
      .rename_i s1 hs1
       -- what comes before
       refine ND _ (Nn S hm hit _ _ _ Ec uR _ γ ⟨entry 0 args,H⟩ _ w .norm s1 Eb hs1 I (Iq hv _) hsz (df:=[]) rfl λγ1 a1 w1 L1 F1 J1 cO ke E1=>?_);show ov f P (.region id ops false::rest) _ a1 w1;have cO:a1.defers=[]:=cO;have ok:=M5 bW;obtain⟨jc,kM⟩:=Ib bW;have NG:ops.toList=ops.toList.dropLast++[o]:=by
        have hb':ops.toList.getLast?=Z o:=by
         rw[Array.getLast?_toList];exact hback
        have hne:ops.toList≠[]:=by intro e;rw[e] at hb';cases hb'
        have hg:ops.toList.getLast hne=o:=by
         rw[List.getLast?_eq_some_getLast hne] at hb';exact nQ hb'
        rw[<-hg];exact(List.dropLast_concat_getLast hne).symm
       have UD:O ops.toList.dropLast=O x.ops:=by rw[e2,aoI,aoI,jc]
       have UE:∀(i:Nat) a so,ops.toList.dropLast[i]? =Z a->x.ops[i]? =Z so->p8 P ops fc.nt a so:=λi a so ha dW=>by
        rw[e2] at dW;rw[List.getElem?_dropLast] at ha dW;split at ha
        .split at dW
         .obtain⟨_,q⟩:=kM i a so ha dW;exact M4 q
         .cases dW
        .cases ha
       show gm Y f P (Code.region id ops false) _ a1 w1;refine vd (wp_region_list ?_);rw[NG];split at h
       .rename_i Bv H2 NH;refine Dt S ok.lt [o] ops.toList.dropLast x.ops γ1 s1.env s1.hp a1 w1 UD UE J1 E1 ke _ NH (λγ2 Ed NI a2 w2 hr L2 F2 J2 E2 kf gp=>?_) (λγ2 d2 Ed NI v2 a2 w2 hr _ _ _ _ _ _ _=>by cases hr);cases hr
        -- the deferral
        have aeB:a2.defers=[]:=gp.trans cO;have gQ:=cg E2 hf';have uJ:=GL E2 UC;have hw:Region.wanted o (yielded ops a2.tmps)=true:=by simp[Region.wanted,hgd]
        -- what the body gives
        have tail:∀(out:Out) (s2:St) (rv:D),aq c G it fc.body ⟨Bv.keep x.keep,H2⟩=Z (out,s2)->((rv= .p .j5/\(out= .norm\/out= .ret))\/out= .bN rv)->qy c T G it fc.res (x.f.ev Bv) (x.as.map (·.ev Bv)) rv s2=Z (r,H')->
            wpList P ops (Exit.then (ov f P rest (ve P fn R)) (ve P fn R)) [o] a2 w2:=by
         intro out s2 rv hb2 hout hend;unfold qy at hend;split at hend
         .rename_i g first cap Ii
          rw[Ii] at gQ;generalize aeC:a2.eval f0=ap8 at gQ;cases gQ with
          |fn _ fa ca _ _ aeD aeE aeF aeG=>
           have rfa:cv γ2 fa first:=⟨aeD,aeE⟩
           have rca:cv γ2 ca cap:=⟨aeF,aeG⟩;have hrun:(execOp a2.eval o).run P w2= .ok (.defer {target:=.fn (.func g) ca,args:=fa++rS.map a2.eval}) w2:=by
            simp[execOp,hop,resolve,aeC,Deferred.ofValue]
           simp only[wpList];rw[if_pos hw];left;unfold Oper.wp;rw[hrun];show ov f P rest (ve P fn R) (Act.put ({tmps:=a2.tmps,defers:={target:=.fn (.func g) ca,args:=fa++rS.map a2.eval}::a2.defers}:Act) o.dst undef) w2;have hput:∀(z:Act),z.put o.dst undef=z:=λz=>by
            have :o.dst=Y:=by simpa using Nt
            rw[this];rfl
           rw[hput,aeB];split at hend
           .rename_i dd H3 jB;obtain⟨d,hfd,rfl,rfl⟩:∃d,mD G s2.env H3 fc.res=Z d/\r= .val d/\H'=H3:=by
             rcases Uh hend with⟨s,d,hs,hd,hr1,hr2⟩ |⟨s,d,hs,_,_⟩
             .rcases hs with hs |hs
              .cases hs
              .cases hs;exact⟨d,hd,hr1,hr2⟩
             .cases hs
            -- the deferred call, wherever the body ends
            have leave:∀γ3 (a3:Act) w3 (v3:Value) (u:FrameMode),γ2.le γ3->Frame γ2 H2 w2 γ3 s2.hp w3->bw W G γ3 s2.hp w3->aW γ3 s2.env a3.tmps->aB γ3 v3 rv->
                ((u= .returning/\v3= .nilIface)\/u= .panicking [{v:=v3,recovered:=false}])->Leaves P fn a3.tmps R [{target:=.fn (.func g) ca,args:=fa++rS.map a2.eval}] u w3:=by
             intro γ3 a3 w3 v3 u L3 F3 J3 E3 V3 hu;have oU:cv γ3 (#[v3]++(fa++rS.map a2.eval++ca)) (rv::(first++x.as.map (·.ev Bv)++cap)):=by
              have uL:=((rfa.mono L3).append (uJ.mono L3)).append (rca.mono L3);have h0:cv γ3 #[v3] [rv]:=⟨rfl,λi d hd=>by
               match i with
               | 0=>simp only[ey,bM] at hd;subst hd;exact V3
               |i+1=>simp at hd⟩
              exact h0.append uL
             have wS:=SY (C:=λvs w R=>D9 P g vs w R) (λ_ _ _ _ h q=>h.mono q) (λas H r H' hc=>aea (W:=W) S hm hit hT as H r H' hc) jB γ3 w3 _ J3 oU;obtain⟨rR,aeK,uK⟩:=wS v3 _ rfl;have fin:∀u' w4,settle u'= .returning->(∃γ4,γ3.le γ4/\Frame γ3 s2.hp w3 γ4 H' w4/\bw W G γ4 H' w4/\∃v,aB γ4 v dd)->Leaves P fn a3.tmps R [] (settle u') w4:=by
              rintro u' w4 hs ⟨γ4,L4,F4,J4,_⟩;rw[hs];obtain⟨v,q1,q2⟩:=Ua J4.toInv (E3.mono L4) h6 hfd;refine⟨v,q1,?_⟩;rw[<-hR];exact⟨γ4,L1.trans (L2.trans (L3.trans L4)),F1.trans L1.base (F2.trans L2.base (F3.trans L3.base F4)),J4,v,rfl,q2⟩
             refine leaves_cons (f:=g) (args:=fa++rS.map a2.eval++ca) ?_ (by simp only[invoke];exact Mw rR _ _) ?_
             .rcases hu with⟨rfl,_⟩ |rfl<;>simp
             .rcases hu with⟨rfl,h0⟩ |rfl
              .refine(aeK h0).mono ?_;rintro e u' w4 ⟨rfl,γ4,L4,F4,J4,v4,rfl,V4⟩;exact fin _ _ rfl ⟨γ4,L4,F4,J4,v4,V4⟩
              .refine uK.mono ?_;rintro e u' w4 ⟨rfl,γ4,L4,F4,J4,v4,rfl,V4⟩;exact fin _ _ (by simp[settle]) ⟨γ4,L4,F4,J4,v4,V4⟩
            refine aez S hm hit h1 _ _ _ hb hG _ γ2 ⟨Bv.keep x.keep,H2⟩ _ w2 out s2 Eb hb2 J2 (E2.keep _) kf (B:=w2.heap.size) (df:=[{target:=.fn (.func g) ca,args:=fa++rS.map a2.eval}]) ⟨aK _,[],rfl,List.nodup_nil,λ_ h=>(iC h).elim⟩ ?_;intro γ3 a3 w3 L3 F3 J3 tA;obtain⟨hB3,ms,zh,gA,NJ⟩:=tA;have go:∀(v3:Value) (u:FrameMode),aW γ3 s2.env a3.tmps->aB γ3 v3 rv->((u= .returning/\v3= .nilIface)\/u= .panicking [{v:=v3,recovered:=false}])->pk P fn a3.tmps R a3.defers u w3:=by
             intro v3 u E3 V3 hu;rw[zh];refine NC (K:=λw4=>Frame γ2 H2 w2 γ3 s2.hp w4/\bw W G γ3 s2.hp w4) (B:=w2.heap.size) (by rcases hu with⟨rfl,_⟩ |rfl<;>simp) (λw4 h4=>Bu (leave γ3 a3 w4 v3 u L3 h4.1 h4.2 E3 V3 hu)) (λw4 m h4 iA kN=>⟨h4.1.turn iA _,h4.2.turn kN rfl (fW J2.nc.size iA) _⟩) ms w3 ⟨F3,J3⟩ gA NJ
            rcases hout with⟨rfl,rfl |rfl⟩ |rfl
            .intro Bl E3;exact go .nilIface .returning E3 (.p _ _ .j5) (.inl ⟨rfl,rfl⟩)
            .intro Bl E3;exact go .nilIface .returning E3 (.p _ _ .j5) (.inl ⟨rfl,rfl⟩)
            .intro Bl E3 v3 V3;exact go v3 _ E3 V3 (.inr rfl)
           .cases hend
         .cases hend
        split at h
        .rename_i s2 hb2;exact tail _ s2 _ hb2 (.inl ⟨rfl,.inl rfl⟩) h
        .rename_i s2 hb2;exact tail _ s2 _ hb2 (.inl ⟨rfl,.inr rfl⟩) h
        .rename_i d2 s2 hb2;exact tail _ s2 _ hb2 (.inr rfl) h
        .cases h
       .rename_i d2 Bv H2 NH;cases h;refine Dt S ok.lt [o] ops.toList.dropLast x.ops γ1 s1.env s1.hp a1 w1 UD UE J1 E1 ke _ NH (λγ2 Ed NI a2 w2 hr _ _ _ _ _ _=>by cases hr) (λγ2 d2 Ed NI v2 a2 w2 hr L2 F2 J2 V2 E2 kf gp=>?_);cases hr;show pk P fn a2.tmps R a2.defers (.panicking [{v:=v2,recovered:=false}]) w2;rw[gp.trans cO];show R (.panicked _) w2;rw[<-hR];exact⟨γ2,L1.trans L2,F1.trans L1.base F2,J2,v2,rfl,V2⟩
       .cases h
      .rename_i hne;obtain⟨out,s,eE,hp⟩:=Nr (W:=W) (γ:=γ) (H:=H) (w:=w) h6 h;refine ND _ (Nn S hm hit _ _ _ Ec uR _ γ ⟨entry 0 args,H⟩ _ w out s Eb eE I (Iq hv _) hsz (df:=[]) rfl (hp.other λe a w hx q=>?_));subst hR;cases out with
       |norm=>exact absurd eE (hne s)
       |exit id=>cases hx;exact NF (Bo q)
       |ret=>cases hx;exact NF (Bo q)
       |bN d=>obtain⟨ch,rfl⟩:=hx;exact NF (Bo q)
     .cases h7
    .cases h7
   .cases h7
  .cases h7
 .cases h7

end Go.Vs

namespace Go.Vs

variable{fc:FC}{H:Hp}{f:Nat}
variable{P : Program} {W : World} {G : Nat -> Option (List PD)} {γ : Gh}  {w : World}
theorem aeL{c:br}(S:Sound P W G c)(hm:P.follows .mixedOrders=true){it:It}(hit:∀b s r,it b s=Z r->∃m,iter b m s=Z r)(hf:FOk0 P f fc)(gA:fc.gW=Y)(hG:fc.body.fQ P W G){args:List D}{r:bR}{H':Hp}
    (hl:O args=fc.np) (h:finish G fc.res (aq c G it fc.body ⟨entry 0 args,H⟩)=Z (r,H')):wJ P W G f args H r H':=by
 obtain⟨fn,cd,h1,h2,h3,h4,h5,h6,h7⟩:=hf.ex;rw[gA] at h7;obtain⟨sk,h7⟩:=h7;refine⟨⟨fn,h1,h2,by rw[h3];rfl⟩,λγ w vs I hv=>?_⟩;have lT:vs.size=fc.np:=by rw[hv.1,hl]
 have hsz:(vs++mU (fn.ntmps-vs.size) undef).size=fc.nt:=by simp[h4,lT];omega
 refine NB h1 h3 ?_;obtain⟨out,s,hx,hp⟩:=Nr (W:=W) (γ:=γ) (H:=H) (w:=w) h6 h;generalize hR:(fun(e:Ending) (w':World)=>∃γ',γ.le γ'/\Frame γ H w γ' H' w'/\bw W G γ' H' w'/\jA γ' r e)=R at hp;have Eb:∀(a:Act) (w':World),¬ve P fn R .outgrown a w':=by
  rintro a w' q;have q:R .outgrown w':=q;rw[<-hR] at q;obtain⟨_,_,_,_,q⟩:=q;exact Ns q
 refine D2 S hm hit sk cd fc.body h7 (ro:=Y) (fid:=f) (mk:=Z w.heap.size) (df:=[]) hG (.inr ⟨rfl,⟨_,rfl⟩,fn,h1⟩) (ve P fn R) γ ⟨entry 0 args,H⟩ _ w out s Eb hx I (Iq hv _) hsz ⟨aK _,[],rfl,List.nodup_nil,λ_ h=>(iC h).elim⟩ ?_;intro γ' a' w' L F J hd;obtain⟨hB,ms,zh,aeM,NJ⟩:=hd;have go:∀(u:FrameMode),u≠.run->(∀w4,Frame γ H w γ' s.hp w4->bw W G γ' s.hp w4->Leaves P fn a'.tmps R [] u w4)->pk P fn a'.tmps R a'.defers u w':=by
  intro u hu hlv;rw[zh];exact NC (K:=λw4=>Frame γ H w γ' s.hp w4/\bw W G γ' s.hp w4) (B:=w.heap.size) hu (λw4 h4=>Bu (hlv w4 h4.1 h4.2)) (λw4 m h4 iA kN=>⟨h4.1.turn iA _,h4.2.turn kN rfl (fW I.nc.size iA) _⟩) ms w' ⟨F,J⟩ aeM NJ
 cases out with
 |norm=>
  intro hn E;refine go .returning (by simp) λw4 F4 J4=>?_;have q:=hp γ' {a' with defers:=[]} w4 L F4 J4 rfl hn E;exact Bo q
 |ret=>
  intro hn E;refine go .returning (by simp) λw4 F4 J4=>?_;have q:=hp γ' {a' with defers:=[]} w4 L F4 J4 rfl hn E;exact Bo q
 |exit id=>
  intro hn E;exact(hp γ' {a' with defers:=[]} w' L F J rfl hn E).elim
 |bN d=>
  intro hn E v V;refine go (.panicking [{v:=v,recovered:=false}]) (by simp) λw4 F4 J4=>?_;have q:=hp γ' {a' with defers:=[]} w4 L F4 J4 rfl hn E v V;exact Bo q
structure zj (P:Program) (W:World) (G:Nat->Option (List PD)) (f:Nat) (fc:FC):Prop where
 ok:FOk0 P f fc
 fQ:fc.body.fQ P W G
 pre:∀x,fc.gW=Z x->x.pre.all SC.dg=true
theorem wQ.good(h:wQ P f fc):zj P W G f fc:=by
 have h1:=h.nr;unfold FC.dg at h1;rw[bL] at h1;refine⟨h.toFOk0,SC.r7 h1.1,λx hx=>?_⟩;have h2:=h1.2;rw[hx] at h2;exact h2
theorem FOk0.good(h:FOk0 P f fc)(hd:fc.gW=Y)(hg:fc.body.fQ P W G):zj P W G f fc:=⟨h,hg,λx hx=>by rw[hd] at hx;cases hx⟩
structure Iz (P:Program) (W:World) (p:Pg):Prop where
 mixed:P.follows .mixedOrders=true
 lib:Sound P W p.G p.lib
 fn:∀f fc,p.F f=Z fc->zj P W p.G f fc
 dfn:∀f x,p.D f=Z x->wR P f x.1 x.2:=by(intro _ _ h;cases h)
theorem NK{p:Pg}(h:Iz P W p):∀n,Sound P W p.G (eT p n)
 | 0=>λf args H r H' e=>by simp only[eT] at e;cases e
 |n+1=>λf args H r H' e=>by
  simp only[eT] at e;split at e
  .rename_i r0 hr;cases e;exact h.lib f args H r H' hr
  .split at e
   .rename_i fc uF;have g:=h.fn f fc uF;split at e
    .rename_i hl;refine aeh e λr0 H0 h0=>?_;cases hd:fc.gW with
     |none=>
      unfold iE at h0;rw[hd] at h0;exact aeL (NK h n) h.mixed (it:=λb s=>iter b n s) (λb s r hr=>⟨n,hr⟩) g.ok hd g.fQ hl h0
     |some x=>exact aeA (NK h n) h.mixed (it:=λb s=>iter b n s) (λb s r hr=>⟨n,hr⟩) h.dfn g.ok hd (g.pre x hd) g.fQ hl h0
    .cases e
   .cases e
theorem aeO{p:Pg}(h:Iz P W p):Sound P W p.G (call p):=λf args H r H' e=>by
 obtain⟨n,hn⟩:=yo.1 e;exact NK h n f args H r H' hn

end Go.Vs

namespace Go.Vs
open Go.RowKit Go.ChangeShapes Go.WideShapes

variable {P : Program}
def gB(W:World):Gh:=⟨W.heap.size,λ_=>Y,λb o=>W.cell? ⟨b,o,Y⟩,[],[]⟩
structure IA (G:Nat->Option (List PD)) (W:World):Prop where
 ok:∀g cs,G g=Z cs->∀j c,cs[j]? =Z c->c.one=true/\∃v,W.cell? ⟨g,j,Y⟩=Z v/\aQ (gB W).mem v c
variable{args:Array Value}{H':Hp}{G:Nat->Option (List PD)}{W W':World}
theorem aeP(h:IA G W):Inv G (gB W) ⟨[],[]⟩ W:=by
 refine⟨aK _,λ_ _ _ h=>by simp[gB] at h,λt row n b cap h _=>by simp[gB] at h,λ_ _ _ h=>h,h.ok,rfl,λi j b ci cj h1 _ _ _ _ _=>by simp[gB] at h1,λi b cs hb _=>?_,λb o hb=>?_,λi b h1 _=>by simp[gB] at h1,rfl,λt row f hr _=>?_,λt row f hr _=>?_,λt t' b hf _=>?_⟩
 .simp[gB] at hb
 .have:=hb.mem;simp[gB] at this
 .simp[gB] at hr
 .simp[gB] at hr
 .obtain⟨row,f,cap,hr,_⟩:=hf;simp[gB] at hr
theorem UF{b:Nat}(h:j8 (gB W) ⟨[],[]⟩ b):False:=by
 rcases h with h |⟨t,row,f,cap,hr,_⟩
 .have:=h.mem;simp[gB] at this
 .simp[gB] at hr
theorem aeQ(h:IA G W):bw W G (gB W) ⟨[],[]⟩ W:=
 ⟨aeP h,rfl,Below.refl _ W,λ_ h=>(UF h).elim⟩
theorem aeR{γ':Gh}(F:Frame (gB W) ⟨[],[]⟩ W γ' H' W'):Below W.heap.size W W':=
 ⟨F.os,F.tape,F.output,F.size,λk hk=>(F.blk k hk UF).1 hk⟩
theorem aeS{p:Pg}(h:Iz P W p){f:Nat}{ds:List D}(hc:call p f ds ⟨[],[]⟩=Z (.val (.p (.bool true)),H'))(hg:IA p.G W)(hr:cv (gB W) args ds):
    Calls P f args W λe W'=>e= .returned (.bool true)/\Below W.heap.size W W':=by
 obtain⟨_,m⟩:=aeO h f ds ⟨[],[]⟩ _ _ hc;refine(m (gB W) W args (aeQ hg) hr).mono ?_;rintro e W' ⟨γ',L,F,J,v,rfl,hv⟩;rw[hv.cu.sX];exact⟨rfl,aeR F⟩

section
variable {H : Type} {enc : TypeId × Value -> H}
theorem UG(hl:laidOutB P=true){W W':World}(B:Below W.heap.size W W'):∀{ts:List TypeId} {vs:List Value} {ds:List (DataW H)} {ps:List MemPlace},(∀t∈ts,P.readableRec t=true/\t<P.types.size)->
    DataW.TrodAll enc P W 0 (λ_=>true) true ts vs ds ps->(∀x∈ps,x.block<W.heap.size)->DataW.TrodAll enc P W' 0 (λb=>decide (b<W.heap.size)) true ts vs ds ps
 |[],[],[],_,_,h,_=>h
 |t::ts,v::vs,d::ds,ps,ht,⟨p,q,h1,h2,e⟩,hlt=>by
  subst e;exact⟨p,q,Below.trod hl (ht t (by simp)).1 (ht t (by simp)).2 h1 B λx hx=>hlt x (by simp[hx]),UG hl B (λu hu=>ht u (by simp[hu])) h2 λx hx=>hlt x (by simp[hx]),rfl⟩
 |[],[],_::_,_,_,h,_=>h.elim
 |[],_::_,_,_,_,h,_=>by cases h
 |_::_,[],_,_,_,h,_=>by cases h
 |_::_,_::_,[],_,_,h,_=>by cases h
theorem aeT{fn:Func}{s:ChangeSpec}{apart fresh handsOn:Bool}{ds:List (DataW H)}{before:List MemPlace}{tb:TypeId}(hl:laidOutB P=true)
    (mY:∀t∈fn.params.toList,P.readableRec t=true/\t<P.types.size) (hv:s.vars=[]) (hW:DataW.Whole enc P fn.params.toList s.vars apart W args.toList ds [] before) (hr:fn.resultTypes= #[tb]) (hb:P.underlying tb=Z .bool)
    (hs:s.fn H (ds++[])={results:=[.lit (.bool true)],args:=ds}) (B:Below W.heap.size W W'):s.post enc P fn apart fresh handsOn false W args (.bool true) W':=by
 have hlt:=hW.lt;obtain⟨p,q,hA,hV,he,hz,hn⟩:=hW;have hq:q=[]:=by rw[hv] at hV;exact hV
 refine⟨ds,[],before,[],p,[],⟨p,q,hA,hV,he,hz,hn⟩,?_,?_,?_,?_,λh=>by cases h⟩
 .rw[hs,hr];exact trodAll_mk1 (shut_bool hb true)
 .rw[hs];refine UG hl B mY hA λx hx=>by simpa using hlt x (by rw[he];simp[hx])
 .rw[hs,hv];rfl
 .refine World.keptBut_mono (λx hx=>?_) (B.frame (λ_=>False));cases hx

end

end Go.Vs

namespace Go.Vs
theorem IB(s:List UInt8):dF 0 (.p (.str s))=Z (O s):=rfl
theorem IC:dF 1 (.p .aj)=Z 0:=rfl
theorem Bw(sz:Nat)(es:List PD):dF 1 (.p (.slice sz es))=Z (O es):=rfl
theorem ID(e0 sz:Nat)(es:List PD):dF 1 (.cC e0 sz es)=Z (O es):=rfl
theorem IE(t e sz:Nat)(es:List PD):dF 1 (.aX t e sz es)=Z (O es):=rfl
variable{γ:Gh}{es:List PD}{sz:Nat}{α β:Type}{f:α->PD}
theorem aeU{k:Nat}(h:k<O es):dE Y sz (.p (.slice sz es)) (k:Int)=Z (.ro (es[k]).cells 0):=by
 simp[dE,D.iR,h]
theorem IG{e0:Nat}{k:Nat}(h:k<O es):dE Y sz (.cC e0 sz es) (k:Int)=Z (.ro (es[k]).cells 0):=by
 simp[dE,D.iR,h]
theorem UH{t e:Nat}{k:Nat}(h:k<O es):dE Y sz (.aX t e sz es) (k:Int)=Z (.ro (es[k]).cells 0):=by
 simp[dE,D.iR,h]
theorem aeV:cv γ #[] []:=⟨rfl,λi x hx=>by simp at hx⟩
theorem Ee{v:Value}{d:D}{vs:List Value}{ds:List D}(h:aB γ v d)(k:cv γ ⟨vs⟩ ds):cv γ ⟨v::vs⟩ (d::ds):=by
 refine⟨by have:=k.1;simpa using this,λi x hx=>?_⟩
 match i with
 | 0=>simp only[ey,bM] at hx;subst hx;exact h
 |i+1=>simpa using k.2 i x (by simpa using hx)
inductive Sl (α:Type) where
 |nil
 |cJ
 |of (l:List α)
def Sl.map(f:α->β):Sl α->Sl β
 | .nil=>.nil
 | .cJ=>.cJ
 | .of l=>.of (l.map f)
def eh(sz:Nat):Sl PD->PD
 | .nil=>.aj
 | .cJ=>.slice sz []
 | .of []=>.emp sz
 | .of (e::es)=>.slice sz (e::es)
def els:Sl α->List α
 | .of l=>l
 |_=>[]
theorem NL(f:α->β)(o:Sl α):els (o.map f)=(els o).map f:=by cases o<;>rfl
theorem aeW(sz:Nat)(o:Sl PD):dF 1 (.p (eh sz o))=Z (O (els o)):=by
 match o with
 | .nil=>rfl
 | .cJ=>rfl
 | .of []=>rfl
 | .of (e::es)=>rfl
theorem aeX{o:Sl PD}{k:Nat}(h:k<O (els o)):dE Y sz (.p (eh sz o)) (k:Int)=Z (.ro ((els o)[k]).cells 0):=by
 match o with
 | .nil=>simp[els] at h
 | .cJ=>simp[els] at h
 | .of []=>simp[els] at h
 | .of (e::es)=>
  have h':k<O (e::es):=h;simp only[eh,dE,D.iR,els];simp[aD h']
theorem nh(sz:Nat)(f:α->PD)(o:Sl α):dF 1 (.p (eh sz (o.map f)))=Z (O (els o)):=by
 rw[aeW,NL,bT]
theorem ni{o:Sl α}{k:Nat}(h:k<O (els o)):dE Y sz (.p (eh sz (o.map f))) (k:Int)=Z (.ro (f (els o)[k]).cells 0):=by
 have h':k<O (els (o.map f)):=by rw[NL,bT];exact h
 rw[aeX h'];simp[NL]
theorem aeY(sz:Nat)(o:Sl PD):(D.p (eh sz o)).one=true:=by
 match o with
 | .nil=>rfl
 | .cJ=>rfl
 | .of []=>rfl
 | .of (_::_)=>rfl
theorem nj(sz:Nat)(o:Sl PD):(eh sz o).one=true:=by
 match o with
 | .nil=>rfl
 | .cJ=>rfl
 | .of []=>rfl
 | .of (_::_)=>rfl

@[simp] theorem aqa(k:IntKind)(n:Int):(D.p (.int k n)).one=true:=rfl
@[simp] theorem aqb(b:Bool):(D.p (.bool b)).one=true:=rfl
@[simp] theorem aqc(s:List UInt8):(D.p (.str s)).one=true:=rfl
@[simp] theorem aqd(sz:Nat)(es:List PD):(D.p (.slice sz es)).one=true:=rfl
@[simp] theorem aqe(sz:Nat)(es:List PD):(PD.slice sz es).one=true:=rfl
@[simp] theorem aqf:(D.p .aj).one=true:=rfl
@[simp] theorem aqg:(D.p .kB).one=true:=rfl
@[simp] theorem aqh(i o:Nat):(D.box i o).one=true:=rfl
@[simp] theorem aeZ(i:Nat):(D.dD i).one=true:=rfl
@[simp] theorem aqi(t e sz:Nat)(es:List PD):(D.aX t e sz es).one=true:=rfl
@[simp] theorem aqj(e sz:Nat)(es:List PD):(D.cC e sz es).one=true:=rfl
@[simp] theorem ae0(i o n:Nat)(c:Option Nat)(sz:Nat):(D.bH i o n c sz).one=true:=rfl
@[simp] theorem aqk(k:IntKind)(n:Int):(PD.int k n).one=true:=rfl
@[simp] theorem aql(s:List UInt8):(PD.str s).one=true:=rfl
@[simp] theorem aqm(b:Bool):(PD.bool b).one=true:=rfl
@[simp] theorem aqn:PD.aj.one=true:=rfl
theorem cP:∀l:List PD,gI (l.map D.p)=Z l
 |[]=>rfl
 |x::l=>by simp[gI,cP l]
theorem vg(l:List PD):ay (l.map D.p)=false:=by
 match l with
 |[]=>rfl
 |[x]=>rfl
 |x::y::r=>rfl

@[simp] theorem qO(f g:Nat->Option Nat):∀l:List PD,D.aZ f g (l.map D.p)=Z (l.map D.p)
 |[]=>rfl
 |x::l=>by simp[D.aZ,D.ren,qO f g l]

@[simp] theorem qP:∀l:List PD,D.ai (l.map D.p)=[]
 |[]=>rfl
 |x::l=>by simp[D.ai,D.refs,qP l]

@[simp] theorem tB:∀l:List PD,D.aC (l.map D.p)=[]
 |[]=>rfl
 |x::l=>by simp[D.aC,D.bk,tB l]
theorem bt{k:Nat}(h:k<4611686018427387904):IntKind.i64.wrap ((k:Int)+1)=((k+1 :Nat):Int):=by rw[wrap64 (by omega) (by omega)];rfl
def Rec(n:Nat)(x:PD):Prop:=∃cs,x= .agg cs/\O cs=n/\∀c∈cs,c.one=true

section
variable{c : br} {G : Nat -> Option (List PD)}  {zs : List PD} {g : Nat}   {a b : Sl α} {r : α -> α -> Bool}
 (hz:O zs=sz) (h0:0<sz) (Mb:zs.all PD.one=true) (ha:∀x∈els a,Rec sz (f x)) (hb:∀x∈els b,Rec sz (f x))
 (hc:∀(k:Nat) (h1:k<O (els a)) (h2:k<O (els b)) H,au c g [.p (f (els a)[k]),.p (f (els b)[k])] H=Z (.val (.p (.bool (r (els a)[k] (els b)[k]))),H))
 (hl:O (els a)=O (els b)) (hn:O (els a)<=4611686018427387904)
include hz h0 Mb ha hb hc hl hn

end

end Go.Vs

namespace Go.Vs
open Go.RowKit Go.ChangeShapes Go.WideShapes

variable {P : Program}
def nk(P:Program)(e:TypeId)(xs:List PD):PD:=
 match P.underlying e,xs with
 |some (.struct _),xs=>.agg xs
 |_,[x]=>x
 |_,xs=>.agg xs

inductive vh (P:Program):TypeId->List PD->Prop where
 |bool (t:TypeId) (b:Bool) (ht:P.underlying t=Z .bool):vh P t [.bool b]
 |int (t:TypeId) (k:IntKind) (n:Int) (ht:P.underlying t=Z (.int k)) (hw:(Lit.int k n).wf=true):vh P t [.int k n]
 |str (t:TypeId) (s:List UInt8) (ht:P.underlying t=Z .string) (hs:O s<=maxLen):vh P t [.str s]
 |aj (t e:TypeId) (ht:P.underlying t=Z (.slice e)):vh P t [.aj]
 |emp (t e:TypeId) (ht:P.underlying t=Z (.slice e)):vh P t [.emp (P.cellsOf e)]
 |sl (t e:TypeId) (es:List PD) (hne:es≠[]) (ht:P.underlying t=Z (.slice e)) (hl:O es<=maxLen) (h:∀x∈es,vh P e x.cells) (hs:∀x∈es,O x.cells=P.cellsOf e) (hm:∀x∈es,x=nk P e x.cells):vh P t [.slice (P.cellsOf e) es]
 |struct (t:TypeId) (fs:Array Field) (parts:List (List PD)) (ht:P.underlying t=Z (.struct fs)) (hl:O parts=fs.size) (h:∀(i:Nat) f p,fs[i]? =Z f->parts[i]? =Z p->vh P f.type p) (hs:∀(i:Nat) f p,fs[i]? =Z f->parts[i]? =Z p->O p=P.cellsOf f.type):vh P t parts.flatten
def wT(P:Program)(n:Nat):Nat->List Field->Bool
 |i,[]=>i==n
 |i,f::r=>f.offset==i&&wT P n (i+P.cellsOf f.type) r
def Ef(P:Program)(ts:List TypeId)(t:TypeId):Bool:=
 match P.underlying t with
 |some .bool=>true
 |some (.int _)=>true
 |some .string=>true
 |some (.slice e)=>ts.contains e&&decide (0<P.cellsOf e)
 |some (.struct fs)=>wT P (P.cellsOf t) 0 fs.toList&&fs.toList.all λf=>ts.contains f.type
 |_=>false
def sg(m:Mem)(cs:List Value)(xs:List PD):Prop:=O xs=O cs/\(∀x∈xs,x.one=true)/\∀(i:Nat) c x,cs[i]? =Z c->xs[i]? =Z x->aQ m c x
variable{xs:List PD}{m:Mem}
theorem sg.single{c:Value}{x:PD}(h:aQ m c x)(h1:x.one=true):sg m [c] [x]:=
 ⟨rfl,λy hy=>by simp at hy;subst hy;exact h1,λi c' x' hc hx=>by
  match i with
  | 0=>simp at hc hx;subst hc;subst hx;exact h
  |i+1=>simp at hc⟩
theorem sg.append{cs ds:List Value}{ys:List PD}(h:sg m cs xs)(k:sg m ds ys):sg m (cs++ds) (xs++ys):=by
 obtain⟨h1,h2,h3⟩:=h;obtain⟨k1,k2,k3⟩:=k;refine⟨by simp[h1,k1],λx hx=>?_,λi c x hc hx=>?_⟩
 .rcases cx.1 hx with q |q
  .exact h2 x q
  .exact k2 x q
 .by_cases hi:i<O cs
  .rw[aT hi] at hc;rw[aT (by omega)] at hx;exact h3 i c x hc hx
  .rw[cR (by omega)] at hc;rw[cR (by omega),h1] at hx;exact k3 _ c x hc hx
theorem ae1{e:TypeId}(h1:∀x∈xs,x.one=true):(nk P e xs).cells=xs:=by
 unfold nk;split
 .rfl
 .rename_i x _;have:=h1 x (by simp);cases x<;>first |rfl |cases this
 .rfl

section
variable {H : Type} {enc : TypeId × Value -> H} {W : World}
theorem UI{n:Nat}:∀{l:List Field} {off:Nat},wT P n off l=true->off<=n/\∀f∈l,f.offset+P.cellsOf f.type<=n
 |[],off,h=>by simp only[wT,beq_iff_eq] at h;exact⟨by omega,λf hf=>by simp at hf⟩
 |g::l,off,h=>by
  simp only[wT,bL,beq_iff_eq] at h;obtain⟨h1,h2⟩:=UI h.2;refine⟨by omega,λf hf=>?_⟩;rcases cq.1 hf with rfl |hf
  .have:=h.1;omega
  .exact h2 f hf

end

end Go.Vs
