/-
  A value-level evaluator for Go functions; the functions of this cut by it; plain laws. Text G3.
-/
import Derived.Test.YtgplgbonlnodeaaGreatDoorG2
import Derived.LoopN
import Derived.Scope
import Derived.Laws.ResultCell
import Derived.Recover
import Derived.Test.YtgplgbonlnodeaaGreatDoorG1
import Derived.Carry
import Derived.ChangeSlices
import Derived.ChangeMaps5
import Derived.RowKit
import Derived.SizedLaws
import Derived.Handed
open Array renaming foldl_toList->Wo,getD_eq_getD_getElem?->cg,getElem?_append->zp,getElem?_eq_getElem->oz,getElem?_eq_some_iff->gp,getElem?_toList->G6,length_toList->pF,replicate->kK
open Bool renaming and_eq_true->bG
open Classical renaming byContradiction->mM,not_not->Wx
open List renaming all_eq_true->fy,append_assoc->jE,append_cancel_right->alV,append_eq_nil_iff->sf,append_nil->gu,cons_append->gy,drop_drop->zk,drop_eq_getElem_cons->wG,drop_length->zw,drop_of_length_le->Hh,eq_nil_of_length_eq_zero->pE,getD_eq_getElem?_getD->dP,getElem?_append_left->bF,getElem?_append_right->dO,getElem?_cons_zero->iY,getElem?_drop->lT,getElem?_eq_getElem->aw,getElem?_eq_some_iff->ak,getElem?_map->cC,getElem?_of_mem->c8,getElem?_set->qv,getElem?_set_ne->bH,getElem?_set_self->fe,getElem?_take->jF,getElem?_take_of_lt->pK,getElem_mem->br,length_append->dF,length_cons->cY,length_drop->qq,length_dropLast->alY,length_eq_one_iff->alW,length_eq_zero_iff->wB,length_map->bL,length_nil->dG,length_pos_iff->r9,length_singleton->ua,map->tW,map_congr_left->nI,map_cons->bQ,map_inj_right->Wy,map_map->lV,map_nil->eE,mem_append->cu,mem_cons->bJ,mem_cons_of_mem->fX,mem_cons_self->lx,mem_map->cv,mem_map_of_mem->MY,mem_of_getElem?->bK,mem_of_mem_drop->qp,mem_of_mem_take->gP,mem_singleton->jn,nil_append->eD,nodup_append->MZ,nodup_cons->qt,nodup_nil->He,not_mem_nil->iZ,range->dH,range'->tZ,set_cons_succ->M1,set_cons_zero->M0,singleton_append->alX,take_append_drop->tX,take_of_length_le->fg,take_take->Wz,take_zero->oA
open Nat renaming add_assoc->oy,add_comm->wD,add_mul->eI,add_sub_cancel_left->pJ,le_refl->aS,le_trans->eR,lt_of_lt_of_le->r8,lt_or_ge->dI,mul_comm->pG,mul_le_mul_right->fW,one_mul->lj,zero_add->dD,zero_le->bA
open Option renaming bind_eq_some_iff->Ws,getD_some->kG,map_eq_some_iff->au,map_some->eZ
open Option.some renaming inj->lq,injEq->cH
open Prod.mk renaming injEq->nJ
open List renaming length->O
open Option renaming some->Z,none->Y
namespace Go.Vs
section
variable{P:Program}{W:World}{G:Nat->Option (List PD)}
def D9(P:Program)(nt:Nat)(ops:Array Oper)(i:Option SK)(o:Oper):Option SO:=if(match o.dst with |some t=>decide (t<nt) |none=>true) then match o.guard with|none=>Z ⟨o.dst,mZ P o i,Y⟩|some (j,w)=>match(ops[j]?).bind (·.dst) with|some t=>Z ⟨o.dst,mZ P o i,Z (t,w)⟩|none=>Y else Y
variable{ops:Array Oper}{tmps vs:Array Value}{d':D}{env:Env}{Q:Exit->Act->World->Prop}{γ γ':Gh}{H H':Hp}{it:It}{bx:List (List D)}{cs:List D}{df:List Deferred}{nt sz i b o:Nat}{mk:Option Nat}{x:Out×St}{s':St}{w w' A B:World}
theorem Jp{i:Option SK}{o:Oper}{so:SO}(h:D9 P nt ops i o=Z so):nV P ops nt o so:=by have H:∀k,mZ P o i=k->∃i,mZ P o i=k:=λk h=>⟨i,h⟩;unfold D9 at h;obtain⟨d,O,e,p,a,guard⟩:=o;generalize f:(match d with |some t=>decide (t<nt) |none=>true)=B at h;cases B with|true=>(have l:∀t,d=Z t->t<nt:=λt b=>by grind);(cases guard with|none=>cases h;exact⟨H _ rfl,rfl,l,rfl,λj w c=>by cases c⟩|some J=>obtain⟨j,w⟩:=J;(cases b:(ops[j]?).bind (·.dst) with|none=>grind|some t=>simp only[b] at h;cases h;exact⟨H _ rfl,rfl,l,by grind,λg W c=>by grind⟩))|false=>cases h
def xM(P:Program)(nt:Nat)(ops:Array Oper):List Oper->List SO->Option (List SO)|[],_=>Z []|o::r,hs=>match D9 P nt ops (hs.head?.map (·.k)) o with|some s=>(xM P nt ops r hs.tail).map (s:: ·)|none=>Y
def Ea(P:Program)(nt:Nat)(ops:Array Oper)(hs:List SO):Option (List SO):=xM P nt ops ops.toList hs
theorem Eb{n:Nat}{o:Array Oper}:∀{l:List Oper} {s r:List SO},xM P n o l s=Z r->O l=O r/\∀(i:Nat) a b,l[i]? =Z a->r[i]? =Z b->∃h,D9 P n o h a=Z b|[],s,r,h=>by simp only[xM,cH] at h;grind|x::l,s,r,h=>by simp only[xM] at h;split at h;{obtain⟨r',hr,rfl⟩:=au.1 h;obtain⟨H,c⟩:=Eb hr;grind};cases h
theorem Ec{c d:Type}{f:c->Option d}:∀{l:List c} {r:List d},aF f l=Z r->O l=O r/\∀(i:Nat) a b,l[i]? =Z a->r[i]? =Z b->f a=Z b|[],r,h=>by simp only[aF,cH] at h;grind|x::l,r,h=>by simp only[aF] at h;split at h;{obtain⟨r',hr,rfl⟩:=au.1 h;obtain⟨H,e⟩:=Ec hr;grind};cases h
structure aam P nt (ops:Array Oper) (sl:List SO):Prop where
 len:ops.size=O sl
 of:∀(i:Nat) o so,ops[i]? =Z o->sl[i]? =Z so->nV P ops nt o so
 lt:∀(j:Nat) o' t,ops[j]? =Z o'->o'.dst=Z t->t<nt
theorem Jq{H s:List SO}(h:Ea P nt ops H=Z s):aam P nt ops s:=by
 obtain⟨e,b⟩:=Eb h;have f:∀i o S,ops[i]? =Z o->s[i]? =Z S->nV P ops nt o S:=λi o S a H=>by obtain⟨g,q⟩:=b i o S (by simpa using a) H;exact Jp q
 refine⟨(by grind),f,λj c t a d=>?_⟩;have k:j<O s:=by grind
 exact(f j c s[j] a (by grind)).lt t d
def dp(P:Program)(nt:Nat):SC->Code->Option SC| .loc b,c=>(dp P nt b c).map .loc| .skip,.skip=>Z .skip| .skip,.label _=>Z .skip| .region k hs,.region _ ops false=>if ops.toList.all uV then(Ea P nt ops hs).map (.region k) else Y| .draw k aW hs,.region _ ops true=>(match Ea P nt ops hs with|some sl=>if xC aW ops.toList sl&&ops.toList.all uV then Z (.draw k aW sl) else Y|none=>Y)| .j5 f n _ _ a b,.rangeFunc g ps x y=>(match aN g,dp P nt a x,dp P nt b y with|some G,Z A,Z B=>if A.cT&&B.cT&&ps.toList.all (λp=>decide (p<nt)) then Z (.j5 f n G ps.toList A B) else Y|_,_,_=>Y)| .seq (.tok s e z) b,c=>if s<nt/\0<z then(dp P nt b c).map (.seq (.tok s e z)) else Y| .seq (.tokb s off e z) b,c=>if s<nt/\0<z then(dp P nt b c).map (.seq (.tokb s off e z)) else Y| .seq a b,.seq x y=>(match dp P nt a x,dp P nt b y with|some A,Z B=>Z (.seq A B)|_,_=>Y)| .cond _ a b,.cond c x y=>(match aN c,dp P nt a x,dp P nt b y with|some c',Z A,Z B=>Z (.cond c' A B)|_,_,_=>Y)| .block _ b,.block id x=>(dp P nt b x).map (.block id)| .loop k b,.loop x=>(dp P nt b x).map (.loop k)| .scope b,.scope x=>(dp P nt b x).map .scope| .exit _,.exit id=>Z (.exit id)| .ret,.ret=>Z .ret| .j4 b,c=>(dp P nt b c).map .j4| .stuck,_=>Z .stuck|_,_=>Y
def kU(W:World)(G:Nat->Option (List PD))(nt:Nat)(mk:Option Nat)(df:List Deferred)(Q:Exit->Act->World->Prop)(γ:Gh)(H:Hp)(w:World)(o:Out)(s':St):Prop:=∀γ' a w',γ.le γ'->Frame γ H w γ' s'.hp w'->bz W G γ' s'.hp w'->sO mk df a.defers w'-> match o with| .norm=>a.tmps.size=nt->bf γ' s'.env a.tmps->Q .normal a w'| .exit id=>a.tmps.size=nt->bf γ' s'.env a.tmps->Q (.exit id) a w'| .ret=>a.tmps.size=nt->bf γ' s'.env a.tmps->Q .ret a w'| .bM d=>a.tmps.size=nt->bf γ' s'.env a.tmps->∀v,aG γ' v d->Q (.panic [{v,recovered:=false}]) a w'
theorem kU.later{a:Gh}{c:Hp}{d:World}{o:Out}(h:kU W G nt mk df Q γ H w o s')(L:γ.le a)(F:Frame γ H w a c d):kU W G nt mk df Q a c d o s':=λb A e l f=>h b A e (L.trans l) (F.trans L.base f)
theorem kU.other{c:Exit->Act->World->Prop}{o:Out}(h:kU W G nt mk df Q γ H w o s') (k:∀e a w,(match o with | .norm=>e= .normal | .exit id=>e= .exit id | .ret=>e= .ret | .bM _=>∃C,e= .panic C)->Q e a w->c e a w):kU W G nt mk df c γ H w o s':=by intro b A d f g i j;have:=h b A d f g i j;grind
theorem PE{v:Value}{d:D}{e:Nat}(I:Inv G γ H w)(h:mS e sz d H=Z (d',H'))(a:aG γ v d):∃γ',γ.le γ'/\Frame γ H w γ' H' w/\Inv G γ' H' w/\aG γ' v d':=by unfold mS at h;split at h;{cases h;have c:=a.cn.pS;subst c;let r:Row:=⟨e,sz,λn=>if n=0 then Z Y else Y⟩;obtain⟨B,f,g⟩:=I.C6 r 0 Y rfl (by grind) rfl (by grind) (by grind);refine⟨_,B,f,g,?_⟩;exact .aP _ _ _ _ _ r Y (by rw[<-I.eT];simp) rfl rfl (.jt _ _ _) rfl rfl};{rename_i e' gK es;split at h;{rename_i hc;obtain⟨rfl,rfl,_⟩:=hc;cases h;cases a with|cw b n _ _ E i t l p=>subst l;let r:Row:=⟨e',gK,λn=>if n=O es then Z (Z (b,O es)) else Y⟩;obtain⟨B,f,g⟩:=I.C6 r (O es) (Z (b,O es)) (by simp[r]) (by grind) ⟨⟨aS _,t⟩,λh=>by omega⟩ (by grind) (by grind);refine⟨_,B,f,g,?_⟩;exact .aP _ _ _ _ _ r (Z (b,O es)) (by rw[<-I.eT];simp) rfl rfl (p.mono B.mem) (by simp[r]) rfl};cases h};{split at h;{rename_i hc;obtain⟨rfl,rfl⟩:=hc;cases h;exact⟨γ,.refl γ,.refl γ H w,I,a⟩};cases h};cases h
theorem bf.tok(E:bf γ env tmps)(L:γ.le γ'){s:Nat}{d:D}(h:aG γ' (tmps.getD s undef) d):bf γ' ((s,d)::env) tmps:=λt=>by simp only[Env.get];split;{grind};exact(E t).mono L
theorem Inv.aan(I:Inv G γ H w){k:Nat}{d:D}(u:γ.boxes[i]? =Z b)(g:H.bx[i]? =Z cs)(F:cs[k]? =Z d)(J:d'.one=true)(r:az cs=false)(K:∀vs T fr,w.heap[b]? =Z (.cells vs T fr)->aG γ (vs.getD k undef) d'): Frame γ H w γ {H with bx:=H.bx.set i (cs.set k d')} w/\Inv G γ {H with bx:=H.bx.set i (cs.set k d')} w:=by have A:=(ak.1 g).1;(have n:cs≠[]:=λe=>by grind);have f:∀t c,cO γ {H with bx:=H.bx.set i (cs.set k d')} t c->cO γ H t c:=λt c h=>cO.congr (λ_ _ h=>h) (λ_ _ h=>h) h;refine⟨⟨rfl,rfl,rfl,aS _,λ_ _ _=>⟨λ_=>rfl,.refl _ _⟩,λ_ _ _ _=>rfl,λ_ h=>.inl (Lv.set g n h),λt b h=>.inl (f t b h),λ_ h=>.inl h⟩,I.size,I.bq,I.gI,I.mem,I.gU,by simp[I.cK],I.C4 g n,?_,λc o h=>I.fS c o (Lv.set g n h),λj c p s=>by by_cases a:i=j;{simp_all};rw[bH a] at s;exact I.gJ j c p s,I.eT,I.row,I.gV,λt v b h B=>I.free t v b (f t b h) (f v b B)⟩;intro j c C p s;by_cases a:i=j;{subst a;rw[u] at p;cases p;rw[fe A] at s;cases s;obtain⟨vs,T,fr,Q,y,L,E⟩:=I.box i b cs u g;rw[gA r] at Q;(have l:∀x∈cs.set k d',x.one=true:=λx M=>by grind);refine⟨vs,T,fr,(gA (zK l) _).trans Q,⟨by simpa using y.1,λm x z=>?_⟩,λ_=>l,λN=>E (by grind)⟩;by_cases hkm:k=m;{grind};rw[bH hkm] at z;exact y.2 m x z};rw[bH a] at s;exact I.box j c C p s
theorem aap{e:Nat}{d:D}(h:mS e sz d H=Z (d',H')):H'.bx=H.bx/\d'.one=true:=by unfold mS at h;split at h;{cases h;exact⟨rfl,rfl⟩};{split at h<;>cases h;exact⟨rfl,rfl⟩};{split at h<;>cases h;exact⟨rfl,rfl⟩};cases h
theorem aaq{S off e:Nat}{s:St}(I:Inv G γ s.hp w)(h:CS S off e sz s=Z s')(E:bf γ s.env tmps):∃γ',γ.le γ'/\Frame γ s.hp w γ' s'.hp w/\Inv G γ' s'.hp w/\bf γ' s'.env tmps:=by unfold CS at h;split at h;{rename_i i o aar;split at h;{rename_i cs cQ;split at h;{cases h;exact⟨γ,.refl γ,.refl γ _ w,I,E⟩};rename_i m;(have m:=by simpa using m);split at h;{rename_i d hd;split at h;{rename_i d' H' ht;cases h;have a:=E S;rw[aar] at a;generalize tmps.getD S undef=v at a;cases a with|box _ _ b H=>obtain⟨j,T,r,Q,c,k,l⟩:=I.box i b cs H cQ;rw[gA m] at Q;obtain⟨γ',L,F,J,V⟩:=PE I ht (c.2 _ d hd);obtain⟨t1,t2⟩:=aap ht;obtain⟨f,g⟩:=J.aan (L.boxes _ _ H) (by grind) hd t2 m (by grind);exact⟨γ',L,F.trans L.base f,g,λt=>(E t).mono L⟩};cases h;exact⟨γ,.refl γ,.refl γ _ w,I,E⟩};cases h};cases h};cases h;exact⟨γ,.refl γ,.refl γ _ w,I,E⟩
def Gh.cut(γ:Gh)(nb nt:Nat):Gh:={γ with boxes:=γ.boxes.take nb,rows:=γ.rows.take nt}
theorem Jr{n j:Nat}(h:below n i=Z j):i<n/\j=i:=by unfold below at h;grind
theorem PG γ nb nt:Ren γ (γ.cut nb nt) (below nb) (below nt):=by refine⟨rfl,λ_ _ h=>h,λ_ _ _ h=>h,λi j b H c=>?_,λt u r a d=>?_⟩;{obtain⟨h1,rfl⟩:=Jr H;show(γ.boxes.take nb)[j]? =Z b;grind};obtain⟨h1,rfl⟩:=Jr a;refine⟨r,?_,rfl,rfl,λ_ _ h=>h⟩;show(γ.rows.take nt)[u]? =Z r;grind
theorem mr{b:Type}{l:List b}{n:Nat}{a:b}(h:(l.take n)[i]? =Z a):i<n/\l[i]? =Z a:=by grind
theorem Js{nb:Nat}{t:Nat}(h:cO (γ.cut nb nt) ⟨bx,H.tk.take nt⟩ t b):cO γ H t b:=by obtain⟨r,f,c,a,d,e,g⟩:=h;exact⟨r,f,c,(mr a).2,(mr d).2,e,g⟩
theorem Ed(_:Inv G γ H w){nb:Nat}(_:nb<=O H.bx)(r:aF (D.aR (below nb) (below nt)) (H.bx.take nb)=Z bx)(h:(γ.cut nb nt).boxes[i]? =Z b)(a:bx[i]? =Z cs): γ.boxes[i]? =Z b/\∃c,H.bx[i]? =Z c/\D.aR (below nb) (below nt) c=Z cs:=by obtain⟨e,d⟩:=mr h;obtain⟨c,Q,f⟩:=l7 r a;grind
theorem PH(J:Inv G γ H w){nb:Nat}(a:nb<=O H.bx){tk:List Nat}(r:aF (D.aR (below nb) (below nt)) (H.bx.take nb)=Z bx)(h:Lv (γ.cut nb nt) ⟨bx,tk⟩ b):Lv γ H b:=by obtain⟨i,s,c,d,e⟩:=h;obtain⟨Q,C,f,g⟩:=Ed J a r c d;exact⟨i,C,Q,f,jN g e⟩
theorem PI{bi ti:Nat->Option Nat}{c:List D}(h:D.aR bi ti c=Z []):c=[]:=by cases c with|nil=>rfl|cons d r=>have:=(l8 h).1;simp at this
theorem aas(J:Inv G γ H w){nb:Nat}(l:nb<=O H.bx)(W:nt<=O H.tk)(g:aF (D.aR (below nb) (below nt)) (H.bx.take nb)=Z bx): Inv G (γ.cut nb nt) ⟨bx,H.tk.take nt⟩ w:=by obtain⟨X,m⟩:=Ec g;refine⟨J.size,J.bq,λt R n b p c d=>J.gI t R n b p (mr c).2 d,J.mem,J.gU,?_,λi j b Y cj c d s u N v=>?_,λi b x c d=>?_,λb o h=>J.fS b o (PH J l g h),λi b c d=>?_,?_,λt R f c d=>?_,λt R f c d=>J.gV t R f (mr c).2 (mr d).2,λt y b h z=>J.free t y b (Js h) (Js z)⟩;{have:=J.cK;show(γ.boxes.take nb).length=O bx;grind};{obtain⟨e,c0,Q,k⟩:=Ed J l g c s;obtain⟨A,B,E,I⟩:=Ed J l g d u;exact J.nodup i j b c0 B e A Q E (jN k N) (jN I v)};{obtain⟨hi,Jt⟩:=mr c;have a:=m i _ x (by grind:(H.bx.take nb)[i]? =Z (H.bx[i]'(by omega))) d;obtain⟨V,T,F,e,Q,k,K⟩:=J.box i b _ Jt (aw (by omega));exact⟨V,T,F,(C1 (uM a) _).trans e,DB (PG γ nb nt) Q a,λL=>DC a (k ((uM a).symm.trans L)),λM=>K (jN a M)⟩};{obtain⟨e,c0,Q,k⟩:=Ed J l g c d;have:=PI k;subst this;exact J.gJ i b e Q};{have:=J.eT;show(γ.rows.take nt).length=O (H.tk.take nt);simp;omega};obtain⟨r,e,Q⟩:=J.row t R f (mr c).2 (mr d).2;refine⟨r,e,?_⟩;cases r with|none=>exact Q|some bc=>refine⟨Q.1,λP=>?_⟩;obtain⟨C,F,S,U,a3,a4,a5,a6⟩:=Q.2 P;exact⟨C,F,S,U,a3,a4,a5,λh=>a6 (gP h)⟩
theorem PJ(I:bz W G γ H w)(h:kU W G nt mk df Q γ H w (cx (O H.bx) (O H.tk) x).1 (cx (O H.bx) (O H.tk) x).2):kU W G nt mk df Q γ H w x.1 x.2:=by unfold cx at h;split at h;{rename_i hc;split at h;{rename_i bx o dw ho;intro a A g L F J l;have R:=PG a (O H.bx) (O H.tk);(have j:γ.le (a.cut (O H.bx) (O H.tk)):=by refine⟨L.base,L.bq,L.mem,λi b p=>?_,λt r s=>?_⟩;{show(a.boxes.take (O H.bx))[i]? =Z b;rw[pK (by rw[<-I.cK];grind)];exact L.boxes i b p};obtain⟨r',q1,q2⟩:=L.rows t r s;refine⟨r',?_,q2⟩;show(a.rows.take (O H.tk))[t]? =Z r';rw[pK (by rw[<-I.eT];grind)];exact q1);have k:Frame γ H w (a.cut (O H.bx) (O H.tk)) ⟨bx,x.2.hp.tk.take (O H.tk)⟩ g:=⟨F.os,F.tape,F.output,F.size,F.bI,F.mem,λb c=>F.box b (PH J.toInv hc.1 dw c),λt b c=>F.qE t b (Js c),λb c=>F.qF b (gP c)⟩;have:=h _ A g j k (I.up j k (aas J.toInv hc.1 hc.2 dw)) l;(have u:bf a x.2.env A.tmps->bf (a.cut (O H.bx) (O H.tk)) (x.2.env.map λy=>(y.1,(y.2.ren (below (O H.bx)) (below (O H.tk))).getD .dead)) A.tmps:=λE t=>by rw[(by intro e;induction e with|nil=>rfl|cons y e C=>simp only[bQ,Env.get];grind:∀(e:Env),Env.get (e.map λy=>(y.1,(y.2.ren (below (O H.bx)) (below (O H.tk))).getD .dead)) t=((e.get t).ren (below (O H.bx)) (below (O H.tk))).getD .dead)];cases n:(x.2.env.get t).ren (below (O H.bx)) (below (O H.tk)) with|none=>exact .dead _|some z=>exact uL R (E t) n);obtain⟨X,K⟩:=x;cases X with|norm=>cases ho;grind|exit id=>cases ho;grind|ret=>cases ho;grind|bM d=>obtain⟨z,f,rfl⟩:=au.1 ho;exact λm E v B=>this m (u E) v (uL R B f)};exact h};exact h
section
def oS(γ:Gh)(H:Hp)(nb b:Nat):Prop:=∃(i:Nat) (cs:List D),nb<=i/\γ.boxes[i]? =Z b/\H.bx[i]? =Z cs/\cs≠[]
theorem oS.lv{nb:Nat}(h:oS γ H nb b):Lv γ H b:=by obtain⟨i,c,_,a,d,e⟩:=h;exact⟨i,c,a,d,e⟩
open Classical in noncomputable def Gh.jy (γ:Gh) (H:Hp) (w:World) (nb:Nat):Gh:={γ with mem:=λb o=>if oS γ H nb b then(match w.heap[b]? with |some (.cells vs _ _)=>vs[o]? |_=>Y) else γ.mem b o}
noncomputable def Gh.ra (γ:Gh) (H:Hp) (w:World) (nb:Nat):Gh:={γ.jy H w nb with boxes:=γ.boxes.take nb}
theorem Gh.AH{nb:Nat}(h:¬oS γ H nb b):(γ.jy H w nb).mem b o=γ.mem b o:=by simp[Gh.jy,h]
theorem Gh.AK(I:Inv G γ H w) nb:γ.le (γ.jy H w nb):=by refine⟨rfl,λ_ _ h=>h,λb o v h=>?_,λ_ _ h=>h,λt r h=>⟨r,h,rfl,rfl,λ_ _ h=>h⟩⟩;rw[Gh.AH];{exact h};intro hb;rw[I.fS b o hb.lv] at h;cases h
theorem Gh.Ee{nb:Nat}{T:Nat}{fr:Nat×Nat}(h:oS γ H nb b)(a:w.heap[b]? =Z (.cells vs T fr)) o:(γ.jy H w nb).mem b o=vs[o]?:=by simp[Gh.jy,h,a]
theorem Gh.aat{nb:Nat}{es:Array MapEntry}{c:Nat}(h:oS γ H nb b)(a:w.heap[b]? =Z (.map es c)):(γ.jy H w nb).mem b o=Y:=by simp[Gh.jy,h,a]
theorem AL{k:Nat}:∀f (d:D),d.one=true->(d.aB k H f).one=true| 0,d,h=>h|f+1,d,h=>by (cases d<;>simp only[D.aB]<;>first |exact h |(simp[D.one] at h) |skip);{split<;>rfl};{split;{split;{split;{rfl};split<;>rfl};rfl};rfl};{split;{split;{split;{split<;>rfl};rfl};rfl};rfl};{split<;>rfl};split;{split;{split;{split<;>rfl};rfl};rfl};rfl
theorem oe(J:Inv G γ H w){nb:Nat}:∀f {v:Value} {d:D},aG (γ.jy H w nb) v d->aG (γ.jy H w nb) v (d.aB nb H f)
 | 0,v,d,r=>r
 |f+1,v,d,r=>by
  have hle:=Gh.AK J nb;have box:∀i b C j,nb<=i->γ.boxes[i]? =Z b->H.bx[i]? =Z C->j<O C->oS γ H nb b:=λi b C j hi K B N=>
   ⟨i,C,hi,K,B,λe=>by subst e;simp at N⟩
  cases r with
  |box i l b K=>
   simp only[D.aB];split
   .rename_i A;split
    .rename_i C cQ;split
     .exact .box i l b K
     rename_i X;have X:=by simpa using X
     split
     .rename_i ps re;obtain⟨V,T,fr,q1,q2,Y,_⟩:=J.box i b C K cQ;rw[gA X] at q1;have Y:=Y X;obtain⟨l1,l2⟩:=uD re;have Q:=λj N=>Gh.Ee (H:=H) (box i b C j A K cQ N) q1 j;have hl:O ps=O C:=by rw[l1];simp
      have q:=aG.ro b 0 l ps (λj=>V.getD j undef) (λj N=>by
       rw[dD,Q j (by omega)];have :j<V.size:=by have:=q2.1;omega
       simp[cg,this]) (λj c B=>by
       obtain⟨d0,M,P⟩:=l2 j c B;simp only[cC,au] at M;obtain⟨d1,u,rfl⟩:=M;exact⟨uE (oe J f ((q2.2 j d1 u).mono hle)) P,zV P (AL f d1 (Y d1 (bK u)))⟩)
      rw[dD] at q;exact q
     .exact .box i l b K
    .exact .box i l b K
   .exact .box i l b K
  |aZ i l n c z b W K B R=>
   simp only[D.aB];split
   .rename_i A;split
    .rename_i C cQ;split
     .rename_i E;obtain⟨X,E,hs⟩:=E;split
      .rename_i ps re;obtain⟨V,T,fr,q1,q2,Y,_⟩:=J.box i b C K cQ;rw[gA X] at q1;have Y:=Y X;obtain⟨l1,l2⟩:=uD re;have Q:=λj N=>Gh.Ee (box i b C j A K cQ N) q1 j;have jc:O ps=n*z:=by rw[l1,bL,sB _ _ _ E];omega
       have hel:∀j c,ps[j]? =Z c->aU (γ.jy H w nb).mem (V.getD (l+j) undef) c/\c.one=true:=λj c B=>by
        obtain⟨d0,M,P⟩:=l2 j c B;simp only[cC,au] at M;obtain⟨d1,u,rfl⟩:=M;have F:=u;rw[uA] at F;split at F
        .exact⟨uE (oe J f ((q2.2 _ d1 F).mono hle)) P,zV P (AL f d1 (Y d1 (bK F)))⟩
        .cases F
       have I:∀p∈ps,p.one=true:=λp hp=>by
        obtain⟨j,N⟩:=c8 hp;exact(hel j p N).2
       obtain⟨c1,c2⟩:=Dp hs n ps jc I;have S:∀k j,k<n->j<z->k*z+j<n*z:=λk j A N=>by
        calc k*z+j<k*z+z:=by omega
         _=(k+1)*z:=by rw[eI,lj]
         _<=n*z:=fW _ A
       have q:=aU.sl (m:=(γ.jy H w nb).mem) b l W z (chunks z n ps) (λk j=>V.getD (l+(k*z+j)) undef) (by rw[c1];exact B) (λe he=>by
        obtain⟨k,A⟩:=c8 he;have sP:k<n:=by rw[<-c1];exact(ak.1 A).1
        have h0:=S k 0 sP hs;have h1:=S k (z-1) sP (by omega);rw[c2 k e A];simp;omega) (λe he c L=>by
        obtain⟨k,A⟩:=c8 he;rw[c2 k e A] at L;exact I c (qp (gP L))) (λk j A N=>by
        rw[c1] at A;have:=S k j A N;rw[Q _ (by omega)];rw[<-oy];simp[cg,(by have:=q2.1;omega:l+k*z+j<V.size)]) (λk e j c A B=>by
        grind)
       rw[c1] at q;exact .p _ _ q
      .exact .aZ i l n c z b W K B R
     .exact .aZ i l n c z b W K B R
    .exact .aZ i l n c z b W K B R
   .exact .aZ i l n c z b W K B R
  |af i e n z b W K B L fk ju=>
   simp only[D.aB];split
   .rename_i A;split
    .rename_i C cQ;split
     .rename_i E;obtain⟨X,E,hs⟩:=E;split
      .rename_i ps re;obtain⟨V,T,fr,q1,q2,Y,_⟩:=J.box i b C K cQ;rw[gA X] at q1;obtain⟨l1,l2⟩:=uD re;have Q:=λj N=>Gh.Ee (box i b C j A K cQ N) q1 j;have jc:O ps=n*z:=by rw[l1,bL,sB _ _ _ E];omega
       have hel:∀(j:Nat) c,ps[j]? =Z c->aU (γ.jy H w nb).mem (V.getD (0+j) undef) c/\c.one=true:=λj c B=>by
        obtain⟨d0,M,P⟩:=l2 j c B;simp only[cC,au] at M;obtain⟨d1,u,rfl⟩:=M;have F:=u;rw[uA] at F;split at F
        .exact⟨uE (oe J f ((q2.2 _ d1 F).mono hle)) P,zV P (AL f d1 ((Y X) d1 (bK F)))⟩
        .cases F
       have I:∀p∈ps,p.one=true:=λp hp=>by
        obtain⟨j,N⟩:=c8 hp;exact(hel j p N).2
       obtain⟨c1,c2⟩:=Dp hs n ps jc I;have S:∀k j,k<n->j<z->k*z+j<n*z:=λk j A N=>by
        calc k*z+j<k*z+z:=by omega
         _=(k+1)*z:=by rw[eI,lj]
         _<=n*z:=fW _ A
       have q:=aU.sl (m:=(γ.jy H w nb).mem) b 0 W z (chunks z n ps) (λk j=>V.getD (0+(k*z+j)) undef) (by rw[c1];exact B) (λe' he=>by
        obtain⟨k,A⟩:=c8 he;have h1:=S k (z-1) (by rw[<-c1];exact(ak.1 A).1) (by omega);rw[c2 k e' A];simp;omega) (λe' he c L=>by
        obtain⟨k,A⟩:=c8 he;rw[c2 k e' A] at L;exact I c (qp (gP L))) (λk j A N=>by
        rw[c1] at A;have:=S k j A N;rw[Q _ (by omega)];rw[<-oy];rw[cg,oz (by have:=q2.1;omega)];rfl) (λk e' j c A B=>by
        rw[c2 k e' A,jF] at B;split at B
        .rw[lT] at B;exact(hel _ c B).1
        .cases B)
       rw[c1] at q;exact .p _ _ q
      .exact .af i e n z b W K B L fk ju
     .exact .af i e n z b W K B L fk ju
    .exact .af i e n z b W K B L fk ju
   .exact .af i e n z b W K B L fk ju
  |agg C ds hl qD hr=>
   refine zT ⟨by simpa using hl,λi d U=>?_⟩ (λd U=>?_)
   .simp only[cC,au] at U;obtain⟨d1,u,rfl⟩:=U;exact oe J f (hr i d1 u)
   .obtain⟨d1,u,rfl⟩:=cv.1 U;exact AL f d1 (qD d1 u)
  |aL C ds hl hr=>
   refine .aL C _ (by simpa using hl) λi d U=>?_;simp only[cC,au] at U;obtain⟨d1,u,rfl⟩:=U;exact oe J f (hr i d1 u)
  |dK t v d h=>
   simp only[D.aB];have q:=oe J f h;split
   .rename_i y hy;rw[hy] at q;exact .p _ _ (.iface t v y q.cn)
   .exact .dK t v _ q
  |dead v=>exact .dead v
  |undef=>exact .undef
  |p v x h=>exact .p v x h
  |cw b n e z es M P a3 a4=>exact .p _ _ (uE (.cw b n e z es M P a3 a4) rfl)
  |aP v t e z es row r M P a3 a4 a5 a6=>exact .aP v t e z es row r M P a3 a4 a5 a6
  |dJ g l=>exact .dJ g l
  |ro b o l C V M P=>exact .ro b o l C V M P
  |fn f0 as C ds es M P a3 a4=>
   refine .fn f0 as C _ _ (by simpa using M) (λi d U=>?_) (by simpa using a3) (λi d U=>?_)
   .simp only[cC,au] at U;obtain⟨d1,u,rfl⟩:=U;exact oe J f (P i d1 u)
   .simp only[cC,au] at U;obtain⟨d1,u,rfl⟩:=U;exact oe J f (a4 i d1 u)
  |eJ a z=>exact .eJ a z
  |eF a n z es hn hx=>exact .eF a n z es hn hx
  |bO i b M=>exact .bO i b M
  |bu as C kd ks ds s M P a3 a4 a5 a6 a7 a8 a9=>exact .bu as C kd ks ds s M P a3 a4 a5 a6 a7 a8 a9
theorem aau{k:Nat}:∀f d,Ab (D.aB k H f d)=Ab d| 0,d=>rfl|f+1,d=>by cases d with|aZ i o n c s=>simp only[D.aB];split;{split;{split;{split<;>rfl};rfl};rfl};rfl|af i e n s=>simp only[D.aB];split;{split;{split;{split<;>rfl};rfl};rfl};rfl|box i o=>simp only[D.aB];split;{split;{split;{rfl};split<;>rfl};rfl};rfl|agg C=>simp only[D.aB,bY];split<;>rfl|dK t d=>simp only[D.aB];split<;>rfl|_=>rfl
theorem aav{k:Nat} f (cs:List D):az (cs.map (D.aB k H f))=az cs:=by match cs with|[]=>rfl|[d]=>rw[bQ,eE,Dz,Dz,aau]|d::e::r=>rw[bQ,bQ,DA,DA]
theorem Ju(γ:Gh) H w nb:Ren (γ.jy H w nb) (γ.ra H w nb) (below nb) Z:=by refine⟨rfl,λ_ _ h=>h,λ_ _ _ h=>h,λi j b a c=>?_,λt u r d e=>?_⟩;{obtain⟨h1,rfl⟩:=Jr a;show(γ.boxes.take nb)[j]? =Z b;rw[pK h1];exact c};cases d;exact⟨r,e,rfl,rfl,λ_ _ h=>h⟩
theorem PK{k:Nat}{d:D}(h:(lZ k H cs)[i]? =Z d):∃d1,cs[i]? =Z d1/\(d=d1\/d=d1.aB k H 8):=by unfold lZ at h;grind
theorem PL(k:Nat)(H:Hp)(cs:List D):O (lZ k H cs)=O cs:=by unfold lZ;split<;>simp
theorem aaw(k:Nat)(H:Hp)(cs:List D):az (lZ k H cs)=az cs:=by unfold lZ;split;{rfl};exact aav 8 cs
theorem PM(I:Inv G γ H w){x:Hp}(L:γ.le γ')(F:Frame γ H w γ' x w')(J:Inv G γ' x w')(p:aF (λcs=>D.aR (below (O H.bx)) Z (lZ (O H.bx) x cs)) (x.bx.take (O H.bx))=Z bx)(pQ:O H.bx<=O x.bx): γ.le (γ'.ra x w' (O H.bx))/\Frame γ H w (γ'.ra x w' (O H.bx)) ⟨bx,x.tk⟩ w'/\Inv G (γ'.ra x w' (O H.bx)) ⟨bx,x.tk⟩ w':=by have amC:=J.cK;(have s:∀b,Lv (γ'.ra x w' (O H.bx)) ⟨bx,x.tk⟩ b->Lv γ' x b/\¬oS γ' x (O H.bx) b:=λb a=>by obtain⟨i,cs,u,y,R⟩:=a;obtain⟨z,m⟩:=mr u;obtain⟨K,Q,A⟩:=l7 p y;rw[pK z] at Q;have S:K≠[]:=λe=>jN A R (by rw[e];rfl);refine⟨⟨i,K,m,Q,S⟩,λn=>?_⟩;obtain⟨j,M,a1,V,a3,a4⟩:=n;have:=J.nodup i j b K M m V Q a3 S a4;omega);have N:=Gh.AK J (O H.bx);have l:∀t b,cO (γ'.ra x w' (O H.bx)) ⟨bx,x.tk⟩ t b->cO γ' x t b:=λt b h=>cO.congr (λ_ _ h=>h) (λ_ _ h=>h) h;refine⟨?_,?_,?_⟩;{refine⟨L.base,L.bq,λb o v h=>N.mem _ _ _ (L.mem _ _ _ h),λi b h=>?_,L.rows⟩;show(γ'.boxes.take (O H.bx))[i]? =Z b;rw[pK (by rw[<-I.cK];grind)];exact L.boxes i b h};{refine⟨F.os,F.tape,F.output,F.size,λb a W=>?_,λb o a W=>?_,λb a=>F.box b (s b a).1,λt b h=>F.qE t b (l t b h),λb a=>F.qF b (gP a)⟩;{obtain⟨Q,A⟩:=F.bI b a W;refine⟨Q,?_⟩;exact(mW.refl (γ'.mem b) _).trans A (λ_ h=>h) |>.trans (mW.refl _ _) (λj X=>by show(γ'.jy x w' (O H.bx)).mem b j≠Y;cases P:γ'.mem b j with|none=>grind|some v=>rw[N.mem _ _ _ P];simp)};exact(Gh.AH (λh=>W (.inl ((λb a C=>by rcases F.box b a.lv with q |q;{exact q};omega:∀b,oS γ' x (O H.bx) b->b<w.heap.size->Lv γ H b) b h a)))).trans (F.mem b o a W)};obtain⟨hl,hg⟩:=Ec p;constructor;{exact J.size};{exact J.bq};{exact J.gI};{intro b o v h;by_cases n:oS γ' x (O H.bx) b;{obtain⟨j,M,D3,X,B,hj3⟩:=n;have n:oS γ' x (O H.bx) b:=⟨j,M,D3,X,B,hj3⟩;obtain⟨vs,T,fr,Q,_⟩:=J.box _ b _ X B;have h:(γ'.jy x w' (O H.bx)).mem b o=Z v:=h;(have P:az M=false:=by cases P:az M with|false=>rfl|true=>simp only[lB,P,if_true] at Q;split at Q;{rename_i es ck Im;rw[Gh.aat n Im] at h;cases h};cases Q);rw[gA P] at Q;rw[Gh.Ee n Q] at h;simp only[World.cell?,Q];grind};have h:(γ'.jy x w' (O H.bx)).mem b o=Z v:=h;rw[Gh.AH n] at h;exact J.mem b o v h};{intro g cs PN j c hc;obtain⟨u,v,y,R⟩:=J.gU g cs PN j c hc;exact⟨u,v,N.mem _ _ _ y,R.mono N.mem⟩};{show(γ'.boxes.take (O H.bx)).length=O bx;grind};{intro i j b ci M u y R h4 n1 n2;obtain⟨z,m⟩:=mr u;obtain⟨hj1,B⟩:=mr y;obtain⟨K,Q,A⟩:=l7 p R;obtain⟨c1,r1,r2⟩:=l7 p h4;rw[pK z] at Q;rw[pK hj1] at r1;exact J.nodup i j b K c1 m B Q r1 (λe=>jN A n1 (by rw[e];rfl)) (λe=>jN r2 n2 (by rw[e];rfl))};{intro i b cs u y;obtain⟨hi,Jt⟩:=mr u;(have je:i<O x.bx:=by omega);have r:=hg i _ cs (by grind:(x.bx.take (O H.bx))[i]? =Z (x.bx[i]'je)) y;obtain⟨vs,T,fr,Q,A,q3,q4⟩:=J.box i b _ Jt (aw je);have uZ:=(uM r).trans (aaw _ _ _);refine⟨vs,T,fr,(C1 uZ _).trans Q,DB (Ju γ' x w' (O H.bx)) ⟨by rw[PL];exact A.1,λk d n=>?_⟩ r,λP=>DC r (λd n=>?_),λhn=>q4 (λe=>jN r hn (by rw[e];rfl))⟩;{obtain⟨d1,E,rfl |rfl⟩:=PK n;{exact(A.2 k d E).mono N};exact oe J 8 ((A.2 k d1 E).mono N)};obtain⟨k,hk⟩:=c8 n;obtain⟨d1,E,rfl |rfl⟩:=PK hk;{grind};exact AL 8 d1 (by grind)};{intro b o a;obtain⟨k1,k2⟩:=s b a;show(γ'.jy x w' (O H.bx)).mem b o=Y;rw[Gh.AH k2];exact J.fS b o k1};{intro i b u y;obtain⟨z,m⟩:=mr u;obtain⟨K,Q,A⟩:=l7 p y;rw[pK z] at Q;(have h0:=by have:=PI A;exact pE (by rw[<-PL (O H.bx) x,this];rfl));subst h0;exact J.gJ i b m Q};{exact J.eT};{intro t row f u y;obtain⟨q,a1,V⟩:=J.row t row f u y;refine⟨q,a1,V.keep (λ_ _ h=>h) (by grind) (λb cap hq C o=>?_) (λb cap hq C a ny=>a (gP ny))⟩;subst hq;obtain⟨_,_,_,_,_,_,_,U⟩:=V.2 C;exact Gh.AH λn=>U n.lv.mem};{exact J.gV};exact λt t' b h h'=>J.free t t' b (l t b h) (l t' b h')
theorem aaz(I:bz W G γ H w)(h:kU W G nt mk df Q γ H w (sv (O H.bx) x).1 (sv (O H.bx) x).2):kU W G nt mk df Q γ H w x.1 x.2:=by unfold sv at h;split at h;{rename_i bx o dw ho;split at h;{rename_i pQ;intro a A c L F J j;obtain⟨g,i,k⟩:=PM I.toInv L F J.toInv dw pQ;have:=h _ A c g i (I.up g i k) j;have r:∀v d b,aG a v d->(d.aB (O H.bx) x.2.hp 8).ren (below (O H.bx)) Z=Z b->aG (a.ra x.2.hp c (O H.bx)) v b:=λv d b l p=>uL (Ju a x.2.hp c (O H.bx)) (oe J.toInv 8 (l.mono (Gh.AK J.toInv (O H.bx)))) p;(have f:bf a x.2.env A.tmps->bf (a.ra x.2.hp c (O H.bx)) (x.2.env.map λy=>(y.1,((y.2.aB (O H.bx) x.2.hp 8).ren (below (O H.bx)) Z).getD .dead)) A.tmps:=λE t=>by rw[(by intro e;induction e with|nil=>rfl|cons y e u=>simp only[bQ,Env.get];grind:∀(e:Env),Env.get (e.map λy=>(y.1,((y.2.aB (O H.bx) x.2.hp 8).ren (below (O H.bx)) Z).getD .dead)) t=(((e.get t).aB (O H.bx) x.2.hp 8).ren (below (O H.bx)) Z).getD .dead)];cases n:((x.2.env.get t).aB (O H.bx) x.2.hp 8).ren (below (O H.bx)) Z with|none=>exact .dead _|some b=>exact r _ _ _ (E t) n);obtain⟨X,z⟩:=x;cases X with|norm=>cases ho;exact λm E=>this m (f E)|exit id=>cases ho;exact λm E=>this m (f E)|ret=>cases ho;exact λm E=>this m (f E)|bM d=>obtain⟨b,s,rfl⟩:=au.1 ho;grind};exact h};exact h
end
theorem PO{γ:Gh}:∀(ps:List Nat) (x:List D) (vs:List Value) env (tmps:Array Value),bf γ env tmps->(∀p∈ps,p<tmps.size)->O vs=O x->(∀(i:Nat) d v,x[i]? =Z d->vs[i]? =Z v->aG γ v d)-> bf γ (j7 env ps x) ((ps.zip vs).foldl (λt (y:Nat×Value)=>t.setIfInBounds y.1 y.2) tmps)/\((ps.zip vs).foldl (λt (y:Nat×Value)=>t.setIfInBounds y.1 y.2) tmps).size=tmps.size|[],x,vs,env,tmps,E,_,_,_=>by cases x<;>exact⟨E,rfl⟩|p::ps,[],[],env,tmps,E,_,_,_=>⟨E,rfl⟩|p::ps,[],_::_,env,tmps,E,_,l,_=>by cases l|p::ps,d::x,[],env,tmps,E,_,l,_=>by cases l|p::ps,d::x,v::vs,env,tmps,E,a,l,r=>by obtain⟨h,H⟩:=PO ps x vs ((p,d)::env) (tmps.setIfInBounds p v) (E.put (a p (by simp)) (r 0 d v rfl rfl)) (by grind) (by grind) (λi b V h H=>r (i+1) b V h H);refine⟨h,?_⟩;simp_all
theorem aaA{ps:Array Nat}{x:List D}(E:bf γ env tmps)(h:∀p∈ps.toList,p<tmps.size)(r:cp γ vs x): bf γ (j7 env ps.toList x) ((ps.zip vs).foldl (λt (p,v)=>t.setIfInBounds p v) tmps)/\((ps.zip vs).foldl (λt (p,v)=>t.setIfInBounds p v) tmps).size=tmps.size:=by rw[<-Wo,Array.toList_zip];exact(PO ps.toList x vs.toList env tmps E h (by exact r.1) (λi d v H a=>by have:=r.2 i d H;simp_all))
def PR(W:World)(G:Nat->Option (List PD))(γ:Gh)(H:Hp)(w:World)(e E:St->Option (Out×St))(env:Env)(ps:List Nat)(ids:List Nat)(xs:List (List D))(r:Out×St)(R:Loop)(k:Nat)(fb:Nat->Prop)(A:World):Prop:=∃c a,(∀i∈ids,c.bx[i]? =H.bx[i]?)/\(∀b,fb b->b<A.heap.size/\w.heap.size+1<b/\¬iM a c b)/\ja e E env ps (CT ids H) (xs.drop k) c=Z r/\γ.le a/\Frame γ H w a c A/\bz W G a c A/\A.heap[w.heap.size+1]? =Z (.loop R)/\A.heap[w.heap.size]? =Z (.deferred (Z []))
def Jv(W:World)(G:Nat->Option (List PD))(γ:Gh)(H:Hp)(w:World)(r:Out×St)(c:Loop)(e:Ending)(B:World):Prop:=∃γ',γ.le γ'/\Frame γ H w γ' r.2.hp B/\bz W G γ' r.2.hp B/\B.heap[w.heap.size]? =Z (.deferred (Z []))/\ match e with| .returned _=>∃j,((r.1= .ret/\j=Code.ret)\/∃id,r.1= .exit id/\j=Code.exit id)/\B.heap[w.heap.size+1]? =Z (.loop {c with state:=.done,pending:=Z j})| .panicked h=>∃d v,r.1= .bM d/\h=[{v,recovered:=false}]/\aG γ' v d| .outgrown=>False
theorem bz.below(I:bz W G γ H w)(B:RowKit.Below w.heap.size w w'):bz W G γ H w':=I.up (.refl γ) (I.toInv.below B).1 (I.toInv.below B).2
theorem Frame.below(F:Frame γ H w γ' H' A)(h:RowKit.Below A.heap.size A B):Frame γ H w γ' H' B:=by refine⟨h.os.trans F.os,h.tape.trans F.tape,h.output.trans F.output,eR F.size h.size,λk a o=>?_,F.mem,F.box,F.qE,F.qF⟩;rw[h.block k (r8 a F.size)];exact F.bI k a o
theorem Ef(h:RowKit.Below A.heap.size A B){o:Obj}(H:A.heap[b]? =Z o):B.heap[b]? =Z o:=by rw[h.block b (by grind)];exact H
theorem AM{c:bt}(S:iP P W G c)(hm:P.follows .mixedOrders=true)(sQ:∀b s r,it b s=Z r->∃m,iter b m s=Z r): ∀(sc:SC) (cd:Code) (pY:SC),dp P nt sc cd=Z pY->∀{ro:Option Nat} {fid:Nat} {mk:Option Nat} {df:List Deferred},pY.eN P W G->(pY.cT=true\/(ro=Y/\(∃B,mk=Z B)/\∃fnc,P.funcs[fid]? =Z fnc))->∀(Q:Exit->Act->World->Prop) (γ:Gh) (s:St) (a:Act) (w:World) (n:Out) (s':St),(∀a w,¬Q .outgrown a w)->ay c G it pY s=Z (n,s')-> bz W G γ s.hp w->bf γ s.env a.tmps->a.tmps.size=nt->sO mk df a.defers w->kU W G nt mk df Q γ s.hp w n s'->eU ro fid P cd Q a w:=by
 intro sc cd;fun_induction dp P nt sc cd;all_goals (intro pY h ro fid mk df hG hr Q γ s a w n s' hQ he I E hn hd T)
 case case1 b cd ih=>obtain⟨U,u,rfl⟩:=au.1 h;simp only[ay] at he;obtain⟨x,hx,heq⟩:=au.1 he;(have N:n=(cx (O s.hp.bx) (O s.hp.tk) x).1:=by rw[heq]);(have h2:s'=(cx (O s.hp.bx) (O s.hp.tk) x).2:=by rw[heq]);rw[N,h2] at T;exact ih U u hG hr Q γ s a w x.1 x.2 hQ hx I E hn hd (PJ I T)
 case case2=>cases h;simp only[ay] at he;cases he;exact mq (wpIn_skip (T γ a w (.refl γ) (.refl γ _ w) I hd hn E))
 case case3=>cases h;simp only[ay] at he;cases he;exact mq (wpIn_label (T γ a w (.refl γ) (.refl γ _ w) I hd hn E))
 case case4 keep hs id ops iQ=>obtain⟨sl,lF,rfl⟩:=au.1 h;have iQ:=fy.1 iQ;have o:=Jq lF;simp only[ay] at he;(have hl:O ops.toList=O sl:=by simpa using o.len);have oI:∀(i:Nat) x so,ops.toList[i]? =Z x->sl[i]? =Z so->nV P ops nt x so:=λi x so hx hs=>o.of i x so (by simpa using hx) hs;split at he;{rename_i nW H' C;cases he;refine mq (wpIn_region_list (D8 hQ _ iQ _ _ (IK S o.lt ops.toList sl γ s.env s.hp a w hl oI I E hn _ C (λl e2 H2 a' w' hr L F J E' X fE=>?_) (λl d e2 H2 v a' w' hr _ _ _ _ _ _ _=>by cases hr))));cases hr;exact T l a' w' L F J (hd.keep I.toInv F fE) X (E'.keep keep)};{rename_i d nW H' C;cases he;refine mq (wpIn_region_list (D8 hQ _ iQ _ _ (IK S o.lt ops.toList sl γ s.env s.hp a w hl oI I E hn _ C (λl e2 H2 a' w' hr _ _ _ _ _ _=>by cases hr) (λl d e2 H2 v a' w' hr L F J V E' X fE=>?_))));cases hr;exact T l a' w' L F J (hd.keep I.toInv F fE) X E' v V};cases he
 case case6 keep aW hs id ops sl lF hdr=>cases h;rw[bG] at hdr;have iQ:=fy.1 hdr.2;have o:=Jq lF;simp only[ay] at he;split at he;{rename_i nW H' cs C;split at he;{rename_i ni;cases he;refine mq (wpIn_region_any hm (AG hQ iQ _ _ _ _ (aac S o.len o.of o.lt hdr.1 C ni (w:=w.drew) (I.up (.refl γ) (Frame.drew γ s.hp w) I.toInv.drew) E hn λl a' w' L F J E' X fE=>?_)));have F2:=(Frame.drew γ s.hp w).trans rfl F;exact T l a' w' L F2 J (hd.keep I.toInv F2 fE) X (E'.keep keep)};cases he};split at he;{rename_i d H' cs k C;split at he;{rename_i ni;cases he;rw[bG] at ni;refine mq (wpIn_region_any hm (AG hQ iQ _ _ _ _ (aad S o.len o.of o.lt hdr.1 C ni.1 ni.2 (w:=w.drew) (I.up (.refl γ) (Frame.drew γ s.hp w) I.toInv.drew) E hn λl v a' w' L F J V E' X fE=>?_)));have F2:=(Frame.drew γ s.hp w).trans rfl F;exact T l a' w' L F2 J (hd.keep I.toInv F2 fE) X E' v V};cases he};cases he
 case case9 f gen _ _ sa sb g ps x y g' a' U u ha hg hcnd xN xO=>cases h;simp only[bG] at hcnd;obtain⟨⟨na,nb⟩,re⟩:=hcnd;(have re:∀p∈ps.toList,p<nt:=λp T=>by simpa using fy.1 re p T);rcases hr with hr |⟨rfl,⟨B0,rfl⟩,fnc,hfn⟩;{cases hr};obtain⟨⟨Jw,aaC⟩,ga,gb⟩:=hG;simp only[ay] at he;split at he;{rename_i xs nS;have PT:=bZ E hg;unfold zJ at nS;split at nS;{rename_i f' fi cap Eg;split at nS;{rename_i Jx;subst Jx;rw[Eg] at PT;obtain⟨as,lb,hgv,r1,r2⟩:=PT.De;obtain⟨en,hen,PU⟩:=aaC fi cap s.hp xs nS γ w as lb I r1 r2;rw[Eg] at he;generalize uO:lz (.fn f' fi cap) s.hp=ids at PU he;obtain⟨K,u0⟩:∃K:Loop,K={state:=.ready,pending:=Y,fn:=fid,tmps:=a.tmps,params:=ps,assign:=x,body:=y,defers:=w.heap.size}:=⟨_,rfl⟩;obtain⟨W1,vd⟩:∃W1,(w.alloc (.deferred (Z []))).alloc (.loop K)=W1:=⟨_,rfl⟩;(have hL1:W1.heap[w.heap.size+1]? =Z (.loop K):=by rw[<-vd];have:=World.alloc_heap_new (w.alloc (.deferred (Z []))) (.loop K);rwa [World.size_alloc] at this);(have hK1:W1.heap[w.heap.size]? =Z (.deferred (Z [])):=by rw[<-vd];exact(RowKit.Below.heap_alloc _ _ _ (by simp)).trans (World.alloc_heap_new w _));(have rh:RowKit.Below w.heap.size w W1:=by rw[<-vd];exact((RowKit.Below.refl _ w).alloc (aS _) _).alloc (by simp) _);have hWw:=I.kQ.size;(have aaH:∀k fb z A,xs[k]? =Z z->PR W G γ s.hp w (ay c G it a') (ay c G it U) s.env ps.toList ids xs (n,s') K k fb A-> YieldAt (wr Y) 0 P (w.heap.size+1) (en k) A λe B=>(A.heap.size<=B.heap.size/\∀b,fb b->kT b A B)/\((e= .returned (.bool true)/\PR W G γ s.hp w (ay c G it a') (ay c G it U) s.env ps.toList ids xs (n,s') K (k+1) fb B)\/(e= .returned (.bool false)/\Jv W G γ s.hp w (n,s') K e B)\/∃ch,e= .panicked ch/\Jv W G γ s.hp w (n,s') K e B):=by rintro k fb z A hz ⟨Hk,γk,hkp,Eh,C,Lk,Fk,Ik,pW,hdk⟩;obtain⟨kc,her⟩:=hen k z hz;(have Jy:xs.drop k=z::xs.drop (k+1):=by obtain⟨dZ,rfl⟩:=ak.1 hz;exact wG dZ);rw[Jy] at C;simp only[ja] at C;split at C;{cases C};rename_i Jz;have Jz:O z=O ps.toList:=Wx.1 Jz;have hy:=run_yield (P:=P) (args:=en k) pW (by rw[kc,u0,Jz];simp);rw[u0] at hy;refine⟨_,_,_,_,hy,Pz hfn ?_⟩;obtain⟨E1,sR⟩:=aaA (E.mono Lk) (λp T=>by rw[hn];exact re p T) (her γk);split at C;{rename_i s1 hea;refine xN a' ha (ro:=Z (w.heap.size+1)) (fid:=fid) (mk:=Y) (df:=[]) ga (.inl na) _ γk ⟨j7 s.env ps.toList z,Hk⟩ _ A .norm s1 (λ_ _ h=>h) hea Ik E1 (by rw[sR,hn]) rfl λγ1 a1 w1 L1 F1 J1 og xP E2=>?_;have og:a1.defers=[]:=og;have oO:=F1.stands Ik.toInv pW rfl;have hk1:=F1.stands Ik.toInv hdk rfl;have AN:=run_beginRound (P:=P) oO (by rw[u0]);refine⟨_,AN,?_⟩;have J2:=J1.turn oO rfl (by omega) (.loop {K with state:=.busy});have JA:=(Fk.trans Lk.base F1).turn (b:=w.heap.size+1) (by omega) (.loop {K with state:=.busy});have ri:(w1.putObj (w.heap.size+1) (.loop {K with state:=.busy})).heap[w.heap.size+1]? =Z (.loop {K with state:=.busy}):=World.putObj_heap_same (gp.1 oO).1;have fk:(w1.putObj (w.heap.size+1) (.loop {K with state:=.busy})).heap[w.heap.size]? =Z (.deferred (Z [])):=(World.putObj_heap_other (by omega)).trans hk1;(have JB:∀b,fb b->b<(w1.putObj (w.heap.size+1) (.loop {K with state:=.busy})).heap.size/\¬iM γ1 s1.hp b/\kT b A (w1.putObj (w.heap.size+1) (.loop {K with state:=.busy})):=λb u=>by obtain⟨b1,b2,b3⟩:=Eh b u;refine⟨by rw[World.putObj_size];exact r8 b1 F1.size,λho=>?_,λo=>?_,λo N h2=>?_⟩;{rcases F1.own b ho with q |q;{exact b3 q};omega};{rw[uY (w:=w1) (World.putObj_heap_other (by omega))];exact Jo (F1.bI b b1 b3).2 o};exact(World.putObj_heap_other (by omega)).trans (F1.stands Ik.toInv N h2));(have xp:A.heap.size<=(w1.putObj (w.heap.size+1) (.loop {K with state:=.busy})).heap.size:=by rw[World.putObj_size];exact F1.size);generalize w1.putObj (w.heap.size+1) (.loop {K with state:=.busy})=w2 at J2 JA ri fk JB xp;(have JC:∀(j:Option Code) (M:Gh) (H3:Hp) (w3:World),γ1.le M->Frame γ1 s1.hp w2 M H3 w3->bz W G M H3 w3->∃w4,(Instr.endRound (w.heap.size+1) j).run P w3= .ok (.bool j.isNone) w4/\γ.le M/\Frame γ s.hp w M H3 w4/\bz W G M H3 w4/\w4.heap[w.heap.size+1]? =Z (.loop {K with state:=if j.isNone then .ready else .done,pending:=j})/\w4.heap[w.heap.size]? =Z (.deferred (Z []))/\A.heap.size<=w4.heap.size/\∀b,fb b->(b<w4.heap.size/\w.heap.size+1<b/\¬iM M H3 b)/\kT b A w4:=by intro j M H3 w3 L3 F3 J3;have AO:=F3.stands J2.toInv ri rfl;have JD:=F3.stands J2.toInv fk rfl;have xn:=run_endRound (P:=P) j AO;exact⟨_,xn,Lk.trans (L1.trans L3),(JA.trans (L1.base.trans Lk.base) F3).turn (by omega) _,J3.turn AO rfl (by omega) _,World.putObj_heap_same (gp.1 AO).1,(World.putObj_heap_other (by omega)).trans JD,by rw[World.putObj_size];exact eR xp F3.size,λb u=>by obtain⟨_,b2,_⟩:=Eh b u;obtain⟨c1,c2,c3⟩:=JB b u;refine⟨⟨by rw[World.putObj_size];exact r8 c1 F3.size,b2,λho=>?_⟩,λo=>?_,λo N h2=>?_⟩;{rcases F3.own b ho with q |q;{exact c2 q};omega};{rw[uY (w:=w3) (World.putObj_heap_other (by omega)),<-c3.1 o];exact Jo (F3.bI b c1 c2).2 o};exact(World.putObj_heap_other (by omega)).trans (F3.stands J2.toInv (c3.2 o N h2) h2)⟩);split at C;{rename_i s2 JE;split at C;(case isFalse=>cases C);rename_i Ei;have aaM:∀i∈ids,s2.hp.bx[i]? =s.hp.bx[i]?:=λi hi=>W2 (fy.1 Ei i hi);refine xO U u (ro:=Z (w.heap.size+1)) (fid:=fid) (mk:=Y) (df:=[]) gb (.inl nb) _ γ1 s1 a1 w2 .norm s2 (λ_ _ h=>h) JE J2 E2 xP og λM a3 w3 L3 F3 J3 xQ xR E3=>?_;obtain⟨w4,q1,q2,q3,q4,q5,q6,q7,q8⟩:=JC Y M s2.hp w3 L3 F3 J3;refine⟨_,w4,q1,⟨q7,λb u=>(q8 b u).2⟩,.inl ⟨rfl,⟨s2.hp,M,aaM,λb u=>(q8 b u).1,C,q2,q3,q4,?_,q6⟩⟩⟩;rw[q5,u0];rfl};{rename_i o s2 jv JE;(have uw:o=n/\s'.hp=s2.hp:=by simp only[cH,nJ] at C;exact⟨C.1,by rw[<-C.2]⟩);obtain⟨rfl,hh⟩:=uw;refine xO U u (ro:=Z (w.heap.size+1)) (fid:=fid) (mk:=Y) (df:=[]) gb (.inl nb) _ γ1 s1 a1 w2 o s2 (λ_ _ h=>h) JE J2 E2 xP og λM a3 w3 L3 F3 J3 xQ=>?_;cases o with|norm=>exact(jv rfl).elim|exit id=>intro xR E3;obtain⟨w4,q1,q2,q3,q4,q5,q6,q7,q8⟩:=JC (Z (.exit id)) M s2.hp w3 L3 F3 J3;exact⟨_,w4,q1,⟨q7,λb u=>(q8 b u).2⟩,.inr (.inl ⟨rfl,M,q2,by rw[hh];exact q3,by rw[hh];exact q4,q6,_,.inr ⟨id,rfl,rfl⟩,q5⟩)⟩|ret=>intro xR E3;obtain⟨w4,q1,q2,q3,q4,q5,q6,q7,q8⟩:=JC (Z .ret) M s2.hp w3 L3 F3 J3;exact⟨_,w4,q1,⟨q7,λb u=>(q8 b u).2⟩,.inr (.inl ⟨rfl,M,q2,by rw[hh];exact q3,by rw[hh];exact q4,q6,_,.inl ⟨rfl,rfl⟩,q5⟩)⟩|bM d=>intro xR E3 v V;exact⟨xQ,⟨eR xp F3.size,λb u=>by obtain⟨c1,c2,c3⟩:=JB b u;exact⟨λo=>by rw[<-c3.1 o];exact Jo (F3.bI b c1 c2).2 o,λo N h2=>F3.stands J2.toInv (c3.2 o N h2) h2⟩⟩,.inr (.inr ⟨_,rfl,M,Lk.trans (L1.trans L3),by rw[hh];exact JA.trans (L1.base.trans Lk.base) F3,by rw[hh];exact J3,F3.stands J2.toInv fk rfl,d,v,rfl,rfl,V⟩)⟩};cases C};cases C);have xA:=PU (w.heap.size+1) _ (Jv W G γ s.hp w (n,s') K) W1 rh (λk fb A hj=>by obtain⟨Hk,γk,qk,_,_,q2,_,q4,_⟩:=hj;exact⟨γk,Hk,q2,q4,qk⟩) (λk fb A B hj kS=>by obtain⟨Hk,γk,qk,q0,q1,q2,q3,q4,q5,q6⟩:=hj;refine⟨Hk,γk,qk,λb u=>?_,q1,q2,q3.below kS,q4.below kS,Ef kS q5,Ef kS q6⟩;rcases u with u |⟨u,ny⟩;{obtain⟨c1,c2,c3⟩:=q0 b u;exact⟨r8 c1 kS.size,c2,c3⟩};have dZ:w.heap.size+1<A.heap.size:=(gp.1 q5).1;exact⟨ny,by omega,λho=>by have:=q4.toInv.Xg ho;omega⟩) (λk fb A b o o' hj u ho jc=>by obtain⟨Hk,γk,qk,q0,q1,q2,q3,q4,q5,q6⟩:=hj;obtain⟨c1,c2,c3⟩:=q0 b u;exact⟨Hk,γk,qk,λU ny=>by rw[World.putObj_size];exact q0 U ny,q1,q2,q3.turn (by omega) o',q4.turn ho jc (by omega) o',(World.putObj_heap_other (by omega)).trans q5,(World.putObj_heap_other (by omega)).trans q6⟩) (λe A B hx kS=>by obtain⟨l,q2,q3,q4,q5,q6⟩:=hx;refine⟨l,q2,q3.below kS,q4.below kS,Ef kS q5,?_⟩;cases e with|returned v=>obtain⟨j,N,h2⟩:=q6;exact⟨j,N,Ef kS h2⟩|panicked ch=>exact q6|outgrown=>exact q6) (λe A b o o' hx u ho jc=>by (have ny:w.heap.size+2<=b:=by rw[<-vd] at u;simpa using u);obtain⟨l,q2,q3,q4,q5,q6⟩:=hx;refine⟨l,q2,q3.turn (by omega) o',q4.turn ho jc (by omega) o',(World.putObj_heap_other (by omega)).trans q5,?_⟩;cases e with|returned v=>obtain⟨j,N,h2⟩:=q6;exact⟨j,N,(World.putObj_heap_other (by omega)).trans h2⟩|panicked ch=>exact q6|outgrown=>exact q6) aaH ⟨s.hp,γ,λ_ _=>rfl,λ_ h=>h.elim,he,.refl γ,(Frame.refl γ s.hp w).below rh,I.below rh,hL1,hK1⟩;have xA:=oc.1 xA;refine PC hgv Jw ?_;rw[<-u0,vd];refine xA.mono ?_;(have fin:∀(l:Gh) (H':Hp) (B:World) (rc:Loop),γ.le l->Frame γ s.hp w l H' B->bz W G l H' B->B.heap[w.heap.size+1]? =Z (.loop rc)->B.heap[w.heap.size]? =Z (.deferred (Z []))->rc.state≠.busy-> ∃w4,(Instr.endLoop (w.heap.size+1)).run P B= .ok rc.pending w4/\Frame γ s.hp w l H' w4/\bz W G l H' w4/\sO (Z B0) df (mark w.heap.size::a.defers) w4:=by intro l H' B rc L F J hl hk j8;have F4:=F.turn (b:=w.heap.size+1) (by omega) (.loop {rc with state:=.exhausted});refine⟨_,run_endLoop (P:=P) hl j8,F4,J.turn hl rfl (by omega) _,?_⟩;obtain⟨h0,ms,N,h2,h3⟩:=hd.keep I.toInv F4 rfl;refine⟨h0,w.heap.size::ms,by rw[N];rfl,?_,λm hm=>?_⟩;{refine qt.2 ⟨λhm=>?_,h2⟩;obtain⟨_,AP,g1,g2,g3⟩:=hd;(have :AP=ms:=by have e:=g1.symm.trans N;have e2:AP.map mark=ms.map mark:=alV e;exact(Wy (λx y AQ=>by simpa[mark] using AQ)).1 e2);rw[<-this] at hm;have:=(gp.1 (g3 _ hm).2).1;omega};rcases bJ.1 hm with rfl |hm;{exact⟨hd.1,(World.putObj_heap_other (by omega)).trans hk⟩};exact h3 m hm);rintro e B (⟨⟨v,rfl⟩,hj |hx⟩ |⟨ch,rfl,hx⟩);{obtain⟨fb,Hk,γk,_,_,q1,q2,q3,q4,q5,q6⟩:=hj;rw[zw] at q1;simp only[ja,cH,nJ] at q1;obtain⟨rfl,rfl⟩:=q1;obtain⟨w4,e1,e2,e3,e4⟩:=fin γk Hk B K q2 q3 q4 q5 q6 (by rw[u0];simp);refine⟨Y,w4,by rw[e1,u0],?_⟩;exact T γk {a with defers:=mark w.heap.size::a.defers} w4 q2 e2 e3 e4 hn (E.mono q2)};{obtain⟨l,q2,q3,q4,q5,j,hj,q6⟩:=hx;obtain⟨w4,e1,e2,e3,e4⟩:=fin l s'.hp B _ q2 q3 q4 q6 q5 (by simp);refine⟨Z j,w4,e1,?_⟩;(have Ej:s'.env=s.env:=by (have key:∀(kb:Hp->Bool) (xs:List (List D)) (H:Hp),ja (ay c G it a') (ay c G it U) s.env ps.toList kb xs H=Z (n,s')->s'.env=s.env:=by intro kb xs;induction xs with|nil=>intro H h;cases h;rfl|cons z xs ih=>intro H h;simp only[ja] at h;split at h;{cases h};split at h;{split at h;{split at h;{exact ih _ h};cases h};{cases h;rfl};cases h};cases h);exact key _ _ _ he);have PV:=T l {a with defers:=mark w.heap.size::a.defers} w4 q2 e2 e3 e4;rcases hj with⟨ho,rfl⟩ |⟨id,ho,rfl⟩;{have ho:n= .ret:=ho;subst ho;exact mq (wpIn_ret (PV hn (by rw[Ej];exact E.mono q2)))};have ho:n= .exit id:=ho;subst ho;exact mq (wpIn_exit (PV hn (by rw[Ej];exact E.mono q2)))};obtain⟨l,q2,q3,q4,q5,d,v,ho,rfl,V⟩:=hx;have ho:n= .bM d:=ho;subst ho;(have Ej:s'.env=s.env:=by (have key:∀(kb:Hp->Bool) (xs:List (List D)) (H:Hp),ja (ay c G it a') (ay c G it U) s.env ps.toList kb xs H=Z (.bM d,s')->s'.env=s.env:=by intro kb xs;induction xs with|nil=>intro H h;cases h|cons z xs ih=>intro H h;simp only[ja] at h;split at h;{cases h};split at h;{split at h;{split at h;{exact ih _ h};cases h};{cases h;rfl};cases h};cases h);exact key _ _ _ he);obtain⟨h0,ms,N,h2,h3⟩:=hd.keep I.toInv q3 rfl;(have hdd:sO (Z B0) df (mark w.heap.size::a.defers) B:=by refine⟨h0,w.heap.size::ms,by rw[N];rfl,?_,λm hm=>?_⟩;{refine qt.2 ⟨λhm=>?_,h2⟩;obtain⟨_,AP,g1,g2,g3⟩:=hd;(have :AP=ms:=by have e:=g1.symm.trans N;have e2:AP.map mark=ms.map mark:=alV e;exact(Wy (λx y AQ=>by simpa[mark] using AQ)).1 e2);rw[<-this] at hm;have:=(gp.1 (g3 _ hm).2).1;omega};rcases bJ.1 hm with rfl |hm;{exact⟨hd.1,q5⟩};exact h3 m hm);exact T l {a with defers:=mark w.heap.size::a.defers} B q2 q3 q4 hdd hn (by rw[Ej];exact E.mono q2) v V};cases nS};cases nS};cases he
 case case12 st e z b cd hs ih=>obtain⟨U,u,rfl⟩:=au.1 h;simp only[ay] at he;split at he;{rename_i s1 N;split at N;{rename_i d H1 ht;cases N;obtain⟨γ1,L,F,J0,V⟩:=PE I.toInv ht (E st);have J:=I.up L F J0;exact ih U u hG.2 (by simpa[SC.cT] using hr) Q γ1 _ a w n s' hQ he J (E.tok L V) hn hd (T.later L F)};cases N};rename_i dt;cases ht:mS e z (s.env.get st) s.hp with|none=>rw[ht] at he;cases he|some dh=>exact(dt _ (by rw[ht])).elim
 case case14 st off e z b cd hs ih=>obtain⟨U,u,rfl⟩:=au.1 h;simp only[ay] at he;split at he;{rename_i s1 N;obtain⟨s2,ht,heq⟩:=au.1 N;cases heq;obtain⟨γ1,L,F,J0,E'⟩:=aaq I.toInv ht E;have J:=I.up L F J0;exact ih U u hG.2 (by simpa[SC.cT] using hr) Q γ1 _ a w n s' hQ he J E' hn hd (T.later L F)};rename_i dt;obtain⟨s2,ht,heq⟩:=au.1 he;exact(dt s2 (by rw[ht];rfl)).elim
 case case16 sa sb x y _ a' U u ha xN xO=>cases h;have sS:a'.cT=true\/(ro=Y/\(∃B,mk=Z B)/\∃fnc,P.funcs[fid]? =Z fnc):=hr.imp (λq=>by simp only[SC.cT,bG] at q;exact q.1) id;have AR:U.cT=true\/(ro=Y/\(∃B,mk=Z B)/\∃fnc,P.funcs[fid]? =Z fnc):=hr.imp (λq=>by simp only[SC.cT,bG] at q;exact q.2) id;simp only[ay] at he;split at he;{rename_i s1 N;refine pX (xN a' ha hG.1 sS _ γ s a w .norm s1 hQ N I E hn hd λl a2 w2 L F J fE X E'=>?_);exact xO U u hG.2 AR Q l s1 a2 w2 n s' hQ he J E' X fE (T.later L F)};rename_i dt;refine pX (xN a' ha hG.1 sS _ γ s a w n s' hQ he I E hn hd (T.other λe a w hx q=>?_));cases n with|norm=>exact absurd he (dt s')|exit id=>cases hx;exact q|ret=>cases hx;exact q|bM d=>obtain⟨ch,rfl⟩:=hx;exact q
 case case18 _ sa sb cnd x y c' a' U u ha hc xN xO=>cases h;have sS:a'.cT=true\/(ro=Y/\(∃B,mk=Z B)/\∃fnc,P.funcs[fid]? =Z fnc):=hr.imp (λq=>by simp only[SC.cT,bG] at q;exact q.1) id;have AR:U.cT=true\/(ro=Y/\(∃B,mk=Z B)/\∃fnc,P.funcs[fid]? =Z fnc):=hr.imp (λq=>by simp only[SC.cT,bG] at q;exact q.2) id;simp only[ay] at he;split at he;{rename_i t hcv;have hr:=bZ E hc;rw[hcv] at hr;have hv:=hr.cn.pR;refine aai hv ?_;cases t with|true=>exact xN a' ha hG.1 sS Q γ s a w n s' hQ he I E hn hd T|false=>exact xO U u hG.2 AR Q γ s a w n s' hQ he I E hn hd T};cases he
 case case20 _ sb id x ih=>obtain⟨U,u,rfl⟩:=au.1 h;simp only[ay] at he;split at he;{rename_i i s1 N;split at he;{rename_i hi;cases he;refine uX (ih U u hG hr _ γ s a w _ _ hQ N I E hn hd λl a2 w2 L F J fE X E'=>?_);simp only[Exit.inBlock,hi,if_true];exact T l a2 w2 L F J fE X E'};rename_i hi;cases he;refine uX (ih U u hG hr _ γ s a w _ _ hQ N I E hn hd λl a2 w2 L F J fE X E'=>?_);simp only[Exit.inBlock,hi,if_false];exact T l a2 w2 L F J fE X E'};rename_i dt;refine uX (ih U u hG hr _ γ s a w n s' hQ he I E hn hd (T.other λe a w hx q=>?_));cases n with|norm=>cases hx;exact q|exit id=>exact absurd he (dt id s')|ret=>cases hx;exact q|bM d=>obtain⟨ch,rfl⟩:=hx;exact q
 case case21 keep sb x ih=>obtain⟨U,u,rfl⟩:=au.1 h;simp only[ay] at he;obtain⟨m,hm⟩:=sQ _ _ _ he;refine Py m λR h0 hS=>?_;clear he;induction m generalizing γ s a w with|zero=>cases hm|succ m mo=>simp only[iter] at hm;split at hm;{rename_i s1 N;refine hS m a w (ih U u hG hr _ γ _ a w .norm s1 hQ N I (E.keep keep) hn hd λl a2 w2 L F J fE X E'=>?_);exact mo l s1 a2 w2 J E' X fE (T.later L F) hm};rename_i dt;refine hS m a w (ih U u hG hr _ γ _ a w n s' hQ hm I (E.keep keep) hn hd (T.other λe a w hx q=>?_));cases n with|norm=>exact absurd hm (dt s')|exit id=>cases hx;exact q|ret=>cases hx;exact q|bM d=>obtain⟨ch,rfl⟩:=hx;exact q
 case case22 sb x ih=>obtain⟨U,u,rfl⟩:=au.1 h;simp only[ay] at he;refine aal (ih U u hG hr _ γ s a w n s' hQ he I E hn hd (T.other λe a w hx q=>?_));cases n with|norm=>cases hx;exact q|exit id=>cases hx;exact q|ret=>cases hx;exact q|bM d=>obtain⟨ch,rfl⟩:=hx;exact q
 case case23 id _=>cases h;simp only[ay] at he;cases he;exact mq (wpIn_exit (T γ a w (.refl γ) (.refl γ _ w) I hd hn E))
 case case24=>cases h;simp only[ay] at he;cases he;exact mq (wpIn_ret (T γ a w (.refl γ) (.refl γ _ w) I hd hn E))
 case case25 b cd ih=>obtain⟨U,u,rfl⟩:=au.1 h;simp only[ay] at he;obtain⟨x,hx,heq⟩:=au.1 he;(have N:n=(cx (O s.hp.bx) (O s.hp.tk) (sv (O s.hp.bx) x)).1:=by rw[heq]);(have h2:s'=(cx (O s.hp.bx) (O s.hp.tk) (sv (O s.hp.bx) x)).2:=by rw[heq]);rw[N,h2] at T;exact ih U u hG hr Q γ s a w x.1 x.2 hQ hx I E hn hd (aaz I (PJ I T))
 case case26=>cases h;simp only[ay] at he;cases he
 all_goals cases h
theorem aaN{c:Code}{a:Act}(h:∀fid,eU Y fid P c Q a w):c.wp P Q a w:=(wpIn_wide (n:=0)).1 λb k s H _ _=>h b.fn b k s H rfl
theorem AU{c:bt}(S:iP P W G c)(H:P.follows .mixedOrders=true)(i:∀b s r,it b s=Z r->∃m,iter b m s=Z r) sc cd pY (h:dp P nt sc cd=Z pY) (N:pY.cT=true) Q γ s a w out s' (d:∀a w,¬Q .outgrown a w) (e:ay c G it pY s=Z (out,s')) (I:bz W G γ s.hp w) (E:bf γ s.env a.tmps) (n:a.tmps.size=nt) (f:a.defers=df) (p:kU W G nt Y df Q γ s.hp w out s'):cd.wp P Q a w:=aaN λ_=>AM S H i sc cd pY h (mk:=Y) (SC.oR N) (.inl N) Q γ s a w out s' d e I E n f p
end
section
variable{a:Act}{tmps vs:Array Value}{R:Ending->World->Prop}{env:Env}{Q:Exit->Act->List Go.Frame->World->Prop}{fc:FC}{fn:Func}{γ:Gh}{H H':Hp}{it:It}{ds:List D}{cs:List Go.Frame}{f:Nat}{x:Option (Out×St)}{r r':bB}{t:TypeId}{w:World}
variable{P:Program}{W:World}{G:Nat->Option (List PD)}
theorem JF{n:Option Nat}(H:jK P t=Z n){b base off:Nat}{f:Nat->Value}(c:∀j,j<O ds->w.cell? ⟨b,base+j,Y⟩=Z (f j)) (r:∀j d,ds[j]? =Z d->aG γ (f j) d) (a:∀d∈ds,d.one=true) {d:D} (h:cutAt ds off n id bY=Z d):∃v,(loadVar t ⟨b,base+off,Y⟩).run P w= .ok v w/\aG γ v d:=by unfold cutAt at h;split at h;{obtain⟨d',fE,hh⟩:=au.1 h;cases hh;have l:=(ak.1 fE).1;have q:=Dl H (λj e=>by rw[oy];exact c (off+j) (by grind));grind};split at h;{rename_i hk;cases h;exact⟨_,Dl H (by grind),zT (NP hk λj d e h=>r _ _ h) (λd h=>a d (xk h))⟩};cases h
theorem aaO(I:Inv G γ H w){n:Option Nat}(o:jK P t=Z n){V:Value}{d0:D}(r:aG γ V d0){d:D}(h:kL G H n d0=Z d): ∃ad v,V= .pointer (Z ad)/\(loadVar t ad).run P w= .ok v w/\aG γ v d:=by unfold kL at h;split at h;{rename_i i off;split at h;{rename_i cs cQ;split at h;{cases h};rename_i m;(have m:=by simpa using m);cases r with|box _ _ b y=>obtain⟨u,T,F,Q,k,A,_⟩:=I.box i b cs y cQ;rw[gA m] at Q;obtain⟨v,c,l⟩:=JF (w:=w) o (b:=b) (base:=0) (λj a=>by simp[World.cell?,Q,(by have:=k.1;omega:j<u.size),cg]) k.2 (A m) h;rw[dD] at c;exact⟨_,v,rfl,c,l⟩};cases h};{rename_i cs off;cases r with|ro b base _ _ u m x=>obtain⟨v,c,l⟩:=JF o (λj a=>I.mem _ _ _ (m j (by simpa using a))) (λj d h=>by simp only[cC,au] at h;obtain⟨z,e,rfl⟩:=h;exact .p _ _ (x j z e).1) (λd h=>by obtain⟨z,e,rfl⟩:=cv.1 h;obtain⟨j,a⟩:=c8 e;exact(x j z a).2) (xj h);exact⟨_,v,rfl,c,l⟩};{rename_i g off;split at h;{rename_i cs cQ;cases r with|dJ _ _=>have s:=I.gU g cs cQ;obtain⟨v,c,l⟩:=JF o (base:=0) (f:=λj=>(γ.mem g j).getD undef) (λj a=>by (have a:=by simpa using a);obtain⟨_,v,Q,k⟩:=s j _ (aw a);rw[Q];simp only[dD,kG];exact I.mem _ _ _ Q) (λj d h=>by simp only[cC,au] at h;obtain⟨z,e,rfl⟩:=h;obtain⟨_,v,Q,k⟩:=s j z e;rw[Q];exact .p _ _ k) (λd h=>by obtain⟨z,e,rfl⟩:=cv.1 h;obtain⟨j,a⟩:=c8 e;exact(s j z a).1) (xj h);rw[dD] at c;exact⟨_,v,rfl,c,l⟩};cases h};cases h
def rj(P:Program):ResultVar->Option mQ| .tmp t=>Z (.t t)| .cell a t=>(jK P t).map (.cell a)
def AV(tmps:Array Value):ResultVar->Sem Value| .tmp t=>pure (tmps.getD t undef)| .cell a t=>do loadVar t (<-asAddr (tmps.getD a undef))
theorem aaP(I:Inv G γ H w)(E:bf γ env tmps){R:ResultVar}{r:mQ}(h:rj P R=Z r){d:D}(b:lA G env H r=Z d): ∃v,(AV tmps R).run P w= .ok v w/\aG γ v d:=by cases R with|tmp t=>cases h;cases b;exact⟨_,rfl,E t⟩|cell a t=>obtain⟨n,c,rfl⟩:=au.1 h;obtain⟨A,v,e,f,g⟩:=aaO I c (E a) b;refine⟨v,?_,g⟩;simp only[AV,e,asAddr,Sem.run_bind,Sem.run_pure,Result.andThen_ok,f]
theorem Ek(I:Inv G γ H w){env:Env}{tmps:Array Value}(E:bf γ env tmps):∀{s:List ResultVar} {rs:List mQ},aF (rj P) s=Z rs->∀{ds:List D},aF (lA G env H) rs=Z ds-> ∃vs:List Value,(s.mapM (AV tmps)).run P w= .ok vs w/\O vs=O ds/\∀(i:Nat) v d,vs[i]? =Z v->ds[i]? =Z d->aG γ v d|[],rs,h,ds,a=>by simp only[aF,cH] at h;subst h;simp only[aF,cH] at a;simp_all|j::s,rs,h,ds,a=>by simp only[aF] at h;split at h;{rename_i r hr;obtain⟨R,b,rfl⟩:=au.1 h;simp only[aF] at a;split at a;{rename_i d og;obtain⟨f,c,rfl⟩:=au.1 a;obtain⟨v,k,l⟩:=aaP I E hr og;obtain⟨vs,m,g,n⟩:=Ek I E b c;refine⟨v::vs,?_,by simp[g],λi u e o p=>?_⟩;{simp_all};grind};cases a};cases h
theorem PW(I:Inv G γ H w)(E:bf γ env tmps){rs:List mQ}(h:aF (rj P) fn.results.toList=Z rs){d:D}(a:gT G env H rs=Z d): ∃v,(results fn tmps).run P w= .ok v w/\aG γ v d:=by (have n:∀s,(fn.results.toList.mapM (AV tmps)).run P w= .ok s w->(results fn tmps).run P w= .ok (if h:s.toArray.size=1 then s.toArray[0] else .tuple s.toArray) w:=by intro s j;have :results fn tmps=(fn.results.mapM (AV tmps))>>=λs=>pure (if h:s.size=1 then s[0] else .tuple s):=rfl;rw[this,Array.mapM_eq_mapM_toList];simp_all);unfold gT at a;split at a;{cases a;obtain⟨s,e,b,_⟩:=Ek I E h rfl;have k:=wB.1 b;subst k;exact⟨_,n _ e,aG.undef⟩};{obtain⟨s,e,b,f⟩:=Ek I E h (ds:=[d]) (by simp only[aF,a,eZ]);obtain⟨v,rfl⟩:=alW.1 b;exact⟨v,by grind,f 0 v d rfl rfl⟩};rename_i rs0 amH AW;obtain⟨ds,c,rfl⟩:=au.1 a;obtain⟨s,e,b,f⟩:=Ek I E h c;have l:=(Ec c).1;refine⟨.tuple s.toArray,?_,?_⟩;{have:=n _ e;rw[dif_neg (by intro g;simp at g;rw[<-b] at l;rw[g] at l;obtain⟨r,o⟩:=alW.1 l;grind)] at this;exact this};refine .aL _ _ (by grind) λi d a=>?_;(have m:i<O s:=by grind);have:=f i s[i] d (by grind) a;simpa[cg,m] using this
def spine:Code->List Code| .seq a b=>spine a++spine b|c=>[c]
def AX(P:Program):List Code->(Exit->Act->World->Prop)->Act->World->Prop|[],Q,a,w=>Q .normal a w|c::r,Q,a,w=>c.wp P (Exit.then (AX P r Q) Q) a w
def sT(P:Program):List Code->(Exit->Act->List Go.Frame->World->Prop)->Act->List Go.Frame->World->Prop|[],Q,a,cs,w=>Q .normal a cs w|c::r,Q,a,cs,w=>c.wpS P (Exit.thenS (sT P r Q) Q) a cs w
theorem JG{c:Code}{d:Exit->Act->List Go.Frame->World->Prop}(h:c.wpS P Q a cs w)(H:∀e a cs w,Q e a cs w->d e a cs w):c.wpS P d a cs w:=
 λb k f g=>let⟨e,A,C,W,q,r⟩:=h b k f g;⟨e,A,C,W,H _ _ _ _ q,r⟩
theorem PX:∀(x y:List Code) (Q:Exit->Act->List Go.Frame->World->Prop) a (cs:List Go.Frame) w,sT P (x++y) Q a cs w->sT P x (Exit.thenS (sT P y Q) Q) a cs w|[],y,Q,a,cs,w,h=>h|c::x,y,Q,a,cs,w,h=>by refine JG h λe a cs w q=>?_;cases e with|normal=>exact PX x y Q a cs w q|_=>exact q
theorem PY:∀(x:List Code) {Q b:Exit->Act->List Go.Frame->World->Prop} {a:Act} {cs:List Go.Frame} {w:World},sT P x Q a cs w->(∀e a cs w,Q e a cs w->b e a cs w)->sT P x b a cs w|[],Q,b,a,cs,w,h,k=>k _ _ _ _ h|c::x,Q,b,a,cs,w,h,k=>by refine JG h λe a cs w q=>?_;cases e with|normal=>exact PY x q k|_=>exact k _ _ _ _ q
theorem aaQ:∀c {Q:Exit->Act->List Go.Frame->World->Prop} {a:Act} {cs:List Go.Frame} {w:World},sT P (spine c) Q a cs w->c.wpS P Q a cs w:=by intro c;induction c with|seq x y i I=>intro Q a cs w h;refine wpS_seq (i (PY (spine x) (PX (spine x) (spine y) Q a cs w h) λe a cs w q=>?_));(cases e with|normal=>exact I q|_=>exact q)|_=>intro Q a cs w h;refine JG h λe a cs w q=>?_;cases e with|normal=>exact q|_=>exact q
theorem PZ:∀(x:List Code) {Q:Exit->Act->List Go.Frame->World->Prop} {a:Act} {cs:List Go.Frame} {w:World},AX P x (λe a w=>Q e a cs w) a w->sT P x Q a cs w|[],Q,a,cs,w,h=>h|c::x,Q,a,cs,w,h=>by refine wpS_of_wp (wp_mono h λe a w q=>?_);cases e with|normal=>exact PZ x q|_=>exact q
theorem aaR{id:Nat}{s:Array Oper}{o:Oper}{l:List Oper}(H:s.toList=o::l)(y:o.guard=Y){b:Builtin}(z:b= .recover){as:Array Operand}{ts:Array TypeId}(d:o.op= .call {callee:=.builtin b,args:=as,argTypes:=ts}) (h:∀v cA,(recoverD cs=Z (v,cA)\/(recoverD cs=Y/\v= .nilIface/\cA=cs))->wpList P s (λe a w=>Q e a cA w) l (a.put o.dst v) w):(Code.region id s false).wpS P Q a cs w:=by
 intro B k A C;have i:s[0]? =Z o:=by rw[<-G6,H];rfl
 have n:(execOp a.eval o).run P w= .ok .recover w:=by subst z;simp[execOp,d,resolve,invoke,builtin]
 have g:=stepG_op (P:=P) (b:=B) (k:=k) (cs:=cs) (w:=w) (rest:=tZ 1 (O l)) i (by simp[Region.wanted,y]:Region.wanted o (yielded s a.tmps)=true);have f:∀v,(B.at a (.inRegion s (0::tZ 1 (O l))::k)).finish v=B.at (a.put o.dst v) (.inRegion s (tZ 1 (O l))::k):=by intro v;rw[Go.Frame.finish_at,i];rfl
 have t:=tryRecover_deferred (fr:=B.at a (.inRegion s (0::tZ 1 (O l))::k)) A cs;obtain⟨v,cA,c,p⟩:∃v cA,(recoverD cs=Z (v,cA)\/(recoverD cs=Y/\v= .nilIface/\cA=cs))/\ step P (lone (B.at a (.inRegion s (0::tZ 1 (O l))::k)) cs w)= .next (lone (B.at (a.put o.dst v) (.inRegion s (tZ 1 (O l))::k)) cA w):=by cases m:recoverD cs with|some x=>obtain⟨v,cA⟩:=x;refine⟨v,cA,.inl rfl,step_lone_go ?_⟩;rw[g,<-f];simp only[Go.Frame.at] at t|-;simp[stepG.apply,n,t,m]|none=>refine⟨.nilIface,cs,.inr ⟨rfl,rfl,rfl⟩,step_lone_go ?_⟩;rw[g,<-f];simp only[Go.Frame.at] at t|-;simp[stepG.apply,n,t,m]
 have u:=h v cA c;rw[<-wpOps_eq_wpList l 1 (λj=>by rw[<-G6,H,wD];rfl)] at u;obtain⟨e,E,W,q,r⟩:=wp_ops _ _ _ u B k cA;refine⟨e,E,cA,W,q,.of_steps (.head step_region ?_) r⟩;rw[(by rw[(by rw[<-pF,H];rfl:s.size=O l+1),List.range_eq_range'];rfl:dH s.size=0::tZ 1 (O l))];exact .one p
def El(P:Program)(nt:Nat):List SC->List Code->Option (List SC)|[],[]=>Z []|s::r,c::C=>(match dp P nt s c,El P nt r C with|some a,Z b=>Z (a::b)|_,_=>Y)|_,_=>Y
def ve(P:Program)(nt:Nat):SC->List Code->Option SC| .seq a b,c::d::r=>(match dp P nt a c,ve P nt b (d::r) with|some x,Z y=>Z (.seq x y)|_,_=>Y)|s,[c]=>dp P nt s c|_,_=>Y
theorem JH{c:bt}(S:iP P W G c)(j:P.follows .mixedOrders=true){it:It}(i:∀b s r,it b s=Z r->∃m,iter b m s=Z r){t:Nat}{df:List Deferred}: ∀(l:List SC) (C:List Code) (l':List SC),El P t l C=Z l'->l'.all SC.cT=true->∀(Q:Exit->Act->World->Prop) γ s (a:Act) w o s',(∀a w,¬Q .outgrown a w)->mT c G it l' s=Z (o,s')-> bz W G γ s.hp w->bf γ s.env a.tmps->a.tmps.size=t->a.defers=df->kU W G t Y df Q γ s.hp w o s'->AX P C Q a w|[],[],l',h,_,Q,γ,s,a,w,o,s',_,H,I,E,n,f,p=>by cases h;cases H;exact p γ a w (.refl γ) (.refl γ _ w) I f n E|x::l,y::C,l',h,N,Q,γ,s,a,w,o,s',k,H,I,E,n,f,p=>by simp only[El] at h;split at h;{rename_i x' r' g hr;cases h;simp only[List.all_cons,bG] at N;simp only[mT] at H;split at H;{rename_i s1 h1;refine AU S j i x y x' g N.1 _ γ s a w .norm s1 k h1 I E n f λu A B L F J v z K=>?_;exact JH S j i l C r' hr N.2 Q u s1 A B o s' k H J K z v (p.later L F)};rename_i dt;refine AU S j i x y x' g N.1 _ γ s a w o s' k H I E n f (p.other λe a w g q=>?_);cases o with|norm=>grind|exit id=>cases g;exact q|ret=>cases g;exact q|bM d=>obtain⟨M,rfl⟩:=g;exact q};cases h|[],_::_,l',h,_,Q,γ,s,a,w,o,s',_,H,I,E,n,f,p=>by cases h|_::_,[],l',h,_,Q,γ,s,a,w,o,s',_,H,I,E,n,f,p=>by cases h
theorem aaS{c:bt}(S:iP P W G c)(k:P.follows .mixedOrders=true)(i:∀b s r,it b s=Z r->∃m,iter b m s=Z r){n:Nat}{df:List Deferred} sc cd: ∀f,ve P n sc cd=Z f->f.cT=true->∀Q γ s a w o s',(∀a w,¬Q .outgrown a w)->ay c G it f s=Z (o,s')-> bz W G γ s.hp w->bf γ s.env a.tmps->a.tmps.size=n->a.defers=df->kU W G n Y df Q γ s.hp w o s'->AX P cd Q a w:=by
 fun_induction ve P n sc cd;all_goals (intro f h N Q γ s a w o s' j g I E l p t)
 case case1 x y C d r X A B H K=>cases h;simp only[SC.cT,bG] at N;simp only[ay] at g;split at g;{rename_i s1 h1;refine AU S k i x C X H N.1 _ γ s a w .norm s1 j h1 I E l p λu M O L F J v z R=>?_;exact K A B N.2 Q u s1 M O o s' j g J R z v (t.later L F)};rename_i dt;refine AU S k i x C X H N.1 _ γ s a w o s' j g I E l p (t.other λe a w H q=>?_);cases o with|norm=>grind|exit id=>cases H;exact q|ret=>cases H;exact q|bM d=>obtain⟨T,rfl⟩:=H;exact q
 case case3=>refine AU S k i _ _ f h N _ γ s a w o s' j g I E l p (t.other λe a w H q=>?_);cases e<;>exact q
 all_goals cases h
def JI(P:Program)(nt:Nat)(x:CO)(body:SC)(c:Code):Option (CO×SC):=match(spine c).drop (O x.pre) with| .region _ ops false::rest=>(match ops.back? with|some o=>(match o.op,o.guard with| .defer ⟨.value f,as,_⟩,Y=>(match El P nt x.pre ((spine c).take (O x.pre)),Ea P nt ops (x.ops++[⟨Y,.stuck,Y⟩]),aN f,aF aN as.toList,ve P nt body rest with|some pre,Z sl,Z F,Z a,Z b=>if o.dst.isNone then Z (⟨pre,x.keep,sl.dropLast,F,a⟩,b) else Y|_,_,_,_,_=>Y)|_,_=>Y)|none=>Y)|_=>Y
def FC.cT(fc:FC):Bool:=fc.body.cT&&(match fc.fN with |none=>true |some x=>x.pre.all SC.cT)
structure FOk0 (P:Program) (f:Nat) (fc:FC):Prop where ex:∃fn c,P.funcs[f]? =Z fn/\(fn.name== "runtime.NumGoroutine")=false/\fn.body=Z c/\fn.ntmps=fc.nt/\fc.np<=fc.nt/\aF (rj P) fn.results.toList=Z fc.res/\ (match fc.fN with |none=>∃sk,dp P fc.nt sk c=Z fc.body |some x=>JI P fc.nt x fc.body c=Z (x,fc.body))
structure sU (P:Program) (f:Nat) (fc:FC):Prop extends FOk0 P f fc where nr:fc.cT=true
def AY(P:Program)(fn:Func)(fc:FC):Option FC:=if fn.name== "runtime.NumGoroutine" then Y else match fn.body,aF (rj P) fn.results.toList with|some c,Z res=>if fn.ntmps=fc.nt/\fc.np<=fc.nt then(match fc.fN with|none=>(dp P fc.nt fc.body c).map λb=>⟨fc.nt,fc.np,res,b,fc.aB,Y⟩|some x=>(JI P fc.nt x fc.body c).map λy=>⟨fc.nt,fc.np,res,y.2,fc.aB,Z y.1⟩) else Y|_,_=>Y
def P0(P:Program)(fn:Func)(fc:FC):Option FC:=if fc.cT then AY P fn fc else Y
theorem FOk0.of(a:P.funcs[f]? =Z fn)(h:AY P fn fc=Z fc):FOk0 P f fc:=by unfold AY at h;split at h;{cases h};rename_i hn;split at h;{rename_i c res hb AZ;split at h;{rename_i hc;cases d:fc.fN with|none=>rw[d] at h;obtain⟨b,H,e⟩:=au.1 h;have E:res=fc.res:=congrArg FC.res e;exact⟨fn,c,a,by grind,hb,hc.1,hc.2,by grind,by grind⟩|some x=>rw[d] at h;obtain⟨y,H,e⟩:=au.1 h;have E:res=fc.res:=congrArg FC.res e;exact⟨fn,c,a,by grind,hb,hc.1,hc.2,by grind,by grind⟩};cases h};cases h
theorem FOk0.made{s:FC}(a:P.funcs[f]? =Z fn)(k:s.fN=Y)(h:AY P fn s=Z fc):FOk0 P f fc:=by unfold AY at h;split at h;{cases h};rename_i hn;split at h;{rename_i c res hb AZ;split at h;{rename_i hc;rw[k] at h;obtain⟨b,H,e⟩:=au.1 h;subst e;exact⟨fn,c,a,by grind,hb,hc.1,hc.2,AZ,⟨s.body,H⟩⟩};cases h};cases h
theorem sU.of(H:P.funcs[f]? =Z fn)(h:P0 P fn fc=Z fc):sU P f fc:=by unfold P0 at h;split at h;{rename_i hr;exact⟨FOk0.of H h,hr⟩};cases h
def JJ(P:Program)(nt dst:Nat)(s:SC)(c:Code):Option SC:=match s,spine c with| .seq (.region k hs) b,.region _ ops false::d::rest=>(match ops.toList with|o::l=>(match o.op,o.guard with| .call ⟨.builtin .recover,_,_⟩,Y=>(match xM P nt ops l hs.tail,ve P nt b (d::rest) with|some sl,Z B=>if o.dst=Z dst/\dst<nt/\(ops.toList.all λx=>match x.dst with |some t=>decide (t<nt) |none=>true)=true then Z (.seq (.region k (⟨Z dst,.move (.t dst),Y⟩::sl)) B) else Y|_,_=>Y)|_,_=>Y)|[]=>Y)|_,_=>Y
structure sV P (f dst:Nat) (fc:FC):Prop where
 ex:∃fn c,P.funcs[f]? =Z fn/\(fn.name== "runtime.NumGoroutine")=false/\fn.body=Z c/\fn.ntmps=fc.nt/\fc.np<=fc.nt/\aF (rj P) fn.results.toList=Z fc.res/\JJ P fc.nt dst fc.body c=Z fc.body
 nr:fc.body.cT=true
def P1(P:Program)(fn:Func)(dst:Nat)(fc:FC):Option FC:=if fn.name== "runtime.NumGoroutine" then Y else match fn.body,aF (rj P) fn.results.toList with|some c,Z res=>if(fn.ntmps=fc.nt/\fc.np<=fc.nt)/\fc.body.cT=true then(JJ P fc.nt dst fc.body c).map λb=>⟨fc.nt,fc.np,res,b,fc.aB,fc.fN⟩ else Y|_,_=>Y
theorem sV.of{dst:Nat}(a:P.funcs[f]? =Z fn)(h:P1 P fn dst fc=Z fc):sV P f dst fc:=by unfold P1 at h;split at h;{cases h};rename_i hn;split at h;{rename_i c res hb AZ;split at h;{rename_i hc;obtain⟨b,H,e⟩:=au.1 h;have d:res=fc.res:=congrArg FC.res e;have E:b=fc.body:=congrArg FC.body e;exact⟨⟨fn,c,a,by grind,hb,hc.1.1,hc.1.2,by grind,by rw[H,E]⟩,hc.2⟩};cases h};cases h
theorem P2:∀n (l:List D) t,(entry n l).get t=if n<=t/\t<n+O l then l.getD (t-n) .dead else .dead|n,[],t=>by simp only[entry,Env.get,dG];grind|n,d::l,t=>by simp only[entry,Env.get,cY];split;{grind};rw[P2 (n+1) l t];grind
theorem Em(h:cp γ vs ds) k:bf γ (entry 0 ds) (vs++kK k undef):=by intro t;rw[P2];split;{have:=h.2 t _ (by grind:ds[t]? =Z (ds.getD (t-0) .dead));simpa[cg,zp,(by rw[h.1];grind:t<vs.size)] using this};exact .dead _
theorem P3{R:List mQ}(h:finish G R x=Z (r,H')): (∃s d,(x=Z (.norm,s)\/x=Z (.ret,s))/\gT G s.env s.hp R=Z d/\r= .val d/\H'=s.hp)\/∃s d,x=Z (.bM d,s)/\r= .bM d/\H'=s.hp:=by unfold finish at h;grind
theorem JK(c:aF (rj P) fn.results.toList=Z fc.res)(h:finish G fc.res x=Z (r,H')): ∃o s,x=Z (o,s)/\kU W G fc.nt Y [] (bodyPost P fn λe w'=>∃γ',γ.le γ'/\Frame γ H w γ' H' w'/\bz W G γ' H' w'/\gW γ' r e) γ H w o s:=by rcases P3 h with⟨s,d,b,f,rfl,rfl⟩ |⟨s,d,b,rfl,rfl⟩;{(have post:∀γ' (A:Act) w',γ.le γ'->Frame γ H w γ' s.hp w'->bz W G γ' s.hp w'->A.defers=[]->bf γ' s.env A.tmps->A.defers=[]/\∃v,(results fn A.tmps).run P w'= .ok v w'/\∃γ',γ.le γ'/\Frame γ H w γ' s.hp w'/\bz W G γ' s.hp w'/\gW γ' (.val d) (.returned v):=by intro γ' A w' L F J a E;obtain⟨v,Q,g⟩:=PW J.toInv E c f;exact⟨a,v,Q,γ',L,F,J,v,rfl,g⟩);rcases b with b |b;{exact⟨.norm,s,b,λγ' A w' L F J a _ E=>post γ' A w' L F J a E⟩};exact⟨.ret,s,b,λγ' A w' L F J a _ E=>post γ' A w' L F J a E⟩};exact⟨.bM d,s,b,λγ' A w' L F J a _ _ v V=>⟨a,γ',L,F,J,v,rfl,V⟩⟩
theorem JL:¬gW γ r .outgrown:=by cases r with|val d=>rintro⟨v,h,_⟩;cases h|bM d=>rintro⟨v,h,_⟩;cases h
def A0(P:Program)(f:Nat)(vs:Array Value)(w:World)(R:Ending->World->Prop):Prop:=∀v V,vs= #[v]++V->Enters P f/\(v= .nilIface->CallsD P f V .returning w λe u w'=>u= .returning/\R e w')/\ CallsD P f V (.panicking [{v:=v,recovered:=false}]) w λe u w'=>u= .panicking [{v:=v,recovered:=true}]/\R e w'
theorem aaT{r:D}{v:Value}{V:Array Value}(h:cp γ (#[v]++V) (r::ds)):aG γ v r/\cp γ V ds:=by have H:=h.2 0 r rfl;rw[(by simp only[cg];grind:(#[v]++V).getD 0 undef=v)] at H;refine⟨H,by have:=h.1;grind,λi d a=>?_⟩;have:=h.2 (i+1) d (by grind);rwa [(by simp only[cg];grind:(#[v]++V).getD (i+1) undef=V.getD i undef)] at this
theorem aaU{c:bt}(S:iP P W G c)(hm:P.follows .mixedOrders=true)(sQ:∀b s r,it b s=Z r->∃m,iter b m s=Z r){T:Nat->Option (Nat×FC)}(hT:∀f x,T f=Z x->sV P f x.1 x.2): ∀args H r H',qA c T G it f args H=Z (r,H')->∀γ w vs,bz W G γ H w->cp γ vs args->A0 P f vs w λe w'=>∃γ',γ.le γ'/\Frame γ H w γ' H' w'/\bz W G γ' H' w'/\gW γ' r e:=by intro args H r H' h γ w vs I hv v n A2;subst A2;unfold qA at h;split at h;{rename_i dst fc rv as P4;split at h;{rename_i hl;split at h;{rename_i d0 H0 A3;cases h;obtain⟨R,cd,h1,h2,h3,h4,h5,h6,g⟩:=(hT f (dst,fc) P4).ex;have E:=(hT f (dst,fc) P4).nr;dsimp only at h4 h5 h6 g E;obtain⟨hrv,has⟩:=aaT hv;(have bR:(n++kK (R.ntmps-n.size) undef).size=fc.nt:=by simp[h4,has.1,hl.1];omega);refine⟨⟨R,h1,h2,by rw[h3];rfl⟩,?_⟩;(have key:∀u U,(∀C p,C.mode=u->∀A k,(recoverD (C::p)=Z (A,k)\/(recoverD (C::p)=Y/\A= .nilIface/\k=C::p))->A=v/\k={C with mode:=U}::p)-> CallsD P f n u w λe u2 w'=>u2=U/\∃γ',γ.le γ'/\Frame γ H w γ' H' w'/\bz W G γ' H' w'/\gW γ' (.val d0) e:=by intro u U hu;refine callsD_of_wpS h1 h3 λC p K=>?_;refine aaQ cd ?_;unfold JJ at g;split at g;{rename_i keep hs b id ops d rest P5 nT;split at g;{rename_i o l nj;split at g;{rename_i vg ts0 sC qX;split at g;{rename_i sl b' lF ny;split at g;{rename_i JM;cases hh:fc.body with|seq x y=>rw[hh] at g A3 E;cases g;rw[nT];obtain⟨ho,aaX,n9⟩:=JM;refine aaR nj qX rfl sC λA k z=>?_;obtain⟨rfl,rfl⟩:=hu C p K A k z;rw[ho];obtain⟨out,s,M,hp⟩:=JK h6 A3;(have E1:bf γ ((dst,rv)::(dst,rv)::entry 0 as) (({tmps:=n++kK (R.ntmps-n.size) undef,defers:=[]}:Act).put (Z dst) A).tmps:=by intro t;have:=((Em has (R.ntmps-n.size)).put (by rw[bR];exact aaX) hrv) t;simp only[Env.get,Act.put] at this|-;split;{rename_i ht;rw[if_pos ht] at this;exact this};rename_i ht;rw[if_neg ht] at this;first |exact this |(exact this));(have dZ:∀(j:Nat) o' t,ops[j]? =Z o'->o'.dst=Z t->t<fc.nt:=λj o' t hj ht=>by have:=fy.1 n9 o' (by grind);rw[ht] at this;simpa using this);obtain⟨nX,oI⟩:=Eb lF;simp only[ay] at M;simp only[iq,eS,cz,aY,aE.ev,Env.get,if_true,put] at M;(have done:∀{γ':Gh} {B:Act} {w':World} {e:Exit},bodyPost P R (λe w'=>∃γ',γ.le γ'/\Frame γ H w γ' H' w'/\bz W G γ' H' w'/\gW γ' (.val d0) e) e B w'-> bodyPostS P R C p (λe u2 w'=>u2=U/\∃γ',γ.le γ'/\Frame γ H w γ' H' w'/\bz W G γ' H' w'/\gW γ' (.val d0) e) e B ({C with mode:=U}::p) w':=by intro γ' B w' e X;cases e with|normal=>obtain⟨q1,v,q2,q3⟩:=X;exact⟨q1,U,rfl,v,q2,rfl,q3⟩|ret=>obtain⟨q1,v,q2,q3⟩:=X;exact⟨q1,U,rfl,v,q2,rfl,q3⟩|panic ch=>obtain⟨q1,q3⟩:=X;exact⟨q1,U,rfl,rfl,q3⟩|outgrown=>exact⟨U,rfl,X⟩|exit id=>exact X.elim|goto t=>exact X.elim);(cases N:iq c G sl ((dst,rv)::(dst,rv)::entry 0 as) H with|none=>rw[N] at M;simp at M|some ro=>rw[N] at M;refine IK S dZ l sl γ _ H _ w nX (λi a so ha hso=>by obtain⟨_,q⟩:=oI i a so ha hso;exact Jp q) I E1 (by simp[Act.put,bR]) ro N (λγ' e2 H2 B w' z L F J E' O Q=>?_) (λγ' d2 e2 H2 v2 B w' z L F J V E' O Q=>?_);{subst z;refine PZ (d::rest) ?_;refine aaS S hm sQ b (d::rest) _ ny (by simpa[SC.cT] using E) _ γ' _ B w' out s ?_ M J (E'.keep _) O (df:=[]) (by rw[Q];simp[Act.put]) ?_;{rintro a w ⟨_,_,_,_,_,_,q⟩;exact JL q};refine(hp.later L F).other λe a w _ q=>done (γ':=γ') q};subst z;obtain⟨rfl,rfl⟩:=M;have:=hp γ' B w' L F J (by show B.defers=[];rw[Q];simp[Act.put]) O E' v2 V;exact done (γ':=γ') this)|_=>rw[hh] at g;cases g};cases g};cases g};cases g};cases g};cases g);refine⟨λhv0=>key .returning .returning ?_,key _ _ ?_⟩;{intro C p hc A k z;rcases z with z |⟨_,rfl,rfl⟩;{rw[(by simp[recoverD,hc]:recoverD (C::p)=Y)] at z;cases z};exact⟨hv0.symm,by rw[<-hc]⟩};intro C p hc A k z;(have hs:recoverD (C::p)=Z (v,{C with mode:=.panicking [{v:=v,recovered:=true}]}::p):=by simp[recoverD,hc]);grind};cases h};cases h};cases h
theorem xS{e:Exit}(h:bodyPost P fn R e a w):bodyPostD P fn R e a w:=by cases e with|normal=>obtain⟨Q,v,c,b⟩:=h;show Leaves P fn a.tmps R a.defers .returning w;rw[Q];exact⟨v,c,b⟩|ret=>obtain⟨Q,v,c,b⟩:=h;show Leaves P fn a.tmps R a.defers .returning w;rw[Q];exact⟨v,c,b⟩|panic C=>obtain⟨Q,b⟩:=h;show Leaves P fn a.tmps R a.defers (.panicking C) w;rw[Q];exact b|outgrown=>exact h|exit id=>exact h|goto t=>exact h
theorem A0.mono{a:Ending->World->Prop}(h:A0 P f vs w R)(k:∀e w',R e w'->a e w'):A0 P f vs w a:=λv V H=>let⟨b,c,d⟩:=h v V H;⟨b,λn=>(c n).mono λ_ _ _ q=>⟨q.1,k _ _ q.2⟩,d.mono λ_ _ _ q=>⟨q.1,k _ _ q.2⟩⟩
theorem aa0(J:Inv G γ H w){nb:Nat}{e:Ending}(E:gW γ r e)(h:(r.aB nb H).ren (below nb) Z=Z r'):gW (γ.ra H w nb) r' e:=by refine IG (Ju γ H w nb) h ?_;cases r with|val d=>obtain⟨v,rfl,a⟩:=E;exact⟨v,rfl,oe J 8 (a.mono (Gh.AK J nb))⟩|bM d=>obtain⟨v,rfl,a⟩:=E;exact⟨v,rfl,oe J 8 (a.mono (Gh.AK J nb))⟩
theorem aa1(I:Inv G γ H w){γ':Gh}{x:Hp}{w':World}(L:γ.le γ')(F:Frame γ H w γ' x w')(J:Inv G γ' x w'){e:Ending}(E:gW γ' r e)(h:nP (O H.bx) (r,x)=(r',H')): ∃a,γ.le a/\Frame γ H w a H' w'/\Inv G a H' w'/\gW a r' e:=by unfold nP at h;split at h;{rename_i bx r1 dw hr;split at h;{rename_i pQ;cases h;obtain⟨b,c,d⟩:=PM I L F J dw pQ;exact⟨_,b,c,d,aa0 J E hr⟩};grind};grind
theorem aa2{args:List D}{z:Bool}{x:Option (bB×Hp)}(h:jI z (O H.bx) x=Z (r,H'))(d:∀R H0,x=Z (R,H0)->sH P W G f args H R H0):sH P W G f args H r H':=by unfold jI at h;split at h;{obtain⟨y,hy,hs⟩:=au.1 h;obtain⟨R,H0⟩:=y;obtain⟨t,m⟩:=d R H0 hy;refine⟨t,λg w v I i=>(m g w v I i).mono ?_⟩;rintro e n ⟨j,L,F,J,E⟩;obtain⟨a,b,c,k,l⟩:=aa1 I.toInv L F J.toInv E hs;exact⟨a,b,c,I.up b c k,l⟩};grind
end
section
structure Cf where
 /-- Functions whose literals are rows of their own. -/
 bg:List Nat
 /-- Functions that do not seal what they give. -/
 aa3:List Nat
 /-- Ranges over functions: function, iterator. -/
 rg:List (Nat×Nat)
 eN:Nat->List D->List D->Hp->Option (List (List D))
 /-- Functions whose rows that grow are plain data. -/
 ap:List Nat
 /-- Loops whose row that grows begins with a token: function, slot, type, size. -/
 tk:List (Nat×Nat×Nat×Nat)
 /-- Functions whose rounds keep what they make. -/
 nl:List Nat
 /-- Functions where one variable made in an open order is made ahead. -/
 m1:List Nat:=[]
def eu(x:Nat):List Nat->List Nat|[]=>[x]|y::l=>if x<y then x::y::l else if x=y then y::l else y::eu x l
def oh(a b:List Nat):List Nat:=b.foldr eu a
def P6(ops:List SO)(O:List Nat):List Nat:=ops.foldr (λo l=>oh (match o.dst with |some t=>l.filter (λx=>!Nat.beq x t) |none=>l) o.uses) O
def Eo:SC->List Nat| .exit i=>[i]| .seq a b | .cond _ a b | .j5 _ _ _ _ a b=>Eo a++Eo b| .block _ b | .loop _ b | .scope b | .loc b | .j4 b=>Eo b|_=>[]
def Ep:SC->Bool| .ret=>true| .seq a b | .cond _ a b | .j5 _ _ _ _ a b=>Ep a||Ep b| .block _ b | .loop _ b | .scope b | .loc b | .j4 b=>Ep b|_=>false
def JN(id:Nat):List (Nat×List Nat)->List Nat|[]=>[]|(i,l)::r=>if i=id then l else JN id r
def dU(fin:List Nat):SC->List (Nat×List Nat)->List Nat->List Nat×SC| .skip,_,t=>(t,.skip)| .region _ ops,_,t=>(P6 ops t,.region t ops)| .draw _ aW ops,_,t=>(P6 ops t,.draw t aW ops)| .seq a b,E,t=>(match dU fin b E t with|(L,B)=>(match dU fin a E L with|(l0,A)=>(l0,.seq A B)))| .cond c a b,E,t=>(match dU fin a E t,dU fin b E t with|(h,A),(j,B)=>(oh (oh h j) c.slots,.cond c A B))| .block id b,E,t=>(match dU fin b ((id,t)::E) t with|(l,B)=>(l,.block id B))| .loop _ b,E,_=>(match dU fin b E [] with|(L,_)=>(match dU fin b E L with|(d,B)=>(oh L d,.loop (oh L d) B)))| .j5 f n g ps a b,E,t=>(match dU [] b [] [] with|(L,B)=>(match dU [] a [] L with|(l0,A)=>(oh (oh (oh (oh t (l0.filter λx=>!ps.contains x)) ((Eo b).flatMap λi=>JN i E)) g.slots) (if Ep b then fin else[]),.j5 f n g ps A B)))| .tok s e z,_,t=>(oh t [s],.tok s e z)| .tokb s o e z,_,t=>(oh t [s],.tokb s o e z)| .stuck,_,_=>([],.stuck)| .j4 b,E,t=>(match dU fin b E t with |(l,B)=>(l,.j4 B))| .scope b,E,t=>(match dU fin b E t with |(l,B)=>(l,.scope B))| .loc b,E,t=>(match dU fin b E t with |(l,B)=>(l,.loc B))| .exit id,E,_=>(JN id E,.exit id)| .ret,_,_=>(fin,.ret)
def A4(p:Op->Bool):Code->Bool| .region _ ops _=>ops.toList.any λo=>p o.op| .seq a b | .cond _ a b | .rangeFunc _ _ a b=>A4 p a||A4 p b| .block _ b | .loop b | .scope b=>A4 p b|_=>false
def aa4:Op->Bool| .call c=>(match c.callee with| .builtin .append=>true|_=>false)|_=>false
def aa5:Op->Bool| .alloc _ | .box _ _ | .buildSlice _ _ _ | .makeSlice _ _ _=>true| .call c=>(match c.callee with| .builtin .len=>false| .builtin .cap=>false|_=>true)|_=>false
def P7(cf:Cf)(fi:Nat)(o:Oper):SO:=⟨Y,match o.op with| .buildSlice _ _ _=>if cf.bg.contains fi then .bsliceG 0 0 0 .i7 [] else .stuck| .call c=>(match c.callee with| .builtin .append=>if cf.ap.contains fi then .append 0 0 0 (.t 0) (.t 0) else .appendg 0 0 0 (.t 0) (.t 0)|_=>.stuck)|_=>.stuck,Y⟩
def Es(n:Bool)(b:Code)(x:SC):SC:=if !n&&A4 aa5 b&& !A4 aa4 b then .loc x else x
def P8(fi:Nat):List (Nat×Nat×Nat×Nat)->Option (Nat×Nat×Nat)|[]=>Y|(i,x)::r=>if i=fi then Z x else P8 fi r
def xT(fi:Nat):List (Nat×Nat)->Option Nat|[]=>Y|(i,x)::r=>if i=fi then Z x else xT fi r
def JO:Op->Bool| .move _ | .assign _ | .pick _ _ _ | .build _ _ | .nilCheck _ | .binOp _ _ _ _ _ | .unOp _ _ _ | .makeInterface _ _ | .makeFunc _ _ _ | .slice _ _ _ _ _ | .fieldAddr _ _ _ | .field _ _ _ | .indexAddr _ _ _ | .index _ _ _ | .extract _ _=>true| .call c=>(match c.callee with| .builtin .len=>true| .builtin .cap=>true|_=>false)|_=>false
def JP(ms:List Nat)(i:Nat):Nat->List Oper->List (Nat×Nat)|_,[]=>[]|j,o::r=>if decide (i<=j)||JO o.op||rel ms i j then(if decide (i<=j) then[] else JP ms i (j+1) r) else(j,i)::JP ms i (j+1) r
def Et(ms:List Nat)(ops:List Oper):Nat->List Oper->List (Nat×Nat)|_,[]=>[]|i,o::r=>if JO o.op then Et ms ops (i+1) r else JP ms i 0 ops++Et ms ops (i+1) r
def JQ:Nat->List Oper->List Nat|_,[]=>[]|i,o::r=>if DO o&&o.guard.isNone&&(jQ o).isEmpty then i::JQ (i+1) r else JQ (i+1) r
def ndO(ops:List Oper)(j:Nat):Bool:=match ops[j]? with|some o=>!JO o.op|none=>false
def aa7(l:Nat)(ms:List Nat)(ops:List Oper)(c:List Nat):List (Nat×Nat):=if decide (l<=O c)&&c.all (λa=>Ah ms (c.map λi=>(1000000+i,0)) (ndO ops) a 0 ops) then(c.map λi=>(1000000+i,0))++(Et ms ops 0 ops).filter λp=>!c.contains p.2 else Et ms ops 0 ops
def aa8(l:Nat)(ms:List Nat)(ops:List Oper):List (Nat×Nat):=aa7 l ms ops (JQ 0 ops)
def lI(cf:Cf)(fi:Nat):Code->SC| .skip=>.skip| .region _ ops d=>if d then .draw [] (aa8 (if cf.m1.contains fi then 1 else 2) (Af ops.toList []) ops.toList) (ops.toList.map (P7 cf fi)) else .region [] (ops.toList.map (P7 cf fi))| .seq a b=>.seq (lI cf fi a) (lI cf fi b)| .cond _ a b=>.cond (.t 0) (lI cf fi a) (lI cf fi b)| .block id b=>.block id (lI cf fi b)| .loop b=>(match P8 fi cf.tk with|some (s,e,z)=>.seq (.tok s e z) (.loop [] (.loc (lI cf fi b)))|none=>.loop [] (Es (cf.nl.contains fi) b (lI cf fi b)))| .exit id=>.exit id| .scope b=>.scope (lI cf fi b)| .ret=>.ret| .rangeFunc _ ps a b=>(match xT fi cf.rg with|some f=>.j5 f (cf.eN f) (.t 0) ps.toList (lI cf fi a) (Es (cf.nl.contains fi) b (lI cf fi b))|none=>.stuck)| .label _=>.skip|_=>.stuck
theorem P9:∀(s:SC) (fin:List Nat) (e:List (Nat×List Nat)) (o:List Nat),(dU fin s e o).2.cT=s.cT:=by intro s;induction s with|seq a b I d=>intro fin e o;show((dU fin a e (dU fin b e o).1).2.cT&&(dU fin b e o).2.cT)=_;rw[I,d];rfl|cond c a b I d=>intro fin e o;show((dU fin a e o).2.cT&&(dU fin b e o).2.cT)=_;rw[I,d];rfl|block id b i=>intro fin e o;show(dU fin b ((id,o)::e) o).2.cT=_;rw[i];rfl|loop k b i=>intro fin e o;show(dU fin b e (dU fin b e []).1).2.cT=_;rw[i];rfl|j4 b i=>intro fin e o;show(dU fin b e o).2.cT=_;rw[i];rfl|scope b i=>intro fin e o;show(dU fin b e o).2.cT=_;rw[i];rfl|loc b i=>intro fin e o;show(dU fin b e o).2.cT=_;rw[i];rfl|_=>intros;rfl
variable{env:Env}{H:Hp}{nt:Nat}{P:Program}{b:SC}{s':St}
theorem aa9{a A B:SC}{x y:Code}(h:dp P nt a x=Z A)(H:dp P nt b y=Z B):dp P nt (.seq a b) (.seq x y)=Z (.seq A B):=by
 cases a;case tok=>cases x<;>simp[dp] at h
 case tokb=>cases x<;>simp[dp] at h
 all_goals (show(match dp P nt _ x,dp P nt b y with |some A,Z B=>Z (SC.seq A B) |_,_=>Y)=_;rw[h,H])
theorem aba(Q:SC)(c:Code):∀S,dp P nt Q c=Z S->∀(fin:List Nat) (E:List (Nat×List Nat)) (o:List Nat),∃F,dp P nt F c=Z (dU fin S E o).2:=by
 fun_induction dp P nt Q c;all_goals (intro S h fin E o)
 all_goals try (cases h;done)
 case case1 i=>obtain⟨B,H,rfl⟩:=au.1 h;obtain⟨k,d⟩:=i B H fin E o;exact⟨.loc k,by simp only[dp,d];rfl⟩
 case case2=>cases h;exact⟨.skip,rfl⟩
 case case3=>cases h;exact⟨.skip,rfl⟩
 case case4 K G id O u=>obtain⟨R,n,rfl⟩:=au.1 h;exact⟨.region o G,by simp only[dp,u,n,if_true];rfl⟩
 case case6 K r G id O R n u=>cases h;exact⟨.draw o r G,by simp only[dp,n,u,if_true];rfl⟩
 case case9 f J Y T a b g U x y V A B H v L u I j=>cases h;obtain⟨w,l⟩:=j B H [] [] [];obtain⟨C,m⟩:=I A v [] [] (dU [] B [] []).1;refine⟨.j5 f J (.t 0) [] C w,?_⟩;(have W:((dU [] A [] (dU [] B [] []).1).2.cT&&(dU [] B [] []).2.cT&&U.toList.all λp=>decide (p<nt))=true:=by rw[P9,P9];exact u);simp only[dp,L,m,l,W,if_true];rfl
 case case12 s e z b c M i=>obtain⟨B,H,rfl⟩:=au.1 h;obtain⟨k,d⟩:=i B H fin E o;exact⟨.seq (.tok s e z) k,by simp only[dp,d,if_pos M];rfl⟩
 case case14 s N e z b c M i=>obtain⟨B,H,rfl⟩:=au.1 h;obtain⟨k,d⟩:=i B H fin E o;exact⟨.seq (.tokb s N e z) k,by simp only[dp,d,if_pos M];rfl⟩
 case case16 a b x y n1 n2 A B H v I j=>cases h;obtain⟨w,l⟩:=j B H fin E o;obtain⟨C,m⟩:=I A v fin E (dU fin B E o).1;exact⟨.seq C w,aa9 m l⟩
 case case18 c0 a b c x y V A B H v L I j=>cases h;obtain⟨w,l⟩:=j B H fin E o;obtain⟨C,m⟩:=I A v fin E o;exact⟨.cond (.t 0) C w,by simp only[dp,L,m,l];rfl⟩
 case case20 X b id x i=>obtain⟨B,H,rfl⟩:=au.1 h;obtain⟨k,d⟩:=i B H fin ((id,o)::E) o;exact⟨.block 0 k,by simp only[dp,d];rfl⟩
 case case21 K b x i=>obtain⟨B,H,rfl⟩:=au.1 h;obtain⟨k,d⟩:=i B H fin E (dU fin B E []).1;exact⟨.loop (oh (dU fin B E []).1 (dU fin B E (dU fin B E []).1).1) k,by simp only[dp,d];rfl⟩
 case case22 b x i=>obtain⟨B,H,rfl⟩:=au.1 h;obtain⟨k,d⟩:=i B H fin E o;exact⟨.scope k,by simp only[dp,d];rfl⟩
 case case23=>cases h;exact⟨.exit 0,rfl⟩
 case case24=>cases h;exact⟨.ret,rfl⟩
 case case25 i=>obtain⟨B,H,rfl⟩:=au.1 h;obtain⟨k,d⟩:=i B H fin E o;exact⟨.j4 k,by simp only[dp,d];rfl⟩
 case case26=>cases h;exact⟨.stuck,by simp only[dp];rfl⟩
def xU(P:Program)(cf:Cf)(fi:Nat)(f:Func):Option FC:=if f.name== "runtime.NumGoroutine" then Y else match f.body,aF (rj P) f.results.toList with|some c,Z res=>if f.params.size+f.nfree<=f.ntmps then(match dp P f.ntmps (lI cf fi c) c with|some b=>Z ⟨f.ntmps,f.params.size+f.nfree,res,(dU (res.map λ| .t i=>i | .cell i _=>i) b [] (res.map λ| .t i=>i | .cell i _=>i)).2,!cf.aa3.contains fi,Y⟩|none=>Y) else Y|_,_=>Y
theorem abb{cf:Cf}{fi:Nat}{f:Func}{F:FC}(H:P.funcs[fi]? =Z f)(h:xU P cf fi f=Z F):FOk0 P fi F:=by unfold xU at h;split at h;{cases h};rename_i hn;split at h;{rename_i c res hb AZ;split at h;{rename_i hle;split at h;{rename_i b JR;cases h;exact⟨f,c,H,by simpa using hn,hb,rfl,hle,AZ,aba _ _ _ JR _ _ _⟩};cases h};cases h};cases h
variable{c:bt}{G:Nat->Option (List PD)}
def oT(c:bt)(G:Nat->Option (List PD))(keep:List Nat)(ops:List SO)(env:Env)(H:Hp):Option (Out×St):=match iq c G ops env H with|some (.ok env H)=>Z (.norm,⟨env.keep keep,H⟩)|some (.bM d env H)=>Z (.bM d,⟨env,H⟩)|none=>Y
def opsV(c:bt)(G:Nat->Option (List PD))(keep:List Nat)(x:Option (bB×Hp))(dst:Option Nat)(r:List SO)(env:Env):Option (Out×St):=match x with|some (.val d,H')=>oT c G keep r (put dst d env) H'|some (.bM d,H')=>Z (.bM d,⟨env,H'⟩)|none=>Y
def xV(c:bt)(G:Nat->Option (List PD))(keep:List Nat)(g:Option Bool)(o:SO)(r:List SO)(env:Env)(H:Hp):Option (Out×St):=match g with|some true=>opsV c G keep (cz c G env H o.k) o.dst r env|some false=>oT c G keep r (put o.dst .undef env) H|none=>Y
@[simp] theorem amI(it:It)(keep:List Nat)(o:List SO)(env:Env)(H:Hp):ay c G it (.region keep o) ⟨env,H⟩=oT c G keep o env H:=rfl
@[simp] theorem amJ(keep:List Nat)(env:Env)(H:Hp):oT c G keep [] env H=Z (.norm,⟨env.keep keep,H⟩):=rfl
theorem Qa(keep:List Nat)(o:SO)(r:List SO)(env:Env)(H:Hp):oT c G keep (o::r) env H=xV c G keep (eS env o.g) o r env H:=by unfold oT xV;simp only[iq];cases eS env o.g with|none=>rfl|some b=>cases b with|false=>rfl|true=>unfold opsV;cases cz c G env H o.k with|none=>rfl|some x=>obtain⟨y,a⟩:=x;cases y<;>rfl
@[simp] theorem amK(keep:List Nat)(dst:Option Nat)(k:SK)(r:List SO)(env:Env)(H:Hp):oT c G keep (⟨dst,k,Y⟩::r) env H=opsV c G keep (cz c G env H k) dst r env:=Qa ..
@[simp] theorem amL(keep:List Nat)(dst:Option Nat)(k:SK)(g:Nat×Bool)(r:List SO)(env:Env)(H:Hp):oT c G keep (⟨dst,k,Z g⟩::r) env H=xV c G keep (eS env (Z g)) ⟨dst,k,Z g⟩ r env H:=Qa ..
@[simp] theorem amM(keep:List Nat)(d:D)(H':Hp)(dst:Option Nat)(r:List SO)(env:Env):opsV c G keep (Z (.val d,H')) dst r env=oT c G keep r (put dst d env) H':=rfl
@[simp] theorem amN(keep:List Nat)(d:D)(H':Hp)(dst:Option Nat)(r:List SO)(env:Env):opsV c G keep (Z (.bM d,H')) dst r env=Z (.bM d,⟨env,H'⟩):=rfl
@[simp] theorem amO(keep:List Nat)(o:SO)(r:List SO)(env:Env)(H:Hp):xV c G keep (Z true) o r env H=opsV c G keep (cz c G env H o.k) o.dst r env:=rfl
@[simp] theorem amP(keep:List Nat)(o:SO)(r:List SO)(env:Env)(H:Hp):xV c G keep (Z false) o r env H=oT c G keep r (put o.dst .undef env) H:=rfl
def JS(c:bt)(G:Nat->Option (List PD))(aW:List (Nat×Nat))(u:Env)(d:D)(H':Hp)(o:SO)(r:List SO)(env:Env)(H:Hp)(a:List (Nat×Nat)):Option (Out×St):=match lY c G aW (O a) (O a+1) o.dst.toList r (put o.dst .undef env) H with|some cs=>if qz aW (a++(0,0)::cs)&&CR aW (a++(0,0)::cs) (O a) then Z (.bM d,⟨u,H'⟩) else Y|none=>Y
def jS(c:bt)(G:Nat->Option (List PD))(keep:List Nat)(aW:List (Nat×Nat))(u:Env)(ops:List SO)(env:Env)(H:Hp)(a:List (Nat×Nat)):Option (Out×St):=match fR c G ops env H with|some (env,H,cs)=>if qz aW (a++cs) then Z (.norm,⟨env.keep keep,H⟩) else Y|none=>match gH c G aW (O a) ops env H with|some (d,H',cs,k)=>if qz aW (a++cs)&&CR aW (a++cs) k then Z (.bM d,⟨u,H'⟩) else Y|none=>Y
def vh(c:bt)(G:Nat->Option (List PD))(keep:List Nat)(aW:List (Nat×Nat))(u:Env)(x:Option (bB×Hp))(o:SO)(r:List SO)(env:Env)(H:Hp)(a:List (Nat×Nat)):Option (Out×St):=match x with|some (.val d,H')=>jS c G keep aW u r (put o.dst d env) H' (a++[iL env H H' o.k])|some (.bM d,H')=>JS c G aW u d H' o r env H a|none=>Y
def vk(c:bt)(G:Nat->Option (List PD))(keep:List Nat)(aW:List (Nat×Nat))(u:Env)(g:Option Bool)(o:SO)(r:List SO)(env:Env)(H:Hp)(a:List (Nat×Nat)):Option (Out×St):=match g with|some true=>vh c G keep aW u (cz c G env H o.k) o r env H a|some false=>jS c G keep aW u r (put o.dst .undef env) H (a++[(0,0)])|none=>Y
@[simp] theorem amQ(it:It)(keep:List Nat)(p:List (Nat×Nat))(o:List SO)(env:Env)(H:Hp):ay c G it (.draw keep p o) ⟨env,H⟩=jS c G keep p (uu o env) o env H []:=rfl
theorem abc(keep:List Nat)(p:List (Nat×Nat))(u env:Env)(H:Hp)(a:List (Nat×Nat)):jS c G keep p u [] env H a=if qz p a then Z (.norm,⟨env.keep keep,H⟩) else Y:=by simp only[jS,fR,gu]
@[simp] theorem amR(keep:List Nat)(s:List (Nat×Nat))(u env:Env)(H:Hp)(a:List (Nat×Nat)):jS c G keep s u [] env H a=if s.all (λp=>!dX (a.getD p.1 (0,0)) (a.getD p.2 (0,0)))&&pM a then Z (.norm,⟨env.keep keep,H⟩) else Y:=abc ..
theorem Qb{keep:List Nat}{p:List (Nat×Nat)}{u:Env}{o:SO}{r:List SO}{E:Env}{H':Hp}{a:List (Nat×Nat)}{x:Nat×Nat} (b:fR c G (o::r) env H=match fR c G r E H' with |some (e,h,cs)=>Z (e,h,x::cs) |none=>Y) (f:∀i,gH c G p i (o::r) env H=(gH c G p (i+1) r E H').map λy=>(y.1,y.2.1,x::y.2.2.1,y.2.2.2)): jS c G keep p u (o::r) env H a=jS c G keep p u r E H' (a++[x]):=by unfold jS;rw[b,f];cases fR c G r E H' with|some z=>obtain⟨e,h,cs⟩:=z;simp only[jE,alX]|none=>simp only[dF,ua];cases gH c G p (O a+1) r E H' with|none=>rfl|some z=>obtain⟨d,h,cs,k⟩:=z;simp only[eZ,jE,alX]
theorem Qc(keep:List Nat)(p:List (Nat×Nat))(u:Env)(o:SO)(r:List SO)(env:Env)(H:Hp)(a:List (Nat×Nat)):jS c G keep p u (o::r) env H a=vk c G keep p u (eS env o.g) o r env H a:=by cases g:eS env o.g with|none=>unfold jS vk;simp only[fR,gH,g]|some b=>cases b with|false=>exact Qb (by simp only[fR,g];cases fR c G r (put o.dst .undef env) H<;>rfl) (λi=>by simp only[gH,g])|true=>unfold vk vh;dsimp only;cases k:cz c G env H o.k with|none=>unfold jS;simp only[fR,gH,g,k]|some x=>obtain⟨y,e⟩:=x;cases y with|val d=>exact Qb (by simp only[fR,g,k];cases fR c G r (put o.dst d env) e<;>rfl) (λi=>by simp only[gH,g,k])|bM d=>unfold jS JS;simp only[fR,gH,g,k];cases lY c G p (O a) (O a+1) o.dst.toList r (put o.dst .undef env) H<;>rfl
@[simp] theorem amS(keep:List Nat)(p:List (Nat×Nat))(u:Env)(dst:Option Nat)(k:SK)(r:List SO)(env:Env)(H:Hp)(a:List (Nat×Nat)):jS c G keep p u (⟨dst,k,Y⟩::r) env H a=vh c G keep p u (cz c G env H k) ⟨dst,k,Y⟩ r env H a:=Qc ..
@[simp] theorem amT(keep:List Nat)(p:List (Nat×Nat))(u:Env)(dst:Option Nat)(k:SK)(g:Nat×Bool)(r:List SO)(env:Env)(H:Hp)(a:List (Nat×Nat)):jS c G keep p u (⟨dst,k,Z g⟩::r) env H a=vk c G keep p u (eS env (Z g)) ⟨dst,k,Z g⟩ r env H a:=Qc ..
@[simp] theorem amU(keep:List Nat)(p:List (Nat×Nat))(u:Env)(d:D)(H':Hp)(o:SO)(r:List SO)(env:Env)(H:Hp)(a:List (Nat×Nat)):vh c G keep p u (Z (.val d,H')) o r env H a=jS c G keep p u r (put o.dst d env) H' (a++[iL env H H' o.k]):=rfl
@[simp] theorem amV(keep:List Nat)(p:List (Nat×Nat))(u:Env)(d:D)(H':Hp)(o:SO)(r:List SO)(env:Env)(H:Hp)(a:List (Nat×Nat)):vh c G keep p u (Z (.bM d,H')) o r env H a=JS c G p u d H' o r env H a:=rfl
@[simp] theorem amW(keep:List Nat)(p:List (Nat×Nat))(u:Env)(o:SO)(r:List SO)(env:Env)(H:Hp)(a:List (Nat×Nat)):vk c G keep p u (Z true) o r env H a=vh c G keep p u (cz c G env H o.k) o r env H a:=rfl
@[simp] theorem amX(keep:List Nat)(p:List (Nat×Nat))(u:Env)(o:SO)(r:List SO)(env:Env)(H:Hp)(a:List (Nat×Nat)):vk c G keep p u (Z false) o r env H a=jS c G keep p u r (put o.dst .undef env) H (a++[(0,0)]):=rfl
noncomputable def oU (c:bt) (G:Nat->Option (List PD)) (x:Option (Out×St)) (b:SC):Option (Out×St):=match x with|some (.norm,s')=>ay c G aO b s'|r=>r
noncomputable def Eu (c:bt) (G:Nat->Option (List PD)) (t:D) (a b:SC) (s:St):Option (Out×St):=match t with| .p (.bool t)=>if t then ay c G aO a s else ay c G aO b s|_=>Y
def oV(id:Nat)(x:Option (Out×St)):Option (Out×St):=match x with|some (.exit i,s')=>if i=id then Z (.norm,s') else Z (.exit i,s')|r=>r
noncomputable def cB (c:bt) (G:Nat->Option (List PD)) (keep:List Nat) (b:SC) (s:St):Option (Out×St):=aO (λs=>ay c G aO b ⟨s.env.keep keep,s.hp⟩) s
def Qd(nb nt:Nat)(x:Option (Out×St)):Option (Out×St):=x.map (cx nb nt)
def Qe(nb nt:Nat)(x:Option (Out×St)):Option (Out×St):=x.map λx=>cx nb nt (sv nb x)
def Qf(x:Option St):Option (Out×St):=x.map λs=>(.norm,s)
def Qg(s:Nat)(x:Option (D×Hp))(env:Env):Option (Out×St):=match x with|some (d,H)=>Z (.norm,⟨(s,d)::env,H⟩)|none=>Y
@[simp] theorem amY(s:St):ay c G aO .skip s=Z (.norm,s):=rfl
@[simp] theorem amZ(id:Nat)(s:St):ay c G aO (.exit id) s=Z (.exit id,s):=rfl
@[simp] theorem am0(s:St):ay c G aO .ret s=Z (.ret,s):=rfl
@[simp] theorem am1(b:SC)(s:St):ay c G aO (.scope b) s=ay c G aO b s:=rfl
@[simp] theorem Qh(a b:SC)(s:St):ay c G aO (.seq a b) s=oU c G (ay c G aO a s) b:=rfl
@[simp] theorem am2(x:aE)(a b:SC)(env:Env)(H:Hp):ay c G aO (.cond x a b) ⟨env,H⟩=Eu c G (x.ev env) a b ⟨env,H⟩:=rfl
@[simp] theorem am3(id:Nat)(b:SC)(s:St):ay c G aO (.block id b) s=oV id (ay c G aO b s):=rfl
theorem Qi{f:St->Option (Out×St)}{s:St}(h:f s=f s'):aO f s=aO f s':=by (have k:∀m,iter f m s=iter f m s':=by intro m;cases m with|zero=>rfl|succ m=>simp only[iter,h]);cases x:aO f s' with|some r=>obtain⟨m,H⟩:=pN.1 x;exact pN.2 ⟨m,by rw[k];exact H⟩|none=>cases y:aO f s with|none=>rfl|some r=>obtain⟨m,H⟩:=pN.1 y;rw[k] at H;rw[pN.2 ⟨m,H⟩] at x;cases x
theorem abd{s:List Nat}{e:Env}{t:Nat}(h:t∈s):(e.keep s).get t=e.get t:=by induction s with|nil=>cases h|cons k s i=>show(if k=t then e.get k else Env.get (tW (λt=>(t,e.get t)) s) t)=_;split;{rename_i hk;rw[hk]};rename_i hk;(have :t∈s:=by rcases bJ.1 h with h |h;{exact absurd h.symm hk};exact h);exact i this
theorem abe(k:List Nat)(e:Env):(e.keep k).keep k=e.keep k:=nI λt h=>by rw[abd h]
@[simp] theorem am4(keep:List Nat)(b:SC)(env:Env)(H:Hp):ay c G aO (.loop keep b) ⟨env,H⟩=cB c G keep b ⟨env.keep keep,H⟩:=Qi (by dsimp only;rw[abe])
@[simp] theorem am5(b:SC)(env:Env)(H:Hp):ay c G aO (.loc b) ⟨env,H⟩=Qd (O H.bx) (O H.tk) (ay c G aO b ⟨env,H⟩):=rfl
@[simp] theorem am6(s e sz:Nat)(env:Env)(H:Hp):ay c G aO (.tok s e sz) ⟨env,H⟩=Qg s (mS e sz (env.get s) H) env:=rfl
noncomputable def vn (c:bt) (G:Nat->Option (List PD)) (xs:Option (List (List D))) (a b:SC) (env:Env) (ps:List Nat) (kb:Hp->Bool) (H:Hp):Option (Out×St):=match xs with|some xs=>ja (ay c G aO a) (ay c G aO b) env ps kb xs H|none=>Y
@[simp] theorem am7(f:Nat)(n:List D->List D->Hp->Option (List (List D)))(g:aE)(ps:List Nat)(a b:SC)(env:Env)(H:Hp):ay c G aO (.j5 f n g ps a b) ⟨env,H⟩=vn c G (zJ f n (g.ev env) H) a b env ps (CT (lz (g.ev env) H) H) H:=rfl
@[simp] theorem am8(f:Nat)(g:List D->List D->Hp->Option (List (List D)))(fi cap:List D)(H:Hp):zJ f g (.fn f fi cap) H=g fi cap H:=by simp[zJ]
@[simp] theorem am9(b:SC)(env:Env)(H:Hp):ay c G aO (.j4 b) ⟨env,H⟩=Qe (O H.bx) (O H.tk) (ay c G aO b ⟨env,H⟩):=rfl
@[simp] theorem ana(t off e sz:Nat)(s:St):ay c G aO (.tokb t off e sz) s=Qf (CS t off e sz s):=rfl
@[simp] theorem anb(s:St):Qf (Z s)=Z (.norm,s):=rfl
@[simp] theorem anc(nb n:Nat)(x:Out×St):Qe nb n (Z x)=Z (cx nb n (sv nb x)):=rfl
@[simp] theorem ane(s:St)(b:SC):oU c G (Z (.norm,s)) b=ay c G aO b s:=rfl
@[simp] theorem anf(id:Nat)(s:St)(b:SC):oU c G (Z (.exit id,s)) b=Z (.exit id,s):=rfl
@[simp] theorem ang(s:St)(b:SC):oU c G (Z (.ret,s)) b=Z (.ret,s):=rfl
@[simp] theorem anh(d:D)(s:St)(b:SC):oU c G (Z (.bM d,s)) b=Z (.bM d,s):=rfl
@[simp] theorem ani(a b:SC)(s:St):Eu c G (.p (.bool true)) a b s=ay c G aO a s:=rfl
@[simp] theorem anj(a b:SC)(s:St):Eu c G (.p (.bool false)) a b s=ay c G aO b s:=rfl
@[simp] theorem ank(id:Nat)(s:St):oV id (Z (.norm,s))=Z (.norm,s):=rfl
@[simp] theorem anl(id:Nat)(s:St):oV id (Z (.ret,s))=Z (.ret,s):=rfl
@[simp] theorem anm(id:Nat)(d:D)(s:St):oV id (Z (.bM d,s))=Z (.bM d,s):=rfl
@[simp] theorem ann(id i:Nat)(s:St):oV id (Z (.exit i,s))=if i=id then Z (.norm,s) else Z (.exit i,s):=rfl
@[simp] theorem ano(nb n:Nat)(x:Out×St):Qd nb n (Z x)=Z (cx nb n x):=rfl
@[simp] theorem anp(s:Nat)(d:D)(H:Hp)(env:Env):Qg s (Z (d,H)) env=Z (.norm,⟨(s,d)::env,H⟩):=rfl
theorem Qj{keep:List Nat}(h:ay c G aO b ⟨env.keep keep,H⟩=Z (.norm,s')):cB c G keep b ⟨env,H⟩=cB c G keep b s':=W9 h
theorem Qk{keep:List Nat}{o:Out}(h:ay c G aO b ⟨env.keep keep,H⟩=Z (o,s'))(a:o≠.norm):cB c G keep b ⟨env,H⟩=Z (o,s'):=Xa h a
@[simp] theorem anq(k:IntKind)(a b:Int):jG .add k a b=Z (.int k (k.wrap (a+b))):=rfl
@[simp] theorem anr(k:IntKind)(a b:Int):jG .sub k a b=Z (.int k (k.wrap (a-b))):=rfl
@[simp] theorem ans(k:IntKind)(a b:Int):jG .mul k a b=Z (.int k (k.wrap (a*b))):=rfl
@[simp] theorem ant(k:IntKind)(a b:Int):jG .quo k a b=if b=0 then Y else Z (.int k (k.wrap (a.tdiv b))):=rfl
@[simp] theorem anu(k:IntKind)(a b:Int):jG .rem k a b=if b=0 then Y else Z (.int k (a.tmod b)):=rfl
@[simp] theorem anv(k:IntKind)(a b:Int):jG .eql k a b=Z (.bool (a==b)):=rfl
@[simp] theorem anw(k:IntKind)(a b:Int):jG .neq k a b=Z (.bool (a !=b)):=rfl
@[simp] theorem anx(k:IntKind)(a b:Int):jG .lss k a b=Z (.bool (decide (a<b))):=rfl
@[simp] theorem anz(k:IntKind)(a b:Int):jG .leq k a b=Z (.bool (decide (a<=b))):=rfl
@[simp] theorem anA(k:IntKind)(a b:Int):jG .gtr k a b=Z (.bool (decide (a>b))):=rfl
@[simp] theorem anB(k:IntKind)(a b:Int):jG .geq k a b=Z (.bool (decide (a≥b))):=rfl
theorem wrap64{n:Int}(h: -9223372036854775808<=n)(H:n<9223372036854775808):IntKind.i64.wrap n=n:=by simp[IntKind.wrap,IntKind.bits,IntKind.signed];omega
@[simp] theorem anC(f:aE)(args:List aE)(env:Env)(H:Hp):cz c G env H (.call f args)=di c (f.ev env) (args.map (·.ev env)) H:=rfl
@[simp] theorem anD(x:aE)(env:Env)(H:Hp):cz c G env H (.panic x)=CQ (x.ev env) H:=rfl
@[simp] theorem anE(g:Nat)(first cap args:List D)(H:Hp):di c (.fn g first cap) args H=ag c g (first++args++cap) H:=rfl
theorem Ev{f:Nat}{args:List D}{d:D}{l:Hp}{d':D}(h:c f args ⟨[],[]⟩=Z (.val d,l))(a:D.aq args=[])(t:D.aJ args=[])(b:D.aR (idx []) (idx []) args=Z args) (e:d.ren (λ_=>Y) (λ_=>Y)=Z d'):ag c f args H=Z (.val d',H):=by (have r:∀n,reach H n []=[]:=by intro n;cases n<;>simp[reach,dC]);unfold ag;simp only[a,t,ins,r,dS,gu,nodupB,Bool.and_self,if_true,aF,b,h];unfold back;simp only[eo,dG,bA,if_true,oA,List.getElem?_nil,aF,bP,bB.ren,e,eZ]
end
section
variable{a:Act}{R:Ending->World->Prop}{fn:Func}{H:Hp}{it:It}{fid:Nat}{w:World}
variable{P:Program}{W:World}{G:Nat->Option (List PD)}{γ:Gh}
theorem rm{c:Code}{Q:Exit->Act->World->Prop}(h:c.wp P Q a w):eU Y fid P c Q a w:=mq (ro:=Y) ((wpIn_wide (n:=0)).2 h)
def my(P:Program)(fn:Func)(tmps:Array Value)(R:Ending->World->Prop):List Deferred->FrameMode->World->Prop|[],u,w=>Leaves P fn tmps R [] u w|d::ds,u,w=>(u≠.run/\∃r w',d.target= .collected r/\(Instr.takeDeferred r).run P w= .ok [] w'/\my P fn tmps R ds u w')\/Leaves P fn tmps R (d::ds) u w
theorem xW{tmps:Array Value}{ds:List Deferred}{u:FrameMode}(h:Leaves P fn tmps R ds u w):my P fn tmps R ds u w:=by cases ds with|nil=>exact h|cons d ds=>exact .inr h
theorem Ql{fn:Func}{tmps:Array Value}{R:Ending->World->Prop}:∀(ds:List Deferred) (u:FrameMode) (w:World) (fr:Go.Frame) (cs:List Go.Frame),fr.mode=u->fr.defers=ds->fr.tmps=tmps->P.funcs[fr.fn]? =Z fn->fr.kind= .normal->my P fn tmps R ds u w-> ∃e w' f,R e w'/\Comes P (lone fr cs w) (lone f cs w') e/\f.fn=fr.fn/\f.leaving P w' e|[],u,w,fr,cs,H,a,b,c,g,h=>leaves_steps [] u w fr cs H a b c g h|d::ds,u,w,fr,cs,H,a,b,c,g,h=>by rcases h with⟨i,r,W,t,k,h⟩ |h;{have hs:=step_collected (cs:=cs) (by rw[H];exact i) a t k;obtain⟨e,w',f,Q,j,l,m⟩:=Ql ds u W ({fr with defers:=[]++ds}:Go.Frame) cs H rfl b c g h;exact⟨e,w',f,Q,Comes.of_steps (.one hs) j,l,m⟩};exact leaves_steps (d::ds) u w fr cs H a b c g h
def rp(P:Program)(fn:Func)(R:Ending->World->Prop):Exit->Act->World->Prop| .normal,a,w | .ret,a,w=>my P fn a.tmps R a.defers .returning w| .panic c,a,w=>my P fn a.tmps R a.defers (.panicking c) w| .outgrown,_,w=>R .outgrown w|_,_,_=>False
theorem JT{f:FuncId}{c:Code}{args:Array Value}(p:P.funcs[f]? =Z fn)(x:fn.body=Z c) (h:eU Y f P c (rp P fn R) {tmps:=args++kK (fn.ntmps-args.size) undef,defers:=[]} w):Calls P f args w R:=by
 intro s;obtain⟨b,H⟩:∃b:Go.Frame,b={(default:Go.Frame) with fn:=f,kind:=.normal,roundOf:=Y}:=⟨_,rfl⟩;have n:b.roundOf=Y:=by rw[H]
 have B:b.fn=f:=by rw[H]
 have v:b.kind= .normal:=by rw[H]
 have r:Go.Frame.enter P f args .normal=b.atR {tmps:=args++kK (fn.ntmps-args.size) undef,defers:=[]} [.code c]:=by rw[H];simp[Go.Frame.enter,Go.Frame.atR,p,x]
 obtain⟨e,A,m,k,a⟩:=h b [] s n B;rw[r];have L:∀(u:FrameMode) (t:List Item),my P fn A.tmps R A.defers u m->∃e W F,R e W/\Comes P (lone ({b.atR A t with mode:=u}:Go.Frame) s m) (lone F s W) e/\F.fn=f/\F.leaving P W e:=by intro u t y;obtain⟨e,W,F,d,g,i,j⟩:=Ql A.defers u m ({b.atR A t with mode:=u}:Go.Frame) s rfl rfl rfl (by show P.funcs[b.fn]? =_;rw[B];exact p) v y;exact⟨e,W,F,d,g,i.trans B,j⟩
 cases e with|normal=>obtain⟨e,W,F,d,g,i,j⟩:=L .returning [] k;exact⟨e,W,F,d,Comes.of_steps (Steps.trans (StepsIn.steps a) (.one (stepR_end n))) g,i,j⟩|ret=>obtain⟨t,o⟩:=a.1 n;obtain⟨e,W,F,d,g,i,j⟩:=L .returning t k;exact⟨e,W,F,d,Comes.of_steps (StepsIn.steps o) g,i,j⟩|panic C=>obtain⟨t,o⟩:=a;obtain⟨e,W,F,d,g,i,j⟩:=L (.panicking C) t k;exact⟨e,W,F,d,Comes.of_steps (StepsIn.steps o) g,i,j⟩|outgrown=>exact⟨.outgrown,m,b,k,a.resolve_left (by rw[v];simp),B,trivial⟩|exit id=>exact k.elim|goto l=>exact k.elim
theorem JU{fn:Func}{tmps:Array Value}{R:Ending->World->Prop}{ds:List Deferred}{u:FrameMode}{B:Nat}{K:World->Prop}(H:u≠.run)(a:∀w,K w->my P fn tmps R ds u w) (T:∀w m,K w->B<=m->w.heap[m]? =Z (.deferred (Z []))->K (w.putObj m (.deferred Y))):∀(s:List Nat) (w:World),K w->s.Nodup->(∀m∈s,B<=m/\w.heap[m]? =Z (.deferred (Z [])))->my P fn tmps R (s.map mark++ds) u w|[],w,h,_,_=>a w h|m::s,w,h,n,b=>by obtain⟨d,f⟩:=qt.1 n;obtain⟨G,g⟩:=b m (by simp);refine .inl ⟨H,m,w.putObj m (.deferred Y),rfl,run_takeDeferred g,?_⟩;refine JU H a T s _ (T w m h G g) f λk c=>?_;obtain⟨i,j⟩:=b k (by simp[c]);exact⟨i,(World.putObj_heap_other (λe=>d (by rw[<-e];exact c))).trans j⟩
def lJ(fid:Nat)(P:Program):List Code->(Exit->Act->World->Prop)->Act->World->Prop|[],Q,a,w=>Q .normal a w|c::r,Q,a,w=>eU Y fid P c (Exit.then (lJ fid P r Q) Q) a w
theorem Qm{fid:Nat}:∀(x:List Code) {Q b:Exit->Act->World->Prop} {a:Act} {w:World},lJ fid P x Q a w->(∀e a w,Q e a w->b e a w)->lJ fid P x b a w|[],Q,b,a,w,h,k=>k _ _ _ h|c::x,Q,b,a,w,h,k=>by refine uW (P:=P) h λe a w q=>?_;cases e with|normal=>exact Qm x q k|_=>exact k _ _ _ q
theorem Qn{fid:Nat}:∀(x y:List Code) (Q:Exit->Act->World->Prop) (a:Act) (w:World),lJ fid P (x++y) Q a w->lJ fid P x (Exit.then (lJ fid P y Q) Q) a w|[],y,Q,a,w,h=>h|c::x,y,Q,a,w,h=>by refine uW (P:=P) h λe a w q=>?_;cases e with|normal=>exact Qn x y Q a w q|_=>exact q
theorem Qo{fid:Nat}:∀(x y:List Code) (Q:Exit->Act->World->Prop) (a:Act) (w:World),lJ fid P x (Exit.then (lJ fid P y Q) Q) a w->lJ fid P (x++y) Q a w|[],y,Q,a,w,h=>h|c::x,y,Q,a,w,h=>by refine uW (P:=P) h λe a w q=>?_;cases e with|normal=>exact Qo x y Q a w q|_=>exact q
theorem abf:∀(c:Code) {Q:Exit->Act->World->Prop} {a:Act} {w:World},lJ fid P (spine c) Q a w->eU Y fid P c Q a w:=by intro c;induction c with|seq x y i I=>intro Q a w h;refine pX (i (Qm (spine x) (Qn (spine x) (spine y) Q a w h) λe a w q=>?_));(cases e with|normal=>exact I q|_=>exact q)|_=>intro Q a w h;refine uW (P:=P) h λe a w q=>?_;cases e with|normal=>exact q|_=>exact q
theorem JV{fid:Nat}:∀(x:List Code) {Q:Exit->Act->World->Prop} {a:Act} {w:World},AX P x Q a w->lJ fid P x Q a w|[],Q,a,w,h=>h|c::x,Q,a,w,h=>by refine uW (rm (fid:=fid) h) λe a w q=>?_;cases e with|normal=>exact JV x q|_=>exact q
theorem abg{c:bt}(S:iP P W G c)(p:P.follows .mixedOrders=true)(i:∀b s r,it b s=Z r->∃m,iter b m s=Z r){t B:Nat}{fnc:Func}(n:P.funcs[fid]? =Z fnc){df:List Deferred}(N:SC)(C:List Code): ∀(f:SC),ve P t N C=Z f->f.eN P W G->∀(Q:Exit->Act->World->Prop) (γ:Gh) (s:St) (a:Act) (w:World) (o:Out) (g:St),(∀a w,¬Q .outgrown a w)->ay c G it f s=Z (o,g)-> bz W G γ s.hp w->bf γ s.env a.tmps->a.tmps.size=t->sO (Z B) df a.defers w->kU W G t (Z B) df Q γ s.hp w o g->lJ fid P C Q a w:=by
 fun_induction ve P t N C;all_goals (intro f h k Q γ s a w o g l j I E u v z)
 case case1 x y O d r X R T H U=>cases h;simp only[ay] at j;split at j;{rename_i s1 h1;refine AM S p i x O X H (ro:=Y) k.1 (.inr ⟨rfl,⟨B,rfl⟩,fnc,n⟩) _ γ s a w .norm s1 l h1 I E u v λA V w2 L F J K M E'=>?_;exact U R T k.2 Q A s1 V w2 o g l j J E' M K (z.later L F)};rename_i dt;refine AM S p i x O X H (ro:=Y) k.1 (.inr ⟨rfl,⟨B,rfl⟩,fnc,n⟩) _ γ s a w o g l j I E u v (z.other λe a w H q=>?_);cases o with|norm=>exact absurd j (dt g)|exit id=>cases H;exact q|ret=>cases H;exact q|bM d=>obtain⟨ch,rfl⟩:=H;exact q
 case case3=>refine AM S p i _ _ f h (ro:=Y) k (.inr ⟨rfl,⟨B,rfl⟩,fnc,n⟩) _ γ s a w o g l j I E u v (z.other λe a w H q=>?_);cases e<;>exact q
 all_goals cases h
theorem JW{e:Exit}(h:bodyPostD P fn R e a w):rp P fn R e a w:=by cases e with|normal=>exact xW h|ret=>exact xW h|panic c=>exact xW h|outgrown=>exact h|exit id=>exact h|goto t=>exact h
theorem abh{c:bt}(S:iP P W G c)(hm:P.follows .mixedOrders=true)(sQ:∀b s r,it b s=Z r->∃m,iter b m s=Z r){T:Nat->Option (Nat×FC)}(hT:∀f x,T f=Z x->sV P f x.1 x.2){f:Nat}{M:FC}(hf:FOk0 P f M){x:CO}(hx:M.fN=Z x)(qW:x.pre.all SC.cT=true)(hG:M.body.eN P W G) {args:List D}  {r:bB} {H':Hp} (hl:O args=M.np) (h:fZ c T G it M ⟨entry 0 args,H⟩=Z (r,H')):sH P W G f args H r H':=by
 obtain⟨fn,cd,h1,h2,h3,h4,h5,h6,E⟩:=hf.ex;rw[hx] at E;dsimp only at E;refine⟨⟨fn,h1,h2,by rw[h3];rfl⟩,λγ w vs I hv=>?_⟩;have A2:vs.size=M.np:=by rw[hv.1,hl]
 have bR:(vs++kK (fn.ntmps-vs.size) undef).size=M.nt:=by simp[h4,A2];omega
 refine JT h1 h3 (abf cd ?_);generalize hR:(fun(e:Ending) (w':World)=>∃γ',γ.le γ'/\Frame γ H w γ' H' w'/\bz W G γ' H' w'/\gW γ' r e)=R;have A5:∀(a:Act) (w':World),¬rp P fn R .outgrown a w':=by rintro a w' q;have q:R .outgrown w':=q;rw[<-hR] at q;obtain⟨_,_,_,_,q⟩:=q;exact JL q
 unfold JI at E;split at E;{rename_i id ops rest Jy;split at E;{rename_i o abi;split at E;{rename_i f0 vg ts0 sC qX;split at E;{rename_i pre sl f' C0 b JX lF vo Qp hb;split at E;{rename_i JM;simp only[cH,nJ] at E;obtain⟨xl,P5⟩:=E;(have e1:x.pre=pre:=by rw[<-xl]);(have e2:x.ops=sl.dropLast:=by rw[<-xl]);(have e3:x.f=f':=by rw[<-xl]);(have e4:x.as=C0:=by rw[<-xl]);rw[<-e1] at JX;rw[<-e3] at vo;rw[<-e4] at Qp;rw[P5] at hb;rw[<-tX (O x.pre) (spine cd),Jy];refine Qo _ _ _ _ _ ?_;unfold fZ at h;rw[hx] at h;dsimp only at h;split at h;{rename_i s1 sR;refine JV _ (JH S hm sQ _ _ _ JX qW _ γ ⟨entry 0 args,H⟩ _ w .norm s1 A5 sR I (Em hv _) bR (df:=[]) rfl λγ1 a1 w1 L1 F1 J1 og xP E1=>?_);show lJ f P (.region id ops false::rest) _ a1 w1;have og:a1.defers=[]:=og;have ok:=Jq lF;obtain⟨nX,oI⟩:=Eb lF;(have abj:ops.toList=ops.toList.dropLast++[o]:=by (have ny:ops.toList.getLast?=Z o:=by rw[Array.getLast?_toList];exact abi);(have N:ops.toList≠[]:=by intro e;rw[e] at ny;cases ny);(have hg:ops.toList.getLast N=o:=by rw[List.getLast?_eq_some_getLast N] at ny;exact lq ny);rw[<-hg];exact(List.dropLast_concat_getLast N).symm);(have Q:O ops.toList.dropLast=O x.ops:=by rw[e2,alY,alY,nX]);(have Qq:∀(i:Nat) a so,ops.toList.dropLast[i]? =Z a->x.ops[i]? =Z so->nV P ops M.nt a so:=λi a so ha U=>by rw[e2] at U;rw[List.getElem?_dropLast] at ha U;split at ha;{split at U;{obtain⟨_,q⟩:=oI i a so ha U;exact Jp q};cases U};cases ha);show eU Y f P (Code.region id ops false) _ a1 w1;refine rm (wp_region_list ?_);rw[abj];split at h;{rename_i xX H2 JY;refine Ae S ok.lt [o] ops.toList.dropLast x.ops γ1 s1.env s1.hp a1 w1 Q Qq J1 E1 xP _ JY (λk A6 JZ A J hr L2 F2 J2 E2 Qr A7=>?_) (λk d2 A6 JZ v2 A J hr _ _ _ _ _ _ _=>by cases hr);cases hr;have abk:A.defers=[]:=A7.trans og;have xo:=bZ E2 vo;have Qs:=Dd E2 Qp;(have hw:Region.wanted o (yielded ops A.tmps)=true:=by simp[Region.wanted,qX]);(have X:∀(t:Out) (y:St) (rv:D),ay c G it M.body ⟨xX.keep x.keep,H2⟩=Z (t,y)->((rv= .p .iH/\(t= .norm\/t= .ret))\/t= .bM rv)->nQ c T G it M.res (x.f.ev xX) (x.as.map (·.ev xX)) rv y=Z (r,H')-> wpList P ops (Exit.then (lJ f P rest (rp P fn R)) (rp P fn R)) [o] A J:=by intro t y rv F zO n;unfold nQ at n;split at n;{rename_i g first cap Eg;rw[Eg] at xo;generalize abl:A.eval f0=anF at xo;cases xo with|fn _ fa ca _ _ abm abn abo abp=>have rfa:cp k fa first:=⟨abm,abn⟩;have rca:cp k ca cap:=⟨abo,abp⟩;(have oG:(execOp A.eval o).run P J= .ok (.defer {target:=.fn (.func g) ca,args:=fa++vg.map A.eval}) J:=by simp[execOp,sC,resolve,abl,Deferred.ofValue]);simp only[wpList];rw[if_pos hw];left;unfold Oper.wp;rw[oG];show lJ f P rest (rp P fn R) (Act.put ({tmps:=A.tmps,defers:={target:=.fn (.func g) ca,args:=fa++vg.map A.eval}::A.defers}:Act) o.dst undef) J;(have abt:∀(z:Act),z.put o.dst undef=z:=λz=>by (have :o.dst=Y:=by simpa using JM);rw[this];rfl);rw[abt,abk];split at n;{rename_i dd H3 xA;(obtain⟨d,hfd,rfl,rfl⟩:∃d,gT G y.env H3 M.res=Z d/\r= .val d/\H'=H3:=by rcases P3 n with⟨s,d,hs,hd,sS,AR⟩ |⟨s,d,hs,_,_⟩;{rcases hs with hs |hs;{cases hs};cases hs;exact⟨d,hd,sS,AR⟩};cases hs);(have leave:∀j (a3:Act) w3 (V:Value) (u:FrameMode),k.le j->Frame k H2 J j y.hp w3->bz W G j y.hp w3->bf j y.env a3.tmps->aG j V rv-> ((u= .returning/\V= .nilIface)\/u= .panicking [{v:=V,recovered:=false}])->Leaves P fn a3.tmps R [{target:=.fn (.func g) ca,args:=fa++vg.map A.eval}] u w3:=by intro j a3 w3 V u L3 F3 J3 E3 V3 hu;(have abv:cp j (#[V]++(fa++vg.map A.eval++ca)) (rv::(first++x.as.map (·.ev xX)++cap)):=by have lH:=((rfa.mono L3).append (Qs.mono L3)).append (rca.mono L3);have h0:cp j #[V] [rv]:=⟨rfl,λi d hd=>by match i with| 0=>simp only[iY,cH] at hd;subst hd;exact V3|i+1=>simp at hd⟩;exact h0.append lH);have Ew:=OB (C:=λvs w R=>A0 P g vs w R) (λ_ _ _ _ h q=>h.mono q) (λas H r H' hc=>aaU (W:=W) S hm sQ hT as H r H' hc) xA j w3 _ J3 abv;obtain⟨Jw,abw,uR⟩:=Ew V _ rfl;(have fin:∀u' L,settle u'= .returning->(∃l,j.le l/\Frame j y.hp w3 l H' L/\bz W G l H' L/\∃v,aG l v dd)->Leaves P fn a3.tmps R [] (settle u') L:=by rintro u' L hs ⟨l,L4,F4,J4,_⟩;rw[hs];obtain⟨v,q1,q2⟩:=PW J4.toInv (E3.mono L4) h6 hfd;refine⟨v,q1,?_⟩;rw[<-hR];exact⟨l,L1.trans (L2.trans (L3.trans L4)),F1.trans L1.base (F2.trans L2.base (F3.trans L3.base F4)),J4,v,rfl,q2⟩);refine leaves_cons (f:=g) (args:=fa++vg.map A.eval++ca) ?_ (by simp only[invoke];exact IJ Jw _ _) ?_;{rcases hu with⟨rfl,_⟩ |rfl<;>simp};rcases hu with⟨rfl,h0⟩ |rfl;{refine(abw h0).mono ?_;rintro e u' L ⟨rfl,l,L4,F4,J4,v4,rfl,V4⟩;exact fin _ _ rfl ⟨l,L4,F4,J4,v4,V4⟩};refine uR.mono ?_;rintro e u' L ⟨rfl,l,L4,F4,J4,v4,rfl,V4⟩;exact fin _ _ (by simp[settle]) ⟨l,L4,F4,J4,v4,V4⟩);refine abg S hm sQ h1 _ _ _ hb hG _ k ⟨xX.keep x.keep,H2⟩ _ J t y A5 F J2 (E2.keep _) Qr (B:=J.heap.size) (df:=[{target:=.fn (.func g) ca,args:=fa++vg.map A.eval}]) ⟨aS _,[],rfl,He,λ_ h=>(iZ h).elim⟩ ?_;intro j a3 w3 L3 F3 J3 xQ;obtain⟨hB3,ms,vp,iQ,J5⟩:=xQ;(have go:∀(V:Value) (u:FrameMode),bf j y.env a3.tmps->aG j V rv->((u= .returning/\V= .nilIface)\/u= .panicking [{v:=V,recovered:=false}])->my P fn a3.tmps R a3.defers u w3:=by intro V u E3 V3 hu;rw[vp];refine JU (K:=λL=>Frame k H2 J j y.hp L/\bz W G j y.hp L) (B:=J.heap.size) (by rcases hu with⟨rfl,_⟩ |rfl<;>simp) (λL h4=>xW (leave j a3 L V u L3 h4.1 h4.2 E3 V3 hu)) (λL m h4 rq pZ=>⟨h4.1.turn rq _,h4.2.turn pZ rfl (eR J2.kQ.size rq) _⟩) ms w3 ⟨F3,J3⟩ iQ J5);rcases zO with⟨rfl,rfl |rfl⟩ |rfl;{intro xR E3;exact go .nilIface .returning E3 (.p _ _ .iH) (.inl ⟨rfl,rfl⟩)};{intro xR E3;exact go .nilIface .returning E3 (.p _ _ .iH) (.inl ⟨rfl,rfl⟩)};intro xR E3 V V3;exact go V _ E3 V3 (.inr rfl)};cases n};cases n);split at h;{rename_i y F;exact X _ y _ F (.inl ⟨rfl,.inl rfl⟩) h};{rename_i y F;exact X _ y _ F (.inl ⟨rfl,.inr rfl⟩) h};{rename_i d2 y F;exact X _ y _ F (.inr rfl) h};cases h};{rename_i d2 xX H2 JY;cases h;refine Ae S ok.lt [o] ops.toList.dropLast x.ops γ1 s1.env s1.hp a1 w1 Q Qq J1 E1 xP _ JY (λk A6 JZ A J hr _ _ _ _ _ _=>by cases hr) (λk d2 A6 JZ v2 A J hr L2 F2 J2 V2 E2 Qr A7=>?_);cases hr;show my P fn A.tmps R A.defers (.panicking [{v:=v2,recovered:=false}]) J;rw[A7.trans og];show R (.panicked _) J;rw[<-hR];exact⟨k,L1.trans L2,F1.trans L1.base F2,J2,v2,rfl,V2⟩};cases h};rename_i N;obtain⟨t,s,xF,hp⟩:=JK (W:=W) (γ:=γ) (H:=H) (w:=w) h6 h;refine JV _ (JH S hm sQ _ _ _ JX qW _ γ ⟨entry 0 args,H⟩ _ w t s A5 xF I (Em hv _) bR (df:=[]) rfl (hp.other λe a w hx q=>?_));subst hR;cases t with|norm=>exact absurd xF (N s)|exit id=>cases hx;exact JW (xS q)|ret=>cases hx;exact JW (xS q)|bM d=>obtain⟨ch,rfl⟩:=hx;exact JW (xS q)};cases E};cases E};cases E};cases E};cases E
end
section
variable{fc:FC}{H:Hp}{f:Nat}
variable{P:Program}{W:World}{G:Nat->Option (List PD)}{γ:Gh}{w:World}
theorem abx{c:bt}(S:iP P W G c)(hm:P.follows .mixedOrders=true){it:It}(M:∀b s r,it b s=Z r->∃m,iter b m s=Z r)(hf:FOk0 P f fc)(N:fc.fN=Y)(hG:fc.body.eN P W G){args:List D}{r:bB}{H':Hp} (hl:O args=fc.np) (h:finish G fc.res (ay c G it fc.body ⟨entry 0 args,H⟩)=Z (r,H')):sH P W G f args H r H':=by
 obtain⟨n,cd,Q,h2,h3,k,h5,h6,C⟩:=hf.ex;rw[N] at C;obtain⟨sk,C⟩:=C;refine⟨⟨n,Q,h2,by rw[h3];rfl⟩,λγ w T I hv=>?_⟩;have U:T.size=fc.np:=by rw[hv.1,hl]
 have X:(T++kK (n.ntmps-T.size) undef).size=fc.nt:=by simp[k,U];omega
 refine JT Q h3 ?_;obtain⟨o,s,hx,p⟩:=JK (W:=W) (γ:=γ) (H:=H) (w:=w) h6 h;generalize hR:(fun(e:Ending) (j:World)=>∃g,γ.le g/\Frame γ H w g H' j/\bz W G g H' j/\gW g r e)=R at p;have A5:∀(a:Act) (j:World),¬rp P n R .outgrown a j:=by rintro a j q;have q:R .outgrown j:=q;rw[<-hR] at q;obtain⟨_,_,_,_,q⟩:=q;exact JL q
 refine AM S hm M sk cd fc.body C (ro:=Y) (fid:=f) (mk:=Z w.heap.size) (df:=[]) hG (.inr ⟨rfl,⟨_,rfl⟩,n,Q⟩) (rp P n R) γ ⟨entry 0 args,H⟩ _ w o s A5 hx I (Em hv _) X ⟨aS _,[],rfl,He,λ_ h=>(iZ h).elim⟩ ?_;intro g A j L F J hd;obtain⟨hB,ms,vp,t,J5⟩:=hd;have go:∀(u:FrameMode),u≠.run->(∀i,Frame γ H w g s.hp i->bz W G g s.hp i->Leaves P n A.tmps R [] u i)->my P n A.tmps R A.defers u j:=by intro u hu HP;rw[vp];exact JU (K:=λi=>Frame γ H w g s.hp i/\bz W G g s.hp i) (B:=w.heap.size) hu (λi k=>xW (HP i k.1 k.2)) (λi m k x pZ=>⟨k.1.turn x _,k.2.turn pZ rfl (eR I.kQ.size x) _⟩) ms j ⟨F,J⟩ t J5
 cases o with|norm=>intro l E;refine go .returning (by simp) λi y z=>?_;have q:=p g {A with defers:=[]} i L y z rfl l E;exact xS q|ret=>intro l E;refine go .returning (by simp) λi y z=>?_;have q:=p g {A with defers:=[]} i L y z rfl l E;exact xS q|exit id=>intro l E;exact(p g {A with defers:=[]} j L F J rfl l E).elim|bM d=>intro l E v V;refine go (.panicking [{v:=v,recovered:=false}]) (by simp) λi y z=>?_;have q:=p g {A with defers:=[]} i L y z rfl l E v V;exact xS q
structure vq (P:Program) (W:World) (G:Nat->Option (List PD)) (f:Nat) (fc:FC):Prop where
 ok:FOk0 P f fc
 eN:fc.body.eN P W G
 pre:∀x,fc.fN=Z x->x.pre.all SC.cT=true
theorem sU.J6(h:sU P f fc):vq P W G f fc:=by have H:=h.nr;unfold FC.cT at H;rw[bG] at H;refine⟨h.toFOk0,SC.oR H.1,λx b=>?_⟩;have a:=H.2;rw[b] at a;exact a
theorem FOk0.J6(h:FOk0 P f fc)(d:fc.fN=Y)(g:fc.body.eN P W G):vq P W G f fc:=⟨h,g,λx H=>by rw[d] at H;cases H⟩
structure Ey (P:Program) (W:World) (p:Pg):Prop where
 mixed:P.follows .mixedOrders=true
 lib:iP P W p.G p.lib
 fn:∀f fc,p.F f=Z fc->vq P W p.G f fc
 dfn:∀f x,p.D f=Z x->sV P f x.1 x.2:=by(intro _ _ h;cases h)
theorem J7{p:Pg}(h:Ey P W p):∀n,iP P W p.G (dY p n)| 0=>λf a H r j e=>by simp only[dY] at e;cases e|n+1=>λf a H r j e=>by simp only[dY] at e;split at e;{rename_i R c;cases e;exact h.lib f a H r j c};split at e;{rename_i fc z7;have g:=h.fn f fc z7;split at e;{rename_i hl;refine aa2 e λR k d=>?_;cases i:fc.fN with|none=>unfold fZ at d;rw[i] at d;exact abx (J7 h n) h.mixed (it:=λb s=>iter b n s) (λb s r c=>⟨n,c⟩) g.ok i g.eN hl d|some x=>exact abh (J7 h n) h.mixed (it:=λb s=>iter b n s) (λb s r c=>⟨n,c⟩) h.dfn g.ok i (g.pre x i) g.eN hl d};cases e};cases e
theorem abz{p:Pg}(h:Ey P W p):iP P W p.G (call p):=λf a H r b e=>by obtain⟨n,c⟩:=uv.1 e;exact J7 h n f a H r b c
end
section
open Go.RowKit Go.ChangeShapes Go.WideShapes
variable{P:Program}
def eV(W:World):Gh:=⟨W.heap.size,λ_=>Y,λb o=>W.cell? ⟨b,o,Y⟩,[],[]⟩
structure Ez (G:Nat->Option (List PD)) (W:World):Prop where ok:∀g cs,G g=Z cs->∀j c,cs[j]? =Z c->c.one=true/\∃v,W.cell? ⟨g,j,Y⟩=Z v/\aU (eV W).mem v c
variable{args:Array Value}{H':Hp}{G:Nat->Option (List PD)}{W W':World}
theorem abA(h:Ez G W):Inv G (eV W) ⟨[],[]⟩ W:=by refine⟨aS _,λ_ _ _ h=>by simp[eV] at h,λt r n b c h _=>by simp[eV] at h,λ_ _ _ h=>h,h.ok,rfl,λi j b C g a _ _ _ _ _=>by simp[eV] at a,λi b s d _=>?_,λb o d=>?_,λi b a _=>by simp[eV] at a,rfl,λt r f H _=>?_,λt r f H _=>?_,λt T b e _=>?_⟩;{simp[eV] at d};{have:=d.mem;simp[eV] at this};{simp[eV] at H};{simp[eV] at H};obtain⟨r,f,c,H,_⟩:=e;simp[eV] at H
theorem Qt{b:Nat}(h:iM (eV W) ⟨[],[]⟩ b):False:=by rcases h with h |⟨t,r,f,c,H,_⟩;{have:=h.mem;simp[eV] at this};simp[eV] at H
theorem abB(h:Ez G W):bz W G (eV W) ⟨[],[]⟩ W:=⟨abA h,rfl,Below.refl _ W,λ_ h=>(Qt h).elim⟩
theorem abC{γ':Gh}(F:Frame (eV W) ⟨[],[]⟩ W γ' H' W'):Below W.heap.size W W':=⟨F.os,F.tape,F.output,F.size,λk h=>(F.bI k h Qt).1 h⟩
theorem abD{p:Pg}(h:Ey P W p){f:Nat}{ds:List D}(c:call p f ds ⟨[],[]⟩=Z (.val (.p (.bool true)),H'))(g:Ez p.G W)(r:cp (eV W) args ds): Calls P f args W λe W'=>e= .returned (.bool true)/\Below W.heap.size W W':=by obtain⟨_,m⟩:=abz h f ds ⟨[],[]⟩ _ _ c;refine(m (eV W) W args (abB g) r).mono ?_;rintro e W' ⟨a,L,F,J,v,rfl,H⟩;rw[H.cn.pR];exact⟨rfl,abC F⟩
section
variable{H:Type}{enc:TypeId × Value->H}
theorem Qu(f:laidOutB P=true){W g:World}(B:Below W.heap.size W g):∀{ts:List TypeId} {vs:List Value} {ds:List (DataW H)} {ps:List MemPlace},(∀t∈ts,P.readableRec t=true/\t<P.types.size)-> DataW.TrodAll enc P W 0 (λ_=>true) true ts vs ds ps->(∀x∈ps,x.block<W.heap.size)->DataW.TrodAll enc P g 0 (λb=>decide (b<W.heap.size)) true ts vs ds ps|[],[],[],_,_,h,_=>h|t::ts,v::vs,d::ds,ps,a,⟨p,q,i,j,e⟩,l=>by subst e;exact⟨p,q,Below.trod f (a t (by simp)).1 (a t (by simp)).2 i B λx c=>l x (by simp[c]),Qu f B (λu k=>a u (by simp[k])) j λx c=>l x (by simp[c]),rfl⟩|[],[],_::_,_,_,h,_=>h.elim|[],_::_,_,_,_,h,_=>by cases h|_::_,[],_,_,_,h,_=>by cases h|_::_,_::_,[],_,_,h,_=>by cases h
theorem abE{fn:Func}{s:ChangeSpec}{a f n:Bool}{ds:List (DataW H)}{b:List MemPlace}{tb:TypeId}(j:laidOutB P=true) (c:∀t∈fn.params.toList,P.readableRec t=true/\t<P.types.size) (v:s.vars=[]) (g:DataW.Whole enc P fn.params.toList s.vars a W args.toList ds [] b) (r:fn.resultTypes= #[tb]) (k:P.underlying tb=Z .bool) (d:s.fn H (ds++[])={results:=[.lit (.bool true)],args:=ds}) (B:Below W.heap.size W W'):s.post enc P fn a f n false W args (.bool true) W':=by have l:=g.lt;obtain⟨p,q,A,V,i,z,m⟩:=g;(have o:q=[]:=by rw[v] at V;exact V);refine⟨ds,[],b,[],p,[],⟨p,q,A,V,i,z,m⟩,?_,?_,?_,?_,λh=>by cases h⟩;{rw[d,r];exact trodAll_mk1 (shut_bool k true)};{rw[d];refine Qu j B c A λx e=>by simpa using l x (by rw[i];simp[e])};{rw[d,v];rfl};refine World.keptBut_mono (λx e=>?_) (B.frame (λ_=>False));cases e
end
end
section
theorem EA(s:List UInt8):c9 0 (.p (.str s))=Z (O s):=rfl
theorem EB:c9 1 (.p .aj)=Z 0:=rfl
theorem xY(sz:Nat)(es:List PD):c9 1 (.p (.slice sz es))=Z (O es):=rfl
theorem EC(e0 sz:Nat)(es:List PD):c9 1 (.cw e0 sz es)=Z (O es):=rfl
theorem ED(t e sz:Nat)(es:List PD):c9 1 (.aP t e sz es)=Z (O es):=rfl
variable{γ:Gh}{es:List PD}{sz:Nat}{α β:Type}{f:α->PD}
theorem abF{k:Nat}(h:k<O es):cV Y sz (.p (.slice sz es)) (k:Int)=Z (.ro (es[k]).cells 0):=by simp[cV,D.fO,h]
theorem EE{e0:Nat}{k:Nat}(h:k<O es):cV Y sz (.cw e0 sz es) (k:Int)=Z (.ro (es[k]).cells 0):=by simp[cV,D.fO,h]
theorem Qv{t e:Nat}{k:Nat}(h:k<O es):cV Y sz (.aP t e sz es) (k:Int)=Z (.ro (es[k]).cells 0):=by simp[cV,D.fO,h]
theorem abG:cp γ #[] []:=⟨rfl,λi x h=>by simp at h⟩
theorem xZ{v:Value}{d:D}{vs:List Value}{ds:List D}(h:aG γ v d)(k:cp γ ⟨vs⟩ ds):cp γ ⟨v::vs⟩ (d::ds):=by refine⟨by have:=k.1;simpa using this,λi x H=>?_⟩;match i with| 0=>simp only[iY,cH] at H;subst H;exact h|i+1=>simpa using k.2 i x (by simpa using H)
inductive Sl (α:Type) where|nil|cI|of (l:List α)
def Sl.map(f:α->β):Sl α->Sl β| .nil=>.nil| .cI=>.cI| .of l=>.of (l.map f)
def cD(sz:Nat):Sl PD->PD| .nil=>.aj| .cI=>.slice sz []| .of []=>.bW sz| .of (e::es)=>.slice sz (e::es)
def els:Sl α->List α| .of l=>l|_=>[]
theorem J8(f:α->β)(o:Sl α):els (o.map f)=(els o).map f:=by cases o<;>rfl
theorem abH(sz:Nat)(o:Sl PD):c9 1 (.p (cD sz o))=Z (O (els o)):=by match o with| .nil=>rfl| .cI=>rfl| .of []=>rfl| .of (e::s)=>rfl
theorem abI{o:Sl PD}{k:Nat}(h:k<O (els o)):cV Y sz (.p (cD sz o)) (k:Int)=Z (.ro ((els o)[k]).cells 0):=by match o with| .nil=>simp[els] at h| .cI=>simp[els] at h| .of []=>simp[els] at h| .of (e::s)=>have H:k<O (e::s):=h;simp only[cD,cV,D.fO,els];simp[aw H]
theorem kV(sz:Nat)(f:α->PD)(o:Sl α):c9 1 (.p (cD sz (o.map f)))=Z (O (els o)):=by rw[abH,J8,bL]
theorem kW{o:Sl α}{k:Nat}(h:k<O (els o)):cV Y sz (.p (cD sz (o.map f))) (k:Int)=Z (.ro (f (els o)[k]).cells 0):=by
 have H:k<O (els (o.map f)):=by rw[J8,bL];exact h
 rw[abI H];simp[J8]
theorem abJ(sz:Nat)(o:Sl PD):(D.p (cD sz o)).one=true:=by match o with| .nil=>rfl| .cI=>rfl| .of []=>rfl| .of (_::_)=>rfl
theorem kj(sz:Nat)(o:Sl PD):(cD sz o).one=true:=by match o with| .nil=>rfl| .cI=>rfl| .of []=>rfl| .of (_::_)=>rfl
@[simp] theorem anH(k:IntKind)(n:Int):(D.p (.int k n)).one=true:=rfl
@[simp] theorem anI(b:Bool):(D.p (.bool b)).one=true:=rfl
@[simp] theorem anJ(s:List UInt8):(D.p (.str s)).one=true:=rfl
@[simp] theorem anK(sz:Nat)(es:List PD):(D.p (.slice sz es)).one=true:=rfl
@[simp] theorem anL(sz:Nat)(es:List PD):(PD.slice sz es).one=true:=rfl
@[simp] theorem anM:(D.p .aj).one=true:=rfl
@[simp] theorem anN:(D.p .i7).one=true:=rfl
@[simp] theorem anO(i o:Nat):(D.box i o).one=true:=rfl
@[simp] theorem abK(i:Nat):(D.bO i).one=true:=rfl
@[simp] theorem anP(t e sz:Nat)(es:List PD):(D.aP t e sz es).one=true:=rfl
@[simp] theorem anQ(e sz:Nat)(es:List PD):(D.cw e sz es).one=true:=rfl
@[simp] theorem abL(i o n:Nat)(c:Option Nat)(sz:Nat):(D.aZ i o n c sz).one=true:=rfl
@[simp] theorem anR(k:IntKind)(n:Int):(PD.int k n).one=true:=rfl
@[simp] theorem anS(s:List UInt8):(PD.str s).one=true:=rfl
@[simp] theorem anT(b:Bool):(PD.bool b).one=true:=rfl
@[simp] theorem anU:PD.aj.one=true:=rfl
theorem cJ:∀l:List PD,eG (l.map D.p)=Z l|[]=>rfl|x::l=>by simp[eG,cJ l]
theorem oW(l:List PD):az (l.map D.p)=false:=by match l with|[]=>rfl|[x]=>rfl|x::y::r=>rfl
@[simp] theorem gf(f g:Nat->Option Nat):∀l:List PD,D.aR f g (l.map D.p)=Z (l.map D.p)|[]=>rfl|x::l=>by simp[D.aR,D.ren,gf f g l]
@[simp] theorem kn:∀l:List PD,D.aq (l.map D.p)=[]|[]=>rfl|x::l=>by simp[D.aq,D.refs,kn l]
@[simp] theorem nz:∀l:List PD,D.aJ (l.map D.p)=[]|[]=>rfl|x::l=>by simp[D.aJ,D.bh,nz l]
theorem aK{k:Nat}(h:k<4611686018427387904):IntKind.i64.wrap ((k:Int)+1)=((k+1 :Nat):Int):=by rw[wrap64 (by omega) (by omega)];rfl
def Rec(n:Nat)(x:PD):Prop:=∃cs,x= .agg cs/\O cs=n/\∀c∈cs,c.one=true
section
variable{c:bt}{G:Nat->Option (List PD)}{zs:List PD}{g:Nat}{a b:Sl α}{r:α->α->Bool}
 (hz:O zs=sz) (h0:0<sz) (hzo:zs.all PD.one=true) (ha:∀x∈els a,Rec sz (f x)) (hb:∀x∈els b,Rec sz (f x))
 (hc:∀(k:Nat) (h1:k<O (els a)) (h2:k<O (els b)) H,ag c g [.p (f (els a)[k]),.p (f (els b)[k])] H=Z (.val (.p (.bool (r (els a)[k] (els b)[k]))),H))
 (hl:O (els a)=O (els b)) (hn:O (els a)<=4611686018427387904)
include hz h0 hzo ha hb hc hl hn
end
end
section
open Go.RowKit Go.ChangeShapes Go.WideShapes
variable{P:Program}
def kX(P:Program)(e:TypeId)(xs:List PD):PD:=match P.underlying e,xs with|some (.struct _),xs=>.agg xs|_,[x]=>x|_,xs=>.agg xs
inductive ru (P:Program):TypeId->List PD->Prop where|bool (t:TypeId) (b:Bool) (ht:P.underlying t=Z .bool):ru P t [.bool b]|int (t:TypeId) (k:IntKind) (n:Int) (ht:P.underlying t=Z (.int k)) (hw:(Lit.int k n).wf=true):ru P t [.int k n]|str (t:TypeId) (s:List UInt8) (ht:P.underlying t=Z .string) (hs:O s<=maxLen):ru P t [.str s]|aj (t e:TypeId) (ht:P.underlying t=Z (.slice e)):ru P t [.aj]|bW (t e:TypeId) (ht:P.underlying t=Z (.slice e)):ru P t [.bW (P.cellsOf e)]|sl (t e:TypeId) (es:List PD) (dt:es≠[]) (ht:P.underlying t=Z (.slice e)) (hl:O es<=maxLen) (h:∀x∈es,ru P e x.cells) (hs:∀x∈es,O x.cells=P.cellsOf e) (hm:∀x∈es,x=kX P e x.cells):ru P t [.slice (P.cellsOf e) es]|struct (t:TypeId) (fs:Array Field) (parts:List (List PD)) (ht:P.underlying t=Z (.struct fs)) (hl:O parts=fs.size) (h:∀(i:Nat) f p,fs[i]? =Z f->parts[i]? =Z p->ru P f.type p) (hs:∀(i:Nat) f p,fs[i]? =Z f->parts[i]? =Z p->O p=P.cellsOf f.type):ru P t parts.flatten
def sW(P:Program)(n:Nat):Nat->List Field->Bool|i,[]=>i==n|i,f::r=>f.offset==i&&sW P n (i+P.cellsOf f.type) r
def A8(P:Program)(ts:List TypeId)(t:TypeId):Bool:=match P.underlying t with|some .bool=>true|some (.int _)=>true|some .string=>true|some (.slice e)=>ts.contains e&&decide (0<P.cellsOf e)|some (.struct fs)=>sW P (P.cellsOf t) 0 fs.toList&&fs.toList.all λf=>ts.contains f.type|_=>false
def oX(m:Mem)(cs:List Value)(xs:List PD):Prop:=O xs=O cs/\(∀x∈xs,x.one=true)/\∀(i:Nat) c x,cs[i]? =Z c->xs[i]? =Z x->aU m c x
variable{xs:List PD}{m:Mem}
theorem oX.single{c:Value}{x:PD}(h:aU m c x)(d:x.one=true):oX m [c] [x]:=⟨rfl,λy a=>by simp at a;subst a;exact d,λi C X H b=>by match i with| 0=>simp at H b;subst H;subst b;exact h|i+1=>simp at H⟩
theorem oX.append{cs ds:List Value}{y:List PD}(h:oX m cs xs)(k:oX m ds y):oX m (cs++ds) (xs++y):=by obtain⟨b,d,e⟩:=h;obtain⟨K,f,g⟩:=k;refine⟨by simp[b,K],λx H=>?_,λi c x a H=>?_⟩;{rcases cu.1 H with q |q;{exact d x q};exact f x q};by_cases hi:i<O cs;{rw[bF hi] at a;rw[bF (by omega)] at H;exact e i c x a H};rw[dO (by omega)] at a;rw[dO (by omega),b] at H;exact g _ c x a H
theorem abN{e:TypeId}(h:∀x∈xs,x.one=true):(kX P e xs).cells=xs:=by unfold kX;split;{rfl};{rename_i x _;have:=h x (by simp);cases x<;>first |rfl |cases this};rfl
section
variable{H:Type}{enc:TypeId × Value->H}{W:World}
theorem Qw{n:Nat}:∀{l:List Field} {off:Nat},sW P n off l=true->off<=n/\∀f∈l,f.offset+P.cellsOf f.type<=n|[],off,h=>by simp only[sW,beq_iff_eq] at h;exact⟨by omega,λf H=>by simp at H⟩|g::l,off,h=>by simp only[sW,bG,beq_iff_eq] at h;obtain⟨b,a⟩:=Qw h.2;refine⟨by omega,λf H=>?_⟩;rcases bJ.1 H with rfl |H;{have:=h.1;omega};exact a f H
end
end
section
open Go.RowKit
variable{γ:Gh}
variable{P:Program}{W:World}{G:Nat->Option (List PD)}{H:Hp}{w:World}
theorem Qx{vs:Array Value}{d:D}(h:cp γ vs [d]):∃v,vs= #[v]/\aG γ v d:=by obtain⟨H,r⟩:=h;obtain⟨l⟩:=vs;match l,H with|[v],_=>have:=r 0 d rfl;exact⟨v,rfl,by simpa[cg] using this⟩
end
end Go.Vs
namespace Go
variable{H:Type}{enc:TypeId × Value->H}
end Go
namespace Go.Vs
section
variable{P:Program}{W:World}{G:Nat->Option (List PD)}{nt:Nat}
theorem abO:∀(s:SC) (fin:List Nat) (e:List (Nat×List Nat)) (o:List Nat),s.eN P W G->(dU fin s e o).2.eN P W G:=by intro s;induction s with|seq a b i I=>intro fin e o h;exact⟨i _ _ _ h.1,I _ _ _ h.2⟩|cond c a b i I=>intro fin e o h;exact⟨i _ _ _ h.1,I _ _ _ h.2⟩|j5 f n g p a b i I=>intro fin e o h;exact⟨h.1,i _ _ _ h.2.1,I _ _ _ h.2.2⟩|block id b d=>intro fin e o h;exact d fin ((id,o)::e) o h|loop k b d=>intro fin e o h;exact d fin e (dU fin b e []).1 h|j4 b d=>intro fin e o h;exact d fin e o h|scope b d=>intro fin e o h;exact d fin e o h|loc b d=>intro fin e o h;exact d fin e o h|_=>intros;trivial
theorem abP(S:SC)(c:Code):∀m,dp P nt S c=Z m->S.eN P W G->m.eN P W G:=by
 fun_induction dp P nt S c;all_goals (intro m h d)
 all_goals try (cases h;done)
 all_goals try (cases h;trivial)
 case case1 i=>obtain⟨B,H,rfl⟩:=au.1 h;exact i B H d
 case case4 k E id o p=>obtain⟨F,r,rfl⟩:=au.1 h;trivial
 case case9 f t J u a b g K x y v A B H l n p I j=>cases h;exact⟨d.1,I A l d.2.1,j B H d.2.2⟩
 case case12 s e z b c w i=>obtain⟨B,H,rfl⟩:=au.1 h;exact⟨trivial,i B H d.2⟩
 case case14 s O e z b c w i=>obtain⟨B,H,rfl⟩:=au.1 h;exact⟨trivial,i B H d.2⟩
 case case16 a b x y N L A B H l I j=>cases h;exact⟨I A l d.1,j B H d.2⟩
 case case18 M a b c x y v A B H l n I j=>cases h;exact⟨I A l d.1,j B H d.2⟩
 case case20 C b id x i=>obtain⟨B,H,rfl⟩:=au.1 h;exact i B H d
 case case21 k b x i=>obtain⟨B,H,rfl⟩:=au.1 h;exact i B H d
 case case22 b x i=>obtain⟨B,H,rfl⟩:=au.1 h;exact i B H d
 case case25 i=>obtain⟨B,H,rfl⟩:=au.1 h;exact i B H d
theorem Qy{n:Bool}{b:Code}{x:SC}(h:x.eN P W G):(Es n b x).eN P W G:=by unfold Es;split;{exact h};exact h
variable{fi:Nat}
theorem abQ{cf:Cf}(H:∀f,xT fi cf.rg=Z f->oQ P W G f (cf.eN f)):∀c:Code,(lI cf fi c).eN P W G:=by intro c;induction c with|seq a b i I=>exact⟨i,I⟩|cond c a b i I=>exact⟨i,I⟩|block id b h=>exact h|loop b h=>unfold lI;split;{exact⟨trivial,h⟩};exact Qy h|scope b h=>exact h|rangeFunc g p a b i I=>unfold lI;split;{rename_i f hf;exact⟨H f hf,i,Qy I⟩};trivial|region id o d=>unfold lI;split<;>trivial|_=>trivial
theorem abR{cf:Cf}{f:Func}{c:FC}(H:P.funcs[fi]? =Z f)(h:xU P cf fi f=Z c)(a:∀g,xT fi cf.rg=Z g->oQ P W G g (cf.eN g)):vq P W G fi c:=by refine⟨abb H h,?_,?_⟩;{unfold xU at h;split at h;{cases h};split at h;{split at h;{split at h;{rename_i b JR;cases h;exact abO _ _ _ _ (abP _ _ _ JR (abQ a _))};cases h};cases h};cases h};intro x hx;unfold xU at h;split at h;{cases h};split at h;{split at h;{split at h;{cases h;cases hx};cases h};cases h};cases h
end
section
variable{P:Program}{t e:TypeId}{xs:List PD}
theorem J9{c:PD}(n:∀fs,P.underlying e≠Z (.struct fs)):kX P e [c]=c:=by unfold kX;cases h:P.underlying e with|none=>rfl|some d=>cases d<;>first |exact absurd h (n _) |rfl
theorem ry{f:Array Field}(h:P.underlying e=Z (.struct f)):kX P e xs= .agg xs:=by unfold kX;rw[h]
end
section
open Go.RowKit Go.ChangeShapes Go.WideShapes
variable{P:Program}
inductive dr (P:Program):TypeId->List PD->Prop where|bool (t:TypeId) (b:Bool) (ht:P.underlying t=Z .bool):dr P t [.bool b]|int (t:TypeId) (k:IntKind) (n:Int) (ht:P.underlying t=Z (.int k)) (hw:(Lit.int k n).wf=true):dr P t [.int k n]|str (t:TypeId) (s:List UInt8) (ht:P.underlying t=Z .string) (hs:O s<=reachBytes):dr P t [.str s]|aj (t e:TypeId) (ht:P.underlying t=Z (.slice e)):dr P t [.aj]|bW (t e:TypeId) (ht:P.underlying t=Z (.slice e)):dr P t [.bW (P.cellsOf e)]|sl (t e:TypeId) (es:List PD) (dt:es≠[]) (ht:P.underlying t=Z (.slice e)) (hl:O es*P.bytesOf e<=reachBytes) (h:∀x∈es,dr P e x.cells) (hs:∀x∈es,O x.cells=P.cellsOf e) (hm:∀x∈es,x=kX P e x.cells):dr P t [.slice (P.cellsOf e) es]|struct (t:TypeId) (fs:Array Field) (parts:List (List PD)) (ht:P.underlying t=Z (.struct fs)) (hl:O parts=fs.size) (h:∀(i:Nat) f p,fs[i]? =Z f->parts[i]? =Z p->dr P f.type p) (hs:∀(i:Nat) f p,fs[i]? =Z f->parts[i]? =Z p->O p=P.cellsOf f.type):dr P t parts.flatten
theorem Qz{H:Type}{P:Program}{e:TypeId}:∀{l:List (DataW H)} {d:DataW H} {w:Nat},d∈l->w∈d.weights P e->w∈DataW.weightsAll P e l|x::r,d,w,h,a=>by simp only[DataW.weightsAll,cu];rcases bJ.1 h with rfl |h;{exact .inl a};exact .inr (Qz h a)
theorem Ka{H:Type}{P:Program}:∀{ts:List TypeId} {l:List (DataW H)} {i:Nat} {t:TypeId} {d:DataW H} {w:Nat},ts[i]? =Z t->l[i]? =Z d->w∈d.weights P t->w∈DataW.weightsEach P ts l|t::ts,x::r,i,T,d,w,h,a,b=>(by simp only[DataW.weightsEach,cu];(cases i with|zero=>cases h;cases a;exact .inl b|succ i=>exact .inr (Ka (i:=i) h a b)))|[],_,i,_,_,_,h,_,_=>by simp at h|_::_,[],i,_,_,_,_,a,_=>by simp at a
variable{H:Type}{t:TypeId}
def sX(P:Program)(t:TypeId)(d:DataW H):Prop:=∀w∈d.weights P t,w<=reachBytes
section
variable{enc:TypeId × Value->H}{W:World}
theorem QA{n:Nat}{ts:List TypeId}(I:∀t cs x,t∈ts->DataW.trod enc P W 0 (λ_=>true) true n t cs=Z x->sX P t x.1->∃xs,oX (eV W).mem cs xs/\dr P t xs)(cs:List Value): ∀(l:List Field) (off:Nat),sW P (O cs) off l=true->(∀f∈l,f.type∈ts)->(∀f∈l,∃y,DataW.trod enc P W 0 (λ_=>true) true n f.type ((cs.drop f.offset).take (P.cellsOf f.type))=Z y/\sX P f.type y.1)-> off<=O cs->(∀f∈l,f.offset+P.cellsOf f.type<=O cs)->∃parts:List (List PD),O parts=O l/\oX (eV W).mem (cs.drop off) parts.flatten/\∀(i:Nat) f p,l[i]? =Z f->parts[i]? =Z p->dr P f.type p/\O p=P.cellsOf f.type|[],off,a,_,_,o,_=>by simp only[sW,beq_iff_eq] at a;refine⟨[],rfl,?_,λi f p h=>by simp at h⟩;subst a;simp only[zw,List.flatten_nil];exact⟨rfl,λx k=>by simp at k,λi c x h=>by simp at h⟩|f::l,off,a,m,r,o,b=>by simp only[sW,bG,beq_iff_eq] at a;obtain⟨s,u⟩:=a;obtain⟨y,v,z⟩:=r f (by simp);obtain⟨xs,Q,w⟩:=I _ _ _ (m f (by simp)) v z;have A:=b f (by simp);obtain⟨parts,B,C,E⟩:=QA I cs l (off+P.cellsOf f.type) u (λg H=>m g (by simp[H])) (λg H=>r g (by simp[H])) (by omega) (λg H=>b g (by simp[H]));(have d:O xs=P.cellsOf f.type:=by rw[Q.1];simp;omega);refine⟨xs::parts,by simp[B],?_,λi g p H j=>?_⟩;{have:=Q.append C;rw[s] at this;(have e:(cs.drop off).take (P.cellsOf f.type)++cs.drop (off+P.cellsOf f.type)=cs.drop off:=by rw[<-zk];exact tX _ _);rw[e] at this;simpa using this};match i with| 0=>simp at H j;subst H;subst j;exact⟨w,d⟩|i+1=>exact E i g p (by simpa using H) (by simpa using j)
theorem Kb{ts:List TypeId}(I:ts.all (A8 P ts)=true):∀(n:Nat) t cs x,t∈ts->DataW.trod enc P W 0 (λ_=>true) true n t cs=Z x->sX P t x.1->∃xs,oX (eV W).mem cs xs/\dr P t xs| 0,t,cs,x,_,h,_=>by simp[DataW.trod] at h|n+1,t,cs,x,hm,h,K=>by have g:=fy.1 I t hm;unfold A8 at g;split at g;{rename_i ht;obtain⟨b,rfl,_⟩:=DataW.trod_bool ht h;exact⟨[.bool b],.single (.bool b) rfl,.bool t b ht⟩};{rename_i k ht;obtain⟨m,rfl,_,M⟩:=DataW.trod_int ht h;exact⟨[.int k m],.single (.int k m) rfl,.int t k m ht M⟩};{rename_i ht;obtain⟨s,rfl,rfl,L⟩:=DataW.trod_string ht h;refine⟨[.str s.data.toList],.single ?_ rfl,.str t _ ht (K _ (by simp[DataW.weights]))⟩;(have :s=⟨s.data.toList.toArray⟩:=by simp);rw[this];exact .str _};{rename_i e ht;simp only[bG,decide_eq_true_eq] at g;obtain⟨hc,Q⟩:=g;(have QB:e∈ts:=by simpa using hc);rcases DataW.trod_slice ht h with⟨rfl,_⟩ |⟨a,l,S,E,R,N,wZ,rfl,rfl,_,hlc,uC,hel,y,_⟩;{exact⟨[.aj],.single .aj rfl,.aj t e ht⟩};(have z:N=n:=by omega);subst z;(have A:∀i,i<l->∃T xi,W.cells? 0 (a.add (i*P.cellsOf e)) (P.cellsOf e)=Z T/\oX (eV W).mem T xi/\dr P e xi:=λi H=>by have:=y i H;rw[aw (by omega)] at this;obtain⟨T,h1,h2⟩:=Ws.1 this;have U:sX P e (E[i]'(by omega)).1:=λw M=>K w (by simp only[DataW.weights,ht,bJ,cu];exact .inr (.inl (Qz (MY (br (by omega))) M)));obtain⟨xi,h3,h4⟩:=Kb I N e T _ QB h2 U;exact⟨T,xi,h1,h3,h4⟩);let C:Nat->List Value:=λi=>if H:i<l then(A i H).choose else[];let X:Nat->List PD:=λi=>if H:i<l then(A i H).choose_spec.choose else[];(have r:∀i,i<l->W.cells? 0 (a.add (i*P.cellsOf e)) (P.cellsOf e)=Z (C i)/\oX (eV W).mem (C i) (X i)/\dr P e (X i):=λi H=>by simp only[C,X,H,dif_pos];exact(A i H).choose_spec.choose_spec);(have d:∀i,i<l->O (X i)=P.cellsOf e/\O (C i)=P.cellsOf e:=λi H=>by obtain⟨h1,h2,_⟩:=r i H;have:=(World.cells?_some h1).2.1;exact⟨h2.1.trans this,this⟩);have u:∀i,i<l->(kX P e (X i)).cells=X i:=λi H=>abN (r i H).2.1.2.1;by_cases h0:l=0;{subst h0;exact⟨[.bW (P.cellsOf e)],.single (.bW a S _) rfl,.bW t e ht⟩};(have ju:dr P t [.slice (P.cellsOf e) ((dH l).map λi=>kX P e (X i))]:=by have U:=K (((O (E.map (·.1)))+O (R.map (·.1)))*P.bytesOf e) (by simp only[DataW.weights,ht];exact lx);have hle:l*P.bytesOf e<=((O (E.map (·.1)))+O (R.map (·.1)))*P.bytesOf e:=fW _ (by rw[bL];omega);refine .sl t e _ (by simp[h0]) ht (by rw[bL,List.length_range];omega) (λx B=>?_) (λx B=>?_) (λx B=>?_);{obtain⟨i,H,rfl⟩:=cv.1 B;(have H:i<l:=by simpa using H);rw[u i H];exact(r i H).2.2};{obtain⟨i,H,rfl⟩:=cv.1 B;(have H:i<l:=by simpa using H);rw[u i H];exact(d i H).1};obtain⟨i,H,rfl⟩:=cv.1 B;(have H:i<l:=by simpa using H);rw[u i H]);refine⟨_,.single ?_ rfl,ju⟩;have F:=(World.cells?_some (r 0 (by omega)).1).2.2 0 Q;(have V:(C 0)[0]?≠Y:=by have:=(d 0 (by omega)).2;rw[aw (by omega)];simp);obtain⟨b,o,sp⟩:=a;(have nT:sp=Y:=by cases sp with|none=>rfl|some q=>exfalso;rw[<-F] at V;apply V;unfold World.cell? Addr.add;split;{simp};rfl);subst nT;(have L:O ((dH l).map λi=>kX P e (X i))=l:=by simp);have:=aU.sl (m:=(eV W).mem) b o S (P.cellsOf e) ((dH l).map λi=>kX P e (X i)) (λi j=>(C i).getD j undef) (by rw[L];exact hlc) (λx B=>by obtain⟨i,H,rfl⟩:=cv.1 B;(have H:i<l:=by simpa using H);rw[u i H];exact(d i H).1) (λx B c G=>by obtain⟨i,H,rfl⟩:=cv.1 B;(have H:i<l:=by simpa using H);rw[u i H] at G;exact(r i H).2.1.2.1 c G) (λi j H hj=>by rw[L] at H;have q:=(World.cells?_some (r i H).1).2.2 j hj;simp only[Addr.add_lit] at q;show W.cell? ⟨b,o+i*P.cellsOf e+j,Y⟩=_;rw[q];have:=(d i H).2;simp[dP,aw (show j<O (C i) by omega)]) (λi x j c H hj=>by (have v:i<l:=by have:=(ak.1 H).1;simpa using this);(have B:x=kX P e (X i):=by rw[cC,List.getElem?_range v] at H;simpa using H.symm);subst B;rw[u i v] at hj;have sK:=(ak.1 hj).1;have h1:=(d i v).1;have h2:=(d i v).2;(have xL:(C i)[j]? =Z ((C i).getD j undef):=by simp[dP,aw (show j<O (C i) by omega)]);exact(r i v).2.1.2.2 j _ c xL hj);rw[L] at this;exact this};{rename_i fs ht;simp only[bG] at g;obtain⟨J,n9⟩:=g;obtain⟨xs,N,wZ,rfl,L,hlx,y⟩:=DataW.trod_struct ht h;(have z:N=n:=by omega);subst z;rw[<-L] at J;(have rz:∀f∈fs.toList,f.type∈ts:=λf F=>by have:=fy.1 n9 f F;simpa using this);obtain⟨t1,t2⟩:=Qw J;obtain⟨parts,p1,p2,p3⟩:=QA (W:=W) (enc:=enc) (n:=N) (ts:=ts) (λt cs x hm h K=>Kb I N t cs x hm h K) cs fs.toList 0 J rz (λf F=>by obtain⟨i,H⟩:=c8 F;(have iN:fs[i]? =Z f:=by simpa using H);rw[y i f iN];have v:i<fs.size:=(gp.1 iN).1;refine⟨_,aw (by omega),λw M=>K w ?_⟩;simp only[DataW.weights,ht];exact Ka (i:=i) (by rw[cC,H];rfl) (by rw[cC,aw (by omega)];rfl) M) t1 t2;refine⟨parts.flatten,by simpa using p2,.struct t fs parts ht (by simpa using p1) (λi f p F hp=>(p3 i f p (by simpa using F) hp).1) (λi f p F hp=>(p3 i f p (by simpa using F) hp).2)⟩};cases g
theorem x5{ts:List TypeId}(g:ts.all (A8 P ts)=true)(w:t∈ts){r:Reach}{b0:Nat}{v:Value}{d:DataW H}{ps:List MemPlace}(f:Value.okWide P W r b0 t v)(B:DataW.Trod enc P W 0 (λ_=>true) true t v d ps)(E:sX P t d): ∃x:PD,aG (eV W) v (.p x)/\dr P t x.cells/\((∃fs,P.underlying t=Z (.struct fs))->x= .agg x.cells)/\((∀fs,P.underlying t≠Z (.struct fs))->x.one=true):=by obtain⟨F,G⟩:=B;obtain⟨X,q,y⟩:=Kb g F t _ _ w G E;have o:=fy.1 g t w;(have one:(∀fs,P.underlying t≠Z (.struct fs))->v.cells= #[v]->∃x:PD,aG (eV W) v (.p x)/\dr P t x.cells/\((∃fs,P.underlying t=Z (.struct fs))->x= .agg x.cells)/\((∀fs,P.underlying t≠Z (.struct fs))->x.one=true):=by intro n I;rw[I] at q;obtain⟨Q,j,u⟩:=q;match X,Q with|[x],_=>have z:=j x (by simp);(have J:x.cells=[x]:=by cases x<;>first |rfl |cases z);exact⟨x,.p _ _ (u 0 v x rfl rfl),by rw[J];exact y,λ⟨fs,h⟩=>absurd h (n fs),λ_=>z⟩);unfold A8 at o;split at o;{rename_i ht;obtain⟨b,rfl⟩:=okWide_bool ht f;exact one (λfs h=>by rw[ht] at h;cases h) rfl};{rename_i k ht;obtain⟨m,rfl⟩:=okWide_int ht f;exact one (λfs h=>by rw[ht] at h;cases h) rfl};{rename_i ht;obtain⟨s,rfl⟩:=okWide_string ht f;exact one (λfs h=>by rw[ht] at h;cases h) rfl};{rename_i e ht;obtain⟨a,l,c,rfl⟩:=okWide_slice ht f;exact one (λfs h=>by rw[ht] at h;cases h) rfl};{rename_i fs ht;obtain⟨C,rfl,_⟩:=okWide_struct ht f;obtain⟨Q,j,u⟩:=q;refine⟨.agg X,.p _ _ (.agg C X (by simpa[Value.cells] using Q.symm) j λi x A=>?_),y,λ_=>rfl,λh=>absurd ht (h fs)⟩;(have K:i<C.size:=by have:=(ak.1 A).1;rw[Q] at this;simpa[Value.cells] using this);refine u i _ x ?_ A;simp[Value.cells,cg,K]};cases o
end
section
variable{e:TypeId}{xs:List PD}
theorem abT(a:P.underlying t=Z (.slice e))(h:dr P t xs):xs=[.aj]\/xs=[.bW (P.cellsOf e)]\/ ∃es,es≠[]/\O es*P.bytesOf e<=reachBytes/\xs=[.slice (P.cellsOf e) es]/\(∀x∈es,dr P e x.cells)/\∀x∈es,x=kX P e x.cells:=by cases h with|bool _ b H=>rw[a] at H;cases H|int _ k n H=>rw[a] at H;cases H|str _ s H=>rw[a] at H;cases H|aj _ E H=>exact .inl rfl|bW _ E H=>rw[a] at H;cases H;exact .inr (.inl rfl)|sl _ E es c H l h d m=>rw[a] at H;cases H;exact .inr (.inr ⟨es,c,l,rfl,h,m⟩)|struct _ f parts H=>rw[a] at H;cases H
theorem oi{k:IntKind}(a:P.underlying t=Z (.int k))(h:dr P t xs):∃n,xs=[.int k n]/\(Lit.int k n).wf=true:=by cases h with|bool _ b H=>rw[a] at H;cases H|int _ k n H w=>rw[a] at H;cases H;exact⟨n,rfl,w⟩|str _ s H=>rw[a] at H;cases H|aj _ e H=>rw[a] at H;cases H|bW _ e H=>rw[a] at H;cases H|sl _ e E c H l h d m=>rw[a] at H;cases H|struct _ f parts H=>rw[a] at H;cases H
theorem Kc(a:P.underlying t=Z .bool)(h:dr P t xs):∃b,xs=[.bool b]:=by cases h with|bool _ b H=>exact⟨b,rfl⟩|int _ k n H w=>rw[a] at H;cases H|str _ s H=>rw[a] at H;cases H|aj _ e H=>rw[a] at H;cases H|bW _ e H=>rw[a] at H;cases H|sl _ e E c H l h d m=>rw[a] at H;cases H|struct _ f parts H=>rw[a] at H;cases H
theorem x6(a:P.underlying t=Z .string)(h:dr P t xs):∃s,xs=[.str s]/\O s<=reachBytes:=by cases h with|bool _ b H=>rw[a] at H;cases H|int _ k n H w=>rw[a] at H;cases H|str _ s H c=>exact⟨s,rfl,c⟩|aj _ e H=>rw[a] at H;cases H|bW _ e H=>rw[a] at H;cases H|sl _ e E d H l h c m=>rw[a] at H;cases H|struct _ f parts H=>rw[a] at H;cases H
theorem mz{F:Array Field}(a:P.underlying t=Z (.struct F))(h:dr P t xs):∃parts:List (List PD),xs=parts.flatten/\O parts=F.size/\ ∀(i:Nat) f p,F[i]? =Z f->parts[i]? =Z p->dr P f.type p:=by cases h with|bool _ b H=>rw[a] at H;cases H|int _ k n H w=>rw[a] at H;cases H|str _ s H c=>rw[a] at H;cases H|aj _ e H=>rw[a] at H;cases H|bW _ e H=>rw[a] at H;cases H|sl _ e E d H l h c m=>rw[a] at H;cases H|struct _ g parts H l h c=>rw[a] at H;cases H;exact⟨parts,rfl,l,h⟩
end
theorem QC{H:Type}{enc:TypeId×Value->H}{W:World}:∀{ts:List TypeId} {vs:List Value} {ds:List (DataW H)} {ps:List MemPlace},DataW.TrodAll enc P W 0 (λ_=>true) true ts vs ds ps-> ∀(j:Nat) t v,ts[j]? =Z t->vs[j]? =Z v->∃d p,DataW.Trod enc P W 0 (λ_=>true) true t v d p/\ds[j]? =Z d|[],[],[],_,_,j,t,v,a,_=>by simp at a|t::ts,v::vs,d::ds,ps,h,j,T,V,a,b=>(by obtain⟨p,q,c,e,_⟩:=h;(cases j with|zero=>cases a;cases b;exact⟨d,p,c,rfl⟩|succ j=>exact QC e j T V a b))|[],[],_::_,_,h,_,_,_,_,_=>h.elim|[],_::_,_,_,h,_,_,_,_,_=>by cases h|_::_,[],_,_,h,_,_,_,_,_=>by cases h|_::_,_::_,[],_,h,_,_,_,_,_=>by cases h
end
end Go.Vs
namespace Go
variable{H:Type}{enc:TypeId × Value->H}
theorem QD{P:Program}:∀{ts us:List TypeId} {ds gs:List (DataW H)},O ts=O ds->∀w∈DataW.weightsEach P ts ds,w∈DataW.weightsEach P (ts++us) (ds++gs)|[],_,[],_,_,w,h=>by simp[DataW.weightsEach] at h|t::ts,us,d::ds,gs,l,w,h=>by simp only[DataW.weightsEach,cu,gy] at h|-;exact h.imp id (QD (by simpa using l) w)|[],_,_::_,_,h,_,_=>by simp at h|_::_,_,[],_,h,_,_=>by simp at h
theorem QE{P:Program}{W:World}:∀{ts:List TypeId} {vs:List Value} {ds:List (DataW H)} {ps:List MemPlace},DataW.TrodAll enc P W 0 (λ_=>true) true ts vs ds ps->O ts=O ds|[],[],[],_,_=>rfl|t::ts,v::vs,d::ds,ps,h=>by obtain⟨p,q,_,a,_⟩:=h;simp[QE a]|[],[],_::_,_,h=>h.elim|[],_::_,_,_,h=>by cases h|_::_,[],_,_,h=>by cases h|_::_,_::_,[],_,h=>by cases h
theorem abU{a:Assume}{C:Checked}{os:Os}{f:FuncId}{fn:Func}{s:ChangeSpec}{g:List PathCond}{A F h n:Bool}{X:World->Array Value->Prop} (Q:∀(w w':World) (args:Array Value),w.heap=w'.heap->X w args->X w' args) (O:ownKnob C.prog.godebug=Y) (S:os.Started) (N:C.prog.inits.idxOf? f=Y) (z:C.prog.funcs[f]? =Z fn) (k:∃(w:World) (T:Tape) (i:Input),w.os=os/\(w.forCall T i).Shaped C.prog/\i.vars=[]/\Input.okWide C.prog (w.forCall T i) .any w.heap.size f i/\ ((s.pre enc C.prog fn g A (w.forCall T i).memory i.args/\X (w.forCall T i).memory i.args)/\sizedMet enc C.prog fn (OpenSpec.ofChange s) A (w.forCall T i).memory i.args)/\a.holds C.prog (lone (Frame.enter C.prog f i.args .normal) [] (w.forCall T i))) (c:∀(W:World) (base:Nat) (args:Array Value) (ds gs:List (DataW H)) (b:List MemPlace),(∀(j:Nat) t v,fn.params[j]? =Z t->args[j]? =Z v->Value.okWide C.prog W .any base t v)-> DataW.Whole enc C.prog fn.params.toList s.vars A W args.toList ds gs b->(∀(j:Nat) t v,fn.params[j]? =Z t->args[j]? =Z v->∃d p,DataW.Trod enc C.prog W 0 (λ_=>true) true t v d p/\Vs.sX C.prog t d)->X W args->W.ShapedOpen C.prog-> Calls C.prog f args W λe W'=>∃v,e= .returned v/\s.post enc C.prog fn A F h n W args v W'): ReturnsInHanded a C os f .any (λw args=>(s.pre enc C.prog fn g A w args/\X w args)/\sizedMet enc C.prog fn (OpenSpec.ofChange s) A w args) (s.post enc C.prog fn A F h n):=by refine returnsInHanded_of_calls O S N k ?_;intro w T i _ E _ G o _;obtain⟨_,_,_,r,u,_,_,_,_,x⟩:=G;have e:r=fn:=lq (u.symm.trans z);subst e;obtain⟨⟨⟨ds,gs,b,R,_⟩,U⟩,I⟩:=o;obtain⟨_,V,J,B,K,y⟩:=I;have L:=DataW.Whole.of_heap (w':=w.forCall T i) (by rfl) K;(have l:∀(j:Nat) t v,r.params[j]? =Z t->i.args[j]? =Z v->∃d p,DataW.Trod enc C.prog (w.forCall T i) 0 (λ_=>true) true t v d p/\Vs.sX C.prog t d:=by obtain⟨p,q,M,_⟩:=L;intro j t v P hv;obtain⟨d,p',h1,h2⟩:=Vs.QC M j t v (by simpa using P) (by simpa using hv);refine⟨d,p',h1,λw' m=>?_⟩;have h3:=QD (us:=(OpenSpec.ofChange s).bare.plain.varTypes C.prog) (gs:=J) (QE M) w' (Vs.Ka (i:=j) (by simpa using P) h2 m);exact of_decide_eq_true (fy.1 y w' h3));have m:=DataW.Whole.of_heap (w':=w.forCall T i) (by rfl) R;refine(c (w.forCall T i) w.heap.size i.args ds gs b x m l (Q _ _ _ (by rfl) U) E).mono λe W' ⟨v,he,hp⟩=>?_;subst he;exact ChangeSpec.post_blind hp
end Go
namespace Go.Vs
section
def bt.QF(c c':bt):Prop:=∀f a H r,ag c f a H=Z r->ag c' f a H=Z r
variable{c':bt}
section
variable{c:bt}(h:bt.QF c c')
include h
end
section
variable{c:bt}(h:bt.QF c c'){i i':It}(hi:It.le i i'){G:Nat->Option (List PD)}{T:Nat->Option (Nat × FC)}
include h hi
end
theorem oY{p:Pg}{f:Nat}{c:FC}{a:List D}{H:Hp}{r:bB×Hp}(l:p.lib f a H=Y)(d:p.F f=Z c)(g:O a=c.np) (e:jI c.aB (O H.bx) (fZ (call p) p.D p.G aO c ⟨entry 0 a,H⟩)=Z r):call p f a H=Z r:=by cases h:fZ (call p) p.D p.G aO c ⟨entry 0 a,H⟩ with|none=>rw[h] at e;unfold jI at e;split at e<;>cases e|some x=>obtain⟨n,b⟩:=Xd h;refine uv.2 ⟨n+1,?_⟩;unfold dY;(try dsimp only);rw[l,d];(try dsimp only);rw[if_pos g,b,<-h];exact e
end
section
theorem rA:∀(r l:List Nat) (x:Nat),x∈ins l r↔x∈l\/x∈r|[],l,x=>by simp[ins]|a::r,l,x=>by simp only[ins];split;{rename_i h;rw[rA r l x];(have :a∈l:=by simpa using h);constructor;{rintro (h |h);{exact .inl h};exact .inr (fX _ h)};rintro (h |h);{exact .inl h};rcases bJ.1 h with rfl |h;{exact .inl this};exact .inr h};rw[rA r _ x];simp[or_assoc]
theorem EF:∀(r l:List Nat),l.Nodup->(ins l r).Nodup|[],l,h=>h|a::r,l,h=>by simp only[ins];split;{exact EF r l h};rename_i ha;refine EF r _ ?_;(have :a∉l:=by simpa using ha);rw[MZ];refine⟨h,by simp,?_⟩;intro x b y H;(have :y=a:=by simpa using H);subst this;rintro rfl;contradiction
theorem Ke:∀(r l:List Nat),O l<=O (ins l r)|[],_=>aS _|a::r,l=>by simp only[ins];split;{exact Ke r l};have:=Ke r (l++[a]);simp at this;omega
theorem QG:∀(r l:List Nat),(∀x∈r,x∈l)->ins l r=l|[],l,_=>rfl|a::r,l,h=>by simp only[ins];rw[if_pos (by simpa using h a (by simp))];exact QG r l λx H=>h x (fX _ H)
theorem QH:∀(r l:List Nat),(∃x∈r,x∉l)->O l<O (ins l r)|[],l,h=>by obtain⟨x,h,_⟩:=h;cases h|a::r,l,⟨x,b,n⟩=>by simp only[ins];split;{rename_i H;(have H:a∈l:=by simpa using H);refine QH r l ⟨x,?_,n⟩;rcases bJ.1 b with rfl |h;{contradiction};exact h};have:=Ke r (l++[a]);simp at this;omega
theorem A9{H:Hp}:∀{l:List Nat} {x:Nat},x∈dC H l↔∃i∈l,∃cs,H.bx[i]? =Z cs/\x∈D.aq cs|[],x=>by simp[dC]|a::r,x=>by simp only[dC,cu,A9 (l:=r),bJ];constructor;{rintro (h |⟨i,h1,h2⟩);{split at h;{rename_i cs hc;exact⟨a,.inl rfl,cs,hc,h⟩};cases h};exact⟨i,.inr h1,h2⟩};rintro⟨i,rfl |h1,cs,h2,h3⟩;{left;rw[h2];exact h3};exact .inr ⟨i,h1,cs,h2,h3⟩
def p6(H:Hp)(l:List Nat):Prop:=∀i∈l,∀cs:List D,H.bx[i]? =Z cs->∀x∈D.aq cs,x∈l
theorem Kf{H:Hp}{l:List Nat}(h:p6 H l):∀n,reach H n l=l| 0=>rfl|n+1=>by simp only[reach];split;{rfl};(have :ins l (dC H l)=l:=QG _ _ λx a=>by obtain⟨i,b,c,d,e⟩:=A9.1 a;exact h i b c d x e);rw[this];exact Kf h n
def Hp.Ok(H:Hp):Prop:=∀(i:Nat) (cs:List D),H.bx[i]? =Z cs->∀x∈D.aq cs,x<O H.bx
theorem Kg:∀(N:Nat) (l:List Nat),l.Nodup->(∀x∈l,x<N)->O l<=N| 0,l,_,h=>(by (cases l with|nil=>simp|cons a r=>exact absurd (h a (by simp)) (by omega)))|N+1,l,n,h=>by (have H:=Kg N (l.erase N) (n.erase N) λx b=>by have:=(n.mem_erase_iff).1 b;have:=h x this.2;omega);rw[List.length_erase] at H;split at H<;>omega
variable{H H':Hp}{pre pst:List D}{ids:List Nat}{N i f m:Nat}{α:Type}{R:List (Int×List α)}{S:List (List (Int×List α))}{l:List α}
theorem abV{l:List Nat}(n:l.Nodup)(a:∀x∈l,x<N)(h:N<=O l):∀x,x<N->x∈l:=by intro x b;by_cases m:x∈l;{exact m};exfalso;have c:(x::l).Nodup:=qt.2 ⟨m,n⟩;(have d:∀y∈x::l,y<N:=λy H=>by rcases bJ.1 H with rfl |H;{exact b};exact a y H);have e:=Kg N _ c d;simp at e;omega
theorem QJ{H:Hp}(d:H.Ok):∀(n:Nat) (l:List Nat),l.Nodup->(∀x∈l,x<O H.bx)->O H.bx<=n+O l-> (reach H n l).Nodup/\(∀x∈reach H n l,x<O H.bx)/\(∀x∈l,x∈reach H n l)/\p6 H (reach H n l)| 0,l,b,c,j=>⟨b,c,λ_ h=>h,λi _ s e x a=>abV b c (by omega) x (d i s e x a)⟩|n+1,l,b,c,j=>by by_cases f:p6 H l;{rw[Kf f];exact⟨b,c,λ_ h=>h,f⟩};(have hex:∃x∈dC H l,x∉l:=by refine mM λo=>f λi k s e x a=>?_;refine mM λg=>o ⟨x,A9.2 ⟨i,k,s,e,a⟩,g⟩);have p:=QH _ _ hex;(have v:∀x∈ins l (dC H l),x<O H.bx:=λx a=>by rcases(rA _ _ _).1 a with h |h;{exact c x h};obtain⟨i,_,s,h4,h5⟩:=A9.1 h;exact d i s h4 x h5);have I:=QJ d n (ins l (dC H l)) (EF _ _ b) v (by omega);(have m:reach H (n+1) l=reach H n (ins l (dC H l)):=by simp only[reach];split;{rename_i hb;rw[hb] at hex;obtain⟨x,a,_⟩:=hex;cases a};rfl);rw[m];exact⟨I.1,I.2.1,λx a=>I.2.2.1 x ((rA _ _ _).2 (.inl a)),I.2.2.2⟩
theorem QK{H:Hp}{P:Nat->Prop}(b:∀(i:Nat) (cs:List D),P i->H.bx[i]? =Z cs->∀x∈D.aq cs,P x):∀(n:Nat) (l:List Nat),(∀x∈l,P x)->∀x∈reach H n l,P x| 0,_,h=>h|n+1,l,h=>by simp only[reach];split;{exact h};refine QK b n _ λx c=>?_;rcases(rA _ _ _).1 c with a |a;{exact h x a};obtain⟨i,h2,cs,h3,h4⟩:=A9.1 a;exact b i cs (h i h2) h3 x h4
mutual
def D.mv(g:Nat->Nat):D->D
 | .box i o=>.box (g i) o
 | .agg cs=>.agg (D.bC g cs)
 | .aL cs=>.aL (D.bC g cs)
 | .fn f a c=>.fn f (D.bC g a) (D.bC g c)
 | .aZ i off n c sz=>.aZ (g i) off n c sz
 | .dK t d=>.dK t (d.mv g)
 | .bO i=>.bO (g i)
 | .bu kd ks vs=>.bu kd ks (D.bC g vs)
 | .af i e n sz=>.af (g i) e n sz
 |d=>d
def D.bC(g:Nat->Nat):List D->List D
 |[]=>[]
 |d::r=>d.mv g::D.bC g r
end
mutual
theorem EG{bi ti:Nat->Option Nat}{g:Nat->Nat}:∀(d:D),(∀r∈d.refs,bi r=Z (g r))->d.bh=[]->d.ren bi ti=Z (d.mv g)
 | .box i o,h,_=>by simp[D.ren,D.mv,h i (by simp[D.refs])]
 | .agg cs,h,t=>by simp[D.ren,D.mv,rB cs h t]
 | .aL cs,h,t=>by simp[D.ren,D.mv,rB cs h t]
 | .fn f a c,h,t=>by
  simp only[D.bh,sf] at t;simp only[D.refs,cu] at h;simp[D.ren,D.mv,rB a (λr hr=>h r (.inl hr)) t.1,rB c (λr hr=>h r (.inr hr)) t.2]
 | .aZ i off n c sz,h,_=>by simp[D.ren,D.mv,h i (by simp[D.refs])]
 | .dK k d,h,t=>by simp[D.ren,D.mv,EG d h t]
 | .bO i,h,_=>by simp[D.ren,D.mv,h i (by simp[D.refs])]
 | .bu kd ks vs,h,t=>by simp[D.ren,D.mv,rB vs h t]
 | .af i e n sz,h,_=>by simp[D.ren,D.mv,h i (by simp[D.refs])]
 | .aP _ _ _ _,_,t=>by simp[D.bh] at t
 | .dead,_,_=>rfl
 | .undef,_,_=>rfl
 | .p _,_,_=>rfl
 | .cw _ _ _,_,_=>rfl
 | .dJ _ _,_,_=>rfl
 | .ro _ _,_,_=>rfl
 | .eJ _,_,_=>rfl
 | .eF _ _,_,_=>rfl
theorem rB{bi ti:Nat->Option Nat}{g:Nat->Nat}:∀(ds:List D),(∀r∈D.aq ds,bi r=Z (g r))->D.aJ ds=[]->D.aR bi ti ds=Z (D.bC g ds)
 |[],_,_=>rfl
 |d::ds,h,t=>by
  simp only[D.aJ,sf] at t;simp only[D.aq,cu] at h;simp[D.aR,D.bC,EG d (λr hr=>h r (.inl hr)) t.1,rB ds (λr hr=>h r (.inr hr)) t.2]
end
theorem rC(g:Nat->Nat):∀(ds:List D),D.bC g ds=ds.map (D.mv g)|[]=>rfl|d::ds=>by simp[D.bC,rC g ds]
mutual
theorem Kh{bi ti:Nat->Option Nat}{g:Nat->Nat}(hg:∀r j,bi r=Z j->j=g r):∀(d d':D),d.bh=[]->d.ren bi ti=Z d'->d'=d.mv g
 | .box i o,d',_,h=>by
  simp only[D.ren] at h;obtain⟨j,hj,rfl⟩:=au.1 h;simp[D.mv,hg _ _ hj]
 | .agg cs,d',t,h=>by
  simp only[D.ren] at h;obtain⟨j,hj,rfl⟩:=au.1 h;simp[D.mv,vt hg cs j t hj]
 | .aL cs,d',t,h=>by
  simp only[D.ren] at h;obtain⟨j,hj,rfl⟩:=au.1 h;simp[D.mv,vt hg cs j t hj]
 | .fn f a c,d',t,h=>by
  simp only[D.bh,sf] at t;simp only[D.ren] at h;split at h
  .rename_i a' c' h1 h2;cases h;simp[D.mv,vt hg a a' t.1 h1,vt hg c c' t.2 h2]
  .cases h
 | .aZ i off n c sz,d',_,h=>by
  simp only[D.ren] at h;obtain⟨j,hj,rfl⟩:=au.1 h;simp[D.mv,hg _ _ hj]
 | .dK k d,d',t,h=>by
  simp only[D.ren] at h;obtain⟨j,hj,rfl⟩:=au.1 h;simp[D.mv,Kh hg d j t hj]
 | .bO i,d',_,h=>by
  simp only[D.ren] at h;obtain⟨j,hj,rfl⟩:=au.1 h;simp[D.mv,hg _ _ hj]
 | .bu kd ks vs,d',t,h=>by
  simp only[D.ren] at h;obtain⟨j,hj,rfl⟩:=au.1 h;simp[D.mv,vt hg vs j t hj]
 | .af i e n sz,d',_,h=>by
  simp only[D.ren] at h;obtain⟨j,hj,rfl⟩:=au.1 h;simp[D.mv,hg _ _ hj]
 | .aP _ _ _ _,_,t,_=>by simp[D.bh] at t
 | .dead,_,_,h=>by cases h;rfl
 | .undef,_,_,h=>by cases h;rfl
 | .p _,_,_,h=>by cases h;rfl
 | .cw _ _ _,_,_,h=>by cases h;rfl
 | .dJ _ _,_,_,h=>by cases h;rfl
 | .ro _ _,_,_,h=>by cases h;rfl
 | .eJ _,_,_,h=>by cases h;rfl
 | .eF _ _,_,_,h=>by cases h;rfl
theorem vt{bi ti:Nat->Option Nat}{g:Nat->Nat}(hg:∀r j,bi r=Z j->j=g r):∀(ds jM:List D),D.aJ ds=[]->D.aR bi ti ds=Z jM->jM=D.bC g ds
 |[],jM,_,h=>by cases h;rfl
 |d::ds,jM,t,h=>by
  simp only[D.aJ,sf] at t;simp only[D.aR] at h;split at h
  .rename_i x hx;obtain⟨j,hj,rfl⟩:=au.1 h;simp[D.bC,Kh hg d x t.1 hx,vt hg ds j t.2 hj]
  .cases h
end
mutual
theorem Ki{bi ti:Nat->Option Nat}:∀(d d':D),d.ren bi ti=Z d'->∀r∈d.refs,∃j,bi r=Z j
 | .box i o,d',h,r,hr=>by
  simp only[D.ren] at h;obtain⟨j,hj,rfl⟩:=au.1 h;simp only[D.refs,jn] at hr;exact⟨j,hr▸hj⟩
 | .agg cs,d',h,r,hr=>by
  simp only[D.ren] at h;obtain⟨j,hj,rfl⟩:=au.1 h;exact vu cs j hj r hr
 | .aL cs,d',h,r,hr=>by
  simp only[D.ren] at h;obtain⟨j,hj,rfl⟩:=au.1 h;exact vu cs j hj r hr
 | .fn f a c,d',h,r,hr=>by
  simp only[D.ren] at h;simp only[D.refs,cu] at hr;split at h
  .rename_i a' c' h1 h2;rcases hr with hr |hr
   .exact vu a a' h1 r hr
   .exact vu c c' h2 r hr
  .cases h
 | .aZ i off n c sz,d',h,r,hr=>by
  simp only[D.ren] at h;obtain⟨j,hj,rfl⟩:=au.1 h;simp only[D.refs,jn] at hr;exact⟨j,hr▸hj⟩
 | .dK k d,d',h,r,hr=>by
  simp only[D.ren] at h;obtain⟨j,hj,rfl⟩:=au.1 h;exact Ki d j hj r hr
 | .bO i,d',h,r,hr=>by
  simp only[D.ren] at h;obtain⟨j,hj,rfl⟩:=au.1 h;simp only[D.refs,jn] at hr;exact⟨j,hr▸hj⟩
 | .bu kd ks vs,d',h,r,hr=>by
  simp only[D.ren] at h;obtain⟨j,hj,rfl⟩:=au.1 h;exact vu vs j hj r hr
 | .af i e n sz,d',h,r,hr=>by
  simp only[D.ren] at h;obtain⟨j,hj,rfl⟩:=au.1 h;simp only[D.refs,jn] at hr;exact⟨j,hr▸hj⟩
 | .aP _ _ _ _,_,_,_,hr=>by simp[D.refs] at hr
 | .dead,_,_,_,hr=>by simp[D.refs] at hr
 | .undef,_,_,_,hr=>by simp[D.refs] at hr
 | .p _,_,_,_,hr=>by simp[D.refs] at hr
 | .cw _ _ _,_,_,_,hr=>by simp[D.refs] at hr
 | .dJ _ _,_,_,_,hr=>by simp[D.refs] at hr
 | .ro _ _,_,_,_,hr=>by simp[D.refs] at hr
 | .eJ _,_,_,_,hr=>by simp[D.refs] at hr
 | .eF _ _,_,_,_,hr=>by simp[D.refs] at hr
theorem vu{bi ti:Nat->Option Nat}:∀(ds jM:List D),D.aR bi ti ds=Z jM->∀r∈D.aq ds,∃j,bi r=Z j
 |[],_,_,r,hr=>by cases hr
 |d::ds,jM,h,r,hr=>by
  simp only[D.aR] at h;simp only[D.aq,cu] at hr;split at h
  .rename_i x hx;obtain⟨j,hj,rfl⟩:=au.1 h;rcases hr with hr |hr
   .exact Ki d x hx r hr
   .exact vu ds j hj r hr
  .cases h
end
theorem EH{bi ti:Nat->Option Nat}:∀(l l':List (List D)),aF (D.aR bi ti) l=Z l'->∀cs∈l,∀r∈D.aq cs,∃j,bi r=Z j|[],_,_,cs,H=>by cases H|c::l,l',h,cs,H=>by simp only[aF] at h;split at h;{rename_i x hx;obtain⟨j,a,rfl⟩:=au.1 h;rcases bJ.1 H with rfl |H;{exact vu _ x hx};exact EH l j a cs H};cases h
theorem Ba{bi ti:Nat->Option Nat}{g:Nat->Nat}:∀(l:List (List D)),(∀cs∈l,(∀r∈D.aq cs,bi r=Z (g r))/\D.aJ cs=[])->aF (D.aR bi ti) l=Z (l.map (D.bC g))|[],_=>rfl|cs::l,h=>by simp[aF,rB cs (h cs (by simp)).1 (h cs (by simp)).2,Ba l λx H=>h x (fX _ H)]
theorem Kj{bi ti:Nat->Option Nat}{g:Nat->Nat}(H:∀r j,bi r=Z j->j=g r):∀(l l':List (List D)),(∀cs∈l,D.aJ cs=[])->aF (D.aR bi ti) l=Z l'->l'=l.map (D.bC g)|[],l',_,h=>by cases h;rfl|cs::l,l',t,h=>by simp only[aF] at h;split at h;{rename_i x hx;obtain⟨j,a,rfl⟩:=au.1 h;simp[vt H cs x (t cs (by simp)) hx,Kj H l j (λy b=>t y (fX _ b)) a]};cases h
def dx(ids:List Nat)(i:Nat):Nat:=(idx ids i).getD 0
def dk(ids:List Nat)(N j:Nat):Nat:=if j<O ids then ids.getD j 0 else N+(j-O ids)
theorem Kk(h:i∈ids):idx ids i=Z (dx ids i):=by unfold dx;cases x:idx ids i with|none=>exact absurd h (On x)|some j=>rfl
theorem vw(h:i∈ids):ids[dx ids i]? =Z i:=DD (Kk h)
theorem QL(h:i∈ids):dk ids N (dx ids i)=i:=by have H:=vw h;obtain⟨a,b⟩:=ak.1 H;simp[dk,a,dP,b]
def oZ(H:Hp)(ids:List Nat):Hp:=⟨ids.map λi=>D.bC (dx ids) (H.bx.getD i []),[]⟩
theorem QM{b:Type}{f:α->Option b}{g:α->b}:∀(l:List α),(∀a∈l,f a=Z (g a))->aF f l=Z (l.map g)|[],_=>rfl|a::l,h=>by simp[aF,h a (by simp),QM l λx H=>h x (fX _ H)]
theorem QN:∀(l:List Nat),(∀(i:Nat) (cs:List D),H.bx[i]? =Z cs->D.aJ cs=[])->dS H l=[]|[],_=>rfl|i::l,h=>by simp only[dS,QN l h,gu];split;{rename_i cs hc;exact h i cs hc};rfl
theorem QO:∀{l:List Nat},l.Nodup->nodupB l=true|[],_=>rfl|a::l,h=>by obtain⟨H,b⟩:=qt.1 h;simp[nodupB,QO b,H]
theorem QP{c:bt}{args:List D}(W:H.Ok)(K:D.aJ args=[])(T:∀(i:Nat) (cs:List D),H.bx[i]? =Z cs->D.aJ cs=[])(X:∀x∈D.aq args,x<O H.bx): ∃ids,ids.Nodup/\(∀x∈ids,x<O H.bx)/\(∀x∈D.aq args,x∈ids)/\p6 H ids/\ (∀P:Nat->Prop,(∀x∈D.aq args,P x)->(∀(i:Nat) (cs:List D),P i->H.bx[i]? =Z cs->∀x∈D.aq cs,P x)->∀x∈ids,P x)/\ ∀d Hs,c f (D.bC (dx ids) args) (oZ H ids)=Z (.val d,Hs)->O ids<=O Hs.bx->Hs.Ok->(∀cs∈Hs.bx,D.aJ cs=[])->(∀x∈d.refs,x<O Hs.bx)->d.bh=[]-> ∃k,((k=0/\(∀x∈d.refs,x<O ids)/\∀cs∈Hs.bx.take (O ids),∀x∈D.aq cs,x<O ids)\/k=O Hs.bx-O ids)/\ ag c f args H=Z (.val (d.mv (dk ids (O H.bx))),⟨bP H.bx ids ((Hs.bx.take (O ids)).map (D.bC (dk ids (O H.bx))))++((Hs.bx.drop (O ids)).map (D.bC (dk ids (O H.bx)))).take k,H.tk⟩):=by
 obtain⟨L,M,N,R⟩:=QJ W (O H.bx) (ins [] (D.aq args)) (EF _ _ He) (λx b=>by rcases(rA _ _ _).1 b with h |h;{cases h};exact X x h) (by omega);refine⟨_,L,M,λx b=>N x ((rA _ _ _).2 (.inr b)),R,λP Y p2=>QK p2 _ _ λx b=>by rcases(rA _ _ _).1 b with h |h;{cases h};exact Y x h,?_⟩;have Q:∀x∈D.aq args,x∈reach H (O H.bx) (ins [] (D.aq args)):=λx b=>N x ((rA _ _ _).2 (.inr b));unfold ag;dsimp only;generalize reach H (O H.bx) (ins [] (D.aq args))=ids at *;intro d Hs hc o E p u l;have e1:dS H ids=[]:=QN _ T;have e2:D.aR (idx ids) (idx []) args=Z (D.bC (dx ids) args):=rB _ (λr a=>Kk (Q r a)) K;simp only[K,e1,gu,ins,QO L,nodupB,Bool.and_self,if_true,e2,aF];rw[QM (g:=λi=>D.bC (dx ids) (H.bx.getD i [])) ids (by intro i A;have S:=M i A;have B:H.bx[i]? =Z H.bx[i]:=aw S;(have F:H.bx.getD i []=H.bx[i]:=by simp[dP,B]);simp only[B,F];exact rB _ (λr a=>Kk (R i A _ B r a)) (T i _ B))];have G:c f (D.bC (dx ids) args) ⟨ids.map λi=>D.bC (dx ids) (H.bx.getD i []),[]⟩=Z (.val d,Hs):=hc;dsimp only;rw[G];dsimp only;unfold back;have f1:eo Hs.bx (O ids)=Z (Hs.bx.take (O ids)):=by simp[eo,o]
 have f2:eo Hs.tk (O ([]:List Nat))=Z []:=by simp[eo]
 rw[f1,f2];dsimp only;have v:∀r j,(λi=>ids[i]?) r=Z j->j=dk ids (O H.bx) r:=λr j h=>by obtain⟨C,h3⟩:=ak.1 h;simp[dk,C,dP,h3]
 have e:∀cs∈Hs.bx.take (O ids),D.aJ cs=[]:=λcs s=>p cs (gP s);have n:∀cs∈Hs.bx,∀r∈D.aq cs,r<O Hs.bx:=λcs s r a=>by obtain⟨i,A⟩:=c8 s;exact E i cs A r a
 have m:∀r,r<O Hs.bx->(if r<O ids then ids[r]? else Z (O H.bx+(r-O ids)))=Z (dk ids (O H.bx) r):=λr _=>by unfold dk;split;{rename_i h;simp[dP,h]};rfl
 split;{rename_i r' DJ h1 C;obtain⟨U,w,rfl⟩:=au.1 h1;have y:∀x j,(λi=>ids[i]?) x=Z j->x<O ids:=λx j h=>(ak.1 h).1;refine⟨0,.inl ⟨rfl,λx b=>?_,λcs s x b=>?_⟩,?_⟩;{obtain⟨j,hj⟩:=Ki d U w x b;exact y x j hj};{obtain⟨j,hj⟩:=EH _ DJ C cs s x b;exact y x j hj};rw[Kh v d U l w,Kj v _ DJ e C];simp[bP]};rename_i jv;(have I:Hs.bx.drop (O ids)≠[]:=λh=>by (have S:O Hs.bx=O ids:=by have:=List.drop_eq_nil_iff.1 h;omega);(have z:∀r,r<O Hs.bx->(λi=>ids[i]?) r=Z (dk ids (O H.bx) r):=λr a=>by (have :r<O ids:=by omega);simp[dk,dP,this]);refine jv _ _ (by simp only[bB.ren];rw[EG d (λr a=>z r (u r a)) l];rfl) (Ba _ λcs s=>⟨λr a=>z r (n cs (gP s) r a),e cs s⟩));refine⟨O Hs.bx-O ids,.inr rfl,?_⟩;(have g1:bB.ren (λi=>if i<O ids then ids[i]? else Z (O H.bx+(i-O ids))) (λt=>([]:List Nat)[t]?) (.val d)=Z (.val (d.mv (dk ids (O H.bx)))):=by simp only[bB.ren];rw[EG d (λr a=>m r (u r a)) l];rfl);have g2:=Ba (bi:=λi=>if i<O ids then ids[i]? else Z (O H.bx+(i-O ids))) (ti:=λt=>([]:List Nat)[t]?) (g:=dk ids (O H.bx)) (Hs.bx.take (O ids)) λcs s=>⟨λr a=>m r (n cs (gP s) r a),e cs s⟩;have g3:=Ba (bi:=λi=>if i<O ids then ids[i]? else Z (O H.bx+(i-O ids))) (ti:=λt=>([]:List Nat)[t]?) (g:=dk ids (O H.bx)) (Hs.bx.drop (O ids)) λcs s=>⟨λr a=>m r (n cs (qp s) r a),p cs (qp s)⟩;rw[g1,g2,g3];cases V:Hs.bx.drop (O ids) with|nil=>exact absurd V I|cons n0 nw=>(have J:O Hs.bx-O ids=O (n0::nw):=by rw[<-V,qq]);rw[J];simp[bP];rw[fg (by simp)]
mutual
theorem Kl{g h:Nat->Nat}:∀(d:D),(∀r∈d.refs,h (g r)=r)->(d.mv g).mv h=d
 | .box i o,q=>by simp[D.mv,q i (by simp[D.refs])]
 | .agg cs,q=>by simp[D.mv,x7 cs q]
 | .aL cs,q=>by simp[D.mv,x7 cs q]
 | .fn f a c,q=>by
  simp only[D.refs,cu] at q;simp[D.mv,x7 a λr hr=>q r (.inl hr),x7 c λr hr=>q r (.inr hr)]
 | .aZ i off n c sz,q=>by simp[D.mv,q i (by simp[D.refs])]
 | .dK k d,q=>by simp[D.mv,Kl d q]
 | .bO i,q=>by simp[D.mv,q i (by simp[D.refs])]
 | .bu kd ks vs,q=>by simp[D.mv,x7 vs q]
 | .af i e n sz,q=>by simp[D.mv,q i (by simp[D.refs])]
 | .aP _ _ _ _,_=>rfl
 | .dead,_=>rfl
 | .undef,_=>rfl
 | .p _,_=>rfl
 | .cw _ _ _,_=>rfl
 | .dJ _ _,_=>rfl
 | .ro _ _,_=>rfl
 | .eJ _,_=>rfl
 | .eF _ _,_=>rfl
theorem x7{g h:Nat->Nat}:∀(ds:List D),(∀r∈D.aq ds,h (g r)=r)->D.bC h (D.bC g ds)=ds
 |[],_=>rfl
 |d::ds,q=>by
  simp only[D.aq,cu] at q;simp[D.bC,Kl d λr hr=>q r (.inl hr),x7 ds λr hr=>q r (.inr hr)]
end
mutual
theorem QQ{g:Nat->Nat}:∀(d:D),(d.mv g).refs=d.refs.map g
 | .box i o=>rfl
 | .agg cs=>by simp[D.mv,D.refs,rE cs]
 | .aL cs=>by simp[D.mv,D.refs,rE cs]
 | .fn f a c=>by simp[D.mv,D.refs,rE a,rE c]
 | .aZ i off n c sz=>rfl
 | .dK k d=>by simp[D.mv,D.refs,QQ d]
 | .bO i=>rfl
 | .bu kd ks vs=>by simp[D.mv,D.refs,rE vs]
 | .af i e n sz=>rfl
 | .aP _ _ _ _=>rfl
 | .dead=>rfl
 | .undef=>rfl
 | .p _=>rfl
 | .cw _ _ _=>rfl
 | .dJ _ _=>rfl
 | .ro _ _=>rfl
 | .eJ _=>rfl
 | .eF _ _=>rfl
theorem rE{g:Nat->Nat}:∀(ds:List D),D.aq (D.bC g ds)=(D.aq ds).map g
 |[]=>rfl
 |d::ds=>by simp[D.bC,D.aq,QQ d,rE ds]
end
mutual
theorem QR{g:Nat->Nat}:∀(d:D),(d.mv g).bh=d.bh
 | .box i o=>rfl
 | .agg cs=>by simp[D.mv,D.bh,rF cs]
 | .aL cs=>by simp[D.mv,D.bh,rF cs]
 | .fn f a c=>by simp[D.mv,D.bh,rF a,rF c]
 | .aZ i off n c sz=>rfl
 | .dK k d=>by simp[D.mv,D.bh,QR d]
 | .bO i=>rfl
 | .bu kd ks vs=>by simp[D.mv,D.bh,rF vs]
 | .af i e n sz=>rfl
 | .aP _ _ _ _=>rfl
 | .dead=>rfl
 | .undef=>rfl
 | .p _=>rfl
 | .cw _ _ _=>rfl
 | .dJ _ _=>rfl
 | .ro _ _=>rfl
 | .eJ _=>rfl
 | .eF _ _=>rfl
theorem rF{g:Nat->Nat}:∀(ds:List D),D.aJ (D.bC g ds)=D.aJ ds
 |[]=>rfl
 |d::ds=>by simp[D.bC,D.aJ,QR d,rF ds]
end
mutual
theorem QS:∀(d:D),d.mv id=d
 | .box i o=>rfl
 | .agg cs=>by simp[D.mv,sY cs]
 | .aL cs=>by simp[D.mv,sY cs]
 | .fn f a c=>by simp[D.mv,sY a,sY c]
 | .aZ i off n c sz=>rfl
 | .dK k d=>by simp[D.mv,QS d]
 | .bO i=>rfl
 | .bu kd ks vs=>by simp[D.mv,sY vs]
 | .af i e n sz=>rfl
 | .aP _ _ _ _=>rfl
 | .dead=>rfl
 | .undef=>rfl
 | .p _=>rfl
 | .cw _ _ _=>rfl
 | .dJ _ _=>rfl
 | .ro _ _=>rfl
 | .eJ _=>rfl
 | .eF _ _=>rfl
theorem sY:∀(ds:List D),D.bC id ds=ds
 |[]=>rfl
 |d::ds=>by simp[D.bC,QS d,sY ds]
end
structure Kd (α:Type) where
 enc:List α->List D
 e:Nat
 sz:Nat
 rt:Nat
 st:Nat
 refs:∀l,D.aq (enc l)=[]
 bh:∀l,D.aJ (enc l)=[]
 mv:∀g l,D.bC g (enc l)=enc l
variable{κ:Kd α}
inductive cy (κ:Kd α) (H:Hp):D->List α->Prop where|aj:cy κ H (.p .aj) []|bW:cy κ H (.cw κ.e κ.sz []) []|row (i:Nat) (l:List α) (hi:H.bx[i]? =Z (κ.enc l)) (hl:l≠[]):cy κ H (.af i κ.e (O l) κ.sz) l
def aT:D->List Nat| .af i _ _ _=>[i]|_=>[]
theorem cy.other{d:D}(r:cy κ H d l)(h:∀m∈aT d,H'.bx[m]? =H.bx[m]?):cy κ H' d l:=by cases r with|aj=>exact .aj|bW=>exact .bW|row i l a n=>exact .row i l (by rw[h i (by simp[aT]),a]) n
inductive cE where|none|model|states|state (s:Nat)|row (s f:Nat)|EI (n:Nat)
def eh(κ:Kd α)(H:Hp)(ah:Nat->cE)(s:Nat)(d:D)(R:List (Int×List α)):Prop:=(d=(.p .aj)/\R=[])\/∃k cs,d= .af k κ.rt (O R) 2/\ah k= .state s/\H.bx[k]? =Z cs/\O cs=O R*2/\ ∀(f:Nat) (a:Int) (l:List α),R[f]? =Z (a,l)->cs[2*f]? =Z ((.p (.int .i64 a)))/\∃d',cs[2*f+1]? =Z d'/\cy κ H d' l/\∀i∈aT d',ah i= .row s f
def EJ(κ:Kd α)(H:Hp)(ah:Nat->cE)(sd:D)(S:List (List (Int×List α))):Prop:=(sd=(.p .aj)/\S=[])\/∃s0 ds,sd= .af s0 κ.st (O S) 1/\ah s0= .states/\H.bx[s0]? =Z ds/\O ds=O S/\ ∀(s:Nat) R,S[s]? =Z R->∃d,ds[s]? =Z d/\eh κ H ah s d R
def ko(κ:Kd α)(H:Hp)(ah:Nat->cE)(m:Nat)(pre pst:List D)(S:List (List (Int×List α))):Prop:=ah m= .model/\∃sd,H.bx[m]? =Z (pre++sd::pst)/\EJ κ H ah sd S
variable{ah:Nat->cE}
theorem eh.other{L:Nat->cE}{s:Nat}{d:D}(r:eh κ H ah s d R) (h:∀m,(ah m= .state s\/∃f,ah m= .row s f)->(L m=ah m/\∀cs,H.bx[m]? =Z cs->H'.bx[m]? =Z cs)):eh κ H' L s d R:=by rcases r with⟨c,b⟩ |⟨k,cs,c,b,g,j,o⟩;{exact .inl ⟨c,b⟩};refine .inr ⟨k,cs,c,(h k (.inl b)).1.trans b,(h k (.inl b)).2 _ g,j,λf a l p=>?_⟩;obtain⟨t,u,v,w,Q⟩:=o f a l p;refine⟨t,u,v,?_,λi e=>(h i (.inr ⟨f,Q i e⟩)).1.trans (Q i e)⟩;cases w with|aj=>exact .aj|bW=>exact .bW|row i l x n=>exact .row i l ((h i (.inr ⟨f,Q i (by simp[aT])⟩)).2 _ x) n
theorem ko.ext(r:ko κ H ah m pre pst S)(h:∀(i:Nat) cs,H.bx[i]? =Z cs->H'.bx[i]? =Z cs):ko κ H' ah m pre pst S:=by obtain⟨b,e,f,a⟩:=r;refine⟨b,e,h _ _ f,?_⟩;rcases a with a |⟨g,j,Q,k,l,n,o⟩;{exact .inl a};refine .inr ⟨g,j,Q,k,h _ _ l,n,λs R p=>?_⟩;obtain⟨d,w,W⟩:=o s R p;exact⟨d,w,W.other λm _=>⟨rfl,λcs c=>h _ _ c⟩⟩
theorem ko.ins(r:ko κ H ah m pre pst S){s:Nat}{a:Int}{l':List α}(B:S[s]? =Z R)(C:R[f]? =Z (a,l))(E:l'≠[]): ∃s0 ds k cs d',H.bx[m]? =Z (pre++ .af s0 κ.st (O S) 1::pst)/\H.bx[s0]? =Z ds/\O ds=O S/\ds[s]? =Z (.af k κ.rt (O R) 2)/\ah k= .state s/\H.bx[k]? =Z cs/\O cs=O R*2/\cs[2*f+1]? =Z d'/\cy κ H d' l/\k∉aT d'/\ ∀(bx:List (List D)) (tk:List Nat),O bx=O H.bx->(∀j,j∉aT d'->bx[j]? =H.bx[j]?)->ah (O H.bx)= .none-> ∃dE,ko κ ⟨(bx++[κ.enc l']).set k (cs.set (2*f+1) (.af (O H.bx) κ.e (O l') κ.sz)),tk⟩ dE m pre pst (S.set s (R.set f (a,l')))/\(∀j,j≠O H.bx->dE j=ah j)/\dE (O H.bx)≠.none/\ ∀j n cA,ah j= .EI n->H.bx[j]? =Z cA->((bx++[κ.enc l']).set k (cs.set (2*f+1) (.af (O H.bx) κ.e (O l') κ.sz)))[j]? =Z cA:=by
 obtain⟨u,sd,P,h3⟩:=r;rcases h3 with⟨-,rfl⟩ |⟨s0,ds,rfl,Q,T,U,V⟩;{simp at B};obtain⟨d,W,w2⟩:=V s R B;rcases w2 with⟨-,rfl⟩ |⟨k,cs,rfl,w,X,Y,w6⟩;{simp at C};obtain⟨e1,d',e2,e3,e4⟩:=w6 f a l C;have hk:k∉aT d':=λh=>by have:=e4 k h;rw[w] at this;cases this
 refine⟨s0,ds,k,cs,d',P,T,U,W,w,X,Y,e2,e3,hk,λbx tk v G x=>?_⟩;have pU:k<O H.bx:=(ak.1 X).1;have p:∀j cA,ah j≠.none->ah j≠.state s->ah j≠.row s f->H.bx[j]? =Z cA->((bx++[κ.enc l']).set k (cs.set (2*f+1) (.af (O H.bx) κ.e (O l') κ.sz)))[j]? =Z cA:=by intro j cA n0 n1 n2 c;have I:k≠j:=λh=>n1 (by rw[<-h];exact w);have J:j∉aT d':=λh=>n2 (e4 j h);(have K:j<O bx:=by rw[v];exact(ak.1 c).1);rw[bH I,bF K,G j J,c]
 have b:∀j,ah j≠.none->j≠O H.bx:=λj h e=>h (by rw[e];exact x);obtain⟨dE,o,y⟩:∃dE:Nat->cE,(∀j,j≠O H.bx->dE j=ah j)/\dE (O H.bx)= .row s f:=⟨λj=>if j=O H.bx then .row s f else ah j,λj c=>by simp[c],by simp⟩;refine⟨dE,⟨?_,.af s0 κ.st (O S) 1,?_,.inr ⟨s0,ds,by simp,?_,?_,by simpa using U,?_⟩⟩,o,by rw[y];simp,λj n cA c=>p j cA (by rw[c];simp) (by rw[c];simp) (by rw[c];simp)⟩;{rw[o _ (b m (by rw[u];simp))];exact u};{exact p m _ (by rw[u];simp) (by rw[u];simp) (by rw[u];simp) P};{rw[o _ (b s0 (by rw[Q];simp))];exact Q};{exact p s0 _ (by rw[Q];simp) (by rw[Q];simp) (by rw[Q];simp) T};intro s' R' EK;by_cases A:s'=s;{subst A;have L:s'<O S:=(ak.1 B).1;rw[fe L] at EK;cases EK;refine⟨_,W,.inr ⟨k,cs.set (2*f+1) (.af (O H.bx) κ.e (O l') κ.sz),by simp,?_,?_,by simpa using Y,?_⟩⟩;{rw[o _ (b k (by rw[w];simp))];exact w};{rw[fe (by simp;omega)]};intro F a' l'' vo;have M:f<O R:=(ak.1 C).1;by_cases g:F=f;{subst g;rw[fe M] at vo;cases vo;refine⟨by rw[bH (by omega)];exact e1,_,fe (by omega),.row _ _ ?_ E,λi t=>?_⟩;{show((bx++[κ.enc l']).set k _)[O H.bx]? =_;rw[bH (by omega),<-v];simp};(have :i=O H.bx:=by simpa[aT] using t);rw[this,y]};rw[bH (Ne.symm g)] at vo;obtain⟨g1,d2,g2,g3,g4⟩:=w6 F a' l'' vo;refine⟨by rw[bH (by omega)];exact g1,d2,by rw[bH (by omega)];exact g2,?_,λi t=>?_⟩;{cases g3 with|aj=>exact .aj|bW=>exact .bW|row i l3 hb N=>have t:=g4 i (by simp[aT]);refine .row i _ (p i _ (by rw[t];simp) (by rw[t];simp) (by rw[t];simp[g]) hb) N};have QT:=g4 i t;rw[o _ (b i (by rw[QT];simp))];exact QT};rw[bH (Ne.symm A)] at EK;obtain⟨d,u1,u2⟩:=V s' R' EK;refine⟨d,u1,u2.other λj c=>⟨?_,λcA z=>?_⟩⟩;{rcases c with h |⟨F,h⟩;{rw[o _ (b j (by rw[h];simp))]};rw[o _ (b j (by rw[h];simp))]};rcases c with h |⟨F,h⟩;{exact p j _ (by rw[h];simp) (by rw[h];simp[A]) (by rw[h];simp) z};exact p j _ (by rw[h];simp) (by rw[h];simp) (by rw[h];simp[A]) z
end
section
variable{α:Type}{κ:Kd α}
variable{H H2 Hs:Hp}{cs pre pst:List D}{ids:List Nat}{i j m:Nat}{ah:Nat->cE}
theorem Bb(h:i∈ids)(c:H.bx[i]? =Z cs):(oZ H ids).bx[dx ids i]? =Z (D.bC (dx ids) cs):=by unfold oZ;simp only;rw[cC,vw h];simp[dP,c]
theorem x8(g:Nat->Nat):∀(ps:List PD),D.bC g (ps.map .p)=ps.map .p|[]=>rfl|p::ps=>by simp[D.bC,D.mv,x8 g ps]
theorem x9{g:Nat->Nat}{d:D}(h:cs[j]? =Z d):(D.bC g cs)[j]? =Z (d.mv g):=by rw[rC,cC,h];rfl
theorem sZ{d:D}(h:cs[j]? =Z d):∀x∈d.refs,x∈D.aq cs:=by induction cs generalizing j with|nil=>simp at h|cons c cs i=>intro x H;simp only[D.aq,cu];cases j with|zero=>cases h;exact .inl H|succ j=>exact .inr (i (by simpa using h) x H)
theorem QU(g:Nat->Nat)(pre:List D)(d:D)(pst:List D):D.bC g (pre++d::pst)=D.bC g pre++d.mv g::D.bC g pst:=by simp[rC]
theorem QV{d:D}{x:Nat}(h:x∈d.refs):x∈D.aq (pre++d::pst):=sZ (j:=O pre) (by simp) x h
def vx(ah:Nat->cE)(ids:List Nat)(j:Nat):cE:=if j<O ids then ah (ids.getD j 0) else .none
theorem vy(h:i∈ids):vx ah ids (dx ids i)=ah i:=by obtain⟨H,a⟩:=ak.1 (vw h);simp[vx,H,dP,a]
theorem cy.sub{d:D}{l:List α}(r:cy κ H d l)(h:∀i∈aT d,i∈ids):cy κ (oZ H ids) (d.mv (dx ids)) l/\∀j∈aT (d.mv (dx ids)),∃i∈aT d,j=dx ids i:=by cases r with|aj=>exact⟨.aj,λj a=>by cases a⟩|bW=>exact⟨.bW,λj a=>by cases a⟩|row i l b n=>have c:=h i (by simp[aT]);refine⟨.row _ _ (by rw[Bb c b,κ.mv]) n,λj a=>⟨i,by simp[aT],?_⟩⟩;simpa[D.mv,aT] using a
theorem Km{d:D}:∀i∈aT d,i∈d.refs:=by intro i h;cases d<;>simp_all[aT,D.refs]
theorem ko.sub{S:List (List (Int×List α))}(r:ko κ H ah m pre pst S)(c:p6 H ids)(e:m∈ids): ko κ (oZ H ids) (vx ah ids) (dx ids m) (D.bC (dx ids) pre) (D.bC (dx ids) pst) S:=by obtain⟨p,t,n,u⟩:=r;refine⟨by rw[vy e];exact p,t.mv (dx ids),by rw[Bb e n,QU],?_⟩;rcases u with⟨rfl,rfl⟩ |⟨b,v,rfl,x,Q,y,z⟩;{exact .inl ⟨rfl,rfl⟩};have I:b∈ids:=c m e _ n b (QV (by simp[D.refs]));refine .inr ⟨dx ids b,D.bC (dx ids) v,rfl,by rw[vy I];exact x,Bb I Q,by rw[rC,bL];exact y,λs R A=>?_⟩;obtain⟨d,w,B⟩:=z s R A;refine⟨_,x9 w,?_⟩;rcases B with⟨rfl,rfl⟩ |⟨k,C,rfl,F,W,G,J⟩;{exact .inl ⟨rfl,rfl⟩};have g:k∈ids:=c b I _ Q k (sZ w k (by simp[D.refs]));refine .inr ⟨dx ids k,D.bC (dx ids) C,rfl,by rw[vy g];exact F,Bb g W,by rw[rC,bL];exact G,λf a l K=>?_⟩;obtain⟨L,M,E,N,O⟩:=J f a l K;have o:∀i∈aT M,i∈ids:=λi h=>c k g _ W i (sZ E i (Km i h));obtain⟨P,T⟩:=N.sub o;refine⟨x9 L,_,x9 E,P,λj U=>?_⟩;obtain⟨i,h,rfl⟩:=T j U;rw[vy (o i h)];exact O i h
theorem cy.map{g:Nat->Nat}(h:∀(i:Nat) cs,H.bx[i]? =Z cs->H2.bx[g i]? =Z (D.bC g cs)){d:D}{l:List α}(r:cy κ H d l):cy κ H2 (d.mv g) l/\∀j∈aT (d.mv g),∃i∈aT d,j=g i/\∃cs,H.bx[i]? =Z cs:=by cases r with|aj=>exact⟨.aj,λj a=>by cases a⟩|bW=>exact⟨.bW,λj a=>by cases a⟩|row i l b n=>refine⟨.row _ _ (by rw[h i _ b,κ.mv]) n,λj a=>⟨i,by simp[aT],?_,_,b⟩⟩;simpa[D.mv,aT] using a
theorem ko.map{g:Nat->Nat}{lab2:Nat->cE}(h:∀(i:Nat) cs,H.bx[i]? =Z cs->H2.bx[g i]? =Z (D.bC g cs))(b:∀(i:Nat) cs,H.bx[i]? =Z cs->lab2 (g i)=ah i){S:List (List (Int×List α))}(r:ko κ H ah m pre pst S): ko κ H2 lab2 (g m) (D.bC g pre) (D.bC g pst) S:=by obtain⟨o,p,n,t⟩:=r;refine⟨by rw[b m _ n];exact o,p.mv g,by rw[h m _ n,QU],?_⟩;rcases t with⟨rfl,rfl⟩ |⟨e,u,rfl,v,Q,x,y⟩;{exact .inl ⟨rfl,rfl⟩};refine .inr ⟨g e,D.bC g u,rfl,by rw[b e _ Q];exact v,h e _ Q,by rw[rC,bL];exact x,λs R z=>?_⟩;obtain⟨d,W,A⟩:=y s R z;refine⟨_,x9 W,?_⟩;rcases A with⟨rfl,rfl⟩ |⟨k,cs,rfl,B,w,C,E⟩;{exact .inl ⟨rfl,rfl⟩};refine .inr ⟨g k,D.bC g cs,rfl,by rw[b k _ w];exact B,h k _ w,by rw[rC,bL];exact C,λf a l F=>?_⟩;obtain⟨G,T,I,J,K⟩:=E f a l F;obtain⟨L,M⟩:=J.map h;refine⟨x9 G,_,x9 I,L,λj N=>?_⟩;obtain⟨i,O,rfl,P,c⟩:=M j N;rw[b i _ c];exact K i O
theorem abX(n:ids.Nodup)(h:j<O ids):dx ids ids[j]=j:=by have H:=vw (br h);have a:ids[j]? =Z ids[j]:=aw h;exact(List.getElem?_inj h n |>.1 (a.trans H.symm)).symm
def lK(H:Hp)(ids:List Nat)(Hs:Hp):Hp:=⟨bP H.bx ids ((Hs.bx.take (O ids)).map (D.bC (dk ids (O H.bx))))++(Hs.bx.drop (O ids)).map (D.bC (dk ids (O H.bx))),H.tk⟩
theorem EL(n:ids.Nodup)(v:∀x∈ids,x<O H.bx)(a:O ids<=O Hs.bx)(c:Hs.bx[j]? =Z cs): (lK H ids Hs).bx[dk ids (O H.bx) j]? =Z (D.bC (dk ids (O H.bx)) cs):=by obtain⟨b,h⟩:=ak.1 c;unfold lK;simp only;by_cases l:j<O ids;{(have ho:dk ids (O H.bx) j=ids[j]:=by simp[dk,l]);have m:ids[j]<O H.bx:=v _ (br l);rw[bF (by rw[kf,ho];exact m),ho];rw[Ac ids _ _ j ids[j] n (aw l) m (by simp;omega)];rw[cC,jF,if_pos l,c];rfl};(have ho:dk ids (O H.bx) j=O H.bx+(j-O ids):=by simp[dk,l]);rw[dO (by rw[kf,ho];omega),kf,ho,cC,lT];(have :O ids+(O H.bx+(j-O ids)-O H.bx)=j:=by omega);rw[this,c];rfl
def EM(ah:Nat->cE)(ids:List Nat)(N x:Nat):cE:=if x<N then(if x∈ids then ah (dx ids x) else .none) else ah (O ids+(x-N))
theorem abY{N:Nat}(n:ids.Nodup)(v:∀x∈ids,x<N):EM ah ids N (dk ids N j)=ah j:=by by_cases l:j<O ids;{(have ho:dk ids N j=ids[j]:=by simp[dk,l]);have m:ids[j]<N:=v _ (br l);rw[ho];simp[EM,m,abX n l]};(have ho:dk ids N j=N+(j-O ids):=by simp[dk,l]);rw[ho];(have :O ids+(N+(j-O ids)-N)=j:=by omega);simp only[EM];rw[if_neg (by omega),this]
theorem ko.out(n:ids.Nodup)(v:∀x∈ids,x<O H.bx)(l:O ids<=O Hs.bx){S:List (List (Int×List α))}(r:ko κ Hs ah m pre pst S): ko κ (lK H ids Hs) (EM ah ids (O H.bx)) (dk ids (O H.bx) m) (D.bC (dk ids (O H.bx)) pre) (D.bC (dk ids (O H.bx)) pst) S:=r.map (λ_ _ h=>EL n v l h) λ_ _ _=>abY n v
end
section
variable{α:Type}{κ:Kd α}
structure Wg (κ:Kd α) (H:Hp) (ah:Nat->cE) (m:Nat) (pre pst:List D) (fx:List (Nat×List D)) (S:List (List (Int×List α))):Prop where
 mod:ko κ H ah m pre pst S
 at_:∀x∈fx,H.bx[x.1]? =Z x.2
 al:∀x∈fx,∃n,ah x.1= .EI n
 rf:∀(i:Nat) cs,H.bx[i]? =Z cs->∀x∈D.aq cs,ah x≠.none
 tk:∀(i:Nat) cs,H.bx[i]? =Z cs->D.aJ cs=[]
 fr:∀j,O H.bx<=j->ah j= .none
variable{H:Hp}{ah:Nat->cE}{m:Nat}{pre pst:List D}{fx:List (Nat × List D)}{S:List (List (Int × List α))}
theorem Wg.lt(w:Wg κ H ah m pre pst fx S){x:Nat}(h:ah x≠.none):x<O H.bx:=by refine mM λn=>h (w.fr x (by omega))
theorem Wg.ok(w:Wg κ H ah m pre pst fx S):H.Ok:=λi c h x a=>w.lt (w.rf i c h x a)
theorem Wg.an(w:Wg κ H ah m pre pst fx S){x:Nat×List D}(h:x∈fx):ah x.1≠.none:=by obtain⟨n,a⟩:=w.al x h;rw[a];simp
theorem Wg.mn(w:Wg κ H ah m pre pst fx S):ah m≠.none:=by rw[w.mod.1];simp
theorem Wg.snoc(w:Wg κ H ah m pre pst fx S)(cs:List D)(r:∀x∈D.aq cs,ah x≠.none)(t:D.aJ cs=[])(tk:List Nat):Wg κ ⟨H.bx++[cs],tk⟩ ah m pre pst fx S:=by
 have c:∀(i:Nat) d,H.bx[i]? =Z d->(H.bx++[cs])[i]? =Z d:=λi d h=>by rw[bF (ak.1 h).1,h]
 have y:∀(i:Nat) d,(H.bx++[cs])[i]? =Z d->H.bx[i]? =Z d\/d=cs:=λi d h=>by rcases dI i (O H.bx) with l |l;{rw[bF l] at h;exact .inl h};rw[dO l] at h;have:=bK h;exact .inr (by simpa using this)
 refine⟨w.mod.ext c,λx h=>c _ _ (w.at_ x h),w.al,λi d b x a=>?_,λi d b=>?_,λj e=>w.fr j (by simp at e;omega)⟩;{rcases y i d b with h |rfl;{exact w.rf i d h x a};exact r x a};rcases y i d b with h |rfl;{exact w.tk i d h};exact t
variable{cs:List D}{j:Nat}
theorem abZ{d:D}:∀x∈D.aq (cs.set j d),x∈D.aq cs\/x∈d.refs:=by induction cs generalizing j with|nil=>intro x H;exact .inl H|cons a cs i=>intro x H;cases j with|zero=>simp only[M0,D.aq,cu] at H|-;rcases H with h |h;{exact .inr h};exact .inl (.inr h)|succ j=>simp only[M1,D.aq,cu] at H|-;rcases H with h |h;{exact .inl (.inl h)};rcases i x h with h |h;{exact .inl (.inr h)};exact .inr h
theorem ab0{d:D}(h:D.aJ cs=[])(H:d.bh=[]):D.aJ (cs.set j d)=[]:=by induction cs generalizing j with|nil=>exact h|cons a cs i=>simp only[D.aJ,sf] at h;cases j with|zero=>simp[D.aJ,H,h.2]|succ j=>simp[D.aJ,h.1,i h.2]
theorem Wg.ins(w:Wg κ H ah m pre pst fx S){s f:Nat}{R:List (Int×List α)}{a:Int}{l l':List α}(A:S[s]? =Z R)(C:R[f]? =Z (a,l))(r:l'≠[]): ∃s0 ds k cs d',H.bx[m]? =Z (pre++ .af s0 κ.st (O S) 1::pst)/\H.bx[s0]? =Z ds/\O ds=O S/\ds[s]? =Z (.af k κ.rt (O R) 2)/\k<O H.bx/\H.bx[k]? =Z cs/\O cs=O R*2/\cs[2*f+1]? =Z d'/\cy κ H d' l/\k∉aT d'/\(∀i∈aT d',i<O H.bx)/\ ∀(bx:List (List D)) (tk:List Nat),O bx=O H.bx->(∀j,j∉aT d'->bx[j]? =H.bx[j]?)->(∀(j:Nat) ds,bx[j]? =Z ds->H.bx[j]? =Z ds\/ds=[])-> ∃dE,Wg κ ⟨(bx++[κ.enc l']).set k (cs.set (2*f+1) (.af (O H.bx) κ.e (O l') κ.sz)),tk⟩ dE m pre pst fx (S.set s (R.set f (a,l')))/\∀j,j≠O H.bx->dE j=ah j:=by
 obtain⟨s0,ds,k,cs,d',E,F,G,I,J,p,K,L,y,M,t⟩:=w.mod.ins A C r;have u:k<O H.bx:=(ak.1 p).1;refine⟨s0,ds,k,cs,d',E,F,G,I,u,p,K,L,y,M,λi d=>?_,λbx tk B N P=>?_⟩;{cases y with|aj=>cases d|bW=>cases d|row T l U g=>(have :i=T:=by simpa[aT] using d);subst this;exact(ak.1 U).1};obtain⟨dE,V,Q,W,X⟩:=t bx tk B N (w.fr _ (aS _));have g:∀j,ah j≠.none->dE j=ah j:=λj o=>Q j λh=>o (by rw[h];exact w.fr _ (aS _));have c:∀j,ah j≠.none->dE j≠.none:=λj o=>by rw[g j o];exact o
 have z:∀(i:Nat) e,((bx++[κ.enc l']).set k (cs.set (2*f+1) (.af (O H.bx) κ.e (O l') κ.sz)))[i]? =Z e->e=cs.set (2*f+1) (.af (O H.bx) κ.e (O l') κ.sz)\/e=κ.enc l'\/e=[]\/H.bx[i]? =Z e:=by intro i e h;rw[qv] at h;split at h;{split at h;{cases h;exact .inl rfl};cases h};rcases dI i (O bx) with v |v;{rw[bF v] at h;rcases P i e h with h |h;{exact .inr (.inr (.inr h))};exact .inr (.inr (.inl h))};rw[dO v] at h;have:=bK h;exact .inr (.inl (by simpa using this))
 refine⟨dE,⟨V,λx b=>?_,λx b=>?_,λi e d x b=>?_,λi e d=>?_,λj o=>?_⟩,Q⟩;{obtain⟨n,hn⟩:=w.al x b;exact X _ _ _ hn (w.at_ x b)};{obtain⟨n,hn⟩:=w.al x b;exact⟨n,by rw[g _ (w.an b)];exact hn⟩};{rcases z i e d with rfl |rfl |rfl |h;{rcases abZ x b with h |h;{exact c x (w.rf k cs p x h)};(have :x=O H.bx:=by simpa[D.refs] using h);rw[this];exact W};{rw[κ.refs] at b;cases b};{cases b};exact c x (w.rf i e h x b)};{rcases z i e d with rfl |rfl |rfl |h;{exact ab0 (w.tk k cs p) rfl};{exact κ.bh l'};{rfl};exact w.tk i e h};simp[B] at o;rw[Q j (by omega)];exact w.fr j (by omega)
theorem Wg.take(w:Wg κ H ah m pre pst fx S){n:Nat}(hn:n<=O H.bx)(e:∀i,i<n->∀cs,H.bx[i]? =Z cs->∀x∈D.aq cs,x<n)(v:m<n)(A:∀x∈fx,x.1<n)(tk:List Nat): ∃dE,Wg κ ⟨H.bx.take n,tk⟩ dE m pre pst fx S/\∀j,j<n->dE j=ah j:=by
 obtain⟨dE,L,K⟩:∃dE:Nat->cE,(∀j,j<n->dE j=ah j)/\∀j,n<=j->dE j= .none:=⟨λj=>if j<n then ah j else .none,λj o=>by simp[o],λj o=>by simp;intro h;omega⟩;have g:∀i,i<n->∀cs,H.bx[i]? =Z cs->(H.bx.take n)[i]? =Z cs:=λi b cs h=>by rw[jF,if_pos b,h]
 have p:∀(i:Nat) cs,(H.bx.take n)[i]? =Z cs->i<n/\H.bx[i]? =Z cs:=λi cs h=>by rw[jF] at h;split at h;{rename_i b;exact⟨b,h⟩};cases h
 have r:∀{d:D} {l:List α},cy κ H d l->(∀i∈aT d,i<n)->cy κ ⟨H.bx.take n,tk⟩ d l:=λh t=>by cases h with|aj=>exact .aj|bW=>exact .bW|row i l p y=>exact .row i _ (g i (t i (by simp[aT])) _ p) y
 obtain⟨N,P,B,M⟩:=w.mod;refine⟨dE,⟨⟨(L _ v).trans N,P,g m v _ B,?_⟩,λx h=>g _ (A x h) _ (w.at_ x h),λx h=>?_,λi cs b x c=>?_,λi cs b=>w.tk i cs (p i cs b).2,λj o=>?_⟩,L⟩;{rcases M with M |⟨u,T,rfl,U,Q,V,X⟩;{exact .inl M};have I:u<n:=e m v _ B u (QV (by simp[D.refs]));refine .inr ⟨u,T,rfl,(L _ I).trans U,g _ I _ Q,V,λs R Y=>?_⟩;obtain⟨d,C,W⟩:=X s R Y;refine⟨d,C,?_⟩;rcases W with W |⟨k,cs,rfl,w3,E,w5,w6⟩;{exact .inl W};have z:k<n:=e u I _ Q k (sZ C k (by simp[D.refs]));refine .inr ⟨k,cs,rfl,(L _ z).trans w3,g _ z _ E,w5,λf a l hf=>?_⟩;obtain⟨e1,F,G,e3,e4⟩:=w6 f a l hf;have J:∀i∈aT F,i<n:=λi b=>e k z _ E i (sZ G i (Km i b));exact⟨e1,F,G,r e3 J,λi b=>(L _ (J i b)).trans (e4 i b)⟩};{obtain⟨n',wZ⟩:=w.al x h;exact⟨n',(L _ (A x h)).trans wZ⟩};{obtain⟨h1,t⟩:=p i cs b;have:=e i h1 cs t x c;rw[L _ this];exact w.rf i cs t x c};exact K j (by simp at o;omega)
end
section
variable{α:Type}{κ:Kd α}{H:Hp}{ah:Nat->cE}{m:Nat}{pre pst:List D}{fx:List (Nat × List D)}{S:List (List (Int × List α))}
def p7(g:Nat->Nat)(fx:List (Nat×List D)):List (Nat×List D):=fx.map λx=>(g x.1,D.bC g x.2)
variable{ids:List Nat}
theorem Wg.sub(w:Wg κ H ah m pre pst fx S)(g:p6 H ids)(v:∀x∈ids,x<O H.bx)(e:m∈ids)(d:∀x∈fx,x.1∈ids): Wg κ (oZ H ids) (vx ah ids) (dx ids m) (D.bC (dx ids) pre) (D.bC (dx ids) pst) (p7 (dx ids) fx) S:=by (have k:∀(i:Nat) s,(oZ H ids).bx[i]? =Z s->∃I∈ids,∃c,H.bx[I]? =Z c/\s=D.bC (dx ids) c:=by intro i s b;unfold oZ at b;simp only[cC] at b;obtain⟨j,f,rfl⟩:=au.1 b;have e:j∈ids:=bK f;refine⟨j,e,_,?_,rfl⟩;simp[dP,v j e]);refine⟨w.mod.sub g e,λx h=>?_,λx h=>?_,λi s b x d=>?_,λi s b=>?_,λj f=>?_⟩;{obtain⟨y,a,rfl⟩:=cv.1 h;exact Bb (d y a) (w.at_ y a)};{obtain⟨y,a,rfl⟩:=cv.1 h;obtain⟨n,l⟩:=w.al y a;exact⟨n,by rw[vy (d y a)];exact l⟩};{obtain⟨I,h1,c,h2,rfl⟩:=k i s b;rw[rE] at d;obtain⟨y,a,rfl⟩:=cv.1 d;rw[vy (g I h1 _ h2 y a)];exact w.rf I c h2 y a};{obtain⟨I,h1,c,h2,rfl⟩:=k i s b;rw[rF];exact w.tk I c h2};unfold vx;rw[if_neg];unfold oZ at f;simp at f;omega
theorem Kn{N:Nat}{cs:List D}(h:∀r∈D.aq cs,r∈ids):D.bC (dk ids N) (D.bC (dx ids) cs)=cs:=by rw[rC,rC,lV];(conv=>rhs;rw[<-List.map_id cs]);refine nI λd H=>?_;obtain⟨j,a⟩:=c8 H;exact Kl d λr b=>QL (h r (sZ a r b))
theorem Wg.out(w:Wg κ H ah m pre pst fx S)(L:ids.Nodup)(E:p6 H ids)(J:∀x∈ids,x<O H.bx)(F:m∈ids)(v:∀x∈fx,x.1∈ids){s:Hp}{l:Nat->cE}{S':List (List (Int×List α))} (W:Wg κ s l (dx ids m) (D.bC (dx ids) pre) (D.bC (dx ids) pst) (p7 (dx ids) fx) S') (M:O ids<=O s.bx) (hk:∀j,j<O ids->l j=vx ah ids j): ∃lab2,Wg κ (lK H ids s) lab2 m pre pst fx S'/\(∀j,j<O H.bx->lab2 j=ah j)/\(∀j,j∉ids->j<O H.bx->(lK H ids s).bx[j]? =H.bx[j]?):=by
 obtain⟨lab2,N,U⟩:∃lab2:Nat->cE,(∀j,j<O H.bx->lab2 j=ah j)/\∀j,O H.bx<=j->lab2 j=l (O ids+(j-O H.bx)):=⟨λj=>if j<O H.bx then ah j else l (O ids+(j-O H.bx)),λj G=>by simp[G],λj G=>by simp;intro h;omega⟩;obtain⟨sd,k⟩:=(fun(h:ko κ H ah m pre pst S)=>h.2) w.mod;have P:∀r∈D.aq pre,r∈ids:=λr o=>E m F _ k.1 r (by (obtain⟨i,a⟩:∃(i:Nat),∃d,pre[i]? =Z d/\r∈d.refs:=by clear k w W E F;induction pre with|nil=>cases o|cons d ds Q=>simp only[D.aq,cu] at o;rcases o with h |h;{exact⟨0,d,rfl,h⟩};obtain⟨i,e,b,f⟩:=Q h;exact⟨i+1,e,by simpa using b,f⟩);obtain⟨d,b,f⟩:=a;exact sZ (j:=i) (by rw[bF (ak.1 b).1];exact b) r f);have R:∀r∈D.aq pst,r∈ids:=λr o=>E m F _ k.1 r (by (obtain⟨i,a⟩:∃(i:Nat),∃d,pst[i]? =Z d/\r∈d.refs:=by clear k w W E F;induction pst with|nil=>cases o|cons d ds Q=>simp only[D.aq,cu] at o;rcases o with h |h;{exact⟨0,d,rfl,h⟩};obtain⟨i,e,b,f⟩:=Q h;exact⟨i+1,e,by simpa using b,f⟩);obtain⟨d,b,f⟩:=a;exact sZ (j:=O pre+1+i) (by rw[dO (by omega),show O pre+1+i-O pre=i+1 by omega];simpa using b) r f);have z:∀j,lab2 (dk ids (O H.bx) j)=l j:=λj=>by by_cases t:j<O ids;{(have z:dk ids (O H.bx) j=ids[j]:=by simp[dk,t]);have T:ids[j]<O H.bx:=J _ (br t);rw[z,N _ T,hk j t];simp[vx,t]};(have z:dk ids (O H.bx) j=O H.bx+(j-O ids):=by simp[dk,t]);rw[z,U _ (by omega)];congr 1;omega
 have K:∀{i},i∈ids->dk ids (O H.bx) (dx ids i)=i:=λh=>QL h;have I:∀j,j∉ids->j<O H.bx->(lK H ids s).bx[j]? =H.bx[j]?:=λj b f=>by unfold lK;simp only;rw[bF (by rw[kf];exact f),uN _ _ _ _ b]
 have V:∀(i:Nat) C,(lK H ids s).bx[i]? =Z C->(i<O H.bx/\H.bx[i]? =Z C)\/∃j c,s.bx[j]? =Z c/\C=D.bC (dk ids (O H.bx)) c:=λi C a=>by by_cases A:i∈ids;{have b:=vw A;obtain⟨f,B⟩:=ak.1 b;have X:s.bx[dx ids i]? =Z s.bx[dx ids i]:=aw (by omega);have Y:=EL L J M X;rw[K A,a] at Y;exact .inr ⟨_,_,X,by cases Y;rfl⟩};by_cases t:i<O H.bx;{rw[I i A t] at a;exact .inl ⟨t,a⟩};unfold lK at a;simp only at a;rw[dO (by rw[kf];omega),kf,cC] at a;obtain⟨c,b,rfl⟩:=au.1 a;rw[lT] at b;exact .inr ⟨_,c,b,rfl⟩
 have p:O (lK H ids s).bx=O H.bx+(O s.bx-O ids):=by unfold lK;simp[kf]
 have u:=W.mod.map (H2:=lK H ids s) (g:=dk ids (O H.bx)) (lab2:=lab2) (λ_ _ h=>EL L J M h) λi _ _=>z i;rw[Kn P,Kn R,K F] at u;refine⟨lab2,⟨u,λx h=>?_,λx h=>?_,λi C a x v=>?_,λi C a=>?_,λj G=>?_⟩,N,I⟩;{have f:=W.at_ (dx ids x.1,D.bC (dx ids) x.2) (cv.2 ⟨x,h,rfl⟩);have B:=EL L J M f;dsimp only at B;rw[K (v x h),Kn λr o=>E _ (v x h) _ (w.at_ x h) r o] at B;exact B};{obtain⟨n,f⟩:=W.al (dx ids x.1,D.bC (dx ids) x.2) (cv.2 ⟨x,h,rfl⟩);have B:=z (dx ids x.1);rw[K (v x h)] at B;exact⟨n,B.trans f⟩};{rcases V i C a with⟨_,h⟩ |⟨j,c,h,rfl⟩;{have:=w.rf i C h x v;rw[N x (w.lt this)];exact this};rw[rE] at v;obtain⟨y,hy,rfl⟩:=cv.1 v;rw[z];exact W.rf j c h y hy};{rcases V i C a with⟨_,h⟩ |⟨j,c,h,rfl⟩;{exact w.tk i C h};rw[rF];exact W.tk j c h};rw[U j (by rw[p] at G;omega)];exact W.fr _ (by rw[p] at G;omega)
theorem Wg.call{c:bt}(w:Wg κ H ah m pre pst fx S){f:Nat}{args:List D}{S':List (List (Int×List α))}{K:Nat}(Y:D.aJ args=[])(W:∀x∈D.aq args,ah x≠.none)(p:m∈D.aq args) (F:∀ids,p6 H ids->(∀x∈D.aq args,x∈ids)->∀x∈fx,x.1∈ids) (h:∀(g:Nat->Nat) (H':Hp) (l:Nat->cE),Wg κ H' l (g m) (D.bC g pre) (D.bC g pst) (p7 g fx) S->(∀x∈D.aq args,l (g x)=ah x)->O H'.bx<=O H.bx->H'.tk=[]-> ∃Hs s,c f (D.bC g args) H'=Z (.val .undef,Hs)/\Wg κ Hs s (g m) (D.bC g pre) (D.bC g pst) (p7 g fx) S'/\O H'.bx<=O Hs.bx/\O Hs.bx<=O H'.bx+K/\∀j,j<O H'.bx->s j=l j): ∃H2 lab2,ag c f args H=Z (.val .undef,H2)/\Wg κ H2 lab2 m pre pst fx S'/\H2.tk=H.tk/\O H.bx<=O H2.bx/\O H2.bx<=O H.bx+K/\(∀j,j<O H.bx->lab2 j=ah j)/\∀j,j<O H.bx->ah j= .none->H2.bx[j]? =H.bx[j]?:=by obtain⟨ids,G,I,J,A,i5,i6⟩:=QP (c:=c) (f:=f) (args:=args) w.ok Y w.tk λx b=>w.lt (W x b);have p:=J m p;have b:=F ids A J;have ws:=w.sub A I p b;(have r:O (oZ H ids).bx=O ids:=by unfold oZ;simp);obtain⟨Hs,s,h1,B,E,hK,L⟩:=h (dx ids) _ _ ws (λx b=>vy (J x b)) (by rw[r];exact Kg _ _ G I) rfl;rw[r] at E L hK;have t:=i5 (λx=>ah x≠.none) W λi C _ u x b=>w.rf i C u x b;have n:∀j,ah j= .none->j∉ids:=λj d M=>t j M d;obtain⟨k,N,a⟩:=i6 _ _ h1 E B.ok (λC o=>by obtain⟨i,u⟩:=c8 o;exact B.tk i C u) (by simp[D.refs]) rfl;rcases N with⟨rfl,-,N⟩ |rfl;{(have hr:∀i,i<O ids->∀C,Hs.bx[i]? =Z C->∀x∈D.aq C,x<O ids:=λi u C o=>by refine N C ?_;(have :(Hs.bx.take (O ids))[i]? =Z C:=by rw[jF,if_pos u,o]);exact bK this);have P:=(ak.1 (vw p)).1;obtain⟨X,t1,t2⟩:=B.take E hr P (λx Q=>by obtain⟨y,hy,rfl⟩:=cv.1 Q;exact(ak.1 (vw (b y hy))).1) [];(have R:(Hs.bx.take (O ids)).length=O ids:=by simp;omega);obtain⟨lab2,v,T,z⟩:=w.out G A I p b t1 (by rw[R];exact aS _) λj d=>(t2 j d).trans (L j d);(have e:lK H ids ⟨Hs.bx.take (O ids),[]⟩=⟨bP H.bx ids ((Hs.bx.take (O ids)).map (D.bC (dk ids (O H.bx))))++((Hs.bx.drop (O ids)).map (D.bC (dk ids (O H.bx)))).take 0,H.tk⟩:=by unfold lK;simp only[Wz,Nat.min_self,oA];have U:(Hs.bx.take (O ids)).drop (O ids)=[]:=Hh (List.length_take_le _ _);rw[U];rfl);rw[e] at v z;refine⟨_,lab2,a,v,rfl,?_,?_,T,λj d V=>z j (n j V) d⟩;{simp[kf]};simp[kf];try omega};obtain⟨lab2,v,T,z⟩:=w.out G A I p b B E L;(have e:lK H ids Hs=⟨bP H.bx ids ((Hs.bx.take (O ids)).map (D.bC (dk ids (O H.bx))))++((Hs.bx.drop (O ids)).map (D.bC (dk ids (O H.bx)))).take (O Hs.bx-O ids),H.tk⟩:=by have U:((Hs.bx.drop (O ids)).map (D.bC (dk ids (O H.bx)))).take (O Hs.bx-O ids)=(Hs.bx.drop (O ids)).map (D.bC (dk ids (O H.bx))):=fg (by simp);rw[U];rfl);rw[e] at v z;refine⟨_,lab2,a,v,rfl,?_,?_,T,λj d V=>z j (n j V) d⟩;{simp[kf]};simp[kf];try omega
end
section
variable{α:Type}{κ:Kd α}
theorem Wg.loc{H:Hp}{b:Nat->cE}{m:Nat}{pre pst:List D}{fx:List (Nat×List D)}{S:List (List (Int×List α))}(w:Wg κ H b m pre pst fx S){nb:Nat}(n:nb<=O H.bx)(B:∀x∈fx,x.1<nb)(C:m<nb)(t:H.tk=[])(o:Out)(F:∀f g,o.ren f g=Z o): ∃a l,(∀e,∃E,cx nb 0 (o,⟨e,H⟩)=(o,⟨E,a⟩)/\(E=e\/E=e.map λy=>(y.1,(y.2.ren (below nb) (below 0)).getD .dead)))/\Wg κ a l m pre pst fx S/\a.tk=[]/\nb<=O a.bx/\O a.bx<=O H.bx/\(∀j,j<nb->l j=b j)/\∀j,j<nb->a.bx[j]? =H.bx[j]?:=by unfold cx;dsimp only;simp only[if_pos (show nb<=O H.bx/\0<=O H.tk from⟨n,bA _⟩),F];cases d:aF (D.aR (below nb) (below 0)) (H.bx.take nb) with|none=>exact⟨H,b,λe=>⟨e,rfl,.inl rfl⟩,w,t,n,aS _,λ_ _=>rfl,λ_ _=>rfl⟩|some bx=>(have G:∀r j,below nb r=Z j->j=id r:=λr j h=>by unfold below at h;split at h;{cases h;rfl};cases h);(have I:∀c∈H.bx.take nb,D.aJ c=[]:=λc s=>by obtain⟨i,v⟩:=c8 (gP s);exact w.tk i c v);have J:=Kj G _ bx I d;have z:∀c:List D,D.bC id c=c:=sY;(have K:bx=H.bx.take nb:=by rw[J];exact(nI λc _=>z c).trans (List.map_id _));subst K;have k:=EH _ _ d;(have L:∀i,i<nb->∀c,H.bx[i]? =Z c->∀x∈D.aq c,x<nb:=λi v c s x A=>by have p:c∈H.bx.take nb:=bK (i:=i) (by rw[jF,if_pos v,s]);obtain⟨j,u⟩:=k c p x A;unfold below at u;split at u;{assumption};cases u);obtain⟨l,t1,t2⟩:=w.take n L C B [];refine⟨⟨H.bx.take nb,H.tk.take 0⟩,l,λe=>⟨_,rfl,.inr rfl⟩,by simpa[t] using t1,by simp,by simp;omega,by simp;omega,t2,λj u=>?_⟩;simp only;rw[jF,if_pos u]
end
section
variable{α:Type}{κ:Kd α}
def jT(ah:Nat->cE)(n:Nat)(L:cE)(j:Nat):cE:=if j=n then L else ah j
theorem EN(l:Nat->cE)(n:Nat)(L:cE):jT l n L n=L:=by simp[jT]
theorem vz(l:Nat->cE){n j:Nat}(L:cE)(h:j≠n):jT l n L j=l j:=by simp[jT,h]
variable{H H':Hp}{a:Int}{i:Nat}{ah dE:Nat->cE}{β:Type}{x:β}
theorem o0{n:Nat} L (H:ah n= .none){j:Nat}(h:ah j≠.none):jT ah n L j=ah j:=vz ah L λe=>h (e▸H)
theorem ku{l:List β}{a:β}(h:(l++[a])[i]? =Z x):(i<O l/\l[i]? =Z x)\/(i=O l/\x=a):=by grind
theorem dy{l:List β}(h:l[i]? =Z x) a:(l++[a])[i]? =Z x:=by grind
theorem jU{l:List β}{a:β}{k:Nat}(h:(l.set k a)[i]? =Z x):(i=k/\x=a)\/(i≠k/\l[i]? =Z x):=by grind
theorem ya:∀(a b:List D),D.aq (a++b)=D.aq a++D.aq b|[],_=>rfl|x::a,b=>by simp[D.aq,ya a b]
theorem Bc:∀(a b:List D),D.aJ (a++b)=D.aJ a++D.aJ b|[],_=>rfl|x::a,b=>by simp[D.aJ,Bc a b]
theorem Ko(a b:D)(r:List D):az (a::b::r)=false:=by cases a<;>rfl
theorem Kp:∀{cs:List D},2<=O cs->az cs=false|[],_=>rfl|[_],h=>by simp at h|x::y::r,_=>Ko x y r
theorem eh.rG{s:Nat}{d:D}{R:List (Int×List α)}(r:eh κ H ah s d R) (h:∀i,ah i≠.none->dE i=ah i) (a:∀i cs,ah i= .state s\/(∃f,ah i= .row s f)->H.bx[i]? =Z cs->H'.bx[i]? =Z cs):eh κ H' dE s d R:=by refine r.other λm b=>⟨h m ?_,λcs=>a m cs b⟩;grind
theorem eh.refs{s:Nat}{d:D}{R:List (Int×List α)}(r:eh κ H ah s d R):∀x∈d.refs,ah x≠.none:=by intro x h;rcases r with⟨rfl,_⟩ |⟨k,c,rfl,a,_⟩;{cases h};(have:=by simpa[D.refs] using h);grind
theorem eh.bh{s:Nat}{d:D}{R:List (Int×List α)}(r:eh κ H ah s d R):d.bh=[]:=by rcases r with⟨rfl,_⟩ |⟨k,c,rfl,_⟩<;>rfl
theorem cy.refs{d:D}{l:List α}(r:cy κ H d l):∀x∈d.refs,x∈aT d:=by intro x h;cases r with|aj=>cases h|bW=>cases h|row i l b n=>simpa[D.refs,aT] using h
theorem cy.one{d:D}{l:List α}(r:cy κ H d l):d.one=true:=by cases r<;>rfl
theorem cy.bh{d:D}{l:List α}(r:cy κ H d l):d.bh=[]:=by cases r<;>rfl
variable{m:Nat}{pre pst:List D}{fx:List (Nat × List D)}{S:List (List (Int × List α))}
theorem Wg.mono(w:Wg κ H ah m pre pst fx S)(e:∀i,ah i≠.none->dE i=ah i) (a:∀i cs,ah i≠.none->ah i≠.state (O S)->H.bx[i]? =Z cs->H'.bx[i]? =Z cs) (rf:∀(i:Nat) cs,H'.bx[i]? =Z cs->∀x∈D.aq cs,dE x≠.none) (tk:∀(i:Nat) cs,H'.bx[i]? =Z cs->D.aJ cs=[]) (fr:∀j,O H'.bx<=j->dE j= .none):Wg κ H' dE m pre pst fx S:=by obtain⟨b,f,g,M⟩:=w.mod;refine⟨⟨?_,f,a _ _ (by rw[b];simp) (by rw[b];simp) g,?_⟩,λx h=>?_,λx h=>?_,rf,tk,fr⟩;{grind};{rcases M with M |⟨k,l,Q,o,p,r,t⟩;{exact .inl M};refine .inr ⟨k,l,Q,by grind,a _ _ (by grind) (by rw[o];simp) p,r,λs R c=>?_⟩;obtain⟨d,W,u⟩:=t s R c;have v:=(ak.1 c).1;refine⟨d,W,u.rG e λi cs y=>?_⟩;grind};{obtain⟨n,hn⟩:=w.al x h;exact a _ _ (by rw[hn];simp) (by rw[hn];simp) (w.at_ x h)};obtain⟨n,hn⟩:=w.al x h;grind
theorem Wg.ab1(w:Wg κ H ah m pre pst fx S) cs (r:∀x∈D.aq cs,ah x≠.none)(t:D.aJ cs=[]) tk L:Wg κ ⟨H.bx++[cs],tk⟩ (jT ah (O H.bx) L) m pre pst fx S:=by have N:=w.fr _ (aS _);(have o:∀x,ah x≠.none->jT ah (O H.bx) L x≠.none:=λx b=>by rw[o0 L N b];exact b);refine w.mono (λi a=>o0 L N a) (by grind) (λi d a x b=>?_) (λi d a=>?_) λj c=>?_;{rcases ku a with⟨_,h⟩ |⟨_,rfl⟩;{exact o x (w.rf i d h x b)};grind};{rcases ku a with⟨_,h⟩ |⟨_,rfl⟩;{exact w.tk i d h};exact t};simp at c;rw[vz ah L (by omega)];exact w.fr j (by omega)
theorem Wg.ab2(w:Wg κ H ah m pre pst fx S){d d':D}{R:List (Int×List α)}{l:List α}(Q:eh κ H ah (O S) d R)(A:cy κ H d' l)(n:∀i∈aT d',ah i= .row (O S) (O R))(T:O R<1000000)(o:R=[]->d= .p .aj): ∃t,cW κ.rt 2 32 d 1 [.p (.int .i64 a),d'] H=Z (.af (O H.bx) κ.rt (O R+1) 2,t)/\t.tk=H.tk/\O t.bx=O H.bx+1/\Wg κ t (jT ah (O H.bx) (.state (O S))) m pre pst fx S/\ eh κ t (jT ah (O H.bx) (.state (O S))) (O S) (.af (O H.bx) κ.rt (O R+1) 2) (R++[(a,l)])/\∀j cs,ah j≠.state (O S)->H.bx[j]? =Z cs->t.bx[j]? =Z cs:=by
 have N:=w.fr _ (aS _);have E:roomy (O R+1) 32=true:=by simp[roomy];omega
 have u:=A.bh;have r:∀x∈d'.refs,ah x≠.none:=λx c=>by rw[n x (A.refs x c)];simp
 have M:∀x,ah x≠.none->jT ah (O H.bx) (.state (O S)) x≠.none:=λx c=>by rw[o0 _ N c];exact c
 have v:=λi b=>w.lt (by rw[n i b];simp);rcases Q with⟨rfl,rfl⟩ |⟨k,cs,rfl,B,F,C,U⟩;{refine⟨⟨H.bx++[[.p (.int .i64 a),d']],H.tk⟩,by simp[cW,gS,show roomy 1 32=true from rfl],rfl,by simp,w.ab1 _ (by simpa[D.aq,D.refs] using r) (by simp[D.aJ,D.bh,u]) _ _,?_,λj cs _ h=>dy h _⟩;refine .inr ⟨O H.bx,[.p (.int .i64 a),d'],rfl,EN _ _ _,by simp,rfl,λf G L g=>?_⟩;(obtain⟨rfl,h⟩:f=0/\(G,L)=(a,l):=by cases f with|zero=>simp at g;exact⟨rfl,by rw[<-g.1,<-g.2]⟩|succ f=>simp at g);cases h;refine⟨rfl,d',rfl,A.other λi b=>?_,λi b=>?_⟩;{exact bF (v i b)};rw[o0 _ N (by rw[n i b];simp)];exact n i b};by_cases qU:R=[];{cases o qU};have Kq:0<O R:=r9.2 qU;(have o:cs≠[]:=λh=>by rw[h] at C;simp at C;omega);have y:az cs=false:=Kp (by omega);(have z:∀i,i≠k->∀s,H.bx[i]? =Z s->(H.bx.set k []++[cs++[.p (.int .i64 a),d']])[i]? =Z s:=λi b s h=>by rw[bF (by simp;exact(ak.1 h).1),bH (Ne.symm b),h]);(have P:∀i s,(H.bx.set k []++[cs++[.p (.int .i64 a),d']])[i]? =Z s->s=[]\/s=cs++[.p (.int .i64 a),d']\/H.bx[i]? =Z s:=λi s h=>by rcases ku h with⟨_,h⟩ |⟨_,rfl⟩;{rcases jU h with⟨_,rfl⟩ |⟨_,h⟩;{exact .inl rfl};exact .inr (.inr h)};exact .inr (.inl rfl));(have I:∀x∈D.aq (cs++[.p (.int .i64 a),d']),ah x≠.none:=λx c=>by rw[ya] at c;rcases cu.1 c with h |h;{exact w.rf k cs F x h};exact r x (by simpa[D.aq,D.refs] using h));refine⟨⟨H.bx.set k []++[cs++[.p (.int .i64 a),d']],H.tk⟩,?_,rfl,by simp,?_,?_,λj s J h=>?_⟩;{(have h6:¬(O R+1)*2<=O cs:=by omega);(have V:O R*2<=O cs:=by omega);have W:cs.take (O R*2)=cs:=fg (by omega);simp[cW,F,y,o,E,h6,V,W]};{refine w.mono (λi b=>o0 _ N b) (λi s X K h=>z i (λe=>K (by rw[e];exact B)) s h) (λi s b x c=>?_) (λi s b=>?_) λj J=>?_;{rcases P i s b with rfl |rfl |h;{cases c};{exact M x (I x c)};exact M x (w.rf i s h x c)};{rcases P i s b with rfl |rfl |h;{rfl};{rw[Bc,w.tk k cs F];simp[D.aJ,D.bh,u]};exact w.tk i s h};simp at J;rw[vz ah _ (by omega)];exact w.fr j (by omega)};{refine .inr ⟨O H.bx,cs++[.p (.int .i64 a),d'],by simp,EN _ _ _,by simp,by simp;omega,λf G L g=>?_⟩;rcases ku g with⟨Y,g⟩ |⟨rfl,h⟩;{obtain⟨e1,d2,e2,e3,e4⟩:=U f G L g;refine⟨by rw[bF (by omega),e1],d2,by rw[bF (by omega),e2],e3.other λi b=>?_,λi b=>?_⟩;{rw[bF (by simpa using (w.lt (x:=i) (by rw[e4 i b];simp))),bH (λe=>by have:=e4 i b;rw[<-e,B] at this;cases this)]};rw[o0 _ N (by rw[e4 i b];simp)];exact e4 i b};cases h;refine⟨by simp[C,pG],d',by simp[C,pG,pJ],A.other λi b=>?_,λi b=>?_⟩;{rw[bF (by simpa using v i b),bH (λe=>by have:=n i b;rw[<-e,B] at this;cases this)]};rw[o0 _ N (by rw[n i b];simp)];exact n i b};exact z j (λe=>J (by rw[e];exact B)) s h
theorem Wg.ab3(w:Wg κ H ah m pre pst fx S){d:D}{R:List (Int×List α)}(F:eh κ H ah (O S) d R)(hSl:O S<1000000): ∃sd a,H.bx[m]? =Z (pre++sd::pst)/\((S=[]->sd= .p .aj)->cW κ.st 1 24 sd 1 [d] H=Z (.af (O H.bx) κ.st (O S+1) 1,a)/\a.tk=H.tk/\O a.bx=O H.bx+1/\a.bx[m]? =Z (pre++sd::pst)/\ Wg κ ⟨a.bx.set m (pre++ .af (O H.bx) κ.st (O S+1) 1::pst),a.tk⟩ (jT ah (O H.bx) .states) m pre pst fx (S++[R])/\∀j cs,ah j= .none->H.bx[j]? =Z cs->(a.bx.set m (pre++ .af (O H.bx) κ.st (O S+1) 1::pst))[j]? =Z cs):=by
 have N:=w.fr _ (aS _);have B:∀x,ah x≠.none->jT ah (O H.bx) .states x≠.none:=λx g=>by rw[o0 _ N g];exact g
 obtain⟨M,sd,o,m3⟩:=w.mod;have pT:=w.lt (by rw[M];simp);have K:∀(a:Hp) b,a.tk=H.tk->O a.bx=O H.bx+1->(∀(i:Nat) E,ah i≠.states->H.bx[i]? =Z E->a.bx[i]? =Z E)->a.bx[O H.bx]? =Z (b++[d])->(∀(i:Nat) E,a.bx[i]? =Z E->E=[]\/E=b++[d]\/H.bx[i]? =Z E)-> O b=O S->(∀(s:Nat) R,S[s]? =Z R->∃d,b[s]? =Z d/\eh κ H ah s d R)->(∀x∈D.aq b,ah x≠.none)->D.aJ b=[]-> a.bx[m]? =Z (pre++sd::pst)/\Wg κ ⟨a.bx.set m (pre++ .af (O H.bx) κ.st (O S+1) 1::pst),a.tk⟩ (jT ah (O H.bx) .states) m pre pst fx (S++[R])/\∀j cs,ah j= .none->H.bx[j]? =Z cs->(a.bx.set m (pre++ .af (O H.bx) κ.st (O S+1) 1::pst))[j]? =Z cs:=by intro a b k1 k2 X k4 k5 Y k7 k8 k9;have u:=X m _ (by rw[M];simp) o;(have g:∀(i:Nat) E,i≠m->ah i≠.states->H.bx[i]? =Z E->(a.bx.set m (pre++ .af (O H.bx) κ.st (O S+1) 1::pst))[i]? =Z E:=λi E G I J=>by rw[bH (Ne.symm G)];exact X i E I J);have v:∀(i:Nat) E,ah i≠.none->ah i≠.states->ah i≠.model->H.bx[i]? =Z E->(a.bx.set m (pre++ .af (O H.bx) κ.st (O S+1) 1::pst))[i]? =Z E:=λi E _ I J h=>g i E (λe=>J (by rw[e];exact M)) I h;(have t:∀{s:Nat} {d:D} {R:List (Int×List α)},eh κ H ah s d R->eh κ ⟨a.bx.set m (pre++ .af (O H.bx) κ.st (O S+1) 1::pst),a.tk⟩ (jT ah (O H.bx) .states) s d R:=λ{s d R} h=>h.rG (λi l=>o0 _ N l) λi cs l=>by refine v i cs ?_ ?_ ?_;{rcases l with h |⟨f,h⟩<;>rw[h]<;>simp};{rcases l with h |⟨f,h⟩<;>rw[h]<;>simp};rcases l with h |⟨f,h⟩<;>rw[h]<;>simp);(have hc:∀(i:Nat) E,(a.bx.set m (pre++ .af (O H.bx) κ.st (O S+1) 1::pst))[i]? =Z E->E=(pre++ .af (O H.bx) κ.st (O S+1) 1::pst)\/E=[]\/E=b++[d]\/H.bx[i]? =Z E:=λi E h=>by rcases jU h with⟨_,rfl⟩ |⟨_,h⟩;{exact .inl rfl};exact .inr (k5 i E h));refine⟨u,⟨⟨?_,.af (O H.bx) κ.st (O S+1) 1,by simp[(ak.1 u).1],.inr ⟨O H.bx,b++[d],by simp,EN _ _ _,?_,by simp[Y],λs R' L=>?_⟩⟩,λx g=>?_,λx g=>?_,λi E l x c=>?_,λi E l=>?_,λj z=>?_⟩,λj cs z h=>g j cs (λe=>by rw[e,M] at z;cases z) (by rw[z];simp) h⟩;{rw[o0 _ N (by rw[M];simp)];exact M};{rw[bH (by omega),k4]};{rcases ku L with⟨hl,L⟩ |⟨rfl,rfl⟩;{obtain⟨d2,P,Q⟩:=k7 s R' L;exact⟨d2,dy P _,t Q⟩};exact⟨d,by rw[<-Y];simp,t F⟩};{obtain⟨n,hn⟩:=w.al x g;exact v _ _ (by rw[hn];simp) (by rw[hn];simp) (by rw[hn];simp) (w.at_ x g)};{obtain⟨n,hn⟩:=w.al x g;exact⟨n,by rw[o0 _ N (by rw[hn];simp),hn]⟩};{rcases hc i E l with rfl |rfl |rfl |h;{rw[ya] at c;(have :(x∈D.aq pre\/x∈D.aq pst)\/x=O H.bx:=by rcases cu.1 c with h |h;{exact .inl (.inl h)};simp only[D.aq,D.refs,gy,eD,bJ] at h;rcases h with h |h;{exact .inr h};exact .inl (.inr h));rcases this with h |rfl;{refine B x (w.rf m _ o x ?_);rw[ya];rcases h with h |h;{exact cu.2 (.inl h)};exact cu.2 (.inr (by simp[D.aq,h]))};rw[EN];simp};{cases c};{rw[ya] at c;rcases cu.1 c with h |h;{exact B x (k8 x h)};exact B x (F.refs x (by simpa[D.aq] using h))};exact B x (w.rf i E h x c)};{rcases hc i E l with rfl |rfl |rfl |h;{have:=w.tk m _ o;rw[Bc] at this|-;simp only[D.aJ,sf] at this;simp[D.aJ,D.bh,this.1,this.2.2]};{rfl};{rw[Bc,k9];simp[D.aJ,F.bh]};exact w.tk i E h};simp[k2] at z;rw[vz ah _ (by omega)];exact w.fr j (by omega)
 rcases m3 with⟨rfl,rfl⟩ |⟨C,b,rfl,q2,T,U,q5⟩;{refine⟨_,⟨H.bx++[[d]],H.tk⟩,o,λ_=>⟨by simp[cW,gS,show roomy 1 24=true from rfl],rfl,by simp,?_⟩⟩;exact K ⟨H.bx++[[d]],H.tk⟩ [] rfl (by simp) (λi E _ h=>dy h _) (by simp) (λi E h=>by rcases ku h with⟨_,h⟩ |⟨_,h⟩;{exact .inr (.inr h)};exact .inr (.inl h)) rfl (λs R h=>by simp at h) (λx g=>by cases g) rfl};refine⟨_,⟨H.bx.set C []++[b++[d]],H.tk⟩,o,λhS=>?_⟩;have V:=r9.2 (λh=>by cases hS h);(have W:b≠[]:=λh=>by rw[h] at U;simp at U;omega);(have A:az b=false:=by obtain⟨d0,P,Q⟩:=q5 0 _ (aw V);cases b with|nil=>rfl|cons x r=>(have:=by simpa using P);subst this;cases r with|nil=>rcases Q with⟨rfl,_⟩ |⟨k,cs,rfl,_⟩<;>rfl|cons y r=>exact Ko x y r);(have h6:¬O S+1<=O b:=by omega);refine⟨by simp[cW,T,A,W,(by simp[roomy];omega:roomy (O S+1) 24=true),h6,(by omega:O S<=O b),(fg (by omega):b.take (O S)=b)],rfl,by simp,?_⟩;refine K ⟨H.bx.set C []++[b++[d]],H.tk⟩ b rfl (by simp) (λi E G h=>?_) (by simp) (λi E h=>?_) U q5 (w.rf C b T) (w.tk C b T);{refine dy ?_ _;rw[bH (λe=>G (by rw[<-e];exact q2)),h]};rcases ku h with⟨_,h⟩ |⟨_,h⟩;{rcases jU h with⟨_,h⟩ |⟨_,h⟩;{exact .inl h};exact .inr (.inr h)};exact .inr (.inl h)
theorem Wg.rowAt(w:Wg κ H ah m pre pst fx S){s f:Nat}{R:List (Int×List α)}{l:List α}(A:S[s]? =Z R)(B:R[f]? =Z (a,l)): ∃s0 ds k cs d',H.bx[m]? =Z (pre++ .af s0 κ.st (O S) 1::pst)/\ah s0= .states/\H.bx[s0]? =Z ds/\O ds=O S/\ds[s]? =Z (.af k κ.rt (O R) 2)/\ah k= .state s/\H.bx[k]? =Z cs/\O cs=O R*2/\cs[2*f]? =Z (.p (.int .i64 a))/\cs[2*f+1]? =Z d'/\cy κ H d' l/\(∀i∈aT d',ah i= .row s f)/\ ∀i l' tk,d'= .af i κ.e (O l) κ.sz->O l'=O l->l'≠[]->Wg κ ⟨H.bx.set i (κ.enc l'),tk⟩ ah m pre pst fx (S.set s (R.set f (a,l'))):=by obtain⟨C,sd,F,h3⟩:=w.mod;rcases h3 with⟨-,rfl⟩ |⟨s0,ds,rfl,Q,J,M,N⟩;{simp at A};obtain⟨d,P,w2⟩:=N s R A;rcases w2 with⟨-,rfl⟩ |⟨k,cs,rfl,W,T,U,V⟩;{simp at B};obtain⟨X,d',Y,e3,E⟩:=V f a l B;refine⟨s0,ds,k,cs,d',F,Q,J,M,P,W,T,U,X,Y,e3,E,λi l' tk hd u v=>?_⟩;have hi:=E i (by rw[hd];simp[aT]);(have K:∀j c,ah j≠.row s f->H.bx[j]? =Z c->(H.bx.set i (κ.enc l'))[j]? =Z c:=by grind);refine⟨⟨C,.af s0 κ.st (O S) 1,K m _ (by rw[C];simp) F,.inr ⟨s0,ds,by simp,Q,K s0 _ (by rw[Q];simp) J,by simpa using M,λs' R' b=>?_⟩⟩,λx hx=>?_,w.al,λj y r x g=>?_,λj y r=>?_,λj r=>w.fr j (by simpa using r)⟩;{by_cases hs:s'=s;{subst hs;rw[fe (by grind)] at b;cases b;refine⟨_,P,.inr ⟨k,cs,by simp,W,K k _ (by rw[W];simp) T,by simpa using U,?_⟩⟩;intro f' a' L e;by_cases o:f'=f;{subst o;rw[fe (by grind)] at e;cases e;refine⟨X,d',Y,?_,E⟩;rw[hd,<-u];exact .row i _ (by simp[w.lt (by rw[hi];simp)]) v};rw[bH (Ne.symm o)] at e;obtain⟨G,d2,z,g3,g4⟩:=V f' a' L e;refine⟨G,d2,z,?_,g4⟩;cases g3 with|aj=>exact .aj|bW=>exact .bW|row I l3 hb t=>exact .row I _ (K I _ (by rw[g4 I (by simp[aT])];simp[o]) hb) t};rw[bH (Ne.symm hs)] at b;obtain⟨d2,G,z⟩:=N s' R' b;refine⟨d2,G,z.rG (λ_ _=>rfl) λj c r=>K j c ?_⟩;grind};{obtain⟨n,hn⟩:=w.al x hx;exact K _ _ (by rw[hn];simp) (w.at_ x hx)};{rcases jU r with⟨_,rfl⟩ |⟨_,h⟩;{rw[κ.refs] at g;cases g};exact w.rf j y h x g};rcases jU r with⟨_,rfl⟩ |⟨_,h⟩;{exact κ.bh _};exact w.tk j y h
def o6(ah:Nat->cE)(ids:List Nat)(L:cE)(j:Nat):cE:=if j∈ids then L else ah j
theorem Wg.ab5(w:Wg κ H ah m pre pst fx S){ts:List (List D)}{ids:List Nat} L (o:L≠.none)(e:∀i∈ids,O H.bx<=i/\i<O H.bx+O ts)(f:∀cs∈ts,(∀x∈D.aq cs,x∈ids)/\D.aJ cs=[]) tk: Wg κ ⟨H.bx++ts,tk⟩ (o6 ah ids L) m pre pst fx S/\(∀i,ah i≠.none->o6 ah ids L i=ah i)/\(∀i,i<O H.bx->o6 ah ids L i=ah i)/\(∀i∈ids,o6 ah ids L i=L)/\∀(i:Nat) cs,H.bx[i]? =Z cs->(H.bx++ts)[i]? =Z cs:=by
 have b:∀i,i<O H.bx->o6 ah ids L i=ah i:=λi a=>by unfold o6;grind
 have Q:=λi a=>b i (w.lt a);have g:∀i∈ids,o6 ah ids L i=L:=λi a=>by unfold o6;rw[if_pos a]
 have c:∀i cs,H.bx[i]? =Z cs->(H.bx++ts)[i]? =Z cs:=λi cs h=>by rw[bF (ak.1 h).1,h]
 have d:∀i cs,(H.bx++ts)[i]? =Z cs->H.bx[i]? =Z cs\/cs∈ts:=λi cs h=>by rcases dI i (O H.bx) with l |l;{rw[bF l] at h;exact .inl h};grind
 refine⟨w.mono Q (λi cs _ _ h=>c i cs h) (λi cs a x k=>?_) (λi cs a=>?_) λj n=>?_,Q,b,g,c⟩;{rcases d i cs a with h |h;{have:=w.rf i cs h x k;rw[Q x this];exact this};grind};{rcases d i cs a with h |h;{exact w.tk i cs h};exact(f cs h).2};simp at n;unfold o6;rw[if_neg (λh=>by have:=(e j h).2;omega)];exact w.fr j (by omega)
end
end Go.Vs
