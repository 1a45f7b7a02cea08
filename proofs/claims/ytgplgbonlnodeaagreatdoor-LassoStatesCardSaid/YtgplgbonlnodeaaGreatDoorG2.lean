/-
  A value-level evaluator for Go functions; the functions of this cut by it; plain laws. Text G2.
-/
import Derived.Test.YtgplgbonlnodeaaGreatDoorG1
import Derived.Lib.UnsafeStr
import Derived.MapKept
import Derived.Below
import Derived.Orders
open Array renaming eq_empty_of_size_eq_zero->Gc,ext->Lb,ext'->Av,getD_eq_getD_getElem?->bP,getElem?_append->CU,getElem?_append_right->Z0,getElem?_eq_some_iff->fG,getElem?_modify->aou,length_toList->qq,range->K9,size_append->Q4,toList_append->Z2
open Bool renaming and_eq_true->bL,and_eq_true_iff->CW,false_eq_true->qp,not_eq_true'->sR,or_eq_true->nR
open Classical renaming byContradiction->pL
open Int renaming toNat_natCast->sQ
open List renaming all_eq_true->gV,any_eq_true->Q5,append_assoc->j2,append_eq_nil_iff->tX,append_nil->iQ,cons_append->jo,drop_zero->pM,ext_getElem?->lO,flatMap_cons->sP,getElem?_append_left->aT,getElem?_append_right->cR,getElem?_cons_succ->vY,getElem?_cons_zero->ey,getElem?_drop->lN,getElem?_eq_getElem->aD,getElem?_eq_none->nS,getElem?_eq_some_iff->af,getElem?_map->cG,getElem?_of_mem->dV,getElem?_set_ne->bp,getElem?_set_self->eA,getElem?_take->gL,getElem?_take_of_lt->kX,getElem?_toArray->Z1,isEmpty_iff->aoz,length_append->gG,length_cons->ew,length_map->bT,length_nil->fH,length_pos_iff->wh,length_replicate->CV,map->xW,map_congr_left->pN,mem_append->cx,mem_append_left->aox,mem_append_right->aoy,mem_cons->cq,mem_cons_of_mem->kA,mem_cons_self->rD,mem_flatMap->La,mem_map->cA,mem_of_getElem?->bB,mem_of_mem_take->jn,mem_replicate->ZZ,nil_append->fF,nodup_cons->tW,range->j3,range'->xX,replicate->dX,take_of_length_le->fK,take_zero->tY,toArray->Ax
open List.cons renaming injEq->xY
open Nat renaming add_mul->fX,add_sub_cancel_left->tZ,add_zero->nO,le_refl->aK,le_trans->fW,lt_or_ge->fA,mul_comm->tV,mul_le_mul_right->ju,not_lt_zero->CY,one_mul->nP,zero_add->ez,zero_le->bD
open Option renaming bind_some->Lc,getD_none->aow,getD_some->mq,isSome_iff_exists->ZW,map_eq_none_iff->aov,map_eq_some_iff->ak,map_map->CX,map_some->fy
open Option.some renaming inj->nQ,injEq->bM
open Prod.mk renaming injEq->mr
open List renaming length->O
open Option renaming some->Z,none->Y

namespace Go.Vs

variable {P : Program} {G : Nat -> Option (List PD)} {γ : Gh} {H : Hp} {w : World} {env : Env} {a : Act} {o : Oper}
variable{es:List PD}{m:Mem}{sz:Nat}{du:TypeDesc}{t u:TypeId}{i:TypeInfo}{z:Value}
theorem gT.append{c1 c2:Array Value}{e1 e2:List PD}(r:gT m sz c1 e1)(q:gT m sz c2 e2):gT m sz (c1++c2) (e1++e2):=by
 obtain⟨r1,r2,r3⟩:=r;obtain⟨q1,q2,q3⟩:=q;refine⟨by simp[r1,q1,fX],λe he=>?_,λi e j c he hc=>?_⟩
 .rcases cx.1 he with h |h
  .exact r2 e h
  .exact q2 e h
 .by_cases hi:i<O e1
  .rw[aT hi] at he;have hj:j<sz:=by rw[<-(r2 e (bB he)).1];exact(af.1 hc).1
   have hlt:i*sz+j<c1.size:=by
    rw[r1]
    calc i*sz+j<i*sz+sz:=by omega
     _=(i+1)*sz:=by rw[fX,nP]
     _<=O e1*sz:=ju _ hi
   have:=r3 i e j c he hc;have ee:(c1++c2).getD (i*sz+j) undef=c1.getD (i*sz+j) undef:=by
    simp[bP,CU,hlt]
   rw[ee];exact this
  .rw[cR (by omega)] at he;have kH:c1.size<=i*sz+j:=by
    rw[r1]
    calc O e1*sz<=i*sz:=ju _ (by omega)
     _<=i*sz+j:=by omega
   have:=q3 _ e j c he hc;have e3:i*sz+j-c1.size=(i-O e1)*sz+j:=by
    rw[r1,Nat.sub_mul];have :O e1*sz<=i*sz:=ju _ (by omega);omega
   have ee:(c1++c2).getD (i*sz+j) undef=c2.getD ((i-O e1)*sz+j) undef:=by
    simp only[bP];rw[Z0 kH,e3]
   rw[ee];exact this
theorem abD{b cap:Nat}(h:aQ m (.slice (Z ⟨b,0,Y⟩) (O es) cap) (.slice sz es)){pre:Array Value}(hp:pre.size=O es*sz)(hm:∀o v,o<O es*sz->m b o=Z v->pre[o]? =Z v):gT m sz pre es:=by
 obtain⟨ad,cap',hv,_,hne⟩:=p6 h;cases hv;refine⟨hp,λe he=>?_,λi e j c he hc=>?_⟩
 .obtain⟨b',o',vs,hb,h1,h2,_⟩:=hne (λe0=>by subst e0;simp at he);exact⟨h1 e he,h2 e he⟩
 .obtain⟨b',o',vs,hb,h1,h2,h3,h4⟩:=hne (λe0=>by subst e0;simp at he);cases hb;have hi:i<O es:=(af.1 he).1;have hj:j<sz:=by rw[<-h1 e (bB he)];exact(af.1 hc).1
  have hlt:i*sz+j<O es*sz:=by
   calc i*sz+j<i*sz+sz:=by omega
    _=(i+1)*sz:=by rw[fX,nP]
    _<=O es*sz:=ju _ hi
  have hc':=hm _ _ hlt (by have:=h3 i j hi hj;rwa [ez] at this);have ee:pre.getD (i*sz+j) undef=vs i j:=by simp[bP,hc']
  rw[ee];exact h4 i e j c he hc

section
variable{ty e:TypeId}    (ht : P.underlying t = Z (.slice e)) (hu : P.underlying u = Z du) (ib : (∃ e', du = .slice e') \/ du = .string) (hi : P.info? e = Z i) (hz : i.zero = Z z)
 (hzs:z.cells.size=i.size) (hs:0<i.size) {x:Value} {xs:List PD} {news:Array Value} (S:Src P γ.mem w i.size x xs news)
include ht hu ib hi hz hzs hs S
theorem LX(I:Inv G γ H w){tk:Nat}{row:Row}{r:Option (Nat×Nat)}(h1:γ.rows[tk]? =Z row)(h2:H.tk[tk]? =Z (O es))(he:row.e=e)(hsz:row.sz=i.size)(hr:row.st (O es)=Z r)
    (hv:aQ γ.mem (wz r (O es)) (.slice i.size es)) (hroom:roomy (O es+O xs) i.bytes=true):
    ∃v' w' γ',(Builtin.append_ #[t,u] ty #[wz r (O es),x]).run P w= .ok v' w'/\γ.le γ'/\Frame γ H w γ' {H with tk:=H.tk.set tk (O es+O xs)} w'/\
     Inv G γ' {H with tk:=H.tk.set tk (O es+O xs)} w'/\aB γ' v' (.aX tk e i.size (es++xs)):=by
 obtain⟨r',wD,bV⟩:=I.row tk row (O es) h1 h2;rw[hr] at wD;cases wD;have G2:O es+O xs<=140737488355328/\(O es+O xs)*i.bytes<=140737488355328:=by simpa[roomy] using hroom
 by_cases h0:xs=[]
 .
  have eJ:H.tk.set tk (O es+O xs)=H.tk:=by
   subst h0;apply lO;intro k;by_cases hk:tk=k
   .subst hk;have hlt:=(af.1 h2).1;rw[eA hlt,h2];rfl
   .rw[bp hk]
  rw[eJ];have hrun:(Builtin.append_ #[t,u] ty #[wz r (O es),x]).run P w= .ok (wz r (O es)) w:=by
   cases r with
   |none=>exact Sg ht hu ib hi S h0 Y 0 0 (aK _)
   |some bc=>exact Sg ht hu ib hi S h0 _ _ _ bV.1.1
  refine⟨_,w,γ,hrun,.refl γ,.refl γ H w,I,?_⟩;subst h0;rw[iQ];exact .aX _ tk e i.size es row r h1 he hsz hv hr rfl
 .have s7:0<O xs:=wh.2 h0;have dN:O es+O xs<=maxLen:=by simp only[maxLen];omega
  have hnews:=S.rep.1;have Sh:∀γ':Gh,∀(b cap:Nat) (cells:Array Value),γ'=γ.grow tk row (O es+O xs) b cap cells->γ.le γ'->O es+O xs<=cap->gT γ.mem i.size (cells.extract 0 ((O es+O xs)*i.size)) (es++xs)->
      aB γ' (.slice (Z ⟨b,0,Y⟩) (O es+O xs) cap) (.aX tk e i.size (es++xs)):=by
   intro γ' b cap cells hγ hle dQ uE;subst hγ;have lu:tk<O γ.rows:=(af.1 h1).1;have abE:=(uE.mono hle.mem).slice (b:=b) (cap:=cap) (by simpa using dQ) (λo ho=>by
    have ho:o<(O es+O xs)*i.size:=by simpa using ho
    simp only[Gh.grow,if_true,hsz];rw[if_pos ho,Array.getElem?_extract];simp;intro h;have hsz:=uE.1;simp at hsz;omega)
   refine .aX _ tk e i.size (es++xs) (row.grow (O es+O xs) b cap) (Z (b,cap)) (by simp[Gh.grow,lu]) he hsz (by simpa using abE) (by simp[Row.grow]) (by simp[wz])
  -- a new block
  have fresh:∀(base:Option Addr) (n cap:Nat),wz r (O es)= .slice base n cap->n=O es->cap<O es+O xs->
      ∃v' w' γ',(Builtin.append_ #[t,u] ty #[wz r (O es),x]).run P w= .ok v' w'/\γ.le γ'/\Frame γ H w γ' {H with tk:=H.tk.set tk (O es+O xs)} w'/\
       Inv G γ' {H with tk:=H.tk.set tk (O es+O xs)} w'/\aB γ' v' (.aX tk e i.size (es++xs)):=by
   intro base n cap hval hn dQ;subst hn;rw[hval] at hv|-;obtain⟨olds,So⟩:=LU (P:=P) I hs hv;have hrun:=abC (ty:=ty) ht hu ib hi hz S base (O es) cap olds (λw' hw'=>So.cells w' hw') dQ (by omega) G2.2;have kH:=grownCap_ge w (O es+O xs) cap e;have hcm:=grownCap_le_maxLen w (O es+O xs) cap e dN;have hsize:(olds++news++Builtin.zeroCells z.cells (grownCap w (O es+O xs) cap e-(O es+O xs))).size=grownCap w (O es+O xs) cap e*row.sz:=by
    rw[hsz];simp only[Q4,size_zeroCells,hzs,So.rep.1,hnews,<-fX];congr 1;omega
   have rM:(w.drew.alloc (.cells (olds++news++Builtin.zeroCells z.cells (grownCap w (O es+O xs) cap e-(O es+O xs))) e)).heap[w.heap.size]? =
       Z (.cells (olds++news++Builtin.zeroCells z.cells (grownCap w (O es+O xs) cap e-(O es+O xs))) row.e (0,0)):=by
    rw[he];have:=heap_alloc w.drew (.cells (olds++news++Builtin.zeroCells z.cells (grownCap w (O es+O xs) cap e-(O es+O xs))) e) w.heap.size;rw[this];exact if_pos rfl
   obtain⟨b1,b2,b3⟩:=I.RN h1 h2 (b:=w.heap.size) (cap:=grownCap w (O es+O xs) cap e) (f':=O es+O xs) (by omega) kH hcm hsize rM (λk hk=>by simp)
    (λc hc=>by rw[heap_alloc];exact if_neg hc) (λhb=>by have:=I.nZ hb;omega) (λo v hm=>by have:=I.sV hm;omega) (λt' _ hf=>by have:=I.oO hf;omega) (.inl rfl) (λx hx=>by have:=I.LB hx;omega) ⟨bD _,aK _⟩ rfl rfl rfl (by simp)
   refine⟨_,_,_,hrun,b1,b2,b3,Sh _ _ _ _ rfl b1 kH ?_⟩;have hex:(olds++news++Builtin.zeroCells z.cells (grownCap w (O es+O xs) cap e-(O es+O xs))).extract 0 ((O es+O xs)*i.size)=olds++news:=by
    have :(O es+O xs)*i.size=(olds++news).size:=by simp[So.rep.1,hnews,fX]
    rw[this];apply Av;simp[fK]
   rw[hex];exact So.rep.append S.rep
  cases r with
  |none=>
   have jb:O es=0:=bV;exact fresh Y 0 0 rfl jb.symm (by omega)
  |some bc=>
   obtain⟨b,cap⟩:=bc;obtain⟨⟨hle,Si⟩,gQ⟩:=bV;by_cases fk:O es+O xs<=cap
   .obtain⟨cur,fr,q1,q0,q2,q3,q4,q5⟩:=gQ (by omega);rw[hsz] at q2 q4;have Sj:O es*i.size+news.size<=cur.size:=by
     rw[hnews,q2,<-fX];exact ju _ fk
    rw[he] at q1;rw[hsz] at q0;have hrun:=abB (ty:=ty) ht hu ib hi S b (O es) cap cur fr q1 q0 fk Sj hs;have hold:∀o v,γ.mem b o=Z v->o<O es*i.size/\cur[o]? =Z v:=by
     intro o v hm;have hlt:o<O es*i.size:=by
      rcases fA o (O es*i.size) with h |h
      .exact h
      .rw[q4 o h] at hm;cases hm
     have:=I.mem b o v hm;simp only[World.cell?,q1] at this;exact⟨hlt,by simpa using this⟩
    have lA:∀o,o<O es*i.size->(cur.toList.take (O es*i.size)++news.toList++cur.toList.drop (O es*i.size+news.size)).toArray[o]? =cur[o]?:=by
     intro o ho;have h1:o<(cur.toList.take (O es*i.size)).length:=by simp;omega
     simp only[Z1,j2];rw[aT h1,gL,if_pos ho];simp
    have wE:(cur.toList.take (O es*i.size)++news.toList++cur.toList.drop (O es*i.size+news.size)).toArray.size=cap*row.sz:=by
     rw[hsz,<-q2];simp;omega
    have ao0:O es*i.size<=(O es+O xs)*row.sz:=by rw[hsz,fX];omega
    obtain⟨b1,b2,b3⟩:=I.RN h1 h2 (b:=b) (cap:=cap) (f':=O es+O xs) (fr:=fr) (by omega) fk q3 wE (by rw[he];exact setRow_heap w b cur _ e fr q1) (λk hk hk2=>q0 k (by rw[hsz,fX] at hk;omega) (by rw[wE,hsz,<-q2] at hk2;exact hk2))
     (λc hc=>setRow_other w b c _ hc) q5 (λo v hm=>by
      obtain⟨c1,c2⟩:=hold o v hm;exact⟨by omega,by rw[lA o c1];exact c2⟩) (λt' hne hf=>hne (I.free t' tk b hf ⟨row,O es,cap,h1,h2,hr,by omega⟩)) (.inr ⟨row,O es,cap,h1,h2,hr,by omega⟩) (λx hx=>by rw[Si] at hx;exact(nQ hx).symm) (by
     obtain⟨us,fru,z1,z2,z3⟩:=I.aaA Si;rw[he,q1] at z1;cases z1;exact z3) rfl rfl rfl (by simp[World.setRow])
    refine⟨_,_,_,hrun,b1,b2,b3,Sh _ _ _ _ rfl b1 fk ?_⟩;have hex:((cur.toList.take (O es*i.size)++news.toList++cur.toList.drop (O es*i.size+news.size)).toArray).extract 0 ((O es+O xs)*i.size)=(cur.toList.take (O es*i.size)).toArray++news:=by
     have hl:(cur.toList.take (O es*i.size)).length=O es*i.size:=by simp;omega
     have :(O es+O xs)*i.size=((cur.toList.take (O es*i.size))++news.toList).length:=by simp only[gG,hl,qq,hnews,fX]
     apply Av;simp only[Array.toList_extract,List.extract_eq_take_drop,pM,Nat.sub_zero,Z2];rw[this];exact List.take_left
    rw[hex];refine(abD hv ?_ (λo v ho hm=>?_)).append S.rep
    .simp;omega
    .obtain⟨c1,c2⟩:=hold o v hm;simp only[Z1,gL,if_pos c1];simpa using c2
   .exact fresh _ _ cap rfl rfl (by omega)
end
theorem Sk(l:List Nat)(x y:Nat):(l++[x]).set (O l) y=l++[y]:=by simp
theorem abF(I:Inv G γ H w)(E:aW γ env a.tmps){e:TypeId}{s x:Operand}{s' x':aA}(ho:o.op= .call {callee:=.builtin .append,args:=#[s,x],argTypes:=#[t,u]})
    (ht:P.underlying t=Z (.slice e)) (hu:P.underlying u=Z du) (ib:(∃e',du= .slice e')\/du= .string) (hi:P.info? e=Z i) (hz:i.zero=Z z) (hzs:z.cells.size=i.size) (hsp:0<i.size)
    (hs:aL s=Z s') (hx:aL x=Z x') {d:D} {H':Hp} (he:aP G env H (.append e i.size i.bytes s' x')=Z (d,H')):Done P G γ H w a o d H':=by
 have gJ:=cg E hs;have aN:=cg E hx;simp only[aP] at he;split at he
 .rename_i xs qC;obtain⟨⟨news,S⟩,_⟩:=abA (P:=P) I hsp aN qC;have fin:∀v' w',(Builtin.append_ #[t,u] o.type #[a.eval s,a.eval x]).run P w= .ok v' w'->(execOp a.eval o).run P w= .ok (.value v') w':=by
   intro v' w' h;simp[execOp,ho,resolve,invoke,builtin,h]
  unfold fg at he;split at he
  .
   rename_i hn;split at he
   .rename_i hroom;cases he;rw[hn] at gJ;have hv:=gJ.cu.sY
    let row:Row:=⟨e,i.size,λn=>if n=0 then Z Y else Y⟩
    obtain⟨b1,b2,b3⟩:=I.GG row 0 Y rfl (λn x hx=>by
     simp only[row] at hx;split at hx
     .omega
     .cases hx) rfl (λ_ _ h=>by cases h) (λn b cap hx=>by
     simp only[row] at hx;split at hx<;>cases hx)
    obtain⟨v',w',γ',c1,c2,c3,c4,c5⟩:=LX (ty:=o.type) ht hu ib hi hz hzs hsp (γ:={γ with rows:=γ.rows++[row]}) S b3 (tk:=O H.tk) (row:=row) (es:=[]) (r:=Y)
     (by show(γ.rows++[row])[O H.tk]? =_;rw[<-I.fZ];simp) (by simp) rfl rfl rfl (.lq _ _ _) (by simpa using hroom)
    simp only[fH,ez,Sk,fF] at c3 c4 c5;refine⟨v',w',γ',.inl (fin v' w' ?_),b1.trans c2,b2.trans b1.base c3,c4,c5⟩;rw[hv];exact c1
   .cases he
  .rename_i e' bQ es hn;split at he
   .rename_i hc;obtain⟨rfl,rfl,hroom⟩:=hc;cases he;rw[hn] at gJ;generalize dA:a.eval s=v at gJ;cases gJ with
    |cC b n e sz es' hbase dY hlen ja=>
     subst hlen
     let row:Row:=⟨e',i.size,λn=>if n=O es then Z (Z (b,O es)) else Y⟩
     obtain⟨b1,b2,b3⟩:=I.GG row (O es) (Z (b,O es)) (by simp[row]) (λn x hx=>by
      simp only[row] at hx;split at hx
      .omega
      .cases hx) ⟨⟨aK _,dY⟩,λh=>by omega⟩ (λ_ _ h=>by cases h;rfl) (λn b' cap hx=>by
      simp only[row] at hx;split at hx
      .cases hx;exact hbase
      .cases hx)
     obtain⟨v',w',γ',c1,c2,c3,c4,c5⟩:=LX (ty:=o.type) ht hu ib hi hz hzs hsp (γ:={γ with rows:=γ.rows++[row]}) S b3 (tk:=O H.tk) (row:=row) (es:=es) (r:=Z (b,O es))
      (by show(γ.rows++[row])[O H.tk]? =_;rw[<-I.fZ];simp) (by simp) rfl rfl (by simp[row]) ja hroom
     simp only[Sk] at c3 c4 c5;refine⟨v',w',γ',.inl (fin v' w' ?_),b1.trans c2,b2.trans b1.base c3,c4,c5⟩;rw[dA];exact c1
   .cases he
  .rename_i tk e' bQ es hn;split at he
   .rename_i hc;obtain⟨rfl,rfl,aO,hroom⟩:=hc;cases he;rw[hn] at gJ;generalize dA:a.eval s=v at gJ;cases gJ with
    |aX _ _ _ _ _ row r h1 h2 h3 h4 h5 h6=>
     subst h6;obtain⟨v',w',γ',c1,c2,c3,c4,c5⟩:=LX (ty:=o.type) ht hu ib hi hz hzs hsp S I h1 aO h2 h3 h5 h4 hroom;refine⟨v',w',γ',.inl (fin v' w' ?_),c2,c3,c4,c5⟩;rw[dA];exact c1
   .cases he
  .cases he
 .cases he

end Go.Vs

namespace Go.Vs

variable{ms:Array (String×TypeId)}{vs u news:Array Value}{γ:Gh}{H':Hp}{cs ds:List D}{b T sz m:Nat}{fr:Nat×Nat}{x':aA}{x:Operand}{du:TypeDesc}{t:TypeId}{i:TypeInfo}{z:Value}{w:World}
variable{P : Program} {G : Nat -> Option (List PD)}  {H : Hp}  {env : Env} {a : Act} {o : Oper}
def Dm(fr:Nat×Nat)(n:Nat):Nat×Nat:=if fr.1==fr.2 then(0,0+n) else(min fr.1 0,max fr.2 (0+n))
theorem abG{n:Nat}{cs:Array Value}(hn:0<n)(hb:w.heap[b]? =Z (.cells cs T fr))(c:Nat):
    (w.freeze ⟨b,0,Y⟩ n).heap[c]? =if c=b then Z (.cells cs T (Dm fr n)) else w.heap[c]?:=by
 have jb:¬n=0:=by omega
 simp only[World.freeze,jb,if_false,aou];by_cases h:c=b
 .subst h;rw[if_pos rfl,if_pos rfl,hb];rfl
 .rw[if_neg (Ne.symm h),if_neg h]
theorem Inv.freeze(I:Inv G γ H w){n:Nat}{cs:Array Value}(hn:0<n)(hb:w.heap[b]? =Z (.cells cs T fr))(hbase:γ.base<=b)(hk:∀k,k<n->γ.mem b k≠Y)
    (hle:n<=cs.size) (gQ:∀k,k<cs.size->(Dm fr n).1<=k/\k<(Dm fr n).2->(fr.1<=k/\k<fr.2)\/γ.mem b k≠Y):
    Frame γ H w γ H (w.freeze ⟨b,0,Y⟩ n)/\Inv G γ H (w.freeze ⟨b,0,Y⟩ n):=by
 have hh:=abG (w:=w) hn hb;have jb:¬n=0:=by omega
 have Sm:∀c,pX (γ.mem c) (w.heap[c]?) ((w.freeze ⟨b,0,Y⟩ n).heap[c]?):=by
  intro c;rw[hh c];by_cases h:c=b
  .subst h;rw[if_pos rfl];exact .inr ⟨cs,T,fr,Dm fr n,hb,rfl,gQ⟩
  .rw[if_neg h];exact .refl _ _
 have hsz:(w.freeze ⟨b,0,Y⟩ n).heap.size=w.heap.size:=by simp[World.freeze,jb]
 refine⟨⟨by simp[World.freeze,jb],by simp[World.freeze,jb],by simp[World.freeze,jb],by omega,λc _ _=>⟨λhc=>?_,Sm c⟩,λ_ _ _ _=>rfl,λ_ h=>.inl h,λ_ _ h=>.inl h,λ_ h=>.inl h⟩,?_⟩
 .rw[hh c,if_neg (by omega)]
 .have hcell:∀c q,(w.freeze ⟨b,0,Y⟩ n).cell? ⟨c,q,Y⟩=w.cell? ⟨c,q,Y⟩:=by
   intro c q;unfold World.cell?;simp only[hh c];by_cases h:c=b
   .subst h;simp[hb]
   .simp[h]
  constructor
  .rw[hsz];exact I.size
  .intro c T' m hc;obtain⟨us,ct,h2,h3,h4⟩:=I.aY c T' m hc;rw[hh c];by_cases h:c=b
   .subst h;rw[if_pos rfl];rw[hb] at h2;cases h2;refine⟨_,_,rfl,h3,λhe=>?_⟩;have h4:=h4 he;unfold Dm;split<;>simp<;>omega
   .rw[if_neg h];exact⟨us,ct,h2,h3,h4⟩
  .exact I.jq
  .intro c q v h;rw[hcell];exact I.mem c q v h
  .exact I.jv
  .exact I.cS
  .exact I.nodup
  .intro i c cs' hc hcs;obtain⟨cL,T',ct,a1,a2⟩:=I.box i c cs' hc hcs;by_cases hne:c=b
   .subst hne;have h0:cs'=[]:=pL λh0=>hk 0 hn (I.gZ c 0 ⟨i,cs',hc,hcs,h0⟩);subst h0;exact⟨_,_,_,by rw[iu rfl,hh c,if_pos rfl],⟨bD _,λi d hd=>by simp at hd⟩,λ_ c hc=>by simp at hc,λh=>(h rfl).elim⟩
   .exact⟨cL,T',ct,by rw[hh c,if_neg hne];exact a1,a2⟩
  .exact I.gZ
  .exact I.js
  .exact I.fZ
  .intro t row f h1 h2;obtain⟨r,a1,a2⟩:=I.row t row f h1 h2;exact⟨r,a1,a2.RG (λ_ _ h=>h) (λc _ _ _=>Sm c) (λ_ _ _ _ _=>rfl) (λ_ _ _ _ h=>h)⟩
  .exact I.jx
  .exact I.free
theorem abH(d:Nat)(ht:P.underlying t=Z (.interface ms)):(Op.equalIn (d+1) t .nilIface .nilIface).run P w= .ok true w:=by simp[Op.equalIn,run_underlying ht]
theorem Sn(d:Nat)(ht:P.underlying t=Z (.interface ms))(u:TypeId)(v:Value):(Op.equalIn (d+1) t (.iface u v) .nilIface).run P w= .ok false w:=by simp[Op.equalIn,run_underlying ht]
theorem abI(I:Inv G γ H w)(E:aW γ env a.tmps){op:BinOp}{t yt:TypeId}{x y:Operand}{x' y':aA}{ms:Array (String×TypeId)}{yc:Value}(ho:o.op= .binOp op t x y yt)(hop:op= .eql∨op= .neq)(LY:y= .const yc)(hx:aL x=some x')(hy:aL y=some y')
    (ht:P.underlying t=some (.interface ms)) {d:D} {H':Hp} (he:aP G env H (.eqk 4 (op== .neq) x' y')=some (d,H')):Done P G γ H w a o d H':=by
 have aN:=cg E hx;have fq:=cg E hy;simp only[aP] at he;obtain⟨r,hd,hh⟩:=ak.1 he;cases hh;have fin:∀u v,a.eval x=u→a.eval y=v→(match u with | .int _ _ | .float _ _ | .complex _ _ _ | .string _=>true |_=>false)=false→(∀cs,u≠.agg cs)→(Op.equal t u v).run P w= .ok r w→
     Done P G γ H w a o (.p (.bool (if op== .neq then !r else r))) H:=by
  intro u v hu hv h1 h2 h4;refine .same I (v:=.bool (if op== .neq then !r else r)) ?_ (.p _ _ (.bool _));have e:(eqGuard op t x y u v).run P w= .ok () w:=by
   by_cases hb:u= .nilIface∧v= .nilIface
   ·obtain⟨rfl,rfl⟩:=hb;rcases hop with rfl |rfl<;>simp[eqGuard,LY]
   ·exact GR (P:=P) (op:=op) (t:=t) (x:=x) (y:=y) (u:=u) (v:=v) hb (fun cs _ h=>h2 cs h.1) w
  have q:=LK hop h1 h4;simp[execOp,ho,hu,hv,e,q]
 simp only[sS] at hd;split at hd
 ·rename_i e1 e2;cases hd;rw[e1] at aN;rw[e2] at fq;have h1:a.eval x= .nilIface:=by have:=aN.cu;generalize a.eval x=v at this;cases this;rfl
  have h2:a.eval y= .nilIface:=by have:=fq.cu;generalize a.eval y=v at this;cases this;rfl
  exact fin _ _ h1 h2 rfl (by simp) (by rw[sZ];exact abH _ ht)
 ·rename_i e1 e2;cases hd;rw[e1] at aN;rw[e2] at fq;have h1:∃t v,a.eval x= .iface t v:=by have:=aN.cu;generalize a.eval x=v at this;cases this;exact⟨_,_,rfl⟩
  have h2:a.eval y= .nilIface:=by have:=fq.cu;generalize a.eval y=v at this;cases this;rfl
  obtain⟨t',v',h1⟩:=h1;exact fin _ _ h1 h2 rfl (by simp) (by rw[sZ];exact Sn _ ht _ _)
 ·rename_i e1 e2;cases hd;rw[e1] at aN;rw[e2] at fq;have h1:∃t v,a.eval x= .iface t v:=by generalize a.eval x=v at aN;cases aN;exact⟨_,_,rfl⟩
  have h2:a.eval y= .nilIface:=by have:=fq.cu;generalize a.eval y=v at this;cases this;rfl
  obtain⟨t',v',h1⟩:=h1;exact fin _ _ h1 h2 rfl (by simp) (by rw[sZ];exact Sn _ ht _ _)
 ·cases hd
theorem Sq{m:Mem}{sz:Nat}{cs:Array Value}:∀(es:List PD) (base:Nat),(∀e∈es,O e.cells=sz)->(∀(i:Nat) e (j:Nat) c,es[i]? =Z e->e.cells[j]? =Z c->aQ m (cs.getD ((base+i)*sz+j) undef) c)->
    ∀(k:Nat) c,(es.flatMap PD.cells)[k]? =Z c->aQ m (cs.getD (base*sz+k) undef) c
 |[],base,_,_,k,c,h=>by simp at h
 |e::es,base,h1,h2,k,c,h=>by
  rw[sP] at h;have he:=h1 e (by simp);by_cases hk:k<O e.cells
  .rw[aT hk] at h;have:=h2 0 e k c rfl h;simpa using this
  .rw[cR (by omega)] at h;have:=Sq es (base+1) (λe he=>h1 e (by simp[he])) (λi e j c a b=>by
    have:=h2 (i+1) e j c (by simpa using a) b;have e1:base+1+i=base+(i+1):=by omega
    rw[e1];exact this) _ c h
   have e2:(base+1)*sz+(k-O e.cells)=base*sz+k:=by rw[he] at hk|-;rw[fX];omega
   rw[e2] at this;exact this
theorem wF:∀(es:List PD),(∀e∈es,O e.cells=sz)->O (es.flatMap PD.cells)=O es*sz
 |[],_=>by simp
 |e::es,h=>by
  rw[sP,gG,wF es (λe he=>h e (by simp[he])),h e (by simp),ew,fX];omega
theorem gT.flat{m:Mem}{cs:Array Value}{es:List PD}(r:gT m sz cs es){tail:Array Value}(γ:Gh)(hm:γ.mem=m):eI γ (cs++tail) ((es.flatMap PD.cells).map .p)/\∀c∈(es.flatMap PD.cells).map D.p,c.one=true:=by
 subst hm;obtain⟨r1,r2,r3⟩:=r;have hl:=wF es (λe he=>(r2 e he).1);refine⟨⟨by simp[hl,r1],λk d hd=>?_⟩,λc hc=>?_⟩
 .simp only[cG,ak] at hd;obtain⟨c,hc,rfl⟩:=hd;have:=Sq (cs:=cs) es 0 (λe he=>(r2 e he).1) (λi e j c a b=>by rw[ez];exact r3 i e j c a b) k c hc;rw[Nat.zero_mul,ez] at this;have hk:k<cs.size:=by rw[r1,<-hl];exact(af.1 hc).1
  have ee:(cs++tail).getD k undef=cs.getD k undef:=by simp[bP,CU,hk]
  rw[ee];exact .p _ _ this
 .obtain⟨x,hx,rfl⟩:=cA.1 hc;obtain⟨e,he,hx⟩:=La.1 hx;exact(r2 e he).2 x hx
theorem Inv.LZ(I:Inv G γ H w){i:Nat}(hb:γ.boxes[i]? =Z b)(hc:H.bx[i]? =Z cs)(hn:cs≠[]){x:Nat×Nat}(ht:γ.aY b=Z x):
    Frame γ H w γ {H with bx:=H.bx.set i []} w/\Inv G γ {H with bx:=H.bx.set i []} w:=by
 have hi:i<O H.bx:=(af.1 hc).1;have dM:∀t c,cZ γ {H with bx:=H.bx.set i []} t c->cZ γ H t c:=λt c h=>cZ.congr (λ_ _ h=>h) (λ_ _ h=>h) h;refine⟨⟨rfl,rfl,rfl,aK _,λ_ _ _=>⟨λ_=>rfl,.refl _ _⟩,λ_ _ _ _=>rfl,λ_ h=>.inl (Lv.set hc hn h),λt b h=>.inl (dM t b h),λ_ h=>.inl h⟩,I.size,I.aY,I.jq,I.mem,I.jv,by simp[I.cS],I.GF hc hn,?_,λc o h=>I.gZ c o (Lv.set hc hn h),?_,I.fZ,I.row,I.jx,λt t' b h h'=>I.free t t' b (dM t b h) (dM t' b h')⟩
 .intro j c cs' hj hcs;have hcs:(H.bx.set i [])[j]? =Z cs':=hcs;by_cases cI:i=j
  .subst cI;rw[hb] at hj;cases hj;rw[eA hi] at hcs;cases hcs;obtain⟨vs,fr,q1,_⟩:=I.aY b x.1 x.2 ht;exact⟨vs,x.1/2,fr,by rw[iu rfl];exact q1,⟨bD _,λi d hd=>by simp at hd⟩,λ_ c hc=>by simp at hc,λh=>(h rfl).elim⟩
  .rw[bp cI] at hcs;exact I.box j c cs' hj hcs
 .intro j c hj hcs;have hcs:(H.bx.set i [])[j]? =Z []:=hcs;by_cases cI:i=j
  .subst cI;rw[hb] at hj;cases hj;exact⟨x,ht⟩
  .rw[bp cI] at hcs;exact I.js j c hj hcs
theorem Inv.L5(I:Inv G γ H w){i:Nat}(hb:γ.boxes[i]? =Z b)(hc:H.bx[i]? =Z cs)(hn:cs≠[])(_:ay cs=false){cL:Array Value}(hw:w.heap[b]? =Z (.cells vs T fr))(gQ:clear fr 0 vs.size)
    (hsz:cL.size=vs.size) {T2:Nat} (ht:γ.aY b=Z (T2,m)) (hr:eI γ cL (ds)) (h1:∀c∈ds,c.one=true):
    γ.le {γ with boxes:=γ.boxes++[b]}/\Frame γ H w {γ with boxes:=γ.boxes++[b]} {H with bx:=H.bx.set i []++[ds]} (w.setRow b cL)/\Inv G {γ with boxes:=γ.boxes++[b]} {H with bx:=H.bx.set i []++[ds]} (w.setRow b cL):=by
 have hi:i<O H.bx:=(af.1 hc).1;have eV:b∈γ.boxes:=bB hb;have hlv:Lv γ H b:=⟨i,cs,hb,hc,hn⟩;have hle:γ.le {γ with boxes:=γ.boxes++[b]}:=⟨rfl,λ_ _ h=>h,λ_ _ _ h=>h,λj c h=>by
  have hj:j<O γ.boxes:=(af.1 h).1;show(γ.boxes++[b])[j]? =Z c;rw[aT hj];exact h,λt r h=>⟨r,h,rfl,rfl,λ_ _ h=>h⟩⟩
 have qD:O γ.boxes=O ({H with bx:=H.bx.set i []}:Hp).bx:=by simp[I.cS]
 have Ss:∀c,Lv {γ with boxes:=γ.boxes++[b]} {H with bx:=H.bx.set i []++[ds]} c->Lv γ H c:=λc h=>by
  rcases Lv.push (γ:=γ) (H:={H with bx:=H.bx.set i []}) qD rfl rfl h with h |⟨rfl,_⟩
  .exact Lv.set hc hn h
  .exact hlv
 have hno:¬Lv γ {H with bx:=H.bx.set i []} b:=λh=>by
  obtain⟨j,c,a1,a2,a3⟩:=h;have a2:(H.bx.set i [])[j]? =Z c:=a2;by_cases cI:i=j
  .subst cI;rw[eA hi] at a2;exact a3 (nQ a2).symm
  .rw[bp cI] at a2;exact cI (I.nodup i j b cs c hb a1 hc a2 hn a3)
 have I1:=(I.LZ hb hc hn ht).2;have dM:∀t c,cZ {γ with boxes:=γ.boxes++[b]} {H with bx:=H.bx.set i []++[ds]} t c->cZ γ H t c:=λt c h=>cZ.congr (λ_ _ h=>h) (λ_ _ h=>h) h;have lr:∀c,c≠b->(w.setRow b cL).heap[c]? =w.heap[c]?:=λc h=>setRow_other w b c _ h;have lA:=setRow_heap w b vs cL T fr hw;refine⟨hle,⟨rfl,rfl,rfl,by simp[World.setRow],λc _ ho=>by rw[lr c (λe=>ho (.inl (e▸hlv)))];exact⟨λ_=>rfl,.refl _ _⟩,λ_ _ _ _=>rfl,λc h=>.inl (Ss c h),λt c h=>.inl (dM t c h),λc h=>by
  rcases cx.1 (show c∈γ.boxes++[b] from h) with h |h
  .exact .inl h
  .simp at h;subst h;exact .inl eV⟩,?_⟩
 constructor
 .have:=I.size;simpa[World.setRow] using this
 .intro c T' n hc';obtain⟨yq,ct,h2,h3⟩:=I.aY c T' n hc';by_cases hcb:c=b
  .subst hcb;rw[hw] at h2;cases h2;exact⟨_,_,lA,hsz.trans h3.1,h3.2⟩
  .exact⟨yq,ct,(lr c hcb).trans h2,h3⟩
 .exact I.jq
 .intro c o v h;have hne:c≠b:=λe=>by subst e;rw[I.gZ c o hlv] at h;cases h
  rw[wA (w:=w) (lr c hne)];exact I.mem c o v h
 .exact I.jv
 .simp[I.cS]
 .exact I1.GD hno rfl rfl
 .intro j c cs' hj hcs;rcases sW qD hj hcs with⟨a1,a2⟩ |⟨_,rfl,rfl⟩
  .obtain⟨us,T',ct,q1,q2,q3,q4⟩:=I1.box j c cs' a1 a2;by_cases he:c=b
   .subst he;have h0:cs'=[]:=pL λh0=>hno ⟨j,cs',a1,a2,h0⟩;subst h0;exact⟨_,_,_,by rw[iu rfl];exact lA,⟨bD _,λi d hd=>by simp at hd⟩,λ_ c hc=>by simp at hc,λh=>(h rfl).elim⟩
   .exact⟨us,T',ct,by rw[lr c he];exact q1,q2.mono hle,q3,q4⟩
  .exact⟨cL,T,fr,by rw[iu (Da h1)];exact lA,hr.mono hle,λ_=>h1,λ_=>by rw[hsz];exact gQ⟩
 .exact λc o h=>I.gZ c o (Ss c h)
 .intro j c hj hcs;rcases sW qD hj hcs with⟨a1,a2⟩ |⟨_,rfl,_⟩
  .exact I1.js j c a1 a2
  .exact⟨_,ht⟩
 .exact I.fZ
 .intro t row f h1 h2;obtain⟨r,a1,a2⟩:=I.row t row f h1 h2;refine⟨r,a1,?_⟩;refine a2.keep (λ_ _ h=>h) (λc cap hr hlt=>?_) (λ_ _ _ _ _=>rfl) (λc cap hr hlt h h'=>?_)
  .have hne:c≠b:=λe=>by
    subst e;subst hr;obtain⟨cur,_,_,_,_,_,_,fl⟩:=a2.2 hlt;exact fl eV
   exact lr c hne
  .have h':c∈γ.boxes++[b]:=h';rcases cx.1 h' with h' |h'
   .exact h h'
   .simp at h';subst h';exact h eV
 .exact I.jx
 .intro t t' c h h';exact I.free t t' c (dM t c h) (dM t' c h')
theorem eI.abJ{v:Array Value}(hu:u.size=O cs)(r:eI γ u cs)(q:eI γ v ds):eI γ (u++v) (cs++ds):=by
 refine⟨by have:=q.1;simp;omega,λi d hd=>?_⟩;by_cases hi:i<O cs
 .rw[aT hi] at hd;have:=r.2 i d hd;have ee:(u++v).getD i undef=u.getD i undef:=by simp[bP,CU,hu,hi]
  rw[ee];exact this
 .rw[cR (by omega)] at hd;have:=q.2 _ d hd;have ee:(u++v).getD i undef=v.getD (i-O cs) undef:=by simp[bP,CU,hu,hi]
  rw[ee];exact this
structure Dn (P:Program) (γ:Gh) (w:World) (sz:Nat) (x:Value) (m:Nat) (ds:List D) (news:Array Value):Prop where
 len:∀w',(Builtin.lenOf x).run P w'= .ok m w'
 cells:∀w',(∀ad,w'.cell? ad=w.cell? ad)->(Builtin.firstCells sz m x).run P w'= .ok news w'
 rep:cv γ news ds
 one:∀c∈ds,c.one=true
 size:news.size=m*sz
theorem Dn.ones{x:Value}(S:Dn P γ w sz x m ds news):∀v∈news.toList,v.oneCell'=true:=by
 intro v hv;obtain⟨k,hk⟩:=dV hv;have kG:news[k]? =Z v:=by simpa using hk
 have hlt:k<O ds:=by rw[<-S.rep.1];exact(fG.1 kG).1
 have hd:=aD hlt;have q:=S.rep.2 k _ hd;have :news.getD k undef=v:=by simp[bP,kG]
 rw[this] at q;exact q.RD (S.one _ (bB hd))
theorem L6(I:Inv G γ H w){i off n c:Nat}(hb:γ.boxes[i]? =Z b)(hcs:H.bx[i]? =Z cs)(hm:ay cs=false)(fk:off+n*sz<=O cs):
    ∃news,Dn P γ w sz (.slice (Z ⟨b,off,Y⟩) n c) n (sub cs off (off+n*sz)) news:=by
 obtain⟨vs,T,fr,q1,q2,q3,_⟩:=I.box i b cs hb hcs;rw[iu hm] at q1;have q3:=q3 hm;have bW:O (sub cs off (off+n*sz))=n*sz:=by rw[wC _ _ _ fk];omega
 refine⟨((j3 (n*sz)).map λk=>vs.getD (off+k) undef).toArray,⟨λw'=>by simp[Builtin.lenOf],λw' hw'=>?_,⟨by simp[bW],λk d hd=>?_⟩,λc hc=>q3 c (A2 hc),by simp⟩⟩
 .refine run_firstCells_some (P:=P) w' sz n _ _ _ _ (by simp) (λj v hj=>?_);have hlt:j<n*sz:=by have:=(af.1 hj).1;simpa using this
  have hv:vs.getD (off+j) undef=v:=by simpa[hlt] using hj
  have lT:off+j<vs.size:=by have:=q2.1;omega
  rw[Addr.add_lit,hw',<-hv];simp[World.cell?,q1,lT,bP]
 .have hlt:k<n*sz:=by rw[<-bW];exact(af.1 hd).1
  rw[oQ,if_pos (by omega)] at hd;have:=q2.2 _ d hd;have e1:(((j3 (n*sz)).map λk=>vs.getD (off+k) undef).toArray).getD k undef=vs.getD (off+k) undef:=by
   simp[bP,hlt]
  rw[e1];exact this
theorem cv.Su(h:eI γ vs ds)(he:vs.size=O ds):cv γ vs ds:=⟨he,h.2⟩
theorem abK(I:Inv G γ H w)(hs:0<sz){v:Value}{d:D}(r:aB γ v d)(h:gX H sz d=Z (m,ds)):∃news,Dn P γ w sz v m ds news:=by
 unfold gX at h;split at h
 .rename_i i off n cap bQ;split at h
  .rename_i hsz;subst hsz;split at h
   .rename_i cs hcs;split at h
    .rename_i hc;cases h;cases r with
     |bH _ _ _ _ _ b c hb _ _=>exact L6 I hb hcs hc.1 hc.2
    .cases h
   .cases h
  .cases h
 .rename_i i e n bQ;split at h
  .rename_i hsz;subst hsz;split at h
   .rename_i cs hcs;split at h
    .rename_i hc;cases h;cases r with
     |ae _ _ _ _ b c hb _ _ _ _=>exact L6 I hb hcs hc.1 hc.2
    .cases h
   .cases h
  .cases h
 .obtain⟨es,hes,heq⟩:=ak.1 h;cases heq;obtain⟨⟨news,S⟩,_⟩:=Sc (P:=P) I hs r hes;obtain⟨q1,q2⟩:=gT.flat S.rep (tail:=#[]) γ rfl;have hsz:=S.rep.1;refine⟨news,⟨S.len,S.cells,cv.Su (by simpa using q1) ?_,q2,hsz⟩⟩;rw[bT,wF es λe he=>(S.rep.2.1 e he).1,hsz]

section
variable{u ty e:TypeId}    (ht : P.underlying t = Z (.slice e)) (hu : P.underlying u = Z du) (ib : (∃ e', du = .slice e') \/ du = .string) (hi : P.info? e = Z i) (hz : i.zero = Z z)
 {x:Value}    (S:Dn P γ w i.size x m ds news)
include ht hu ib hi S
theorem L8(h0:m=0)(base:Option Addr)(n cap:Nat)(hc:n<=cap):(Builtin.append_ #[t,u] ty #[.slice base n cap,x]).run P w= .ok (.slice base n cap) w:=by
 subst h0;have hn:news= #[]:=Gc (by have:=S.size;omega);subst hn;have hl:=S.len w;have hcs:=S.cells w (λ_=>rfl);rcases ib with⟨e',rfl⟩ |rfl<;>cases base<;>simp[Builtin.append_,run_underlying ht,run_underlying hu,sizeOf,typeInfo,hi,hl,hc,hcs,storeCells]
theorem Sv(g off n cap T:Nat)(cur:Array Value)(fr:Nat×Nat)(hg:w.heap[g]? =Z (.cells cur T fr))(yr:clear fr (off+n*i.size) cur.size)(hroom:n+m<=cap)(fk:off+n*i.size+news.size<=cur.size):
    (Builtin.append_ #[t,u] ty #[.slice (Z ⟨g,off,Y⟩) n cap,x]).run P w=
     .ok (.slice (Z ⟨g,off,Y⟩) (n+m) cap) (w.setRow g (cur.toList.take (off+n*i.size)++news.toList++cur.toList.drop (off+n*i.size+news.size)).toArray):=by
 have hl:=S.len w;have hcs:=S.cells w (λ_=>rfl);have hst:=GW (P:=P) g (off+n*i.size) T fr news.toList 0 cur w hg (by simpa using yr) (by simpa using fk) S.ones;simp only[nO,qq] at hst;rcases ib with⟨e',rfl⟩ |rfl<;>simp[Builtin.append_,run_underlying ht,run_underlying hu,sizeOf,typeInfo,hi,hl,hroom,hcs,Addr.add_lit,hst]

include hz
theorem abL(base:Option Addr)(n cap:Nat)(olds:Array Value)(hold:∀w',(∀ad,w'.cell? ad=w.cell? ad)->(Builtin.firstCells i.size n (.slice base n cap)).run P w'= .ok olds w')
    (hno:cap<n+m) (h63:((n+m:Nat):Int)<=9223372036854775807) (hb:(n+m)*i.bytes<=140737488355328):
    (Builtin.append_ #[t,u] ty #[.slice base n cap,x]).run P w=
     .ok (.slice (Z ⟨w.heap.size,0,Y⟩) (n+m) (grownCap w (n+m) cap e))
      (w.drew.alloc (.cells (olds++news++Builtin.zeroCells z.cells (grownCap w (n+m) cap e-(n+m))) e)):=by
 have hl:=S.len w;have hcs:=S.cells w.drew (λ_=>rfl);have uu:=hold w.drew (λ_=>rfl);have hn:¬(n+m<=cap):=by omega
 have LV:¬(9223372036854775807<((n:Int)+(m:Int))):=by omega
 have LW:¬(281474976710656<Builtin.nextslicecap (n+m) cap*i.bytes):=by have:=growslice_fits hno hb;omega
 rcases ib with⟨e',rfl⟩ |rfl<;>simp[Builtin.append_,run_underlying ht,run_underlying hu,sizeOf,typeInfo,zeroValue,hi,hz,hl,hn,LV,LW,Question.forced,uu,hcs,newRow,grownCap]
end
theorem Sw{tail:Array Value}(hu:u.size=O cs)(r:eI γ u cs)(q:cv γ news ds):eI γ (u++(news++tail)) (cs++ds):=by
 refine eI.abJ hu r ⟨by have:=q.1;simp;omega,λk d hd=>?_⟩;have hk:k<news.size:=by rw[q.1];exact(af.1 hd).1
 have ee:(news++tail).getD k undef=news.getD k undef:=by simp[bP,CU,hk]
 rw[ee];exact q.2 k d hd
theorem abM(q:eI γ vs cs)(k:Nat)(hk:k<=O cs):eI γ (vs.toList.take k).toArray (cs.take k):=by
 have:=q.1;refine⟨by simp;omega,λj d hd=>?_⟩;rw[gL] at hd;split at hd
 .rename_i hj;have ee:(vs.toList.take k).toArray.getD j undef=vs.getD j undef:=by
   simp only[bP,Z1,gL,if_pos hj];simp
  rw[ee];exact q.2 j d hd
 .cases hd
theorem abN(I:Inv G γ H w)(E:aW γ env a.tmps){u e:TypeId}{s:Operand}{s':aA}(ho:o.op= .call {callee:=.builtin .append,args:=#[s,x],argTypes:=#[t,u]})
    (ht:P.underlying t=Z (.slice e)) (hu:P.underlying u=Z du) (ib:(∃e',du= .slice e')\/du= .string) (hi:P.info? e=Z i) (hz:i.zero=Z z) (hzs:z.cells.size=i.size) (hsp:0<i.size)
    (hs:aL s=Z s') (hx:aL x=Z x') {d:D}  (he:aP G env H (.appendg e i.size i.bytes s' x')=Z (d,H')):Done P G γ H w a o d H':=by
 have gJ:=cg E hs;have aN:=cg E hx;simp only[aP] at he;split at he
 .rename_i m ds qC;obtain⟨news,S⟩:=abK (P:=P) I hsp aN qC;have fin:∀v' w',(Builtin.append_ #[t,u] o.type #[a.eval s,a.eval x]).run P w= .ok v' w'->(execOp a.eval o).run P w= .ok (.value v') w':=by
   intro v' w' h;simp[execOp,ho,resolve,invoke,builtin,h]
  have hnews:=S.size;have s9:O ds=m*i.size:=by rw[<-S.rep.1,hnews]
  -- a new block
  have fresh:∀(γ1:Gh) (H1:Hp) (base:Option Addr) (n cap:Nat) (olds:Array Value) (cs:List D),γ.le γ1->Frame γ H w γ1 H1 w->Inv G γ1 H1 w->a.eval s= .slice base n cap->cap<n+m->roomy (n+m) i.bytes=true->
      (∀w',(∀ad,w'.cell? ad=w.cell? ad)->(Builtin.firstCells i.size n (.slice base n cap)).run P w'= .ok olds w')->olds.size=O cs->olds.size=n*i.size->eI γ1 olds cs->(∀c∈cs,c.one=true)->
      Done P G γ H w a o (.ae (O H1.bx) e (n+m) i.size) {H1 with bx:=H1.bx++[cs++ds]}:=by
   intro γ1 H1 base n cap olds cs L1 F1 I1 hv hno hroom hold jy uu ja dP;have G2:n+m<=140737488355328/\(n+m)*i.bytes<=140737488355328:=by simpa[roomy] using hroom
   have dN:n+m<=maxLen:=by simp only[maxLen];omega
   have hrun:=abL (ty:=o.type) ht hu ib hi hz S base n cap olds hold hno (by omega) G2.2;have kH:=grownCap_ge w (n+m) cap e;have hgm:=grownCap_le_maxLen w (n+m) cap e dN;have hsize:(olds++news++Builtin.zeroCells z.cells (grownCap w (n+m) cap e-(n+m))).size=grownCap w (n+m) cap e*i.size:=by
    simp only[Q4,size_zeroCells,hzs,uu,hnews,<-fX];congr 1;omega
   have abP:eI γ1 (olds++news++Builtin.zeroCells z.cells (grownCap w (n+m) cap e-(n+m))) (cs++ds):=by
    rw[Array.append_assoc];exact Sw jy ja (S.rep.mono L1)
   obtain⟨γ',a1,a2,a5,a3,a4⟩:=I1.drew.De e (λ_ h _ _=>abP.mono h) (λc hc=>by
    rcases cx.1 hc with h |h
    .exact dP c h
    .exact S.one c h)
   rw[hsize] at a5;exact⟨_,_,γ',.inl (fin _ _ (by rw[hv];exact hrun)),L1.trans a1,(F1.trans L1.base (Frame.drew γ1 H1 w)).trans L1.base a3,a4,.ae _ _ _ _ _ _ (by simpa using a2) kH hgm (k:=0) (by decide) a5⟩
  -- in place, where room is known
  have Sy:∀(k b off n cap:Nat) (cs:List D) (d':D),a.eval s= .slice (Z ⟨b,off,Y⟩) n cap->n+m<=cap->0<m->γ.boxes[k]? =Z b->H.bx[k]? =Z cs->ay cs=false->off+(n+m)*i.size<=O cs->
      (aB γ (.slice (Z ⟨b,off,Y⟩) (n+m) cap) d')->
      Done P G γ H w a o d' {H with bx:=H.bx.set k (aw cs (off+n*i.size) ds)}:=by
   intro k b off n cap cs d' hv hroom gh hb hcs oc fk bO;obtain⟨vs,T,fr,q1,q2,q3,q4⟩:=I.box k b cs hb hcs;rw[iu oc] at q1;have q3:=q3 oc;have s7:0<(n+m)*i.size:=Nat.mul_pos (by omega) hsp;have yB:cs≠[]:=λh=>by subst h;simp at fk;omega
   have q4:=q4 yB;have abQ:off+n*i.size+news.size<=O cs:=by
    have e1:off+n*i.size+m*i.size=off+(n+m)*i.size:=by rw[fX];omega
    omega
   have hrun:=Sv (ty:=o.type) ht hu ib hi S b off n cap T vs fr q1 (λk hk hk2=>q4 k (bD _) hk2) hroom (by have:=q2.1;omega);obtain⟨F,J⟩:=I.store hb hcs (us:=news.toList) (ds:=ds) (by simpa using S.rep) S.one (off:=off+n*i.size) (by rw[s9,<-hnews];exact abQ) q1 q4 q2 oc yB;exact⟨_,_,γ,.inl (fin _ _ (by rw[hv];exact hrun)),.refl γ,by simpa using F,by simpa using J,bO⟩
  unfold dx at he;split at he
  .rename_i k e' n bQ hn;split at he
   .rename_i L9;obtain⟨rfl,rfl⟩:=L9;have yC:=gJ;rw[hn] at yC;generalize hv:a.eval s=v at yC;cases yC with
    |ae _ _ _ _ b c hb hcc hcm hk2 dY=>
     split at he
     .rename_i gh;cases he;exact .same I (fin _ _ (by rw[hv];exact L8 (ty:=o.type) ht hu ib hi S gh _ n c hcc)) (by rw[hv] at gJ;exact gJ)
     .rename_i gh;split at he
      .rename_i cs hcs;split at he
       .rename_i hc2;obtain⟨oc,hlen,yB⟩:=hc2;obtain⟨vs,T,fr,q1,q2,q3,q4⟩:=I.box k b cs hb hcs;rw[iu oc] at q1;have q3:=q3 oc;have q4:=q4 yB;obtain⟨cL,ct,z1,z2,z3⟩:=I.aY b _ _ dY;rw[Nat.mul_add_div (by decide:0<2),Nat.div_eq_of_lt (by omega),nO] at z1;rw[q1] at z1;cases z1;split at he
        .rename_i fk;cases he;have hroom:n+m<=c:=by
          have h1:(n+m)*i.size<=c*i.size:=by have:=q2.1;omega
          exact Nat.le_of_mul_le_mul_right h1 hsp
         have:=Sy k b 0 n c cs (.ae k e' (n+m) i.size) hv hroom (by omega) hb hcs oc (by omega) (.ae _ _ _ _ b c hb hroom hcm hk2 dY);simpa using this
        .rename_i fk;split at he
         .rename_i hroom;cases he;have Sz:=abM q2 (n*i.size) hlen;have jy:(vs.toList.take (n*i.size)).toArray.size=n*i.size:=by have:=q2.1;simp;omega
          have lu:O (cs.take (n*i.size))=n*i.size:=by simp;omega
          by_cases uF:n+m<=c
          .
           have Sj:n*i.size+news.size<=vs.size:=by
            rw[hnews,z2,<-fX];exact ju _ uF
           have hrun:=Sv (ty:=o.type) ht hu ib hi S b 0 n c _ vs fr q1 (λk hk hk2=>q4 k (bD _) hk2) uF (by omega);simp only[ez] at hrun;have wE:(vs.toList.take (n*i.size)++news.toList++vs.toList.drop (n*i.size+news.size)).toArray.size=vs.size:=by simp;omega
           have ja:eI γ (vs.toList.take (n*i.size)++news.toList++vs.toList.drop (n*i.size+news.size)).toArray (cs.take (n*i.size)++ds):=by
            have e1:(vs.toList.take (n*i.size)++news.toList++vs.toList.drop (n*i.size+news.size)).toArray=(vs.toList.take (n*i.size)).toArray++(news++(vs.toList.drop (n*i.size+news.size)).toArray):=by
             apply Av;simp
            rw[e1];exact Sw (by rw[jy,lu]) Sz S.rep
           obtain⟨g1,g2,g3⟩:=I.L5 hb hcs yB oc q1 q4 wE dY ja (λc hc=>by
            rcases cx.1 hc with h |h
            .exact q3 c (jn h)
            .exact S.one c h)
           refine⟨_,_,_,.inl (fin _ _ (by rw[hv];exact hrun)),g1,g2,g3,.ae _ _ _ _ b c ?_ uF hcm hk2 dY⟩;show(γ.boxes++[b])[O H.bx]? =Z b;rw[<-I.cS];simp
          .have hold:∀w',(∀ad,w'.cell? ad=w.cell? ad)->(Builtin.firstCells i.size n (.slice (Z ⟨b,0,Y⟩) n c)).run P w'= .ok (vs.toList.take (n*i.size)).toArray w':=λw' hw'=>by
            refine run_firstCells_some (P:=P) w' i.size n _ _ _ _ (by have:=q2.1;simp;omega) (λj v hj=>?_);rw[Addr.add_lit,hw'];rw[gL] at hj;split at hj
            .simp only[World.cell?,q1,ez];simpa using hj
            .cases hj
           obtain⟨f1,I1⟩:=I.LZ hb hcs yB dY;have:=fresh γ {H with bx:=H.bx.set k []} (Z ⟨b,0,Y⟩) n c (vs.toList.take (n*i.size)).toArray (cs.take (n*i.size)) (.refl γ) f1 I1 hv (by omega) hroom hold (by rw[jy,lu]) jy Sz (λc hc=>q3 c (jn hc));simpa using this
         .cases he
       .cases he
      .cases he
   .cases he
  .rename_i k off n c bQ hn;split at he
   .rename_i hsz;subst hsz;have yC:=gJ;rw[hn] at yC;generalize hv:a.eval s=v at yC;cases yC with
    |bH _ _ _ _ _ b c' hb hcc dQ=>
     have dQ:=dQ c rfl;subst dQ;split at he
     .rename_i gh;cases he;exact .same I (fin _ _ (by rw[hv];exact L8 (ty:=o.type) ht hu ib hi S gh _ n _ hcc)) (by rw[hv] at gJ;exact gJ)
     .rename_i gh;split at he
      .rename_i cs hcs;split at he
       .rename_i hc2;obtain⟨oc,hlen⟩:=hc2;split at he
        .rename_i hroom;split at he
         .rename_i fk;cases he;exact Sy k b off n _ cs _ hv hroom (by omega) hb hcs oc fk (.bH _ _ _ _ _ b _ hb hroom (λk hk=>by cases hk;rfl))
         .cases he
        .rename_i hroom;split at he
         .rename_i Ma;cases he;obtain⟨olds,So⟩:=L6 (P:=P) (c:=c') I (sz:=i.size) hb hcs oc hlen;exact fresh γ H _ n _ olds _ (.refl γ) (.refl γ H w) I hv (by omega) Ma So.cells (by rw[So.rep.1]) So.size So.rep.Db So.one
         .cases he
       .cases he
      .cases he
   .cases he
  .split at he
   .rename_i es hes;have abR:∃base,a.eval s= .slice base (O es) (O es)/\aQ γ.mem (.slice base (O es) (O es)) (.slice i.size es):=by
     unfold iT at hes;split at hes
     .rename_i hn;cases hes;rw[hn] at gJ;exact⟨Y,gJ.cu.sY,.lq _ _ _⟩
     .rename_i bQ hn;split at hes
      .rename_i hsz;subst hsz;cases hes;rw[hn] at gJ;generalize a.eval s=v at gJ;cases gJ with
       |fL ad _=>exact⟨ad,rfl,.lq _ _ _⟩
      .cases hes
     .rename_i e' bQ es' hn;split at hes
      .rename_i hsz;subst hsz;cases hes;rw[hn] at gJ;generalize a.eval s=v at gJ;cases gJ with
       |cC b n _ _ _ hb dY hlen ja=>subst hlen;exact⟨_,rfl,ja⟩
      .cases hes
     .rename_i bQ es' hn;split at hes
      .rename_i hsz;subst hsz;cases hes;rw[hn] at gJ;generalize a.eval s=v at gJ;cases gJ with
       |fB ad n _ _ hlen ja=>subst hlen;exact⟨_,rfl,ja⟩
      .cases hes
     .cases hes
    obtain⟨base,hv,ja⟩:=abR;split at he
    .rename_i gh;cases he;exact .same I (fin _ _ (by rw[hv];exact L8 (ty:=o.type) ht hu ib hi S gh _ _ _ (aK _))) (by rw[hv] at gJ;exact gJ)
    .rename_i gh;split at he
     .rename_i hroom;cases he;obtain⟨olds,So⟩:=LU (P:=P) I hsp ja;obtain⟨q1,q2⟩:=gT.flat So.rep (tail:=#[]) γ rfl;have jy:=So.rep.1;have dZ:O ((es.flatMap PD.cells).map D.p)=O es*i.size:=by rw[bT,wF es λe he=>(So.rep.2.1 e he).1]
      exact fresh γ H base (O es) (O es) olds _ (.refl γ) (.refl γ H w) I hv (by omega) hroom So.cells (by rw[dZ,jy]) jy (by simpa using q1) q2
     .cases he
   .cases he
 .cases he
theorem abS(I:Inv G γ H w)(E:aW γ env a.tmps){e:TypeId}{l c:Operand}{l' c':aA}{z:PD}(ho:o.op= .makeSlice t l c)(ht:P.underlying t=Z (.slice e))(hi:P.info? e=Z i)(hz:zeroOf P e=Z z)
    (hl:aL l=Z l') (hc:aL c=Z c') {d:D}  (he:aP G env H (.makesl i.size z i.bytes l' c')=Z (d,H')):Done P G γ H w a o d H':=by
 simp only[aP] at he;unfold Gk at he;split at he
 .rename_i n m hn hm;split at he
  .rename_i L9;obtain⟨A4,hroom,hzl,Mb⟩:=L9;cases he;obtain⟨k1,hlv⟩:=yv (cg E hl) hn;obtain⟨k2,hcv⟩:=yv (cg E hc) hm;obtain⟨v,hiz,q2⟩:∃v,i.zero=Z v/\AV v=Z z:=by
    unfold zeroOf at hz;rw[hi] at hz;dsimp only at hz;split at hz
    .rename_i v hv;exact⟨v,hv,hz⟩
    .cases hz
   have hv:=uw γ.mem q2;have G2:m<=140737488355328/\m*i.bytes<=140737488355328:=by simpa[roomy] using hroom
   have hb:(i.bytes:Int)*(m:Int)<=281474976710656:=by
    have :m*i.bytes=i.bytes*m:=tV _ _;have h2:i.bytes*m<=281474976710656:=by omega
    rw[<-Int.natCast_mul];omega
   have hrun:=run_make (P:=P) w t e i v ht hi hiz k1 k2 (n:Int) (m:Int) (by omega) (by omega) hb (by omega);simp only[sQ] at hrun;have zr:gT γ.mem i.size (madeCells v.cells (m*i.size)) (dX m z):=by
    have:=LS hv (len:=m) hzl (gV.1 Mb);simpa[madeCells] using this
   obtain⟨r1,r2⟩:=gT.flat zr (tail:=#[]) γ rfl;obtain⟨γ',a1,a2,_,a3,a4⟩:=I.De e (vs:=madeCells v.cells (m*i.size)) (cs:=((dX m z).flatMap PD.cells).map .p) (λ_ h _ _=>(show eI γ _ _ by simpa using r1).mono h) r2;exact⟨_,_,γ',.inl (by simp[execOp,ho,hlv,hcv,hrun]),a1,a3,a4,.bH _ _ _ _ _ _ _ a2 A4 (λk hk=>by cases hk;rfl)⟩
  .cases he
 .cases he
theorem abU(I:Inv G γ H w)(E:aW γ env a.tmps){e:TypeId}{len n:Nat}{parts:Array (Nat×Operand)}{z:PD}{qs:List (Nat×Nat×aA)}(ho:o.op= .buildSlice t len parts)(ht:P.underlying t=Z (.slice e))
    (hn:fN P e=Z n) (hz:zeroOf P e=Z z) (hq:partsOf P (λi=>Z (i*n,n)) parts.toList=Z qs) (uD:len*n<=16777216/\0<n) {d:D}  (he:aP G env H (.bsliceG e n len z qs)=Z (d,H')):Done P G γ H w a o d H':=by
 simp only[aP] at he;split at he
 .rename_i h1;obtain⟨h1,h2,h3⟩:=h1;obtain⟨cs,hcs,dG,hh⟩:∃cs,aF (((dX len z).flatMap PD.cells).map .p) (qs.map fun(o,n,x)=>(o,n,x.ev env))=Z cs/\O cs=len*n/\(D.ae (O H.bx) e len n,({H with bx:=H.bx++[cs]}:Hp))=(d,H'):=by
   split at he
   .rename_i cs hcs;split at he
    .rename_i dG;exact⟨cs,hcs,dG,nQ he⟩
    .cases he
   .cases he
  cases hh;obtain⟨v,q1,q2⟩:=yu hz w;have hv:=uw γ.mem q2;have hp:(parts.map fun(x:Nat×Operand)=>(x.1,a.eval x.2)).toList=parts.toList.map λp=>(p.1,a.eval p.2):=G0 parts a.eval;have h0:len*n≠0:=Nat.mul_ne_zero (by omega) (by omega);have zr:=LS hv (len:=len) h1 (gV.1 h2);obtain⟨r1,r2⟩:=gT.flat zr (tail:=#[]) γ rfl;have r1:eI γ ((K9 (len*n)).map λi=>v.cells[i%v.cells.size]!) (((dX len z).flatMap PD.cells).map D.p):=by simpa using r1
  have dZ:O (((dX len z).flatMap PD.cells).map D.p)=len*n:=by
   rw[bT,wF (sz:=n) _ λe he=>by rw[(ZZ.1 he).2];exact h1,CV]
  obtain⟨cells',c1,c2,c3⟩:=GZ E parts.toList qs _ _ cs hq (cv.Su r1 (by rw[dZ];simp)) r2 hcs;obtain⟨γ',a1,a2,a5,a3,a4⟩:=I.De e (vs:=cells') (cs:=cs) (λ_ h _ _=>c2.Db.mono h) c3;rw[c2.1,dG] at a5;have jc:len<=maxLen:=by
   have h5:len*1<=len*n:=Nat.mul_le_mul_left _ uD.2;have h6:=uD.1;simp only[maxLen];omega
  refine⟨_,_,γ',.inl ?_,a1,a3,a4,.ae _ _ _ _ _ _ a2 (aK _) jc (k:=0) (by decide) a5⟩;have e1:¬(len*n>2 ^ 24):=by have:=uD.1;omega
  simp only[execOp,ho,Instr.buildSlice,Sem.run_bind,Result.andThen_ok,run_underlying ht,lW hn,e1,if_false,hp];simp[h0,q1,c1,newRow]
 .cases he

end Go.Vs

namespace Go.Vs
open Go.MapKept
variable {P : Program} {w : World}
structure SA (P:Program) (kt kd:Nat):Prop where
 iff:∀{m:Mem} {u v:Value} {x y:PD},aQ m u x->aQ m v y->dS x=kd->dS y=kd->(iU x y=true↔u=v)
 G3:∀{m:Mem} {u:Value} {x:PD} (w:World) (e:Bool),aQ m u x->dS x=kd->(Instr.checkKey e 10000 kt u).run P w= .ok () w
 Mc:∀{m:Mem} {u:Value} {x:PD} (es:List MapEntry) (w:World),aQ m u x->dS x=kd->(∀e∈es,∃y,aQ m e.key y/\dS y=kd)->
  ((Instr.findKey kt u es).run P w= .ok Y w/\∀e∈es,e.key≠u)\/∃(j:Nat) (e:MapEntry),(Instr.findKey kt u es).run P w= .ok (Z (j,e.val)) w/\es[j]? =Z e/\e.key=u
 stay:∀{m:Mem} {u:Value} {x:PD} (w:World),aQ m u x->dS x=kd->(Instr.keyThatStays u u).run P w= .ok u w
theorem G4{a b:IntKind}(h:oK a=oK b):a=b:=by cases a<;>cases b<;>first |rfl |cases h
theorem SB(a:IntKind):10<=oK a:=by cases a<;>decide
theorem Md(a:IntKind):oK a<100:=by cases a<;>decide
variable{m:Mem}{kd:Nat}{x:PD}{kt:TypeId}{v u:Value}
theorem Me(h:100<=dS x):∃k a b c,x= .agg [.int k a,.int k b,.int k c]/\dS x=100+oK k:=by
 unfold dS at h;split at h
 .omega
 .have:=Md ‹_›;omega
 .omega
 .rename_i k a k' b k'' c;split at h
  .rename_i hk;obtain⟨rfl,rfl⟩:=hk;exact⟨k,a,b,c,rfl,by simp[dS]⟩
  .omega
 .omega
theorem SD(ds:List PD):dS (.agg ds)=1\/100<=dS (.agg ds):=by
 unfold dS;split
 .rename_i h;cases h
 .rename_i h;cases h
 .rename_i h;cases h
 .split
  .right;omega
  .left;rfl
 .left;rfl
theorem Dp{k:IntKind}{a b c:Int}(h:aQ m v (.agg [.int k a,.int k b,.int k c])):v= .agg #[.int k a,.int k b,.int k c]:=by
 obtain⟨cs,rfl,hs,_,hr⟩:=h.LJ;have h0:=(hr 0 _ rfl).jK;have h1:=(hr 1 _ rfl).jK;have h2:=(hr 2 _ rfl).jK;congr 1
 apply Lb
 .simpa using hs
 .intro i q1 q2;have hi:i<3:=by simpa using q2
  have e:cs[i]=cs.getD i undef:=by simp[bP,q1]
  rw[e]
  match i,hi with
  | 0,_=>exact h0
  | 1,_=>exact h1
  | 2,_=>exact h2
theorem abV{e:TypeId}{k:IntKind}(ht:P.underlying kt=Z (.array 3 e))(he:P.underlying e=Z (.int k))(hs:fN P e=Z 1)(em:Bool)(n:Nat)(a b c:Int):
    (Instr.checkKey em (n+2) kt (.agg #[.int k a,.int k b,.int k c])).run P w= .ok () w:=by
 have hg:∀w,(isAgg e).run P w= .ok false w:=λw=>by simp[isAgg,run_underlying he]
 simp[Instr.checkKey,run_underlying ht,run_underlying he,lW hs,part,hg,Std.Legacy.Range.forIn_eq_forIn_range',Std.Legacy.Range.size,xX]
theorem abW{e:TypeId}{k:IntKind}(ht:P.underlying kt=Z (.array 3 e))(he:P.underlying e=Z (.int k))(hs:fN P e=Z 1)(n:Nat)(a b c x y z:Int):
    (Op.equalIn (n+1+1) kt (.agg #[.int k a,.int k b,.int k c]) (.agg #[.int k x,.int k y,.int k z])).run P w= .ok (a==x&&b==y&&c==z) w:=by
 have hg:∀w,(isAgg e).run P w= .ok false w:=λw=>by simp[isAgg,run_underlying he]
 have e1:∀(p q:Int) (w:World),(Op.equalIn (n+1) e (.int k p) (.int k q)).run P w= .ok (p==q) w:=λp q w=>by simp[Op.equalIn,run_underlying he]
 rw[Op.equalIn];by_cases h1:a=x<;>by_cases h2:b=y<;>by_cases h3:c=z<;>
  simp[run_underlying ht,lW hs,part,hg,Std.Legacy.Range.forIn_eq_forIn_range',Std.Legacy.Range.size,xX,e1,h1,h2,h3]
theorem abX{e:TypeId}{k:IntKind}(ht:P.underlying kt=Z (.array 3 e))(he:P.underlying e=Z (.int k))(hs:fN P e=Z 1)(a b c x y z:Int):
    (Op.equal kt (.agg #[.int k a,.int k b,.int k c]) (.agg #[.int k x,.int k y,.int k z])).run P w= .ok (a==x&&b==y&&c==z) w:=
 abW ht he hs 9998 a b c x y z
theorem SE{kt e:TypeId}{k:IntKind}(ht:P.underlying kt=Z (.array 3 e))(he:P.underlying e=Z (.int k))(hs:fN P e=Z 1)(a b c:Int):
    ∀(es:List MapEntry) (i:Nat),(∀e∈es,∃x y z,e.key= .agg #[.int k x,.int k y,.int k z])->
     ((Instr.findAsking kt (.agg #[.int k a,.int k b,.int k c]) es i).run P w= .ok Y w/\∀e∈es,e.key≠.agg #[.int k a,.int k b,.int k c])\/
     ∃(j:Nat) (e:MapEntry),(Instr.findAsking kt (.agg #[.int k a,.int k b,.int k c]) es i).run P w= .ok (Z (i+j,e.val)) w/\es[j]? =Z e/\e.key= .agg #[.int k a,.int k b,.int k c]
 |[],i,_=>.inl ⟨by simp[Instr.findAsking],λe h=>by simp at h⟩
 |m::es,i,h=>by
  obtain⟨x,y,z,hm⟩:=h m (by simp);have hq:=abX (w:=w) ht he hs a b c x y z;cases hb:(a==x&&b==y&&c==z) with
  |true=>
   refine .inr ⟨0,m,?_,rfl,?_⟩
   .simp[Instr.findAsking,hm,hq,hb]
   .simp at hb;rw[hm,hb.1.1,hb.1.2,hb.2]
  |false=>
   have hne:m.key≠.agg #[.int k a,.int k b,.int k c]:=λhe=>by
    rw[hm] at he;simp at he;simp[he] at hb
   rcases SE ht he hs a b c es (i+1) (λe h'=>h e (by simp[h'])) with⟨q1,q2⟩ |⟨j,e,q1,q2,q3⟩
   .refine .inl ⟨by simp[Instr.findAsking,hm,hq,hb,q1],λe h'=>?_⟩;rcases cq.1 h' with rfl |h'
    .exact hne
    .exact q2 e h'
   .refine .inr ⟨j+1,e,?_,q2,q3⟩;simp[Instr.findAsking,hm,hq,hb,q1];omega
theorem abY{e:TypeId}(ht:P.underlying kt=Z (.array 3 e))(u:Value)(es:List MapEntry):(Instr.findKey kt u es).run P w=(Instr.findAsking kt u es 0).run P w:=by
 cases es with
 |nil=>simp[Instr.findKey,run_underlying ht,Instr.findNow,Instr.findAsking]
 |cons m es=>simp[Instr.findKey,run_underlying ht,Instr.findNow,Instr.sameNow]
theorem abZ{d:TypeDesc}(hd:GI d=Z kd)(hu:aQ m u x)(hx:dS x=kd)(h1:kd≠1):IsKey d u:=by
 have g:=λa=>SB a;have g2:=λa=>Md a;subst hx;cases hu
 case agg cs ds hl dP hr=>
  exfalso;rcases SD ds with h |h
  .exact h1 h
  .generalize dS (.agg ds)=n at h hd;cases d<;>simp only[GI,bM,reduceCtorEq] at hd
   .omega
   .have:=g2 ‹_›;omega
   .omega
 all_goals cases d<;>simp only[GI,bM,reduceCtorEq] at hd<;>simp only[dS] at hd h1<;>
  first
   |trivial
   |exact G4 hd.symm
   |(exfalso;have q:=g ‹_›;omega)
   |(exact absurd rfl h1)
theorem ab0{y:PD}(hu:aQ m u x)(hv:aQ m v y)(hk:dS x=dS y)(h1:dS x≠1):iU x y=true↔u=v:=by
 have g:=λa=>SB a;have g2:=λa=>Md a;by_cases ab1:100<=dS x
 .obtain⟨k,a,b,c,rfl,e1⟩:=Me ab1;obtain⟨k',a',b',c',rfl,e2⟩:=Me (x:=y) (by omega);have:=G4 (show oK k=oK k' by omega);subst this;rw[Dp hu,Dp hv];simp[iU];exact⟨λ⟨⟨p,q⟩,r⟩=>⟨p,q,r⟩,λ⟨p,q,r⟩=>⟨⟨p,q⟩,r⟩⟩
 have hx:∀{ds:List PD},dS (.agg ds)<100->dS (.agg ds)=1:=λ{ds} h=>by
  rcases SD ds with q |q
  .exact q
  .omega
 have hy1:dS y≠1:=by rw[<-hk];exact h1
 have ab3:dS y<100:=by omega
 cases hu<;>first |(exfalso;exact h1 rfl) |(exfalso;exact h1 (hx (by omega))) |skip
 all_goals cases hv<;>first |(exfalso;exact hy1 (hx ab3)) |(exfalso;simp only[dS] at hk;omega) |(exfalso;simp only[dS] at hk;have q:=g ‹_›;omega) |skip
 .simp[iU]
 .have:=G4 hk;subst this;simp[iU]
 .simp[iU]
theorem G5{kt:Nat}(h:kindOf P kt=Z kd)(h1:kd≠1):SA P kt kd:=by
 have SG:∀{m:Mem} {u v:Value} {x y:PD},aQ m u x->aQ m v y->dS x=kd->dS y=kd->(iU x y=true↔u=v):=λhu hv hx hy=>ab0 hu hv (hx.trans hy.symm) (by rw[hx];exact h1);unfold kindOf at h;split at h
 .rename_i e ht;split at h
  .rename_i k he hs;cases h;have get:∀{m:Mem} {u:Value} {x:PD},aQ m u x->dS x=100+oK k->∃a b c,u= .agg #[.int k a,.int k b,.int k c]:=λ{m u x} hu hx=>by
    obtain⟨k',a,b,c,rfl,e1⟩:=Me (x:=x) (by omega);have:=G4 (show oK k=oK k' by omega);subst this;exact⟨a,b,c,Dp hu⟩
   refine⟨SG,λ{m u x} w em hu hx=>?_,λ{m u x} es w hu hx hes=>?_,λ{m u x} w hu hx=>?_⟩
   .obtain⟨a,b,c,rfl⟩:=get hu hx;exact abV ht he hs em 9998 a b c
   .obtain⟨a,b,c,rfl⟩:=get hu hx;rw[abY ht];have:=SE (w:=w) ht he hs a b c es 0 (λe h=>by
     obtain⟨y,q1,q2⟩:=hes e h;exact get q1 q2)
    simpa using this
   .obtain⟨a,b,c,rfl⟩:=get hu hx;simp[Instr.keyThatStays,Instr.sameBits]
  .cases h
 .rename_i d hne hd;have ik:∀{m:Mem} {u:Value} {x:PD},aQ m u x->dS x=kd->IsKey d u:=λhu hx=>abZ h hu hx h1;refine⟨SG,λw em hu hx=>run_checkKey hd (ik hu hx) em 9999,λ{m u x} es w hu hx hes=>?_,λw hu hx=>run_keyThatStays (ik hu hx)⟩;rcases findNow_spec (ik hu hx) es 0 (λe h=>by obtain⟨y,q1,q2⟩:=hes e h;exact ik q1 q2) with⟨q1,q2⟩ |⟨j,e,q1,q2,q3⟩
  .exact .inl ⟨run_findKey hd q1,q2⟩
  .exact .inr ⟨j,e,by simpa using run_findKey hd q1,q2,q3⟩
 .cases h

end Go.Vs

namespace Go.Vs
open Go.MapKept

variable{es:Array MapEntry}{γ:Gh}{H':Hp}{vs:List D}{kd i b j:Nat}{m' k' x':aA}{m x:Operand}{t kt et:TypeId}{v:Value}
variable{P : Program} {G : Nat -> Option (List PD)}  {H : Hp} {w : World} {env : Env} {a : Act} {o : Oper}
theorem Inv.ab4(I:Inv G γ H w)(kd:Nat):
    ∃γ',γ.le γ'/\γ'.boxes[O H.bx]? =Z w.heap.size/\Frame γ H w γ' {H with bx:=H.bx++[[.cD kd [] []]]} (w.alloc (.map #[] 0))/\Inv G γ' {H with bx:=H.bx++[[.cD kd [] []]]} (w.alloc (.map #[] 0)):=by
 let cs:List D:=[.cD kd [] []]
 let γ':Gh:={γ with boxes:=γ.boxes++[w.heap.size]}
 have hle:γ.le γ':=⟨rfl,λc x h=>h,λ_ _ _ h=>h,λi b h=>by
  have hi:i<O γ.boxes:=(af.1 h).1;show(γ.boxes++[w.heap.size])[i]? =Z b;rw[aT hi];exact h,λt r h=>⟨r,h,rfl,rfl,λ_ _ h=>h⟩⟩
 have dM:∀t b,cZ γ' {H with bx:=H.bx++[cs]} t b->cZ γ H t b:=λt b h=>cZ.congr (λ_ _ h=>h) (λ_ _ h=>h) h;have bS:γ'.boxes[O H.bx]? =Z w.heap.size:=by
  show(γ.boxes++[w.heap.size])[O H.bx]? =_;rw[<-I.cS];simp
 refine⟨γ',hle,bS,?_,?_⟩
 .refine⟨rfl,rfl,rfl,by simp,λb hb _=>?_,λb o _ _=>rfl,λb hb=>?_,λt b hb=>.inl (dM t b hb),λb hb=>by
  rcases cx.1 (show b∈γ.boxes++[w.heap.size] from hb) with h |h
  .exact .inl h
  .exact .inr (by simp at h;omega)⟩
  .rw[heap_alloc,if_neg (by omega)];exact⟨λ_=>rfl,.refl _ _⟩
  .rcases Lv.push (γ':=γ') (H':={H with bx:=H.bx++[cs]}) I.cS rfl rfl hb with h |h
   .exact .inl h
   .exact .inr (by omega)
 .constructor
  .have:=I.size;show γ.base<=(w.alloc (.map #[] 0)).heap.size;simp;omega
  .intro b T' n hb;obtain⟨us,fr,h2,h3⟩:=I.aY b T' n hb;have:=(fG.1 h2).1;exact⟨us,fr,by rw[heap_alloc,if_neg (by omega)];exact h2,h3⟩
  .exact I.jq
  .intro b o v h;have hlt:=I.sV h;rw[wA (w:=w) (by rw[heap_alloc,if_neg (by omega)])];exact I.mem b o v h
  .exact I.jv
  .show(γ.boxes++[w.heap.size]).length=O (H.bx++[cs]);simp[I.cS]
  .exact I.GD I.Lx rfl rfl
  .intro i b cs' hb hc;have hb:(γ.boxes++[w.heap.size])[i]? =Z b:=hb;have hc:(H.bx++[cs])[i]? =Z cs':=hc;by_cases hi:i<O γ.boxes
   .rw[aT hi] at hb;rw[aT (by rw[<-I.cS];exact hi)] at hc;obtain⟨cL,T',ct,a1,a2,a3⟩:=I.box i b cs' hb hc;have:=I.nZ (bB hb);exact⟨cL,T',ct,by rw[heap_alloc,if_neg (by omega)];exact a1,a2.mono hle,a3⟩
   .have hi':i=O γ.boxes:=by
     have:=(af.1 hb).1;simp at this;omega
    subst hi';rw[cR (aK _)] at hb;rw[I.cS,cR (aK _)] at hc;simp at hb hc;subst hb;subst hc;refine⟨#[.func (.func 0) #[] #[]],0,(0,0),by rw[heap_alloc,if_pos rfl];simp[nY,cs,ay],⟨by simp[cs],λi d hd=>?_⟩,λhm=>by simp[cs,ay] at hm,λ_ k _ _ hk=>by omega⟩
    match i with
    | 0=>
     simp only[cs,ey,bM] at hd;subst hd;exact .cD #[] #[] kd [] [] id rfl rfl rfl (λj h=>by simp at h) (λj j' h=>by simp at h) (λj h=>by simp at h) (λi x h=>by simp at h) (λi j x y h=>by simp at h) (λi x h=>by simp at h)
    |i+1=>simp[cs] at hd
  .intro b o hb;rcases Lv.push (γ':=γ') (H':={H with bx:=H.bx++[cs]}) I.cS rfl rfl hb with h |⟨h,_⟩
   .exact I.gZ b o h
   .subst h;show γ.mem w.heap.size o=Y;cases hm:γ.mem w.heap.size o with
    |none=>rfl
    |some v=>have:=I.sV hm;omega
  .intro i b h1 h2;have h2:(H.bx++[cs])[i]? =Z []:=h2;have h1:(γ.boxes++[w.heap.size])[i]? =Z b:=h1;rcases sW I.cS h1 h2 with⟨a1,a2⟩ |⟨_,_,h⟩
   .exact I.js i b a1 a2
   .simp[cs] at h
  .exact I.fZ
  .intro t row f h1 h2;obtain⟨r,a1,a2⟩:=I.row t row f h1 h2;refine⟨r,a1,a2.keep hle.aY (λb cap hr hlt=>?_) (λb cap hr hlt o=>rfl) (λb cap hr hlt hb hb'=>?_)⟩
   .have:=I.oO ⟨row,f,cap,h1,h2,hr▸a1,hlt⟩;rw[heap_alloc,if_neg (by omega)]
   .have hb':b∈γ.boxes++[w.heap.size]:=hb';have:=I.oO ⟨row,f,cap,h1,h2,hr▸a1,hlt⟩;rcases cx.1 hb' with h |h
    .exact hb h
    .simp at h;omega
  .exact I.jx
  .intro t t' b h h';exact I.free t t' b (dM t b h) (dM t' b h')
structure qE (γ:Gh) (es:Array MapEntry) (kd:Nat) (ks:List PD) (vs:List D) (s:Nat->Nat):Prop where
 n:es.size=O ks
 d:O vs=O ks
 mZ:∀j,j<O ks->s j<O ks
 inj:∀j j',j<O ks->j'<O ks->s j=s j'->j=j'
 A5:∀m,m<O ks->∃j,j<O ks/\s j=m
 key:∀(j:Nat) e x,es[s j]? =Z e->ks[j]? =Z x->aQ γ.mem e.key x/\dS x=kd
 one:∀(j j':Nat) x y,ks[j]? =Z x->ks[j']? =Z y->iU x y=true->j=j'
 val:∀(j:Nat) e d,es[s j]? =Z e->vs[j]? =Z d->aB γ e.val d
theorem qE.rep{ks:List PD}{s:Nat->Nat}(M:qE γ es kd ks vs s):aB γ (.func (.func 0) (es.map (·.key)) (es.map (·.val))) (.cD kd ks vs):=by
 refine .cD _ _ kd ks vs s (by simp[M.n]) (by simp[M.n]) M.d M.mZ M.inj M.A5 (λj x hx=>?_) M.one (λj d hd=>?_)
 .have hj:j<O ks:=(af.1 hx).1;have hs:s j<es.size:=by rw[M.n];exact M.mZ j hj
  have:=M.key j es[s j] x (by simp[hs]) hx;simpa[bP,hs] using this
 .have hj:j<O ks:=by rw[<-M.d];exact(af.1 hd).1
  have hs:s j<es.size:=by rw[M.n];exact M.mZ j hj
  have:=M.val j es[s j] d (by simp[hs]) hd;simpa[bP,hs] using this
theorem Inv.mapBlock(I:Inv G γ H w){ks:List PD}(hb:γ.boxes[i]? =Z b)(hc:H.bx[i]? =Z [.cD kd ks vs]):
    ∃(es:Array MapEntry) (ck:Nat) (s:Nat->Nat),w.heap[b]? =Z (.map es ck)/\qE γ es kd ks vs s:=by
 obtain⟨us,T,fr,q1,q2,_⟩:=I.box i b _ hb hc;simp only[nY,ay,if_true] at q1;split at q1
 .rename_i es ck hmap;cases q1;have:=q2.2 0 _ rfl;simp only[bP] at this;have this:aB γ (.func (.func 0) (es.map (·.key)) (es.map (·.val))) (.cD kd ks vs):=by simpa using this
  cases this with
  |cD _ _ _ _ _ s hl kl dl hs hj hg hr hd kr=>
   refine⟨es,ck,s,hmap,by simpa using hl,dl,hs,hj,hg,λj e x he hx=>?_,hd,λj e d he hd=>?_⟩
   .have:=hr j x hx;simpa[bP,he] using this
   .have:=kr j d hd;simpa[bP,he] using this
 .cases q1
theorem Inv.SH(I:Inv G γ H w){kZ:Nat}{ks wG:List PD}{cL:List D}(hb:γ.boxes[i]? =Z b)(hc:H.bx[i]? =Z [.cD kd ks vs]){es':Array MapEntry}{ck ck':Nat}(hw:w.heap[b]? =Z (.map es ck))
    {s':Nat->Nat} (M:qE γ es' kZ wG cL s'):
    Frame γ H w γ {H with bx:=H.bx.set i [.cD kZ wG cL]} {w with heap:=w.heap.setIfInBounds b (.map es' ck')}/\
     Inv G γ {H with bx:=H.bx.set i [.cD kZ wG cL]} {w with heap:=w.heap.setIfInBounds b (.map es' ck')}:=by
 have eV:b∈γ.boxes:=bB hb;have hlv:Lv γ H b:=⟨i,_,hb,hc,by simp⟩;have hi:i<O H.bx:=(af.1 hc).1;have Mf:b<w.heap.size:=(fG.1 hw).1;have dM:∀t c,cZ γ {H with bx:=H.bx.set i [.cD kZ wG cL]} t c->cZ γ H t c:=λt c h=>cZ.congr (λ_ _ h=>h) (λ_ _ h=>h) h;have lr:∀c,c≠b->(w.heap.setIfInBounds b (.map es' ck'))[c]? =w.heap[c]?:=λc hne=>by simp[Ne.symm hne]
 refine⟨⟨rfl,rfl,rfl,by simp,λc _ ho=>by
  show(_->(w.heap.setIfInBounds b (.map es' ck'))[c]? =_)/\pX _ _ ((w.heap.setIfInBounds b (.map es' ck'))[c]?);rw[lr c (λe=>ho (.inl (e▸hlv)))];exact⟨λ_=>rfl,.refl _ _⟩,λ_ _ _ _=>rfl,λc hc'=>.inl (Lv.set hc (by simp) hc'),λt c h=>.inl (dM t c h),λ_ h=>.inl h⟩,?_⟩
 constructor
 .have:=I.size;simpa using this
 .intro c T' n hc';obtain⟨yq,ct,h2,h3⟩:=I.aY c T' n hc';have hcb:c≠b:=λe=>by subst e;rw[hw] at h2;cases h2
  exact⟨yq,ct,(lr c hcb).trans h2,h3⟩
 .exact I.jq
 .intro c o v h;have hne:c≠b:=λe=>by subst e;rw[I.gZ c o hlv] at h;cases h
  rw[wA (w:=w) (lr c hne)];exact I.mem c o v h
 .exact I.jv
 .simp[I.cS]
 .exact I.GF hc (by simp)
 .intro j c cs' hj hcs;by_cases cI:i=j
  .subst cI;rw[hb] at hj;cases hj;have hcs:(H.bx.set i [.cD kZ wG cL])[i]? =Z cs':=hcs;rw[eA hi] at hcs;cases hcs;have lA:(w.heap.setIfInBounds b (.map es' ck'))[b]? =Z (.map es' ck'):=by simp[Mf]
   refine⟨#[.func (.func 0) (es'.map (·.key)) (es'.map (·.val))],0,(0,0),?_,⟨by simp,λk d hd=>?_⟩,λhm=>by simp[ay] at hm,λ_ k _ _ hk=>by omega⟩
   .show nY _ ((w.heap.setIfInBounds b (.map es' ck'))[b]?)=_;rw[lA];rfl
   .match k with
    | 0=>
     simp only[ey,bM] at hd;subst hd;exact M.rep
    |k+1=>simp at hd
  .have hcs:(H.bx.set i [.cD kZ wG cL])[j]? =Z cs':=hcs;rw[bp cI] at hcs;obtain⟨yq,T',ct,a1,a2,a3⟩:=I.box j c cs' hj hcs;have hne:c≠b:=λe=>by
    subst e;have h0:cs'=[]:=pL λh0=>cI (I.nodup i j c _ cs' hb hj hc hcs (by simp) h0);subst h0;obtain⟨x,hx⟩:=I.js j c hj hcs;obtain⟨us2,Lt,z1,_⟩:=I.aY c x.1 x.2 hx;rw[hw] at z1;cases z1
   refine⟨yq,T',ct,?_,a2,a3⟩;show nY _ ((w.heap.setIfInBounds b (.map es' ck'))[c]?)=_;rw[lr c hne];exact a1
 .exact λc o h=>I.gZ c o (Lv.set hc (by simp) h)
 .intro j c hj hcs;have hcs:(H.bx.set i [.cD kZ wG cL])[j]? =Z []:=hcs;by_cases cI:i=j
  .subst cI;rw[eA hi] at hcs;simp at hcs
  .rw[bp cI] at hcs;exact I.js j c hj hcs
 .exact I.fZ
 .intro t row f h1 h2;obtain⟨r,a1,a2⟩:=I.row t row f h1 h2;refine⟨r,a1,?_⟩;refine a2.keep (λ_ _ h=>h) (λc cap hr hlt=>?_) (λ_ _ _ _ _=>rfl) (λc cap hr hlt h=>h);have hne:c≠b:=λe=>by
   subst e;subst hr;obtain⟨cur,_,_,_,_,_,_,fl⟩:=a2.2 hlt;exact fl eV
  exact lr c hne
 .exact I.jx
 .intro t t' c h h';exact I.free t t' c (dM t c h) (dM t' c h')
theorem Mg{k:PD}:∀{ks:List PD} {j:Nat},iV k ks=Z j->∃x,ks[j]? =Z x/\iU k x=true
 |a::r,j,h=>by
  simp only[iV] at h;split at h
  .rename_i he;cases h;exact⟨a,rfl,he⟩
  .obtain⟨i,hi,rfl⟩:=ak.1 h;obtain⟨x,h1,h2⟩:=Mg hi;exact⟨x,by simpa using h1,h2⟩
theorem Mh{k:PD}:∀{ks:List PD},iV k ks=Y->∀(j:Nat) x,ks[j]? =Z x->iU k x=false
 |[],_,j,x,hx=>by simp at hx
 |a::r,h,j,x,hx=>by
  simp only[iV] at h;split at h
  .cases h
  .rename_i he;have h:=aov.1 h
   match j with
   | 0=>simp only[ey,bM] at hx;subst hx;simpa using he
   |j+1=>exact Mh h j x (by simpa using hx)
theorem Mi(c:Nat):∀ks:List PD,iq c ks<=O ks
 |[]=>aK _
 |a::r=>by simp only[iq];split<;>have:=Mi c r<;>simp<;>omega
theorem rO{α:Type}(x:α):∀(p:Nat) (l:List α),O (eD p x l)=O l+1
 | 0,l=>rfl
 |p+1,[]=>rfl
 |p+1,a::l=>by simp[eD,rO x p l]
theorem G6{α:Type}(x:α):∀(p:Nat) (l:List α),p<=O l->∀i,(eD p x l)[i]? =if i<p then l[i]? else if i=p then Z x else l[i-1]?
 | 0,l,_,i=>by
  cases i with
  |zero=>simp[eD]
  |succ i=>simp[eD]
 |p+1,[],h,i=>by simp at h
 |p+1,a::l,h,i=>by
  cases i with
  |zero=>simp[eD]
  |succ i=>
   have:=G6 x p l (by simpa using h) i;simp only[eD,vY,this];by_cases h1:i<p
   .rw[if_pos h1,if_pos (show i+1<p+1 by omega)]
   .rw[if_neg h1,if_neg (show ¬i+1<p+1 by omega)];by_cases h2:i=p
    .rw[if_pos h2,if_pos (show i+1=p+1 by omega)]
    .rw[if_neg h2,if_neg (show ¬i+1=p+1 by omega)];have e:i+1-1=(i-1)+1:=by omega
     rw[e,vY]

section
variable{ks : List PD}  {s : Nat -> Nat} (M : qE γ es kd ks vs s) {kt : Nat} (hdd : SA P kt kd) {kv : Value} {k : PD} (hk : aQ γ.mem kv k) (gi : dS k = kd)
include M hdd hk gi
theorem qE.keys:∀x∈es.toList,∃y,aQ γ.mem x.key y/\dS y=kd:=by
 have _:=hk;have _:=gi;have _:=hdd;intro x hx;obtain⟨m,hm⟩:=dV hx;have dN:m<O ks:=by rw[<-M.n];simpa using (af.1 hm).1
 obtain⟨j,hj,rfl⟩:=M.A5 m dN;obtain⟨q1,q2⟩:=M.key j x _ (by simpa using hm) (aD hj);exact⟨_,q1,q2⟩
theorem qE.found(hf:iV k ks=Z j)(w:World):∃e,es[s j]? =Z e/\e.key=kv/\(Instr.findKey kt kv es.toList).run P w= .ok (Z (s j,e.val)) w:=by
 obtain⟨x,hx,he⟩:=Mg hf;have hj:j<O ks:=(af.1 hx).1;have hsj:s j<es.size:=by rw[M.n];exact M.mZ j hj
 have heq:es[s j]? =Z es[s j]:=by simp[hsj]
 obtain⟨q1,q2⟩:=M.key j _ x heq hx;have hkey:es[s j].key=kv:=((hdd.iff hk q1 gi q2).1 he).symm;refine⟨es[s j],heq,hkey,?_⟩;rcases hdd.Mc es.toList w hk gi (M.keys hdd hk gi) with⟨_,h2⟩ |⟨m,e,h2,h3,h4⟩
 .exact absurd hkey (h2 _ (by simp))
 .have hm:m<O ks:=by rw[<-M.n];simpa using (af.1 h3).1
  obtain⟨j',hj',rfl⟩:=M.A5 m hm;obtain⟨r1,r2⟩:=M.key j' e _ (by simpa using h3) (aD hj');have hq:iU x ks[j']=true:=(hdd.iff q1 r1 q2 r2).2 (hkey.trans h4.symm);have:=M.one j j' x _ hx (aD hj') hq;subst this;have h3:es[s j]? =Z e:=by simpa using h3
  rw[heq] at h3;cases h3;exact h2
theorem qE.SI(hf:iV k ks=Y)(w:World):(Instr.findKey kt kv es.toList).run P w= .ok Y w:=by
 rcases hdd.Mc es.toList w hk gi (M.keys hdd hk gi) with⟨h2,_⟩ |⟨m,e,h2,h3,h4⟩
 .exact h2
 .exfalso;have hm:m<O ks:=by rw[<-M.n];simpa using (af.1 h3).1
  obtain⟨j',hj',rfl⟩:=M.A5 m hm;obtain⟨r1,r2⟩:=M.key j' e _ (by simpa using h3) (aD hj');have hq:iU k ks[j']=true:=(hdd.iff hk r1 gi r2).2 h4.symm;rw[Mh hf j' _ (aD hj')] at hq;cases hq
theorem qE.ins(hf:iV k ks=Y){d:D}(hv:aB γ v d)(ck:Nat){p:Nat}(hp:p<=O ks):
    qE γ (es.push {key:=kv,val:=v,born:=ck}) kd (eD p k ks) (eD p d vs) (λj=>if j<p then s j else if j=p then O ks else s (j-1)):=by
 have _:=hdd;have j9:∀m e,(es.push {key:=kv,val:=v,born:=ck})[m]? =Z e->if m=O ks then e.key=kv/\e.val=v else es[m]? =Z e:=by
  intro m e hm;rw[Array.getElem?_push,M.n] at hm;split at hm
  .rename_i h;rw[if_pos h];cases hm;exact⟨rfl,rfl⟩
  .rename_i h;rw[if_neg h];exact hm
 refine⟨by simp[rO,M.n],by rw[rO,rO,M.d],λj hj=>?_,λj j' hj hj' h=>?_,λm hm=>?_,λj e x he hx=>?_,λj j' x y hx hy h=>?_,λj e y he hy=>?_⟩
 .rw[rO] at hj|-
  try dsimp only
  split
  .have:=M.mZ j (by omega);omega
  .split
   .omega
   .have:=M.mZ (j-1) (by omega);omega
 .rw[rO] at hj hj'
  try dsimp only at h
  split at h
  .rename_i a1;have b1:=M.mZ j (by omega);split at h
   .exact M.inj j j' (by omega) (by omega) h
   .split at h
    .omega
    .have:=M.inj j (j'-1) (by omega) (by omega) h;omega
  .split at h
   .rename_i a1 a2;split at h
    .have:=M.mZ j' (by omega);omega
    .split at h
     .omega
     .have:=M.mZ (j'-1) (by omega);omega
   .rename_i a1 a2;have b1:=M.mZ (j-1) (by omega);split at h
    .have:=M.inj (j-1) j' (by omega) (by omega) h;omega
    .split at h
     .omega
     .have:=M.inj (j-1) (j'-1) (by omega) (by omega) h;omega
 .rw[rO] at hm|-;by_cases hmn:m=O ks
  .exact⟨p,by omega,by simp[hmn]⟩
  .obtain⟨j,hj,rfl⟩:=M.A5 m (by omega);by_cases hjp:j<p
   .exact⟨j,by omega,by simp[hjp]⟩
   .exact⟨j+1,by omega,by rw[if_neg (by omega),if_neg (by omega)];rfl⟩
 .rw[G6 _ _ _ hp] at hx;have he:=j9 _ e he;by_cases h2:j<p
  .rw[if_pos h2] at hx;simp only[h2,if_true] at he;have:=M.mZ j (by omega);rw[if_neg (by omega)] at he;exact M.key j e x he hx
  .rw[if_neg h2] at hx;simp only[h2,if_false] at he;by_cases h3:j=p
   .rw[if_pos h3] at hx;rw[if_pos h3,if_pos rfl] at he;cases hx;rw[he.1];exact⟨hk,gi⟩
   .rw[if_neg h3] at hx;rw[if_neg h3] at he;have hj:j-1<O ks:=(af.1 hx).1;have:=M.mZ (j-1) hj;rw[if_neg (by omega)] at he;exact M.key (j-1) e x he hx
 .have lA:∀(i:Nat) z,ks[i]? =Z z->iU k z=false/\iU z k=false:=by
   intro i z hz;have hi:i<O ks:=(af.1 hz).1;have hsi:s i<es.size:=by rw[M.n];exact M.mZ i hi
   obtain⟨q1,q2⟩:=M.key i es[s i] z (by simp[hsi]) hz;have uG:=Mh hf i z hz;refine⟨uG,?_⟩;cases hq:iU z k with
   |false=>rfl
   |true=>
    have:=(hdd.iff q1 hk q2 gi).1 hq;rw[(hdd.iff hk q1 gi q2).2 this.symm] at uG;cases uG
  rw[G6 _ _ _ hp] at hx hy;by_cases a1:j<p
  .rw[if_pos a1] at hx;by_cases b1:j'<p
   .rw[if_pos b1] at hy;exact M.one j j' x y hx hy h
   .rw[if_neg b1] at hy;by_cases b2:j'=p
    .rw[if_pos b2] at hy;cases hy;rw[(lA j x hx).2] at h;cases h
    .rw[if_neg b2] at hy;have:=M.one j (j'-1) x y hx hy h;omega
  .rw[if_neg a1] at hx;by_cases a2:j=p
   .rw[if_pos a2] at hx;cases hx;by_cases b1:j'<p
    .rw[if_pos b1] at hy;rw[(lA j' y hy).1] at h;cases h
    .rw[if_neg b1] at hy;by_cases b2:j'=p
     .omega
     .rw[if_neg b2] at hy;rw[(lA _ y hy).1] at h;cases h
   .rw[if_neg a2] at hx;by_cases b1:j'<p
    .rw[if_pos b1] at hy;have:=M.one (j-1) j' x y hx hy h;omega
    .rw[if_neg b1] at hy;by_cases b2:j'=p
     .rw[if_pos b2] at hy;cases hy;rw[(lA _ x hx).2] at h;cases h
     .rw[if_neg b2] at hy;have:=M.one (j-1) (j'-1) x y hx hy h;omega
 .rw[G6 _ _ _ (by rw[M.d];exact hp)] at hy;have he:=j9 _ e he;by_cases h2:j<p
  .rw[if_pos h2] at hy;simp only[h2,if_true] at he;have:=M.mZ j (by omega);rw[if_neg (by omega)] at he;exact M.val j e y he hy
  .rw[if_neg h2] at hy;simp only[h2,if_false] at he;by_cases h3:j=p
   .rw[if_pos h3] at hy;rw[if_pos h3,if_pos rfl] at he;cases hy;rw[he.2];exact hv
   .rw[if_neg h3] at hy;rw[if_neg h3] at he;have hj:j-1<O ks:=by rw[<-M.d];exact(af.1 hy).1
    have:=M.mZ (j-1) hj;rw[if_neg (by omega)] at he;exact M.val (j-1) e y he hy
theorem qE.upd(hf:iV k ks=Z j){d:D}(hv:aB γ v d):
    qE γ (es.modify (s j) λe=>{e with key:=kv,val:=v}) kd ks (vs.set j d) s:=by
 obtain⟨e0,f1,f2,_⟩:=M.found hdd hk gi hf default;obtain⟨x0,hx0,_⟩:=Mg hf;have jz:j<O ks:=(af.1 hx0).1;have j9:∀m e,(es.modify (s j) λe=>{e with key:=kv,val:=v})[m]? =Z e->if m=s j then e.key=kv/\e.val=v else es[m]? =Z e:=by
  intro m e hm;rw[aou] at hm;by_cases cI:s j=m
  .subst cI;rw[if_pos rfl,f1] at hm;simp at hm;subst hm;simp
  .rw[if_neg cI] at hm;rw[if_neg (λe=>cI e.symm)];exact hm
 refine⟨by simp[M.n],by simp[M.d],M.mZ,M.inj,M.A5,λi e x he hx=>?_,M.one,λi e y he hy=>?_⟩
 .have hq:=j9 _ e he;have hi:i<O ks:=(af.1 hx).1;split at hq
  .rename_i hs;have:=M.inj i j hi jz hs;subst this;rw[hq.1];have:=M.key i e0 x f1 hx;rw[f2] at this;exact this
  .exact M.key i e x hq hx
 .have hq:=j9 _ e he;have hi:i<O ks:=by rw[<-M.d];simpa using (af.1 hy).1
  split at hq
  .rename_i hs;have:=M.inj i j hi jz hs;subst this;rw[eA (by rw[M.d];exact hi)] at hy;cases hy;rw[hq.2];exact hv
  .rename_i hs;have hne:j≠i:=λe=>hs (by rw[e]);rw[bp hne] at hy;exact M.val i e y hq hy
end
theorem ab8(I:Inv G γ H w)(ho:o.op= .makeMap t Y){d:D}(he:aP G env H (.wo kd)=Z (d,H')):Done P G γ H w a o d H':=by
 simp only[aP] at he;cases he;obtain⟨γ',a1,a2,a3,a4⟩:=I.ab4 kd;exact⟨.map (Z w.heap.size),_,γ',.inl (by simp[execOp,ho,Instr.makeMap]),a1,a3,a4,.dD _ _ a2⟩
theorem ab9(I:Inv G γ H w)(E:aW γ env a.tmps){t kt et:TypeId}{m k:Operand}{m' k':aA}{ok:Bool}{kd:Nat}{z:PD}(ho:o.op= .lookup t m k ok)(ht:P.underlying t=some (.map kt et))(hg:kindOf P kt=some kd)(hz:zeroOf P et=some z)
    (hm:aL m=some m') (hk:aL k=some k') {d:D} {H':Hp} (he:aP G env H (.mapget kd z ok m' k')=some (d,H')):Done P G γ H w a o d H':=by
 have kK:=cg E hm;have lX:=cg E hk;simp only[aP] at he;obtain⟨d0,eW,hh⟩:=ak.1 he;cases hh;obtain⟨zv,hz1,hz2⟩:=yu hz w;have G7:=uw γ.mem hz2;have fin:∀(v:Value) (found:Bool) (dv:D),(Instr.lookup t (a.eval m) (a.eval k) ok).run P w= .ok (if ok then .tuple #[v,.bool found] else v) w→aB γ v dv→Done P G γ H w a o (if ok then .ba [dv,.p (.bool found)] else dv) H:=by
  intro v found dv hrun hv;refine .same I (v:=if ok then .tuple #[v,.bool found] else v) (by simp[execOp,ho,hrun]) ?_;cases ok with
  |false=>exact hv
  |true=>
   refine .ba _ _ rfl fun i x hx=>?_
   match i with
   | 0=>simp only[ey,bM] at hx;subst hx;exact hv
   | 1=>simp only[vY,ey,bM] at hx;subst hx;exact .p _ _ (.bool _)
   |i+2=>simp at hx
 unfold AK at eW;split at eW
 ·rename_i kx gh qF;split at eW
  ·rename_i hc;cases eW;rw[gh] at kK;rw[qF] at lX;have rN:a.eval m= .map none:=by
    generalize a.eval m=v at kK;cases kK with
    |p _ _ h=>cases h;rfl
   have hdd:=G5 hg hc.2;have hik:=fun w em=>hdd.G3 w em lX.cu hc.1;have f3:(Instr.findKey kt (a.eval k) []).run P w= .ok none w:=by
    rcases hdd.Mc [] w lX.cu hc.1 (fun e h=>by simp at h) with⟨q,_⟩ |⟨j,e,_,q,_⟩
    ·exact q
    ·simp at q
   have:=fin zv false (.p z) (by
    rw[rN];simp[Instr.lookup,run_underlying ht,hik,f3,hz1,Result.andThen]
    try (cases ok<;>simp)) (.p _ _ G7)
   cases ok<;>exact this
  ·cases eW
 ·rename_i i kx gh qF;rw[gh] at kK;rw[qF] at lX;split at eW
  ·rename_i kZ ks vs bS;generalize rN:a.eval m=v at kK;cases kK with
   |dD _ b hb=>
    obtain⟨es,ck,s,q1,M⟩:=I.mapBlock hb bS;split at eW
    ·rename_i hc;obtain⟨hc1,uH,hc2⟩:=hc;subst uH;have hdd:=G5 hg hc2;have hik:=fun w em=>hdd.G3 w em lX.cu hc1;split at eW
     ·rename_i j hj;obtain⟨e,f1,f2,f3⟩:=M.found hdd lX.cu hc1 hj w;obtain⟨dv,hdv,rfl⟩:=ak.1 eW;refine fin e.val true dv ?_ (M.val j e dv f1 hdv);rw[rN];simp[Instr.lookup,run_underlying ht,MapKept.run_getObj_map q1,hik,f3,Result.andThen]
      try (cases ok<;>simp)
     ·rename_i hj;have f3:=M.SI hdd lX.cu hc1 hj w;cases eW;have:=fin zv false (.p z) (by
       rw[rN];simp[Instr.lookup,run_underlying ht,MapKept.run_getObj_map q1,hik,f3,hz1,Result.andThen]
       try (cases ok<;>simp)) (.p _ _ G7)
      cases ok<;>exact this
    ·cases eW
  ·cases eW
 ·cases eW
theorem SJ(I:Inv G γ H w)(E:aW γ env a.tmps){k:Operand}(ho:o.op= .mapUpdate t m k x\/o.op= .insert t m k x)(ht:P.underlying t=Z (.map kt et))(hg:kindOf P kt=Z kd)
    (hm:aL m=Z m') (hk:aL k=Z k') (hx:aL x=Z x') {d:D}  (he:rH kd (m'.ev env) (k'.ev env) (x'.ev env) H=Z (d,H')):Done P G γ H w a o d H':=by
 have kK:=cg E hm;have lX:=cg E hk;have aN:=cg E hx;unfold rH at he;split at he
 .rename_i i kx gh qF;rw[gh] at kK;rw[qF] at lX;split at he
  .rename_i kZ ks vs bS;generalize rN:a.eval m=v at kK;cases kK with
   |dD _ b hb=>
    obtain⟨es,ck,s,q1,M⟩:=I.mapBlock hb bS;split at he
    .rename_i hc;obtain⟨hc1,uH,hc2,hc3,_⟩:=hc;cases he;subst uH;have hdd:=G5 hg hc2;have hik:=λw em=>hdd.G3 w em lX.cu hc1;have f3:=M.SI hdd lX.cu hc1 hc3 w;have M':=M.ins hdd lX.cu hc1 hc3 aN ck (Mi (cY kx) ks);obtain⟨F,J⟩:=I.SH (ck':=ck+1) hb bS q1 M';refine⟨undef,_,γ,.inr ⟨?_,rfl⟩,.refl γ,F,J,.undef⟩;have hrun:(Instr.mapUpdate t (a.eval m) (a.eval k) (a.eval x)).run P w= .ok () {w with heap:=w.heap.setIfInBounds b (.map (es.push {key:=a.eval k,val:=a.eval x,born:=ck}) (ck+1))}:=by
      rw[rN];simp[Instr.mapUpdate,run_underlying ht,MapKept.run_getObj_map q1,hik,f3,MapKept.run_setObj_map _ q1,Result.andThen]
     rcases ho with ho |ho<;>simp[execOp,ho,hrun,Result.andThen]
    .cases he
  .cases he
 .cases he
theorem acb(I:Inv G γ H w)(E:aW γ env a.tmps){k:Operand}(ho:o.op= .mapUpdate t m k x)(ht:P.underlying t=Z (.map kt et))(hg:kindOf P kt=Z kd)
    (hm:aL m=Z m') (hk:aL k=Z k') (hx:aL x=Z x') {d:D}  (he:aP G env H (.mapset kd m' k' x')=Z (d,H')):Done P G γ H w a o d H':=by
 have kK:=cg E hm;have lX:=cg E hk;have aN:=cg E hx;simp only[aP] at he;unfold Rq at he;split at he
 .rename_i i kx gh qF;split at he
  .rename_i kZ ks vs bS;split at he
   .rename_i hc;obtain⟨hc1,uH,hc2⟩:=hc;subst uH;split at he
    .rename_i j hj;cases he;rw[gh] at kK;rw[qF] at lX;generalize rN:a.eval m=v at kK;cases kK with
     |dD _ b hb=>
      obtain⟨es,ck,s,q1,M⟩:=I.mapBlock hb bS;have hdd:=G5 hg hc2;have hik:=λw em=>hdd.G3 w em lX.cu hc1;obtain⟨e0,f1,f2,f3⟩:=M.found hdd lX.cu hc1 hj w;have M':=M.upd hdd lX.cu hc1 hj aN;obtain⟨F,J⟩:=I.SH (ck':=ck) hb bS q1 M';refine⟨undef,_,γ,.inr ⟨?_,rfl⟩,.refl γ,F,J,.undef⟩;have hrun:(Instr.mapUpdate t (a.eval m) (a.eval k) (a.eval x)).run P w= .ok () {w with heap:=w.heap.setIfInBounds b (.map (es.modify (s j) λe=>{e with key:=a.eval k,val:=a.eval x}) ck)}:=by
       rw[rN];simp[Instr.mapUpdate,run_underlying ht,MapKept.run_getObj_map q1,hik,f3,f1,f2,hdd.stay w lX.cu hc1,MapKept.run_setObj_map _ q1,Result.andThen]
      simp[execOp,ho,hrun,Result.andThen]
    .exact SJ I E (.inl ho) ht hg hm hk hx he
   .cases he
  .cases he
 .cases he

end Go.Vs

namespace Go.Vs

variable {P : Program} {G : Nat -> Option (List PD)} {γ : Gh} {H : Hp} {w : World} {env : Env} {a : Act} {o : Oper}
variable{H':Hp}
theorem acd(I:Inv G γ H w)(E:aW γ env a.tmps){t xt:TypeId}{x:Operand}{y:aA}{ok:Bool}{z:PD}{u:TypeDesc}(ho:o.op= .typeAssert x xt t ok)(ht:P.underlying t=Z u)(gS:∀ms,u≠.interface ms)
    (hz:zeroOf P t=Z z) (hx:aL x=Z y) {d:D}  (he:aP G env H (.tassert t z ok y)=Z (d,H')):Done P G γ H w a o d H':=by
 have hr:=cg E hx;simp only[aP] at he;obtain⟨d0,eW,hh⟩:=ak.1 he;cases hh;obtain⟨zv,hz1,hz2⟩:=yu hz w;have G7:=uw γ.mem hz2;have holds:∀(v:Value) (dv:D),a.eval x= .iface t v->aB γ v dv->Done P G γ H w a o (if ok then .ba [dv,.p (.bool true)] else dv) H:=by
  intro v dv hv ja;refine .same I (v:=if ok then .tuple #[v,.bool true] else v) ?_ ?_
  .have :(Instr.typeAssert (a.eval x) xt t ok).run P w= .ok (if ok then .tuple #[v,.bool true] else v) w:=by
    rw[hv];unfold Instr.typeAssert;simp only[Sem.run_bind,run_underlying ht,Result.andThen_ok];cases u<;>first |exact absurd rfl (gS _) |(cases ok<;>simp)
   simp[execOp,ho,this]
  .cases ok with
   |false=>exact ja
   |true=>
    refine .ba _ _ rfl λi x hx=>?_
    match i with
    | 0=>simp only[ey,bM] at hx;subst hx;exact ja
    | 1=>simp only[vY,ey,bM] at hx;subst hx;exact .p _ _ (.bool _)
    |i+2=>simp at hx
 have fails:ok=true->(a.eval x= .nilIface\/∃t' v,a.eval x= .iface t' v/\t'≠t)->Done P G γ H w a o (.ba [.p z,.p (.bool false)]) H:=by
  intro bV hv;refine .same I (v:=.tuple #[zv,.bool false]) ?_ (.ba _ _ rfl λi x hx=>?_)
  .have :(Instr.typeAssert (a.eval x) xt t ok).run P w= .ok (.tuple #[zv,.bool false]) w:=by
    subst bV;unfold Instr.typeAssert;simp only[Sem.run_bind,run_underlying ht,Result.andThen_ok];rcases hv with hv |⟨t',v,hv,hne⟩
    .rw[hv];cases u<;>first |exact absurd rfl (gS _) |simp[hz1,Result.andThen]
    .rw[hv];cases u<;>first |exact absurd rfl (gS _) |simp[hne,hz1,Result.andThen]
   simp[execOp,ho,this]
  .match i with
   | 0=>simp only[ey,bM] at hx;subst hx;exact .p _ _ G7
   | 1=>simp only[vY,ey,bM] at hx;subst hx;exact .p _ _ (.bool _)
   |i+2=>simp at hx
 unfold Rp at eW;split at eW
 .rename_i u' y' hy;rw[hy] at hr;have hp:=hr.cu;generalize hv:a.eval x=v at hp;cases hp with
  |iface _ v0 _ h0=>
   split at eW
   .rename_i p7;subst p7;cases eW;have:=holds v0 (.p y') hv (.p _ _ h0);cases ok<;>exact this
   .rename_i p7;split at eW
    .rename_i bV;cases eW;exact fails bV (.inr ⟨u',v0,hv,p7⟩)
    .cases eW
 .rename_i u' y' hy;rw[hy] at hr;generalize hv:a.eval x=v at hr;cases hr with
  |eC _ v0 _ h0=>
   split at eW
   .rename_i p7;subst p7;cases eW;have:=holds v0 y' hv h0;cases ok<;>exact this
   .rename_i p7;split at eW
    .rename_i bV;cases eW;exact fails bV (.inr ⟨u',v0,hv,p7⟩)
    .cases eW
 .rename_i hy;rw[hy] at hr;have hp:=hr.cu;split at eW
  .rename_i bV;cases eW;refine fails bV (.inl ?_);generalize a.eval x=v at hp;cases hp;rfl
  .cases eW
 .cases eW
theorem A6(I:Inv G γ H w)(E:aW γ env a.tmps){k:SK}(hk:gR P o.op=Z k){d:D}(he:aP G env H k=Z (d,H')):Done P G γ H w a o d H':=by
 cases ho:o.op with
 |move x=>
  rw[ho] at hk;obtain⟨y,hy,rfl⟩:=ak.1 hk;simp only[aP] at he;cases he;exact RS I E (.inl ho) hy
 |assign x=>
  rw[ho] at hk;obtain⟨y,hy,rfl⟩:=ak.1 hk;simp only[aP] at he;cases he;exact RS I E (.inr ho) hy
 |pick c x y=>
  rw[ho] at hk;simp only[gR] at hk;split at hk
  .rename_i c' x' y' h1 h2 h3;cases hk;simp only[aP] at he;split at he
   .rename_i t ht;cases he;exact aaL I E ho h1 h2 h3 ht
   .cases he
  .cases hk
 |alloc e=>
  rw[ho] at hk;obtain⟨z,hz,rfl⟩:=ak.1 hk;exact abp I ho hz he
 |box e x=>
  rw[ho] at hk;obtain⟨y,hy,rfl⟩:=ak.1 hk;exact abq I E ho hy he
 |build t parts=>
  rw[ho] at hk;simp only[gR] at hk;split at hk
  .rename_i fs zs h1 h2;split at hk
   .rename_i pl hpl;obtain⟨qs,hq,rfl⟩:=ak.1 hk;exact abu I E ho h1 h2 hpl hq he
   .cases hk
  .rename_i n e zs h1 h2;split at hk
   .rename_i s hs;obtain⟨qs,hq,rfl⟩:=ak.1 hk;exact abw I E ho h1 h2 hs hq he
   .cases hk
  .cases hk
 |buildSlice t len parts=>
  rw[ho] at hk;simp only[gR] at hk;split at hk
  .rename_i e h1;split at hk
   .rename_i n z ps h2 h3 h4;split at hk
    .rename_i uD;cases hk;exact abx I E ho h1 h2 h3 h4 uD he
    .cases hk
   .cases hk
  .cases hk
 |load t x=>
  rw[ho] at hk;simp only[gR] at hk;split at hk
  .rename_i n y h1 h2;cases hk;exact abn I E ho h1 h2 he
  .cases hk
 |store t x y=>
  rw[ho] at hk;simp only[gR] at hk;split at hk
  .rename_i n x' y' h1 h2 h3;cases hk;exact abo I E ho h1 h2 h3 he
  .cases hk
 |nilCheck x=>
  rw[ho] at hk;obtain⟨y,hy,rfl⟩:=ak.1 hk;exact aaM I E ho hy he
 |binOp op t x y yt=>
  rw[ho] at hk;simp only[gR] at hk;split at hk
  .rename_i h1 h2 _;cases hk;exact RZ I E ho h1 h2 he
  .rename_i h1 h2 _;cases hk;exact RZ I E ho h1 h2 he
  .rename_i h1 h2 h3;split at hk
   .rename_i hop;cases hk;exact GS I E ho hop h1 h2 (.inl ⟨rfl,h3⟩) he
   .cases hk
  .rename_i h1 h2 h3;split at hk
   .rename_i hop;cases hk;exact GS I E ho hop h1 h2 (.inr (.inl ⟨rfl,_,h3⟩)) he
   .cases hk
  .rename_i h1 h2 h3;split at hk
   .rename_i hop;cases hk;exact GS I E ho hop h1 h2 (.inr (.inr (.inl ⟨rfl,_,h3⟩))) he
   .cases hk
  .rename_i h1 h2 h3;split at hk
   .rename_i hop;cases hk;exact GS I E ho hop h1 h2 (.inr (.inr (.inr ⟨rfl,_,_,_,h3⟩))) he
   .cases hk
  .rename_i h1 h2 h3;split at hk
   .rename_i hop;cases hk;obtain⟨hop,LY⟩:=hop;cases y with
    |const c=>exact abI I E ho hop rfl h1 h2 h3 he
    |_=>cases LY
   .cases hk
  .rename_i h1 h2 h3;split at hk
   .rename_i hop;obtain⟨ts,mY,rfl⟩:=ak.1 hk;exact abf I E ho hop.1 h1 h2 h3 hop.2.1 hop.2.2 mY he
   .cases hk
  .cases hk
 |unOp op t x=>
  rw[ho] at hk;obtain⟨y,hy,rfl⟩:=ak.1 hk;exact aa4 I E ho hy he
 |convert s t x=>
  rw[ho] at hk;simp only[gR] at hk;split at hk
  .rename_i h1 h2 h3;cases hk;exact aa5 I E ho h1 h2 h3 he
  .cases hk
 |makeFunc fn first cap=>
  rw[ho] at hk;cases fn with
  |func f=>
   simp only[gR] at hk;split at hk
   .rename_i h1 h2;cases hk;simp only[aP] at he;cases he;exact aaT I E ho h1 h2
   .cases hk
  |_=>cases hk
 |slice t x lo hi mx=>
  rw[ho] at hk;cases mx with
  |some m=>
   cases hi with
   |none=>simp only[gR] at hk;cases hk
   |some hi=>
    simp only[gR] at hk;split at hk
    .rename_i h1 h2 h3 h4 h5;split at hk
     .rename_i h6;cases hk;exact aa9 I E ho h1 h6 h2 h3 h4 h5 he
     .cases hk
    .cases hk
  |none=>
   simp only[gR] at hk;split at hk
   .rename_i h1 h2 h3 h4;cases hk;exact aa7 I E ho h1 h2 h3 h4 he
   .rename_i h1 h2 h3 h4;split at hk
    .rename_i h5;cases hk;exact aa8 I E ho h1 h5 h2 h3 h4 he
    .cases hk
   .cases hk
 |makeSlice t l c=>
  rw[ho] at hk;simp only[gR] at hk;split at hk
  .rename_i h1 h2 h3;split at hk
   .rename_i i z h4 h5;cases hk;exact abS I E ho h1 h4 h5 h2 h3 he
   .cases hk
  .cases hk
 |fieldAddr t x f=>
  rw[ho] at hk;simp only[gR] at hk;split at hk
  .rename_i h1 h2;split at hk
   .rename_i h3;split at hk
    .rename_i h4;cases hk;exact aaN I E ho h2 h1 h3 h4 he
    .cases hk
   .cases hk
  .cases hk
 |field t x f=>
  rw[ho] at hk;simp only[gR] at hk;split at hk
  .rename_i h1 h2;split at hk
   .rename_i h3;obtain⟨n,hn,rfl⟩:=ak.1 hk;exact aaR I E ho h2 h1 h3 hn he
   .cases hk
  .cases hk
 |indexAddr t x i=>
  rw[ho] at hk;simp only[gR] at hk;split at hk
  .rename_i h1 h2 h3;obtain⟨n,hn,rfl⟩:=ak.1 hk;exact aaP I E ho h1 hn h2 h3 he
  .rename_i h1 h2 h3;obtain⟨n,hn,rfl⟩:=ak.1 hk;exact aaO I E ho h1 hn h2 h3 he
  .cases hk
 |index t x i=>
  rw[ho] at hk;simp only[gR] at hk;split at hk
  .rename_i h1 h2 h3;split at hk
   .rename_i h4 h5;cases hk;exact abk I E ho h1 h4 h5 h2 h3 he
   .cases hk
  .rename_i h1 h2 h3;cases hk;exact abi I E ho h1 h2 h3 he
  .cases hk
 |extract x i=>
  rw[ho] at hk;obtain⟨y,hy,rfl⟩:=ak.1 hk;exact aaS I E ho hy he
 |makeInterface t x=>
  rw[ho] at hk;simp only[gR] at hk;split at hk
  .cases hk
  .rename_i gS h1 h2;cases hk;exact aaU I ho (by rw[h1];rfl) (λms h=>by rw[h1] at h;cases h;exact gS _ rfl) he (cg E h2) (λz hz=>yz (cg E h2) hz)
  .cases hk
 |call c=>
  rw[ho] at hk;simp only[gR] at hk;obtain⟨callee,args,ats⟩:=c;cases callee with
  |value f=>
   simp only[Dg] at hk;split at hk
   .cases hk;simp only[aP] at he;cases he
   .cases hk
  |invoke r m=>simp only[Dg] at hk;cases hk
  |builtin b=>
   simp only[Dg] at hk;split at hk
   .rename_i x t e1 e2;have oU:args= #[x]:=by simpa using congrArg Ax e1
    have yD:ats= #[t]:=by simpa using congrArg Ax e2
    subst oU;subst yD;split at hk
    .rename_i h1 h2;cases hk;exact R4 I E ho (.inl ⟨rfl,h1⟩) h2 he
    .rename_i h1 h2;cases hk;exact R4 I E ho (.inr ⟨rfl,_,h1⟩) h2 he
    .cases hk
   .rename_i s x t u e1 e2;have oU:args= #[s,x]:=by simpa using congrArg Ax e1
    have yD:ats= #[t,u]:=by simpa using congrArg Ax e2
    subst oU;subst yD;split at hk
    .rename_i e du s' x' h1 h2 h3 h4;split at hk
     .rename_i i hi;split at hk
      .rename_i z hz;split at hk
       .rename_i hc;cases hk;simp only[LF,bL,decide_eq_true_eq,beq_iff_eq] at hc;obtain⟨⟨c1,c2⟩,c3⟩:=hc;refine abF I E ho h1 h2 ?_ hi hz c2 c3 h3 h4 he;cases du<;>first |(simp at c1;done) |exact .inl ⟨_,rfl⟩ |exact .inr rfl
       .cases hk
      .cases hk
     .cases hk
    .cases hk
   .rename_i x y e1;have oU:args= #[x,y]:=by simpa using congrArg Ax e1
    subst oU;split at hk
    .rename_i h1 h2;cases hk;exact R3 I E (mx:=true) (ts:=ats) ho h1 h2 he
    .cases hk
   .rename_i x y e1;have oU:args= #[x,y]:=by simpa using congrArg Ax e1
    subst oU;split at hk
    .rename_i h1 h2;cases hk;exact R3 I E (mx:=false) (ts:=ats) ho h1 h2 he
    .cases hk
   .cases hk
 |makeMap t r=>
  rw[ho] at hk;cases r with
  |none=>
   simp only[gR] at hk;split at hk
   .rename_i h1;obtain⟨g,hg,rfl⟩:=ak.1 hk;exact ab8 I ho he
   .cases hk
  |some r=>simp[gR] at hk
 |typeAssert x xt t ok=>
  rw[ho] at hk;simp only[gR] at hk;split at hk
  .cases hk
  .rename_i gS h1 h2 h3;cases hk;exact acd I E ho h1 (λms h=>gS ms h) h2 h3 he
  .cases hk
 |mapUpdate t m k' x=>
  rw[ho] at hk;simp only[gR] at hk;split at hk
  .rename_i h1 h2 h3 h4;obtain⟨g,hg,rfl⟩:=ak.1 hk;exact acb I E ho h1 hg h2 h3 h4 he
  .cases hk
 |insert t m k' x=>
  rw[ho] at hk;simp only[gR] at hk;split at hk
  .rename_i h1 h2 h3 h4;obtain⟨g,hg,rfl⟩:=ak.1 hk;exact SJ I E (.inr ho) h1 hg h2 h3 h4 he
  .cases hk
 |lookup t m k' ok=>
  rw[ho] at hk;simp only[gR] at hk;split at hk
  .rename_i h1 h2 h3;split at hk
   .rename_i hg hz;cases hk;exact ab9 I E ho h1 hg hz h2 h3 he
   .cases hk
  .cases hk
 |_=>rw[ho] at hk;cases hk
theorem yE{k:SK}(h:qA P o.op=k)(hc:k.lz=false)(hs:k≠.stuck):gR P o.op=Z k:=by
 unfold qA at h;split at h
 .rename_i r hr;exfalso;unfold AY at hr;split at hr
  .split at hr<;>cases hr
   .subst h;simp[SK.lz] at hc
   .exact hs h.symm
  .rename_i x _;cases hr;cases hx:aL x with
   |none=>rw[hx] at h;exact hs h.symm
   |some y=>rw[hx] at h;subst h;simp[SK.lz] at hc
  .cases hr
 .split at h
  .rename_i k' kG;split at h
   .exact absurd h.symm hs
   .subst h;exact kG
  .exact absurd h.symm hs
theorem ace(I:Inv G γ H w)(E:aW γ env a.tmps){hint:Option SK}{k:SK}(hk:pZ P o hint=k)(hc:k.lz=false){d:D}(he:aP G env H k=Z (d,H')):Done P G γ H w a o d H':=by
 have hs:k≠.stuck:=λe=>by subst e;simp[aP] at he
 unfold pZ GK at hk;split at hk
 .split at hk
  .rename_i as ts e sz b s x ho kL;subst hk;have qG:=yE kL rfl (λh=>by cases h);rw[ho] at qG;simp only[gR,Dg] at qG;split at qG<;>try contradiction
   rename_i s0 x0 t u _ e1 e2;have oU:as= #[s0,x0]:=by simpa using congrArg Ax e1
   have yD:ts= #[t,u]:=by simpa using congrArg Ax e2
   subst oU;subst yD;split at qG
   .rename_i e0 du s' x' h1 h2 h3 h4;split at qG
    .rename_i i hi;split at qG
     .rename_i z hz;split at qG
      .rename_i hcc;cases qG;simp only[LF,bL,decide_eq_true_eq,beq_iff_eq] at hcc;obtain⟨⟨c1,c2⟩,c3⟩:=hcc;refine abN I E ho h1 h2 ?_ hi hz c2 c3 h3 h4 he;cases du<;>first |(simp at c1;done) |exact .inl ⟨_,rfl⟩ |exact .inr rfl
      .cases qG
     .cases qG
    .cases qG
   .cases qG
  .exact A6 I E (yE hk hc hs) he
 .split at hk
  .rename_i t len parts ho;split at hk
   .rename_i e h1;split at hk
    .rename_i n z ps h2 h3 h4;split at hk
     .rename_i uD;subst hk;rw[h2] at h4;exact abU I E ho h1 h2 h3 h4 uD he
     .exact A6 I E (yE hk hc hs) he
    .exact A6 I E (yE hk hc hs) he
   .exact A6 I E (yE hk hc hs) he
  .exact A6 I E (yE hk hc hs) he
 .exact A6 I E (yE hk hc hs) he

end Go.Vs

namespace Go.Vs

variable {P : Program} {G : Nat -> Option (List PD)} {γ : Gh} {H : Hp} {w : World}
theorem oV{bi ti:Nat->Option Nat}:∀{ds eL:List D},D.aZ bi ti ds=Z eL->O eL=O ds/\∀(i:Nat) d,eL[i]? =Z d->∃c,ds[i]? =Z c/\c.ren bi ti=Z d
 |[],eL,h=>by simp only[D.aZ] at h;cases h;exact⟨rfl,λi d h=>by simp at h⟩
 |c::r,eL,h=>by
  simp only[D.aZ] at h;split at h
  .rename_i x hx;obtain⟨r',hr,rfl⟩:=ak.1 h;obtain⟨h1,h2⟩:=oV hr;refine⟨by simp[h1],λi d hd=>?_⟩
   match i with
   | 0=>simp only[ey,bM] at hd;subst hd;exact⟨c,rfl,hx⟩
   |i+1=>exact h2 i d (by simpa using hd)
  .cases h
variable{vs:Array Value}{d':D}{γ1 γ2 γl:Gh}{cs ds eL:List D}{ids tks:List Nat}{j b t:Nat}{bi ti:Nat->Option Nat}{α:Type}
theorem SL{d:D}(h:d.ren bi ti=Z d')(h1:d.one=true):d'.one=true:=by
 cases d<;>simp only[D.ren] at h<;>first |(simp[D.one] at h1;done) |(cases h;exact h1) |skip
 .split at h<;>cases h<;>rfl
 .obtain⟨j,_,rfl⟩:=ak.1 h;rfl
 .split at h
  .cases h;rfl
  .cases h
 all_goals obtain⟨j,_,rfl⟩:=ak.1 h;rfl
structure Ren (γ1 γ2:Gh) (bi ti:Nat->Option Nat):Prop where
 base:γ2.base=γ1.base
 aY:∀b x,γ1.aY b=Z x->γ2.aY b=Z x
 mem:Mem.le γ1.mem γ2.mem
 box:∀i j b,bi i=Z j->γ1.boxes[i]? =Z b->γ2.boxes[j]? =Z b
 row:∀(t u:Nat) row,ti t=Z u->γ1.rows[t]? =Z row->∃row',γ2.rows[u]? =Z row'/\row'.e=row.e/\row'.sz=row.sz/\∀n x,row.st n=Z x->row'.st n=Z x
theorem yF(R:Ren γ1 γ2 bi ti){v:Value}{d:D}(r:aB γ1 v d):∀{d':D},d.ren bi ti=Z d'->aB γ2 v d':=by
 induction r with
 |dead v=>intro d' h;simp only[D.ren] at h;cases h;exact .dead v
 |undef=>intro d' h;simp only[D.ren] at h;cases h;exact .undef
 |p v x hx=>intro d' h;simp only[D.ren] at h;cases h;exact .p v x (hx.mono R.mem)
 |cC b n e sz es hb ht hn hx=>intro d' h;simp only[D.ren] at h;cases h;exact .cC b n e sz es (R.base▸hb) (R.aY _ _ ht) hn (hx.mono R.mem)
 |aX v t e sz es row r h1 h2 h3 h4 h5 h6=>
  intro d' h;simp only[D.ren] at h;split at h
  .rename_i u hu;cases h;obtain⟨row',a1,a2,a3,a4⟩:=R.row t u row hu h1;exact .aX v u e sz es row' r a1 (a2.trans h2) (a3.trans h3) (h4.mono R.mem) (a4 _ _ h5) h6
  .cases h;exact .p _ _ (h4.mono R.mem)
 |box i off b hb=>
  intro d' h;simp only[D.ren] at h;obtain⟨j,hj,rfl⟩:=ak.1 h;exact .box j off b (R.box i j b hj hb)
 |eB g off=>intro d' h;simp only[D.ren] at h;cases h;exact .eB g off
 |ro b o off cs vs hm hr=>intro d' h;simp only[D.ren] at h;cases h;exact .ro b o off cs vs (λj hj=>R.mem _ _ _ (hm j hj)) (λj c hc=>⟨(hr j c hc).1.mono R.mem,(hr j c hc).2⟩)
 |agg cs ds hl dP hr ih=>
  intro d' h;simp only[D.ren] at h;obtain⟨eL,hd,rfl⟩:=ak.1 h;obtain⟨h1,h2⟩:=oV hd;refine .agg cs eL (hl.trans h1.symm) (λd bO=>?_) (λi d hi=>?_)
  .obtain⟨i,hi⟩:=dV bO;obtain⟨c,a1,a2⟩:=h2 i d hi;exact SL a2 (dP c (bB a1))
  .obtain⟨c,a1,a2⟩:=h2 i d hi;exact ih i c a1 a2
 |ba cs ds hl hr ih=>
  intro d' h;simp only[D.ren] at h;obtain⟨eL,hd,rfl⟩:=ak.1 h;obtain⟨h1,h2⟩:=oV hd;refine .ba cs eL (hl.trans h1.symm) (λi d hi=>?_);obtain⟨c,a1,a2⟩:=h2 i d hi;exact ih i c a1 a2
 |fn f as cs ds es hl hr kl kr ih ih'=>
  intro d' h;simp only[D.ren] at h;split at h
  .rename_i a' c' ha hc;cases h;obtain⟨h1,h2⟩:=oV ha;obtain⟨h3,h4⟩:=oV hc;refine .fn f as cs a' c' (hl.trans h1.symm) (λi d hi=>?_) (kl.trans h3.symm) (λi d hi=>?_)
   .obtain⟨c,a1,a2⟩:=h2 i d hi;exact ih i c a1 a2
   .obtain⟨c,a1,a2⟩:=h4 i d hi;exact ih' i c a1 a2
  .cases h
 |bH i off n cap sz b c hb hc dQ=>
  intro d' h;simp only[D.ren] at h;obtain⟨j,hj,rfl⟩:=ak.1 h;exact .bH j off n cap sz b c (R.box i j b hj hb) hc dQ
 |ae i e n sz b c hb hc hm hk ht=>
  intro d' h;simp only[D.ren] at h;obtain⟨j,hj,rfl⟩:=ak.1 h;exact .ae j e n sz b c (R.box i j b hj hb) hc hm hk (R.aY _ _ ht)
 |fL a sz=>intro d' h;simp only[D.ren] at h;cases h;exact .fL a sz
 |fB a n sz es hn hx=>intro d' h;simp only[D.ren] at h;cases h;exact .fB a n sz es hn (hx.mono R.mem)
 |eC t v d _ ih=>
  intro d' h;simp only[D.ren] at h;obtain⟨x,hx,rfl⟩:=ak.1 h;exact .eC t v x (ih hx)
 |dD i b hb=>
  intro d' h;simp only[D.ren] at h;obtain⟨j,hj,rfl⟩:=ak.1 h;exact .dD j b (R.box i j b hj hb)
 |cD as cs kd ks ds s hl kl dl hs hj hg hr hd kr ih=>
  intro d' h;simp only[D.ren] at h;obtain⟨cL,hv,rfl⟩:=ak.1 h;obtain⟨h1,h2⟩:=oV hv;refine .cD as cs kd ks cL s hl kl (h1.trans dl) hs hj hg (λi x hx=>⟨(hr i x hx).1.mono R.mem,(hr i x hx).2⟩) hd (λi d hi=>?_);obtain⟨c,a1,a2⟩:=h2 i d hi;exact ih i c a1 a2
def Dq:D->Bool
 | .cD _ _ _=>true
 |_=>false
theorem G8(d:D):ay [d]=Dq d:=by cases d<;>rfl
theorem G9(d e:D)(r:List D):ay (d::e::r)=false:=by simp[ay]
theorem acf{d:D}(h:D.ren bi ti d=Z d'):Dq d'=Dq d:=by
 cases d with
 |aX t e sz es=>
  simp only[D.ren] at h;split at h<;>cases h<;>rfl
 |fn f a c=>
  simp only[D.ren] at h;split at h<;>cases h;rfl
 |_=>
  first
   |(simp only[D.ren,bM] at h;subst h;rfl)
   |(simp only[D.ren] at h;obtain⟨x,_,rfl⟩:=ak.1 h;rfl)
theorem yG{cs':List D}(h:D.aZ bi ti cs=Z cs'):ay cs'=ay cs:=by
 match cs with
 |[]=>simp only[D.aZ,bM] at h;subst h;rfl
 |[d]=>
  simp only[D.aZ] at h;split at h
  .rename_i x hx;simp only[fy,bM] at h;subst h;rw[G8,G8,acf hx]
  .cases h
 |d::e::r=>
  have hl:=(oV h).1
  match cs',hl with
  |a::b::q,_=>rw[G9,G9]
theorem acg(R:Ren γ1 γ2 bi ti)(r:cv γ1 vs ds)(h:D.aZ bi ti ds=Z eL):cv γ2 vs eL:=by
 obtain⟨h1,h2⟩:=oV h;refine⟨r.1.trans h1.symm,λi d hi=>?_⟩;obtain⟨c,a1,a2⟩:=h2 i d hi;exact yF R (r.2 i c a1) a2
theorem He(R:Ren γ1 γ2 bi ti)(r:eI γ1 vs ds)(h:D.aZ bi ti ds=Z eL):eI γ2 vs eL:=by
 obtain⟨h1,h2⟩:=oV h;refine⟨by rw[h1];exact r.1,λi d hi=>?_⟩;obtain⟨c,a1,a2⟩:=h2 i d hi;exact yF R (r.2 i c a1) a2
theorem lY(h:D.aZ bi ti ds=Z eL)(hn:eL≠[]):ds≠[]:=by
 obtain⟨h1,_⟩:=oV h;intro e;subst e;exact hn (by simpa using h1)
theorem Hf(h:D.aZ bi ti ds=Z eL)(h1:∀d∈ds,d.one=true):∀d∈eL,d.one=true:=by
 obtain⟨_,h2⟩:=oV h;intro d hd;obtain⟨i,hi⟩:=dV hd;obtain⟨c,a1,a2⟩:=h2 i d hi;exact SL a2 (h1 c (bB a1))
theorem Hg:∀{l:List Nat} {i j:Nat},idx l i=Z j->l[j]? =Z i
 |[],i,j,h=>by cases h
 |a::r,i,j,h=>by
  simp only[idx] at h;split at h
  .rename_i e;cases h;simp[e]
  .obtain⟨k,hk,rfl⟩:=ak.1 h;simpa using Hg hk
theorem SM:∀{l:List Nat} {i:Nat},idx l i=Y->i∉l
 |[],i,h=>by simp
 |a::r,i,h=>by
  simp only[idx] at h;split at h
  .cases h
  .rename_i e;have:=SM (aov.1 h);simp[this];exact λh=>e h.symm
theorem Mj:∀{l:List Nat},nodupB l=true->l.Nodup
 |[],_=>List.nodup_nil
 |a::r,h=>by
  simp only[nodupB,bL,sR,List.contains_eq_mem,decide_eq_false_iff_not] at h;exact tW.2 ⟨h.1,Mj h.2⟩
theorem ic:∀(is:List Nat) (l xs:List α),O (bZ l is xs)=O l
 |[],l,xs=>by simp[bZ]
 |i::is,l,[]=>by simp[bZ]
 |i::is,l,x::xs=>by simp[bZ,ic is]
theorem wH:∀(is:List Nat) (l xs:List α) (i:Nat),i∉is->(bZ l is xs)[i]? =l[i]?
 |[],l,xs,i,_=>by simp[bZ]
 |k::is,l,[],i,_=>by simp[bZ]
 |k::is,l,x::xs,i,h=>by
  simp only[cq,not_or] at h;simp only[bZ];rw[wH is _ _ i h.2,bp (Ne.symm h.1)]
theorem A7{α:Type}:∀(is:List Nat) (l xs:List α) (j i:Nat),is.Nodup->is[j]? =Z i->i<O l->j<O xs->(bZ l is xs)[i]? =xs[j]?
 |[],l,xs,j,i,_,h,_,_=>by simp at h
 |k::is,l,[],j,i,_,_,_,h=>by simp at h
 |k::is,l,x::xs,j,i,hn,hj,hi,hx=>by
  obtain⟨n1,n2⟩:=tW.1 hn;simp only[bZ]
  match j with
  | 0=>
   simp only[ey,bM] at hj;subst hj;rw[wH is _ _ k n1];simp[hi]
  |j+1=>
   rw[A7 is _ xs j i n2 (by simpa using hj) (by simpa using hi) (by simpa using hx)];simp
theorem SN{l:List Nat}(h:l.Nodup){i a:Nat}(hi:l[i]? =Z a)(hj:l[j]? =Z a):i=j:=by
 have hlt:=(af.1 hi).1;exact(List.getElem?_inj hlt h).1 (hi.trans hj.symm)
theorem SP{l l':List α}{n:Nat}(h:iD l n=Z l'):n<=O l/\l'=l.take n:=by
 unfold iD at h;split at h
 .rename_i hn;cases h;exact⟨hn,rfl⟩
 .cases h
def Gh.part(γ:Gh)(ids tks:List Nat):Gh:=
 {base:=γ.base,aY:=γ.aY,mem:=γ.mem,boxes:=ids.map λi=>(γ.boxes[i]?).getD 0,rows:=tks.map λt=>(γ.rows[t]?).getD ⟨0,0,λ_=>Y⟩}
theorem Mk:(γ.part ids tks).boxes[j]? =Z b↔∃i,ids[j]? =Z i/\(γ.boxes[i]?).getD 0=b:=by
 simp[Gh.part,cG,ak]
theorem Ml{row:Row}:(γ.part ids tks).rows[j]? =Z row↔∃t,tks[j]? =Z t/\(γ.rows[t]?).getD ⟨0,0,λ_=>Y⟩=row:=by
 simp[Gh.part,cG,ak]

section
variable{bx : List (List D)} {tk : List Nat}
 (gS:ids.Nodup) (iF:tks.Nodup) (bS:aH (λi=>match H.bx[i]? with |some cs=>D.aZ (idx ids) (idx tks) cs |none=>Y) ids=Z bx) (aO:aH (λt=>H.tk[t]?) tks=Z tk)
include gS iF bS aO

omit gS iF aO in
theorem Mm(I:Inv G γ H w)(h:(γ.part ids tks).boxes[j]? =Z b):∃i,ids[j]? =Z i/\γ.boxes[i]? =Z b:=by
 obtain⟨i,hi,hb⟩:=Mk.1 h;obtain⟨_,m2⟩:=og bS;obtain⟨y,hy,_⟩:=m2 j i hi;have hlt:i<O γ.boxes:=by
  rw[I.cS];split at hy
  .rename_i cs hcs;exact(af.1 hcs).1
  .cases hy
 rw[aD hlt] at hb;exact⟨i,hi,by rw[aD hlt];simpa using hb⟩

omit gS iF bS in
theorem Hi(I:Inv G γ H w){row:Row}(h:(γ.part ids tks).rows[j]? =Z row):∃t,tks[j]? =Z t/\γ.rows[t]? =Z row:=by
 obtain⟨t,hi,hb⟩:=Ml.1 h;obtain⟨_,m2⟩:=og aO;obtain⟨y,hy,_⟩:=m2 j t hi;have hlt:t<O γ.rows:=by rw[I.fZ];exact(af.1 hy).1
 rw[aD hlt] at hb;exact⟨t,hi,by rw[aD hlt];simpa using hb⟩

omit gS iF bS in
theorem Mn{f:Nat}(h1:tks[j]? =Z t)(h2:tk[j]? =Z f):H.tk[t]? =Z f:=by
 obtain⟨_,m2⟩:=og aO;obtain⟨y,hy,hy'⟩:=m2 j t h1;rw[h2] at hy';cases hy';exact hy

omit gS iF bS aO in
theorem SQ:Ren γ (γ.part ids tks) (idx ids) (idx tks):=by
 refine⟨rfl,λ_ _ h=>h,λ_ _ _ h=>h,λi j b h hb=>Mk.2 ⟨i,Hg h,by rw[hb];rfl⟩,λt u row h hr=>⟨row,Ml.2 ⟨t,Hg h,by rw[hr];rfl⟩,rfl,rfl,λ_ _ h=>h⟩⟩

omit gS iF aO in
theorem Mp(I:Inv G γ H w)(h:b∈(γ.part ids tks).boxes):b∈γ.boxes:=by
 obtain⟨j,hj⟩:=dV h;obtain⟨i,_,hi⟩:=Mm bS I hj;exact bB hi

omit gS iF aO in
theorem Hj(I:Inv G γ H w)(h:(γ.part ids tks).boxes[j]? =Z b)(hc:bx[j]? =Z cs):∃(i:Nat) (c0:List D),ids[j]? =Z i/\γ.boxes[i]? =Z b/\H.bx[i]? =Z c0/\D.aZ (idx ids) (idx tks) c0=Z cs:=by
 obtain⟨i,hi,yH⟩:=Mm bS I h;obtain⟨i',h1,h2⟩:=oP bS hc;rw[hi] at h1;cases h1;split at h2
 .rename_i c0 hc0;exact⟨i,c0,hi,yH,hc0,h2⟩
 .cases h2

omit gS iF aO in
theorem A8(I:Inv G γ H w)(h:Lv (γ.part ids tks) ⟨bx,tk⟩ b):∃(i j:Nat) (c0:List D),ids[j]? =Z i/\γ.boxes[i]? =Z b/\H.bx[i]? =Z c0/\c0≠[]:=by
 obtain⟨j,cs,h1,h2,h3⟩:=h;obtain⟨i,c0,q1,q2,q3,q4⟩:=Hj bS I h1 h2;exact⟨i,j,c0,q1,q2,q3,lY q4 h3⟩

omit gS iF bS in
theorem wI(I:Inv G γ H w)(h:cZ (γ.part ids tks) ⟨bx,tk⟩ j b):∃t,tks[j]? =Z t/\cZ γ H t b:=by
 obtain⟨row,f,cap,h1,h2,h3,h4⟩:=h;obtain⟨t,ht,hr⟩:=Hi aO I h1;exact⟨t,ht,row,f,cap,hr,Mn aO ht h2,h3,h4⟩
theorem ach(I:Inv G γ H w):Inv G (γ.part ids tks) ⟨bx,tk⟩ w:=by
 have hR:=SQ (γ:=γ) (ids:=ids) (tks:=tks);constructor
 .exact I.size
 .exact I.aY
 .intro j row n b cap h1 h2;obtain⟨t,_,hr⟩:=Hi aO I h1;exact I.jq t row n b cap hr h2
 .exact I.mem
 .exact I.jv
 .simp[Gh.part,(og bS).1]
 .intro j k b cj ck h1 h2 h3 h4 n1 n2;obtain⟨i,c0,q1,q2,q3,q4⟩:=Hj bS I h1 h3;obtain⟨i',c1,r1,r2,r3,r4⟩:=Hj bS I h2 h4;have:=I.nodup i i' b c0 c1 q2 r2 q3 r3 (lY q4 n1) (lY r4 n2);subst this;exact SN gS q1 r1
 .intro j b cs hb hc;obtain⟨i,hi,yH⟩:=Mm bS I hb;have hc:bx[j]? =Z cs:=hc;obtain⟨i',h1,h2⟩:=oP bS hc;rw[hi] at h1;cases h1;split at h2
  .rename_i cs0 aci;obtain⟨vs,T,fr,q1,q2,q3,q4⟩:=I.box i b cs0 yH aci;exact⟨vs,T,fr,(Gz (yG h2) _).trans q1,He hR q2 h2,λhm=>Hf h2 (q3 ((yG h2).symm.trans hm)),λhn=>q4 (lY h2 hn)⟩
  .cases h2
 .intro b o hb;obtain⟨i,_,c0,_,h1,h2,h3⟩:=A8 bS I hb;exact I.gZ b o ⟨i,c0,h1,h2,h3⟩
 .intro j b h1 h2;obtain⟨i,c0,q1,q2,q3,q4⟩:=Hj bS I h1 h2;have h0:c0=[]:=by
   cases c0 with
   |nil=>rfl
   |cons d r=>have:=(oV q4).1;simp at this
  subst h0;exact I.js i b q2 q3
 .simp[Gh.part,(og aO).1]
 .intro j row f h1 h2;obtain⟨t,ht,hr⟩:=Hi aO I h1;obtain⟨r,q1,q2⟩:=I.row t row f hr (Mn aO ht h2);exact⟨r,q1,q2.keep (λ_ _ h=>h) (λ_ _ _ _=>rfl) (λ_ _ _ _ _=>rfl) (λb cap _ _ hb hb'=>hb (Mp bS I hb'))⟩
 .intro j row f h1 h2;obtain⟨t,ht,hr⟩:=Hi aO I h1;exact I.jx t row f hr (Mn aO ht h2)
 .intro j k b h h';obtain⟨t,h1,h2⟩:=wI aO I h;obtain⟨t',h3,h4⟩:=wI aO I h';have:=I.free t t' b h2 h4;subst this;exact SN iF h1 h3
def Gh.whole(γ γl:Gh)(ids tks:List Nat)(kept:Bool):Gh:=
 {base:=γ.base,aY:=γl.aY,mem:=γl.mem,boxes:=γ.boxes++(if kept then γl.boxes.drop (O ids) else[]),rows:=bZ γ.rows tks (γl.rows.take (O tks))}

omit gS bS aO iF in
theorem Hm{kept:Bool}(iF:tks.Nodup)(hj:tks[j]? =Z t)(ht:t<O γ.rows)(hl:O tks<=O γl.rows):(γ.whole γl ids tks kept).rows[t]? =γl.rows[j]?:=by
 have hj':=(af.1 hj).1;simp only[Gh.whole];rw[A7 tks γ.rows _ j t iF hj ht (by simp;omega),gL,if_pos hj']
theorem SR(I:Inv G γ H w){Hl:Hp}{w':World}(L:(γ.part ids tks).le γl)(F:Frame (γ.part ids tks) ⟨bx,tk⟩ w γl Hl w')(J:Inv G γl Hl w')(kept:Bool){mB nw:List (List D)}
    (hm:O ids<=O Hl.bx) (ht:O tks<=O Hl.tk)
    (yH:∀i j,bi i=Z j->(i<O ids/\ids[i]? =Z j)\/(kept=true/\O ids<=i/\j=O H.bx+(i-O ids)))
    (hb:aH (D.aZ bi λt=>tks[t]?) (Hl.bx.take (O ids))=Z mB) (hn:if kept then aH (D.aZ bi λt=>tks[t]?) (Hl.bx.drop (O ids))=Z nw else nw=[]):
    Ren γl (γ.whole γl ids tks kept) bi (λt=>tks[t]?)/\γ.le (γ.whole γl ids tks kept)/\Frame γ H w (γ.whole γl ids tks kept) ⟨bZ H.bx ids mB++nw,bZ H.tk tks (Hl.tk.take (O tks))⟩ w'/\
     Inv G (γ.whole γl ids tks kept) ⟨bZ H.bx ids mB++nw,bZ H.tk tks (Hl.tk.take (O tks))⟩ w':=by
 have uI:O γl.boxes=O Hl.bx:=J.cS;have hlt:O γl.rows=O Hl.tk:=J.fZ;have rP:∀(j i:Nat),ids[j]? =Z i->i<O γ.boxes:=λj i h=>by
  obtain⟨_,m2⟩:=og bS;obtain⟨y,hy,_⟩:=m2 j i h;rw[I.cS];split at hy
  .rename_i cs hcs;exact(af.1 hcs).1
  .cases hy
 have Dr:∀(j t:Nat),tks[j]? =Z t->t<O γ.rows:=λj t h=>by
  obtain⟨_,m2⟩:=og aO;obtain⟨y,hy,_⟩:=m2 j t h;rw[I.fZ];exact(af.1 hy).1
 -- boxes of the callee that the caller knows
 have hold:∀(j i:Nat),ids[j]? =Z i->∃b,γ.boxes[i]? =Z b/\γl.boxes[j]? =Z b:=λj i h=>by
  have hi:=rP j i h;refine⟨γ.boxes[i],aD hi,L.boxes j _ (Mk.2 ⟨i,h,by rw[aD hi];rfl⟩)⟩
 have lA:∀b,Lv γl Hl b->(∃(i j:Nat) (c0:List D),ids[j]? =Z i/\γ.boxes[i]? =Z b/\H.bx[i]? =Z c0/\c0≠[])\/w.heap.size<=b:=λb hb=>by
  rcases F.box b hb with h |h
  .exact .inl (A8 bS I h)
  .exact .inr h
 have hbl:O mB=O ids:=by rw[(og hb).1];simp;omega
 have th:∀(m b:Nat) cs,(γ.whole γl ids tks kept).boxes[m]? =Z b->(bZ H.bx ids mB++nw)[m]? =Z cs->
     (∃(k:Nat) (c0:List D),γl.boxes[k]? =Z b/\Hl.bx[k]? =Z c0/\D.aZ bi (λt=>tks[t]?) c0=Z cs/\((k<O ids/\ids[k]? =Z m)\/(kept=true/\O ids<=k/\m=O H.bx+(k-O ids))))\/(m∉ids/\γ.boxes[m]? =Z b/\H.bx[m]? =Z cs):=λm b cs h1 h2=>by
  simp only[Gh.whole] at h1;by_cases hi:m<O γ.boxes
  .rw[aT hi] at h1;rw[aT (by rw[ic,<-I.cS];exact hi)] at h2;by_cases cU:m∈ids
   .obtain⟨k,hk⟩:=dV cU;have eM:=(af.1 hk).1;rw[A7 ids H.bx mB k m gS hk (by rw[<-I.cS];exact hi) (by omega)] at h2;obtain⟨c0,a1,a2⟩:=oP hb h2;rw[gL,if_pos eM] at a1;obtain⟨b',c1,c2⟩:=hold k m hk;rw[h1] at c1;cases c1;exact .inl ⟨k,c0,c2,a1,a2,.inl ⟨eM,hk⟩⟩
   .rw[wH ids _ _ m cU] at h2;exact .inr ⟨cU,h1,h2⟩
  .rw[cR (by omega)] at h1;rw[cR (by rw[ic,<-I.cS];omega),ic,<-I.cS] at h2;cases kept with
   |false=>simp at h1
   |true=>
    simp only[if_true] at h1 hn;rw[lN] at h1;obtain⟨c0,a1,a2⟩:=oP hn h2;rw[lN] at a1;exact .inl ⟨_,c0,h1,a1,a2,.inr ⟨rfl,by omega,by rw[<-I.cS];omega⟩⟩
 have SS:∀b,Lv (γ.whole γl ids tks kept) ⟨bZ H.bx ids mB++nw,bZ H.tk tks (Hl.tk.take (O tks))⟩ b->Lv γl Hl b\/∃(m:Nat) (cs:List D),m∉ids/\γ.boxes[m]? =Z b/\H.bx[m]? =Z cs/\cs≠[]:=λb h=>by
  obtain⟨m,cs,h1,h2,h3⟩:=h;rcases th m b cs h1 h2 with⟨k,c0,a1,a2,a3,_⟩ |⟨a1,a2,a3⟩
  .exact .inl ⟨k,c0,a1,a2,lY a3 h3⟩
  .exact .inr ⟨m,cs,a1,a2,a3,h3⟩
 -- a variable that the callee does not know is none of its own
 have SU:∀(m b:Nat) cs,m∉ids->γ.boxes[m]? =Z b->H.bx[m]? =Z cs->cs≠[]->¬Lv γl Hl b:=λm b cs h1 h2 h3 h4 h=>by
  rcases lA b h with⟨i,j,c0,a1,a2,a3,a4⟩ |h
  .have:=I.nodup m i b cs c0 h2 a2 h3 a3 h4 a4;subst this;exact h1 (bB a1)
  .have:=I.nZ (bB h2);omega
 have SV:∀b,b∈(γ.whole γl ids tks kept).boxes->b∈γ.boxes\/(kept=true/\∃j,O ids<=j/\γl.boxes[j]? =Z b):=λb h=>by
  simp only[Gh.whole] at h;rcases cx.1 h with h |h
  .exact .inl h
  .cases kept with
   |false=>simp at h
   |true=>
    simp only[if_true] at h;obtain⟨j,hj⟩:=dV h;rw[lN] at hj;exact .inr ⟨rfl,O ids+j,by omega,hj⟩
 have yI:∀b,b∈(γ.whole γl ids tks kept).boxes->b∈γ.boxes\/w.heap.size<=b:=λb h=>by
  rcases SV b h with h |⟨_,j,_,h2⟩
  .exact .inl h
  .rcases F.ur b (bB h2) with h |h
   .exact .inl (Mp bS I h)
   .exact .inr h
 have Mq:∀(t:Nat) row f,(γ.whole γl ids tks kept).rows[t]? =Z row->(bZ H.tk tks (Hl.tk.take (O tks)))[t]? =Z f->
     (∃j,tks[j]? =Z t/\γl.rows[j]? =Z row/\Hl.tk[j]? =Z f)\/(t∉tks/\γ.rows[t]? =Z row/\H.tk[t]? =Z f):=λt row f h1 h2=>by
  by_cases cU:t∈tks
  .obtain⟨j,hj⟩:=dV cU;have hj':=(af.1 hj).1;have hl:=Dr j t hj;rw[Hm iF hj hl (by omega)] at h1;rw[A7 tks H.tk _ j t iF hj (by rw[<-I.fZ];exact hl) (by simp;omega),gL,if_pos hj'] at h2;exact .inl ⟨j,hj,h1,h2⟩
  .simp only[Gh.whole] at h1;rw[wH tks _ _ t cU] at h1 h2;exact .inr ⟨cU,h1,h2⟩
 have Hn:∀t b,cZ (γ.whole γl ids tks kept) ⟨bZ H.bx ids mB++nw,bZ H.tk tks (Hl.tk.take (O tks))⟩ t b->
     (∃j,tks[j]? =Z t/\cZ γl Hl j b)\/(t∉tks/\cZ γ H t b):=λt b h=>by
  obtain⟨row,f,cap,h1,h2,h3,h4⟩:=h;rcases Mq t row f h1 h2 with⟨j,a1,a2,a3⟩ |⟨a1,a2,a3⟩
  .exact .inl ⟨j,a1,row,f,cap,a2,a3,h3,h4⟩
  .exact .inr ⟨a1,row,f,cap,a2,a3,h3,h4⟩
 have rQ:∀j b,cZ γl Hl j b->(∃t,tks[j]? =Z t/\cZ γ H t b)\/w.heap.size<=b:=λj b h=>by
  rcases F.uo j b h with h |h
  .exact .inl (wI aO I h)
  .exact .inr h
 have SX:∀b,j8 (γ.part ids tks) ⟨bx,tk⟩ b->j8 γ H b:=λb h=>by
  rcases h with h |⟨j,h⟩
  .obtain⟨i,_,c0,_,h1,h2,h3⟩:=A8 bS I h;exact .inl ⟨i,c0,h1,h2,h3⟩
  .obtain⟨t,_,h⟩:=wI aO I h;exact .inr ⟨t,h⟩
 have hle:γ.le (γ.whole γl ids tks kept):=by
  refine⟨rfl,L.aY,L.mem,λi b h=>?_,λt r h=>?_⟩
  .simp only[Gh.whole];rw[aT (af.1 h).1];exact h
  .by_cases cU:t∈tks
   .obtain⟨j,hj⟩:=dV cU;have hl:=Dr j t hj;rw[Hm iF hj hl (by have:=(af.1 hj).1;omega)];exact L.rows j r (Ml.2 ⟨t,hj,by rw[h];rfl⟩)
   .refine⟨r,?_,rfl,rfl,λ_ _ h=>h⟩;simp only[Gh.whole];rw[wH tks _ _ t cU];exact h
 have hR:Ren γl (γ.whole γl ids tks kept) bi (λt=>tks[t]?):=by
  refine⟨L.base.symm,λ_ _ h=>h,λ_ _ _ h=>h,λi j b h hb'=>?_,λt u row h hr=>?_⟩
  .rcases yH i j h with⟨h1,h2⟩ |⟨h1,h2,h3⟩
   .obtain⟨b',c1,c2⟩:=hold i j h2;rw[hb'] at c2;cases c2;exact hle.boxes _ _ c1
   .subst h1;subst h3;simp only[Gh.whole,if_true];rw[<-I.cS,cR (by omega),lN];have :O ids+(O γ.boxes+(i-O ids)-O γ.boxes)=i:=by omega
    rw[this];exact hb'
  .have h:tks[t]? =Z u:=h;refine⟨row,?_,rfl,rfl,λ_ _ h=>h⟩;rw[Hm iF h (Dr t u h) (by have:=(af.1 h).1;omega)];exact hr
 refine⟨hR,hle,⟨F.os,F.tape,F.output,F.size,λb hb' ho=>F.blk b hb' λh=>ho (SX b h),λb o hb' ho=>F.mem b o hb' λh=>ho (SX b h),λb h=>?_,λt b h=>?_,yI⟩,?_⟩
 .rcases SS b h with h |⟨m,cs,_,h1,h2,h3⟩
  .rcases lA b h with⟨i,_,c0,_,h1,h2,h3⟩ |h
   .exact .inl ⟨i,c0,h1,h2,h3⟩
   .exact .inr h
  .exact .inl ⟨m,cs,h1,h2,h3⟩
 .rcases Hn t b h with⟨j,h1,h2⟩ |⟨_,h2⟩
  .rcases rQ j b h2 with⟨t',h3,h4⟩ |h3
   .rw[h1] at h3;cases h3;exact .inl h4
   .exact .inr h3
  .exact .inl h2
 .constructor
  .exact fW I.size F.size
  .exact J.aY
  .intro t row n b cap h1 h2;by_cases cU:t∈tks
   .obtain⟨j,hj⟩:=dV cU;rw[Hm iF hj (Dr j t hj) (by have:=(af.1 hj).1;omega)] at h1;have:=J.jq j row n b cap h1 h2;have hb:γl.base=γ.base:=L.base;show γ.base<=b;omega
   .simp only[Gh.whole] at h1;rw[wH tks _ _ t cU] at h1;exact I.jq t row n b cap h1 h2
  .exact J.mem
  .exact J.jv
  .simp only[Gh.whole,gG,ic,I.cS];congr 1
   cases kept with
   |false=>simp only[qp,if_false] at hn|-;simp[hn]
   |true=>
    simp only[if_true] at hn|-;rw[(og hn).1];simp[uI]
  .intro m m' b cm Ho h1 h2 h3 h4 n1 n2;rcases th m b cm h1 h3 with⟨k,c0,a1,a2,a3,a4⟩ |⟨a1,a2,a3⟩
   .rcases th m' b Ho h2 h4 with⟨k',Mr,b1,b2,b3,b4⟩ |⟨b1,b2,b3⟩
    .have:=J.nodup k k' b c0 Mr a1 b1 a2 b2 (lY a3 n1) (lY b3 n2);subst this;rcases a4 with⟨e1,e2⟩ |⟨e1,e2,e3⟩
     .rcases b4 with⟨f1,f2⟩ |⟨f1,f2,f3⟩
      .rw[e2] at f2;exact nQ f2
      .omega
     .rcases b4 with⟨f1,f2⟩ |⟨f1,f2,f3⟩
      .omega
      .omega
    .exact(SU m' b Ho b1 b2 b3 n2 ⟨k,c0,a1,a2,lY a3 n1⟩).elim
   .rcases th m' b Ho h2 h4 with⟨k',Mr,b1,b2,b3,b4⟩ |⟨b1,b2,b3⟩
    .exact(SU m b cm a1 a2 a3 n1 ⟨k',Mr,b1,b2,lY b3 n2⟩).elim
    .exact I.nodup m m' b cm Ho a2 b2 a3 b3 n1 n2
  .intro i b cs hb' hc;rcases th i b cs hb' hc with⟨k,c0,a1,a2,h2,_⟩ |⟨cU,a1,a2⟩
   .obtain⟨vs,T,fr,q1,q2,q3,q4⟩:=J.box k b c0 a1 a2;exact⟨vs,T,fr,(Gz (yG h2) _).trans q1,He hR q2 h2,λhm=>Hf h2 (q3 ((yG h2).symm.trans hm)),λhn=>q4 (lY h2 hn)⟩
   .by_cases h0:cs=[]
    .subst h0;obtain⟨x,hx⟩:=I.js i b a1 a2;obtain⟨vs,fr,q1,_⟩:=J.aY b x.1 x.2 (L.aY _ _ hx);exact⟨vs,x.1/2,fr,by rw[iu rfl];exact q1,⟨bD _,λi d hd=>by simp at hd⟩,λ_ c hc=>by simp at hc,λh=>(h rfl).elim⟩
    obtain⟨vs,T,fr,q1,q2,q3,q4⟩:=I.box i b cs a1 a2;have hno:¬j8 (γ.part ids tks) ⟨bx,tk⟩ b:=by
     rintro (h |⟨j,h⟩)
     .obtain⟨i',j',c1,h1,h2,h3,h4⟩:=A8 bS I h;have:=I.nodup i i' b cs c1 a1 h2 a2 h3 h0 h4;subst this;exact cU (bB h1)
     .obtain⟨t,_,row,f,cap,h1,h2,h3,h4⟩:=wI aO I h;obtain⟨r,p1,p2⟩:=I.row t row f h1 h2;rw[h3] at p1;cases p1;obtain⟨_,_,_,_,_,_,_,fl⟩:=p2.2 h4;exact fl (bB a1)
    have lB:=bB a1;rcases(F.blk b (I.nZ lB) hno).2 with e |⟨us,U,rL,Ms,e1,e2,e3⟩
    .exact⟨vs,T,fr,by rw[e];exact q1,q2.mono hle,q3,q4⟩
    .have hm:ay cs=false:=by
      cases hm:ay cs with
      |false=>rfl
      |true=>rw[e1] at q1;simp[nY,hm] at q1
     rw[iu hm] at q1;rw[q1] at e1;cases e1;refine⟨vs,T,Ms,(iu hm _).trans e2,q2.mono hle,q3,λhn k hk hk2 hf=>?_⟩;rcases e3 k hk2 hf with q |q
     .exact q4 hn k hk hk2 q
     .exact q ((F.mem b k (I.nZ lB) hno).trans (I.gZ b k ⟨i,cs,a1,a2,h0⟩))
  .intro b o hb';rcases SS b hb' with h |⟨m,cs,h1,h2,h3,h4⟩
   .exact J.gZ b o h
   .have hno:¬j8 (γ.part ids tks) ⟨bx,tk⟩ b:=by
     rintro (h' |⟨j,h'⟩)
     .obtain⟨i',j',c1,g1,g2,g3,g4⟩:=A8 bS I h';have:=I.nodup m i' b cs c1 h2 g2 h3 g3 h4 g4;subst this;exact h1 (bB g1)
     .obtain⟨t,_,row,f,cap,g1,g2,g3,g4⟩:=wI aO I h';obtain⟨r,p1,p2⟩:=I.row t row f g1 g2;rw[g3] at p1;cases p1;obtain⟨_,_,_,_,_,_,_,fl⟩:=p2.2 g4;exact fl (bB h2)
    have:=F.mem b o (I.nZ (bB h2)) hno;show γl.mem b o=Y;rw[this];exact I.gZ b o ⟨m,cs,h2,h3,h4⟩
  .intro i b h1 h2;rcases th i b [] h1 h2 with⟨k,c0,a1,a2,a3,_⟩ |⟨_,a1,a2⟩
   .have h0:c0=[]:=by
     cases c0 with
     |nil=>rfl
     |cons d r=>have:=(oV a3).1;simp at this
    subst h0;exact J.js k b a1 a2
   .obtain⟨x,hx⟩:=I.js i b a1 a2;exact⟨x,L.aY _ _ hx⟩
  .simp[Gh.whole,ic,I.fZ]
  .intro t row f h1 h2;rcases Mq t row f h1 h2 with⟨j,a1,a2,a3⟩ |⟨a1,a2,a3⟩
   .obtain⟨r,q1,q2⟩:=J.row j row f a2 a3;refine⟨r,q1,q2.keep (λ_ _ h=>h) (λ_ _ _ _=>rfl) (λ_ _ _ _ _=>rfl) (λb cap hr hlt fl hb'=>?_)⟩;rcases SV b hb' with h |⟨_,k,_,h⟩
    .rcases rQ j b ⟨row,f,cap,a2,a3,hr▸q1,hlt⟩ with⟨t',_,row',f',cap',c1,c2,c3,c4⟩ |h'
     .obtain⟨r',p1,p2⟩:=I.row t' row' f' c1 c2;rw[c3] at p1;cases p1;obtain⟨_,_,_,_,_,_,_,Mt⟩:=p2.2 c4;exact Mt h
     .have:=I.nZ h;omega
    .exact fl (bB h)
   .obtain⟨r,q1,q2⟩:=I.row t row f a2 a3;have hno:∀b cap,r=Z (b,cap)->f<cap->¬j8 (γ.part ids tks) ⟨bx,tk⟩ b:=by
     intro b cap hr hlt;subst hr;obtain⟨_,_,_,_,_,_,_,fl⟩:=q2.2 hlt;rintro (h |⟨j,h⟩)
     .exact fl (Mp bS I h.mem)
     .obtain⟨t',h3,h4⟩:=wI aO I h;have:=I.free t t' b ⟨row,f,cap,a2,a3,q1,hlt⟩ h4;subst this;exact a1 (bB h3)
    have Mu:∀b cap,r=Z (b,cap)->f<cap->b<w.heap.size:=λb cap hr hlt=>I.oO ⟨row,f,cap,a2,a3,hr▸q1,hlt⟩;refine⟨r,q1,q2.RG L.aY (λb cap hr hlt=>(F.blk b (Mu b cap hr hlt) (hno b cap hr hlt)).2) (λb cap hr hlt o=>F.mem b o (Mu b cap hr hlt) (hno b cap hr hlt)) (λb cap hr hlt fl hb'=>?_)⟩;rcases yI b hb' with h |h
    .exact fl h
    .have:=Mu b cap hr hlt;omega
  .intro t row f h1 h2;rcases Mq t row f h1 h2 with⟨j,a1,a2,a3⟩ |⟨a1,a2,a3⟩
   .exact J.jx j row f a2 a3
   .exact I.jx t row f a2 a3
  .intro t t' b h h';rcases Hn t b h with⟨j,h1,h2⟩ |⟨h1,h2⟩
   .rcases Hn t' b h' with⟨j',h3,h4⟩ |⟨h3,h4⟩
    .have:=J.free j j' b h2 h4;subst this;rw[h1] at h3;cases h3;rfl
    .rcases rQ j b h2 with⟨t2,h5,h6⟩ |h5
     .have:=I.free t2 t' b h6 h4;subst this;exact(h3 (bB h5)).elim
     .have:=I.oO h4;omega
   .rcases Hn t' b h' with⟨j',h3,h4⟩ |⟨h3,h4⟩
    .rcases rQ j' b h4 with⟨t2,h5,h6⟩ |h5
     .have:=I.free t t2 b h2 h6;subst this;exact(h1 (bB h5)).elim
     .have:=I.oO h2;omega
    .exact I.free t t' b h2 h4
end

end Go.Vs

namespace Go.Vs

variable{K:Act->World->Prop}{ops:Array Oper}{env:Env}{Q:Exit->Act->World->Prop}{γ:Gh}{H H':Hp}{args:List D}{f nt:Nat}{r:bR}
variable{P : Program} {W : World} {G : Nat -> Option (List PD)}   {w : World}  {a : Act} {o : Oper}
structure bw (W:World) (G:Nat->Option (List PD)) (γ:Gh) (H:Hp) (w:World):Prop extends Inv G γ H w where
 Ds:γ.base=W.heap.size
 nc:RowKit.Below W.heap.size W w
 own:∀b,j8 γ H b->W.heap.size<=b
theorem bw.up{γ':Gh}{w':World}(I:bw W G γ H w)(L:γ.le γ')(F:Frame γ H w γ' H' w')(J:Inv G γ' H' w'):bw W G γ' H' w':=by
 have hb:=I.nc.size;refine⟨J,L.base.trans I.Ds,⟨F.os.trans I.nc.os,F.tape.trans I.nc.tape,F.output.trans I.nc.output,fW hb F.size,λk hk=>?_⟩,λb h=>?_⟩
 .have hn:¬j8 γ H k:=λh=>by have:=I.own k h;omega
  have hk2:k<W.heap.size:=hk;exact((F.blk k (by omega) hn).1 (by rw[I.Ds];exact hk2)).trans (I.nc.block k hk)
 .rcases F.own b h with q |q
  .exact I.own b q
  .omega
def jA(γ:Gh)(r:bR)(e:Ending):Prop:=
 match r with
 | .val d=>∃v,e= .returned v/\aB γ v d
 | .bN d=>∃v,e= .panicked [{v,recovered:=false}]/\aB γ v d
def Enters(P:Program)(f:Nat):Prop:=∃fn,P.funcs[f]? =Z fn/\(fn.name== "runtime.NumGoroutine")=false/\fn.body.isNone=false
def wJ(P:Program)(W:World)(G:Nat->Option (List PD))(f:Nat)(args:List D)(H:Hp)(r:bR)(H':Hp):Prop:=
 Enters P f/\∀γ w vs,bw W G γ H w->cv γ vs args->Calls P f vs w λe w'=>∃γ',γ.le γ'/\Frame γ H w γ' H' w'/\bw W G γ' H' w'/\jA γ' r e
def Sound(P:Program)(W:World)(G:Nat->Option (List PD))(c:br):Prop:=∀f args H r H',c f args H=Z (r,H')->wJ P W G f args H r H'
theorem Mv{γ1 γ2:Gh}{bi ti:Nat->Option Nat}(R:Ren γ1 γ2 bi ti){r':bR}(h:r.ren bi ti=Z r'){e:Ending}(he:jA γ1 r e):jA γ2 r' e:=by
 cases r with
 |val d=>
  obtain⟨d',hd,rfl⟩:=ak.1 h;obtain⟨v,rfl,hv⟩:=he;exact⟨v,rfl,yF R hv hd⟩
 |bN d=>
  obtain⟨d',hd,rfl⟩:=ak.1 h;obtain⟨v,rfl,hv⟩:=he;exact⟨v,rfl,yF R hv hd⟩
theorem acj{ids tks:List Nat}{bx:List (List D)}{tk:List Nat}(gS:ids.Nodup)(iF:tks.Nodup)(bS:aH (λi=>match H.bx[i]? with |some cs=>D.aZ (idx ids) (idx tks) cs |none=>Y) ids=Z bx)(aO:aH (λt=>H.tk[t]?) tks=Z tk)(I:bw W G γ H w):bw W G (γ.part ids tks) ⟨bx,tk⟩ w:=by
 refine⟨ach gS iF bS aO I.toInv,I.Ds,I.nc,λb h=>I.own b ?_⟩;rcases h with h |⟨j,h⟩
 .obtain⟨i,_,c0,_,h1,h2,h3⟩:=A8 bS I.toInv h;exact .inl ⟨i,c0,h1,h2,h3⟩
 .obtain⟨t,_,h⟩:=wI aO I.toInv h;exact .inr ⟨t,h⟩
theorem SY{C:Array Value->World->(Ending->World->Prop)->Prop}(Cm:∀vs w (R R':Ending->World->Prop),C vs w R->(∀e w',R e w'->R' e w')->C vs w R'){c:br}
    (S:∀args H r H',c f args H=Z (r,H')->∀γ w vs,bw W G γ H w->cv γ vs args->C vs w λe w'=>∃γ',γ.le γ'/\Frame γ H w γ' H' w'/\bw W G γ' H' w'/\jA γ' r e)
        (h:au c f args H=Z (r,H')):∀γ w vs,bw W G γ H w->cv γ vs args->C vs w λe w'=>∃γ',γ.le γ'/\Frame γ H w γ' H' w'/\bw W G γ' H' w'/\jA γ' r e:=by
 unfold au at h;dsimp only at h;generalize rP:reach H (O H.bx) (ins [] (D.ai args))=ids at h;generalize Dr:ins [] (D.aC args++gM H ids)=tks at h;split at h
 .rename_i hn;have gS:=Mj (CW.1 hn).1;have iF:=Mj (CW.1 hn).2;split at h
  .rename_i as bx tk h1 h2 h3;split at h
   .rename_i rl Hl hc;intro γ w vs I r0;refine Cm _ _ _ _ (S as ⟨bx,tk⟩ rl Hl hc (γ.part ids tks) w vs (acj gS iF h2 h3 I) (acg SQ r0 h1)) ?_;rintro e w' ⟨γl,L,F,J,E⟩;unfold back at h;split at h
    .rename_i bxc tkc hb1 hb2;obtain⟨m1,rfl⟩:=SP hb1;obtain⟨m2,rfl⟩:=SP hb2;dsimp only at h;split at h
     .rename_i r' mB q1 q2;cases h;obtain⟨R,w1,w2,w3⟩:=SR gS iF h2 h3 I.toInv L F J.toInv false (bi:=λi=>ids[i]?) m1 m2 (λi j cI=>.inl ⟨(af.1 cI).1,cI⟩) q2 (nw:=[]) rfl;simp only[iQ] at w2 w3;exact⟨_,w1,w2,I.up w1 w2 w3,Mv R q1 E⟩
     .split at h
      .rename_i r' mB n0 nw q1 q2 q3;cases h;obtain⟨R,w1,w2,w3⟩:=SR gS iF h2 h3 I.toInv L F J.toInv true (bi:=λi=>if i<O ids then ids[i]? else Z (O H.bx+(i-O ids))) m1 m2 (λi j cI=>by
        split at cI
        .rename_i hlt;exact .inl ⟨hlt,cI⟩
        .rename_i kH;cases cI;exact .inr ⟨rfl,by omega,rfl⟩) q2 (nw:=n0::nw) q3
       exact⟨_,w1,w2,I.up w1 w2 w3,Mv R q1 E⟩
      .cases h
    .cases h
   .cases h
  .cases h
 .cases h
theorem ack{c:br}(S:Sound P W G c)(h:au c f args H=Z (r,H')):Enters P f:=by
 unfold au at h;dsimp only at h;split at h
 .split at h
  .split at h
   .rename_i hc;exact(S f _ _ _ _ hc).1
   .cases h
  .cases h
 .cases h
theorem acm{c:br}(S:Sound P W G c)(h:au c f args H=Z (r,H')):wJ P W G f args H r H':=
 ⟨ack S h,SY (C:=λvs w R=>Calls P f vs w R) (λ_ _ _ _ h q=>h.mono q) (λas H r H' hc=>(S f as H r H' hc).2) h⟩
theorem Mw(h:Enters P f)(args:Array Value)(w:World):(callFunc f args).run P w= .ok (.enter f args) w:=by
 obtain⟨fn,h1,h2,h3⟩:=h;unfold callFunc;simp only[Sem.run_bind,run_program,Result.andThen_ok,h1,h2,h3,qp,if_false,Sem.run_pure]
theorem cv.append{a b:Array Value}{x y:List D}(h:cv γ a x)(k:cv γ b y):cv γ (a++b) (x++y):=by
 refine⟨by simp[h.1,k.1],λi d hd=>?_⟩;have h1:=h.1;by_cases hi:i<O x
 .rw[aT hi] at hd;have:=h.2 i d hd;have e:(a++b).getD i undef=a.getD i undef:=by simp[bP,CU,h1,hi]
  rw[e];exact this
 .rw[cR (by omega)] at hd;have:=k.2 _ d hd;have e:(a++b).getD i undef=b.getD (i-O x) undef:=by
   simp only[bP];rw[Z0 (by omega),h1]
  rw[e];exact this
theorem acn{c:br}(S:Sound P W G c)(I:bw W G γ H w)(E:aW γ env a.tmps){f:Operand}{args:Array Operand}{ts:Array TypeId}(ho:o.op= .call {callee:=.value f,args,argTypes:=ts}){f':aA}{args':List aA}(hf:aL f=Z f')
    (ha:aH aL args.toList=Z args')   (he:fM c (f'.ev env) (args'.map (·.ev env)) H=Z (r,H'))  
    (hK:∀v γ' w' d,r= .val d->γ.le γ'->Frame γ H w γ' H' w'->bw W G γ' H' w'->aB γ' v d->K (a.put o.dst v) w')
    (hQ:∀v γ' w' d,r= .bN d->γ.le γ'->Frame γ H w γ' H' w'->bw W G γ' H' w'->aB γ' v d->Q (.panic [{v,recovered:=false}]) a w'):o.wp P a w K Q:=by
 have gQ:=cg E hf;have uJ:=GL E ha;unfold fM at he;split at he
 .rename_i g first cap hg
  rw[hg] at gQ;obtain⟨as,cs,hv,r1,r2⟩:=gQ.GM;obtain⟨rR,hm⟩:=acm S he;have oU:cv γ (as++args.map a.eval++cs) (first++args'.map (·.ev env)++cap):=(r1.append uJ).append r2;have hrun:(execOp a.eval o).run P w= .ok (.enter g (as++args.map a.eval++cs)) w:=by
   simp[execOp,ho,resolve,hv,Deferred.ofValue,invoke,Mw rR]
  unfold Oper.wp;rw[hrun,Oper.upon_enter];refine(hm γ w _ I oU).mono ?_;rintro e w' ⟨γ',L,F,J,En⟩;cases r with
  |val d=>
   obtain⟨v,rfl,hv'⟩:=En;exact hK v γ' w' d rfl L F J hv'
  |bN d=>
   obtain⟨v,rfl,hv'⟩:=En;exact hQ v γ' w' d rfl L F J hv'
 .cases he
structure p8 (P:Program) (ops:Array Oper) (nt:Nat) (o:Oper) (so:SO):Prop where
 k:∃hint,pZ P o hint=so.k
 dst:so.dst=o.dst
 lt:∀t,o.dst=Z t->t<nt
 g:so.g=match o.guard with
  |none=>Y
  |some (j,want)=>match(ops[j]?).bind (·.dst) with
   |some t=>Z (t,want)
   |none=>Y
 gd:∀j want,o.guard=Z (j,want)->((ops[j]?).bind (·.dst)).isSome=true
theorem aco{op:Op}{r:Option SK}(h:AY op=Z r):(∃f0 rS ts,op= .call {callee:=.value f0,args:=rS,argTypes:=ts}/\
    r=(match aL f0,aH aL rS.toList with |some g,Z xs=>Z (.call g xs) |_,_=>Y))\/∃x,op= .panic x/\r=(aL x).map .panic:=by
 cases op with
 |call c=>
  obtain⟨callee,as,ts⟩:=c;cases callee with
  |value g=>
   refine .inl ⟨g,as,ts,rfl,?_⟩;simp only[AY] at h;split at h<;>cases h<;>simp_all
  |_=>cases h
 |panic x=>
  simp only[AY,bM] at h;exact .inr ⟨x,rfl,h.symm⟩
 |_=>cases h
theorem lZ{c:br}{k:SK}(hk:k.lz=false):cH c G env H k=match aP G env H k with |some (d,H')=>Z (.val d,H') |none=>Y:=by
 cases k<;>first |rfl |cases hk
theorem acp{h:Option SK}{k:SK}(hc:k.lz=true)(hk:pZ P o h=k):qA P o.op=k:=by
 unfold pZ GK at hk;split at hk
 .split at hk
  .subst hk;cases hc
  .exact hk
 .split at hk
  .split at hk
   .split at hk
    .split at hk
     .subst hk;cases hc
     .exact hk
    .exact hk
   .exact hk
  .exact hk
 .exact hk
theorem acq(I:bw W G γ H w)(E:aW γ env a.tmps){x:Operand}(ho:o.op= .panic x){y:aA}(hy:aL x=Z y)(he:Gl (y.ev env) H=Z (r,H'))
    (hQ:∀v γ' w' d,r= .bN d->γ.le γ'->Frame γ H w γ' H' w'->bw W G γ' H' w'->aB γ' v d->Q (.panic [{v,recovered:=false}]) a w'):o.wp P a w K Q:=by
 have hr:=cg E hy;have key:∃t v,a.eval x= .iface t v/\r= .bN (y.ev env)/\H'=H:=by
  unfold Gl at he;split at he
  .rename_i t y' hd;rw[hd] at hr;have:=hr.cu;generalize a.eval x=v at this;cases this with
   |iface t v z hz=>cases he;exact⟨t,v,rfl,by rw[hd],rfl⟩
  .rename_i t y' hd;rw[hd] at hr;generalize a.eval x=v at hr;cases hr with
   |eC t v d bO=>cases he;exact⟨t,v,rfl,by rw[hd],rfl⟩
  .cases he
 obtain⟨t,v,hv,rfl,rfl⟩:=key;have hx:(execOp a.eval o).run P w= .halt (.panic (.iface t v)) w:=by
  unfold execOp;rw[ho];dsimp only;rw[hv];rfl
 unfold Oper.wp;rw[hx];exact hQ _ γ w _ rfl (.refl γ) (.refl γ H' w) I (by rw[<-hv];exact hr)
theorem yJ{c:br}(S:Sound P W G c)(I:bw W G γ H w)(E:aW γ env a.tmps){k:SK}(hk:∃hint,pZ P o hint=k)(he:cH c G env H k=Z (r,H'))
    (hK:∀v γ' w' d,r= .val d->γ.le γ'->Frame γ H w γ' H' w'->bw W G γ' H' w'->aB γ' v d->K (a.put o.dst v) w')
    (hQ:∀v γ' w' d,r= .bN d->γ.le γ'->Frame γ H w γ' H' w'->bw W G γ' H' w'->aB γ' v d->Q (.panic [{v,recovered:=false}]) a w'):o.wp P a w K Q:=by
 obtain⟨hint,hk⟩:=hk;by_cases hc:k.lz=true
 .have kL:=acp hc hk;unfold qA at kL;split at kL
  .rename_i r0 yK;rcases aco yK with⟨f0,rS,ts,ho,hr⟩ |⟨x,ho,hr⟩
   .subst hr;split at kL
    .rename_i g' xs' h1 h2;simp only[mq] at kL;subst kL;exact acn S I E ho h1 h2 he hK hQ
    .simp only[aow] at kL;subst kL;cases hc
   .subst hr;cases hx:aL x with
    |none=>
     rw[hx] at kL;simp only[Option.map_none,aow] at kL;subst kL;cases hc
    |some y=>
     rw[hx] at kL;simp only[fy,mq] at kL;subst kL;exact acq I E ho hx he hQ
  .split at kL
   .rename_i k' kG;split at kL
    .subst kL;cases hc
    .rename_i hcc;subst kL;exact absurd hc hcc
   .subst kL;cases hc
 .have hc:k.lz=false:=by simpa using hc
  rw[lZ hc] at he;split at he
  .rename_i d H1 hd;cases he;obtain⟨v,w',γ',hrun,L,F,J0,V⟩:=ace I.toInv E hk hc hd;have J:=I.up L F J0;have hk2:=hK v γ' w' d rfl L F J V;unfold Oper.wp;rcases hrun with h |⟨h,rfl⟩
   .rw[h];exact hk2
   .rw[h];exact hk2
  .cases he
theorem aW.put'(E:aW γ env a.tmps)(hn:a.tmps.size=nt){dst:Option Nat}(hd:∀t,dst=Z t->t<nt){v:Value}{d:D}(h:aB γ v d):
    aW γ (Go.Vs.put dst d env) (a.put dst v).tmps/\(a.put dst v).tmps.size=nt/\(a.put dst v).defers=a.defers:=by
 cases dst with
 |none=>exact⟨E,hn,rfl⟩
 |some t=>exact⟨E.put (by rw[hn];exact hd t rfl) h,by simp[Act.put,hn],rfl⟩
theorem A9{so:SO}(h:p8 P ops nt o so)(E:aW γ env a.tmps)(hn:a.tmps.size=nt)(hlt:∀(j:Nat) o' t,ops[j]? =Z o'->o'.dst=Z t->t<nt){b:Bool}(hg:fY env so.g=Z b):
    Region.wanted o (yielded ops a.tmps)=b:=by
 have h1:=h.g;have h2:=h.gd;cases hgd:o.guard with
 |none=>
  rw[hgd] at h1;rw[h1] at hg;simp only[fY] at hg;cases hg;simp[Region.wanted,hgd]
 |some jw=>
  obtain⟨j,want⟩:=jw;rw[hgd] at h1;obtain⟨t,ht⟩:=ZW.1 (h2 j want hgd);simp only[ht] at h1;rw[h1] at hg;simp only[fY] at hg;have hr:=E t;have lu:t<a.tmps.size:=by
   rw[hn];obtain⟨o',Ba,hd⟩:=Option.bind_eq_some_iff.1 ht;exact hlt j o' t Ba hd
  have hval:a.tmps[t]? =Z (a.tmps.getD t undef):=by simp[bP,lu]
  simp only[Region.wanted,hgd,yielded,ht,Lc,hval];split at hg
  .rename_i bb hb;rw[hb] at hr;rw[hr.cu.sX];cases hg;cases bb<;>cases want<;>rfl
  .rename_i hb;rw[hb] at hr;generalize a.tmps.getD t undef=v at hr;cases hr;cases hg;rfl
  .cases hg
theorem Dt{c:br}(S:Sound P W G c){ops:Array Oper}{nt:Nat}(hlt:∀(j:Nat) o' t,ops[j]? =Z o'->o'.dst=Z t->t<nt){Q:Exit->Act->World->Prop}(l2:List Oper):
    ∀(l:List Oper) (sl:List SO) (γ:Gh) (env:Env) (H:Hp) (a:Act) (w:World),O l=O sl->(∀(i:Nat) o so,l[i]? =Z o->sl[i]? =Z so->p8 P ops nt o so)->
     bw W G γ H w->aW γ env a.tmps->a.tmps.size=nt->∀r,jJ c G sl env H=Z r->
     (∀γ' gj H' a' w',r= .ok gj H'->γ.le γ'->Frame γ H w γ' H' w'->bw W G γ' H' w'->aW γ' gj a'.tmps->a'.tmps.size=nt->a'.defers=a.defers->wpList P ops Q l2 a' w')->
     (∀γ' d gj H' v a' w',r= .bN d gj H'->γ.le γ'->Frame γ H w γ' H' w'->bw W G γ' H' w'->aB γ' v d->aW γ' gj a'.tmps->a'.tmps.size=nt->a'.defers=a.defers->Q (.panic [{v,recovered:=false}]) a' w')->
     wpList P ops Q (l++l2) a w
 |[],sl,γ,env,H,a,w,hl,_,I,E,hn,r,he,bV,_=>by
  cases sl with
  |cons=>simp at hl
  |nil=>
   simp only[jJ] at he;cases he;exact bV γ env H a w rfl (.refl γ) (.refl γ H w) I E hn rfl
 |o::l,sl,γ,env,H,a,w,hl,kM,I,E,hn,r,he,bV,uK=>by
  cases sl with
  |nil=>simp at hl
  |cons so sl=>
   have ho:=kM 0 o so rfl rfl;have uL:∀(i:Nat) o ft,l[i]? =Z o->sl[i]? =Z ft->p8 P ops nt o ft:=λi o ft h1 h2=>kM (i+1) o ft (by simpa using h1) (by simpa using h2);have jc:O l=O sl:=by simpa using hl
   simp only[jJ] at he;split at he
   .rename_i hg;have hw:=A9 ho E hn hlt hg;refine wpList_step λK hK=>?_;rw[if_pos hw];split at he
    .rename_i d H1 hd;refine yJ S I E ho.k hd (λv γ' w' d' hr L F J V=>?_) (λv γ' w' d' hr _ _ _ _=>by cases hr);cases hr;obtain⟨p1,p2,p3⟩:=(E.mono L).put' hn (dst:=o.dst) ho.lt V;rw[ho.dst] at he;refine hK _ _ (Dt S hlt l2 l sl γ' _ _ _ w' jc uL J p1 p2 r he (λγ2 gj H' a' w2 h1 h2 h3 h4 h5 h6 h7=>bV γ2 gj H' a' w2 h1 (L.trans h2) (F.trans L.base h3) h4 h5 h6 (h7.trans p3)) (λγ2 d2 e2 H' v2 a' w2 h1 h2 h3 h4 h5 h6 h7 h8=>uK γ2 d2 e2 H' v2 a' w2 h1 (L.trans h2) (F.trans L.base h3) h4 h5 h6 h7 (h8.trans p3)))
    .rename_i d H1 hd;cases he;exact yJ S I E ho.k hd (λv γ' w' d' hr _ _ _ _=>by cases hr) (λv γ' w' d' hr L F J V=>by cases hr;exact uK γ' d env H1 v a w' rfl L F J V (E.mono L) hn rfl)
    .cases he
   .rename_i hg;have hw:=A9 ho E hn hlt hg;refine wpList_step λK hK=>?_;rw[if_neg (by simp[hw])];obtain⟨p1,p2,p3⟩:=E.put' hn (dst:=o.dst) ho.lt (v:=undef) aB.undef;rw[ho.dst] at he;exact hK _ _ (Dt S hlt l2 l sl γ _ _ _ w jc uL I p1 p2 r he (λγ2 gj H' a' w2 h1 h2 h3 h4 h5 h6 h7=>bV γ2 gj H' a' w2 h1 h2 h3 h4 h5 h6 (h7.trans p3)) (λγ2 d2 e2 H' v2 a' w2 h1 h2 h3 h4 h5 h6 h7 h8=>uK γ2 d2 e2 H' v2 a' w2 h1 h2 h3 h4 h5 h6 h7 (h8.trans p3)))
   .cases he
theorem My{c:br}(S:Sound P W G c)(hlt:∀(j:Nat) o' t,ops[j]? =Z o'->o'.dst=Z t->t<nt)(l:List Oper)(sl:List SO)(γ:Gh)(env:Env)(H:Hp)(a:Act)(w:World)(hl:O l=O sl)
    (kM:∀(i:Nat) o so,l[i]? =Z o->sl[i]? =Z so->p8 P ops nt o so) (I:bw W G γ H w) (E:aW γ env a.tmps) (hn:a.tmps.size=nt) (r:RO) (he:jJ c G sl env H=Z r)
    (bV:∀γ' gj H' a' w',r= .ok gj H'->γ.le γ'->Frame γ H w γ' H' w'->bw W G γ' H' w'->aW γ' gj a'.tmps->a'.tmps.size=nt->a'.defers=a.defers->Q .normal a' w')
    (uK:∀γ' d gj H' v a' w',r= .bN d gj H'->γ.le γ'->Frame γ H w γ' H' w'->bw W G γ' H' w'->aB γ' v d->aW γ' gj a'.tmps->a'.tmps.size=nt->a'.defers=a.defers->Q (.panic [{v,recovered:=false}]) a' w'):
    wpList P ops Q l a w:=by
 have:=Dt S hlt (Q:=Q) [] l sl γ env H a w hl kM I E hn r he (λγ' gj H' a' w' h1 h2 h3 h4 h5 h6 h7=>wpList_nil (bV γ' gj H' a' w' h1 h2 h3 h4 h5 h6 h7)) uK
 rwa [iQ] at this

end Go.Vs

namespace Go.Vs

variable {P : Program} {W : World} {G : Nat -> Option (List PD)}
variable{e':Env}{H:Hp}
theorem aA.eX{e:Env}{x:aA}(h:∀t∈x.slots,e.get t=e'.get t):x.ev e=x.ev e':=by
 cases x with
 |t i=>exact h i (by simp[aA.slots])
 |c d=>rfl
theorem Mz{e:Env}{xs:List aA}(h:∀t∈xs.flatMap aA.slots,e.get t=e'.get t):xs.map (·.ev e)=xs.map (·.ev e'):=
 pN λx hx=>aA.eX λt ht=>h t (La.2 ⟨x,hx,ht⟩)
theorem acr{e:Env}{k:SK}(h:∀t∈k.slots,e.get t=e'.get t):aP G e H k=aP G e' H k:=by
 have two:∀x y:aA,(∀t∈x.slots++y.slots,e.get t=e'.get t)->x.ev e=x.ev e'/\y.ev e=y.ev e':=λx y h=>
  ⟨aA.eX λt ht=>h t (by simp[ht]),aA.eX λt ht=>h t (by simp[ht])⟩
 cases k<;>simp only[SK.slots] at h<;>simp only[aP]
 case move=>rw[aA.eX h]
 case box=>rw[aA.eX h]
 case load=>rw[aA.eX h]
 case nilCheck=>rw[aA.eX h]
 case un=>rw[aA.eX h]
 case faddr=>rw[aA.eX h]
 case field=>rw[aA.eX h]
 case extract=>rw[aA.eX h]
 case len=>rw[aA.eX h]
 case conv=>rw[aA.eX h]
 case iface=>rw[aA.eX h]
 case tassert=>rw[aA.eX h]
 case makesl=>obtain⟨h1,h2⟩:=two _ _ h;rw[h1,h2]
 case appendg=>obtain⟨h1,h2⟩:=two _ _ h;rw[h1,h2]
 case store=>obtain⟨h1,h2⟩:=two _ _ h;rw[h1,h2]
 case bin=>obtain⟨h1,h2⟩:=two _ _ h;rw[h1,h2]
 case eqk=>obtain⟨h1,h2⟩:=two _ _ h;rw[h1,h2]
 case eqs=>obtain⟨h1,h2⟩:=two _ _ h;rw[h1,h2]
 case iaddr=>obtain⟨h1,h2⟩:=two _ _ h;rw[h1,h2]
 case index=>obtain⟨h1,h2⟩:=two _ _ h;rw[h1,h2]
 case append=>obtain⟨h1,h2⟩:=two _ _ h;rw[h1,h2]
 case minmax=>obtain⟨h1,h2⟩:=two _ _ h;rw[h1,h2]
 case mapget=>obtain⟨h1,h2⟩:=two _ _ h;rw[h1,h2]
 case mapins kd c a b=>
  have h1:=aA.eX (x:=c) λt ht=>h t (by simp[ht]);have h2:=aA.eX (x:=a) λt ht=>h t (by simp[ht]);have h3:=aA.eX (x:=b) λt ht=>h t (by simp[ht]);rw[h1,h2,h3]
 case mapset kd c a b=>
  have h1:=aA.eX (x:=c) λt ht=>h t (by simp[ht]);have h2:=aA.eX (x:=a) λt ht=>h t (by simp[ht]);have h3:=aA.eX (x:=b) λt ht=>h t (by simp[ht]);rw[h1,h2,h3]
 case pick c a b=>
  have h1:=aA.eX (x:=c) λt ht=>h t (by simp[ht]);have h2:=aA.eX (x:=a) λt ht=>h t (by simp[ht]);have h3:=aA.eX (x:=b) λt ht=>h t (by simp[ht]);rw[h1,h2,h3]
 case build zs ps=>
  have :(ps.map fun(x:Nat×Nat×aA)=>(x.1,x.2.1,x.2.2.ev e))=ps.map λx=>(x.1,x.2.1,x.2.2.ev e'):=
   pN λx hx=>by rw[aA.eX λt ht=>h t (La.2 ⟨x,hx,ht⟩)]
  rw[this]
 case bsliceG e0 sz len z ps=>
  have :(ps.map fun(x:Nat×Nat×aA)=>(x.1,x.2.1,x.2.2.ev e))=ps.map λx=>(x.1,x.2.1,x.2.2.ev e'):=
   pN λx hx=>by rw[aA.eX λt ht=>h t (La.2 ⟨x,hx,ht⟩)]
  rw[this]
 case slice3 sz x lo hi mx=>
  have h1:=aA.eX (x:=x) λt ht=>h t (by simp[ht]);have h2:lo.map (·.ev e)=lo.map (·.ev e'):=by
   cases lo with
   |none=>rfl
   |some y=>simp only[fy];rw[aA.eX (x:=y) λt ht=>h t (by simp[AO,ht])]
  have h3:=aA.eX (x:=hi) λt ht=>h t (by simp[ht]);have h4:=aA.eX (x:=mx) λt ht=>h t (by simp[ht]);rw[h1,h2,h3,h4]
 case bslice e0 sz len z ps=>
  have :(ps.map fun(x:Nat×aA)=>(x.1,x.2.ev e))=ps.map λx=>(x.1,x.2.ev e'):=
   pN λx hx=>by rw[aA.eX λt ht=>h t (La.2 ⟨x,hx,ht⟩)]
  rw[this]
 case mkfn f first cap=>
  rw[Mz (xs:=first) λt ht=>h t (aox _ ht),Mz (xs:=cap) λt ht=>h t (aoy _ ht)]
 case slice sz x lo hi=>
  have h1:=aA.eX (x:=x) λt ht=>h t (by simp[ht]);have h2:lo.map (·.ev e)=lo.map (·.ev e'):=by
   cases lo with
   |none=>rfl
   |some y=>simp only[fy];rw[aA.eX (x:=y) λt ht=>h t (by simp[AO,ht])]
  have h3:hi.map (·.ev e)=hi.map (·.ev e'):=by
   cases hi with
   |none=>rfl
   |some y=>simp only[fy];rw[aA.eX (x:=y) λt ht=>h t (by simp[AO,ht])]
  rw[h1,h2,h3]
theorem acs{c:br}{e:Env}{k:SK}(h:∀t∈k.slots,e.get t=e'.get t):cH c G e H k=cH c G e' H k:=by
 by_cases hp:∃x,k= .panic x
 .obtain⟨x,rfl⟩:=hp;simp only[cH];rw[aA.eX (x:=x) λt ht=>h t ht]
 by_cases hk:k.lz=true
 .cases k<;>first |(cases hk;done) |(exact absurd ⟨_,rfl⟩ hp) |skip
  rename_i f as;simp only[SK.slots] at h;simp only[cH];rw[aA.eX (x:=f) λt ht=>h t (aox _ ht),Mz (xs:=as) λt ht=>h t (aoy _ ht)]
 .rw[lZ (by simpa using hk),lZ (by simpa using hk),acr h]
theorem Hq{e:Env}{k:SK}(h:k.fj=true)(H:Hp):aP G e H k=(aP G e ⟨[],[]⟩ k).map λx=>(x.1,H):=by
 cases k<;>first |(cases h;done) |skip
 all_goals
  simp only[aP]
  first
   |rfl
   |(simp only[CX];rfl)
   |(split<;>first |rfl |(simp only[CX];rfl) |(split<;>first |rfl |(simp only[CX];rfl)))
theorem Hr{c:br}{e:Env}{H':Hp}{k:SK}{d:D}(he:cH c G e H k=Z (.val d,H'))(hc:cls e k<=1)(hl:O H'.bx=O H.bx):
    H'=H/\(cls e k=0->∀H2,cH c G e H2 k=Z (.val d,H2)):=by
 by_cases hp:∃x,k= .panic x
 .obtain⟨x,rfl⟩:=hp;simp only[cls] at hc;omega
 by_cases hk:k.lz=true
 .cases k<;>first |(cases hk;done) |(exact absurd ⟨_,rfl⟩ hp) |skip
  rename_i f as;simp only[cls] at hc|-;split at hc
  .rename_i Bb;rw[if_pos Bb];simp only[bL,aoz] at Bb;simp only[cH] at he|-;unfold fM at he|-;split at he
   .rename_i g first cap hg
    have hr:D.ai (first++xW (λx=>aA.ev e x) as++cap)=[]:=by
     have:=Bb.1;have app:∀x y:List D,D.ai (x++y)=D.ai x++D.ai y:=by
      intro x y
      induction x with
      |nil=>simp[D.ai]
      |cons d x ih=>simp[D.ai,ih]
     rw[hg] at this;simp only[D.ai,D.refs,tX] at this;rw[app,app,this.1.1,this.1.2,this.2];rfl
    have ht:D.aC (first++xW (λx=>aA.ev e x) as++cap)=[]:=by
     have:=Bb.2;have app:∀x y:List D,D.aC (x++y)=D.aC x++D.aC y:=by
      intro x y
      induction x with
      |nil=>simp[D.aC]
      |cons d x ih=>simp[D.aC,ih]
     rw[hg] at this;simp only[D.aC,D.bk,tX] at this;rw[app,app,this.1.1,this.1.2,this.2];rfl
    have yL:∀H0:Hp,∀n,reach H0 n []=[]:=by
     intro H0 n;cases n<;>simp[reach,eQ]
    unfold au at he|-;simp only[hr,ht,ins,yL,gM,iQ,nodupB,Bool.and_self,if_true,aH] at he|-;split at he
    .rename_i as' bx tk h1 h2 h3;cases h2;cases h3;split at he
     .rename_i rl Hl jB;have key:∀H0:Hp,(O Hl.bx=0\/True)->back [] [] H0 rl Hl=(match rl.ren (λ_=>Y) (λ_=>Y) with
          |some r'=>Z (r',H0)
          |none=>match rl.ren (λi=>Z (O H0.bx+i)) (λ_=>Y),aH (D.aZ (λi=>Z (O H0.bx+i)) λ_=>Y) Hl.bx with
           |some r',Z (n0::nw)=>Z (r',⟨H0.bx++(n0::nw),H0.tk⟩)
           |_,_=>Y):=by
       intro H0 _;unfold back;simp only[iD,fH,bD,if_true,tY,List.getElem?_nil,aH,bZ,CY,if_false,Nat.sub_zero,pM];cases rl.ren (λ_=>Y) (λ_=>Y) with
       |some r'=>rfl
       |none=>
        cases rl.ren (λi=>Z (O H0.bx+i)) (λ_=>Y)<;>cases aH (D.aZ (λi=>Z (O H0.bx+i)) λ_=>Y) Hl.bx<;>first |rfl |(rename_i l;cases l<;>rfl)
      rw[key H (.inr trivial)] at he;cases l7:rl.ren (λ_=>Y) (λ_=>Y) with
      |some r'=>
       rw[l7] at he;cases he;refine⟨rfl,λ_ H2=>?_⟩;rw[key H2 (.inr trivial),l7]
      |none=>
       rw[l7] at he;dsimp only at he;split at he
       .cases he;simp at hl
       .cases he
     .cases he
    .cases he
   .cases he
  .omega
 .have hk:k.lz=false:=by simpa using hk
  rw[lZ hk] at he;have pl:∀H2,cH c G e H2 k=match aP G e H2 k with |some (d,H')=>Z (.val d,H') |none=>Y:=λH2=>lZ hk
  split at he
  .rename_i d0 H0 hd;cases he;by_cases hl':k.fj=true
   .have q:=Hq (G:=G) (e:=e) hl' H;rw[q] at hd;obtain⟨x,hx,hh⟩:=ak.1 hd;cases hh;refine⟨rfl,λ_ H2=>?_⟩;rw[pl,Hq hl' H2,hx];rfl
   .cases k<;>first |(exact absurd rfl hl') |(exfalso;simp only[cls] at hc;omega) |(exfalso;cases hk;done) |skip
    rotate_left
    .simp only[aP] at hd;obtain⟨d',bO,hh⟩:=ak.1 hd;cases hh;exact⟨rfl,λh0=>by simp[cls] at h0⟩
    .rename_i n x;simp only[cls] at hc|-;simp only[aP] at hd;obtain⟨d',bO,hh⟩:=ak.1 hd;cases hh;refine⟨rfl,λh0 H2=>?_⟩;rw[pl];simp only[aP];unfold pU at bO|-;split at h0
     .rename_i cs off hx;rw[hx] at bO|-;dsimp only at bO|-;rw[bO];rfl
     .rename_i g off hx;rw[hx] at bO|-;dsimp only at bO|-;rw[bO];rfl
     .omega
  .cases he

end Go.Vs

namespace Go.Vs

variable {P : Program} {W : World} {G : Nat -> Option (List PD)}
variable {γ γ' : Gh} {H H' : Hp} {w w' : World} {s0 blk : Nat} {zs : List PD}
def oW(γ:Gh)(H:Hp)(s0:Nat)(zs:List PD)(blk:Nat)(w:World):Prop:=
 (∃vs T fr,w.heap[blk]? =Z (.cells vs T fr)/\eI γ vs (zs.map .p)/\clear fr 0 vs.size)/\(∀o,γ.mem blk o=Y)/\¬j8 γ H blk/\blk∉γ.boxes/\s0<=blk
theorem oW.keep(p:oW γ H s0 zs blk w)(L:γ.le γ')(F:Frame γ H w γ' H' w'):oW γ' H' s0 zs blk w':=by
 obtain⟨⟨vs,T,fr,h1,h2,h3⟩,h4,h5,h6,h7⟩:=p;have hlt:blk<w.heap.size:=(fG.1 h1).1;have hm:∀o,γ'.mem blk o=Y:=λo=>(F.mem blk o hlt h5).trans (h4 o);refine⟨?_,hm,λh=>?_,λh=>?_,h7⟩
 .rcases(F.blk blk hlt h5).2 with q |⟨cs,T',f1,f2,q1,q2,q3⟩
  .exact⟨vs,T,fr,q.trans h1,h2.mono L,h3⟩
  .rw[h1] at q1;cases q1;refine⟨vs,T,f2,q2,h2.mono L,λk _ hk hc=>?_⟩;rcases q3 k hk hc with q |q
   .exact h3 k (bD _) hk q
   .exact q (hm k)
 .rcases F.own blk h with q |q
  .exact h5 q
  .omega
 .rcases F.ur blk h with q |q
  .exact h6 q
  .omega
variable{o:Oper}
theorem acu{e:TypeId}(ho:o.op= .alloc e)(hk:∃hint,pZ P o hint= .alloc zs):∃z,zeroOf P e=Z z/\zs=z.cells:=by
 obtain⟨hint,hk⟩:=hk;have hp:qA P o.op= .alloc zs:=by
  unfold pZ GK at hk;split at hk<;>(try exact hk)<;>(rw[ho] at hk|-)<;>(try (simp only at hk;exact hk))
 rw[ho] at hp;simp only[qA,AY,gR] at hp;cases hz:zeroOf P e with
 |none=>rw[hz] at hp;simp at hp
 |some z=>
  rw[hz] at hp;simp only[fy] at hp;split at hp
  .cases hp
  .exact⟨z,rfl,by cases hp;rfl⟩
theorem acv(I:bw W G γ H w){a:Act}{e:TypeId}(ho:o.op= .alloc e)(hk:∃hint,pZ P o hint= .alloc zs)(hs:s0<=w.heap.size):
    ∃w',(execOp a.eval o).run P w= .ok (.value (.pointer (Z ⟨w.heap.size,0,Y⟩))) w'/\Frame γ H w γ H w'/\bw W G γ H w'/\oW γ H s0 zs w.heap.size w':=by
 obtain⟨z,hz,rfl⟩:=acu ho hk;obtain⟨v,q1,q2⟩:=yu hz w;obtain⟨r1,r2⟩:=(uw γ.mem q2).cells;obtain⟨F,J⟩:=I.RJ (.cells v.cells e);refine⟨w.alloc (.cells v.cells e),by simp[execOp,ho,Instr.alloc,q1,newVar,newRow],F,I.up (.refl γ) F J,⟨v.cells,e,(0,0),by rw[heap_alloc,if_pos rfl],(GP r1 λi d hd=>(r2 i d hd).1).Db,λk _ _ h=>by omega⟩,λo=>?_,λh=>?_,λh=>?_,hs⟩
 .cases hm:γ.mem w.heap.size o with
  |none=>rfl
  |some v=>have:=I.sV hm;omega
 .rcases h with h |⟨t,row,f,cap,h⟩
  .exact I.Lx h
  .have:=I.oO (t:=t) ⟨row,f,cap,h⟩;omega
 .have:=I.nZ h;omega
theorem Inv.acw(I:Inv G γ H w){cs:List D}{vs:Array Value}{T:Nat}{fr:Nat×Nat}(hb:w.heap[blk]? =Z (.cells vs T fr))(hr:eI γ vs cs)(dG:clear fr 0 vs.size)(h1:∀c∈cs,c.one=true)(hne:cs≠[])
    (hm:∀o,γ.mem blk o=Y) (hno:¬j8 γ H blk) (fl:blk∉γ.boxes):
    γ.le {γ with boxes:=γ.boxes++[blk]}/\Inv G {γ with boxes:=γ.boxes++[blk]} {H with bx:=H.bx++[cs]} w:=by
 have hle:γ.le {γ with boxes:=γ.boxes++[blk]}:=⟨rfl,λc x h=>h,λ_ _ _ h=>h,λi b h=>by
  have hi:i<O γ.boxes:=(af.1 h).1;show(γ.boxes++[blk])[i]? =Z b;rw[aT hi];exact h,λt r h=>⟨r,h,rfl,rfl,λ_ _ h=>h⟩⟩
 have dM:∀t b,cZ {γ with boxes:=γ.boxes++[blk]} {H with bx:=H.bx++[cs]} t b->cZ γ H t b:=λt b h=>cZ.congr (λ_ _ h=>h) (λ_ _ h=>h) h;have jd:¬Lv γ H blk:=λh=>hno (.inl h);refine⟨hle,?_⟩;constructor
 .exact I.size
 .exact I.aY
 .exact I.jq
 .exact I.mem
 .exact I.jv
 .show(γ.boxes++[blk]).length=O (H.bx++[cs]);simp[I.cS]
 .exact I.GD jd rfl rfl
 .intro i b cs' hb' hc;have hb':(γ.boxes++[blk])[i]? =Z b:=hb';have hc:(H.bx++[cs])[i]? =Z cs':=hc;rcases sW I.cS hb' hc with⟨a1,a2⟩ |⟨_,rfl,rfl⟩
  .obtain⟨cL,T',ct,b1,b2,b3⟩:=I.box i b cs' a1 a2;exact⟨cL,T',ct,b1,b2.mono hle,b3⟩
  .exact⟨vs,T,fr,by rw[iu (Da h1)];exact hb,hr.mono hle,λ_=>h1,λ_=>dG⟩
 .intro b o hb';rcases Lv.push (γ':={γ with boxes:=γ.boxes++[blk]}) (H':={H with bx:=H.bx++[cs]}) I.cS rfl rfl hb' with h |⟨h,_⟩
  .exact I.gZ b o h
  .subst h;exact hm o
 .intro i b h1 h2;have h2:(H.bx++[cs])[i]? =Z []:=h2;have h1:(γ.boxes++[blk])[i]? =Z b:=h1;rcases sW I.cS h1 h2 with⟨a1,a2⟩ |⟨_,_,h⟩
  .exact I.js i b a1 a2
  .exact absurd h.symm hne
 .exact I.fZ
 .intro t row f h1 h2;obtain⟨r,a1,a2⟩:=I.row t row f h1 h2;refine⟨r,a1,a2.keep (λ_ _ h=>h) (λb cap hr hlt=>rfl) (λb cap hr hlt o=>rfl) (λb cap hr hlt hb hb'=>?_)⟩;have hb':b∈γ.boxes++[blk]:=hb';rcases cx.1 hb' with h |h
  .exact hb h
  .have :b=blk:=by simpa using h
   subst this;exact hno (.inr ⟨t,row,f,cap,h1,h2,hr▸a1,hlt⟩)
 .exact I.jx
 .intro t t' b h h';exact I.free t t' b (dM t b h) (dM t' b h')
theorem oW.add{γ0:Gh}{H0:Hp}{w0:World}(p:oW γ H w0.heap.size zs blk w)(I:bw W G γ H w)(F:Frame γ0 H0 w0 γ H w)(hW:W.heap.size<=w0.heap.size)(h1:zs.all PD.one=true)(hne:zs≠[]):
    ∃γ',γ.le γ'/\Frame γ0 H0 w0 γ' {H with bx:=H.bx++[zs.map .p]} w/\bw W G γ' {H with bx:=H.bx++[zs.map .p]} w/\aB γ' (.pointer (Z ⟨blk,0,Y⟩)) (.box (O H.bx) 0)/\
     ∀(s1:Nat) (wK:List PD) (b1:Nat),b1≠blk->oW γ H s1 wK b1 w->oW γ' {H with bx:=H.bx++[zs.map .p]} s1 wK b1 w:=by
 obtain⟨⟨vs,T,fr,a1,a2,a3⟩,a4,a5,a6,a7⟩:=p;obtain⟨hle,J⟩:=I.toInv.acw (cs:=zs.map .p) a1 a2 a3 (λc hc=>by
  obtain⟨x,hx,rfl⟩:=cA.1 hc;exact gV.1 h1 x hx) (by simpa using hne) a4 a5 a6
 have hlv:∀b,Lv {γ with boxes:=γ.boxes++[blk]} {H with bx:=H.bx++[zs.map .p]} b->Lv γ H b\/b=blk:=λb h=>by
  rcases Lv.push (γ':={γ with boxes:=γ.boxes++[blk]}) (H':={H with bx:=H.bx++[zs.map .p]}) I.cS rfl rfl h with h |⟨h,_⟩
  .exact .inl h
  .exact .inr h
 have dM:∀t b,cZ {γ with boxes:=γ.boxes++[blk]} {H with bx:=H.bx++[zs.map .p]} t b->cZ γ H t b:=λt b h=>cZ.congr (λ_ _ h=>h) (λ_ _ h=>h) h;refine⟨{γ with boxes:=γ.boxes++[blk]},hle,⟨F.os,F.tape,F.output,F.size,F.blk,F.mem,λb hb=>?_,λt b hb=>F.uo t b (dM t b hb),λb hb=>?_⟩,⟨J,I.Ds,I.nc,λb hb=>?_⟩,.box _ _ _ ?_,λs1 wK b1 MA p1=>?_⟩
 .rcases hlv b hb with h |rfl
  .exact F.box b h
  .exact .inr a7
 .rcases cx.1 (show b∈γ.boxes++[blk] from hb) with h |h
  .exact F.ur b h
  .have :b=blk:=by simpa using h
   subst this;exact .inr a7
 .rcases hb with hb |⟨t,hb⟩
  .rcases hlv b hb with h |rfl
   .exact I.own b (.inl h)
   .omega
  .exact I.own b (.inr ⟨t,dM t b hb⟩)
 .show(γ.boxes++[blk])[O H.bx]? =_;rw[<-I.cS];simp
 .obtain⟨⟨SZ,T1,Ms,q1,q2,q3⟩,q4,q5,q6,q7⟩:=p1;refine⟨⟨SZ,T1,Ms,q1,q2.mono hle,q3⟩,q4,λh=>?_,λh=>?_,q7⟩
  .rcases h with h |⟨t,h⟩
   .rcases hlv b1 h with h |h
    .exact q5 (.inl h)
    .exact MA h
   .exact q5 (.inr ⟨t,dM t b1 h⟩)
  .rcases cx.1 (show b1∈γ.boxes++[blk] from h) with h |h
   .exact q6 h
   .exact MA (by simpa using h)
theorem oW.lt(p:oW γ H s0 zs blk w):blk<w.heap.size:=by
 obtain⟨⟨vs,T,fr,h1,_⟩,_⟩:=p;exact(fG.1 h1).1

end Go.Vs

namespace Go.Vs

variable {P : Program} {W : World} {G : Nat -> Option (List PD)}
variable{H H' H2:Hp}{pairs:List (Nat×Nat)}{ops:List Oper}{sl:List SO}{i b j:Nat}{so:SO}{α:Type}
def jC(g0:α)(wr:Nat->Bool)(d:Nat->α)(l:Nat->Bool):Nat->α
 | 0=>g0
 |m+1=>if l m=true/\wr m=true then d m else jC g0 wr d l m
theorem Bc{α:Type}{g0:α}{wr:Nat->Bool}{d:Nat->α}{l l':Nat->Bool}:∀(n:Nat),(∀j,j<n->wr j=true->l j=l' j)->jC g0 wr d l n=jC g0 wr d l' n
 | 0,_=>rfl
 |n+1,h=>by
  simp only[jC];rw[Bc n λj hj hw=>h j (by omega) hw];by_cases hw:wr n=true
  .rw[h n (by omega) hw]
  .simp[hw]
theorem S3{α:Type}{g0:α}{wr:Nat->Bool}{d:Nat->α}{i:Nat}:∀(n:Nat),i<=n->jC g0 wr d (λj=>decide (j<i)) n=jC g0 wr d (λ_=>true) i
 | 0,h=>by
  have :i=0:=by omega
  subst this;rfl
 |n+1,h=>by
  by_cases hi:i=n+1
  .subst hi;exact Bc (n+1) λj hj _=>by simp[hj]
  .simp only[jC];rw[if_neg (by simp;omega),S3 n (by omega)]
theorem MB{α:Type}{g0:α}{wr:Nat->Bool}{d:Nat->α}{l:Nat->Bool}{i:Nat}(hl:l i=true)(hw:wr i=true):∀(n:Nat),i<n->(∀j,i<j->j<n->wr j=true->l j=false)->jC g0 wr d l n=d i
 | 0,h,_=>by omega
 |n+1,h,q=>by
  simp only[jC];by_cases hi:i=n
  .subst hi;rw[if_pos ⟨hl,hw⟩]
  .rw[if_neg (λx=>by have:=q n (by omega) (by omega) x.2;rw[this] at x;exact absurd x.1 (by simp)),MB hl hw n (by omega) λj h1 h2 h3=>q j h1 (by omega) h3]
def lC(a b:SO):Bool:=
 (match a.dst with |some t=>b.uses.contains t||b.dst==Z t |none=>false)||(match b.dst with |some t=>a.uses.contains t |none=>false)
def lD(o:Oper):List Nat:=(o.after.toList.filter (Region.binds .any)).map (·.on)
def S4(ms:List Nat):List Nat->Nat
 |[]=>0
 |j::r=>(S4 ms r|||(1<<<j))|||ms.getD j 0
def Du:List Oper->List Nat->List Nat
 |[],ms=>ms
 |o::r,ms=>Du r (ms++[S4 ms (lD o)])
def rel(ms:List Nat)(i j:Nat):Bool:=(ms.getD i 0).testBit j
def jD(pairs:List (Nat×Nat))(i:Nat):Bool:=pairs.contains (1000000+i,0)
def Dv(ms:List Nat)(pairs:List (Nat×Nat))(i:Nat)(ps:List Nat)(b:SO):Nat->List SO->Bool
 |_,[]=>true
 |j,a::r=>(if rel ms i j then ps.any λp=>p==j||(decide (j<p)&&rel ms p j) else !lC a b&&(a.k.fj||b.k.fj||pairs.contains (j,i)||jD pairs i))&&Dv ms pairs i ps b (j+1) r
def Ht(ms:List Nat)(pairs:List (Nat×Nat))(sl:List SO):Nat->List Oper->List SO->Bool
 |i,o::os,b::bs=>(lD o).all (λp=>decide (p<i))&&Dv ms pairs i (lD o) b 0 (sl.take i)&&Ht ms pairs sl (i+1) os bs
 |_,_,_=>true
def MC(s:SO):Bool:=match s.k,s.g,s.dst with
 | .alloc (_::_),Y,Z _=>true
 |_,_,_=>false
def Hu(o:Oper):Bool:=match o.op with
 | .alloc _=>true
 |_=>false
def S5(ms:List Nat)(pairs:List (Nat×Nat))(nd:Nat->Bool)(a:Nat)(ps:List Nat):Bool:=
 (j3 a).all λj=>!nd j||ps.any λp=>p==j||(!jD pairs p&&(decide (j<p)&&rel ms p j))
def Dw(ms:List Nat)(pairs:List (Nat×Nat))(nd:Nat->Bool)(a:Nat):Nat->List Oper->Bool
 |_,[]=>true
 |i,o::r=>(decide (i<=a)|| !rel ms i a||S5 ms pairs nd a (lD o))&&Dw ms pairs nd a (i+1) r
def rT(sl:List SO)(j:Nat):Bool:=match sl[j]? with
 |some s=>!s.k.fj
 |none=>false
def S6(pairs:List (Nat×Nat))(ms:List Nat)(ops:List Oper)(sl:List SO)(a:Nat):Bool:=
 match sl[a]?,ops[a]? with
 |some x,Z o=>MC x&&Hu o&&(lD o).isEmpty&&Dw ms pairs (rT sl) a 0 ops
 |_,_=>false
def S7(pairs:List (Nat×Nat))(ms:List Nat)(ops:List Oper)(sl:List SO):Bool:=
 pairs.all λp=>decide (p.1<1000000)||S6 pairs ms ops sl (p.1-1000000)
def Bd(pairs:List (Nat×Nat))(ops:List Oper)(sl:List SO):Bool:=Ht (Du ops []) pairs sl 0 ops sl&&S7 pairs (Du ops []) ops sl
theorem acx{s:SO}(h:MC s=true):∃zs t,s.k= .alloc zs/\zs≠[]/\s.g=Y/\s.dst=Z t:=by
 unfold MC at h;split at h
 .rename_i z zs t h1 h2 h3;exact⟨z::zs,t,h1,by simp,h2,h3⟩
 .cases h
theorem acy{o:Oper}(h:Hu o=true):∃e,o.op= .alloc e:=by
 unfold Hu at h;split at h
 .rename_i e he;exact⟨e,he⟩
 .cases h
theorem S8{ms:List Nat}{pairs:List (Nat×Nat)}{nd:Nat->Bool}{a:Nat}:∀{i0:Nat} {os:List Oper},Dw ms pairs nd a i0 os=true->∀(i:Nat) o,os[i]? =Z o->a<i0+i->rel ms (i0+i) a=true->
    ∀j,j<a->nd j=true->∃p∈lD o,p=j\/(jD pairs p=false/\j<p/\rel ms p j=true)
 |_,[],_,i,o,ho=>by simp at ho
 |i0,x::os,h,i,o,ho=>by
  intro hlt hr j hj gA;simp only[Dw,bL] at h
  match i with
  | 0=>
   simp only[ey,bM] at ho;subst ho;have h1:=h.1;rw[nO] at hr hlt;rw[hr,decide_eq_false (by omega)] at h1;have h1:S5 ms pairs nd a (lD x)=true:=by simpa using h1
   have h2:=gV.1 h1 j (by simpa using hj);rw[gA] at h2;simpa[Q5] using h2
  |i+1=>
   exact S8 (i0:=i0+1) h.2 i o (by simpa using ho) (by omega) (by rw[show i0+1+i=i0+(i+1) by omega];exact hr) j hj gA
structure S9 (pairs:List (Nat×Nat)) (ops:List Oper) (sl:List SO) (R:Nat->Nat->Bool) (a:Nat):Prop where
 al:∃x o e zx tx,sl[a]? =Z x/\ops[a]? =Z o/\o.op= .alloc e/\x.k= .alloc zx/\zx≠[]/\x.g=Y/\x.dst=Z tx/\lD o=[]
 late:∀(i:Nat) o,ops[i]? =Z o->a<i->R i a=true->∀j,j<a->rT sl j=true->∃p∈lD o,p=j\/(jD pairs p=false/\j<p/\R p j=true)
theorem acz{ms:List Nat}(h:S7 pairs ms ops sl=true){a:Nat}(ha:jD pairs a=true):S9 pairs ops sl (rel ms) a:=by
 have hm:(1000000+a,0)∈pairs:=by simpa[jD] using ha
 have h1:=gV.1 h _ hm;simp only[nR,decide_eq_true_eq] at h1;rcases h1 with h1 |h1
 .omega
 .rw[tZ] at h1;unfold S6 at h1;split at h1
  .rename_i x o hx ho;simp only[bL] at h1;obtain⟨⟨⟨a1,a2⟩,a3⟩,a4⟩:=h1;obtain⟨zx,tx,b1,b2,b3,b4⟩:=acx a1;obtain⟨e,he⟩:=acy a2;exact⟨⟨x,o,e,zx,tx,hx,ho,he,b1,b2,b3,b4,by simpa using a3⟩,λi o ho hi hr=>S8 a4 i o ho (by omega) (by rw[ez];exact hr)⟩
  .cases h1
theorem Ta{ms:List Nat}{pairs:List (Nat×Nat)}{i:Nat}{ps:List Nat}{b:SO}:∀{j0:Nat} {l:List SO},Dv ms pairs i ps b j0 l=true->∀(j:Nat) a,l[j]? =Z a->
    (rel ms i (j0+j)=true/\∃p∈ps,p=j0+j\/(j0+j<p/\rel ms p (j0+j)=true))\/
    (rel ms i (j0+j)=false/\lC a b=false/\(a.k.fj=true\/b.k.fj=true\/(j0+j,i)∈pairs\/jD pairs i=true))
 |_,[],_,j,a,ha=>by simp at ha
 |j0,x::l,h,j,a,ha=>by
  simp only[Dv,bL] at h
  match j with
  | 0=>
   simp only[ey,bM] at ha;subst ha;have h1:=h.1;split at h1
   .rename_i hr;refine .inl ⟨hr,?_⟩;simpa[Q5] using h1
   .rename_i hr;refine .inr ⟨by simpa using hr,?_⟩;simpa[or_assoc] using h1
  |j+1=>
   have:=Ta h.2 j a (by simpa using ha);rw[show j0+(j+1)=j0+1+j by omega];exact this
theorem Tb{ms:List Nat}{pairs:List (Nat×Nat)}{sl:List SO}:∀{i0:Nat} {os:List Oper} {bs:List SO},Ht ms pairs sl i0 os bs=true->∀(i:Nat) o b,os[i]? =Z o->bs[i]? =Z b->
    (∀p∈lD o,p<i0+i)/\Dv ms pairs (i0+i) (lD o) b 0 (sl.take (i0+i))=true
 |_,[],_,_,i,o,b,ho,_=>by simp at ho
 |_,_::_,[],_,i,o,b,_,hb=>by simp at hb
 |i0,x::os,y::bs,h,i,o,b,ho,hb=>by
  simp only[Ht,bL] at h
  match i with
  | 0=>
   simp only[ey,bM] at ho hb;subst ho;subst hb;exact⟨by simpa[gV] using h.1.1,h.1.2⟩
  |i+1=>
   have:=Tb h.2 i o b (by simpa using ho) (by simpa using hb);rw[show i0+(i+1)=i0+1+i by omega];exact this
theorem acA(h:Bd pairs ops sl=true):∃R:Nat->Nat->Bool,(∀(i:Nat) o b,ops[i]? =Z o->sl[i]? =Z b->
    (∀p∈lD o,p<i)/\∀(j:Nat) a,j<i->sl[j]? =Z a->
     (R i j=true/\∃p∈lD o,p=j\/(j<p/\R p j=true))\/(R i j=false/\lC a b=false/\(a.k.fj=true\/b.k.fj=true\/(j,i)∈pairs\/jD pairs i=true)))/\
    ∀a,jD pairs a=true->S9 pairs ops sl R a:=by
 unfold Bd at h;rw[bL] at h;refine⟨rel (Du ops []),λi o b ho hb=>?_,λa ha=>acz h.2 ha⟩;have:=Tb h.1 i o b ho hb;simp only[ez] at this;refine⟨this.1,λj a hj ha=>?_⟩;have:=Ta this.2 j a (by rw[kX hj];exact ha);simpa using this
structure Trace (c:br) (G:Nat->Option (List PD)) (sl:List SO) (E:Nat->Env) (Hs:Nat->Hp) (d:Nat->D) (cs:Nat->Nat×Nat) (X:Nat->Bool):Prop where
 env:∀(j:Nat) so,sl[j]? =Z so->E (j+1)=put so.dst (d j) (E j)
 step:∀(j:Nat) so,sl[j]? =Z so->((X j=true\/fY (E j) so.g=Z false)/\d j= .undef/\Hs (j+1)=Hs j/\cs j=(0,0))\/
  (fY (E j) so.g=Z true/\cH c G (E j) (Hs j) so.k=Z (.val (d j),Hs (j+1))/\cs j=j7 (E j) (Hs j) (Hs (j+1)) so.k)
theorem Hv{c:br}{pairs:List (Nat×Nat)}{k:Nat}:∀{sl:List SO} {i:Nat} {dead:List Nat} {env:Env} {H:Hp} {cs:List (Nat×Nat)},nW c G pairs k i dead sl env H=Z cs->
    ∃E Hs d X,E 0=env/\Hs 0=H/\Trace c G sl E Hs d (λj=>cs.getD j (0,0)) X/\(∀j,aV (cs.getD j (0,0)).1=false)/\
     ∀(j:Nat) so,sl[j]? =Z so->X j=true->(∃t,t∈so.uses/\(t∈dead\/∃j' ft,j'<j/\X j'=true/\sl[j']? =Z ft/\ft.dst=Z t))\/(so.k.fj=false/\(k,i+j)∉pairs)
 |[],i,dead,env,H,cs,h=>by
  simp only[nW] at h;cases h;exact⟨λ_=>env,λ_=>H,λ_=>.undef,λ_=>false,rfl,rfl,⟨λj so hs=>by simp at hs,λj so hs=>by simp at hs⟩,λj=>by simp[aV],λj so hs=>by simp at hs⟩
 |o::sl,i,dead,env,H,cs,h=>by
  simp only[nW] at h;split at h
  .rename_i hb;obtain⟨cs1,hr,rfl⟩:=ak.1 h;obtain⟨E,Hs,d,X,a1,a2,T,hw,hx⟩:=Hv hr;refine⟨λj=>match j with | 0=>env |j+1=>E j,λj=>match j with | 0=>H |j+1=>Hs j,λj=>match j with | 0=>.undef |j+1=>d j,λj=>match j with | 0=>true |j+1=>X j,rfl,rfl,⟨λj so hs=>?_,λj so hs=>?_⟩,λj=>?_,λj so hs hX=>?_⟩
   .match j with
    | 0=>simp only[ey,bM] at hs;subst hs;exact a1
    |j+1=>exact T.env j so (by simpa using hs)
   .match j with
    | 0=>exact .inl ⟨.inl rfl,rfl,a2,rfl⟩
    |j+1=>exact T.step j so (by simpa using hs)
   .match j with
    | 0=>rfl
    |j+1=>exact hw j
   .match j with
    | 0=>
     simp only[ey,bM] at hs;subst hs;simp only[behind,nR,bL,sR,Q5] at hb;rcases hb with⟨t,ht,uy⟩ |⟨h1,h2⟩
     .exact .inl ⟨t,ht,.inl (by simpa using uy)⟩
     .exact .inr ⟨h1,by simpa using h2⟩
    |j+1=>
     rcases hx j so (by simpa using hs) hX with⟨t,ht,hd⟩ |⟨h1,h2⟩
     .refine .inl ⟨t,ht,?_⟩;rcases hd with hd |⟨j',ft,q1,q2,q3,q4⟩
      .rcases cx.1 hd with hd |hd
       .exact .inr ⟨0,o,by omega,rfl,rfl,by simpa using hd⟩
       .exact .inl hd
      .exact .inr ⟨j'+1,ft,by omega,q2,by simpa using q3,q4⟩
     .exact .inr ⟨h1,by rw[show i+(j+1)=i+1+j by omega];exact h2⟩
  .split at h
   .rename_i hg;split at h
    .rename_i d0 H0 hd;split at h
     .cases h
     .rename_i hnw;obtain⟨cs1,hr,rfl⟩:=ak.1 h;obtain⟨E,Hs,d,X,a1,a2,T,hw,hx⟩:=Hv hr;refine⟨λj=>match j with | 0=>env |j+1=>E j,λj=>match j with | 0=>H |j+1=>Hs j,λj=>match j with | 0=>d0 |j+1=>d j,λj=>match j with | 0=>false |j+1=>X j,rfl,rfl,⟨λj so hs=>?_,λj so hs=>?_⟩,λj=>?_,λj so hs hX=>?_⟩
      .match j with
       | 0=>simp only[ey,bM] at hs;subst hs;exact a1
       |j+1=>exact T.env j so (by simpa using hs)
      .match j with
       | 0=>
        simp only[ey,bM] at hs;subst hs;refine .inr ⟨hg,?_,?_⟩
        .simp only[a2];exact hd
        .simp only[a2];rfl
       |j+1=>exact T.step j so (by simpa using hs)
      .match j with
       | 0=>simpa using hnw
       |j+1=>exact hw j
      .match j with
       | 0=>cases hX
       |j+1=>
        rcases hx j so (by simpa using hs) hX with⟨t,ht,hd⟩ |⟨h1,h2⟩
        .refine .inl ⟨t,ht,?_⟩;rcases hd with hd |⟨j',ft,q1,q2,q3,q4⟩
         .exact .inl hd
         .exact .inr ⟨j'+1,ft,by omega,q2,by simpa using q3,q4⟩
        .exact .inr ⟨h1,by rw[show i+(j+1)=i+1+j by omega];exact h2⟩
    .cases h
   .rename_i hg;obtain⟨cs1,hr,rfl⟩:=ak.1 h;obtain⟨E,Hs,d,X,a1,a2,T,hw,hx⟩:=Hv hr;refine⟨λj=>match j with | 0=>env |j+1=>E j,λj=>match j with | 0=>H |j+1=>Hs j,λj=>match j with | 0=>.undef |j+1=>d j,λj=>match j with | 0=>false |j+1=>X j,rfl,rfl,⟨λj so hs=>?_,λj so hs=>?_⟩,λj=>?_,λj so hs hX=>?_⟩
    .match j with
     | 0=>simp only[ey,bM] at hs;subst hs;exact a1
     |j+1=>exact T.env j so (by simpa using hs)
    .match j with
     | 0=>
      simp only[ey,bM] at hs;subst hs;exact .inl ⟨.inr hg,rfl,a2,rfl⟩
     |j+1=>exact T.step j so (by simpa using hs)
    .match j with
     | 0=>rfl
     |j+1=>exact hw j
    .match j with
     | 0=>cases hX
     |j+1=>
      rcases hx j so (by simpa using hs) hX with⟨t,ht,hd⟩ |⟨h1,h2⟩
      .refine .inl ⟨t,ht,?_⟩;rcases hd with hd |⟨j',ft,q1,q2,q3,q4⟩
       .exact .inl hd
       .exact .inr ⟨j'+1,ft,by omega,q2,by simpa using q3,q4⟩
      .exact .inr ⟨h1,by rw[show i+(j+1)=i+1+j by omega];exact h2⟩
   .cases h
theorem Tc{a b:SO}{t:Nat}(ha:a.dst=Z t)(hb:t∈b.uses):lC a b=true:=by
 simp[lC,ha,hb]
theorem Td{c:br}{pairs:List (Nat×Nat)}:∀{sl:List SO} {i:Nat} {env:Env} {H:Hp} {dv:D} {H':Hp} {cs:List (Nat×Nat)} {k:Nat},iX c G pairs i sl env H=Z (dv,H',cs,k)->
    ∃E Hs d X k0,k=i+k0/\E 0=env/\Hs 0=H/\Trace c G sl E Hs d (λj=>cs.getD j (0,0)) X/\X k0=true/\(∀j,j<k0->X j=false)/\
     (∃so,sl[k0]? =Z so/\fY (E k0) so.g=Z true/\cH c G (E k0) (Hs k0) so.k=Z (.bN dv,H'))/\(∀j,k0<j->aV (cs.getD j (0,0)).1=false)/\
     ∀(j:Nat) so,sl[j]? =Z so->X j=true->j≠k0->k0<j/\((∃j' ft,j'<j/\X j'=true/\sl[j']? =Z ft/\lC ft so=true)\/(so.k.fj=false/\(k,i+j)∉pairs))
 |[],i,env,H,dv,H',cs,k,h=>by
  simp only[iX] at h;cases h
 |o::sl,i,env,H,dv,H',cs,k,h=>by
  have later:∀(v:D) (H0:Hp) (x:Nat×Nat) (cs1:List (Nat×Nat)),iX c G pairs (i+1) sl (put o.dst v env) H0=Z (dv,H',cs1,k)->cs=x::cs1->
      ((fY env o.g=Z false/\v= .undef/\H0=H/\x=(0,0))\/(fY env o.g=Z true/\cH c G env H o.k=Z (.val v,H0)/\x=j7 env H H0 o.k))->
      ∃E Hs d X k0,k=i+k0/\E 0=env/\Hs 0=H/\Trace c G (o::sl) E Hs d (λj=>cs.getD j (0,0)) X/\X k0=true/\(∀j,j<k0->X j=false)/\
       (∃so,(o::sl)[k0]? =Z so/\fY (E k0) so.g=Z true/\cH c G (E k0) (Hs k0) so.k=Z (.bN dv,H'))/\(∀j,k0<j->aV (cs.getD j (0,0)).1=false)/\
       ∀(j:Nat) so,(o::sl)[j]? =Z so->X j=true->j≠k0->k0<j/\((∃j' ft,j'<j/\X j'=true/\(o::sl)[j']? =Z ft/\lC ft so=true)\/(so.k.fj=false/\(k,i+j)∉pairs)):=by
   intro v H0 x cs1 hr hcs hstep;subst hcs;obtain⟨E,Hs,d,X,k0,hk,a1,a2,T,b1,b2,⟨so,b3,b4,b5⟩,b6,b7⟩:=Td hr;refine⟨λj=>match j with | 0=>env |j+1=>E j,λj=>match j with | 0=>H |j+1=>Hs j,λj=>match j with | 0=>v |j+1=>d j,λj=>match j with | 0=>false |j+1=>X j,k0+1,by omega,rfl,rfl,⟨λj so hs=>?_,λj so hs=>?_⟩,b1,λj hj=>?_,⟨so,by simpa using b3,b4,b5⟩,λj hj=>?_,λj so hs hX hne=>?_⟩
   .match j with
    | 0=>simp only[ey,bM] at hs;subst hs;exact a1
    |j+1=>exact T.env j so (by simpa using hs)
   .match j with
    | 0=>
     simp only[ey,bM] at hs;subst hs;rcases hstep with⟨h1,h2,h3,h4⟩ |⟨h1,h2,h3⟩
     .exact .inl ⟨.inr h1,h2,a2.trans h3,h4⟩
     .refine .inr ⟨h1,?_,?_⟩
      .simp only[a2];exact h2
      .simp only[a2];exact h3
    |j+1=>exact T.step j so (by simpa using hs)
   .match j with
    | 0=>rfl
    |j+1=>exact b2 j (by omega)
   .match j with
    | 0=>omega
    |j+1=>exact b6 j (by omega)
   .match j with
    | 0=>cases hX
    |j+1=>
     obtain⟨c1,c2⟩:=b7 j so (by simpa using hs) hX (by omega);refine⟨by omega,?_⟩;rcases c2 with⟨j',ft,q1,q2,q3,q4⟩ |⟨q1,q2⟩
     .exact .inl ⟨j'+1,ft,by omega,q2,by simpa using q3,q4⟩
     .exact .inr ⟨q1,by rw[show i+(j+1)=i+1+j by omega];exact q2⟩
  simp only[iX] at h;split at h
  .rename_i hg;split at h
   .rename_i d0 H0 hd;obtain⟨⟨dv1,H1,cs1,k1⟩,hr,hh⟩:=ak.1 h;simp only[mr] at hh;obtain⟨rfl,rfl,rfl,rfl⟩:=hh;exact later d0 H0 _ cs1 hr rfl (.inr ⟨hg,hd,rfl⟩)
   .rename_i d0 H0 hd;obtain⟨cs1,hr,hh⟩:=ak.1 h;simp only[mr] at hh;obtain⟨rfl,rfl,rfl,rfl⟩:=hh;obtain⟨E,Hs,d,X,a1,a2,T,hw,hx⟩:=Hv hr;refine⟨λj=>match j with | 0=>env |j+1=>E j,λj=>match j with | 0=>H |j+1=>Hs j,λj=>match j with | 0=>.undef |j+1=>d j,λj=>match j with | 0=>true |j+1=>X j,0,rfl,rfl,rfl,⟨λj so hs=>?_,λj so hs=>?_⟩,rfl,λj hj=>by omega,⟨o,rfl,hg,hd⟩,λj hj=>?_,λj so hs hX hne=>?_⟩
    .match j with
     | 0=>simp only[ey,bM] at hs;subst hs;exact a1
     |j+1=>exact T.env j so (by simpa using hs)
    .match j with
     | 0=>exact .inl ⟨.inl rfl,rfl,a2,rfl⟩
     |j+1=>exact T.step j so (by simpa using hs)
    .match j with
     | 0=>omega
     |j+1=>exact hw j
    .match j with
     | 0=>exact absurd rfl hne
     |j+1=>
      refine⟨by omega,?_⟩;rcases hx j so (by simpa using hs) hX with⟨t,ht,hd⟩ |⟨h1,h2⟩
      .rcases hd with hd |⟨j',ft,q1,q2,q3,q4⟩
       .exact .inl ⟨0,o,by omega,rfl,rfl,Tc (by simpa using hd) ht⟩
       .exact .inl ⟨j'+1,ft,by omega,q2,by simpa using q3,Tc q4 ht⟩
      .exact .inr ⟨h1,by rw[show i+(j+1)=i+1+j by omega];exact h2⟩
   .cases h
  .rename_i hg;obtain⟨⟨dv1,H1,cs1,k1⟩,hr,hh⟩:=ak.1 h;simp only[mr] at hh;obtain⟨rfl,rfl,rfl,rfl⟩:=hh;exact later .undef H _ cs1 hr rfl (.inl ⟨hg,rfl,rfl,rfl⟩)
  .cases h
theorem MD{c:br}:∀{sl:List SO} {env:Env} {H:Hp} {e':Env} {H':Hp} {cs:List (Nat×Nat)},gP c G sl env H=Z (e',H',cs)->
    ∃E Hs d,E 0=env/\Hs 0=H/\E (O sl)=e'/\Hs (O sl)=H'/\Trace c G sl E Hs d (λj=>cs.getD j (0,0)) (λ_=>false)
 |[],env,H,e',H',cs,h=>by
  simp only[gP] at h;cases h;exact⟨λ_=>env,λ_=>H,λ_=>.undef,rfl,rfl,rfl,rfl,λj so hs=>by simp at hs,λj so hs=>by simp at hs⟩
 |o::sl,env,H,e',H',cs,h=>by
  simp only[gP] at h;split at h
  .rename_i hg;split at h
   .rename_i d0 H0 hd;split at h
    .rename_i e1 h1 cs1 hr;cases h;obtain⟨E,Hs,d,a1,a2,a3,a4,T⟩:=MD hr;refine⟨λj=>match j with | 0=>env |j+1=>E j,λj=>match j with | 0=>H |j+1=>Hs j,λj=>match j with | 0=>d0 |j+1=>d j,rfl,rfl,a3,a4,⟨λj so hs=>?_,λj so hs=>?_⟩⟩
     .match j with
      | 0=>simp only[ey,bM] at hs;subst hs;exact a1
      |j+1=>exact T.env j so (by simpa using hs)
     .match j with
      | 0=>
       simp only[ey,bM] at hs;subst hs;refine .inr ⟨hg,?_,?_⟩
       .simp only[a2];exact hd
       .simp only[a2];rfl
      |j+1=>exact T.step j so (by simpa using hs)
    .cases h
   .cases h
  .rename_i hg;split at h
   .rename_i e1 h1 cs1 hr;cases h;obtain⟨E,Hs,d,a1,a2,a3,a4,T⟩:=MD hr;refine⟨λj=>match j with | 0=>env |j+1=>E j,λj=>match j with | 0=>H |j+1=>Hs j,λj=>match j with | 0=>.undef |j+1=>d j,rfl,rfl,a3,a4,⟨λj so hs=>?_,λj so hs=>?_⟩⟩
    .match j with
     | 0=>simp only[ey,bM] at hs;subst hs;exact a1
     |j+1=>exact T.env j so (by simpa using hs)
    .match j with
     | 0=>
      simp only[ey,bM] at hs;subst hs;exact .inl ⟨.inr hg,rfl,a2,rfl⟩
     |j+1=>exact T.step j so (by simpa using hs)
   .cases h
  .cases h
theorem ME(e:Env)(k:SK):cls e k<=2:=by
 cases k<;>simp only[cls]<;>(try split)<;>omega
theorem MF{c:br}{e:Env}{k:SK}{d:D}(he:cH c G e H k=Z (.val d,H'))(hc:cls e k=1):H'=H:=by
 have hlen:O H'.bx=O H.bx:=by
  cases k<;>first |(exfalso;simp only[cls] at hc;omega) |skip
  .rename_i n x;rw[lZ rfl] at he;split at he
   .rename_i hd;cases he;simp only[aP] at hd;obtain⟨_,_,hh⟩:=ak.1 hd;cases hh;rfl
   .cases he
  .rw[lZ rfl] at he;split at he
   .rename_i hd;cases he;simp only[aP] at hd;obtain⟨_,_,hh⟩:=ak.1 hd;cases hh;rfl
   .cases he
  .exfalso;simp only[cls] at hc;split at hc<;>omega
 exact(Hr he (by omega) hlen).1
theorem uM(i:Nat):aV (4+2*i)=true:=by
 simp only[aV,nR,bL,decide_eq_true_eq,beq_iff_eq];omega
def SK.uN(e:Env):SK->Option Nat
 | .appendg _ _ _ s _=>match s.ev e with
  | .ae i _ _ _ | .bH i _ _ _ _=>Z i
  |_=>Y
 |_=>Y
def SK.Hw(e:Env):SK->Bool
 | .alloc _ | .box _ | .wo _ | .bsliceG _ _ _ _ _ | .makesl _ _ _ _ _=>true
 | .appendg a b c s x=>(SK.uN e (.appendg a b c s x)).isNone
 |_=>false
theorem acD{e:Env}{k:SK}{d:D}(hk:k.Hw e=true)(h:aP G e H k=Z (d,H')):(∃x,H'.bx=H.bx++[x])\/H'.bx=H.bx:=by
 cases k<;>first |(cases hk;done) |skip
 .simp only[aP] at h;split at h<;>cases h;exact .inl ⟨_,rfl⟩
 .simp only[aP] at h;split at h<;>cases h;exact .inl ⟨_,rfl⟩
 .rename_i el sz Hy s x;simp only[SK.Hw,SK.uN] at hk;simp only[aP] at h;split at h
  .rename_i m xs hs;unfold dx at h;split at h
   .rename_i hv;rw[hv] at hk;cases hk
   .rename_i hv;rw[hv] at hk;cases hk
   .split at h
    .split at h
     .cases h;exact .inr rfl
     .split at h
      .cases h;exact .inl ⟨_,rfl⟩
      .cases h
    .cases h
  .cases h
 .simp only[aP] at h;cases h;exact .inl ⟨_,rfl⟩
 .simp only[aP] at h;unfold Gk at h;split at h
  .split at h
   .cases h;exact .inl ⟨_,rfl⟩
   .cases h
  .cases h
 .simp only[aP] at h;split at h
  .split at h
   .split at h
    .cases h;exact .inl ⟨_,rfl⟩
    .cases h
   .cases h
  .cases h
theorem acE{e:Env}{k:SK}{d:D}(hk:k.uN e=Z i)(h:aP G e H k=Z (d,H'))(hb:b≠i)(hl:b<O H.bx):H'.bx[b]? =H.bx[b]?:=by
 unfold SK.uN at hk;split at hk
 .rename_i el sz Hy s x;simp only[aP] at h;split at h
  .rename_i m xs hs;split at hk
   .rename_i i' e' n' bQ hv;cases hk;simp only[hv,dx] at h;split at h
    .split at h
     .cases h;rfl
     .split at h
      .split at h
       .split at h
        .cases h;show(H.bx.set i _)[b]? =_;rw[bp (Ne.symm hb)]
        .split at h
         .cases h;show(H.bx.set i []++_)[b]? =_;rw[aT (by simpa using hl),bp (Ne.symm hb)]
         .cases h
       .cases h
      .cases h
    .cases h
   .rename_i i' off n' cap' bQ hv;cases hk;simp only[hv] at h;cases cap' with
    |none=>simp only[dx,iT] at h;cases h
    |some c=>
     simp only[dx] at h;split at h
     .split at h
      .cases h;rfl
      .split at h
       .split at h
        .split at h
         .split at h
          .cases h;show(H.bx.set i _)[b]? =_;rw[bp (Ne.symm hb)]
          .cases h
         .split at h
          .cases h;show(H.bx++_)[b]? =_;rw[aT hl]
          .cases h
        .cases h
       .cases h
     .cases h
   .cases hk
  .cases h
 .cases hk
theorem Be(l:Nat)(e:Env)(k:SK):gY l e k=(cls e k,0)\/(∃n x i o,k= .load n x/\x.ev e= .box i o/\cls e k=1/\gY l e k=(3+2*i,0))\/(∃n a v i o,k= .store n a v/\a.ev e= .box i o/\cls e k=2/\gY l e k=(4+2*i,0))\/
    (∃g z ok m kk i,k= .mapget g z ok m kk/\m.ev e= .dD i/\cls e k=1/\gY l e k=(3+2*i,0))\/(k.Hw e=true/\cls e k=2/\gY l e k=(4+2*l,0))\/
    (∃kd m kk v i q,k= .mapins kd m kk v/\m.ev e= .dD i/\kk.ev e= .p q/\i<2000000000/\gY l e k=(4+2*i,cY q+1))\/
    (∃el sz Hy s x,k= .append el sz Hy s x/\gY l e k=(4+2*1000000007,0))\/
    (∃i,k.uN e=Z i/\l<1000000/\gY l e k=(4+2*(4000000000+i*1000000+l),0)):=by
 by_cases hap:∃a b c s x,k= .appendg a b c s x
 .obtain⟨a,b,c,s,x,rfl⟩:=hap;have key:∀i,SK.uN e (.appendg a b c s x)=Z i->gY l e (.appendg a b c s x)=if l<1000000 then(4+2*(4000000000+i*1000000+l),0) else(2,0):=by
   intro i hi;simp only[SK.uN] at hi;simp only[gY];split at hi
   .rename_i hv;cases hi;rw[hv]
   .rename_i hv;cases hi;rw[hv]
   .cases hi
  cases hi:SK.uN e (.appendg a b c s x) with
  |some i=>
   by_cases hl:l<1000000
   .exact .inr (.inr (.inr (.inr (.inr (.inr (.inr ⟨i,rfl,hl,by rw[key i hi,if_pos hl]⟩))))))
   .exact .inl (by rw[key i hi,if_neg hl];rfl)
  |none=>
   refine .inr (.inr (.inr (.inr (.inl ⟨by simp[SK.Hw,hi],rfl,?_⟩))));simp only[SK.uN] at hi;simp only[gY];split at hi
   .cases hi
   .cases hi
   .rename_i h1 h2;split
    .rename_i hv;exact(h1 _ _ _ _ hv).elim
    .rename_i hv;exact(h2 _ _ _ _ _ hv).elim
    .rfl
 cases k<;>first |exact absurd ⟨_,_,_,_,_,rfl⟩ hap |exact .inr (.inr (.inr (.inr (.inr (.inr (.inl ⟨_,_,_,_,_,rfl,rfl⟩)))))) |exact .inr (.inr (.inr (.inr (.inl ⟨rfl,rfl,rfl⟩)))) |(exact .inl rfl) |skip
 .rename_i n x;cases hx:x.ev e with
  |box i o=>exact .inr (.inl ⟨n,x,i,o,rfl,hx,by simp only[cls,hx],by simp only[gY,hx]⟩)
  |_=>exact .inl (by simp only[gY,hx])
 .rename_i n a v;cases hx:a.ev e with
  |box i o=>exact .inr (.inr (.inl ⟨n,a,v,i,o,rfl,hx,rfl,by simp only[gY,hx]⟩))
  |_=>exact .inl (by simp only[gY,hx])
 .rename_i kd m kk v;cases hx:m.ev e with
  |dD i=>
   cases hy:kk.ev e with
   |p q=>
    by_cases hi:i<2000000000
    .exact .inr (.inr (.inr (.inr (.inr (.inl ⟨kd,m,kk,v,i,q,rfl,hx,hy,hi,by simp only[gY,hx,hy,hi,if_true]⟩)))))
    .exact .inl (by simp only[gY,hx,hy,hi,if_false];rfl)
   |_=>exact .inl (by simp only[gY,hx,hy])
  |_=>exact .inl (by simp only[gY,hx])
 .rename_i g z ok m kk;cases hx:m.ev e with
  |dD i=>exact .inr (.inr (.inr (.inl ⟨g,z,ok,m,kk,i,rfl,hx,rfl,by simp only[gY,hx]⟩)))
  |_=>exact .inl (by simp only[gY,hx])
theorem Bf(e:Env)(H H':Hp)(k:SK):(cls e k=0/\O H'.bx=O H.bx/\j7 e H H' k=(0,0))\/((cls e k=0\/H'.bx.take (O H.bx)=H.bx)/\∃m,aV m=true/\(m=2\/(m=4+2*O H.bx/\O H'.bx=O H.bx+1))/\j7 e H H' k=(m,0))\/(cls e k≠0/\j7 e H H' k=gY (O H.bx) e k)\/(H'=H/\(j7 e H H' k=(1,0)\/∃i,iW e H k=Z i/\j7 e H H' k=(3+2*i,0)))\/(k.lz=true/\ug k=true/\(O H'.bx=O H.bx/\wu (yl e H k)<2000000000)/\j7 e H H' k=(4+2*(2000000000+wu (yl e H k)),0)):=by
 unfold j7;split
 .rename_i h;split
  .rename_i h2;exact .inl ⟨h,h2,rfl⟩
  .split
   .rename_i h3;exact .inr (.inl ⟨.inl h,_,by simp[aV],.inr ⟨rfl,h3⟩,rfl⟩)
   .exact .inr (.inl ⟨.inl h,2,rfl,.inl rfl,rfl⟩)
 .rename_i h;split
  .rename_i h2;rw[bL] at h2;refine .inr (.inr (.inr (.inl ⟨aan h2.2,?_⟩)));cases hc:iW e H k with
   |none=>exact .inl rfl
   |some i=>exact .inr ⟨i,rfl,rfl⟩
  .split
   .rename_i h3;rw[bL] at h3;refine .inr (.inr (.inr (.inr ⟨?_,h3.1,by simpa using h3.2,rfl⟩)));cases k<;>first |rfl |cases h3.1
   .exact .inr (.inr (.inl ⟨h,rfl⟩))
theorem acF{e:Env}{k:SK}(h:k.fj=true):cls e k=0:=by
 cases k<;>first |rfl |cases h
theorem acG(i:Nat):aV (3+2*i)=false:=by
 simp[aV];omega
theorem acH{c:br}{e:Env}{k:SK}{d:D}(he:cH c G e H k=Z (.val d,H'))(hc:cls e k=0):H'.bx.take (O H.bx)=H.bx:=by
 have same:H'=H->H'.bx.take (O H.bx)=H.bx:=λh=>by rw[h];simp
 by_cases hl:O H'.bx=O H.bx
 .exact same (Hr he (by omega) hl).1
 by_cases hp:∃x,k= .panic x
 .obtain⟨x,rfl⟩:=hp;simp only[cls] at hc;omega
 by_cases hk:k.lz=true
 .cases k<;>first |(cases hk;done) |(exact absurd ⟨_,rfl⟩ hp) |skip
  rename_i f as;simp only[cH] at he;unfold fM at he;split at he
  .rename_i g first cap hg
   have Bb:D.ai (first++xW (λx=>aA.ev e x) as++cap)=[]:=by
    simp only[cls] at hc;split at hc
    .rename_i hr;simp only[bL,aoz] at hr;have:=hr.1;have app:∀x y:List D,D.ai (x++y)=D.ai x++D.ai y:=by
      intro x y
      induction x with
      |nil=>simp[D.ai]
      |cons d x ih=>simp[D.ai,ih]
     rw[hg] at this;simp only[D.ai,D.refs,tX] at this;rw[app,app,this.1.1,this.1.2,this.2];rfl
    .omega
   have yL:∀n,reach H n []=[]:=by
    intro n;cases n<;>simp[reach,eQ]
   unfold au at he;dsimp only at he;simp only[Bb,ins,yL] at he;split at he
   .split at he
    .split at he
     .unfold back at he;split at he
      .dsimp only at he;split at he
       .cases he;simp[bZ]
       .split at he
        .cases he;simp[bZ]
        .cases he
      .cases he
     .cases he
    .cases he
   .cases he
  .cases he
 .have hk:k.lz=false:=by simpa using hk
  refine absurd ?_ hl;rw[lZ hk] at he;split at he
  .rename_i d0 H0 hd;cases he;by_cases hl':k.fj=true
   .have q:=Hq (G:=G) (e:=e) hl' H;rw[q] at hd;obtain⟨x,hx,hh⟩:=ak.1 hd;cases hh;rfl
   .cases k<;>first |(exact absurd rfl hl') |(exfalso;simp only[cls] at hc;omega) |(exfalso;cases hk;done) |skip
    all_goals
     simp only[aP] at hd
     first
      |(obtain⟨d',bO,hh⟩:=ak.1 hd
        cases hh;rfl)
      |(split at hd
        .obtain⟨s,hs,hh⟩:=ak.1 hd;cases hh;rfl
        .cases hd)
  .cases he
theorem Te{i:Nat}:∀(l:List Nat),ins [i] l=[i]->∀x∈l,x=i
 |[],_,x,hx=>by simp at hx
 |a::l,h,x,hx=>by
  have key:∀(l m:List Nat),O m<=O (ins m l):=by
   intro l
   induction l with
   |nil=>intro m;exact aK _
   |cons a l ih=>
    intro m;simp only[ins];split
    .exact ih m
    .exact fW (by simp) (ih _)
  simp only[ins] at h;split at h
  .rename_i hc;have ha:a=i:=by simpa using hc
   rcases cq.1 hx with rfl |hx
   .exact ha
   .exact Te l h x hx
  .have:=key l ([i]++[a]);rw[h] at this;simp at this
theorem Tf{i:Nat}:∀(l:List Nat),(∀x∈l,x=i)->ins [i] l=[i]
 |[],_=>rfl
 |a::l,h=>by
  have :a=i:=h a (by simp);subst this;simp only[ins];rw[if_pos (by simp)];exact Tf l λx hx=>h x (by simp[hx])
theorem Hz:∀(l m:List Nat),∃r,ins m l=m++r
 |[],m=>⟨[],by simp[ins]⟩
 |a::l,m=>by
  simp only[ins];split
  .exact Hz l m
  .obtain⟨r,hr⟩:=Hz l (m++[a]);exact⟨[a]++r,by rw[hr];simp⟩
theorem MG(H:Hp):∀(n:Nat) (m:List Nat),∃r,reach H n m=m++r
 | 0,m=>⟨[],by simp[reach]⟩
 |n+1,m=>by
  simp only[reach];split
  .exact⟨[],by simp⟩
  .rename_i new _;obtain⟨r,hr⟩:=Hz (eQ H m) m;obtain⟨r',wD⟩:=MG H n (ins m (eQ H m));exact⟨r++r',by rw[wD,hr];simp⟩
theorem p9(H:Hp):∀n,reach H n []=[]
 | 0=>rfl
 |n+1=>by simp[reach,eQ]
theorem acI{l:List Nat}{n:Nat}(hb:H2.bx[i]? =H.bx[i]?)(h:reach H n l=[i])(hn:0<n\/True)(m:Nat)(hm:n=0->∀x∈eQ H [i],x=i):l=[i]/\reach H2 m l=[i]:=by
 have _:=hn;have hl:l=[i]:=by
  obtain⟨r,hr⟩:=MG H n l;rw[h] at hr;cases l with
  |nil=>rw[p9] at h;cases h
  |cons a l=>
   simp only[jo,xY] at hr;obtain⟨rfl,hr⟩:=hr;have :l=[]:=by
    cases l with
    |nil=>rfl
    |cons b l=>simp at hr
   rw[this]
 subst hl;refine⟨rfl,?_⟩;have hr:∀x∈eQ H [i],x=i:=by
  cases n with
  |zero=>exact hm rfl
  |succ n=>
   simp only[reach] at h;split at h
   .rename_i he;rw[he];simp
   .obtain⟨r,hr⟩:=MG H n (ins [i] (eQ H [i]));obtain⟨r',wD⟩:=Hz (eQ H [i]) [i];rw[h] at hr;refine Te _ ?_;rw[wD] at hr|-;have :r'=[]:=by
     cases r' with
     |nil=>rfl
     |cons b l=>simp at hr
    rw[this];rfl
 have hb2:eQ H2 [i]=eQ H [i]:=by simp only[eQ,hb]
 induction m with
 |zero=>rfl
 |succ m ih=>
  simp only[reach];split
  .rfl
  .rename_i he;rw[hb2,Tf _ hr];exact ih
theorem MH{α:Type}:∀(is:List Nat) (xs l:List α),O (bZ l is xs)=O l
 |[],xs,l=>by cases xs<;>simp[bZ]
 |i::is,[],l=>by simp[bZ]
 |i::is,x::xs,l=>by simp only[bZ];rw[MH is xs];simp
theorem acJ{r r':bR}(h:back [i] [] H r H'=Z (r',H))(hi:i<O H.bx)(hb:H2.bx[i]? =H.bx[i]?):back [i] [] H2 r H'=Z (r',H2):=by
 unfold back at h|-;generalize iD H'.bx [i].length=o1 at h|-;generalize iD H'.tk (O ([]:List Nat))=o2 at h|-;cases o1 with
 |none=>cases h
 |some bx=>
  cases o2 with
  |none=>cases h
  |some tk=>
   dsimp only at h|-;generalize r.ren (λj=>[i][j]?) (λt=>([]:List Nat)[t]?)=o3 at h|-;generalize aH (D.aZ (λj=>[i][j]?) λt=>([]:List Nat)[t]?) bx=o4 at h|-;cases o3 with
   |none=>
    exfalso;cases o4<;>dsimp only at h<;>split at h<;>first
     |(cases h;done)
     |(simp only[bM,mr] at h
       have e1:=congrArg (λx=>O x.bx) h.2;simp only[gG,MH,ew] at e1;omega)
   |some r1=>
    cases o4 with
    |none=>
     exfalso;dsimp only at h;split at h
     .simp only[bM,mr] at h;have e1:=congrArg (λx=>O x.bx) h.2;simp only[gG,MH,ew] at e1;omega
     .cases h
    |some bx1=>
     simp only[bM,mr] at h|-;obtain⟨rfl,hH⟩:=h;refine⟨rfl,?_⟩;have e1:bZ H.bx [i] bx1=H.bx:=congrArg Hp.bx hH;have e3:bZ H2.tk [] tk=H2.tk:=by simp[bZ]
     rw[e3];cases bx1 with
     |nil=>simp[bZ]
     |cons x l=>
      have q:∀(L:List (List D)),bZ L [i] (x::l)=L.set i x:=λL=>by cases l<;>simp[bZ]
      rw[q] at e1;rw[q];have hx:H.bx[i]? =Z x:=by
       rw[<-e1,eA hi]
      have hx2:H2.bx[i]? =Z x:=hb.trans hx;have hlt:i<O H2.bx:=(af.1 hx2).1;have :H2.bx.set i x=H2.bx:=by
       refine lO λk=>?_;by_cases hk:i=k
       .subst hk;rw[eA hlt,hx2]
       .rw[bp hk]
      rw[this]
theorem acK{c:br}{e:Env}{k:SK}{d:D}(he:cH c G e H k=Z (.val d,H))(hc:iW e H k=Z i)(hb:H2.bx[i]? =H.bx[i]?):cH c G e H2 k=Z (.val d,H2):=by
 cases k<;>first |(simp[iW] at hc;done) |skip
 rename_i f as;simp only[cH,fM] at he|-;simp only[iW] at hc;split at hc
 .rename_i g first cap hg
  rw[hg] at he;dsimp only at he;split at hc
  .rename_i j rP aO;cases hc;rw[rP] at aO;have hlt:i<O H.bx:=by
    have hm:i∈reach H (O H.bx) (ins [] (D.ai (first++as.map (·.ev e)++cap))):=by rw[rP];simp
    unfold au at he;dsimp only at he;rw[rP] at he;split at he
    .split at he
     .rename_i h1 h2 h3;cases bS:H.bx[i]? with
      |none=>simp[aH,bS] at h2
      |some x=>exact(af.1 bS).1
     .cases he
    .cases he
   obtain⟨hl,acL⟩:=acI hb rP (.inr trivial) (O H2.bx) (λh0=>by omega);have acM:D.aC (first++as.map (·.ev e)++cap)++gM H2 [i]=[]:=by
    have :gM H2 [i]=gM H [i]:=by simp only[gM,hb]
    rw[this];exact aO
   unfold au at he|-;dsimp only at he|-;rw[rP,aO] at he;rw[acL,acM];have gA:(Vs.nodupB [i]&&Vs.nodupB (ins [] []))=true:=by simp[Vs.nodupB,ins]
   rw[if_pos gA] at he|-;split at he
   .rename_i as' bx tk h1 h2 h3;have s8:aH (λi_1=>match H2.bx[i_1]? with |some cs=>D.aZ (idx [i]) (idx (ins [] [])) cs |none=>Y) [i]=Z bx:=by
     rw[<-h2];simp only[aH,hb];rfl
    have uC:aH (λt=>H2.tk[t]?) (ins [] [])=Z tk:=by
     rw[<-h3];rfl
    split at he
    .rename_i r H' hco;split
     .rename_i a2 b2 t2 g1 g2 g3;have q1:a2=as':=nQ (g1.symm.trans h1);have q2:b2=bx:=nQ (g2.symm.trans s8);have q3:t2=tk:=nQ (g3.symm.trans uC);subst q1;subst q2;subst q3;simp only[hco];exact acJ he hlt hb
     .rename_i hno;exact(hno _ _ _ h1 s8 uC).elim
    .cases he
   .cases he
  .cases hc
 .cases hc

section
variable{c : br}  {E : Nat -> Env} {Hs : Nat -> Hp} {d : Nat -> D} {cs : Nat -> Nat × Nat} {X : Nat -> Bool}
theorem Trace.quiet(T:Trace c G sl E Hs d cs X)(hs:sl[j]? =Z so)(h:aV (cs j).1=false):Hs (j+1)=Hs j:=by
 rcases T.step j so hs with⟨_,_,h1,_⟩ |⟨_,h1,h2⟩
 .exact h1
 .have:=ME (E j) so.k;rcases Bf (E j) (Hs j) (Hs (j+1)) so.k with⟨hc,hl,_⟩ |⟨_,m,hm,_,q⟩ |⟨hc,q⟩ |⟨q,_⟩ |⟨_,_,_,q⟩
  .exact(Hr h1 (by omega) hl).1
  .rw[h2,q] at h;rw[hm] at h;cases h
  rotate_left
  .exact q
  .rw[h2,q,uM] at h;cases h
  .rw[q] at h2;rcases Be (O (Hs j).bx) (E j) so.k with q |⟨_,_,_,_,_,_,q,_⟩ |⟨_,_,_,i,_,_,_,_,q⟩ |⟨_,_,_,_,_,_,_,_,q,_⟩ |⟨_,_,q⟩ |⟨_,_,_,_,_,_,_,_,_,_,q⟩ |⟨_,_,_,_,_,_,q⟩ |⟨_,_,_,q⟩
   .rw[h2,q] at h;have hne:cls (E j) so.k≠2:=λe=>by rw[e] at h;cases h
    exact MF h1 (by omega)
   .exact MF h1 q
   .rw[h2,q,uM] at h;cases h
   .exact MF h1 q
   .rw[h2,q,uM] at h;cases h
   .rw[h2,q,uM] at h;cases h
   .rw[h2,q,uM] at h;cases h
   .rw[h2,q,uM] at h;cases h
theorem Trace.free(T:Trace c G sl E Hs d cs X)(hs:sl[j]? =Z so)(hx:X j=false)(h:(cs j).1=0)(hg:fY (E j) so.g=Z true)(H2:Hp):cH c G (E j) H2 so.k=Z (.val (d j),H2):=by
 rcases T.step j so hs with⟨h0,_,_,_⟩ |⟨_,h1,h2⟩
 .rcases h0 with h0 |h0
  .rw[h0] at hx;cases hx
  .rw[h0] at hg;cases hg
 .rcases Bf (E j) (Hs j) (Hs (j+1)) so.k with⟨hc,hl,_⟩ |⟨_,m,hm,_,q⟩ |⟨hc,q⟩ |⟨_,q⟩ |⟨wL,dG,hlen,q⟩
  .exact(Hr h1 (by omega) hl).2 hc H2
  .rw[h2,q] at h;dsimp only at h;rw[h] at hm;cases hm
  rotate_left
  .rcases q with q |⟨_,_,q⟩<;>rw[h2,q] at h<;>dsimp only at h<;>omega
  .rw[h2,q] at h;dsimp only at h;omega
  .rw[q] at h2;rcases Be (O (Hs j).bx) (E j) so.k with q |⟨_,_,_,_,_,_,_,q⟩ |⟨_,_,_,_,_,_,_,_,q⟩ |⟨_,_,_,_,_,_,_,_,_,q⟩ |⟨_,_,q⟩ |⟨_,_,_,_,_,_,_,_,_,_,q⟩ |⟨_,_,_,_,_,_,q⟩ |⟨_,_,_,q⟩<;>rw[h2,q] at h<;>dsimp only at h<;>omega
theorem Trace.acO(T:Trace c G sl E Hs d cs X)(hs:sl[j]? =Z so)(hx:X j=false)(h:(cs j).1=3+2*b)(hg:fY (E j) so.g=Z true)(hb:H2.bx[b]? =(Hs j).bx[b]?):cH c G (E j) H2 so.k=Z (.val (d j),H2):=by
 rcases T.step j so hs with⟨h0,_,_,_⟩ |⟨_,h1,h2⟩
 .rcases h0 with h0 |h0
  .rw[h0] at hx;cases hx
  .rw[h0] at hg;cases hg
 .have hle:=ME (E j) so.k;rcases Bf (E j) (Hs j) (Hs (j+1)) so.k with⟨_,_,q⟩ |⟨_,m,hm,_,q⟩ |⟨hc,q⟩ |q0 |⟨wL,dG,hlen,q⟩
  .rw[h2,q] at h;dsimp only at h;omega
  .rw[h2,q] at h;dsimp only at h;rw[h,acG] at hm;cases hm
  rotate_left
  .obtain⟨hH,q⟩:=q0;rcases q with q |⟨i,hi,q⟩
   .rw[h2,q] at h;dsimp only at h;omega
   .have hib:i=b:=by rw[h2,q] at h;dsimp only at h;omega
    subst hib;rw[hH] at h1;exact acK h1 hi hb
  .rw[h2,q] at h;dsimp only at h;omega
  .rw[q] at h2;rcases Be (O (Hs j).bx) (E j) so.k with q |⟨n,x,i,o,hk,hx,_,q⟩ |⟨_,_,_,_,_,_,_,_,q⟩ |⟨g,z,ok,m,kk,i,hk,hx,_,q⟩ |⟨_,_,q⟩ |⟨_,_,_,_,_,_,_,_,_,_,q⟩ |⟨_,_,_,_,_,_,q⟩ |⟨_,_,_,q⟩
   .rw[h2,q] at h;dsimp only at h;omega
   .have hib:i=b:=by rw[h2,q] at h;dsimp only at h;omega
    subst hib;rw[hk] at h1|-;rw[lZ rfl] at h1|-;simp only[aP,hx,pU] at h1|-;rw[hb];cases hc:(Hs j).bx[i]? with
    |none=>rw[hc] at h1;cases h1
    |some cells=>
     rw[hc] at h1;simp only at h1|-;cases hd:(if ay cells=true then Y else cutAt cells o n id cX) with
     |none=>rw[hd] at h1;cases h1
     |some d0=>
      rw[hd] at h1;simp only[fy,bM,mr,bR.val.injEq] at h1|-;exact⟨h1.1,trivial⟩
   .rw[h2,q] at h;dsimp only at h;omega
   .have hib:i=b:=by rw[h2,q] at h;dsimp only at h;omega
    subst hib;rw[hk] at h1|-;rw[lZ rfl] at h1|-;simp only[aP] at h1|-;have hq:AK g z ok (m.ev (E j)) (kk.ev (E j)) H2=AK g z ok (m.ev (E j)) (kk.ev (E j)) (Hs j):=by
     rw[hx];unfold AK;split
     .rfl
     .rename_i h1 _;cases h1;rw[hb]
     .rfl
    rw[hq];cases hd:AK g z ok (m.ev (E j)) (kk.ev (E j)) (Hs j) with
    |none=>rw[hd] at h1;cases h1
    |some d0=>
     rw[hd] at h1;simp only[fy,bM,mr,bR.val.injEq] at h1|-;exact⟨h1.1,trivial⟩
   .rw[h2,q] at h;dsimp only at h;omega
   .rw[h2,q] at h;dsimp only at h;omega
   .rw[h2,q] at h;dsimp only at h;omega
   .rw[h2,q] at h;dsimp only at h;omega
def uO(e:Env):SK->Option (Nat×Nat×PD×D)
 | .mapins kd m k v=>match m.ev e,k.ev e with
  | .dD i,.p q=>Z (kd,i,q,v.ev e)
  |_,_=>Y
 |_=>Y
def mF(q:Nat×Nat×PD×D)(o:Option (List D)):Option (List D):=
 match o with
 |some [.cD kZ ks vs]=>if dS q.2.2.1=q.1/\kZ=q.1/\q.1≠1/\iV q.2.2.1 ks=Y/\O vs=O ks then
     Z [.cD q.1 (eD (iq (cY q.2.2.1) ks) q.2.2.1 ks) (eD (iq (cY q.2.2.1) ks) q.2.2.2 vs)] else o
 |o=>o
def fO(q:Nat×Nat×PD×D)(H:Hp):Hp:=
 match mF q (H.bx[q.2.1]?) with
 |some cs=>{H with bx:=H.bx.set q.2.1 cs}
 |none=>H
def qH(q:Nat×Nat×PD×D)(o:Option (List D)):Prop:=∃ks vs,o=Z [.cD q.1 ks vs]/\dS q.2.2.1=q.1/\q.1≠1/\iV q.2.2.1 ks=Y/\O vs=O ks
theorem MI{q:Nat×Nat×PD×D}{o:Option (List D)}(h:mF q o=Y):o=Y:=by
 unfold mF at h;split at h
 .split at h<;>cases h
 .exact h
theorem uP{q:Nat×Nat×PD×D}(b:Nat):(fO q H).bx[b]? =if q.2.1=b then mF q (H.bx[b]?) else H.bx[b]?:=by
 unfold fO;split
 .rename_i cs hcs;show(H.bx.set q.2.1 cs)[b]? =_;by_cases hb:q.2.1=b
  .subst hb;rw[if_pos rfl,hcs];have :q.2.1<O H.bx:=by
    rcases fA q.2.1 (O H.bx) with h |h
    .exact h
    .rw[nS h] at hcs;cases hcs
   rw[eA this]
  .rw[if_neg hb,bp hb]
 .rename_i hcs;split
  .rename_i hb;subst hb;rw[MI hcs,<-MI hcs,hcs];exact(MI hcs)
  .rfl
theorem Tg{q:Nat×Nat×PD×D}(h:qH q (H.bx[q.2.1]?)):rH q.1 (.dD q.2.1) (.p q.2.2.1) q.2.2.2 H=Z (.undef,fO q H):=by
 obtain⟨ks,vs,h1,h2,h3,h4,h5⟩:=h;have hb:mF q (H.bx[q.2.1]?)=Z [.cD q.1 (eD (iq (cY q.2.2.1) ks) q.2.2.1 ks) (eD (iq (cY q.2.2.1) ks) q.2.2.2 vs)]:=by
  rw[h1];simp[mF,h2,h3,h4,h5]
 unfold fO;rw[hb];simp[rH,h1,h2,h3,h4,h5]
theorem HA{e:Env}{k:SK}{d:D}{q:Nat×Nat×PD×D}(hq:uO e k=Z q)(h:cH c G e H k=Z (.val d,H')):qH q (H.bx[q.2.1]?)/\d= .undef/\H'=fO q H/\∀H2,cH c G e H2 k=match rH q.1 (.dD q.2.1) (.p q.2.2.1) q.2.2.2 H2 with |some (d,H')=>Z (.val d,H') |none=>Y:=by
 cases k<;>first |(cases hq;done) |skip
 rename_i kd m kk v;simp only[uO] at hq;split at hq
 .rename_i i x hm hk;cases hq;have dA:∀H2,cH c G e H2 (.mapins kd m kk v)=match rH kd (.dD i) (.p x) (v.ev e) H2 with |some (d,H')=>Z (.val d,H') |none=>Y:=λH2=>by
   rw[lZ rfl]
   (simp only[aP,hm,hk])<;>(cases rH kd (.dD i) (.p x) (v.ev e) H2<;>rfl)
  rw[dA] at h;have Dx:qH (kd,i,x,v.ev e) (H.bx[i]?):=by
   cases jN:rH kd (.dD i) (.p x) (v.ev e) H with
   |none=>rw[jN] at h;cases h
   |some r=>
    unfold rH at jN;simp only at jN;split at jN
    .rename_i kZ ks vs bS;split at jN
     .rename_i hc;obtain⟨h1,h2,h3,h4,h5⟩:=hc;subst h2;exact⟨ks,vs,bS,h1,h3,h4,h5⟩
     .cases jN
    .cases jN
  rw[Tg Dx] at h;cases h;exact⟨Dx,rfl,rfl,dA⟩
 .cases hq
theorem Trace.ins(T:Trace c G sl E Hs d cs X)(hs:sl[j]? =Z so)(h:(cs j).2≠0):∃q,uO (E j) so.k=Z q/\cs j=(4+2*q.2.1,cY q.2.2.1+1)/\fY (E j) so.g=Z true/\cH c G (E j) (Hs j) so.k=Z (.val (d j),Hs (j+1)):=by
 rcases T.step j so hs with⟨_,_,_,h1⟩ |⟨hg,h1,h2⟩
 .rw[h1] at h;exact absurd rfl h
 .rcases Bf (E j) (Hs j) (Hs (j+1)) so.k with⟨_,_,q⟩ |⟨_,_,_,_,q⟩ |⟨hc,q⟩ |⟨_,q⟩ |⟨wL,dG,hlen,q⟩
  .rw[h2,q] at h;exact absurd rfl h
  .rw[h2,q] at h;exact absurd rfl h
  rotate_left
  .rcases q with q |⟨_,_,q⟩<;>rw[h2,q] at h<;>exact absurd rfl h
  .rw[h2,q] at h;exact absurd rfl h
  .rw[q] at h2;rcases Be (O (Hs j).bx) (E j) so.k with q |⟨_,_,_,_,_,_,_,q⟩ |⟨_,_,_,_,_,_,_,_,q⟩ |⟨_,_,_,_,_,_,_,_,_,q⟩ |⟨_,_,q⟩ |⟨kd,m,kk,v,i,x,hk,hm,hx,hlt,q⟩ |⟨_,_,_,_,_,_,q⟩ |⟨_,_,_,q⟩
   .rw[h2,q] at h;exact absurd rfl h
   .rw[h2,q] at h;exact absurd rfl h
   .rw[h2,q] at h;exact absurd rfl h
   .rw[h2,q] at h;exact absurd rfl h
   .rw[h2,q] at h;exact absurd rfl h
   .refine⟨(kd,i,x,v.ev (E j)),?_,h2.trans q,hg,h1⟩;rw[hk];simp only[uO,hm,hx]
   .rw[h2,q] at h;exact absurd rfl h
   .rw[h2,q] at h;exact absurd rfl h
theorem Trace.acP(T:Trace c G sl E Hs d cs X)(hs:sl[j]? =Z so)(h:(cs j).2≠0):∀q,uO (E j) so.k=Z q->q.2.1<2000000000:=by
 rcases T.step j so hs with⟨_,_,_,h1⟩ |⟨hg,h1,h2⟩
 .rw[h1] at h;exact absurd rfl h
 .rcases Bf (E j) (Hs j) (Hs (j+1)) so.k with⟨_,_,q⟩ |⟨_,_,_,_,q⟩ |⟨hc,q⟩ |⟨_,q⟩ |⟨wL,dG,hlen,q⟩
  .rw[h2,q] at h;exact absurd rfl h
  .rw[h2,q] at h;exact absurd rfl h
  rotate_left
  .rcases q with q |⟨_,_,q⟩<;>rw[h2,q] at h<;>exact absurd rfl h
  .rw[h2,q] at h;exact absurd rfl h
  .rw[q] at h2;rcases Be (O (Hs j).bx) (E j) so.k with q |⟨_,_,_,_,_,_,_,q⟩ |⟨_,_,_,_,_,_,_,_,q⟩ |⟨_,_,_,_,_,_,_,_,_,q⟩ |⟨_,_,q⟩ |⟨kd,m,kk,v,i,x,hk,hm,hx,hlt,q⟩ |⟨_,_,_,_,_,_,q⟩ |⟨_,_,_,q⟩
   .rw[h2,q] at h;exact absurd rfl h
   .rw[h2,q] at h;exact absurd rfl h
   .rw[h2,q] at h;exact absurd rfl h
   .rw[h2,q] at h;exact absurd rfl h
   .rw[h2,q] at h;exact absurd rfl h
   .intro q' hq';rw[hk] at hq';simp only[uO,hm,hx,bM] at hq';subst hq';exact hlt
   .rw[h2,q] at h;exact absurd rfl h
   .rw[h2,q] at h;exact absurd rfl h
theorem acQ(h:oL b i=true):i≠b:=by
 unfold oL at h;split at h
 .exact λe=>by simp[e] at h
 .split at h
  .rw[bL] at h;have:=of_decide_eq_true h.2;omega
  .rw[bL] at h;have:=of_decide_eq_true h.2;omega
theorem Th:∀{l:List Nat} {b:Nat},wu l<=b->b∉l
 |[],_,_=>by simp
 |i::l,b,h=>by
  simp only[wu] at h;intro hm;rcases cq.1 hm with e |e
  .omega
  .exact Th (by omega) e
theorem Ti{α:Type}:∀(is:List Nat) (l xs:List α) (b:Nat),b∉is->(bZ l is xs)[b]? =l[b]?
 |[],l,xs,b,_=>by cases xs<;>rfl
 |i::is,l,[],b,_=>rfl
 |i::is,l,x::xs,b,h=>by
  simp only[bZ];rw[Ti is _ xs b λhm=>h (kA _ hm),bp λe=>h (by rw[e];exact rD)]
theorem Tj{α:Type}:∀(is:List Nat) (l xs:List α),O (bZ l is xs)=O l
 |[],l,xs=>by cases xs<;>rfl
 |i::is,l,[]=>rfl
 |i::is,l,x::xs=>by
  simp only[bZ];rw[Tj is];simp
theorem acR{c:br}{e:Env}{k:SK}{d:D}(he:cH c G e H k=Z (.val d,H'))(dG:ug k=true)(hl:O H'.bx=O H.bx)(hb:b∉yl e H k):H'.bx[b]? =H.bx[b]?:=by
 cases k<;>first |(cases dG;done) |skip
 rename_i f as;simp only[cH] at he;unfold fM at he;split at he
 .rename_i g first cap hg
  simp only[yl,hg] at hb;unfold au at he;dsimp only at he;split at he
  .split at he
   .split at he
    .unfold back at he;split at he
     .dsimp only at he;split at he
      .cases he;exact Ti _ _ _ _ hb
      .split at he
       .cases he;simp only[gG,Tj,ew] at hl;omega
       .cases he
     .cases he
    .cases he
   .cases he
  .cases he
 .cases he
theorem acS{e sz bytes:Nat}{s:D}{xs:List PD}{d:D}(h:fg e sz bytes s xs H=Z (d,H')):H'.bx=H.bx:=by
 unfold fg at h;split at h
 .split at h<;>cases h;rfl
 .split at h<;>cases h;rfl
 .split at h<;>cases h;rfl
 .cases h
theorem Trace.apart(T:Trace c G sl E Hs d cs X)(hs:sl[j]? =Z so)(h:(cs j).1=4+2*i)(rU:oL b i=true):(Hs (j+1)).bx[b]? =(Hs j).bx[b]?:=by
 have hne:=acQ rU;by_cases hz:(cs j).2≠0
 .obtain⟨q,h1,h2,h3,h4⟩:=T.ins hs hz;obtain⟨_,_,h5,_⟩:=HA h1 h4;rw[h5,uP,if_neg];rw[h2] at h;dsimp only at h;omega
 rcases T.step j so hs with⟨_,_,h1,_⟩ |⟨_,h1,h2⟩
 .rw[h1]
 .have hle:=ME (E j) so.k;rcases Bf (E j) (Hs j) (Hs (j+1)) so.k with⟨_,_,q⟩ |⟨hc0,m,hm,kN,q⟩ |⟨hc,q⟩ |⟨_,q⟩ |⟨wL,dG,hlen,q⟩
  .rw[h2,q] at h;dsimp only at h;omega
  .rw[h2,q] at h;dsimp only at h;rcases kN with kN |⟨kN,hl⟩
   .omega
   .have hp:=hc0.elim (acH h1) id;by_cases hb:b<O (Hs j).bx
    .rw[<-hp,kX hb]
    .rw[nS (by omega),nS (by omega)]
  rotate_left
  .rcases q with q |⟨_,_,q⟩<;>rw[h2,q] at h<;>dsimp only at h<;>omega
  .rw[h2,q] at h;dsimp only at h;have hi:i=2000000000+wu (yl (E j) (Hs j) so.k):=by omega
   rw[hi] at rU;unfold oL at rU;rw[if_neg (by omega),if_pos (by omega),bL] at rU;exact acR h1 dG hlen.1 (Th (by have:=of_decide_eq_true rU.1;omega))
  .rw[q] at h2;rcases Be (O (Hs j).bx) (E j) so.k with q |⟨_,_,_,_,_,_,_,q⟩ |⟨n,a,v,i',o,hk,ha,_,q⟩ |⟨_,_,_,_,_,_,_,_,_,q⟩ |⟨hn,_,q⟩ |⟨_,_,_,_,_,_,_,_,_,_,q⟩ |⟨el,sz,Hy,s,x,hk,q⟩ |⟨i',hap,hl',q⟩
   .rw[h2,q] at h;dsimp only at h;omega
   .rw[h2,q] at h;dsimp only at h;omega
   .have yM:i'=i:=by rw[h2,q] at h;dsimp only at h;omega
    subst yM;rw[hk,lZ rfl] at h1;simp only[aP,ha] at h1;split at h1
    .rename_i d0 H0 hd;cases h1;obtain⟨H1,hst,hh⟩:=ak.1 hd;simp only[mr] at hh;rw[<-hh.2];unfold yi at hst;simp only at hst;split at hst
     .split at hst
      .cases hst;show(((Hs j).bx.set _ _)[b]?)=_;rw[bp hne]
      .cases hst
     .cases hst
    .cases h1
   .rw[h2,q] at h;dsimp only at h;omega
   .have yM:O (Hs j).bx=i:=by rw[h2,q] at h;dsimp only at h;omega
    have wL:so.k.lz=false:=by cases hk:so.k<;>rw[hk] at hn<;>first |rfl |cases hn
    rw[lZ wL] at h1;split at h1
    .rename_i d0 H0 hd;cases h1;rcases acD hn hd with⟨x,hx⟩ |hx
     .rw[hx];by_cases hb:b<O (Hs j).bx
      .rw[aT hb]
      .rw[nS (by simp;omega),nS (by omega)]
     .rw[hx]
    .cases h1
   .rw[h2,q] at hz;exact absurd (λe=>by cases e) hz
   .rw[hk,lZ rfl] at h1;split at h1
    .rename_i d0 H0 hd;cases h1;simp only[aP] at hd;split at hd
     .rw[acS hd]
     .cases hd
    .cases h1
   .have hq:4000000000+i'*1000000+O (Hs j).bx=i:=by rw[h2,q] at h;dsimp only at h;omega
    have wL:so.k.lz=false:=by cases hk:so.k<;>rw[hk] at hap<;>first |rfl |cases hap
    rw[lZ wL] at h1;split at h1
    .rename_i d0 H0 hd;cases h1;unfold oL at rU;rw[if_neg (by omega),if_neg (by omega),bL] at rU;have hb1:=of_decide_eq_true rU.1;have hb2:=of_decide_eq_true rU.2;exact acE hap hd (by omega) (by omega)
    .cases h1
theorem Trace.fj(T:Trace c G sl E Hs d cs X)(hs:sl[j]? =Z so)(h:so.k.fj=true):cs j=(0,0):=by
 rcases T.step j so hs with⟨_,_,_,h1⟩ |⟨_,h1,h2⟩
 .exact h1
 .have hc:=acF (e:=E j) h;have hk:so.k.lz=false:=by cases hk:so.k<;>rw[hk] at h<;>first |rfl |cases h
  rw[lZ hk,Hq h] at h1;split at h1
  .rename_i hd;cases h1;obtain⟨x,hx,hh⟩:=ak.1 hd;simp only[mr] at hh;rw[h2];unfold j7;rw[if_pos hc,<-hh.2,if_pos rfl]
  .cases h1
def bE(g0:α)(wr:Nat->Bool)(f:Nat->α->α)(l:Nat->Bool):Nat->α
 | 0=>g0
 |m+1=>if l m=true/\wr m=true then f m (bE g0 wr f l m) else bE g0 wr f l m
theorem rV{α:Type}{g0:α}{wr:Nat->Bool}{f:Nat->α->α}{l l':Nat->Bool}:∀(n:Nat),(∀j,j<n->wr j=true->l j=l' j)->bE g0 wr f l n=bE g0 wr f l' n
 | 0,_=>rfl
 |n+1,h=>by
  simp only[bE];rw[rV n λj hj hw=>h j (by omega) hw];by_cases hw:wr n=true
  .rw[h n (by omega) hw]
  .simp[hw]
theorem Dy{α:Type}{g0:α}{wr:Nat->Bool}{f:Nat->α->α}{i:Nat}:∀(n:Nat),i<=n->bE g0 wr f (λj=>decide (j<i)) n=bE g0 wr f (λ_=>true) i
 | 0,h=>by
  have :i=0:=by omega
  subst this;rfl
 |n+1,h=>by
  by_cases hi:i=n+1
  .subst hi;exact rV (n+1) λj hj _=>by simp[hj]
  .simp only[bE];rw[if_neg (by simp;omega),Dy n (by omega)]
theorem MJ{α:Type}{g0:α}{wr:Nat->Bool}{f:Nat->α->α}{l:Nat->Bool}{i:Nat}{x:α}(hl:l i=true)(hw:wr i=true)(hf:∀h,f i h=x):∀(n:Nat),i<n->(∀j,i<j->j<n->wr j=true->l j=false)->bE g0 wr f l n=x
 | 0,h,_=>by omega
 |n+1,h,q=>by
  simp only[bE];by_cases hi:i=n
  .subst hi;rw[if_pos ⟨hl,hw⟩];exact hf _
  .rw[if_neg (λx=>by have:=q n (by omega) (by omega) x.2;rw[this] at x;exact absurd x.1 (by simp)),MJ hl hw hf n (by omega) λj h1 h2 h3=>q j h1 (by omega) h3]
def cT(sl:List SO)(E:Nat->Env)(Hs:Nat->Hp)(cs:Nat->Nat×Nat)(j:Nat)(h:Hp):Hp:=
 if(cs j).2=0 then Hs (j+1) else match(sl[j]?).bind λso=>uO (E j) so.k with
  |some q=>fO q h
  |none=>Hs (j+1)
theorem HB{h:Hp}(hz:(cs j).2=0):cT sl E Hs cs j h=Hs (j+1):=by simp[cT,hz]
theorem HE{q:Nat×Nat×PD×D}{h:Hp}(hs:sl[j]? =Z so)(hz:(cs j).2≠0)(hq:uO (E j) so.k=Z q):cT sl E Hs cs j h=fO q h:=by simp[cT,hz,hs,hq]
theorem Trace.eff(T:Trace c G sl E Hs d cs X)(hs:sl[j]? =Z so):cT sl E Hs cs j (Hs j)=Hs (j+1):=by
 by_cases hz:(cs j).2=0
 .exact HB hz
 .obtain⟨q,h1,h2,h3,h4⟩:=T.ins hs hz;rw[HE hs hz h1];exact(HA h1 h4).2.2.1.symm
def l8(sl:List SO)(t:Nat)(j:Nat):Bool:=((sl[j]?).bind (·.dst))==Z t
theorem Trace.get(T:Trace c G sl E Hs d cs X)(t:Nat):∀j,j<=O sl->(E j).get t=jC ((E 0).get t) (l8 sl t) d (λ_=>true) j
 | 0,_=>rfl
 |j+1,h=>by
  have hs:sl[j]? =Z sl[j]:=aD (by omega);simp only[jC];rw[T.env j _ hs,<-T.get t j (by omega)];simp only[l8,hs,Lc,true_and,beq_iff_eq];cases hd:(sl[j]).dst with
  |none=>simp[put]
  |some u=>simp only[put,Env.get,bM]
theorem Trace.heap(T:Trace c G sl E Hs d cs X):∀j,j<=O sl->Hs j=bE (Hs 0) (λj=>aV (cs j).1) (cT sl E Hs cs) (λ_=>true) j
 | 0,_=>rfl
 |j+1,h=>by
  have hs:sl[j]? =Z sl[j]:=aD (by omega);simp only[bE,true_and];rw[<-T.heap j (by omega)];split
  .exact(T.eff hs).symm
  .rename_i hc;rw[T.quiet hs (by simpa using hc)]

end
end Go.Vs
