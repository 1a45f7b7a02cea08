/-
  A value-level evaluator for Go functions; the functions of this cut by it; plain laws. Text G4.
-/
import Derived.Test.YtgplgbonlnodeaaGreatDoorG3
import Derived.SizedLaws
import Derived.Handed
import Derived.Test.YtgplgbonlnodeaaGreatDoorG1
import Derived.Test.YtgplgbonlnodeaaGreatDoorG2
open Array renaming getD_eq_getD_getElem?->bP,getElem?_eq_some_iff->fG
open Bool renaming and_eq_true->bL
open Classical renaming byContradiction->pL
open List renaming all_eq_true->gV,append_eq_nil_iff->tX,append_nil->iQ,cons_append->jo,drop_drop->CS,drop_length->C0,drop_of_length_le->Gd,getD_eq_getElem?_getD->im,getElem?_append_left->aT,getElem?_append_right->cR,getElem?_drop->lN,getElem?_eq_getElem->aD,getElem?_eq_some_iff->af,getElem?_map->cG,getElem?_of_mem->dV,getElem?_set->nU,getElem?_set_ne->bp,getElem?_set_self->eA,getElem?_take->gL,getElem_mem->dw,length_drop->wj,length_map->bT,length_pos_iff->wh,map_congr_left->pN,map_id->Le,map_map->pO,mem_append->cx,mem_cons->cq,mem_cons_of_mem->kA,mem_cons_self->rD,mem_map->cA,mem_map_of_mem->Q3,mem_of_getElem?->bB,mem_of_mem_drop->tT,mem_of_mem_take->jn,mem_singleton->nT,nil_append->fF,nodup_append->Q7,nodup_cons->tW,range->j3,take_append_drop->Aw,take_of_length_le->fK,take_take->Q8,take_zero->tY
open Nat renaming add_sub_cancel_left->tZ,le_refl->aK,lt_or_ge->fA,mul_comm->tV,mul_le_mul_right->ju,zero_le->bD
open Option renaming map_eq_some_iff->ak
open Option.some renaming inj->nQ
open List renaming length->O
open Option renaming some->Z,none->Y

namespace Go.Vs
open Go.RowKit

variable{γ:Gh}
variable{P : Program} {W : World} {G : Nat -> Option (List PD)}  {H : Hp} {w : World}
theorem UJ{vs:Array Value}{d:D}(h:cv γ vs [d]):∃v,vs= #[v]/\aB γ v d:=by
 obtain⟨hl,hr⟩:=h;obtain⟨l⟩:=vs
 match l,hl with
 |[v],_=>
  have:=hr 0 d rfl;exact⟨v,rfl,by simpa[bP] using this⟩

end Go.Vs

namespace Go
variable {H : Type} {enc : TypeId × Value -> H}

end Go

namespace Go.Vs

variable {P : Program} {W : World} {G : Nat -> Option (List PD)} {nt : Nat}
theorem ae2:∀(sc:SC) (fin:List Nat) (ex:List (Nat×List Nat)) (out:List Nat),sc.fQ P W G->(eN fin sc ex out).2.fQ P W G:=by
 intro sc
 induction sc with
 |seq a b fC fD=>intro fin ex out h;exact⟨fC _ _ _ h.1,fD _ _ _ h.2⟩
 |cond c a b fC fD=>intro fin ex out h;exact⟨fC _ _ _ h.1,fD _ _ _ h.2⟩
 |mA f gen g ps a b fC fD=>intro fin ex out h;exact⟨h.1,fC _ _ _ h.2.1,fD _ _ _ h.2.2⟩
 |block id b ih=>intro fin ex out h;exact ih fin ((id,out)::ex) out h
 |loop k b ih=>intro fin ex out h;exact ih fin ex (eN fin b ex []).1 h
 |mz b ih=>intro fin ex out h;exact ih fin ex out h
 |scope b ih=>intro fin ex out h;exact ih fin ex out h
 |loc b ih=>intro fin ex out h;exact ih fin ex out h
 |_=>intros;trivial
theorem ae3(sk:SC)(c:Code):∀sc,dR P nt sk c=Z sc->sk.fQ P W G->sc.fQ P W G:=by
 fun_induction dR P nt sk c
 all_goals (intro sc h hg)
 all_goals try (cases h;done)
 all_goals try (cases h;trivial)
 case case1 ih=>
  obtain⟨b',hb,rfl⟩:=ak.1 h;exact ih b' hb hg
 case case4 keep hs id ops hn=>
  obtain⟨sl,bW,rfl⟩:=ak.1 h;trivial
 case case9 f gen g0 ps0 a b g ps x y g' a' b' hb ha hgg hn fC fD=>
  cases h;exact⟨hg.1,fC a' ha hg.2.1,fD b' hb hg.2.2⟩
 case case12 s e z b c hc ih=>
  obtain⟨b',hb,rfl⟩:=ak.1 h;exact⟨trivial,ih b' hb hg.2⟩
 case case14 s off e z b c hc ih=>
  obtain⟨b',hb,rfl⟩:=ak.1 h;exact⟨trivial,ih b' hb hg.2⟩
 case case16 a b x y n1 n2 a' b' hb ha fC fD=>
  cases h;exact⟨fC a' ha hg.1,fD b' hb hg.2⟩
 case case18 c0 a b c x y g' a' b' hb ha hgg fC fD=>
  cases h;exact⟨fC a' ha hg.1,fD b' hb hg.2⟩
 case case20 id0 b id x ih=>
  obtain⟨b',hb,rfl⟩:=ak.1 h;exact ih b' hb hg
 case case21 keep b x ih=>
  obtain⟨b',hb,rfl⟩:=ak.1 h;exact ih b' hb hg
 case case22 b x ih=>
  obtain⟨b',hb,rfl⟩:=ak.1 h;exact ih b' hb hg
 case case25 ih=>
  obtain⟨b',hb,rfl⟩:=ak.1 h;exact ih b' hb hg
theorem UK{nl:Bool}{b:Code}{x:SC}(h:x.fQ P W G):(Iw nl b x).fQ P W G:=by
 unfold Iw;split
 .exact h
 .exact h
variable{fi:Nat}
theorem ae5{cf:Cf}(hg:∀f,Bp fi cf.rg=Z f->r6 P W G f (cf.fQ f)):∀c:Code,(ou cf fi c).fQ P W G:=by
 intro c
 induction c with
 |seq a b fC fD=>exact⟨fC,fD⟩
 |cond c a b fC fD=>exact⟨fC,fD⟩
 |block id b ih=>exact ih
 |loop b ih=>
  unfold ou;split
  .exact⟨trivial,ih⟩
  .exact UK ih
 |scope b ih=>exact ih
 |rangeFunc g ps a b fC fD=>
  unfold ou;split
  .rename_i f hf;exact⟨hg f hf,fC,UK fD⟩
  .trivial
 |region id ops draw=>
  unfold ou;split<;>trivial
 |_=>trivial
theorem ae6{cf:Cf}{f:Func}{fc:FC}(hf:P.funcs[fi]? =Z f)(h:Bq P cf fi f=Z fc)(hg:∀g,Bp fi cf.rg=Z g->r6 P W G g (cf.fQ g)):zj P W G fi fc:=by
 refine⟨aet hf h,?_,?_⟩
 .unfold Bq at h;split at h
  .cases h
  .split at h
   .split at h
    .split at h
     .rename_i b Ny;cases h;exact ae2 _ _ _ _ (ae3 _ _ _ Ny (ae5 hg _))
     .cases h
    .cases h
   .cases h
 .intro x hx;unfold Bq at h;split at h
  .cases h
  .split at h
   .split at h
    .split at h
     .cases h;cases hx
     .cases h
    .cases h
   .cases h

end Go.Vs

namespace Go.Vs
variable {P : Program} {t e : TypeId} {xs : List PD}
theorem UL{c:PD}(hn:∀fs,P.underlying e≠Z (.struct fs)):nk P e [c]=c:=by
 unfold nk;cases he:P.underlying e with
 |none=>rfl
 |some d=>cases d<;>first |exact absurd he (hn _) |rfl
theorem wU{fs:Array Field}(h:P.underlying e=Z (.struct fs)):nk P e xs= .agg xs:=by
 unfold nk;rw[h]

end Go.Vs

namespace Go.Vs
open Go.RowKit Go.ChangeShapes Go.WideShapes

variable {P : Program}

inductive ei (P:Program):TypeId->List PD->Prop where
 |bool (t:TypeId) (b:Bool) (ht:P.underlying t=Z .bool):ei P t [.bool b]
 |int (t:TypeId) (k:IntKind) (n:Int) (ht:P.underlying t=Z (.int k)) (hw:(Lit.int k n).wf=true):ei P t [.int k n]
 |str (t:TypeId) (s:List UInt8) (ht:P.underlying t=Z .string) (hs:O s<=reachBytes):ei P t [.str s]
 |aj (t e:TypeId) (ht:P.underlying t=Z (.slice e)):ei P t [.aj]
 |emp (t e:TypeId) (ht:P.underlying t=Z (.slice e)):ei P t [.emp (P.cellsOf e)]
 |sl (t e:TypeId) (es:List PD) (hne:es≠[]) (ht:P.underlying t=Z (.slice e)) (hl:O es*P.bytesOf e<=reachBytes) (h:∀x∈es,ei P e x.cells) (hs:∀x∈es,O x.cells=P.cellsOf e) (hm:∀x∈es,x=nk P e x.cells):ei P t [.slice (P.cellsOf e) es]
 |struct (t:TypeId) (fs:Array Field) (parts:List (List PD)) (ht:P.underlying t=Z (.struct fs)) (hl:O parts=fs.size) (h:∀(i:Nat) f p,fs[i]? =Z f->parts[i]? =Z p->ei P f.type p) (hs:∀(i:Nat) f p,fs[i]? =Z f->parts[i]? =Z p->O p=P.cellsOf f.type):ei P t parts.flatten
theorem UM{H:Type}{P:Program}{e:TypeId}:∀{l:List (DataW H)} {d:DataW H} {w:Nat},d∈l->w∈d.weights P e->w∈DataW.weightsAll P e l
 |x::r,d,w,hd,hw=>by
  simp only[DataW.weightsAll,cx];rcases cq.1 hd with rfl |hd
  .exact .inl hw
  .exact .inr (UM hd hw)
theorem NM{H:Type}{P:Program}:∀{ts:List TypeId} {l:List (DataW H)} {i:Nat} {t:TypeId} {d:DataW H} {w:Nat},ts[i]? =Z t->l[i]? =Z d->w∈d.weights P t->w∈DataW.weightsEach P ts l
 |t::ts,x::r,i,t',d,w,ht,hd,hw=>by
  simp only[DataW.weightsEach,cx];cases i with
  |zero=>cases ht;cases hd;exact .inl hw
  |succ i=>exact .inr (NM (i:=i) ht hd hw)
 |[],_,i,_,_,_,ht,_,_=>by simp at ht
 |_::_,[],i,_,_,_,_,hd,_=>by simp at hd
variable{H:Type}{t:TypeId}
def wV(P:Program)(t:TypeId)(d:DataW H):Prop:=∀w∈d.weights P t,w<=reachBytes

section
variable{enc : TypeId × Value -> H} {W : World}
theorem UN{n:Nat}{ts:List TypeId}(IH:∀t cs x,t∈ts->DataW.trod enc P W 0 (λ_=>true) true n t cs=Z x->wV P t x.1->∃xs,sg (gB W).mem cs xs/\ei P t xs)(cs:List Value):
    ∀(l:List Field) (off:Nat),wT P (O cs) off l=true->(∀f∈l,f.type∈ts)->(∀f∈l,∃y,DataW.trod enc P W 0 (λ_=>true) true n f.type ((cs.drop f.offset).take (P.cellsOf f.type))=Z y/\wV P f.type y.1)->
     off<=O cs->(∀f∈l,f.offset+P.cellsOf f.type<=O cs)->∃parts:List (List PD),O parts=O l/\sg (gB W).mem (cs.drop off) parts.flatten/\∀(i:Nat) f p,l[i]? =Z f->parts[i]? =Z p->ei P f.type p/\O p=P.cellsOf f.type
 |[],off,ht,_,_,rU,_=>by
  simp only[wT,beq_iff_eq] at ht;refine⟨[],rfl,?_,λi f p h=>by simp at h⟩;subst ht;simp only[C0,List.flatten_nil];exact⟨rfl,λx hx=>by simp at hx,λi c x h=>by simp at h⟩
 |f::l,off,ht,hm,hr,rU,hle=>by
  simp only[wT,bL,beq_iff_eq] at ht;obtain⟨h1,h2⟩:=ht;obtain⟨y,hy,hyz⟩:=hr f (by simp);obtain⟨xs,q1,q2⟩:=IH _ _ _ (hm f (by simp)) hy hyz;have dZ:=hle f (by simp);obtain⟨parts,p1,p2,p3⟩:=UN IH cs l (off+P.cellsOf f.type) h2 (λg hg=>hm g (by simp[hg])) (λg hg=>hr g (by simp[hg])) (by omega) (λg hg=>hle g (by simp[hg]));have hlen:O xs=P.cellsOf f.type:=by rw[q1.1];simp;omega
  refine⟨xs::parts,by simp[p1],?_,λi g p hg hp=>?_⟩
  .have:=q1.append p2;rw[h1] at this;have e:(cs.drop off).take (P.cellsOf f.type)++cs.drop (off+P.cellsOf f.type)=cs.drop off:=by
    rw[<-CS];exact Aw _ _
   rw[e] at this;simpa using this
  .match i with
   | 0=>simp at hg hp;subst hg;subst hp;exact⟨q2,hlen⟩
   |i+1=>exact p3 i g p (by simpa using hg) (by simpa using hp)
theorem NN{ts:List TypeId}(mY:ts.all (Ef P ts)=true):∀(n:Nat) t cs x,t∈ts->DataW.trod enc P W 0 (λ_=>true) true n t cs=Z x->wV P t x.1->∃xs,sg (gB W).mem cs xs/\ei P t xs
 | 0,t,cs,x,_,h,_=>by simp[DataW.trod] at h
 |n+1,t,cs,x,hm,h,hz=>by
  have bV:=gV.1 mY t hm;unfold Ef at bV;split at bV
  .rename_i ht;obtain⟨b,rfl,_⟩:=DataW.trod_bool ht h;exact⟨[.bool b],.single (.bool b) rfl,.bool t b ht⟩
  .rename_i k ht;obtain⟨m,rfl,_,hw⟩:=DataW.trod_int ht h;exact⟨[.int k m],.single (.int k m) rfl,.int t k m ht hw⟩
  .rename_i ht;obtain⟨s,rfl,rfl,hl⟩:=DataW.trod_string ht h;refine⟨[.str s.data.toList],.single ?_ rfl,.str t _ ht (hz _ (by simp[DataW.weights]))⟩;have :s=⟨s.data.toList.toArray⟩:=by simp
   rw[this];exact .str _
  .rename_i e ht;simp only[bL,decide_eq_true_eq] at bV;obtain⟨hc,s7⟩:=bV;have UO:e∈ts:=by simpa using hc
   rcases DataW.trod_slice ht h with⟨rfl,_⟩ |⟨a,len,cap,elems,rest,n',cE,rfl,rfl,_,hlc,hcm,iZ,j9,_⟩
   .exact⟨[.aj],.single .aj rfl,.aj t e ht⟩
   .have NP:n'=n:=by omega
    subst NP;have each:∀i,i<len->∃ci xi,W.cells? 0 (a.add (i*P.cellsOf e)) (P.cellsOf e)=Z ci/\sg (gB W).mem ci xi/\ei P e xi:=λi hi=>by
     have:=j9 i hi;rw[aD (by omega)] at this;obtain⟨ci,h1,h2⟩:=Option.bind_eq_some_iff.1 this;have hsz:wV P e (elems[i]'(by omega)).1:=λw hw=>hz w (by
      simp only[DataW.weights,ht,cq,cx];exact .inr (.inl (UM (Q3 (dw (by omega))) hw)))
     obtain⟨xi,h3,h4⟩:=NN mY n' e ci _ UO h2 hsz;exact⟨ci,xi,h1,h3,h4⟩
    let C:Nat->List Value:=λi=>if hi:i<len then(each i hi).choose else[]
    let X:Nat->List PD:=λi=>if hi:i<len then(each i hi).choose_spec.choose else[]
    have zk:∀i,i<len->W.cells? 0 (a.add (i*P.cellsOf e)) (P.cellsOf e)=Z (C i)/\sg (gB W).mem (C i) (X i)/\ei P e (X i):=λi hi=>by
     simp only[C,X,hi,dif_pos];exact(each i hi).choose_spec.choose_spec
    have hlen:∀i,i<len->O (X i)=P.cellsOf e/\O (C i)=P.cellsOf e:=λi hi=>by
     obtain⟨h1,h2,_⟩:=zk i hi;have:=(World.cells?_some h1).2.1;exact⟨h2.1.trans this,this⟩
    have qQ:∀i,i<len->(nk P e (X i)).cells=X i:=λi hi=>ae1 (zk i hi).2.1.2.1;by_cases h0:len=0
    .subst h0;exact⟨[.emp (P.cellsOf e)],.single (.emp a cap _) rfl,.emp t e ht⟩
    have dY:ei P t [.slice (P.cellsOf e) ((j3 len).map λi=>nk P e (X i))]:=by
     have hsz:=hz (((O (elems.map (·.1)))+O (rest.map (·.1)))*P.bytesOf e) (by simp only[DataW.weights,ht];exact rD);have hle:len*P.bytesOf e<=((O (elems.map (·.1)))+O (rest.map (·.1)))*P.bytesOf e:=ju _ (by rw[bT];omega);refine .sl t e _ (by simp[h0]) ht (by rw[bT,List.length_range];omega) (λx hx=>?_) (λx hx=>?_) (λx hx=>?_)
     .obtain⟨i,hi,rfl⟩:=cA.1 hx;have hi:i<len:=by simpa using hi
      rw[qQ i hi];exact(zk i hi).2.2
     .obtain⟨i,hi,rfl⟩:=cA.1 hx;have hi:i<len:=by simpa using hi
      rw[qQ i hi];exact(hlen i hi).1
     .obtain⟨i,hi,rfl⟩:=cA.1 hx;have hi:i<len:=by simpa using hi
      rw[qQ i hi]
    refine⟨_,.single ?_ rfl,dY⟩
    .have hf:=(World.cells?_some (zk 0 (by omega)).1).2.2 0 s7;have UQ:(C 0)[0]?≠Y:=by
      have:=(hlen 0 (by omega)).2;rw[aD (by omega)];simp
     obtain⟨b,o,sp⟩:=a;have hsp:sp=Y:=by
      cases sp with
      |none=>rfl
      |some q=>
       exfalso;rw[<-hf] at UQ;apply UQ;unfold World.cell? Addr.add;split
       .simp
       .rfl
     subst hsp;have hl:O ((j3 len).map λi=>nk P e (X i))=len:=by simp
     have:=aQ.sl (m:=(gB W).mem) b o cap (P.cellsOf e) ((j3 len).map λi=>nk P e (X i)) (λi j=>(C i).getD j undef) (by rw[hl];exact hlc) (λx hx=>by
      obtain⟨i,hi,rfl⟩:=cA.1 hx;have hi:i<len:=by simpa using hi
      rw[qQ i hi];exact(hlen i hi).1) (λx hx c UR=>by
      obtain⟨i,hi,rfl⟩:=cA.1 hx;have hi:i<len:=by simpa using hi
      rw[qQ i hi] at UR;exact(zk i hi).2.1.2.1 c UR) (λi j hi hj=>by
      rw[hl] at hi;have q:=(World.cells?_some (zk i hi).1).2.2 j hj;simp only[Addr.add_lit] at q;show W.cell? ⟨b,o+i*P.cellsOf e+j,Y⟩=_;rw[q];have:=(hlen i hi).2;simp[im,aD (show j<O (C i) by omega)]) (λi x j c hi hj=>by
      have cW:i<len:=by have:=(af.1 hi).1;simpa using this
      have hx:x=nk P e (X i):=by
       rw[cG,List.getElem?_range cW] at hi;simpa using hi.symm
      subst hx;rw[qQ i cW] at hj;have jz:=(af.1 hj).1;have h1:=(hlen i cW).1;have h2:=(hlen i cW).2;have r5:(C i)[j]? =Z ((C i).getD j undef):=by simp[im,aD (show j<O (C i) by omega)]
      exact(zk i cW).2.1.2.2 j _ c r5 hj)
     rw[hl] at this;exact this
  .rename_i fs ht;simp only[bL] at bV;obtain⟨lu,hall⟩:=bV;obtain⟨xs,n',cE,rfl,hl,hlx,j9⟩:=DataW.trod_struct ht h;have NP:n'=n:=by omega
   subst NP;rw[<-hl] at lu;have eV:∀f∈fs.toList,f.type∈ts:=λf hf=>by
    have:=gV.1 hall f hf;simpa using this
   obtain⟨t1,t2⟩:=UI lu;obtain⟨parts,p1,p2,p3⟩:=UN (W:=W) (enc:=enc) (n:=n') (ts:=ts) (λt cs x hm h hz=>NN mY n' t cs x hm h hz) cs fs.toList 0 lu eV (λf hf=>by
    obtain⟨i,hi⟩:=dV hf;have hi':fs[i]? =Z f:=by simpa using hi
    rw[j9 i f hi'];have cW:i<fs.size:=(fG.1 hi').1;refine⟨_,aD (by omega),λw hw=>hz w ?_⟩;simp only[DataW.weights,ht];exact NM (i:=i) (by rw[cG,hi];rfl) (by rw[cG,aD (by omega)];rfl) hw) t1 t2
   refine⟨parts.flatten,by simpa using p2,.struct t fs parts ht (by simpa using p1) (λi f p hf hp=>(p3 i f p (by simpa using hf) hp).1) (λi f p hf hp=>(p3 i f p (by simpa using hf) hp).2)⟩
  .cases bV
theorem Eg{ts:List TypeId}(mY:ts.all (Ef P ts)=true)(hm:t∈ts){r:Reach}{b0:Nat}{v:Value}{d:DataW H}{ps:List MemPlace}(hval:Value.okWide P W r b0 t v)(hd:DataW.Trod enc P W 0 (λ_=>true) true t v d ps)(hz:wV P t d):
    ∃x:PD,aB (gB W) v (.p x)/\ei P t x.cells/\((∃fs,P.underlying t=Z (.struct fs))->x= .agg x.cells)/\((∀fs,P.underlying t≠Z (.struct fs))->x.one=true):=by
 obtain⟨fuel,hf⟩:=hd;obtain⟨xs,q,dY⟩:=NN mY fuel t _ _ hm hf hz;have bV:=gV.1 mY t hm;have one:(∀fs,P.underlying t≠Z (.struct fs))->v.cells= #[v]->∃x:PD,aB (gB W) v (.p x)/\ei P t x.cells/\((∃fs,P.underlying t=Z (.struct fs))->x= .agg x.cells)/\((∀fs,P.underlying t≠Z (.struct fs))->x.one=true):=by
  intro hns hv;rw[hv] at q;obtain⟨q1,q2,q3⟩:=q
  match xs,q1 with
  |[x],_=>
   have h1:=q2 x (by simp);have hc:x.cells=[x]:=by cases x<;>first |rfl |cases h1
   exact⟨x,.p _ _ (q3 0 v x rfl rfl),by rw[hc];exact dY,λ⟨fs,h⟩=>absurd h (hns fs),λ_=>h1⟩
 unfold Ef at bV;split at bV
 .rename_i ht;obtain⟨b,rfl⟩:=okWide_bool ht hval;exact one (λfs h=>by rw[ht] at h;cases h) rfl
 .rename_i k ht;obtain⟨m,rfl⟩:=okWide_int ht hval;exact one (λfs h=>by rw[ht] at h;cases h) rfl
 .rename_i ht;obtain⟨s,rfl⟩:=okWide_string ht hval;exact one (λfs h=>by rw[ht] at h;cases h) rfl
 .rename_i e ht;obtain⟨a,l,c,rfl⟩:=okWide_slice ht hval;exact one (λfs h=>by rw[ht] at h;cases h) rfl
 .rename_i fs ht;obtain⟨cs,rfl,_⟩:=okWide_struct ht hval;obtain⟨q1,q2,q3⟩:=q;refine⟨.agg xs,.p _ _ (.agg cs xs (by simpa[Value.cells] using q1.symm) q2 λi x hx=>?_),dY,λ_=>rfl,λh=>absurd ht (h fs)⟩;have hi:i<cs.size:=by
   have:=(af.1 hx).1;rw[q1] at this;simpa[Value.cells] using this
  refine q3 i _ x ?_ hx;simp[Value.cells,bP,hi]
 .cases bV
end

section
variable{e:TypeId} {xs : List PD}
theorem ae9(ht:P.underlying t=Z (.slice e))(h:ei P t xs):xs=[.aj]\/xs=[.emp (P.cellsOf e)]\/
    ∃es,es≠[]/\O es*P.bytesOf e<=reachBytes/\xs=[.slice (P.cellsOf e) es]/\(∀x∈es,ei P e x.cells)/\∀x∈es,x=nk P e x.cells:=by
 cases h with
 |bool _ b hb=>rw[ht] at hb;cases hb
 |int _ k n hb=>rw[ht] at hb;cases hb
 |str _ s hb=>rw[ht] at hb;cases hb
 |aj _ e' hb=>exact .inl rfl
 |emp _ e' hb=>rw[ht] at hb;cases hb;exact .inr (.inl rfl)
 |sl _ e' es hne hb hl h hs hm=>rw[ht] at hb;cases hb;exact .inr (.inr ⟨es,hne,hl,rfl,h,hm⟩)
 |struct _ fs parts hb=>rw[ht] at hb;cases hb
theorem tC{k:IntKind}(ht:P.underlying t=Z (.int k))(h:ei P t xs):∃n,xs=[.int k n]/\(Lit.int k n).wf=true:=by
 cases h with
 |bool _ b hb=>rw[ht] at hb;cases hb
 |int _ k n hb hw=>rw[ht] at hb;cases hb;exact⟨n,rfl,hw⟩
 |str _ s hb=>rw[ht] at hb;cases hb
 |aj _ e' hb=>rw[ht] at hb;cases hb
 |emp _ e' hb=>rw[ht] at hb;cases hb
 |sl _ e' es hne hb hl h hs hm=>rw[ht] at hb;cases hb
 |struct _ fs parts hb=>rw[ht] at hb;cases hb
theorem NQ(ht:P.underlying t=Z .bool)(h:ei P t xs):∃b,xs=[.bool b]:=by
 cases h with
 |bool _ b hb=>exact⟨b,rfl⟩
 |int _ k n hb hw=>rw[ht] at hb;cases hb
 |str _ s hb=>rw[ht] at hb;cases hb
 |aj _ e' hb=>rw[ht] at hb;cases hb
 |emp _ e' hb=>rw[ht] at hb;cases hb
 |sl _ e' es hne hb hl h hs hm=>rw[ht] at hb;cases hb
 |struct _ fs parts hb=>rw[ht] at hb;cases hb
theorem Bx(ht:P.underlying t=Z .string)(h:ei P t xs):∃s,xs=[.str s]/\O s<=reachBytes:=by
 cases h with
 |bool _ b hb=>rw[ht] at hb;cases hb
 |int _ k n hb hw=>rw[ht] at hb;cases hb
 |str _ s hb hs=>exact⟨s,rfl,hs⟩
 |aj _ e' hb=>rw[ht] at hb;cases hb
 |emp _ e' hb=>rw[ht] at hb;cases hb
 |sl _ e' es hne hb hl h hs hm=>rw[ht] at hb;cases hb
 |struct _ fs parts hb=>rw[ht] at hb;cases hb
theorem qR{fs:Array Field}(ht:P.underlying t=Z (.struct fs))(h:ei P t xs):∃parts:List (List PD),xs=parts.flatten/\O parts=fs.size/\
    ∀(i:Nat) f p,fs[i]? =Z f->parts[i]? =Z p->ei P f.type p:=by
 cases h with
 |bool _ b hb=>rw[ht] at hb;cases hb
 |int _ k n hb hw=>rw[ht] at hb;cases hb
 |str _ s hb hs=>rw[ht] at hb;cases hb
 |aj _ e' hb=>rw[ht] at hb;cases hb
 |emp _ e' hb=>rw[ht] at hb;cases hb
 |sl _ e' es hne hb hl h hs hm=>rw[ht] at hb;cases hb
 |struct _ fs' parts hb hl h hs=>rw[ht] at hb;cases hb;exact⟨parts,rfl,hl,h⟩

end
theorem UT{H:Type}{enc:TypeId×Value->H}{W:World}:∀{ts:List TypeId} {vs:List Value} {ds:List (DataW H)} {ps:List MemPlace},DataW.TrodAll enc P W 0 (λ_=>true) true ts vs ds ps->
    ∀(j:Nat) t v,ts[j]? =Z t->vs[j]? =Z v->∃d p,DataW.Trod enc P W 0 (λ_=>true) true t v d p/\ds[j]? =Z d
 |[],[],[],_,_,j,t,v,ht,_=>by simp at ht
 |t::ts,v::vs,d::ds,ps,h,j,t',v',ht,hv=>by
  obtain⟨p,q,h1,h2,_⟩:=h;cases j with
  |zero=>cases ht;cases hv;exact⟨d,p,h1,rfl⟩
  |succ j=>exact UT h2 j t' v' ht hv
 |[],[],_::_,_,h,_,_,_,_,_=>h.elim
 |[],_::_,_,_,h,_,_,_,_,_=>by cases h
 |_::_,[],_,_,h,_,_,_,_,_=>by cases h
 |_::_,_::_,[],_,h,_,_,_,_,_=>by cases h
end Go.Vs

namespace Go
variable {H : Type} {enc : TypeId × Value -> H}
theorem UU{P:Program}:∀{ts us:List TypeId} {ds gs:List (DataW H)},O ts=O ds->∀w∈DataW.weightsEach P ts ds,w∈DataW.weightsEach P (ts++us) (ds++gs)
 |[],_,[],_,_,w,h=>by simp[DataW.weightsEach] at h
 |t::ts,us,d::ds,gs,hl,w,h=>by
  simp only[DataW.weightsEach,cx,jo] at h|-;exact h.imp id (UU (by simpa using hl) w)
 |[],_,_::_,_,h,_,_=>by simp at h
 |_::_,_,[],_,h,_,_=>by simp at h
theorem UW{P:Program}{W:World}:∀{ts:List TypeId} {vs:List Value} {ds:List (DataW H)} {ps:List MemPlace},DataW.TrodAll enc P W 0 (λ_=>true) true ts vs ds ps->O ts=O ds
 |[],[],[],_,_=>rfl
 |t::ts,v::vs,d::ds,ps,h=>by
  obtain⟨p,q,_,h2,_⟩:=h;simp[UW h2]
 |[],[],_::_,_,h=>h.elim
 |[],_::_,_,_,h=>by cases h
 |_::_,[],_,_,h=>by cases h
 |_::_,_::_,[],_,h=>by cases h
theorem afa{a:Assume}{C:Checked}{os:Os}{f:FuncId}{fn:Func}{s:ChangeSpec}{conds:List PathCond}{apart fresh handsOn again:Bool}{X:World->Array Value->Prop}
    (hX:∀(w w':World) (args:Array Value),w.heap=w'.heap->X w args->X w' args)
    (own:ownKnob C.prog.godebug=Y) (started:os.Started) (afb:C.prog.inits.idxOf? f=Y) (hfn:C.prog.funcs[f]? =Z fn)
    (witness:∃(w:World) (tape:Tape) (i:Input),w.os=os/\(w.forCall tape i).Shaped C.prog/\i.vars=[]/\Input.okWide C.prog (w.forCall tape i) .any w.heap.size f i/\
     ((s.pre enc C.prog fn conds apart (w.forCall tape i).memory i.args/\X (w.forCall tape i).memory i.args)/\sizedMet enc C.prog fn (OpenSpec.ofChange s) apart (w.forCall tape i).memory i.args)/\a.holds C.prog (lone (Frame.enter C.prog f i.args .normal) [] (w.forCall tape i)))
    (contract:∀(W:World) (base:Nat) (args:Array Value) (ds gs:List (DataW H)) (before:List MemPlace),
     (∀(j:Nat) t v,fn.params[j]? =Z t->args[j]? =Z v->Value.okWide C.prog W .any base t v)->
     DataW.Whole enc C.prog fn.params.toList s.vars apart W args.toList ds gs before->(∀(j:Nat) t v,fn.params[j]? =Z t->args[j]? =Z v->∃d p,DataW.Trod enc C.prog W 0 (λ_=>true) true t v d p/\Vs.wV C.prog t d)->X W args->W.ShapedOpen C.prog->
     Calls C.prog f args W λe W'=>∃v,e= .returned v/\s.post enc C.prog fn apart fresh handsOn again W args v W'):
    ReturnsInHanded a C os f .any (λw args=>(s.pre enc C.prog fn conds apart w args/\X w args)/\sizedMet enc C.prog fn (OpenSpec.ofChange s) apart w args) (s.post enc C.prog fn apart fresh handsOn again):=by
 refine returnsInHanded_of_calls own started afb witness ?_;intro w tape i _ oX _ bV Ec _;obtain⟨_,_,_,UX,afc,_,_,_,_,hval⟩:=bV;have e:UX=fn:=nQ (afc.symm.trans hfn);subst e;obtain⟨⟨⟨ds,gs,before,hw,_⟩,hx⟩,hsz⟩:=Ec;obtain⟨_,eL,gs',before',hw2,hall⟩:=hsz;have hw3:=DataW.Whole.of_heap (w':=w.forCall tape i) (by rfl) hw2;have afd:∀(j:Nat) t v,UX.params[j]? =Z t->i.args[j]? =Z v->∃d p,DataW.Trod enc C.prog (w.forCall tape i) 0 (λ_=>true) true t v d p/\Vs.wV C.prog t d:=by
  obtain⟨p,q,hA,_⟩:=hw3;intro j t v ht hv;obtain⟨d,p',h1,h2⟩:=Vs.UT hA j t v (by simpa using ht) (by simpa using hv);refine⟨d,p',h1,λw' hw'=>?_⟩;have h3:=UU (us:=(OpenSpec.ofChange s).bare.plain.varTypes C.prog) (gs:=gs') (UW hA) w' (Vs.NM (i:=j) (by simpa using ht) h2 hw');exact of_decide_eq_true (gV.1 hall w' h3)
 have hw':=DataW.Whole.of_heap (w':=w.forCall tape i) (by rfl) hw;refine(contract (w.forCall tape i) w.heap.size i.args ds gs before hval hw' afd (hX _ _ _ (by rfl) hx) oX).mono λe W' ⟨v,he,hp⟩=>?_;subst he;exact ChangeSpec.post_blind hp
end Go

namespace Go.Vs
def br.UY(c c':br):Prop:=∀f a H r,au c f a H=Z r->au c' f a H=Z r

variable{c':br}
section
variable{c:br} (h : br.UY c c')
include h

end

section
variable{c:br} (h : br.UY c c') {i i' : It} (hi : It.le i i') {G : Nat -> Option (List PD)} {T : Nat -> Option (Nat × FC)}
include h hi

end
theorem tD{p:Pg}{f:Nat}{fc:FC}{a:List D}{H:Hp}{r:bR×Hp}(hl:p.lib f a H=Y)(hf:p.F f=Z fc)(hn:O a=fc.np)
    (e:mE fc.av (O H.bx) (iE (call p) p.D p.G aM fc ⟨entry 0 a,H⟩)=Z r):call p f a H=Z r:=by
 cases hx:iE (call p) p.D p.G aM fc ⟨entry 0 a,H⟩ with
 |none=>rw[hx] at e;unfold mE at e;split at e<;>cases e
 |some x=>
  obtain⟨n,cE⟩:=aaw hx;refine yo.2 ⟨n+1,?_⟩;unfold eT
  try dsimp only
  rw[hl,hf]
  try dsimp only
  rw[if_pos hn,cE,<-hx];exact e

end Go.Vs

namespace Go.Vs
theorem vk:∀(r l:List Nat) (x:Nat),x∈ins l r↔x∈l\/x∈r
 |[],l,x=>by simp[ins]
 |a::r,l,x=>by
  simp only[ins];split
  .rename_i h;rw[vk r l x];have :a∈l:=by simpa using h
   constructor
   .rintro (h |h)
    .exact .inl h
    .exact .inr (kA _ h)
   .rintro (h |h)
    .exact .inl h
    .rcases cq.1 h with rfl |h
     .exact .inl this
     .exact .inr h
  .rw[vk r _ x];simp[or_assoc]
theorem II:∀(r l:List Nat),l.Nodup->(ins l r).Nodup
 |[],l,h=>h
 |a::r,l,h=>by
  simp only[ins];split
  .exact II r l h
  .rename_i ha;refine II r _ ?_;have :a∉l:=by simpa using ha
   rw[Q7];refine⟨h,by simp,?_⟩;intro x hx y hy;have :y=a:=by simpa using hy
   subst this;rintro rfl;contradiction
theorem NR:∀(r l:List Nat),O l<=O (ins l r)
 |[],_=>aK _
 |a::r,l=>by
  simp only[ins];split
  .exact NR r l
  .have:=NR r (l++[a]);simp at this;omega
theorem UZ:∀(r l:List Nat),(∀x∈r,x∈l)->ins l r=l
 |[],l,_=>rfl
 |a::r,l,h=>by
  simp only[ins];rw[if_pos (by simpa using h a (by simp))];exact UZ r l λx hx=>h x (kA _ hx)
theorem U0:∀(r l:List Nat),(∃x∈r,x∉l)->O l<O (ins l r)
 |[],l,h=>by obtain⟨x,h,_⟩:=h;cases h
 |a::r,l,⟨x,hx,hn⟩=>by
  simp only[ins];split
  .rename_i ha;have ha:a∈l:=by simpa using ha
   refine U0 r l ⟨x,?_,hn⟩;rcases cq.1 hx with rfl |h
   .contradiction
   .exact h
  .have:=NR r (l++[a]);simp at this;omega
theorem Eh{H:Hp}:∀{l:List Nat} {x:Nat},x∈eQ H l↔∃i∈l,∃cs,H.bx[i]? =Z cs/\x∈D.ai cs
 |[],x=>by simp[eQ]
 |a::r,x=>by
  simp only[eQ,cx,Eh (l:=r),cq];constructor
  .rintro (h |⟨i,h1,h2⟩)
   .split at h
    .rename_i cs hc;exact⟨a,.inl rfl,cs,hc,h⟩
    .cases h
   .exact⟨i,.inr h1,h2⟩
  .rintro⟨i,rfl |h1,cs,h2,h3⟩
   .left;rw[h2];exact h3
   .exact .inr ⟨i,h1,cs,h2,h3⟩
def nu(H:Hp)(l:List Nat):Prop:=∀i∈l,∀cs:List D,H.bx[i]? =Z cs->∀x∈D.ai cs,x∈l
theorem Ei{H:Hp}{l:List Nat}(h:nu H l):∀n,reach H n l=l
 | 0=>rfl
 |n+1=>by
  simp only[reach];split
  .rfl
  .have :ins l (eQ H l)=l:=UZ _ _ λx hx=>by
    obtain⟨i,h1,cs,h2,h3⟩:=Eh.1 hx;exact h i h1 cs h2 x h3
   rw[this];exact Ei h n
def Hp.Ok(H:Hp):Prop:=∀(i:Nat) (cs:List D),H.bx[i]? =Z cs->∀x∈D.ai cs,x<O H.bx
theorem IJ:∀(N:Nat) (l:List Nat),l.Nodup->(∀x∈l,x<N)->O l<=N
 | 0,l,_,h=>by
  cases l with
  |nil=>simp
  |cons a r=>exact absurd (h a (by simp)) (by omega)
 |N+1,l,hn,h=>by
  have h1:=IJ N (l.erase N) (hn.erase N) λx hx=>by
   have:=(hn.mem_erase_iff).1 hx;have:=h x this.2;omega
  rw[List.length_erase] at h1;split at h1<;>omega
variable{H H':Hp}{pre bf:List D}{ids:List Nat}{N i f m:Nat}{α:Type}{R:List (Int×List α)}{S:List (List (Int×List α))}{l:List α}
theorem afe{l:List Nat}(hn:l.Nodup)(hl:∀x∈l,x<N)(h:N<=O l):∀x,x<N->x∈l:=by
 intro x hx;by_cases hm:x∈l
 .exact hm
 .exfalso;have h1:(x::l).Nodup:=tW.2 ⟨hm,hn⟩;have h2:∀y∈x::l,y<N:=λy hy=>by
   rcases cq.1 hy with rfl |hy
   .exact hx
   .exact hl y hy
  have h3:=IJ N _ h1 h2;simp at h3;omega
theorem U1{H:Hp}(hH:H.Ok):∀(n:Nat) (l:List Nat),l.Nodup->(∀x∈l,x<O H.bx)->O H.bx<=n+O l->
    (reach H n l).Nodup/\(∀x∈reach H n l,x<O H.bx)/\(∀x∈l,x∈reach H n l)/\nu H (reach H n l)
 | 0,l,h1,h2,h3=>⟨h1,h2,λ_ h=>h,λi _ cs hc x hx=>afe h1 h2 (by omega) x (hH i cs hc x hx)⟩
 |n+1,l,h1,h2,h3=>by
  by_cases hs:nu H l
  .rw[Ei hs];exact⟨h1,h2,λ_ h=>h,hs⟩
  .have hex:∃x∈eQ H l,x∉l:=by
    refine pL λhno=>hs λi hi cs hc x hx=>?_;refine pL λnv=>hno ⟨x,Eh.2 ⟨i,hi,cs,hc,hx⟩,nv⟩
   have hg:=U0 _ _ hex;have hv:∀x∈ins l (eQ H l),x<O H.bx:=λx hx=>by
    rcases(vk _ _ _).1 hx with h |h
    .exact h2 x h
    .obtain⟨i,_,cs,h4,h5⟩:=Eh.1 h;exact hH i cs h4 x h5
   have ih:=U1 hH n (ins l (eQ H l)) (II _ _ h1) hv (by omega);have he:reach H (n+1) l=reach H n (ins l (eQ H l)):=by
    simp only[reach];split
    .rename_i hb;rw[hb] at hex;obtain⟨x,hx,_⟩:=hex;cases hx
    .rfl
   rw[he];exact⟨ih.1,ih.2.1,λx hx=>ih.2.2.1 x ((vk _ _ _).2 (.inl hx)),ih.2.2.2⟩
theorem U2{H:Hp}{P:Nat->Prop}(hP:∀(i:Nat) (cs:List D),P i->H.bx[i]? =Z cs->∀x∈D.ai cs,P x):∀(n:Nat) (l:List Nat),(∀x∈l,P x)->∀x∈reach H n l,P x
 | 0,_,h=>h
 |n+1,l,h=>by
  simp only[reach];split
  .exact h
  .refine U2 hP n _ λx hx=>?_;rcases(vk _ _ _).1 hx with h1 |h1
   .exact h x h1
   .obtain⟨i,h2,cs,h3,h4⟩:=Eh.1 h1;exact hP i cs (h i h2) h3 x h4

mutual
def D.mv(g:Nat->Nat):D->D
 | .box i o=>.box (g i) o
 | .agg cs=>.agg (D.aU g cs)
 | .ba cs=>.ba (D.aU g cs)
 | .fn f a c=>.fn f (D.aU g a) (D.aU g c)
 | .bH i off n c sz=>.bH (g i) off n c sz
 | .eC t d=>.eC t (d.mv g)
 | .dD i=>.dD (g i)
 | .cD kd ks vs=>.cD kd ks (D.aU g vs)
 | .ae i e n sz=>.ae (g i) e n sz
 |d=>d
def D.aU(g:Nat->Nat):List D->List D
 |[]=>[]
 |d::r=>d.mv g::D.aU g r
end

mutual
theorem IK{bi ti:Nat->Option Nat}{g:Nat->Nat}:∀(d:D),(∀r∈d.refs,bi r=Z (g r))->d.bk=[]->d.ren bi ti=Z (d.mv g)
 | .box i o,h,_=>by simp[D.ren,D.mv,h i (by simp[D.refs])]
 | .agg cs,h,t=>by simp[D.ren,D.mv,vn cs h t]
 | .ba cs,h,t=>by simp[D.ren,D.mv,vn cs h t]
 | .fn f a c,h,t=>by
  simp only[D.bk,tX] at t;simp only[D.refs,cx] at h;simp[D.ren,D.mv,vn a (λr hr=>h r (.inl hr)) t.1,vn c (λr hr=>h r (.inr hr)) t.2]
 | .bH i off n c sz,h,_=>by simp[D.ren,D.mv,h i (by simp[D.refs])]
 | .eC k d,h,t=>by simp[D.ren,D.mv,IK d h t]
 | .dD i,h,_=>by simp[D.ren,D.mv,h i (by simp[D.refs])]
 | .cD kd ks vs,h,t=>by simp[D.ren,D.mv,vn vs h t]
 | .ae i e n sz,h,_=>by simp[D.ren,D.mv,h i (by simp[D.refs])]
 | .aX _ _ _ _,_,t=>by simp[D.bk] at t
 | .dead,_,_=>rfl
 | .undef,_,_=>rfl
 | .p _,_,_=>rfl
 | .cC _ _ _,_,_=>rfl
 | .eB _ _,_,_=>rfl
 | .ro _ _,_,_=>rfl
 | .fL _,_,_=>rfl
 | .fB _ _,_,_=>rfl
theorem vn{bi ti:Nat->Option Nat}{g:Nat->Nat}:∀(ds:List D),(∀r∈D.ai ds,bi r=Z (g r))->D.aC ds=[]->D.aZ bi ti ds=Z (D.aU g ds)
 |[],_,_=>rfl
 |d::ds,h,t=>by
  simp only[D.aC,tX] at t;simp only[D.ai,cx] at h;simp[D.aZ,D.aU,IK d (λr hr=>h r (.inl hr)) t.1,vn ds (λr hr=>h r (.inr hr)) t.2]
end
theorem pn(g:Nat->Nat):∀(ds:List D),D.aU g ds=ds.map (D.mv g)
 |[]=>rfl
 |d::ds=>by simp[D.aU,pn g ds]

mutual
theorem NS{bi ti:Nat->Option Nat}{g:Nat->Nat}(hg:∀r j,bi r=Z j->j=g r):∀(d d':D),d.bk=[]->d.ren bi ti=Z d'->d'=d.mv g
 | .box i o,d',_,h=>by
  simp only[D.ren] at h;obtain⟨j,hj,rfl⟩:=ak.1 h;simp[D.mv,hg _ _ hj]
 | .agg cs,d',t,h=>by
  simp only[D.ren] at h;obtain⟨j,hj,rfl⟩:=ak.1 h;simp[D.mv,zq hg cs j t hj]
 | .ba cs,d',t,h=>by
  simp only[D.ren] at h;obtain⟨j,hj,rfl⟩:=ak.1 h;simp[D.mv,zq hg cs j t hj]
 | .fn f a c,d',t,h=>by
  simp only[D.bk,tX] at t;simp only[D.ren] at h;split at h
  .rename_i a' c' h1 h2;cases h;simp[D.mv,zq hg a a' t.1 h1,zq hg c c' t.2 h2]
  .cases h
 | .bH i off n c sz,d',_,h=>by
  simp only[D.ren] at h;obtain⟨j,hj,rfl⟩:=ak.1 h;simp[D.mv,hg _ _ hj]
 | .eC k d,d',t,h=>by
  simp only[D.ren] at h;obtain⟨j,hj,rfl⟩:=ak.1 h;simp[D.mv,NS hg d j t hj]
 | .dD i,d',_,h=>by
  simp only[D.ren] at h;obtain⟨j,hj,rfl⟩:=ak.1 h;simp[D.mv,hg _ _ hj]
 | .cD kd ks vs,d',t,h=>by
  simp only[D.ren] at h;obtain⟨j,hj,rfl⟩:=ak.1 h;simp[D.mv,zq hg vs j t hj]
 | .ae i e n sz,d',_,h=>by
  simp only[D.ren] at h;obtain⟨j,hj,rfl⟩:=ak.1 h;simp[D.mv,hg _ _ hj]
 | .aX _ _ _ _,_,t,_=>by simp[D.bk] at t
 | .dead,_,_,h=>by cases h;rfl
 | .undef,_,_,h=>by cases h;rfl
 | .p _,_,_,h=>by cases h;rfl
 | .cC _ _ _,_,_,h=>by cases h;rfl
 | .eB _ _,_,_,h=>by cases h;rfl
 | .ro _ _,_,_,h=>by cases h;rfl
 | .fL _,_,_,h=>by cases h;rfl
 | .fB _ _,_,_,h=>by cases h;rfl
theorem zq{bi ti:Nat->Option Nat}{g:Nat->Nat}(hg:∀r j,bi r=Z j->j=g r):∀(ds eL:List D),D.aC ds=[]->D.aZ bi ti ds=Z eL->eL=D.aU g ds
 |[],eL,_,h=>by cases h;rfl
 |d::ds,eL,t,h=>by
  simp only[D.aC,tX] at t;simp only[D.aZ] at h;split at h
  .rename_i x hx;obtain⟨j,hj,rfl⟩:=ak.1 h;simp[D.aU,NS hg d x t.1 hx,zq hg ds j t.2 hj]
  .cases h
end

mutual
theorem NT{bi ti:Nat->Option Nat}:∀(d d':D),d.ren bi ti=Z d'->∀r∈d.refs,∃j,bi r=Z j
 | .box i o,d',h,r,hr=>by
  simp only[D.ren] at h;obtain⟨j,hj,rfl⟩:=ak.1 h;simp only[D.refs,nT] at hr;exact⟨j,hr▸hj⟩
 | .agg cs,d',h,r,hr=>by
  simp only[D.ren] at h;obtain⟨j,hj,rfl⟩:=ak.1 h;exact zt cs j hj r hr
 | .ba cs,d',h,r,hr=>by
  simp only[D.ren] at h;obtain⟨j,hj,rfl⟩:=ak.1 h;exact zt cs j hj r hr
 | .fn f a c,d',h,r,hr=>by
  simp only[D.ren] at h;simp only[D.refs,cx] at hr;split at h
  .rename_i a' c' h1 h2;rcases hr with hr |hr
   .exact zt a a' h1 r hr
   .exact zt c c' h2 r hr
  .cases h
 | .bH i off n c sz,d',h,r,hr=>by
  simp only[D.ren] at h;obtain⟨j,hj,rfl⟩:=ak.1 h;simp only[D.refs,nT] at hr;exact⟨j,hr▸hj⟩
 | .eC k d,d',h,r,hr=>by
  simp only[D.ren] at h;obtain⟨j,hj,rfl⟩:=ak.1 h;exact NT d j hj r hr
 | .dD i,d',h,r,hr=>by
  simp only[D.ren] at h;obtain⟨j,hj,rfl⟩:=ak.1 h;simp only[D.refs,nT] at hr;exact⟨j,hr▸hj⟩
 | .cD kd ks vs,d',h,r,hr=>by
  simp only[D.ren] at h;obtain⟨j,hj,rfl⟩:=ak.1 h;exact zt vs j hj r hr
 | .ae i e n sz,d',h,r,hr=>by
  simp only[D.ren] at h;obtain⟨j,hj,rfl⟩:=ak.1 h;simp only[D.refs,nT] at hr;exact⟨j,hr▸hj⟩
 | .aX _ _ _ _,_,_,_,hr=>by simp[D.refs] at hr
 | .dead,_,_,_,hr=>by simp[D.refs] at hr
 | .undef,_,_,_,hr=>by simp[D.refs] at hr
 | .p _,_,_,_,hr=>by simp[D.refs] at hr
 | .cC _ _ _,_,_,_,hr=>by simp[D.refs] at hr
 | .eB _ _,_,_,_,hr=>by simp[D.refs] at hr
 | .ro _ _,_,_,_,hr=>by simp[D.refs] at hr
 | .fL _,_,_,_,hr=>by simp[D.refs] at hr
 | .fB _ _,_,_,_,hr=>by simp[D.refs] at hr
theorem zt{bi ti:Nat->Option Nat}:∀(ds eL:List D),D.aZ bi ti ds=Z eL->∀r∈D.ai ds,∃j,bi r=Z j
 |[],_,_,r,hr=>by cases hr
 |d::ds,eL,h,r,hr=>by
  simp only[D.aZ] at h;simp only[D.ai,cx] at hr;split at h
  .rename_i x hx;obtain⟨j,hj,rfl⟩:=ak.1 h;rcases hr with hr |hr
   .exact NT d x hx r hr
   .exact zt ds j hj r hr
  .cases h
end
theorem Ej{bi ti:Nat->Option Nat}:∀(l l':List (List D)),aH (D.aZ bi ti) l=Z l'->∀cs∈l,∀r∈D.ai cs,∃j,bi r=Z j
 |[],_,_,cs,hc=>by cases hc
 |c::l,l',h,cs,hc=>by
  simp only[aH] at h;split at h
  .rename_i x hx;obtain⟨j,hj,rfl⟩:=ak.1 h;rcases cq.1 hc with rfl |hc
   .exact zt _ x hx
   .exact Ej l j hj cs hc
  .cases h
theorem Ek{bi ti:Nat->Option Nat}{g:Nat->Nat}:∀(l:List (List D)),(∀cs∈l,(∀r∈D.ai cs,bi r=Z (g r))/\D.aC cs=[])->aH (D.aZ bi ti) l=Z (l.map (D.aU g))
 |[],_=>rfl
 |cs::l,h=>by
  simp[aH,vn cs (h cs (by simp)).1 (h cs (by simp)).2,Ek l λx hx=>h x (kA _ hx)]
theorem IL{bi ti:Nat->Option Nat}{g:Nat->Nat}(hg:∀r j,bi r=Z j->j=g r):∀(l l':List (List D)),(∀cs∈l,D.aC cs=[])->aH (D.aZ bi ti) l=Z l'->l'=l.map (D.aU g)
 |[],l',_,h=>by cases h;rfl
 |cs::l,l',t,h=>by
  simp only[aH] at h;split at h
  .rename_i x hx;obtain⟨j,hj,rfl⟩:=ak.1 h;simp[zq hg cs x (t cs (by simp)) hx,IL hg l j (λy hy=>t y (kA _ hy)) hj]
  .cases h
def bU(ids:List Nat)(i:Nat):Nat:=(idx ids i).getD 0
def bK(ids:List Nat)(N j:Nat):Nat:=if j<O ids then ids.getD j 0 else N+(j-O ids)
theorem NU(h:i∈ids):idx ids i=Z (bU ids i):=by
 unfold bU;cases hx:idx ids i with
 |none=>exact absurd h (SM hx)
 |some j=>rfl
theorem qb(h:i∈ids):ids[bU ids i]? =Z i:=Hg (NU h)
theorem NV(h:i∈ids):bK ids N (bU ids i)=i:=by
 have h1:=qb h;obtain⟨h2,h3⟩:=af.1 h1;simp[bK,h2,im,h3]
def kg(H:Hp)(ids:List Nat):Hp:=⟨ids.map λi=>D.aU (bU ids) (H.bx.getD i []),[]⟩
theorem U3{β:Type}{f:α->Option β}{g:α->β}:∀(l:List α),(∀a∈l,f a=Z (g a))->aH f l=Z (l.map g)
 |[],_=>rfl
 |a::l,h=>by simp[aH,h a (by simp),U3 l λx hx=>h x (kA _ hx)]
theorem U4:∀(l:List Nat),(∀(i:Nat) (cs:List D),H.bx[i]? =Z cs->D.aC cs=[])->gM H l=[]
 |[],_=>rfl
 |i::l,h=>by
  simp only[gM,U4 l h,iQ];split
  .rename_i cs hc;exact h i cs hc
  .rfl
theorem U5:∀{l:List Nat},l.Nodup->nodupB l=true
 |[],_=>rfl
 |a::l,h=>by
  obtain⟨h1,h2⟩:=tW.1 h;simp[nodupB,U5 h2,h1]
theorem NW{c:br}{args:List D}(hH:H.Ok)(ht:D.aC args=[])(hT:∀(i:Nat) (cs:List D),H.bx[i]? =Z cs->D.aC cs=[])(ha:∀x∈D.ai args,x<O H.bx):
    ∃ids,ids.Nodup/\(∀x∈ids,x<O H.bx)/\(∀x∈D.ai args,x∈ids)/\nu H ids/\
     (∀P:Nat->Prop,(∀x∈D.ai args,P x)->(∀(i:Nat) (cs:List D),P i->H.bx[i]? =Z cs->∀x∈D.ai cs,P x)->∀x∈ids,P x)/\
     ∀d Hs,c f (D.aU (bU ids) args) (kg H ids)=Z (.val d,Hs)->O ids<=O Hs.bx->Hs.Ok->(∀cs∈Hs.bx,D.aC cs=[])->(∀x∈d.refs,x<O Hs.bx)->d.bk=[]->
      ∃k,((k=0/\(∀x∈d.refs,x<O ids)/\∀cs∈Hs.bx.take (O ids),∀x∈D.ai cs,x<O ids)\/k=O Hs.bx-O ids)/\
       au c f args H=Z (.val (d.mv (bK ids (O H.bx))),⟨bZ H.bx ids ((Hs.bx.take (O ids)).map (D.aU (bK ids (O H.bx))))++((Hs.bx.drop (O ids)).map (D.aU (bK ids (O H.bx)))).take k,H.tk⟩):=by
 obtain⟨q1,q2,q3,q4⟩:=U1 hH (O H.bx) (ins [] (D.ai args)) (II _ _ List.nodup_nil) (λx hx=>by
  rcases(vk _ _ _).1 hx with h |h
  .cases h
  .exact ha x h) (by omega)
 refine⟨_,q1,q2,λx hx=>q3 x ((vk _ _ _).2 (.inr hx)),q4,λP p1 p2=>U2 p2 _ _ λx hx=>by
  rcases(vk _ _ _).1 hx with h |h
  .cases h
  .exact p1 x h,?_⟩
 have IM:∀x∈D.ai args,x∈reach H (O H.bx) (ins [] (D.ai args)):=λx hx=>q3 x ((vk _ _ _).2 (.inr hx));unfold au;dsimp only;generalize reach H (O H.bx) (ins [] (D.ai args))=ids at *;intro d Hs hc hlen bV U6 hdr kP;have e1:gM H ids=[]:=U4 _ hT;have e2:D.aZ (idx ids) (idx []) args=Z (D.aU (bU ids) args):=vn _ (λr hr=>NU (IM r hr)) ht;simp only[ht,e1,iQ,ins,U5 q1,nodupB,Bool.and_self,if_true,e2,aH];rw[U3 (g:=λi=>D.aU (bU ids) (H.bx.getD i [])) ids (by
  intro i hi;have hl:=q2 i hi;have hg:H.bx[i]? =Z H.bx[i]:=aD hl;have hg2:H.bx.getD i []=H.bx[i]:=by simp[im,hg]
  simp only[hg,hg2];exact vn _ (λr hr=>NU (q4 i hi _ hg r hr)) (hT i _ hg))]
 have hc':c f (D.aU (bU ids) args) ⟨ids.map λi=>D.aU (bU ids) (H.bx.getD i []),[]⟩=Z (.val d,Hs):=hc;dsimp only;rw[hc'];dsimp only;unfold back;have f1:iD Hs.bx (O ids)=Z (Hs.bx.take (O ids)):=by simp[iD,hlen]
 have f2:iD Hs.tk (O ([]:List Nat))=Z []:=by simp[iD]
 rw[f1,f2];dsimp only;have hb1:∀r j,(λi=>ids[i]?) r=Z j->j=bK ids (O H.bx) r:=λr j h=>by
  obtain⟨h2,h3⟩:=af.1 h;simp[bK,h2,im,h3]
 have NX:∀cs∈Hs.bx.take (O ids),D.aC cs=[]:=λcs hcs=>U6 cs (jn hcs);have cU:∀cs∈Hs.bx,∀r∈D.ai cs,r<O Hs.bx:=λcs hcs r hr=>by
  obtain⟨i,hi⟩:=dV hcs;exact bV i cs hi r hr
 have hb2:∀r,r<O Hs.bx->(if r<O ids then ids[r]? else Z (O H.bx+(r-O ids)))=Z (bK ids (O H.bx) r):=λr _=>by
  unfold bK;split
  .rename_i h;simp[im,h]
  .rfl
 split
 .rename_i r' mB h1 h2;obtain⟨d',bO,rfl⟩:=ak.1 h1;have hlt:∀x j,(λi=>ids[i]?) x=Z j->x<O ids:=λx j h=>(af.1 h).1;refine⟨0,.inl ⟨rfl,λx hx=>?_,λcs hcs x hx=>?_⟩,?_⟩
  .obtain⟨j,hj⟩:=NT d d' bO x hx;exact hlt x j hj
  .obtain⟨j,hj⟩:=Ej _ mB h2 cs hcs x hx;exact hlt x j hj
  rw[NS hb1 d d' kP bO,IL hb1 _ mB NX h2];simp[bZ]
 .rename_i hno;have hne:Hs.bx.drop (O ids)≠[]:=λh=>by
   have hl:O Hs.bx=O ids:=by
    have:=List.drop_eq_nil_iff.1 h;omega
   have hb3:∀r,r<O Hs.bx->(λi=>ids[i]?) r=Z (bK ids (O H.bx) r):=λr hr=>by
    have :r<O ids:=by omega
    simp[bK,im,this]
   refine hno _ _ (by simp only[bR.ren];rw[IK d (λr hr=>hb3 r (hdr r hr)) kP];rfl) (Ek _ λcs hcs=>⟨λr hr=>hb3 r (cU cs (jn hcs) r hr),NX cs hcs⟩)
  refine⟨O Hs.bx-O ids,.inr rfl,?_⟩;have g1:bR.ren (λi=>if i<O ids then ids[i]? else Z (O H.bx+(i-O ids))) (λt=>([]:List Nat)[t]?) (.val d)=Z (.val (d.mv (bK ids (O H.bx)))):=by
   simp only[bR.ren];rw[IK d (λr hr=>hb2 r (hdr r hr)) kP];rfl
  have g2:=Ek (bi:=λi=>if i<O ids then ids[i]? else Z (O H.bx+(i-O ids))) (ti:=λt=>([]:List Nat)[t]?) (g:=bK ids (O H.bx)) (Hs.bx.take (O ids)) λcs hcs=>⟨λr hr=>hb2 r (cU cs (jn hcs) r hr),NX cs hcs⟩;have g3:=Ek (bi:=λi=>if i<O ids then ids[i]? else Z (O H.bx+(i-O ids))) (ti:=λt=>([]:List Nat)[t]?) (g:=bK ids (O H.bx)) (Hs.bx.drop (O ids)) λcs hcs=>⟨λr hr=>hb2 r (cU cs (tT hcs) r hr),U6 cs (tT hcs)⟩;rw[g1,g2,g3];cases hd:Hs.bx.drop (O ids) with
  |nil=>exact absurd hd hne
  |cons n0 nw=>
   have hlk:O Hs.bx-O ids=O (n0::nw):=by rw[<-hd,wj]
   rw[hlk];simp[bZ];rw[fK (by simp)]

mutual
theorem IP{g h:Nat->Nat}:∀(d:D),(∀r∈d.refs,h (g r)=r)->(d.mv g).mv h=d
 | .box i o,q=>by simp[D.mv,q i (by simp[D.refs])]
 | .agg cs,q=>by simp[D.mv,Bz cs q]
 | .ba cs,q=>by simp[D.mv,Bz cs q]
 | .fn f a c,q=>by
  simp only[D.refs,cx] at q;simp[D.mv,Bz a λr hr=>q r (.inl hr),Bz c λr hr=>q r (.inr hr)]
 | .bH i off n c sz,q=>by simp[D.mv,q i (by simp[D.refs])]
 | .eC k d,q=>by simp[D.mv,IP d q]
 | .dD i,q=>by simp[D.mv,q i (by simp[D.refs])]
 | .cD kd ks vs,q=>by simp[D.mv,Bz vs q]
 | .ae i e n sz,q=>by simp[D.mv,q i (by simp[D.refs])]
 | .aX _ _ _ _,_=>rfl
 | .dead,_=>rfl
 | .undef,_=>rfl
 | .p _,_=>rfl
 | .cC _ _ _,_=>rfl
 | .eB _ _,_=>rfl
 | .ro _ _,_=>rfl
 | .fL _,_=>rfl
 | .fB _ _,_=>rfl
theorem Bz{g h:Nat->Nat}:∀(ds:List D),(∀r∈D.ai ds,h (g r)=r)->D.aU h (D.aU g ds)=ds
 |[],_=>rfl
 |d::ds,q=>by
  simp only[D.ai,cx] at q;simp[D.aU,IP d λr hr=>q r (.inl hr),Bz ds λr hr=>q r (.inr hr)]
end

mutual
theorem U7{g:Nat->Nat}:∀(d:D),(d.mv g).refs=d.refs.map g
 | .box i o=>rfl
 | .agg cs=>by simp[D.mv,D.refs,si cs]
 | .ba cs=>by simp[D.mv,D.refs,si cs]
 | .fn f a c=>by simp[D.mv,D.refs,si a,si c]
 | .bH i off n c sz=>rfl
 | .eC k d=>by simp[D.mv,D.refs,U7 d]
 | .dD i=>rfl
 | .cD kd ks vs=>by simp[D.mv,D.refs,si vs]
 | .ae i e n sz=>rfl
 | .aX _ _ _ _=>rfl
 | .dead=>rfl
 | .undef=>rfl
 | .p _=>rfl
 | .cC _ _ _=>rfl
 | .eB _ _=>rfl
 | .ro _ _=>rfl
 | .fL _=>rfl
 | .fB _ _=>rfl
theorem si{g:Nat->Nat}:∀(ds:List D),D.ai (D.aU g ds)=(D.ai ds).map g
 |[]=>rfl
 |d::ds=>by simp[D.aU,D.ai,U7 d,si ds]
end

mutual
theorem U8{g:Nat->Nat}:∀(d:D),(d.mv g).bk=d.bk
 | .box i o=>rfl
 | .agg cs=>by simp[D.mv,D.bk,sj cs]
 | .ba cs=>by simp[D.mv,D.bk,sj cs]
 | .fn f a c=>by simp[D.mv,D.bk,sj a,sj c]
 | .bH i off n c sz=>rfl
 | .eC k d=>by simp[D.mv,D.bk,U8 d]
 | .dD i=>rfl
 | .cD kd ks vs=>by simp[D.mv,D.bk,sj vs]
 | .ae i e n sz=>rfl
 | .aX _ _ _ _=>rfl
 | .dead=>rfl
 | .undef=>rfl
 | .p _=>rfl
 | .cC _ _ _=>rfl
 | .eB _ _=>rfl
 | .ro _ _=>rfl
 | .fL _=>rfl
 | .fB _ _=>rfl
theorem sj{g:Nat->Nat}:∀(ds:List D),D.aC (D.aU g ds)=D.aC ds
 |[]=>rfl
 |d::ds=>by simp[D.aU,D.aC,U8 d,sj ds]
end

mutual
theorem U9:∀(d:D),d.mv id=d
 | .box i o=>rfl
 | .agg cs=>by simp[D.mv,vo cs]
 | .ba cs=>by simp[D.mv,vo cs]
 | .fn f a c=>by simp[D.mv,vo a,vo c]
 | .bH i off n c sz=>rfl
 | .eC k d=>by simp[D.mv,U9 d]
 | .dD i=>rfl
 | .cD kd ks vs=>by simp[D.mv,vo vs]
 | .ae i e n sz=>rfl
 | .aX _ _ _ _=>rfl
 | .dead=>rfl
 | .undef=>rfl
 | .p _=>rfl
 | .cC _ _ _=>rfl
 | .eB _ _=>rfl
 | .ro _ _=>rfl
 | .fL _=>rfl
 | .fB _ _=>rfl
theorem vo:∀(ds:List D),D.aU id ds=ds
 |[]=>rfl
 |d::ds=>by simp[D.aU,U9 d,vo ds]
end
structure Kd (α:Type) where
 enc:List α->List D
 e:Nat
 sz:Nat
 rt:Nat
 st:Nat
 refs:∀l,D.ai (enc l)=[]
 bk:∀l,D.aC (enc l)=[]
 mv:∀g l,D.aU g (enc l)=enc l

variable{κ : Kd α}

inductive fR (κ:Kd α) (H:Hp):D->List α->Prop where
 |aj:fR κ H (.p .aj) []
 |emp:fR κ H (.cC κ.e κ.sz []) []
 |row (i:Nat) (l:List α) (hi:H.bx[i]? =Z (κ.enc l)) (hl:l≠[]):fR κ H (.ae i κ.e (O l) κ.sz) l
def cQ:D->List Nat
 | .ae i _ _ _=>[i]
 |_=>[]
theorem fR.other{d:D}(r:fR κ H d l)(h:∀m∈cQ d,H'.bx[m]? =H.bx[m]?):fR κ H' d l:=by
 cases r with
 |aj=>exact .aj
 |emp=>exact .emp
 |row i l hi hne=>exact .row i l (by rw[h i (by simp[cQ]),hi]) hne

inductive dK where
 |none
 |model
 |states
 |state (s:Nat)
 |row (s f:Nat)
 |lH (n:Nat)
def jf(κ:Kd α)(H:Hp)(lab:Nat->dK)(s:Nat)(d:D)(R:List (Int×List α)):Prop:=
 (d=(.p .aj)/\R=[])\/∃k cs,d= .ae k κ.rt (O R) 2/\lab k= .state s/\H.bx[k]? =Z cs/\O cs=O R*2/\
  ∀(f:Nat) (a:Int) (l:List α),R[f]? =Z (a,l)->cs[2*f]? =Z ((.p (.int .i64 a)))/\∃d',cs[2*f+1]? =Z d'/\fR κ H d' l/\∀i∈cQ d',lab i= .row s f
def NY(κ:Kd α)(H:Hp)(lab:Nat->dK)(sd:D)(S:List (List (Int×List α))):Prop:=
 (sd=(.p .aj)/\S=[])\/∃s0 ds,sd= .ae s0 κ.st (O S) 1/\lab s0= .states/\H.bx[s0]? =Z ds/\O ds=O S/\
  ∀(s:Nat) R,S[s]? =Z R->∃d,ds[s]? =Z d/\jf κ H lab s d R
def mH(κ:Kd α)(H:Hp)(lab:Nat->dK)(m:Nat)(pre bf:List D)(S:List (List (Int×List α))):Prop:=
 lab m= .model/\∃sd,H.bx[m]? =Z (pre++sd::bf)/\NY κ H lab sd S
variable{lab:Nat->dK}
theorem jf.other{bh:Nat->dK}{s:Nat}{d:D}(r:jf κ H lab s d R)
    (h:∀m,(lab m= .state s\/∃f,lab m= .row s f)->(bh m=lab m/\∀cs,H.bx[m]? =Z cs->H'.bx[m]? =Z cs)):jf κ H' bh s d R:=by
 rcases r with⟨h1,h2⟩ |⟨k,cs,h1,h2,h3,h4,h5⟩
 .exact .inl ⟨h1,h2⟩
 .refine .inr ⟨k,cs,h1,(h k (.inl h2)).1.trans h2,(h k (.inl h2)).2 _ h3,h4,λf a l hf=>?_⟩;obtain⟨q1,d',q2,q3,q4⟩:=h5 f a l hf;refine⟨q1,d',q2,?_,λi hi=>(h i (.inr ⟨f,q4 i hi⟩)).1.trans (q4 i hi)⟩;cases q3 with
  |aj=>exact .aj
  |emp=>exact .emp
  |row i l hb hne=>exact .row i l ((h i (.inr ⟨f,q4 i (by simp[cQ])⟩)).2 _ hb) hne
theorem mH.ext(r:mH κ H lab m pre bf S)(h:∀(i:Nat) cs,H.bx[i]? =Z cs->H'.bx[i]? =Z cs):mH κ H' lab m pre bf S:=by
 obtain⟨h1,sd,h2,h3⟩:=r;refine⟨h1,sd,h _ _ h2,?_⟩;rcases h3 with h3 |⟨s0,ds,q1,q2,q3,q4,q5⟩
 .exact .inl h3
 .refine .inr ⟨s0,ds,q1,q2,h _ _ q3,q4,λs R hR=>?_⟩;obtain⟨d,w1,w2⟩:=q5 s R hR;exact⟨d,w1,w2.other λm _=>⟨rfl,λcs hcs=>h _ _ hcs⟩⟩
theorem mH.ins(r:mH κ H lab m pre bf S){s:Nat}{a:Int}{l':List α}(hR:S[s]? =Z R)(hf:R[f]? =Z (a,l))(hl':l'≠[]):
    ∃s0 ds k cs d',H.bx[m]? =Z (pre++ .ae s0 κ.st (O S) 1::bf)/\H.bx[s0]? =Z ds/\O ds=O S/\ds[s]? =Z (.ae k κ.rt (O R) 2)/\lab k= .state s/\H.bx[k]? =Z cs/\O cs=O R*2/\cs[2*f+1]? =Z d'/\fR κ H d' l/\k∉cQ d'/\
     ∀(bx:List (List D)) (tk:List Nat),O bx=O H.bx->(∀j,j∉cQ d'->bx[j]? =H.bx[j]?)->lab (O H.bx)= .none->
      ∃bh,mH κ ⟨(bx++[κ.enc l']).set k (cs.set (2*f+1) (.ae (O H.bx) κ.e (O l') κ.sz)),tk⟩ bh m pre bf (S.set s (R.set f (a,l')))/\(∀j,j≠O H.bx->bh j=lab j)/\bh (O H.bx)≠.none/\
          ∀j n cs',lab j= .lH n->H.bx[j]? =Z cs'->((bx++[κ.enc l']).set k (cs.set (2*f+1) (.ae (O H.bx) κ.e (O l') κ.sz)))[j]? =Z cs':=by
 obtain⟨h1,sd,h2,h3⟩:=r;rcases h3 with⟨-,rfl⟩ |⟨s0,ds,rfl,q2,q3,q4,q5⟩
 .simp at hR
 obtain⟨d,w1,w2⟩:=q5 s R hR;rcases w2 with⟨-,rfl⟩ |⟨k,cs,rfl,w3,w4,w5,w6⟩
 .simp at hf
 obtain⟨e1,d',e2,e3,e4⟩:=w6 f a l hf;have hk:k∉cQ d':=λh=>by have:=e4 k h;rw[w3] at this;cases this
 refine⟨s0,ds,k,cs,d',h2,q3,q4,w1,w3,w4,w5,e2,e3,hk,λbx tk hbl bS lA=>?_⟩;have eM:k<O H.bx:=(af.1 w4).1
 -- what else there is stays
 have keep:∀j cs',lab j≠.none->lab j≠.state s->lab j≠.row s f->H.bx[j]? =Z cs'->((bx++[κ.enc l']).set k (cs.set (2*f+1) (.ae (O H.bx) κ.e (O l') κ.sz)))[j]? =Z cs':=by
  intro j cs' n0 n1 n2 hj;have hjk:k≠j:=λh=>n1 (by rw[<-h];exact w3);have El:j∉cQ d':=λh=>n2 (e4 j h);have jz:j<O bx:=by rw[hbl];exact(af.1 hj).1
  rw[bp hjk,aT jz,bS j El,hj]
 have jd:∀j,lab j≠.none->j≠O H.bx:=λj h e=>h (by rw[e];exact lA);obtain⟨bh,cN,qD⟩:∃bh:Nat->dK,(∀j,j≠O H.bx->bh j=lab j)/\bh (O H.bx)= .row s f:=
  ⟨λj=>if j=O H.bx then .row s f else lab j,λj hj=>by simp[hj],by simp⟩
 refine⟨bh,⟨?_,.ae s0 κ.st (O S) 1,?_,.inr ⟨s0,ds,by simp,?_,?_,by simpa using q4,?_⟩⟩,cN,by rw[qD];simp,λj n cs' hj=>keep j cs' (by rw[hj];simp) (by rw[hj];simp) (by rw[hj];simp)⟩
 .rw[cN _ (jd m (by rw[h1];simp))];exact h1
 .exact keep m _ (by rw[h1];simp) (by rw[h1];simp) (by rw[h1];simp) h2
 .rw[cN _ (jd s0 (by rw[q2];simp))];exact q2
 .exact keep s0 _ (by rw[q2];simp) (by rw[q2];simp) (by rw[q2];simp) q3
 .intro s' R' ie;by_cases hs:s'=s
  .subst hs;have bW:s'<O S:=(af.1 hR).1;rw[eA bW] at ie;cases ie;refine⟨_,w1,.inr ⟨k,cs.set (2*f+1) (.ae (O H.bx) κ.e (O l') κ.sz),by simp,?_,?_,by simpa using w5,?_⟩⟩
   .rw[cN _ (jd k (by rw[w3];simp))];exact w3
   .rw[eA (by simp;omega)]
   .intro f' a' Em hf';have dZ:f<O R:=(af.1 hf).1;by_cases iH:f'=f
    .subst iH;rw[eA dZ] at hf';cases hf';refine⟨by rw[bp (by omega)];exact e1,_,eA (by omega),.row _ _ ?_ hl',λi hi=>?_⟩
     .show((bx++[κ.enc l']).set k _)[O H.bx]? =_;rw[bp (by omega),<-hbl];simp
     .have :i=O H.bx:=by simpa[cQ] using hi
      rw[this,qD]
    .rw[bp (Ne.symm iH)] at hf';obtain⟨g1,d2,g2,g3,g4⟩:=w6 f' a' Em hf';refine⟨by rw[bp (by omega)];exact g1,d2,by rw[bp (by omega)];exact g2,?_,λi hi=>?_⟩
     .cases g3 with
      |aj=>exact .aj
      |emp=>exact .emp
      |row i l3 hb hne=>
       have hi:=g4 i (by simp[cQ]);refine .row i _ (keep i _ (by rw[hi];simp) (by rw[hi];simp) (by rw[hi];simp[iH]) hb) hne
     .have bJ:=g4 i hi;rw[cN _ (jd i (by rw[bJ];simp))];exact bJ
  .rw[bp (Ne.symm hs)] at ie;obtain⟨d,u1,u2⟩:=q5 s' R' ie;refine⟨d,u1,u2.other λj hj=>⟨?_,λcs' hj'=>?_⟩⟩
   .rcases hj with h |⟨f',h⟩
    .rw[cN _ (jd j (by rw[h];simp))]
    .rw[cN _ (jd j (by rw[h];simp))]
   .rcases hj with h |⟨f',h⟩
    .exact keep j _ (by rw[h];simp) (by rw[h];simp[hs]) (by rw[h];simp) hj'
    .exact keep j _ (by rw[h];simp) (by rw[h];simp) (by rw[h];simp[hs]) hj'

end Go.Vs

namespace Go.Vs

variable {α : Type} {κ : Kd α}
variable{H H2 Hs:Hp}{cs pre bf:List D}{ids:List Nat}{i j m:Nat}{lab:Nat->dK}
theorem Eo(hi:i∈ids)(hc:H.bx[i]? =Z cs):(kg H ids).bx[bU ids i]? =Z (D.aU (bU ids) cs):=by
 unfold kg;simp only;rw[cG,qb hi];simp[im,hc]
theorem NZ(g:Nat->Nat):∀(ps:List PD),D.aU g (ps.map .p)=ps.map .p
 |[]=>rfl
 |p::ps=>by simp[D.aU,D.mv,NZ g ps]
theorem BA{g:Nat->Nat}{d:D}(h:cs[j]? =Z d):(D.aU g cs)[j]? =Z (d.mv g):=by
 rw[pn,cG,h];rfl
theorem wW{d:D}(h:cs[j]? =Z d):∀x∈d.refs,x∈D.ai cs:=by
 induction cs generalizing j with
 |nil=>simp at h
 |cons c cs ih=>
  intro x hx;simp only[D.ai,cx];cases j with
  |zero=>cases h;exact .inl hx
  |succ j=>exact .inr (ih (by simpa using h) x hx)
theorem Va(g:Nat->Nat)(pre:List D)(d:D)(bf:List D):D.aU g (pre++d::bf)=D.aU g pre++d.mv g::D.aU g bf:=by
 simp[pn]
theorem Vb{d:D}{x:Nat}(h:x∈d.refs):x∈D.ai (pre++d::bf):=wW (j:=O pre) (by simp) x h
def zu(lab:Nat->dK)(ids:List Nat)(j:Nat):dK:=if j<O ids then lab (ids.getD j 0) else .none
theorem zw(h:i∈ids):zu lab ids (bU ids i)=lab i:=by
 obtain⟨h2,h3⟩:=af.1 (qb h);simp[zu,h2,im,h3]
theorem fR.sub{d:D}{l:List α}(r:fR κ H d l)(h:∀i∈cQ d,i∈ids):fR κ (kg H ids) (d.mv (bU ids)) l/\∀j∈cQ (d.mv (bU ids)),∃i∈cQ d,j=bU ids i:=by
 cases r with
 |aj=>exact⟨.aj,λj hj=>by cases hj⟩
 |emp=>exact⟨.emp,λj hj=>by cases hj⟩
 |row i l hi hne=>
  have h1:=h i (by simp[cQ]);refine⟨.row _ _ (by rw[Eo h1 hi,κ.mv]) hne,λj hj=>⟨i,by simp[cQ],?_⟩⟩;simpa[D.mv,cQ] using hj
theorem Vc{d:D}:∀i∈cQ d,i∈d.refs:=by
 intro i h;cases d<;>simp_all[cQ,D.refs]
theorem mH.sub{S:List (List (Int×List α))}(r:mH κ H lab m pre bf S)(hs:nu H ids)(hm:m∈ids):
    mH κ (kg H ids) (zu lab ids) (bU ids m) (D.aU (bU ids) pre) (D.aU (bU ids) bf) S:=by
 obtain⟨h1,sd,h2,h3⟩:=r;refine⟨by rw[zw hm];exact h1,sd.mv (bU ids),by rw[Eo hm h2,Va],?_⟩;rcases h3 with⟨rfl,rfl⟩ |⟨s0,ds,rfl,q2,q3,q4,q5⟩
 .exact .inl ⟨rfl,rfl⟩
 have i0:s0∈ids:=hs m hm _ h2 s0 (Vb (by simp[D.refs]));refine .inr ⟨bU ids s0,D.aU (bU ids) ds,rfl,by rw[zw i0];exact q2,Eo i0 q3,by rw[pn,bT];exact q4,λs R hR=>?_⟩;obtain⟨d,w1,w2⟩:=q5 s R hR;refine⟨_,BA w1,?_⟩;rcases w2 with⟨rfl,rfl⟩ |⟨k,cs,rfl,w3,w4,w5,w6⟩
 .exact .inl ⟨rfl,rfl⟩
 have ik:k∈ids:=hs s0 i0 _ q3 k (wW w1 k (by simp[D.refs]));refine .inr ⟨bU ids k,D.aU (bU ids) cs,rfl,by rw[zw ik];exact w3,Eo ik w4,by rw[pn,bT];exact w5,λf a l hf=>?_⟩;obtain⟨e1,d',e2,e3,e4⟩:=w6 f a l hf;have ir:∀i∈cQ d',i∈ids:=λi hi=>hs k ik _ w4 i (wW e2 i (Vc i hi));obtain⟨g1,g2⟩:=e3.sub ir;refine⟨BA e1,_,BA e2,g1,λj hj=>?_⟩;obtain⟨i,hi,rfl⟩:=g2 j hj;rw[zw (ir i hi)];exact e4 i hi
theorem fR.map{g:Nat->Nat}(h:∀(i:Nat) cs,H.bx[i]? =Z cs->H2.bx[g i]? =Z (D.aU g cs)){d:D}{l:List α}(r:fR κ H d l):fR κ H2 (d.mv g) l/\∀j∈cQ (d.mv g),∃i∈cQ d,j=g i/\∃cs,H.bx[i]? =Z cs:=by
 cases r with
 |aj=>exact⟨.aj,λj hj=>by cases hj⟩
 |emp=>exact⟨.emp,λj hj=>by cases hj⟩
 |row i l hi hne=>
  refine⟨.row _ _ (by rw[h i _ hi,κ.mv]) hne,λj hj=>⟨i,by simp[cQ],?_,_,hi⟩⟩;simpa[D.mv,cQ] using hj
theorem mH.map{g:Nat->Nat}{lab2:Nat->dK}(h:∀(i:Nat) cs,H.bx[i]? =Z cs->H2.bx[g i]? =Z (D.aU g cs))(hl:∀(i:Nat) cs,H.bx[i]? =Z cs->lab2 (g i)=lab i){S:List (List (Int×List α))}(r:mH κ H lab m pre bf S):
    mH κ H2 lab2 (g m) (D.aU g pre) (D.aU g bf) S:=by
 obtain⟨h1,sd,h2,h3⟩:=r;refine⟨by rw[hl m _ h2];exact h1,sd.mv g,by rw[h m _ h2,Va],?_⟩;rcases h3 with⟨rfl,rfl⟩ |⟨s0,ds,rfl,q2,q3,q4,q5⟩
 .exact .inl ⟨rfl,rfl⟩
 refine .inr ⟨g s0,D.aU g ds,rfl,by rw[hl s0 _ q3];exact q2,h s0 _ q3,by rw[pn,bT];exact q4,λs R hR=>?_⟩;obtain⟨d,w1,w2⟩:=q5 s R hR;refine⟨_,BA w1,?_⟩;rcases w2 with⟨rfl,rfl⟩ |⟨k,cs,rfl,w3,w4,w5,w6⟩
 .exact .inl ⟨rfl,rfl⟩
 refine .inr ⟨g k,D.aU g cs,rfl,by rw[hl k _ w4];exact w3,h k _ w4,by rw[pn,bT];exact w5,λf a l hf=>?_⟩;obtain⟨e1,d',e2,e3,e4⟩:=w6 f a l hf;obtain⟨g1,g2⟩:=e3.map h;refine⟨BA e1,_,BA e2,g1,λj hj=>?_⟩;obtain⟨i,hi,rfl,GA,N0⟩:=g2 j hj;rw[hl i _ N0];exact e4 i hi
theorem aff(hn:ids.Nodup)(hj:j<O ids):bU ids ids[j]=j:=by
 have h1:=qb (dw hj);have h2:ids[j]? =Z ids[j]:=aD hj;exact(List.getElem?_inj hj hn |>.1 (h2.trans h1.symm)).symm
def ow(H:Hp)(ids:List Nat)(Hs:Hp):Hp:=
 ⟨bZ H.bx ids ((Hs.bx.take (O ids)).map (D.aU (bK ids (O H.bx))))++(Hs.bx.drop (O ids)).map (D.aU (bK ids (O H.bx))),H.tk⟩
theorem IQ(hn:ids.Nodup)(hv:∀x∈ids,x<O H.bx)(hl:O ids<=O Hs.bx)(hc:Hs.bx[j]? =Z cs):
    (ow H ids Hs).bx[bK ids (O H.bx) j]? =Z (D.aU (bK ids (O H.bx)) cs):=by
 obtain⟨hj,hjc⟩:=af.1 hc;unfold ow;simp only;by_cases hlt:j<O ids
 .have ho:bK ids (O H.bx) j=ids[j]:=by simp[bK,hlt]
  have hm:ids[j]<O H.bx:=hv _ (dw hlt);rw[aT (by rw[ic,ho];exact hm),ho];rw[A7 ids _ _ j ids[j] hn (aD hlt) hm (by simp;omega)];rw[cG,gL,if_pos hlt,hc];rfl
 .have ho:bK ids (O H.bx) j=O H.bx+(j-O ids):=by simp[bK,hlt]
  rw[cR (by rw[ic,ho];omega),ic,ho,cG,lN];have :O ids+(O H.bx+(j-O ids)-O H.bx)=j:=by omega
  rw[this,hc];rfl
def IU(lab:Nat->dK)(ids:List Nat)(N x:Nat):dK:=if x<N then(if x∈ids then lab (bU ids x) else .none) else lab (O ids+(x-N))
theorem afh{N:Nat}(hn:ids.Nodup)(hv:∀x∈ids,x<N):IU lab ids N (bK ids N j)=lab j:=by
 by_cases hlt:j<O ids
 .have ho:bK ids N j=ids[j]:=by simp[bK,hlt]
  have hm:ids[j]<N:=hv _ (dw hlt);rw[ho];simp[IU,hm,aff hn hlt]
 .have ho:bK ids N j=N+(j-O ids):=by simp[bK,hlt]
  rw[ho];have :O ids+(N+(j-O ids)-N)=j:=by omega
  simp only[IU];rw[if_neg (by omega),this]
theorem mH.out(hn:ids.Nodup)(hv:∀x∈ids,x<O H.bx)(hl:O ids<=O Hs.bx){S:List (List (Int×List α))}(r:mH κ Hs lab m pre bf S):
    mH κ (ow H ids Hs) (IU lab ids (O H.bx)) (bK ids (O H.bx) m) (D.aU (bK ids (O H.bx)) pre) (D.aU (bK ids (O H.bx)) bf) S:=
 r.map (λ_ _ h=>IQ hn hv hl h) λ_ _ _=>afh hn hv

end Go.Vs

namespace Go.Vs

variable {α : Type} {κ : Kd α}
structure Wg (κ:Kd α) (H:Hp) (lab:Nat->dK) (m:Nat) (pre bf:List D) (fx:List (Nat×List D)) (S:List (List (Int×List α))):Prop where
 mod:mH κ H lab m pre bf S
 at_:∀x∈fx,H.bx[x.1]? =Z x.2
 al:∀x∈fx,∃n,lab x.1= .lH n
 rf:∀(i:Nat) cs,H.bx[i]? =Z cs->∀x∈D.ai cs,lab x≠.none
 tk:∀(i:Nat) cs,H.bx[i]? =Z cs->D.aC cs=[]
 fr:∀j,O H.bx<=j->lab j= .none

variable {H : Hp} {lab : Nat -> dK} {m : Nat} {pre bf : List D} {fx : List (Nat × List D)} {S : List (List (Int × List α))}
theorem Wg.lt(w:Wg κ H lab m pre bf fx S){x:Nat}(h:lab x≠.none):x<O H.bx:=by
 refine pL λhn=>h (w.fr x (by omega))
theorem Wg.ok(w:Wg κ H lab m pre bf fx S):H.Ok:=
 λi cs hi x hx=>w.lt (w.rf i cs hi x hx)
theorem Wg.an(w:Wg κ H lab m pre bf fx S){x:Nat×List D}(h:x∈fx):lab x.1≠.none:=by
 obtain⟨n,hn⟩:=w.al x h;rw[hn];simp
theorem Wg.mn(w:Wg κ H lab m pre bf fx S):lab m≠.none:=by rw[w.mod.1];simp
theorem Wg.snoc(w:Wg κ H lab m pre bf fx S)(cs:List D)(hr:∀x∈D.ai cs,lab x≠.none)(ht:D.aC cs=[])(tk:List Nat):Wg κ ⟨H.bx++[cs],tk⟩ lab m pre bf fx S:=by
 have hx:∀(i:Nat) ds,H.bx[i]? =Z ds->(H.bx++[cs])[i]? =Z ds:=λi ds h=>by
  rw[aT (af.1 h).1,h]
 have hy:∀(i:Nat) ds,(H.bx++[cs])[i]? =Z ds->H.bx[i]? =Z ds\/ds=cs:=λi ds h=>by
  rcases fA i (O H.bx) with hl |hl
  .rw[aT hl] at h;exact .inl h
  .rw[cR hl] at h;have:=bB h;exact .inr (by simpa using this)
 refine⟨w.mod.ext hx,λx h=>hx _ _ (w.at_ x h),w.al,λi ds hi x eE=>?_,λi ds hi=>?_,λj hj=>w.fr j (by simp at hj;omega)⟩
 .rcases hy i ds hi with h |rfl
  .exact w.rf i ds h x eE
  .exact hr x eE
 .rcases hy i ds hi with h |rfl
  .exact w.tk i ds h
  .exact ht
variable{cs:List D}{j:Nat}
theorem afi{d:D}:∀x∈D.ai (cs.set j d),x∈D.ai cs\/x∈d.refs:=by
 induction cs generalizing j with
 |nil=>intro x hx;exact .inl hx
 |cons a cs ih=>
  intro x hx;cases j with
  |zero=>
   simp only[List.set_cons_zero,D.ai,cx] at hx|-;rcases hx with h |h
   .exact .inr h
   .exact .inl (.inr h)
  |succ j=>
   simp only[List.set_cons_succ,D.ai,cx] at hx|-;rcases hx with h |h
   .exact .inl (.inl h)
   .rcases ih x h with h |h
    .exact .inl (.inr h)
    .exact .inr h
theorem afj{d:D}(h:D.aC cs=[])(hd:d.bk=[]):D.aC (cs.set j d)=[]:=by
 induction cs generalizing j with
 |nil=>exact h
 |cons a cs ih=>
  simp only[D.aC,tX] at h;cases j with
  |zero=>simp[D.aC,hd,h.2]
  |succ j=>simp[D.aC,h.1,ih h.2]
theorem Wg.ins(w:Wg κ H lab m pre bf fx S){s f:Nat}{R:List (Int×List α)}{a:Int}{l l':List α}(hR:S[s]? =Z R)(hf:R[f]? =Z (a,l))(hl':l'≠[]):
    ∃s0 ds k cs d',H.bx[m]? =Z (pre++ .ae s0 κ.st (O S) 1::bf)/\H.bx[s0]? =Z ds/\O ds=O S/\ds[s]? =Z (.ae k κ.rt (O R) 2)/\k<O H.bx/\H.bx[k]? =Z cs/\O cs=O R*2/\cs[2*f+1]? =Z d'/\fR κ H d' l/\k∉cQ d'/\(∀i∈cQ d',i<O H.bx)/\
     ∀(bx:List (List D)) (tk:List Nat),O bx=O H.bx->(∀j,j∉cQ d'->bx[j]? =H.bx[j]?)->(∀(j:Nat) ds,bx[j]? =Z ds->H.bx[j]? =Z ds\/ds=[])->
      ∃bh,Wg κ ⟨(bx++[κ.enc l']).set k (cs.set (2*f+1) (.ae (O H.bx) κ.e (O l') κ.sz)),tk⟩ bh m pre bf fx (S.set s (R.set f (a,l')))/\∀j,j≠O H.bx->bh j=lab j:=by
 obtain⟨s0,ds,k,cs,d',h1,h2,h3,h4,h4b,h5,h6,h7,h8,h9,h10⟩:=w.mod.ins hR hf hl';have eM:k<O H.bx:=(af.1 h5).1;refine⟨s0,ds,k,cs,d',h1,h2,h3,h4,eM,h5,h6,h7,h8,h9,λi hi=>?_,λbx tk b1 b2 b3=>?_⟩
 .cases h8 with
  |aj=>cases hi
  |emp=>cases hi
  |row i2 l hb hne=>
   have :i=i2:=by simpa[cQ] using hi
   subst this;exact(af.1 hb).1
 obtain⟨bh,q1,q2,q3,q4⟩:=h10 bx tk b1 b2 (w.fr _ (aK _));have hne:∀j,lab j≠.none->bh j=lab j:=λj hj=>q2 j λh=>hj (by rw[h];exact w.fr _ (aK _));have ot:∀j,lab j≠.none->bh j≠.none:=λj hj=>by rw[hne j hj];exact hj
 have hc:∀(i:Nat) es,((bx++[κ.enc l']).set k (cs.set (2*f+1) (.ae (O H.bx) κ.e (O l') κ.sz)))[i]? =Z es->es=cs.set (2*f+1) (.ae (O H.bx) κ.e (O l') κ.sz)\/es=κ.enc l'\/es=[]\/H.bx[i]? =Z es:=by
  intro i es h;rw[nU] at h;split at h
  .split at h
   .cases h;exact .inl rfl
   .cases h
  .rcases fA i (O bx) with hl |hl
   .rw[aT hl] at h;rcases b3 i es h with h |h
    .exact .inr (.inr (.inr h))
    .exact .inr (.inr (.inl h))
   .rw[cR hl] at h;have:=bB h;exact .inr (.inl (by simpa using this))
 refine⟨bh,⟨q1,λx hx=>?_,λx hx=>?_,λi es hi x hx=>?_,λi es hi=>?_,λj hj=>?_⟩,q2⟩
 .obtain⟨n,hn⟩:=w.al x hx;exact q4 _ _ _ hn (w.at_ x hx)
 .obtain⟨n,hn⟩:=w.al x hx;exact⟨n,by rw[hne _ (w.an hx)];exact hn⟩
 .rcases hc i es hi with rfl |rfl |rfl |h
  .rcases afi x hx with h |h
   .exact ot x (w.rf k cs h5 x h)
   .have :x=O H.bx:=by simpa[D.refs] using h
    rw[this];exact q3
  .rw[κ.refs] at hx;cases hx
  .cases hx
  .exact ot x (w.rf i es h x hx)
 .rcases hc i es hi with rfl |rfl |rfl |h
  .exact afj (w.tk k cs h5) rfl
  .exact κ.bk l'
  .rfl
  .exact w.tk i es h
 .simp[b1] at hj;rw[q2 j (by omega)];exact w.fr j (by omega)
theorem Wg.take(w:Wg κ H lab m pre bf fx S){n:Nat}(hn:n<=O H.bx)(hr:∀i,i<n->∀cs,H.bx[i]? =Z cs->∀x∈D.ai cs,x<n)(hm:m<n)(hx:∀x∈fx,x.1<n)(tk:List Nat):
    ∃bh,Wg κ ⟨H.bx.take n,tk⟩ bh m pre bf fx S/\∀j,j<n->bh j=lab j:=by
 obtain⟨bh,l1,l2⟩:∃bh:Nat->dK,(∀j,j<n->bh j=lab j)/\∀j,n<=j->bh j= .none:=
  ⟨λj=>if j<n then lab j else .none,λj hj=>by simp[hj],λj hj=>by simp;intro h;omega⟩
 have hg:∀i,i<n->∀cs,H.bx[i]? =Z cs->(H.bx.take n)[i]? =Z cs:=λi hi cs h=>by
  rw[gL,if_pos hi,h]
 have hb:∀(i:Nat) cs,(H.bx.take n)[i]? =Z cs->i<n/\H.bx[i]? =Z cs:=λi cs h=>by
  rw[gL] at h;split at h
  .rename_i hi;exact⟨hi,h⟩
  .cases h
 have hrow:∀{d:D} {l:List α},fR κ H d l->(∀i∈cQ d,i<n)->fR κ ⟨H.bx.take n,tk⟩ d l:=λh h2=>by
  cases h with
  |aj=>exact .aj
  |emp=>exact .emp
  |row i l hb hne=>exact .row i _ (hg i (h2 i (by simp[cQ])) _ hb) hne
 obtain⟨m1,sd,m2,m3⟩:=w.mod;refine⟨bh,⟨⟨(l1 _ hm).trans m1,sd,hg m hm _ m2,?_⟩,λx h=>hg _ (hx x h) _ (w.at_ x h),λx h=>?_,λi cs hi x eE=>?_,λi cs hi=>w.tk i cs (hb i cs hi).2,λj hj=>?_⟩,l1⟩
 .rcases m3 with m3 |⟨s0,ds,rfl,q2,q3,q4,q5⟩
  .exact .inl m3
  have i0:s0<n:=hr m hm _ m2 s0 (Vb (by simp[D.refs]));refine .inr ⟨s0,ds,rfl,(l1 _ i0).trans q2,hg _ i0 _ q3,q4,λs R hR=>?_⟩;obtain⟨d,w1,w2⟩:=q5 s R hR;refine⟨d,w1,?_⟩;rcases w2 with w2 |⟨k,cs,rfl,w3,w4,w5,w6⟩
  .exact .inl w2
  have ik:k<n:=hr s0 i0 _ q3 k (wW w1 k (by simp[D.refs]));refine .inr ⟨k,cs,rfl,(l1 _ ik).trans w3,hg _ ik _ w4,w5,λf a l hf=>?_⟩;obtain⟨e1,d',e2,e3,e4⟩:=w6 f a l hf;have ir:∀i∈cQ d',i<n:=λi hi=>hr k ik _ w4 i (wW e2 i (Vc i hi));exact⟨e1,d',e2,hrow e3 ir,λi hi=>(l1 _ (ir i hi)).trans (e4 i hi)⟩
 .obtain⟨n',cE⟩:=w.al x h;exact⟨n',(l1 _ (hx x h)).trans cE⟩
 .obtain⟨h1,h2⟩:=hb i cs hi;have:=hr i h1 cs h2 x eE;rw[l1 _ this];exact w.rf i cs h2 x eE
 .exact l2 j (by simp at hj;omega)

end Go.Vs

namespace Go.Vs

variable {α : Type} {κ : Kd α} {H : Hp} {lab : Nat -> dK} {m : Nat} {pre bf : List D} {fx : List (Nat × List D)} {S : List (List (Int × List α))}
def wX(g:Nat->Nat)(fx:List (Nat×List D)):List (Nat×List D):=fx.map λx=>(g x.1,D.aU g x.2)
variable{ids:List Nat}
theorem Wg.sub(w:Wg κ H lab m pre bf fx S)(hs:nu H ids)(hv:∀x∈ids,x<O H.bx)(hm:m∈ids)(hx:∀x∈fx,x.1∈ids):
    Wg κ (kg H ids) (zu lab ids) (bU ids m) (D.aU (bU ids) pre) (D.aU (bU ids) bf) (wX (bU ids) fx) S:=by
 have hb:∀(i:Nat) cs,(kg H ids).bx[i]? =Z cs->∃i0∈ids,∃cs0,H.bx[i0]? =Z cs0/\cs=D.aU (bU ids) cs0:=by
  intro i cs hi;unfold kg at hi;simp only[cG] at hi;obtain⟨j,hj,rfl⟩:=ak.1 hi;have hm:j∈ids:=bB hj;refine⟨j,hm,_,?_,rfl⟩;simp[im,hv j hm]
 refine⟨w.mod.sub hs hm,λx h=>?_,λx h=>?_,λi cs hi x hx=>?_,λi cs hi=>?_,λj hj=>?_⟩
 .obtain⟨y,hy,rfl⟩:=cA.1 h;exact Eo (hx y hy) (w.at_ y hy)
 .obtain⟨y,hy,rfl⟩:=cA.1 h;obtain⟨n,hn⟩:=w.al y hy;exact⟨n,by rw[zw (hx y hy)];exact hn⟩
 .obtain⟨i0,h1,cs0,h2,rfl⟩:=hb i cs hi;rw[si] at hx;obtain⟨y,hy,rfl⟩:=cA.1 hx;rw[zw (hs i0 h1 _ h2 y hy)];exact w.rf i0 cs0 h2 y hy
 .obtain⟨i0,h1,cs0,h2,rfl⟩:=hb i cs hi;rw[sj];exact w.tk i0 cs0 h2
 .unfold zu;rw[if_neg];unfold kg at hj;simp at hj;omega
theorem N2{N:Nat}{cs:List D}(h:∀r∈D.ai cs,r∈ids):D.aU (bK ids N) (D.aU (bU ids) cs)=cs:=by
 rw[pn,pn,pO]
 conv=>rhs;rw[<-Le cs]
 refine pN λd hd=>?_;obtain⟨j,hj⟩:=dV hd;exact IP d λr hr=>NV (h r (wW hj r hr))
theorem Wg.out(w:Wg κ H lab m pre bf fx S)(hn:ids.Nodup)(hs:nu H ids)(hv:∀x∈ids,x<O H.bx)(hm:m∈ids)(hx:∀x∈fx,x.1∈ids){Hs:Hp}{di:Nat->dK}{S':List (List (Int×List α))}
    (ws:Wg κ Hs di (bU ids m) (D.aU (bU ids) pre) (D.aU (bU ids) bf) (wX (bU ids) fx) S') (hl:O ids<=O Hs.bx) (hk:∀j,j<O ids->di j=zu lab ids j):
    ∃lab2,Wg κ (ow H ids Hs) lab2 m pre bf fx S'/\(∀j,j<O H.bx->lab2 j=lab j)/\(∀j,j∉ids->j<O H.bx->(ow H ids Hs).bx[j]? =H.bx[j]?):=by
 obtain⟨lab2,l1,l2⟩:∃lab2:Nat->dK,(∀j,j<O H.bx->lab2 j=lab j)/\∀j,O H.bx<=j->lab2 j=di (O ids+(j-O H.bx)):=
  ⟨λj=>if j<O H.bx then lab j else di (O ids+(j-O H.bx)),λj hj=>by simp[hj],λj hj=>by simp;intro h;omega⟩
 obtain⟨sd,yI⟩:=(fun(h:mH κ H lab m pre bf S)=>h.2) w.mod;have oo:∀r∈D.ai pre,r∈ids:=λr hr=>hs m hm _ yI.1 r (by
  obtain⟨i,hi⟩:∃(i:Nat),∃d,pre[i]? =Z d/\r∈d.refs:=by
   clear yI w ws hs hm
   induction pre with
   |nil=>cases hr
   |cons d ds ih=>
    simp only[D.ai,cx] at hr;rcases hr with h |h
    .exact⟨0,d,rfl,h⟩
    .obtain⟨i,e,h1,h2⟩:=ih h;exact⟨i+1,e,by simpa using h1,h2⟩
  obtain⟨d,h1,h2⟩:=hi;exact wW (j:=i) (by rw[aT (af.1 h1).1];exact h1) r h2)
 have jM:∀r∈D.ai bf,r∈ids:=λr hr=>hs m hm _ yI.1 r (by
  obtain⟨i,hi⟩:∃(i:Nat),∃d,bf[i]? =Z d/\r∈d.refs:=by
   clear yI w ws hs hm
   induction bf with
   |nil=>cases hr
   |cons d ds ih=>
    simp only[D.ai,cx] at hr;rcases hr with h |h
    .exact⟨0,d,rfl,h⟩
    .obtain⟨i,e,h1,h2⟩:=ih h;exact⟨i+1,e,by simpa using h1,h2⟩
  obtain⟨d,h1,h2⟩:=hi;exact wW (j:=O pre+1+i) (by
   rw[cR (by omega),show O pre+1+i-O pre=i+1 by omega];simpa using h1) r h2)
 have ho:∀j,lab2 (bK ids (O H.bx) j)=di j:=λj=>by
  by_cases hlt:j<O ids
  .have ho:bK ids (O H.bx) j=ids[j]:=by simp[bK,hlt]
   have kN:ids[j]<O H.bx:=hv _ (dw hlt);rw[ho,l1 _ kN,hk j hlt];simp[zu,hlt]
  .have ho:bK ids (O H.bx) j=O H.bx+(j-O ids):=by simp[bK,hlt]
   rw[ho,l2 _ (by omega)];congr 1
   omega
 have e1:∀{i},i∈ids->bK ids (O H.bx) (bU ids i)=i:=λh=>NV h;have gQ:∀j,j∉ids->j<O H.bx->(ow H ids Hs).bx[j]? =H.bx[j]?:=λj h1 h2=>by
  unfold ow;simp only;rw[aT (by rw[ic];exact h2),wH _ _ _ _ h1]
 have hb:∀(i:Nat) cs,(ow H ids Hs).bx[i]? =Z cs->(i<O H.bx/\H.bx[i]? =Z cs)\/∃j cs0,Hs.bx[j]? =Z cs0/\cs=D.aU (bK ids (O H.bx)) cs0:=λi cs hi=>by
  by_cases cU:i∈ids
  .have h1:=qb cU;obtain⟨h2,h3⟩:=af.1 h1;have h4:Hs.bx[bU ids i]? =Z Hs.bx[bU ids i]:=aD (by omega);have h5:=IQ hn hv hl h4;rw[e1 cU,hi] at h5;exact .inr ⟨_,_,h4,by cases h5;rfl⟩
  .by_cases hlt:i<O H.bx
   .rw[gQ i cU hlt] at hi;exact .inl ⟨hlt,hi⟩
   .unfold ow at hi;simp only at hi;rw[cR (by rw[ic];omega),ic,cG] at hi;obtain⟨cs0,h1,rfl⟩:=ak.1 hi;rw[lN] at h1;exact .inr ⟨_,cs0,h1,rfl⟩
 have hlen:O (ow H ids Hs).bx=O H.bx+(O Hs.bx-O ids):=by
  unfold ow;simp[ic]
 have yA:=ws.mod.map (H2:=ow H ids Hs) (g:=bK ids (O H.bx)) (lab2:=lab2) (λ_ _ h=>IQ hn hv hl h) λi _ _=>ho i;rw[N2 oo,N2 jM,e1 hm] at yA;refine⟨lab2,⟨yA,λx h=>?_,λx h=>?_,λi cs hi x hx=>?_,λi cs hi=>?_,λj hj=>?_⟩,l1,gQ⟩
 .have h2:=ws.at_ (bU ids x.1,D.aU (bU ids) x.2) (cA.2 ⟨x,h,rfl⟩);have h3:=IQ hn hv hl h2;dsimp only at h3;rw[e1 (hx x h),N2 λr hr=>hs _ (hx x h) _ (w.at_ x h) r hr] at h3;exact h3
 .obtain⟨n,h2⟩:=ws.al (bU ids x.1,D.aU (bU ids) x.2) (cA.2 ⟨x,h,rfl⟩);have h3:=ho (bU ids x.1);rw[e1 (hx x h)] at h3;exact⟨n,h3.trans h2⟩
 .rcases hb i cs hi with⟨_,h⟩ |⟨j,cs0,h,rfl⟩
  .have:=w.rf i cs h x hx;rw[l1 x (w.lt this)];exact this
  .rw[si] at hx;obtain⟨y,hy,rfl⟩:=cA.1 hx;rw[ho];exact ws.rf j cs0 h y hy
 .rcases hb i cs hi with⟨_,h⟩ |⟨j,cs0,h,rfl⟩
  .exact w.tk i cs h
  .rw[sj];exact ws.tk j cs0 h
 .rw[l2 j (by rw[hlen] at hj;omega)];exact ws.fr _ (by rw[hlen] at hj;omega)
theorem Wg.call{c:br}(w:Wg κ H lab m pre bf fx S){f:Nat}{args:List D}{S':List (List (Int×List α))}{K:Nat}(ht:D.aC args=[])(ha:∀x∈D.ai args,lab x≠.none)(hm:m∈D.ai args)
    (vp:∀ids,nu H ids->(∀x∈D.ai args,x∈ids)->∀x∈fx,x.1∈ids)
    (h:∀(g:Nat->Nat) (H':Hp) (bh:Nat->dK),Wg κ H' bh (g m) (D.aU g pre) (D.aU g bf) (wX g fx) S->(∀x∈D.ai args,bh (g x)=lab x)->O H'.bx<=O H.bx->H'.tk=[]->
     ∃Hs di,c f (D.aU g args) H'=Z (.val .undef,Hs)/\Wg κ Hs di (g m) (D.aU g pre) (D.aU g bf) (wX g fx) S'/\O H'.bx<=O Hs.bx/\O Hs.bx<=O H'.bx+K/\∀j,j<O H'.bx->di j=bh j):
    ∃H2 lab2,au c f args H=Z (.val .undef,H2)/\Wg κ H2 lab2 m pre bf fx S'/\H2.tk=H.tk/\O H.bx<=O H2.bx/\O H2.bx<=O H.bx+K/\(∀j,j<O H.bx->lab2 j=lab j)/\∀j,j<O H.bx->lab j= .none->H2.bx[j]? =H.bx[j]?:=by
 obtain⟨ids,i1,i2,i3,i4,i5,i6⟩:=NW (c:=c) (f:=f) (args:=args) w.ok ht w.tk λx hx=>w.lt (ha x hx);have hm:=i3 m hm;have hx:=vp ids i4 i3;have ws:=w.sub i4 i2 hm hx;have bW:O (kg H ids).bx=O ids:=by unfold kg;simp
 obtain⟨Hs,di,h1,h2,h3,hK,h4⟩:=h (bU ids) _ _ ws (λx hx=>zw (i3 x hx)) (by rw[bW];exact IJ _ _ i1 i2) rfl;rw[bW] at h3 h4 hK;have N3:=i5 (λx=>lab x≠.none) ha λi cs _ hi x hx=>w.rf i cs hi x hx;have Ep:∀j,lab j= .none->j∉ids:=λj hj cU=>N3 j cU hj;obtain⟨k,hk,jB⟩:=i6 _ _ h1 h3 h2.ok (λcs hcs=>by
  obtain⟨i,hi⟩:=dV hcs;exact h2.tk i cs hi) (by simp[D.refs]) rfl
 rcases hk with⟨rfl,-,hk⟩ |rfl
 .have hr:∀i,i<O ids->∀cs,Hs.bx[i]? =Z cs->∀x∈D.ai cs,x<O ids:=λi hi cs hcs=>by
   refine hk cs ?_;have :(Hs.bx.take (O ids))[i]? =Z cs:=by rw[gL,if_pos hi,hcs]
   exact bB this
  have dN:=(af.1 (qb hm)).1;obtain⟨afl,t1,t2⟩:=h2.take h3 hr dN (λx IV=>by
   obtain⟨y,hy,rfl⟩:=cA.1 IV;exact(af.1 (qb (hx y hy))).1) []
  have lu:(Hs.bx.take (O ids)).length=O ids:=by simp;omega
  obtain⟨lab2,o1,o2,o3⟩:=w.out i1 i4 i2 hm hx t1 (by rw[lu];exact aK _) λj hj=>(t2 j hj).trans (h4 j hj);have e:ow H ids ⟨Hs.bx.take (O ids),[]⟩=⟨bZ H.bx ids ((Hs.bx.take (O ids)).map (D.aU (bK ids (O H.bx))))++((Hs.bx.drop (O ids)).map (D.aU (bK ids (O H.bx)))).take 0,H.tk⟩:=by
   unfold ow;simp only[Q8,Nat.min_self,tY];have ed:(Hs.bx.take (O ids)).drop (O ids)=[]:=Gd (List.length_take_le _ _);rw[ed];rfl
  rw[e] at o1 o3;refine⟨_,lab2,jB,o1,rfl,?_,?_,o2,λj hj hl=>o3 j (Ep j hl) hj⟩
  .simp[ic]
  .simp[ic];try omega
 .obtain⟨lab2,o1,o2,o3⟩:=w.out i1 i4 i2 hm hx h2 h3 h4;have e:ow H ids Hs=⟨bZ H.bx ids ((Hs.bx.take (O ids)).map (D.aU (bK ids (O H.bx))))++((Hs.bx.drop (O ids)).map (D.aU (bK ids (O H.bx)))).take (O Hs.bx-O ids),H.tk⟩:=by
   have ed:((Hs.bx.drop (O ids)).map (D.aU (bK ids (O H.bx)))).take (O Hs.bx-O ids)=(Hs.bx.drop (O ids)).map (D.aU (bK ids (O H.bx))):=fK (by simp);rw[ed];rfl
  rw[e] at o1 o3;refine⟨_,lab2,jB,o1,rfl,?_,?_,o2,λj hj hl=>o3 j (Ep j hl) hj⟩
  .simp[ic]
  .simp[ic];try omega

end Go.Vs

namespace Go.Vs

variable {α : Type} {κ : Kd α}
theorem Wg.loc{H:Hp}{lab:Nat->dK}{m:Nat}{pre bf:List D}{fx:List (Nat×List D)}{S:List (List (Int×List α))}(w:Wg κ H lab m pre bf fx S){nb:Nat}(fl:nb<=O H.bx)(hx:∀x∈fx,x.1<nb)(hm:m<nb)(aO:H.tk=[])(o:Out)(ho:∀f g,o.ren f g=Z o):
    ∃H3 eG,(∀e,∃e3,bX nb 0 (o,⟨e,H⟩)=(o,⟨e3,H3⟩)/\(e3=e\/e3=e.map λy=>(y.1,(y.2.ren (below nb) (below 0)).getD .dead)))/\Wg κ H3 eG m pre bf fx S/\H3.tk=[]/\nb<=O H3.bx/\O H3.bx<=O H.bx/\(∀j,j<nb->eG j=lab j)/\∀j,j<nb->H3.bx[j]? =H.bx[j]?:=by
 unfold bX;dsimp only;simp only[if_pos (show nb<=O H.bx/\0<=O H.tk from⟨fl,bD _⟩),ho];cases IV:aH (D.aZ (below nb) (below 0)) (H.bx.take nb) with
 |none=>exact⟨H,lab,λe=>⟨e,rfl,.inl rfl⟩,w,aO,fl,aK _,λ_ _=>rfl,λ_ _=>rfl⟩
 |some bx=>
  have hg:∀r j,below nb r=Z j->j=id r:=λr j h=>by
   unfold below at h;split at h
   .cases h;rfl
   .cases h
  have ht:∀cs∈H.bx.take nb,D.aC cs=[]:=λcs hcs=>by
   obtain⟨i,hi⟩:=dV (jn hcs);exact w.tk i cs hi
  have h1:=IL hg _ bx ht IV;have N4:∀cs:List D,D.aU id cs=cs:=vo;have h2:bx=H.bx.take nb:=by rw[h1];exact(pN λcs _=>N4 cs).trans (Le _)
  subst h2;have N5:=Ej _ _ IV;have hr:∀i,i<nb->∀cs,H.bx[i]? =Z cs->∀x∈D.ai cs,x<nb:=λi hi cs hcs x eE=>by
   have eV:cs∈H.bx.take nb:=bB (i:=i) (by rw[gL,if_pos hi,hcs]);obtain⟨j,hj⟩:=N5 cs eV x eE;unfold below at hj;split at hj
   .assumption
   .cases hj
  obtain⟨eG,t1,t2⟩:=w.take fl hr hm hx [];refine⟨⟨H.bx.take nb,H.tk.take 0⟩,eG,λe=>⟨_,rfl,.inr rfl⟩,by simpa[aO] using t1,by simp,by simp;omega,by simp;omega,t2,λj hj=>?_⟩;simp only;rw[gL,if_pos hj]

end Go.Vs

namespace Go.Vs

variable {α : Type} {κ : Kd α}
def mI(lab:Nat->dK)(n:Nat)(L:dK)(j:Nat):dK:=if j=n then L else lab j
theorem IW(lab:Nat->dK)(n:Nat)(L:dK):mI lab n L n=L:=by simp[mI]
variable{H H':Hp}{a:Int}{j i:Nat}{lab bh:Nat->dK}{β:Type}{x:β}
theorem zy(lab:Nat->dK){n:Nat}(L:dK)(h:j≠n):mI lab n L j=lab j:=by simp[mI,h]
theorem sq{n:Nat}(L:dK)(hn:lab n= .none)(h:lab j≠.none):mI lab n L j=lab j:=zy lab L λe=>h (e▸hn)
theorem ox{l:List β}{a:β}(h:(l++[a])[i]? =Z x):(i<O l/\l[i]? =Z x)\/(i=O l/\x=a):=by
 rcases fA i (O l) with hl |hl
 .rw[aT hl] at h;exact .inl ⟨hl,h⟩
 .rw[cR hl] at h;have h2:=(af.1 h).1;have h3:i=O l:=by simp at h2;omega
  subst h3;simp at h;exact .inr ⟨rfl,h.symm⟩
theorem iB{l:List β}(h:l[i]? =Z x)(a:β):(l++[a])[i]? =Z x:=by
 rw[aT (af.1 h).1,h]
theorem oy{l:List β}{a:β}{k:Nat}(h:(l.set k a)[i]? =Z x):(i=k/\x=a)\/(i≠k/\l[i]? =Z x):=by
 rw[nU] at h;split at h
 .rename_i e;split at h
  .cases h;exact .inl ⟨e.symm,rfl⟩
  .cases h
 .rename_i e;exact .inr ⟨λh=>e h.symm,h⟩
theorem Es:∀(a b:List D),D.ai (a++b)=D.ai a++D.ai b
 |[],_=>rfl
 |x::a,b=>by simp[D.ai,Es a b]
theorem IX:∀(a b:List D),D.aC (a++b)=D.aC a++D.aC b
 |[],_=>rfl
 |x::a,b=>by simp[D.aC,IX a b]
theorem N6(a b:D)(r:List D):ay (a::b::r)=false:=by cases a<;>rfl
theorem Vd:∀{cs:List D},2<=O cs->ay cs=false
 |[],_=>rfl
 |[_],h=>by simp at h
 |x::y::r,_=>N6 x y r
theorem jf.oz{s:Nat}{d:D}{R:List (Int×List α)}(r:jf κ H lab s d R)
    (h2:∀i,lab i≠.none->bh i=lab i) (h1:∀i cs,lab i= .state s\/(∃f,lab i= .row s f)->H.bx[i]? =Z cs->H'.bx[i]? =Z cs):jf κ H' bh s d R:=by
 refine r.other λm hm=>⟨h2 m ?_,λcs=>h1 m cs hm⟩;rcases hm with h |⟨f,h⟩<;>rw[h]<;>simp
theorem jf.refs{s:Nat}{d:D}{R:List (Int×List α)}(r:jf κ H lab s d R):∀x∈d.refs,lab x≠.none:=by
 intro x hx;rcases r with⟨rfl,_⟩ |⟨k,cs,rfl,h2,_⟩
 .cases hx
 .have :x=k:=by simpa[D.refs] using hx
  rw[this,h2];simp
theorem jf.bk{s:Nat}{d:D}{R:List (Int×List α)}(r:jf κ H lab s d R):d.bk=[]:=by
 rcases r with⟨rfl,_⟩ |⟨k,cs,rfl,_⟩<;>rfl
theorem fR.refs{d:D}{l:List α}(r:fR κ H d l):∀x∈d.refs,x∈cQ d:=by
 intro x hx;cases r with
 |aj=>cases hx
 |emp=>cases hx
 |row i l hb hne=>simpa[D.refs,cQ] using hx
theorem fR.one{d:D}{l:List α}(r:fR κ H d l):d.one=true:=by cases r<;>rfl
theorem fR.bk{d:D}{l:List α}(r:fR κ H d l):d.bk=[]:=by cases r<;>rfl

variable{m : Nat} {pre bf : List D} {fx : List (Nat × List D)} {S : List (List (Int × List α))}
theorem Wg.mono(w:Wg κ H lab m pre bf fx S)(h2:∀i,lab i≠.none->bh i=lab i)
    (h1:∀i cs,lab i≠.none->lab i≠.state (O S)->H.bx[i]? =Z cs->H'.bx[i]? =Z cs)
    (rf:∀(i:Nat) cs,H'.bx[i]? =Z cs->∀x∈D.ai cs,bh x≠.none) (tk:∀(i:Nat) cs,H'.bx[i]? =Z cs->D.aC cs=[]) (fr:∀j,O H'.bx<=j->bh j= .none):Wg κ H' bh m pre bf fx S:=by
 obtain⟨m1,sd,m2,m3⟩:=w.mod;refine⟨⟨?_,sd,h1 _ _ (by rw[m1];simp) (by rw[m1];simp) m2,?_⟩,λx hx=>?_,λx hx=>?_,rf,tk,fr⟩
 .rw[h2 m (by rw[m1];simp)];exact m1
 .rcases m3 with m3 |⟨s0,ds,q1,q2,q3,q4,q5⟩
  .exact .inl m3
  .refine .inr ⟨s0,ds,q1,by rw[h2 s0 (by rw[q2];simp)];exact q2,h1 _ _ (by rw[q2];simp) (by rw[q2];simp) q3,q4,λs R hR=>?_⟩;obtain⟨d,w1,w2⟩:=q5 s R hR;have bW:=(af.1 hR).1;refine⟨d,w1,w2.oz h2 λi cs hi=>?_⟩;refine h1 i cs ?_ ?_
   .rcases hi with h |⟨f,h⟩<;>rw[h]<;>simp
   .rcases hi with h |⟨f,h⟩
    .rw[h];simp;omega
    .rw[h];simp
 .obtain⟨n,hn⟩:=w.al x hx;exact h1 _ _ (by rw[hn];simp) (by rw[hn];simp) (w.at_ x hx)
 .obtain⟨n,hn⟩:=w.al x hx;exact⟨n,by rw[h2 _ (by rw[hn];simp),hn]⟩
theorem Wg.IY(w:Wg κ H lab m pre bf fx S)(cs:List D)(hr:∀x∈D.ai cs,lab x≠.none)(ht:D.aC cs=[])(tk:List Nat)(L:dK):Wg κ ⟨H.bx++[cs],tk⟩ (mI lab (O H.bx) L) m pre bf fx S:=by
 have hN:=w.fr _ (aK _);have ho:∀x,lab x≠.none->mI lab (O H.bx) L x≠.none:=λx hx=>by rw[sq L hN hx];exact hx
 refine w.mono (λi hi=>sq L hN hi) (λi cs _ _ h=>iB h _) (λi ds hi x hx=>?_) (λi ds hi=>?_) λj hj=>?_
 .rcases ox hi with⟨_,h⟩ |⟨_,rfl⟩
  .exact ho x (w.rf i ds h x hx)
  .exact ho x (hr x hx)
 .rcases ox hi with⟨_,h⟩ |⟨_,rfl⟩
  .exact w.tk i ds h
  .exact ht
 .simp at hj;rw[zy lab L (by omega)];exact w.fr j (by omega)
theorem Wg.N7(w:Wg κ H lab m pre bf fx S){d d':D}{R:List (Int×List α)}{l:List α}(hd:jf κ H lab (O S) d R)(hr:fR κ H d' l)(hl:∀i∈cQ d',lab i= .row (O S) (O R))(po:O R<1000000)(hne:R=[]->d= .p .aj):
    ∃H1,dx κ.rt 2 32 d 1 [.p (.int .i64 a),d'] H=Z (.ae (O H.bx) κ.rt (O R+1) 2,H1)/\H1.tk=H.tk/\O H1.bx=O H.bx+1/\Wg κ H1 (mI lab (O H.bx) (.state (O S))) m pre bf fx S/\
     jf κ H1 (mI lab (O H.bx) (.state (O S))) (O S) (.ae (O H.bx) κ.rt (O R+1) 2) (R++[(a,l)])/\∀j cs,lab j≠.state (O S)->H.bx[j]? =Z cs->H1.bx[j]? =Z cs:=by
 have hN:=w.fr _ (aK _);have hro:roomy (O R+1) 32=true:=by simp[roomy];omega
 have kP:=hr.bk;have Et:∀x∈d'.refs,lab x≠.none:=λx hx=>by rw[hl x (hr.refs x hx)];simp
 have ho:∀x,lab x≠.none->mI lab (O H.bx) (.state (O S)) x≠.none:=λx hx=>by rw[sq _ hN hx];exact hx
 have ny:∀i∈cQ d',i<O H.bx:=λi hi=>w.lt (by rw[hl i hi];simp);rcases hd with⟨rfl,rfl⟩ |⟨k,cs,rfl,h2,h3,h4,h5⟩
 .refine⟨⟨H.bx++[[.p (.int .i64 a),d']],H.tk⟩,by simp[dx,iT,show roomy 1 32=true from rfl],rfl,by simp,w.IY _ (by simpa[D.ai,D.refs] using Et) (by simp[D.aC,D.bk,kP]) _ _,?_,λj cs _ h=>iB h _⟩;refine .inr ⟨O H.bx,[.p (.int .i64 a),d'],rfl,IW _ _ _,by simp,rfl,λf a2 l2 hf=>?_⟩;obtain⟨rfl,h⟩:f=0/\(a2,l2)=(a,l):=by
   cases f with
   |zero=>simp at hf;exact⟨rfl,by rw[<-hf.1,<-hf.2]⟩
   |succ f=>simp at hf
  cases h;refine⟨rfl,d',rfl,hr.other λi hi=>?_,λi hi=>?_⟩
  .exact aT (ny i hi)
  .rw[sq _ hN (by rw[hl i hi];simp)];exact hl i hi
 .by_cases iy:R=[]
  .cases hne iy
  .have hRp:0<O R:=wh.2 iy;have hne:cs≠[]:=λh=>by rw[h] at h4;simp at h4;omega
   have hmap:ay cs=false:=Vd (by omega);have Bk:k<O H.bx:=(af.1 h3).1;have kG:∀i,i≠k->∀es,H.bx[i]? =Z es->(H.bx.set k []++[cs++[.p (.int .i64 a),d']])[i]? =Z es:=λi hi es h=>by
    rw[aT (by simp;exact(af.1 h).1),bp (Ne.symm hi),h]
   have hb:∀i es,(H.bx.set k []++[cs++[.p (.int .i64 a),d']])[i]? =Z es->es=[]\/es=cs++[.p (.int .i64 a),d']\/H.bx[i]? =Z es:=λi es h=>by
    rcases ox h with⟨_,h⟩ |⟨_,rfl⟩
    .rcases oy h with⟨_,rfl⟩ |⟨_,h⟩
     .exact .inl rfl
     .exact .inr (.inr h)
    .exact .inr (.inl rfl)
   have wY:∀x∈D.ai (cs++[.p (.int .i64 a),d']),lab x≠.none:=λx hx=>by
    rw[Es] at hx;rcases cx.1 hx with h |h
    .exact w.rf k cs h3 x h
    .exact Et x (by simpa[D.ai,D.refs] using h)
   refine⟨⟨H.bx.set k []++[cs++[.p (.int .i64 a),d']],H.tk⟩,?_,rfl,by simp,?_,?_,λj es hj h=>?_⟩
   .have h6:¬(O R+1)*2<=O cs:=by omega
    have h7:O R*2<=O cs:=by omega
    have h8:cs.take (O R*2)=cs:=fK (by omega);simp[dx,h3,hmap,hne,hro,h6,h7,h8]
   .refine w.mono (λi hi=>sq _ hN hi) (λi es r8 bJ h=>kG i (λe=>bJ (by rw[e];exact h2)) es h) (λi es hi x hx=>?_) (λi es hi=>?_) λj hj=>?_
    .rcases hb i es hi with rfl |rfl |h
     .cases hx
     .exact ho x (wY x hx)
     .exact ho x (w.rf i es h x hx)
    .rcases hb i es hi with rfl |rfl |h
     .rfl
     .rw[IX,w.tk k cs h3];simp[D.aC,D.bk,kP]
     .exact w.tk i es h
    .simp at hj;rw[zy lab _ (by omega)];exact w.fr j (by omega)
   .refine .inr ⟨O H.bx,cs++[.p (.int .i64 a),d'],by simp,IW _ _ _,by simp,by simp;omega,λf a2 l2 hf=>?_⟩;rcases ox hf with⟨dZ,hf⟩ |⟨rfl,h⟩
    .obtain⟨e1,d2,e2,e3,e4⟩:=h5 f a2 l2 hf;refine⟨by rw[aT (by omega),e1],d2,by rw[aT (by omega),e2],e3.other λi hi=>?_,λi hi=>?_⟩
     .have cW:=w.lt (x:=i) (by rw[e4 i hi];simp);have hik:k≠i:=λe=>by have:=e4 i hi;rw[<-e,h2] at this;cases this
      show(H.bx.set k []++_)[i]? =_;rw[aT (by simpa using cW),bp hik]
     .rw[sq _ hN (by rw[e4 i hi];simp)];exact e4 i hi
    .cases h;refine⟨by rw[cR (by omega)];simp[h4,tV],d',by rw[cR (by omega)];simp[h4,tV,tZ],hr.other λi hi=>?_,λi hi=>?_⟩
     .have hik:k≠i:=λe=>by have:=hl i hi;rw[<-e,h2] at this;cases this
      show(H.bx.set k []++_)[i]? =_;rw[aT (by simpa using ny i hi),bp hik]
     .rw[sq _ hN (by rw[hl i hi];simp)];exact hl i hi
   .exact kG j (λe=>hj (by rw[e];exact h2)) es h
theorem Wg.N8(w:Wg κ H lab m pre bf fx S){d:D}{R:List (Int×List α)}(hd:jf κ H lab (O S) d R)(Ve:O S<1000000):
    ∃sd H1,H.bx[m]? =Z (pre++sd::bf)/\((S=[]->sd= .p .aj)->dx κ.st 1 24 sd 1 [d] H=Z (.ae (O H.bx) κ.st (O S+1) 1,H1)/\H1.tk=H.tk/\O H1.bx=O H.bx+1/\H1.bx[m]? =Z (pre++sd::bf)/\
     Wg κ ⟨H1.bx.set m (pre++ .ae (O H.bx) κ.st (O S+1) 1::bf),H1.tk⟩ (mI lab (O H.bx) .states) m pre bf fx (S++[R])/\∀j cs,lab j= .none->H.bx[j]? =Z cs->(H1.bx.set m (pre++ .ae (O H.bx) κ.st (O S+1) 1::bf))[j]? =Z cs):=by
 have hN:=w.fr _ (aK _);have kP:=hd.bk;have hro:roomy (O S+1) 24=true:=by simp[roomy];omega
 have ho:∀x,lab x≠.none->mI lab (O H.bx) .states x≠.none:=λx hx=>by rw[sq _ hN hx];exact hx
 obtain⟨m1,sd,m2,m3⟩:=w.mod;have dN:m<O H.bx:=w.lt (by rw[m1];simp);have key:∀(H1:Hp) (ds:List D),H1.tk=H.tk->O H1.bx=O H.bx+1->(∀(i:Nat) es,lab i≠.states->H.bx[i]? =Z es->H1.bx[i]? =Z es)->H1.bx[O H.bx]? =Z (ds++[d])->(∀(i:Nat) es,H1.bx[i]? =Z es->es=[]\/es=ds++[d]\/H.bx[i]? =Z es)->
     O ds=O S->(∀(s:Nat) R,S[s]? =Z R->∃d,ds[s]? =Z d/\jf κ H lab s d R)->(∀x∈D.ai ds,lab x≠.none)->D.aC ds=[]->
     H1.bx[m]? =Z (pre++sd::bf)/\Wg κ ⟨H1.bx.set m (pre++ .ae (O H.bx) κ.st (O S+1) 1::bf),H1.tk⟩ (mI lab (O H.bx) .states) m pre bf fx (S++[R])/\∀j cs,lab j= .none->H.bx[j]? =Z cs->(H1.bx.set m (pre++ .ae (O H.bx) κ.st (O S+1) 1::bf))[j]? =Z cs:=by
  intro H1 ds k1 k2 k3 k4 k5 k6 k7 k8 k9;have iA:=k3 m _ (by rw[m1];simp) m2;have N9:m<O H1.bx:=(af.1 iA).1;have hx:∀(i:Nat) es,i≠m->lab i≠.states->H.bx[i]? =Z es->(H1.bx.set m (pre++ .ae (O H.bx) κ.st (O S+1) 1::bf))[i]? =Z es:=λi es h1 h2 h3=>by
   rw[bp (Ne.symm h1)];exact k3 i es h2 h3
  have nv:∀(i:Nat) es,lab i≠.none->lab i≠.states->lab i≠.model->H.bx[i]? =Z es->(H1.bx.set m (pre++ .ae (O H.bx) κ.st (O S+1) 1::bf))[i]? =Z es:=λi es _ h2 h3 h=>hx i es (λe=>h3 (by rw[e];exact m1)) h2 h;have eJ:∀{s:Nat} {d:D} {R:List (Int×List α)},jf κ H lab s d R->jf κ ⟨H1.bx.set m (pre++ .ae (O H.bx) κ.st (O S+1) 1::bf),H1.tk⟩ (mI lab (O H.bx) .states) s d R:=λ{s d R} h=>
   h.oz (λi hi=>sq _ hN hi) λi cs hi=>by
    refine nv i cs ?_ ?_ ?_
    .rcases hi with h |⟨f,h⟩<;>rw[h]<;>simp
    .rcases hi with h |⟨f,h⟩<;>rw[h]<;>simp
    .rcases hi with h |⟨f,h⟩<;>rw[h]<;>simp
  have hc:∀(i:Nat) es,(H1.bx.set m (pre++ .ae (O H.bx) κ.st (O S+1) 1::bf))[i]? =Z es->es=(pre++ .ae (O H.bx) κ.st (O S+1) 1::bf)\/es=[]\/es=ds++[d]\/H.bx[i]? =Z es:=λi es h=>by
   rcases oy h with⟨_,rfl⟩ |⟨_,h⟩
   .exact .inl rfl
   .exact .inr (k5 i es h)
  refine⟨iA,⟨⟨?_,.ae (O H.bx) κ.st (O S+1) 1,by simp[N9],.inr ⟨O H.bx,ds++[d],by simp,IW _ _ _,?_,by simp[k6],λs R' hR=>?_⟩⟩,λx hx=>?_,λx hx=>?_,λi es hi x eE=>?_,λi es hi=>?_,λj hj=>?_⟩,λj cs hj h=>hx j cs (λe=>by rw[e,m1] at hj;cases hj) (by rw[hj];simp) h⟩
  .rw[sq _ hN (by rw[m1];simp)];exact m1
  .show(H1.bx.set m _)[O H.bx]? =_;rw[bp (by omega),k4]
  .rcases ox hR with⟨hl,hR⟩ |⟨rfl,rfl⟩
   .obtain⟨d2,e1,e2⟩:=k7 s R' hR;exact⟨d2,iB e1 _,eJ e2⟩
   .exact⟨d,by rw[<-k6];simp,eJ hd⟩
  .obtain⟨n,hn⟩:=w.al x hx;exact nv _ _ (by rw[hn];simp) (by rw[hn];simp) (by rw[hn];simp) (w.at_ x hx)
  .obtain⟨n,hn⟩:=w.al x hx;exact⟨n,by rw[sq _ hN (by rw[hn];simp),hn]⟩
  .rcases hc i es hi with rfl |rfl |rfl |h
   .rw[Es] at eE;have :(x∈D.ai pre\/x∈D.ai bf)\/x=O H.bx:=by
     rcases cx.1 eE with h |h
     .exact .inl (.inl h)
     .simp only[D.ai,D.refs,jo,fF,cq] at h;rcases h with h |h
      .exact .inr h
      .exact .inl (.inr h)
    rcases this with h |rfl
    .refine ho x (w.rf m _ m2 x ?_);rw[Es];rcases h with h |h
     .exact cx.2 (.inl h)
     .exact cx.2 (.inr (by simp[D.ai,h]))
    .rw[IW];simp
   .cases eE
   .rw[Es] at eE;rcases cx.1 eE with h |h
    .exact ho x (k8 x h)
    .exact ho x (hd.refs x (by simpa[D.ai] using h))
   .exact ho x (w.rf i es h x eE)
  .rcases hc i es hi with rfl |rfl |rfl |h
   .have:=w.tk m _ m2;rw[IX] at this|-;simp only[D.aC,tX] at this;simp[D.aC,D.bk,this.1,this.2.2]
   .rfl
   .rw[IX,k9];simp[D.aC,kP]
   .exact w.tk i es h
  .simp[k2] at hj;rw[zy lab _ (by omega)];exact w.fr j (by omega)
 rcases m3 with⟨rfl,rfl⟩ |⟨s0,ds,rfl,q2,q3,q4,q5⟩
 .refine⟨_,⟨H.bx++[[d]],H.tk⟩,m2,λ_=>⟨by simp[dx,iT,show roomy 1 24=true from rfl],rfl,by simp,?_⟩⟩;exact key ⟨H.bx++[[d]],H.tk⟩ [] rfl (by simp) (λi es _ h=>iB h _) (by simp) (λi es h=>by
   rcases ox h with⟨_,h⟩ |⟨_,h⟩
   .exact .inr (.inr h)
   .exact .inr (.inl h)) rfl (λs R h=>by simp at h) (λx hx=>by cases hx) rfl
 .refine⟨_,⟨H.bx.set s0 []++[ds++[d]],H.tk⟩,m2,λhS=>?_⟩;have Oa:S≠[]:=λh=>by cases hS h
  have Ob:0<O S:=wh.2 Oa;have hne:ds≠[]:=λh=>by rw[h] at q4;simp at q4;omega
  have hmap:ay ds=false:=by
   have h0:S[0]? =Z S[0]:=aD Ob;obtain⟨d0,e1,e2⟩:=q5 0 _ h0;cases ds with
   |nil=>rfl
   |cons x r=>
    have :x=d0:=by simpa using e1
    subst this;cases r with
    |nil=>rcases e2 with⟨rfl,_⟩ |⟨k,cs,rfl,_⟩<;>rfl
    |cons y r=>exact N6 x y r
  have h6:¬O S+1<=O ds:=by omega
  have h7:O S<=O ds:=by omega
  have h8:ds.take (O S)=ds:=fK (by omega);refine⟨by simp[dx,q3,hmap,hne,hro,h6,h7,h8],rfl,by simp,?_⟩;refine key ⟨H.bx.set s0 []++[ds++[d]],H.tk⟩ ds rfl (by simp) (λi es h1 h=>?_) (by simp) (λi es h=>?_) q4 q5 (w.rf s0 ds q3) (w.tk s0 ds q3)
  .refine iB ?_ _;rw[bp (λe=>h1 (by rw[<-e];exact q2)),h]
  .rcases ox h with⟨_,h⟩ |⟨_,h⟩
   .rcases oy h with⟨_,h⟩ |⟨_,h⟩
    .exact .inl h
    .exact .inr (.inr h)
   .exact .inr (.inl h)
theorem Wg.rowAt(w:Wg κ H lab m pre bf fx S){s f:Nat}{R:List (Int×List α)}{l:List α}(hR:S[s]? =Z R)(hf:R[f]? =Z (a,l)):
    ∃s0 ds k cs d',H.bx[m]? =Z (pre++ .ae s0 κ.st (O S) 1::bf)/\lab s0= .states/\H.bx[s0]? =Z ds/\O ds=O S/\ds[s]? =Z (.ae k κ.rt (O R) 2)/\lab k= .state s/\H.bx[k]? =Z cs/\O cs=O R*2/\cs[2*f]? =Z (.p (.int .i64 a))/\cs[2*f+1]? =Z d'/\fR κ H d' l/\(∀i∈cQ d',lab i= .row s f)/\
     ∀(i:Nat) (l':List α) (tk:List Nat),d'= .ae i κ.e (O l) κ.sz->O l'=O l->l'≠[]->Wg κ ⟨H.bx.set i (κ.enc l'),tk⟩ lab m pre bf fx (S.set s (R.set f (a,l'))):=by
 obtain⟨h1,sd,h2,h3⟩:=w.mod;rcases h3 with⟨-,rfl⟩ |⟨s0,ds,rfl,q2,q3,q4,q5⟩
 .simp at hR
 obtain⟨d,w1,w2⟩:=q5 s R hR;rcases w2 with⟨-,rfl⟩ |⟨k,cs,rfl,w3,w4,w5,w6⟩
 .simp at hf
 obtain⟨e1,d',e2,e3,e4⟩:=w6 f a l hf;refine⟨s0,ds,k,cs,d',h2,q2,q3,q4,w1,w3,w4,w5,e1,e2,e3,e4,λi l' tk hd hl' hne=>?_⟩;have hi:lab i= .row s f:=e4 i (by rw[hd];simp[cQ]);have cW:i<O H.bx:=w.lt (by rw[hi];simp);have keep:∀j cs',lab j≠.row s f->H.bx[j]? =Z cs'->(H.bx.set i (κ.enc l'))[j]? =Z cs':=by
  intro j cs' n2 hj;rw[bp (λe=>n2 (by rw[<-e];exact hi)),hj]
 refine⟨⟨h1,.ae s0 κ.st (O S) 1,keep m _ (by rw[h1];simp) h2,.inr ⟨s0,ds,by simp,q2,keep s0 _ (by rw[q2];simp) q3,by simpa using q4,λs' R' ie=>?_⟩⟩,λx hx=>?_,w.al,λj es hj x eE=>?_,λj es hj=>?_,λj hj=>w.fr j (by simpa using hj)⟩
 .by_cases hs:s'=s
  .subst hs;have bW:s'<O S:=(af.1 hR).1;rw[eA bW] at ie;cases ie;refine⟨_,w1,.inr ⟨k,cs,by simp,w3,keep k _ (by rw[w3];simp) w4,by simpa using w5,?_⟩⟩;intro f' a' Em hf';have dZ:f<O R:=(af.1 hf).1;by_cases iH:f'=f
   .subst iH;rw[eA dZ] at hf';cases hf';refine⟨e1,d',e2,?_,e4⟩;rw[hd,<-hl'];exact .row i _ (by simp[cW]) hne
   .rw[bp (Ne.symm iH)] at hf';obtain⟨g1,d2,g2,g3,g4⟩:=w6 f' a' Em hf';refine⟨g1,d2,g2,?_,g4⟩;cases g3 with
    |aj=>exact .aj
    |emp=>exact .emp
    |row i3 l3 hb afn=>
     have hi3:=g4 i3 (by simp[cQ]);exact .row i3 _ (keep i3 _ (by rw[hi3];simp[iH]) hb) afn
  .rw[bp (Ne.symm hs)] at ie;obtain⟨d2,g1,g2⟩:=q5 s' R' ie;refine⟨d2,g1,g2.oz (λ_ _=>rfl) λj cs' hj=>keep j cs' ?_⟩;rcases hj with h |⟨f',h⟩
   .rw[h];simp
   .rw[h];simp[hs]
 .obtain⟨n,hn⟩:=w.al x hx;exact keep _ _ (by rw[hn];simp) (w.at_ x hx)
 .rcases oy hj with⟨_,rfl⟩ |⟨_,h⟩
  .rw[κ.refs] at eE;cases eE
  .exact w.rf j es h x eE
 .rcases oy hj with⟨_,rfl⟩ |⟨_,h⟩
  .exact κ.bk _
  .exact w.tk j es h
def qT(lab:Nat->dK)(ids:List Nat)(L:dK)(j:Nat):dK:=if j∈ids then L else lab j
theorem Wg.afp(w:Wg κ H lab m pre bf fx S){ts:List (List D)}{ids:List Nat}(L:dK)(hL:L≠.none)(h1:∀i∈ids,O H.bx<=i/\i<O H.bx+O ts)(h2:∀cs∈ts,(∀x∈D.ai cs,x∈ids)/\D.aC cs=[])(tk:List Nat):
    Wg κ ⟨H.bx++ts,tk⟩ (qT lab ids L) m pre bf fx S/\(∀i,lab i≠.none->qT lab ids L i=lab i)/\(∀i,i<O H.bx->qT lab ids L i=lab i)/\(∀i∈ids,qT lab ids L i=L)/\∀(i:Nat) cs,H.bx[i]? =Z cs->(H.bx++ts)[i]? =Z cs:=by
 have q1:∀i,i<O H.bx->qT lab ids L i=lab i:=λi hi=>by
  unfold qT;rw[if_neg (λh=>by have:=(h1 i h).1;omega)]
 have q0:∀i,lab i≠.none->qT lab ids L i=lab i:=λi hi=>q1 i (w.lt hi);have q2:∀i∈ids,qT lab ids L i=L:=λi hi=>by unfold qT;rw[if_pos hi]
 have q3:∀(i:Nat) cs,H.bx[i]? =Z cs->(H.bx++ts)[i]? =Z cs:=λi cs h=>by
  rw[aT (af.1 h).1,h]
 have q4:∀(i:Nat) cs,(H.bx++ts)[i]? =Z cs->H.bx[i]? =Z cs\/cs∈ts:=λi cs h=>by
  rcases fA i (O H.bx) with hl |hl
  .rw[aT hl] at h;exact .inl h
  .rw[cR hl] at h;exact .inr (bB h)
 refine⟨w.mono q0 (λi cs _ _ h=>q3 i cs h) (λi cs hi x hx=>?_) (λi cs hi=>?_) λj hj=>?_,q0,q1,q2,q3⟩
 .rcases q4 i cs hi with h |h
  .have:=w.rf i cs h x hx;rw[q0 x this];exact this
  .rw[q2 x ((h2 cs h).1 x hx)];exact hL
 .rcases q4 i cs hi with h |h
  .exact w.tk i cs h
  .exact(h2 cs h).2
 .simp at hj;unfold qT;rw[if_neg (λh=>by have:=(h1 j h).2;omega)];exact w.fr j (by omega)

end Go.Vs
