/-
  A value-level evaluator for Go functions; the functions of this cut by it; plain laws. Part 3 of 6.
-/
import Derived.Test.YtalgjkpkkdljaaaDoorG2
import Derived.LoopN
import Derived.Scope
import Derived.Laws.ResultCell
import Derived.Recover
import Derived.Test.YtalgjkpkkdljaaaDoorG1
import Derived.Carry
import Derived.ChangeSlices
import Derived.ChangeMaps5
import Derived.RowKit
import Derived.SizedLaws
import Derived.Handed
namespace Go.Vs
variable {P : Program} {W : World} {G : Nat → Option (List PD)}
def soOf(P:Program)(nt:Nat)(ops:Array Oper)(hint:Option SK)(o:Oper):Option SO:=
    if(match o.dst with |some t=>decide (t<nt) |none=>true) then
     match o.guard with
     |none=>some ⟨o.dst,kHint P o hint,none⟩
     |some (j,want)=>match(ops[j]?).bind (·.dst) with
      |some t=>some ⟨o.dst,kHint P o hint,some (t,want)⟩
      |none=>none
    else none
theorem soOf_ok{nt:Nat}{ops:Array Oper}{hint:Option SK}{o:Oper}{so:SO}(h:soOf P nt ops hint o=some so):OpOf P ops nt o so:=by
    have hk:∀k,kHint P o hint=k→∃hint,kHint P o hint=k:=fun k h=>⟨hint,h⟩
    unfold soOf at h
    obtain⟨dst,op,type,pos,after,guard⟩:=o
    generalize hd:(match dst with |some t=>decide (t<nt) |none=>true)=bb at h
    cases bb with
    |true=>
     rw[if_pos rfl] at h
     have hlt:∀t,dst=some t→t<nt:=fun t ht=>by subst ht;simpa using hd
     cases guard with
     |none=>
      cases h
      exact⟨hk _ rfl,rfl,hlt,rfl,fun j want hj=>by cases hj⟩
     |some jw=>
      obtain⟨j,want⟩:=jw
      cases ht:(ops[j]?).bind (·.dst) with
      |none=>simp only[ht] at h;cases h
      |some t=>
       simp only[ht] at h
       cases h
       exact⟨hk _ rfl,rfl,hlt,by simp only[ht],fun j' want' hj=>by cases hj;rw[ht];rfl⟩
    |false=>
     rw[if_neg (by simp)] at h
     cases h
def compL(P:Program)(nt:Nat)(ops:Array Oper):List Oper→List SO→Option (List SO)
 |[],_=>some []
 |o::r,hs=>match soOf P nt ops (hs.head?.map (·.k)) o with
  |some s=>(compL P nt ops r hs.tail).map (s:: ·)
  |none=>none
def compO(P:Program)(nt:Nat)(ops:Array Oper)(hs:List SO):Option (List SO):=compL P nt ops ops.toList hs
theorem compL_both{nt:Nat}{ops:Array Oper}:∀{l:List Oper} {hs r:List SO},compL P nt ops l hs=some r→l.length=r.length∧∀(i:Nat) a b,l[i]? =some a→r[i]? =some b→∃h,soOf P nt ops h a=some b
 |[],hs,r,h=>by simp only[compL,Option.some.injEq] at h;subst h;exact⟨rfl,fun i a b h=>by simp at h⟩
 |x::l,hs,r,h=>by
  simp only[compL] at h
  split at h
  ·rename_i y hy
   obtain⟨r',hr,rfl⟩:=Option.map_eq_some_iff.1 h
   obtain⟨h1,h2⟩:=compL_both hr
   refine⟨by simp[h1],fun i a b ha hb=>?_⟩
   match i with
   | 0=>simp only[List.getElem?_cons_zero,Option.some.injEq] at ha hb;subst ha;subst hb;exact⟨_,hy⟩
   |i+1=>exact h2 i a b (by simpa using ha) (by simpa using hb)
  ·cases h
theorem mapO_both{α β:Type}{f:α→Option β}:∀{l:List α} {r:List β},mapO f l=some r→l.length=r.length∧∀(i:Nat) a b,l[i]? =some a→r[i]? =some b→f a=some b
 |[],r,h=>by simp only[mapO,Option.some.injEq] at h;subst h;exact⟨rfl,fun i a b h=>by simp at h⟩
 |x::l,r,h=>by
  simp only[mapO] at h
  split at h
  ·rename_i y hy
   obtain⟨r',hr,rfl⟩:=Option.map_eq_some_iff.1 h
   obtain⟨h1,h2⟩:=mapO_both hr
   refine⟨by simp[h1],fun i a b ha hb=>?_⟩
   match i with
   | 0=>simp only[List.getElem?_cons_zero,Option.some.injEq] at ha hb;subst ha;subst hb;exact hy
   |i+1=>exact h2 i a b (by simpa using ha) (by simpa using hb)
  ·cases h
structure OpsOf (P:Program) (nt:Nat) (ops:Array Oper) (sl:List SO):Prop where
 len:ops.size=sl.length
 of:∀(i:Nat) o so,ops[i]? =some o→sl[i]? =some so→OpOf P ops nt o so
 lt:∀(j:Nat) o' t,ops[j]? =some o'→o'.dst=some t→t<nt
theorem compO_ok{nt:Nat}{ops:Array Oper}{hs sl:List SO}(h:compO P nt ops hs=some sl):OpsOf P nt ops sl:=by
 obtain⟨h1,h2⟩:=compL_both h
 have hlen:ops.size=sl.length:=by simpa using h1
 have hof:∀(i:Nat) o so,ops[i]? =some o→sl[i]? =some so→OpOf P ops nt o so:=fun i o so ho hs=>by
  obtain⟨hh,q⟩:=h2 i o so (by simpa using ho) hs
  exact soOf_ok q
 refine⟨hlen,hof,fun j o' t ho hd=>?_⟩
 have hj:j<sl.length:=by rw[←hlen];exact(Array.getElem?_eq_some_iff.1 ho).1
 exact(hof j o' sl[j] ho (List.getElem?_eq_getElem hj)).lt t hd
def compC(P:Program)(nt:Nat):SC→Code→Option SC
 | .loc b,c=>(compC P nt b c).map .loc
 | .skip,.skip=>some .skip
 | .skip,.label _=>some .skip
 | .region keep hs,.region _ ops false=>(compO P nt ops hs).map (.region keep)
 | .draw keep pairs hs,.region _ ops true=>match compO P nt ops hs with
  |some sl=>if drawOk pairs ops.toList sl then some (.draw keep pairs sl) else none
  |none=>none
 | .seq (.tok s e z) b,c=>if s<nt∧0<z then(compC P nt b c).map (.seq (.tok s e z)) else none
 | .seq (.tokb s off e z) b,c=>if s<nt∧0<z then(compC P nt b c).map (.seq (.tokb s off e z)) else none
 | .seq a b,.seq x y=>match compC P nt a x,compC P nt b y with
  |some a',some b'=>some (.seq a' b')
  |_,_=>none
 | .cond _ a b,.cond c x y=>match opdOf c,compC P nt a x,compC P nt b y with
  |some c',some a',some b'=>some (.cond c' a' b')
  |_,_,_=>none
 | .block _ b,.block id x=>(compC P nt b x).map (.block id)
 | .loop keep b,.loop x=>(compC P nt b x).map (.loop keep)
 | .scope b,.scope x=>(compC P nt b x).map .scope
 | .exit _,.exit id=>some (.exit id)
 | .ret,.ret=>some .ret
 | .locz b,c=>(compC P nt b c).map .locz
 | .stuck,_=>some .stuck
 |_,_=>none
def Post(W:World)(G:Nat→Option (List PD))(nt:Nat)(df:List Deferred)(Q:Exit→Act→World→Prop)(γ:Gh)(H:Hp)(w:World)(out:Out)(s':St):Prop:=
 ∀γ' a' w',γ.le γ'→Frame γ H w γ' s'.hp w'→InvS W G γ' s'.hp w'→a'.defers=df→
  match out with
  | .norm=>a'.tmps.size=nt→EnvRep γ' s'.env a'.tmps→Q .normal a' w'
  | .exit id=>a'.tmps.size=nt→EnvRep γ' s'.env a'.tmps→Q (.exit id) a' w'
  | .ret=>a'.tmps.size=nt→EnvRep γ' s'.env a'.tmps→Q .ret a' w'
  | .pan d=>a'.tmps.size=nt→EnvRep γ' s'.env a'.tmps→∀v,RepD γ' v d→Q (.panic [{v,recovered:=false}]) a' w'
theorem Post.later{nt:Nat}{df:List Deferred}{Q:Exit→Act→World→Prop}{γ γ1:Gh}{H H1:Hp}{w w1:World}{out:Out}{s':St}(h:Post W G nt df Q γ H w out s')(L:γ.le γ1)(F:Frame γ H w γ1 H1 w1):Post W G nt df Q γ1 H1 w1 out s':=
 fun γ' a' w' l f=>h γ' a' w' (L.trans l) (F.trans L.base f)
theorem Post.other{nt:Nat}{df:List Deferred}{Q Q':Exit→Act→World→Prop}{γ:Gh}{H:Hp}{w:World}{out:Out}{s':St}(h:Post W G nt df Q γ H w out s')
    (hq:∀e a w,(match out with | .norm=>e= .normal | .exit id=>e= .exit id | .ret=>e= .ret | .pan _=>∃ch,e= .panic ch)→Q e a w→Q' e a w):Post W G nt df Q' γ H w out s':=by
 intro γ' a' w' h1 h2 h3 h5
 have:=h γ' a' w' h1 h2 h3 h5
 cases out with
 |norm=>exact fun m e=>hq _ _ _ rfl (this m e)
 |exit id=>exact fun m e=>hq _ _ _ rfl (this m e)
 |ret=>exact fun m e=>hq _ _ _ rfl (this m e)
 |pan d=>exact fun m e v hv=>hq _ _ _ ⟨_,rfl⟩ (this m e v hv)
theorem tok_ok{γ:Gh}{H H':Hp}{w:World}{v:Value}{d d':D}{e sz:Nat}(I:Inv G γ H w)(h:tokD e sz d H=some (d',H'))(hv:RepD γ v d):∃γ',γ.le γ'∧Frame γ H w γ' H' w∧Inv G γ' H' w∧RepD γ' v d':=by
 unfold tokD at h
 split at h
 ·cases h
  have hvv:=hv.p_inv.nils_inv
  subst hvv
  let row:Row:=⟨e,sz,fun n=>if n=0 then some none else none⟩
  obtain⟨b1,b2,b3⟩:=I.addTok row 0 none rfl (fun n x hx=>by
   simp only[row] at hx
   split at hx
   ·omega
   ·cases hx) rfl (fun _ _ h=>by cases h) (fun n b cap hx=>by
   simp only[row] at hx
   split at hx<;>cases hx)
  refine⟨_,b1,b2,b3,?_⟩
  exact .tsl _ _ _ _ _ row none (by show(γ.rows++[row])[H.tk.length]? =_;rw[←I.lenT];simp) rfl rfl (.sl0 _ _ _) rfl rfl
 ·rename_i e' sz' es
  split at h
  ·rename_i hc
   obtain⟨rfl,rfl,_⟩:=hc
   cases h
   cases hv with
   |fsl b n _ _ es' hbase hty hlen hrep=>
    subst hlen
    let row:Row:=⟨e',sz',fun n=>if n=es.length then some (some (b,es.length)) else none⟩
    obtain⟨b1,b2,b3⟩:=I.addTok row es.length (some (b,es.length)) (by simp[row]) (fun n x hx=>by
     simp only[row] at hx
     split at hx
     ·omega
     ·cases hx) ⟨⟨Nat.le_refl _,hty⟩,fun h=>by omega⟩ (fun _ _ h=>by cases h;rfl) (fun n b' cap hx=>by
     simp only[row] at hx
     split at hx
     ·cases hx;exact hbase
     ·cases hx)
    refine⟨_,b1,b2,b3,?_⟩
    exact .tsl _ _ _ _ _ row (some (b,es.length)) (by show(γ.rows++[row])[H.tk.length]? =_;rw[←I.lenT];simp) rfl rfl (hrep.mono b1.mem) (by simp[row]) rfl
  ·cases h
 ·rename_i t e' sz' es
  split at h
  ·rename_i hc
   obtain⟨rfl,rfl⟩:=hc
   cases h
   exact⟨γ,.refl γ,.refl γ H w,I,hv⟩
  ·cases h
 ·cases h
theorem EnvRep.tok{γ γ':Gh}{env:Env}{tmps:Array Value}(E:EnvRep γ env tmps)(L:γ.le γ'){s:Nat}{d:D}(h:RepD γ' (tmps.getD s undef) d):EnvRep γ' ((s,d)::env) tmps:=fun t=>by
 simp only[Env.get]
 split
 ·rename_i hs;subst hs;exact h
 ·exact(E t).mono L
theorem Inv.reread{γ:Gh}{H:Hp}{w:World}(I:Inv G γ H w){i b k:Nat}{cs:List D}{d d':D}(hb:γ.boxes[i]? =some b)(hc:H.bx[i]? =some cs)(hd:cs[k]? =some d)(h1:d'.one=true)(hm0:isMapC cs=false)(hr:∀vs T fr,w.heap[b]? =some (.cells vs T fr)→RepD γ (vs.getD k undef) d'):
    Frame γ H w γ {H with bx:=H.bx.set i (cs.set k d')} w∧Inv G γ {H with bx:=H.bx.set i (cs.set k d')} w:=by
 have hi:i<H.bx.length:=(List.getElem?_eq_some_iff.1 hc).1
 have hk:k<cs.length:=(List.getElem?_eq_some_iff.1 hd).1
 have hfree:∀t c,Free γ {H with bx:=H.bx.set i (cs.set k d')} t c→Free γ H t c:=fun t c h=>Free.congr (fun _ _ h=>h) (fun _ _ h=>h) h
 refine⟨⟨rfl,rfl,rfl,Nat.le_refl _,fun _ _ _=>⟨fun _=>rfl,.refl _ _⟩,fun _ _ _ _=>rfl,fun _ h=>.inl h,fun t b h=>.inl (hfree t b h)⟩,I.size,I.tys,I.rowb,I.mem,I.globs,by simp[I.lenB],I.nodup,?_,I.boxmem,I.lenT,I.row,I.rowmax,fun t t' b h h'=>I.free t t' b (hfree t b h) (hfree t' b h')⟩
 intro j c cs' hj hcs
 by_cases hij:i=j
 ·subst hij
  rw[hb] at hj
  cases hj
  have hcs:(H.bx.set i (cs.set k d'))[i]? =some cs':=hcs
  rw[List.getElem?_set_self hi] at hcs
  cases hcs
  obtain⟨vs,T,fr,q1,q2,q3,q4⟩:=I.box i b cs hb hc
  rw[viewC_of hm0] at q1
  have q3:=q3 hm0
  have hall:∀x∈cs.set k d',x.one=true:=fun x hx=>by
   rcases List.mem_or_eq_of_mem_set hx with h |h
   ·exact q3 x h
   ·subst h;exact h1
  refine⟨vs,T,fr,(viewC_of (isMapC_one hall) _).trans q1,⟨by simpa using q2.1,fun m x hm=>?_⟩,fun _=>hall,fun hn=>q4 (fun e=>hn (by subst e;rfl))⟩
  ·by_cases hkm:k=m
   ·subst hkm
    rw[List.getElem?_set_self hk] at hm
    cases hm
    exact hr vs T fr q1
   ·rw[List.getElem?_set_ne hkm] at hm
    exact q2.2 m x hm
 ·have hcs:(H.bx.set i (cs.set k d'))[j]? =some cs':=hcs
  rw[List.getElem?_set_ne hij] at hcs
  exact I.box j c cs' hj hcs
theorem tokD_bx{e sz:Nat}{d d':D}{H H':Hp}(h:tokD e sz d H=some (d',H')):H'.bx=H.bx∧d'.one=true:=by
 unfold tokD at h
 split at h
 ·cases h;exact⟨rfl,rfl⟩
 ·split at h<;>cases h;exact⟨rfl,rfl⟩
 ·split at h<;>cases h;exact⟨rfl,rfl⟩
 ·cases h
theorem tokb_ok{γ:Gh}{w:World}{slot off e sz:Nat}{s s':St}{tmps:Array Value}(I:Inv G γ s.hp w)(h:tokbD slot off e sz s=some s')(E:EnvRep γ s.env tmps):∃γ',γ.le γ'∧Frame γ s.hp w γ' s'.hp w∧Inv G γ' s'.hp w∧EnvRep γ' s'.env tmps:=by
 unfold tokbD at h
 split at h
 ·rename_i i o hbox
  split at h
  ·rename_i cs hcs
   split at h
   ·cases h;exact⟨γ,.refl γ,.refl γ _ w,I,E⟩
   rename_i hm
   have hm:isMapC cs=false:=by simpa using hm
   split at h
   ·rename_i d hd
    split at h
    ·rename_i d' H' ht
     cases h
     have hb:=E slot
     rw[hbox] at hb
     generalize tmps.getD slot undef=v at hb
     cases hb with
     |box _ _ b hbb=>
      obtain⟨vs,T,fr,q1,q2,q3,q4⟩:=I.box i b cs hbb hcs
      rw[viewC_of hm] at q1
      obtain⟨γ',L,F,J,V⟩:=tok_ok I ht (q2.2 _ d hd)
      obtain⟨t1,t2⟩:=tokD_bx ht
      obtain⟨F2,J2⟩:=J.reread (L.boxes _ _ hbb) (by rw[t1];exact hcs) hd t2 hm (fun vs' T' fr' hw=>by
       rw[q1] at hw
       cases hw
       exact V)
      exact⟨γ',L,F.trans L.base F2,J2,fun t=>(E t).mono L⟩
    ·cases h;exact⟨γ,.refl γ,.refl γ _ w,I,E⟩
   ·cases h
  ·cases h
 ·cases h;exact⟨γ,.refl γ,.refl γ _ w,I,E⟩
def Gh.cut(γ:Gh)(nb nt:Nat):Gh:={γ with boxes:=γ.boxes.take nb,rows:=γ.rows.take nt}
theorem below_some{n i j:Nat}(h:below n i=some j):i<n∧j=i:=by
 unfold below at h
 split at h
 ·rename_i hi;cases h;exact⟨hi,rfl⟩
 ·cases h
theorem cut_ren(γ:Gh)(nb nt:Nat):Ren γ (γ.cut nb nt) (below nb) (below nt):=by
 refine⟨rfl,fun _ _ h=>h,fun _ _ _ h=>h,fun i j b hi hb=>?_,fun t u row ht hr=>?_⟩
 ·obtain⟨h1,rfl⟩:=below_some hi
  show(γ.boxes.take nb)[j]? =some b
  rw[List.getElem?_take_of_lt h1];exact hb
 ·obtain⟨h1,rfl⟩:=below_some ht
  refine⟨row,?_,rfl,rfl,fun _ _ h=>h⟩
  show(γ.rows.take nt)[u]? =some row
  rw[List.getElem?_take_of_lt h1];exact hr
theorem take_get{α:Type}{l:List α}{n i:Nat}{a:α}(h:(l.take n)[i]? =some a):i<n∧l[i]? =some a:=by
 rw[List.getElem?_take] at h
 split at h
 ·exact⟨‹_›,h⟩
 ·cases h
theorem cut_free{γ:Gh}{H:Hp}{bx:List (List D)}{nb nt:Nat}{t b:Nat}(h:Free (γ.cut nb nt) ⟨bx,H.tk.take nt⟩ t b):Free γ H t b:=by
 obtain⟨row,f,cap,h1,h2,h3,h4⟩:=h
 exact⟨row,f,cap,(take_get h1).2,(take_get h2).2,h3,h4⟩
theorem cut_inv{γ:Gh}{H:Hp}{w:World}(J:Inv G γ H w){nb nt:Nat}(hb:nb≤H.bx.length)(ht:nt≤H.tk.length){bx:List (List D)}(hr:mapO (D.renL (below nb) (below nt)) (H.bx.take nb)=some bx):
    Inv G (γ.cut nb nt) ⟨bx,H.tk.take nt⟩ w:=by
 obtain⟨hl,hg⟩:=mapO_both hr
 have hl':bx.length=nb:=by rw[←hl];simp;omega
 refine⟨J.size,J.tys,fun t row n b cap h1 h2=>J.rowb t row n b cap (take_get h1).2 h2,J.mem,J.globs,?_,(List.take_sublist _ _).nodup J.nodup,fun i b cs h1 h2=>?_,fun b o h=>J.boxmem b o (List.mem_of_mem_take h),?_,fun t row f h1 h2=>?_,fun t row f h1 h2=>J.rowmax t row f (take_get h1).2 (take_get h2).2,fun t t' b h h'=>J.free t t' b (cut_free h) (cut_free h')⟩
 ·have:=J.lenB
  show(γ.boxes.take nb).length=bx.length
  rw[hl'];simp;omega
 ·obtain⟨hi,h1'⟩:=take_get h1
  have hc:(H.bx.take nb)[i]? =some (H.bx[i]'(by omega)):=by rw[List.getElem?_take_of_lt hi];exact List.getElem?_eq_getElem _
  have hren:=hg i _ cs hc h2
  obtain⟨vs,T,fr,q1,q2,q3,q4⟩:=J.box i b _ h1' (List.getElem?_eq_getElem (by omega))
  exact⟨vs,T,fr,(viewC_same (renL_map hren) _).trans q1,renB_rep (cut_ren γ nb nt) q2 hren,fun hm=>renL_ones hren (q3 ((renL_map hren).symm.trans hm)),fun hn=>q4 (renL_ne hren hn)⟩
 ·have:=J.lenT
  show(γ.rows.take nt).length=(H.tk.take nt).length
  simp;omega
 ·obtain⟨r,q1,q2⟩:=J.row t row f (take_get h1).2 (take_get h2).2
  refine⟨r,q1,?_⟩
  cases r with
  |none=>exact q2
  |some bc=>
   refine⟨q2.1,fun hf=>?_⟩
   obtain⟨cur,fr,a1,a2,a3,a4,a5,a6⟩:=q2.2 hf
   exact⟨cur,fr,a1,a2,a3,a4,a5,fun h=>a6 (List.mem_of_mem_take h)⟩
theorem loc_post{nt:Nat}{df:List Deferred}{Q:Exit→Act→World→Prop}{γ:Gh}{H:Hp}{w:World}(I:InvS W G γ H w){x:Out×St}(h:Post W G nt df Q γ H w (locD H.bx.length H.tk.length x).1 (locD H.bx.length H.tk.length x).2):Post W G nt df Q γ H w x.1 x.2:=by
 unfold locD at h
 split at h
 ·rename_i hc
  split at h
  ·rename_i bx o hbx ho
   intro γ' a' w' L F J hd
   have R:=cut_ren γ' H.bx.length H.tk.length
   have L2:γ.le (γ'.cut H.bx.length H.tk.length):=by
    refine⟨L.base,L.tys,L.mem,fun i b hi=>?_,fun t r ht=>?_⟩
    ·have hi':i<H.bx.length:=by rw[←I.lenB];exact(List.getElem?_eq_some_iff.1 hi).1
     show(γ'.boxes.take H.bx.length)[i]? =some b
     rw[List.getElem?_take_of_lt hi'];exact L.boxes i b hi
    ·have ht':t<H.tk.length:=by rw[←I.lenT];exact(List.getElem?_eq_some_iff.1 ht).1
     obtain⟨r',q1,q2⟩:=L.rows t r ht
     refine⟨r',?_,q2⟩
     show(γ'.rows.take H.tk.length)[t]? =some r'
     rw[List.getElem?_take_of_lt ht'];exact q1
   have F2:Frame γ H w (γ'.cut H.bx.length H.tk.length) ⟨bx,x.2.hp.tk.take H.tk.length⟩ w':=
    ⟨F.os,F.tape,F.output,F.size,F.blk,F.mem,fun b hb=>F.box b (List.mem_of_mem_take hb),fun t b hb=>F.fre t b (cut_free hb)⟩
   have J2:=I.up L2 F2 (cut_inv J.toInv hc.1 hc.2 hbx)
   have:=h _ a' w' L2 F2 J2 hd
   have hE:EnvRep γ' x.2.env a'.tmps→EnvRep (γ'.cut H.bx.length H.tk.length) (x.2.env.map fun y=>(y.1,(y.2.ren (below H.bx.length) (below H.tk.length)).getD .dead)) a'.tmps:=fun E t=>by
    have hget:∀(e:Env),Env.get (e.map fun y=>(y.1,(y.2.ren (below H.bx.length) (below H.tk.length)).getD .dead)) t=((e.get t).ren (below H.bx.length) (below H.tk.length)).getD .dead:=by
     intro e
     induction e with
     |nil=>rfl
     |cons y e ih=>
      obtain⟨s,d⟩:=y
      simp only[List.map_cons,Env.get]
      split
      ·rfl
      ·exact ih
    rw[hget]
    cases hren:(x.2.env.get t).ren (below H.bx.length) (below H.tk.length) with
    |none=>exact .dead _
    |some d'=>exact ren_rep R (E t) hren
   obtain⟨xo,xs⟩:=x
   cases xo with
   |norm=>cases ho;exact fun m E=>this m (hE E)
   |exit id=>cases ho;exact fun m E=>this m (hE E)
   |ret=>cases ho;exact fun m E=>this m (hE E)
   |pan d=>
    obtain⟨d',hd',rfl⟩:=Option.map_eq_some_iff.1 ho
    exact fun m E v hv=>this m (hE E) v (ren_rep R hv hd')
  ·exact h
 ·exact h
section
variable {γ : Gh} {H : Hp} {w : World}
def Gh.sealM(γ:Gh)(w:World)(nb:Nat):Gh:=
 {γ with mem:=fun b o=>if b∈γ.boxes.drop nb then(match w.heap[b]? with |some (.cells vs _ _)=>vs[o]? |_=>none) else γ.mem b o}
def Gh.sealC(γ:Gh)(w:World)(nb:Nat):Gh:={γ.sealM w nb with boxes:=γ.boxes.take nb}
theorem Gh.sealM_out{γ:Gh}{w:World}{nb b o:Nat}(h:b∉γ.boxes.drop nb):(γ.sealM w nb).mem b o=γ.mem b o:=by simp[Gh.sealM,h]
theorem Gh.sealM_le(I:Inv G γ H w)(nb:Nat):γ.le (γ.sealM w nb):=by
 refine⟨rfl,fun _ _ h=>h,fun b o v h=>?_,fun _ _ h=>h,fun t r h=>⟨r,h,rfl,rfl,fun _ _ h=>h⟩⟩
 rw[Gh.sealM_out]
 ·exact h
 ·intro hb
  rw[I.boxmem b o (List.mem_of_mem_drop hb)] at h
  cases h
theorem Gh.sealM_in{γ:Gh}{w:World}{nb b:Nat}{vs:Array Value}{T:Nat}{fr:Nat×Nat}(h:b∈γ.boxes.drop nb)(hw:w.heap[b]? =some (.cells vs T fr))(o:Nat):(γ.sealM w nb).mem b o=vs[o]?:=by simp[Gh.sealM,h,hw]
theorem Gh.sealM_map{γ:Gh}{w:World}{nb b:Nat}{es:Array MapEntry}{ck:Nat}(h:b∈γ.boxes.drop nb)(hw:w.heap[b]? =some (.map es ck)){o:Nat}:(γ.sealM w nb).mem b o=none:=by simp[Gh.sealM,h,hw]
theorem frz_one{k:Nat}{H:Hp}:∀(f:Nat) (d:D),d.one=true→(d.frz k H f).one=true
 | 0,d,h=>h
 |f+1,d,h=>by
  cases d<;>simp only[D.frz]<;>first |exact h |(simp[D.one] at h;done) |skip
  ·split<;>rfl
  ·split
   ·split
    ·split
     ·rfl
     ·split<;>rfl
    ·rfl
   ·rfl
  ·split
   ·split
    ·split
     ·split<;>rfl
     ·rfl
    ·rfl
   ·rfl
  ·split<;>rfl
theorem frz_rep(J:Inv G γ H w){nb:Nat}:∀(f:Nat) {v:Value} {d:D},RepD (γ.sealM w nb) v d→RepD (γ.sealM w nb) v (d.frz nb H f)
 | 0,v,d,r=>r
 |f+1,v,d,r=>by
  have hle:=Gh.sealM_le J nb
  have box:∀(i b:Nat),nb≤i→γ.boxes[i]? =some b→b∈γ.boxes.drop nb:=fun i b hi hb=>by
   refine List.mem_of_getElem? (i:=i-nb) ?_
   rw[List.getElem?_drop]
   have :nb+(i-nb)=i:=by omega
   rw[this];exact hb
  cases r with
  |box i off b hb=>
   simp only[D.frz]
   split
   ·rename_i hk
    split
    ·rename_i cs hcs
     split
     ·exact .box i off b hb
     rename_i hm
     have hm:isMapC cs=false:=by simpa using hm
     split
     ·rename_i ps hps
      obtain⟨vs,T,fr,q1,q2,q3,_⟩:=J.box i b cs hb hcs
      rw[viewC_of hm] at q1
      have q3:=q3 hm
      obtain⟨l1,l2⟩:=sealL_get hps
      have hmem:=Gh.sealM_in (γ:=γ) (w:=w) (nb:=nb) (box i b hk hb) q1
      have hl:ps.length=cs.length:=by rw[l1];simp
      have q:=RepD.ro (γ:=γ.sealM w nb) b 0 off ps (fun j=>vs.getD j undef) (fun j hj=>by
       rw[Nat.zero_add,hmem]
       have :j<vs.size:=by have:=q2.1;omega
       simp[Array.getD_eq_getD_getElem?,this]) (fun j c hc=>by
       obtain⟨d0,a1,a2⟩:=l2 j c hc
       simp only[List.getElem?_map,Option.map_eq_some_iff] at a1
       obtain⟨d1,hd1,rfl⟩:=a1
       exact⟨seal_rep (frz_rep J f ((q2.2 j d1 hd1).mono hle)) a2,seal_one a2 (frz_one f d1 (q3 d1 (List.mem_of_getElem? hd1)))⟩)
      rw[Nat.zero_add] at q
      exact q
     ·exact .box i off b hb
    ·exact .box i off b hb
   ·exact .box i off b hb
  |msl i off n c sz b cp hb hc hcap=>
   simp only[D.frz]
   split
   ·rename_i hk
    split
    ·rename_i cs hcs
     split
     ·rename_i hfit
      obtain⟨hm,hfit,hs⟩:=hfit
      split
      ·rename_i ps hps
       obtain⟨vs,T,fr,q1,q2,q3,_⟩:=J.box i b cs hb hcs
       rw[viewC_of hm] at q1
       have q3:=q3 hm
       obtain⟨l1,l2⟩:=sealL_get hps
       have hmem:=Gh.sealM_in (γ:=γ) (w:=w) (nb:=nb) (box i b hk hb) q1
       have hpl:ps.length=n*sz:=by rw[l1,List.length_map,sub_length _ _ _ hfit];omega
       have hel:∀(j:Nat) c,ps[j]? =some c→RepP (γ.sealM w nb).mem (vs.getD (off+j) undef) c∧c.one=true:=fun j c hc=>by
        obtain⟨d0,a1,a2⟩:=l2 j c hc
        simp only[List.getElem?_map,Option.map_eq_some_iff] at a1
        obtain⟨d1,hd1,rfl⟩:=a1
        have hd2:=hd1
        rw[sub_get] at hd2
        split at hd2
        ·exact⟨seal_rep (frz_rep J f ((q2.2 _ d1 hd2).mono hle)) a2,seal_one a2 (frz_one f d1 (q3 d1 (List.mem_of_getElem? hd2)))⟩
        ·cases hd2
       have hones:∀p∈ps,p.one=true:=fun p hp=>by
        obtain⟨j,hj⟩:=List.getElem?_of_mem hp
        exact(hel j p hj).2
       obtain⟨c1,c2⟩:=chunks_get hs n ps hpl hones
       have hlt:∀k j,k<n→j<sz→k*sz+j<n*sz:=fun k j hk hj=>by
        calc k*sz+j<k*sz+sz:=by omega
         _=(k+1)*sz:=by rw[Nat.add_mul,Nat.one_mul]
         _≤n*sz:=Nat.mul_le_mul_right _ hk
       have q:=RepP.sl (m:=(γ.sealM w nb).mem) b off cp sz (chunks sz n ps) (fun k j=>vs.getD (off+(k*sz+j)) undef) (by rw[c1];exact hc) (fun e he=>by
        obtain⟨k,hk⟩:=List.getElem?_of_mem he
        have hkn:k<n:=by rw[←c1];exact(List.getElem?_eq_some_iff.1 hk).1
        have h0:=hlt k 0 hkn hs
        have h1:=hlt k (sz-1) hkn (by omega)
        rw[c2 k e hk];simp;omega) (fun e he c hcm=>by
        obtain⟨k,hk⟩:=List.getElem?_of_mem he
        rw[c2 k e hk] at hcm
        exact hones c (List.mem_of_mem_drop (List.mem_of_mem_take hcm))) (fun k j hk hj=>by
        rw[c1] at hk
        have:=hlt k j hk hj
        rw[hmem]
        have hvs:off+k*sz+j<vs.size:=by have:=q2.1;omega
        rw[←Nat.add_assoc]
        simp[Array.getD_eq_getD_getElem?,hvs]) (fun k e j c hk hc=>by
        have hkn:k<n:=by rw[←c1];exact(List.getElem?_eq_some_iff.1 hk).1
        rw[c2 k e hk,List.getElem?_take] at hc
        split at hc
        ·rw[List.getElem?_drop] at hc
         exact(hel _ c hc).1
        ·cases hc)
       rw[c1] at q
       exact .p _ _ q
      ·exact .msl i off n c sz b cp hb hc hcap
     ·exact .msl i off n c sz b cp hb hc hcap
    ·exact .msl i off n c sz b cp hb hc hcap
   ·exact .msl i off n c sz b cp hb hc hcap
  |agg cs ds hl hone hr=>
   simp only[D.frz]
   refine mkAgg_rep ⟨by simpa using hl,fun i d hd=>?_⟩ (fun d hd=>?_)
   ·simp only[List.getElem?_map,Option.map_eq_some_iff] at hd
    obtain⟨d1,hd1,rfl⟩:=hd
    exact frz_rep J f (hr i d1 hd1)
   ·obtain⟨d1,hd1,rfl⟩:=List.mem_map.1 hd
    exact frz_one f d1 (hone d1 hd1)
  |tup cs ds hl hr=>
   simp only[D.frz]
   refine .tup cs _ (by simpa using hl) fun i d hd=>?_
   simp only[List.getElem?_map,Option.map_eq_some_iff] at hd
   obtain⟨d1,hd1,rfl⟩:=hd
   exact frz_rep J f (hr i d1 hd1)
  |ifc t v d h=>
   simp only[D.frz]
   have q:=frz_rep J f h
   split
   ·rename_i y hy
    rw[hy] at q
    exact .p _ _ (.iface t v y q.p_inv)
   ·exact .ifc t v _ q
  |dead v=>exact .dead v
  |undef=>exact .undef
  |p v x h=>exact .p v x h
  |fsl b n e sz es a1 a2 a3 a4=>exact .p _ _ (seal_rep (.fsl b n e sz es a1 a2 a3 a4) rfl)
  |tsl v t e sz es row r a1 a2 a3 a4 a5 a6=>exact .tsl v t e sz es row r a1 a2 a3 a4 a5 a6
  |glob g off=>exact .glob g off
  |ro b o off cs vs a1 a2=>exact .ro b o off cs vs a1 a2
  |fn f0 as cs ds es a1 a2 a3 a4=>exact .fn f0 as cs ds es a1 a2 a3 a4
  |esl a sz=>exact .esl a sz
  |dptr b n cap d a1 a2 a3=>exact .dptr b n cap d a1 a2 a3
  |anyp q=>exact .anyp q
  |fresh T n i b a1 a2=>exact .fresh T n i b a1 a2
  |mapr i b a1=>exact .mapr i b a1
  |mapc as cs kd ks ds s a1 a2 a3 a4 a5 a6 a7 a8 a9=>exact .mapc as cs kd ks ds s a1 a2 a3 a4 a5 a6 a7 a8 a9
theorem frz_map1{k:Nat}{H:Hp}:∀(f:Nat) (d:D),isMap1 (D.frz k H f d)=isMap1 d
 | 0,d=>rfl
 |f+1,d=>by
  cases d with
  |msl i off n c sz=>
   simp only[D.frz]
   split
   ·split
    ·split
     ·split<;>rfl
     ·rfl
    ·rfl
   ·rfl
  |box i off=>
   simp only[D.frz]
   split
   ·split
    ·split
     ·rfl
     ·split<;>rfl
    ·rfl
   ·rfl
  |agg cs=>simp only[D.frz,mkAgg];split<;>rfl
  |ifc t d=>simp only[D.frz];split<;>rfl
  |_=>rfl
theorem frz_mapC{k:Nat}{H:Hp}(f:Nat)(cs:List D):isMapC (cs.map (D.frz k H f))=isMapC cs:=by
 match cs with
 |[]=>rfl
 |[d]=>rw[List.map_cons,List.map_nil,isMapC_one1,isMapC_one1,frz_map1]
 |d::e::r=>rw[List.map_cons,List.map_cons,isMapC_two,isMapC_two]
theorem sealC_ren(γ:Gh)(w:World)(nb:Nat):Ren (γ.sealM w nb) (γ.sealC w nb) (below nb) some:=by
 refine⟨rfl,fun _ _ h=>h,fun _ _ _ h=>h,fun i j b hi hb=>?_,fun t u row ht hr=>?_⟩
 ·obtain⟨h1,rfl⟩:=below_some hi
  show(γ.boxes.take nb)[j]? =some b
  rw[List.getElem?_take_of_lt h1];exact hb
 ·cases ht
  exact⟨row,hr,rfl,rfl,fun _ _ h=>h⟩
theorem seal_core(I:Inv G γ H w){γ':Gh}{Hx:Hp}{w':World}(L:γ.le γ')(F:Frame γ H w γ' Hx w')(J:Inv G γ' Hx w'){bx:List (List D)}(hbx:mapO (fun cs=>D.renL (below H.bx.length) some (cs.map (D.frz H.bx.length Hx 8))) (Hx.bx.take H.bx.length)=some bx)(hnb:H.bx.length≤Hx.bx.length):
    γ.le (γ'.sealC w' H.bx.length)∧Frame γ H w (γ'.sealC w' H.bx.length) ⟨bx,Hx.tk⟩ w'∧Inv G (γ'.sealC w' H.bx.length) ⟨bx,Hx.tk⟩ w':=by
     have hlb:γ.boxes.length=H.bx.length:=I.lenB
     have hlb':γ'.boxes.length=Hx.bx.length:=J.lenB
     have hdrop:∀b,b∈γ'.boxes.drop H.bx.length→w.heap.size≤b:=fun b hb=>by
      obtain⟨j,hj⟩:=List.getElem?_of_mem hb
      rw[List.getElem?_drop] at hj
      rcases F.box b (List.mem_of_getElem? hj) with q |q
      ·obtain⟨i,hi⟩:=List.getElem?_of_mem q
       have h1:=L.boxes i b hi
       have:=nodup_get J.nodup h1 hj
       have:=(List.getElem?_eq_some_iff.1 hi).1
       omega
      ·exact q
     have hkeep:∀b,b∈γ'.boxes.take H.bx.length→b∉γ'.boxes.drop H.bx.length:=fun b hb hb'=>by
      obtain⟨i,hi⟩:=List.getElem?_of_mem hb
      obtain⟨hi1,hi2⟩:=take_get hi
      obtain⟨j,hj⟩:=List.getElem?_of_mem hb'
      rw[List.getElem?_drop] at hj
      have:=nodup_get J.nodup hi2 hj
      omega
     have hM:=Gh.sealM_le J H.bx.length
     have R:=sealC_ren γ' w' H.bx.length
     have hfree:∀t b,Free (γ'.sealC w' H.bx.length) ⟨bx,Hx.tk⟩ t b→Free γ' Hx t b:=fun t b h=>Free.congr (fun _ _ h=>h) (fun _ _ h=>h) h
     refine⟨?_,?_,?_⟩
     ·refine⟨L.base,L.tys,fun b o v h=>hM.mem _ _ _ (L.mem _ _ _ h),fun i b h=>?_,L.rows⟩
      show(γ'.boxes.take H.bx.length)[i]? =some b
      rw[List.getElem?_take_of_lt (by rw[←hlb];exact(List.getElem?_eq_some_iff.1 h).1)]
      exact L.boxes i b h
     ·refine⟨F.os,F.tape,F.output,F.size,fun b hb ho=>?_,fun b o hb ho=>?_,fun b hb=>F.box b (List.mem_of_mem_take hb),fun t b h=>F.fre t b (hfree t b h)⟩
      ·obtain⟨q1,q2⟩:=F.blk b hb ho
       refine⟨q1,?_⟩
       exact(Sim.refl (γ'.mem b) _).trans q2 (fun _ h=>h) |>.trans (Sim.refl _ _) (fun j hj=>by
        show(γ'.sealM w' H.bx.length).mem b j≠none
        cases hm:γ'.mem b j with
        |none=>exact absurd hm hj
        |some v=>rw[hM.mem _ _ _ hm];simp)
      ·have hnd:b∉γ'.boxes.drop H.bx.length:=fun h=>by have:=hdrop b h;omega
       exact(Gh.sealM_out hnd).trans (F.mem b o hb ho)
     ·obtain⟨hl,hg⟩:=mapO_both hbx
      have hbl:bx.length=H.bx.length:=by rw[←hl];simp;omega
      constructor
      ·exact J.size
      ·exact J.tys
      ·exact J.rowb
      ·intro b o v h
       by_cases hd:b∈γ'.boxes.drop H.bx.length
       ·obtain⟨j,hj⟩:=List.getElem?_of_mem hd
        rw[List.getElem?_drop] at hj
        have hjl:H.bx.length+j<Hx.bx.length:=by rw[←hlb'];exact(List.getElem?_eq_some_iff.1 hj).1
        obtain⟨vs,T,fr,q1,_⟩:=J.box _ b _ hj (List.getElem?_eq_getElem hjl)
        have h:(γ'.sealM w' H.bx.length).mem b o=some v:=h
        have hm:isMapC (Hx.bx[H.bx.length+j]'hjl)=false:=by
         cases hm:isMapC (Hx.bx[H.bx.length+j]'hjl) with
         |false=>rfl
         |true=>
          exfalso
          simp only[viewC,hm,if_true] at q1
          split at q1
          ·rename_i es ck hmap
           rw[Gh.sealM_map hd hmap] at h
           cases h
          ·cases q1
        rw[viewC_of hm] at q1
        rw[Gh.sealM_in hd q1] at h
        simp only[World.cell?,q1]
        simpa using h
       ·have h:(γ'.sealM w' H.bx.length).mem b o=some v:=h
        rw[Gh.sealM_out hd] at h
        exact J.mem b o v h
      ·intro g cs hgl j c hc
       obtain⟨h1,v,h2,h3⟩:=J.globs g cs hgl j c hc
       exact⟨h1,v,hM.mem _ _ _ h2,h3.mono hM.mem⟩
      ·show(γ'.boxes.take H.bx.length).length=bx.length
       rw[hbl];simp;omega
      ·exact(List.take_sublist _ _).nodup J.nodup
      ·intro i b cs h1 h2
       obtain⟨hi,h1'⟩:=take_get h1
       have hil:i<Hx.bx.length:=by omega
       have hc:(Hx.bx.take H.bx.length)[i]? =some (Hx.bx[i]'hil):=by rw[List.getElem?_take_of_lt hi];exact List.getElem?_eq_getElem _
       have hren:=hg i _ cs hc h2
       obtain⟨vs,T,fr,q1,q2,q3,q4⟩:=J.box i b _ h1' (List.getElem?_eq_getElem hil)
       have hmm:=(renL_map hren).trans (frz_mapC 8 _)
       refine⟨vs,T,fr,(viewC_same hmm _).trans q1,renB_rep R ⟨by simpa using q2.1,fun k d hd=>?_⟩ hren,fun hm=>renL_ones hren (fun d hd=>?_),fun hn=>q4 (fun e=>renL_ne hren hn (by rw[e];rfl))⟩
       ·simp only[List.getElem?_map,Option.map_eq_some_iff] at hd
        obtain⟨d1,hd1,rfl⟩:=hd
        exact frz_rep J 8 ((q2.2 k d1 hd1).mono hM)
       ·obtain⟨d1,hd1,rfl⟩:=List.mem_map.1 hd
        exact frz_one 8 d1 (q3 (hmm.symm.trans hm) d1 hd1)
      ·intro b o hb
       have hb:b∈γ'.boxes.take H.bx.length:=hb
       show(γ'.sealM w' H.bx.length).mem b o=none
       rw[Gh.sealM_out (hkeep b hb)]
       exact J.boxmem b o (List.mem_of_mem_take hb)
      ·exact J.lenT
      ·intro t row f h1 h2
       obtain⟨q,a1,a2⟩:=J.row t row f h1 h2
       refine⟨q,a1,a2.keep (fun _ _ h=>h) (fun _ _ _ _=>rfl) (fun b cap hq hlt o=>?_) (fun b cap hq hlt hb hb'=>hb (List.mem_of_mem_take hb'))⟩
       subst hq
       obtain⟨_,_,_,_,_,_,_,hnb'⟩:=a2.2 hlt
       exact Gh.sealM_out fun hd=>hnb' (List.mem_of_mem_drop hd)
      ·exact J.rowmax
      ·exact fun t t' b h h'=>J.free t t' b (hfree t b h) (hfree t' b h')
theorem seal_post{nt:Nat}{df:List Deferred}{Q:Exit→Act→World→Prop}{γ:Gh}{H:Hp}{w:World}(I:InvS W G γ H w){x:Out×St}(h:Post W G nt df Q γ H w (sealS H.bx.length x).1 (sealS H.bx.length x).2):Post W G nt df Q γ H w x.1 x.2:=by
 unfold sealS at h
 split at h
 ·rename_i bx o hbx ho
  split at h
  ·rename_i hnb
   intro γ' a' w' L F J hd
   obtain⟨L2,F2,J2⟩:=seal_core I.toInv L F J.toInv hbx hnb
   have:=h _ a' w' L2 F2 (I.up L2 F2 J2) hd
   have hrep:∀v d d',RepD γ' v d→(d.frz H.bx.length x.2.hp 8).ren (below H.bx.length) some=some d'→RepD (γ'.sealC w' H.bx.length) v d':=fun v d d' hv hr=>
    ren_rep (sealC_ren γ' w' H.bx.length) (frz_rep J.toInv 8 (hv.mono (Gh.sealM_le J.toInv H.bx.length))) hr
   have hE:EnvRep γ' x.2.env a'.tmps→EnvRep (γ'.sealC w' H.bx.length) (x.2.env.map fun y=>(y.1,((y.2.frz H.bx.length x.2.hp 8).ren (below H.bx.length) some).getD .dead)) a'.tmps:=fun E t=>by
    have hget:∀(e:Env),Env.get (e.map fun y=>(y.1,((y.2.frz H.bx.length x.2.hp 8).ren (below H.bx.length) some).getD .dead)) t=(((e.get t).frz H.bx.length x.2.hp 8).ren (below H.bx.length) some).getD .dead:=by
     intro e
     induction e with
     |nil=>rfl
     |cons y e ih=>
      obtain⟨s,d⟩:=y
      simp only[List.map_cons,Env.get]
      split
      ·rfl
      ·exact ih
    rw[hget]
    cases hren:((x.2.env.get t).frz H.bx.length x.2.hp 8).ren (below H.bx.length) some with
    |none=>exact .dead _
    |some d'=>exact hrep _ _ _ (E t) hren
   obtain⟨xo,xs⟩:=x
   cases xo with
   |norm=>cases ho;exact fun m E=>this m (hE E)
   |exit id=>cases ho;exact fun m E=>this m (hE E)
   |ret=>cases ho;exact fun m E=>this m (hE E)
   |pan d=>
    obtain⟨d',hd',rfl⟩:=Option.map_eq_some_iff.1 ho
    exact fun m E v hv=>this m (hE E) v (hrep _ _ _ hv hd')
  ·exact h
 ·exact h
end
theorem code_wp{c:CallR}(S:Sound P W G c)(hm:P.follows .mixedOrders=true){it:It}(hit:∀b s r,it b s=some r→∃m,iter b m s=some r){nt:Nat}{df:List Deferred}:
    ∀(sc:SC) (cd:Code) (sc':SC),compC P nt sc cd=some sc'→∀(Q:Exit→Act→World→Prop) (γ:Gh) (s:St) (a:Act) (w:World) (out:Out) (s':St),evS c G it sc' s=some (out,s')→
     InvS W G γ s.hp w→EnvRep γ s.env a.tmps→a.tmps.size=nt→a.defers=df→Post W G nt df Q γ s.hp w out s'→cd.wp P Q a w:=by
 intro sc cd
 fun_induction compC P nt sc cd
 all_goals (intro sc' h Q γ s a w out s' he I E hn hd hp)
 case case1 b cd ih=>
  obtain⟨b',hb,rfl⟩:=Option.map_eq_some_iff.1 h
  simp only[evS] at he
  obtain⟨x,hx,heq⟩:=Option.map_eq_some_iff.1 he
  have h1:out=(locD s.hp.bx.length s.hp.tk.length x).1:=by rw[heq]
  have h2:s'=(locD s.hp.bx.length s.hp.tk.length x).2:=by rw[heq]
  rw[h1,h2] at hp
  exact ih b' hb Q γ s a w x.1 x.2 hx I E hn hd (loc_post I hp)
 case case2=>
  cases h
  simp only[evS] at he
  cases he
  exact wp_skip (hp γ a w (.refl γ) (.refl γ _ w) I hd hn E)
 case case3=>
  cases h
  simp only[evS] at he
  cases he
  exact wp_label (hp γ a w (.refl γ) (.refl γ _ w) I hd hn E)
 case case4 keep hs id ops=>
  obtain⟨sl,hsl,rfl⟩:=Option.map_eq_some_iff.1 h
  have o:=compO_ok hsl
  simp only[evS] at he
  have hl:ops.toList.length=sl.length:=by simpa using o.len
  have hof:∀(i:Nat) x so,ops.toList[i]? =some x→sl[i]? =some so→OpOf P ops nt x so:=fun i x so hx hs=>o.of i x so (by simpa using hx) hs
  split at he
  ·rename_i env' H' hev
   cases he
   refine wp_region_list (ops_wp S o.lt ops.toList sl γ s.env s.hp a w hl hof I E hn _ hev (fun γ' e2 H2 a' w' hr L F J E' hn' hd'=>?_) (fun γ' d e2 H2 v a' w' hr _ _ _ _ _ _ _=>by cases hr))
   cases hr
   exact hp γ' a' w' L F J (hd'.trans hd) hn' (E'.keep keep)
  ·rename_i d env' H' hev
   cases he
   refine wp_region_list (ops_wp S o.lt ops.toList sl γ s.env s.hp a w hl hof I E hn _ hev (fun γ' e2 H2 a' w' hr _ _ _ _ _ _=>by cases hr) (fun γ' d e2 H2 v a' w' hr L F J V E' hn' hd'=>?_))
   cases hr
   exact hp γ' a' w' L F J (hd'.trans hd) hn' E' v V
  ·cases he
 case case5 keep pairs hs id ops sl hsl hdr=>
  cases h
  have o:=compO_ok hsl
  simp only[evS] at he
  split at he
  ·rename_i env' H' cs hev
   split at he
   ·rename_i hpr
    cases he
    refine wp_region_any hm (draw_wp S o.len o.of o.lt hdr hev hpr (w:=w.drew) (I.up (.refl γ) (Frame.drew γ s.hp w) I.toInv.drew) E hn fun γ' a' w' L F J E' hn' hd'=>?_)
    exact hp γ' a' w' L ((Frame.drew γ s.hp w).trans rfl F) J (hd'.trans hd) hn' (E'.keep keep)
   ·cases he
  ·split at he
   ·rename_i d H' cs k hev
    split at he
    ·rename_i hpr
     cases he
     rw[Bool.and_eq_true] at hpr
     refine wp_region_any hm (draw_pan S o.len o.of o.lt hdr hev hpr.1 hpr.2 (w:=w.drew) (I.up (.refl γ) (Frame.drew γ s.hp w) I.toInv.drew) E hn fun γ' v a' w' L F J V E' hn' hd'=>?_)
     exact hp γ' a' w' L ((Frame.drew γ s.hp w).trans rfl F) J (hd'.trans hd) hn' E' v V
    ·cases he
   ·cases he
 case case8 st e z b cd hs ih=>
  obtain⟨b',hb,rfl⟩:=Option.map_eq_some_iff.1 h
  simp only[evS] at he
  split at he
  ·rename_i s1 h1
   split at h1
   ·rename_i d H1 ht
    cases h1
    obtain⟨γ1,L,F,J0,V⟩:=tok_ok I.toInv ht (E st)
    have J:=I.up L F J0
    exact ih b' hb Q γ1 _ a w out s' he J (E.tok L V) hn hd (hp.later L F)
   ·cases h1
  ·rename_i hne
   cases ht:tokD e z (s.env.get st) s.hp with
   |none=>rw[ht] at he;cases he
   |some dh=>exact(hne _ (by rw[ht])).elim
 case case10 st off e z b cd hs ih=>
  obtain⟨b',hb,rfl⟩:=Option.map_eq_some_iff.1 h
  simp only[evS] at he
  split at he
  ·rename_i s1 h1
   obtain⟨s2,ht,heq⟩:=Option.map_eq_some_iff.1 h1
   cases heq
   obtain⟨γ1,L,F,J0,E'⟩:=tokb_ok I.toInv ht E
   have J:=I.up L F J0
   exact ih b' hb Q γ1 _ a w out s' he J E' hn hd (hp.later L F)
  ·rename_i hne
   obtain⟨s2,ht,heq⟩:=Option.map_eq_some_iff.1 he
   exact(hne s2 (by rw[ht];rfl)).elim
 case case12 sa sb x y _ a' b' hb ha iha ihb=>
  cases h
  simp only[evS] at he
  split at he
  ·rename_i s1 h1
   refine wp_seq (iha a' ha _ γ s a w .norm s1 h1 I E hn hd fun γ' a2 w2 L F J hd' hn' E'=>?_)
   exact ihb b' hb Q γ' s1 a2 w2 out s' he J E' hn' hd' (hp.later L F)
  ·rename_i hne
   refine wp_seq (iha a' ha _ γ s a w out s' he I E hn hd (hp.other fun e a w hx q=>?_))
   cases out with
   |norm=>exact absurd he (hne s')
   |exit id=>cases hx;exact q
   |ret=>cases hx;exact q
   |pan d=>obtain⟨ch,rfl⟩:=hx;exact q
 case case14 _ sa sb cnd x y c' a' b' hb ha hc iha ihb=>
  cases h
  simp only[evS] at he
  split at he
  ·rename_i t hcv
   have hr:=opdOf_rep E hc
   rw[hcv] at hr
   have hv:=hr.p_inv.bool_inv
   refine wp_cond hv ?_
   cases t with
   |true=>exact iha a' ha Q γ s a w out s' he I E hn hd hp
   |false=>exact ihb b' hb Q γ s a w out s' he I E hn hd hp
  ·cases he
 case case16 _ sb id x ih=>
  obtain⟨b',hb,rfl⟩:=Option.map_eq_some_iff.1 h
  simp only[evS] at he
  split at he
  ·rename_i i s1 h1
   split at he
   ·rename_i hi
    cases he
    refine wp_block (ih b' hb _ γ s a w _ _ h1 I E hn hd fun γ' a2 w2 L F J hd' hn' E'=>?_)
    simp only[Exit.inBlock,hi,if_true]
    exact hp γ' a2 w2 L F J hd' hn' E'
   ·rename_i hi
    cases he
    refine wp_block (ih b' hb _ γ s a w _ _ h1 I E hn hd fun γ' a2 w2 L F J hd' hn' E'=>?_)
    simp only[Exit.inBlock,hi,if_false]
    exact hp γ' a2 w2 L F J hd' hn' E'
  ·rename_i hne
   refine wp_block (ih b' hb _ γ s a w out s' he I E hn hd (hp.other fun e a w hx q=>?_))
   cases out with
   |norm=>cases hx;exact q
   |exit id=>exact absurd he (hne id s')
   |ret=>cases hx;exact q
   |pan d=>obtain⟨ch,rfl⟩:=hx;exact q
 case case17 keep sb x ih=>
  obtain⟨b',hb,rfl⟩:=Option.map_eq_some_iff.1 h
  simp only[evS] at he
  obtain⟨m,hm⟩:=hit _ _ _ he
  refine wp_loop_rounds m ?_
  clear he
  induction m generalizing γ s a w with
  |zero=>cases hm
  |succ m ihm=>
   simp only[iter] at hm
   split at hm
   ·rename_i s1 h1
    refine ih b' hb _ γ _ a w .norm s1 h1 I (E.keep keep) hn hd fun γ' a2 w2 L F J hd' hn' E'=>?_
    exact ihm γ' s1 a2 w2 J E' hn' hd' (hp.later L F) hm
   ·rename_i hne
    refine ih b' hb _ γ _ a w out s' hm I (E.keep keep) hn hd (hp.other fun e a w hx q=>?_)
    cases out with
    |norm=>exact absurd hm (hne s')
    |exit id=>cases hx;exact q
    |ret=>cases hx;exact q
    |pan d=>obtain⟨ch,rfl⟩:=hx;exact q
 case case18 sb x ih=>
  obtain⟨b',hb,rfl⟩:=Option.map_eq_some_iff.1 h
  simp only[evS] at he
  refine wp_scope_straight (ih b' hb _ γ s a w out s' he I E hn hd (hp.other fun e a w hx q=>?_))
  cases out with
  |norm=>cases hx;exact q
  |exit id=>cases hx;exact q
  |ret=>cases hx;exact q
  |pan d=>obtain⟨ch,rfl⟩:=hx;exact q
 case case19 id _=>
  cases h
  simp only[evS] at he
  cases he
  exact wp_exit (hp γ a w (.refl γ) (.refl γ _ w) I hd hn E)
 case case20=>
  cases h
  simp only[evS] at he
  cases he
  exact wp_ret (hp γ a w (.refl γ) (.refl γ _ w) I hd hn E)
 case case21 b cd ih=>
  obtain⟨b',hb,rfl⟩:=Option.map_eq_some_iff.1 h
  simp only[evS] at he
  obtain⟨x,hx,heq⟩:=Option.map_eq_some_iff.1 he
  have h1:out=(locD s.hp.bx.length s.hp.tk.length (sealS s.hp.bx.length x)).1:=by rw[heq]
  have h2:s'=(locD s.hp.bx.length s.hp.tk.length (sealS s.hp.bx.length x)).2:=by rw[heq]
  rw[h1,h2] at hp
  exact ih b' hb Q γ s a w x.1 x.2 hx I E hn hd (seal_post I (loc_post I hp))
 case case22=>
  cases h
  simp only[evS] at he
  cases he
 all_goals cases h
end Go.Vs
namespace Go.Vs
variable {P : Program} {W : World} {G : Nat → Option (List PD)} {γ : Gh} {H : Hp} {w : World}
theorem cells_rep{t:TypeId}{n:Option Nat}(ht:cellN P t=some n){b base off:Nat}{ds:List D}{f:Nat→Value}(hcell:∀j,j<ds.length→w.cell? ⟨b,base+j,none⟩=some (f j))
    (hr:∀j d,ds[j]? =some d→RepD γ (f j) d) (h1:∀d∈ds,d.one=true) {d:D} (hd:cutAt ds off n id mkAgg=some d):∃v,(loadVar t ⟨b,base+off,none⟩).run P w= .ok v w∧RepD γ v d:=by
 unfold cutAt at hd
 split at hd
 ·obtain⟨d',hd',hh⟩:=Option.map_eq_some_iff.1 hd
  cases hh
  have hlt:off<ds.length:=(List.getElem?_eq_some_iff.1 hd').1
  have q:=run_loadVar (P:=P) (w:=w) ht (b:=b) (off:=base+off) (f:=fun j=>f (off+j)) (fun j hj=>by
   rw[Nat.add_assoc];exact hcell (off+j) (by simp at hj;omega))
  exact⟨_,q,hr _ _ hd'⟩
 ·rename_i k
  split at hd
  ·rename_i hk
   cases hd
   have q:=run_loadVar (P:=P) (w:=w) ht (b:=b) (off:=base+off) (f:=fun j=>f (off+j)) (fun j hj=>by
    simp only[Option.getD_some] at hj
    rw[Nat.add_assoc];exact hcell (off+j) (by omega))
   exact⟨_,q,mkAgg_rep (rangeL_rep hk fun j d hj hd=>hr _ _ hd) (fun d hd=>h1 d (sub_mem hd))⟩
  ·cases hd
theorem load_rep(I:Inv G γ H w){t:TypeId}{n:Option Nat}(ht:cellN P t=some n){v0:Value}{d0:D}(hv:RepD γ v0 d0){d:D}(hd:loadD G H n d0=some d):
    ∃ad v,v0= .pointer (some ad)∧(loadVar t ad).run P w= .ok v w∧RepD γ v d:=by
 unfold loadD at hd
 split at hd
 ·rename_i i off
  split at hd
  ·rename_i cs hcs
   split at hd
   ·cases hd
   rename_i hm
   have hm:isMapC cs=false:=by simpa using hm
   cases hv with
   |box _ _ b hb=>
    obtain⟨vs,T,fr,q1,q2,q3,_⟩:=I.box i b cs hb hcs
    rw[viewC_of hm] at q1
    have q3:=q3 hm
    obtain⟨v,h1,h2⟩:=cells_rep (P:=P) (w:=w) ht (b:=b) (base:=0) (off:=off) (ds:=cs) (f:=fun j=>vs.getD j undef) (fun j hj=>by
     have hj':j<vs.size:=by have:=q2.1;omega
     simp[World.cell?,q1,hj',Array.getD_eq_getD_getElem?]) q2.2 q3 hd
    rw[Nat.zero_add] at h1
    exact⟨_,v,rfl,h1,h2⟩
  ·cases hd
 ·rename_i cs off
  cases hv with
  |ro b base _ _ vs hm hr=>
   obtain⟨v,h1,h2⟩:=cells_rep (P:=P) (w:=w) ht (b:=b) (base:=base) (off:=off) (ds:=cs.map .p) (f:=vs) (fun j hj=>I.mem _ _ _ (hm j (by simpa using hj))) (fun j d hd=>by
    simp only[List.getElem?_map,Option.map_eq_some_iff] at hd
    obtain⟨z,hz,rfl⟩:=hd
    exact .p _ _ (hr j z hz).1) (fun d hd=>by
    obtain⟨z,hz,rfl⟩:=List.mem_map.1 hd
    obtain⟨j,hj⟩:=List.getElem?_of_mem hz
    exact(hr j z hj).2) (cutAt_p hd)
   exact⟨_,v,rfl,h1,h2⟩
 ·rename_i g off
  split at hd
  ·rename_i cs hcs
   cases hv with
   |glob _ _=>
    have hg:=I.globs g cs hcs
    obtain⟨v,h1,h2⟩:=cells_rep (P:=P) (w:=w) ht (b:=g) (base:=0) (off:=off) (ds:=cs.map .p) (f:=fun j=>(γ.mem g j).getD undef) (fun j hj=>by
     have hj:j<cs.length:=by simpa using hj
     obtain⟨_,v,q1,q2⟩:=hg j _ (List.getElem?_eq_getElem hj)
     rw[q1];simp only[Nat.zero_add,Option.getD_some]
     exact I.mem _ _ _ q1) (fun j d hd=>by
     simp only[List.getElem?_map,Option.map_eq_some_iff] at hd
     obtain⟨z,hz,rfl⟩:=hd
     obtain⟨_,v,q1,q2⟩:=hg j z hz
     rw[q1];exact .p _ _ q2) (fun d hd=>by
     obtain⟨z,hz,rfl⟩:=List.mem_map.1 hd
     obtain⟨j,hj⟩:=List.getElem?_of_mem hz
     exact(hg j z hj).1) (cutAt_p hd)
    rw[Nat.zero_add] at h1
    exact⟨_,v,rfl,h1,h2⟩
  ·cases hd
 ·cases hd
def resOf(P:Program):ResultVar→Option SRes
 | .tmp t=>some (.t t)
 | .cell a t=>(cellN P t).map (.cell a)
def res1(tmps:Array Value):ResultVar→Sem Value
 | .tmp t=>pure (tmps.getD t undef)
 | .cell a t=>do loadVar t (←asAddr (tmps.getD a undef))
theorem res1_ok(I:Inv G γ H w){env:Env}{tmps:Array Value}(E:EnvRep γ env tmps){rv:ResultVar}{r:SRes}(h:resOf P rv=some r){d:D}(hd:evRes1 G env H r=some d):
    ∃v,(res1 tmps rv).run P w= .ok v w∧RepD γ v d:=by
 cases rv with
 |tmp t=>
  cases h
  cases hd
  exact⟨_,rfl,E t⟩
 |cell a t=>
  obtain⟨n,hn,rfl⟩:=Option.map_eq_some_iff.1 h
  simp only[evRes1] at hd
  obtain⟨ad,v,h1,h2,h3⟩:=load_rep (P:=P) I hn (E a) hd
  refine⟨v,?_,h3⟩
  simp only[res1,h1,asAddr,Sem.run_bind,Sem.run_pure,Result.andThen_ok,h2]
theorem resL_ok(I:Inv G γ H w){env:Env}{tmps:Array Value}(E:EnvRep γ env tmps):∀{rvs:List ResultVar} {rs:List SRes},mapO (resOf P) rvs=some rs→∀{ds:List D},mapO (evRes1 G env H) rs=some ds→
    ∃vs:List Value,(rvs.mapM (res1 tmps)).run P w= .ok vs w∧vs.length=ds.length∧∀(i:Nat) v d,vs[i]? =some v→ds[i]? =some d→RepD γ v d
 |[],rs,h,ds,hd=>by
  simp only[mapO,Option.some.injEq] at h
  subst h
  simp only[mapO,Option.some.injEq] at hd
  subst hd
  exact⟨[],rfl,rfl,fun i v d h=>by simp at h⟩
 |rv::rvs,rs,h,ds,hd=>by
  simp only[mapO] at h
  split at h
  ·rename_i r hr
   obtain⟨rs',hrs,rfl⟩:=Option.map_eq_some_iff.1 h
   simp only[mapO] at hd
   split at hd
   ·rename_i d hd1
    obtain⟨ds',hds,rfl⟩:=Option.map_eq_some_iff.1 hd
    obtain⟨v,h1,h2⟩:=res1_ok I E hr hd1
    obtain⟨vs,h3,h4,h5⟩:=resL_ok I E hrs hds
    refine⟨v::vs,?_,by simp[h4],fun i u e hu he=>?_⟩
    ·simp only[List.mapM_cons,Sem.run_bind,h1,Result.andThen_ok,h3,Sem.run_pure]
    ·match i with
     | 0=>simp only[List.getElem?_cons_zero,Option.some.injEq] at hu he;subst hu;subst he;exact h2
     |i+1=>exact h5 i u e (by simpa using hu) (by simpa using he)
   ·cases hd
  ·cases h
theorem results_ok(I:Inv G γ H w){env:Env}{tmps:Array Value}(E:EnvRep γ env tmps){fn:Func}{rs:List SRes}(h:mapO (resOf P) fn.results.toList=some rs){d:D}(hd:evRes G env H rs=some d):
    ∃v,(results fn tmps).run P w= .ok v w∧RepD γ v d:=by
 have hrun:∀vs,(fn.results.toList.mapM (res1 tmps)).run P w= .ok vs w→(results fn tmps).run P w= .ok (if h:vs.toArray.size=1 then vs.toArray[0] else .tuple vs.toArray) w:=by
  intro vs hvs
  have :results fn tmps=(fn.results.mapM (res1 tmps))>>=fun vs=>pure (if h:vs.size=1 then vs[0] else .tuple vs):=rfl
  rw[this,Array.mapM_eq_mapM_toList]
  simp only[Sem.run_bind,map_eq_pure_bind,hvs,Result.andThen_ok,Sem.run_pure]
 unfold evRes at hd
 split at hd
 ·cases hd
  obtain⟨vs,h1,h2,_⟩:=resL_ok I E h (ds:=[]) rfl
  have hv:vs=[]:=List.length_eq_zero_iff.1 h2
  subst hv
  exact⟨_,hrun _ h1,RepD.undef⟩
 ·rename_i r
  obtain⟨vs,h1,h2,h3⟩:=resL_ok I E h (ds:=[d]) (by simp only[mapO,hd,Option.map_some])
  obtain⟨v,rfl⟩:=List.length_eq_one_iff.1 h2
  exact⟨v,by simpa using hrun _ h1,h3 0 v d rfl rfl⟩
 ·rename_i rs0 hne1 hne2
  obtain⟨ds,hds,rfl⟩:=Option.map_eq_some_iff.1 hd
  obtain⟨vs,h1,h2,h3⟩:=resL_ok I E h hds
  have hl:rs.length=ds.length:=(mapO_both hds).1
  have hne:¬vs.toArray.size=1:=by
   intro hs
   simp at hs
   rw[←h2] at hl
   rw[hs] at hl
   obtain⟨r,hr⟩:=List.length_eq_one_iff.1 hl
   exact hne2 r hr
  refine⟨.tuple vs.toArray,?_,?_⟩
  ·have:=hrun _ h1
   rw[dif_neg hne] at this
   exact this
  ·refine .tup _ _ (by simpa using h2) fun i d hd=>?_
   have hi:i<vs.length:=by rw[h2];exact(List.getElem?_eq_some_iff.1 hd).1
   have:=h3 i vs[i] d (List.getElem?_eq_getElem hi) hd
   simpa[Array.getD_eq_getD_getElem?,hi] using this
def spine:Code→List Code
 | .seq a b=>spine a++spine b
 |c=>[c]
def wpL(P:Program):List Code→(Exit→Act→World→Prop)→Act→World→Prop
 |[],Q,a,w=>Q .normal a w
 |c::r,Q,a,w=>c.wp P (Exit.then (wpL P r Q) Q) a w
theorem wpL_app:∀(x y:List Code) (Q:Exit→Act→World→Prop) (a:Act) (w:World),wpL P (x++y) Q a w→wpL P x (Exit.then (wpL P y Q) Q) a w
 |[],y,Q,a,w,h=>h
 |c::x,y,Q,a,w,h=>by
  refine wp_mono (P:=P) h fun e a w q=>?_
  cases e with
  |normal=>exact wpL_app x y Q a w q
  |_=>exact q
theorem wpL_mono:∀(x:List Code) {Q Q':Exit→Act→World→Prop} {a:Act} {w:World},wpL P x Q a w→(∀e a w,Q e a w→Q' e a w)→wpL P x Q' a w
 |[],Q,Q',a,w,h,k=>k _ _ _ h
 |c::x,Q,Q',a,w,h,k=>by
  refine wp_mono (P:=P) h fun e a w q=>?_
  cases e with
  |normal=>exact wpL_mono x q k
  |_=>exact k _ _ _ q
theorem wp_spine:∀(c:Code) {Q:Exit→Act→World→Prop} {a:Act} {w:World},wpL P (spine c) Q a w→c.wp P Q a w:=by
 intro c
 induction c with
 |seq x y ihx ihy=>
  intro Q a w h
  refine wp_seq (ihx (wpL_mono (spine x) (wpL_app (spine x) (spine y) Q a w h) fun e a w q=>?_))
  cases e with
  |normal=>exact ihy q
  |_=>exact q
 |_=>
  intro Q a w h
  refine wp_mono (P:=P) h fun e a w q=>?_
  cases e with
  |normal=>exact q
  |_=>exact q
def wpLS(P:Program):List Code→(Exit→Act→List Go.Frame→World→Prop)→Act→List Go.Frame→World→Prop
 |[],Q,a,cs,w=>Q .normal a cs w
 |c::r,Q,a,cs,w=>c.wpS P (Exit.thenS (wpLS P r Q) Q) a cs w
theorem wpS_mono{c:Code}{Q Q':Exit→Act→List Go.Frame→World→Prop}{a:Act}{cs:List Go.Frame}{w:World}(h:c.wpS P Q a cs w)(hq:∀e a cs w,Q e a cs w→Q' e a cs w):c.wpS P Q' a cs w:=
 fun b k h1 h2=>let⟨e,a',cs',w',q,r⟩:=h b k h1 h2;⟨e,a',cs',w',hq _ _ _ _ q,r⟩
theorem wpLS_app:∀(x y:List Code) (Q:Exit→Act→List Go.Frame→World→Prop) (a:Act) (cs:List Go.Frame) (w:World),wpLS P (x++y) Q a cs w→wpLS P x (Exit.thenS (wpLS P y Q) Q) a cs w
 |[],y,Q,a,cs,w,h=>h
 |c::x,y,Q,a,cs,w,h=>by
  refine wpS_mono (P:=P) h fun e a cs w q=>?_
  cases e with
  |normal=>exact wpLS_app x y Q a cs w q
  |_=>exact q
theorem wpLS_mono:∀(x:List Code) {Q Q':Exit→Act→List Go.Frame→World→Prop} {a:Act} {cs:List Go.Frame} {w:World},wpLS P x Q a cs w→(∀e a cs w,Q e a cs w→Q' e a cs w)→wpLS P x Q' a cs w
 |[],Q,Q',a,cs,w,h,k=>k _ _ _ _ h
 |c::x,Q,Q',a,cs,w,h,k=>by
  refine wpS_mono (P:=P) h fun e a cs w q=>?_
  cases e with
  |normal=>exact wpLS_mono x q k
  |_=>exact k _ _ _ _ q
theorem wpS_spine:∀(c:Code) {Q:Exit→Act→List Go.Frame→World→Prop} {a:Act} {cs:List Go.Frame} {w:World},wpLS P (spine c) Q a cs w→c.wpS P Q a cs w:=by
 intro c
 induction c with
 |seq x y ihx ihy=>
  intro Q a cs w h
  refine wpS_seq (ihx (wpLS_mono (spine x) (wpLS_app (spine x) (spine y) Q a cs w h) fun e a cs w q=>?_))
  cases e with
  |normal=>exact ihy q
  |_=>exact q
 |_=>
  intro Q a cs w h
  refine wpS_mono (P:=P) h fun e a cs w q=>?_
  cases e with
  |normal=>exact q
  |_=>exact q
theorem wpLS_of_wpL:∀(x:List Code) {Q:Exit→Act→List Go.Frame→World→Prop} {a:Act} {cs:List Go.Frame} {w:World},wpL P x (fun e a w=>Q e a cs w) a w→wpLS P x Q a cs w
 |[],Q,a,cs,w,h=>h
 |c::x,Q,a,cs,w,h=>by
  refine wpS_of_wp (wp_mono (P:=P) h fun e a w q=>?_)
  cases e with
  |normal=>exact wpLS_of_wpL x q
  |_=>exact q
theorem wpS_rec{id:Nat}{ops:Array Oper}{o:Oper}{l:List Oper}(ho:ops.toList=o::l)(hg:o.guard=none){b:Builtin}(hb:b= .recover){as:Array Operand}{ts:Array TypeId}(hop:o.op= .call {callee:=.builtin b,args:=as,argTypes:=ts})
    {Q:Exit→Act→List Go.Frame→World→Prop} {a:Act} {cs:List Go.Frame} {w:World}
    (h:∀v cs',(recoverD cs=some (v,cs')∨(recoverD cs=none∧v= .nilIface∧cs'=cs))→wpList P ops (fun e a w=>Q e a cs' w) l (a.put o.dst v) w):(Code.region id ops false).wpS P Q a cs w:=by
 intro b' k hk hro
 have hsz:ops.size=l.length+1:=by rw[←Array.length_toList,ho];rfl
 have h0:ops[0]? =some o:=by rw[←Array.getElem?_toList,ho];rfl
 have hlist:∀j,l[j]? =ops[1+j]?:=fun j=>by rw[←Array.getElem?_toList,ho,Nat.add_comm];rfl
 have hrange:List.range ops.size=0::List.range' 1 l.length:=by
  rw[hsz,List.range_eq_range']
  rfl
 have hw:Region.wanted o (yielded ops a.tmps)=true:=by simp[Region.wanted,hg]
 have hrun:(execOp a.eval o).run P w= .ok .recover w:=by
  subst hb
  simp[execOp,hop,resolve,invoke,builtin]
 have hgo:=stepG_op (P:=P) (b:=b') (k:=k) (cs:=cs) (w:=w) (rest:=List.range' 1 l.length) h0 hw
 have hfin:∀v,(b'.at a (.inRegion ops (0::List.range' 1 l.length)::k)).finish v=b'.at (a.put o.dst v) (.inRegion ops (List.range' 1 l.length)::k):=by
  intro v;rw[Go.Frame.finish_at,h0];rfl
 have htr:=tryRecover_deferred (fr:=b'.at a (.inRegion ops (0::List.range' 1 l.length)::k)) hk cs
 obtain⟨v,cs',hrec,hstep⟩:∃v cs',(recoverD cs=some (v,cs')∨(recoverD cs=none∧v= .nilIface∧cs'=cs))∧
     step P (lone (b'.at a (.inRegion ops (0::List.range' 1 l.length)::k)) cs w)= .next (lone (b'.at (a.put o.dst v) (.inRegion ops (List.range' 1 l.length)::k)) cs' w):=by
  cases hr:recoverD cs with
  |some x=>
   obtain⟨v,cs'⟩:=x
   refine⟨v,cs',.inl rfl,step_lone_go ?_⟩
   rw[hgo,←hfin]
   simp only[Go.Frame.at] at htr⊢
   simp[stepG.apply,hrun,htr,hr]
  |none=>
   refine⟨.nilIface,cs,.inr ⟨rfl,rfl,rfl⟩,step_lone_go ?_⟩
   rw[hgo,←hfin]
   simp only[Go.Frame.at] at htr⊢
   simp[stepG.apply,hrun,htr,hr]
 have hl:=h v cs' hrec
 rw[←wpOps_eq_wpList l 1 hlist] at hl
 obtain⟨e,a',w',q,r⟩:=wp_ops _ _ _ hl b' k cs'
 refine⟨e,a',cs',w',q,.of_steps (.head step_region ?_) r⟩
 rw[hrange]
 exact .one hstep
def compLs(P:Program)(nt:Nat):List SC→List Code→Option (List SC)
 |[],[]=>some []
 |s::r,c::cr=>match compC P nt s c,compLs P nt r cr with
  |some a,some b=>some (a::b)
  |_,_=>none
 |_,_=>none
def compSp(P:Program)(nt:Nat):SC→List Code→Option SC
 | .seq a b,c::d::r=>match compC P nt a c,compSp P nt b (d::r) with
  |some x,some y=>some (.seq x y)
  |_,_=>none
 |s,[c]=>compC P nt s c
 |_,_=>none
theorem compLs_wp{c:CallR}(S:Sound P W G c)(hm:P.follows .mixedOrders=true){it:It}(hit:∀b s r,it b s=some r→∃m,iter b m s=some r){nt:Nat}{df:List Deferred}:
    ∀(l:List SC) (cd:List Code) (l':List SC),compLs P nt l cd=some l'→∀(Q:Exit→Act→World→Prop) (γ:Gh) (s:St) (a:Act) (w:World) (out:Out) (s':St),evSeqL c G it l' s=some (out,s')→
     InvS W G γ s.hp w→EnvRep γ s.env a.tmps→a.tmps.size=nt→a.defers=df→Post W G nt df Q γ s.hp w out s'→wpL P cd Q a w
 |[],[],l',h,Q,γ,s,a,w,out,s',he,I,E,hn,hd,hp=>by
  cases h
  simp only[evSeqL] at he
  cases he
  exact hp γ a w (.refl γ) (.refl γ _ w) I hd hn E
 |x::l,y::cd,l',h,Q,γ,s,a,w,out,s',he,I,E,hn,hd,hp=>by
  simp only[compLs] at h
  split at h
  ·rename_i x' r' hx hr
   cases h
   simp only[evSeqL] at he
   split at he
   ·rename_i s1 h1
    refine code_wp S hm hit x y x' hx _ γ s a w .norm s1 h1 I E hn hd fun γ' a2 w2 L F J hd' hn' E'=>?_
    exact compLs_wp S hm hit l cd r' hr Q γ' s1 a2 w2 out s' he J E' hn' hd' (hp.later L F)
   ·rename_i hne
    refine code_wp S hm hit x y x' hx _ γ s a w out s' he I E hn hd (hp.other fun e a w hx q=>?_)
    cases out with
    |norm=>exact absurd he (hne s')
    |exit id=>cases hx;exact q
    |ret=>cases hx;exact q
    |pan d=>obtain⟨ch,rfl⟩:=hx;exact q
  ·cases h
 |[],_::_,l',h,Q,γ,s,a,w,out,s',he,I,E,hn,hd,hp=>by cases h
 |_::_,[],l',h,Q,γ,s,a,w,out,s',he,I,E,hn,hd,hp=>by cases h
theorem compSp_wp{c:CallR}(S:Sound P W G c)(hm:P.follows .mixedOrders=true){it:It}(hit:∀b s r,it b s=some r→∃m,iter b m s=some r){nt:Nat}{df:List Deferred}(sc:SC)(cd:List Code):
    ∀(sc':SC),compSp P nt sc cd=some sc'→∀(Q:Exit→Act→World→Prop) (γ:Gh) (s:St) (a:Act) (w:World) (out:Out) (s':St),evS c G it sc' s=some (out,s')→
     InvS W G γ s.hp w→EnvRep γ s.env a.tmps→a.tmps.size=nt→a.defers=df→Post W G nt df Q γ s.hp w out s'→wpL P cd Q a w:=by
 fun_induction compSp P nt sc cd
 all_goals (intro sc' h Q γ s a w out s' he I E hn hd hp)
 case case1 x y c0 d r x' y' hy hx ih=>
  cases h
  simp only[evS] at he
  split at he
  ·rename_i s1 h1
   refine code_wp S hm hit x c0 x' hx _ γ s a w .norm s1 h1 I E hn hd fun γ' a2 w2 L F J hd' hn' E'=>?_
   exact ih y' hy Q γ' s1 a2 w2 out s' he J E' hn' hd' (hp.later L F)
  ·rename_i hne
   refine code_wp S hm hit x c0 x' hx _ γ s a w out s' he I E hn hd (hp.other fun e a w hx q=>?_)
   cases out with
   |norm=>exact absurd he (hne s')
   |exit id=>cases hx;exact q
   |ret=>cases hx;exact q
   |pan d=>obtain⟨ch,rfl⟩:=hx;exact q
 case case3=>
  refine code_wp S hm hit _ _ sc' h _ γ s a w out s' he I E hn hd (hp.other fun e a w hx q=>?_)
  cases e<;>exact q
 all_goals cases h
def compDfr(P:Program)(nt:Nat)(x:Dfr)(body:SC)(c:Code):Option (Dfr×SC):=
 match(spine c).drop x.pre.length with
 | .region _ ops false::rest=>match ops.back? with
  |some o=>match o.op,o.guard with
   | .defer ⟨.value f,as,_⟩,none=>
    match compLs P nt x.pre ((spine c).take x.pre.length),compO P nt ops (x.ops++[⟨none,.stuck,none⟩]),opdOf f,mapO opdOf as.toList,compSp P nt body rest with
    |some pre,some sl,some f',some as',some b=>if o.dst.isNone then some (⟨pre,x.keep,sl.dropLast,f',as'⟩,b) else none
    |_,_,_,_,_=>none
   |_,_=>none
  |none=>none
 |_=>none
structure FOk (P:Program) (f:Nat) (fc:FC):Prop where
 ex:∃fn c,P.funcs[f]? =some fn∧(fn.name== "runtime.NumGoroutine")=false∧fn.body=some c∧fn.ntmps=fc.nt∧fc.np≤fc.nt∧mapO (resOf P) fn.results.toList=some fc.res∧
  (match fc.dfr with |none=>compC P fc.nt fc.body c=some fc.body |some x=>compDfr P fc.nt x fc.body c=some (x,fc.body))
def compF(P:Program)(fn:Func)(fc:FC):Option FC:=
 if fn.name== "runtime.NumGoroutine" then none else
 match fn.body,mapO (resOf P) fn.results.toList with
 |some c,some res=>if fn.ntmps=fc.nt∧fc.np≤fc.nt then(match fc.dfr with
  |none=>(compC P fc.nt fc.body c).map fun b=>⟨fc.nt,fc.np,res,b,fc.frz,none⟩
  |some x=>(compDfr P fc.nt x fc.body c).map fun y=>⟨fc.nt,fc.np,res,y.2,fc.frz,some y.1⟩) else none
 |_,_=>none
theorem FOk.of{f:Nat}{fn:Func}{fc:FC}(hf:P.funcs[f]? =some fn)(h:compF P fn fc=some fc):FOk P f fc:=by
 unfold compF at h
 split at h
 ·cases h
 ·rename_i hn
  split at h
  ·rename_i c res hb hres
   split at h
   ·rename_i hc
    cases hd:fc.dfr with
    |none=>
     rw[hd] at h
     obtain⟨b,hb',heq⟩:=Option.map_eq_some_iff.1 h
     have e1:res=fc.res:=congrArg FC.res heq
     have e2:b=fc.body:=congrArg FC.body heq
     exact⟨fn,c,hf,by simpa using hn,hb,hc.1,hc.2,by rw[hres,e1],by rw[hd];dsimp only;rw[hb',e2]⟩
    |some x=>
     rw[hd] at h
     obtain⟨y,hb',heq⟩:=Option.map_eq_some_iff.1 h
     have e1:res=fc.res:=congrArg FC.res heq
     have e2:y.2=fc.body:=congrArg FC.body heq
     have e3:some y.1=some x:=by rw[←hd];exact congrArg FC.dfr heq
     cases e3
     exact⟨fn,c,hf,by simpa using hn,hb,hc.1,hc.2,by rw[hres,e1],by rw[hd];dsimp only;rw[hb',←e2]⟩
   ·cases h
  ·cases h
def compDef(P:Program)(nt dst:Nat)(sc:SC)(c:Code):Option SC:=
 match sc,spine c with
 | .seq (.region keep hs) b,.region _ ops false::d::rest=>match ops.toList with
  |o::l=>match o.op,o.guard with
   | .call ⟨.builtin .recover,_,_⟩,none=>match compL P nt ops l hs.tail,compSp P nt b (d::rest) with
    |some sl,some b'=>if o.dst=some dst∧dst<nt∧(ops.toList.all fun x=>match x.dst with |some t=>decide (t<nt) |none=>true)=true then some (.seq (.region keep (⟨some dst,.move (.t dst),none⟩::sl)) b') else none
    |_,_=>none
   |_,_=>none
  |[]=>none
 |_,_=>none
structure DOk (P:Program) (f dst:Nat) (fc:FC):Prop where
 ex:∃fn c,P.funcs[f]? =some fn∧(fn.name== "runtime.NumGoroutine")=false∧fn.body=some c∧fn.ntmps=fc.nt∧fc.np≤fc.nt∧mapO (resOf P) fn.results.toList=some fc.res∧compDef P fc.nt dst fc.body c=some fc.body
def compDF(P:Program)(fn:Func)(dst:Nat)(fc:FC):Option FC:=
 if fn.name== "runtime.NumGoroutine" then none else
 match fn.body,mapO (resOf P) fn.results.toList with
 |some c,some res=>if fn.ntmps=fc.nt∧fc.np≤fc.nt then(compDef P fc.nt dst fc.body c).map fun b=>⟨fc.nt,fc.np,res,b,fc.frz,fc.dfr⟩ else none
 |_,_=>none
theorem DOk.of{f dst:Nat}{fn:Func}{fc:FC}(hf:P.funcs[f]? =some fn)(h:compDF P fn dst fc=some fc):DOk P f dst fc:=by
 unfold compDF at h
 split at h
 ·cases h
 ·rename_i hn
  split at h
  ·rename_i c res hb hres
   split at h
   ·rename_i hc
    obtain⟨b,hb',heq⟩:=Option.map_eq_some_iff.1 h
    have e1:res=fc.res:=congrArg FC.res heq
    have e2:b=fc.body:=congrArg FC.body heq
    exact⟨fn,c,hf,by simpa using hn,hb,hc.1,hc.2,by rw[hres,e1],by rw[hb',e2]⟩
   ·cases h
  ·cases h
theorem entry_get:∀(n:Nat) (l:List D) (t:Nat),(entry n l).get t=if n≤t∧t<n+l.length then l.getD (t-n) .dead else .dead
 |n,[],t=>by simp only[entry,Env.get,List.length_nil];rw[if_neg (by omega)]
 |n,d::l,t=>by
  simp only[entry,Env.get,List.length_cons]
  split
  ·rename_i h;subst h;rw[if_pos (by omega),Nat.sub_self];rfl
  ·rename_i h
   rw[entry_get (n+1) l t]
   by_cases hc:n+1≤t∧t<n+1+l.length
   ·rw[if_pos hc,if_pos (by omega)]
    rw[show t-n=(t-(n+1))+1 by omega];rfl
   ·rw[if_neg hc,if_neg (by omega)]
theorem entry_rep{vs:Array Value}{ds:List D}(h:RepL γ vs ds)(k:Nat):EnvRep γ (entry 0 ds) (vs++Array.replicate k undef):=by
 intro t
 rw[entry_get]
 split
 ·rename_i ht
  have hlt:t<ds.length:=by omega
  have e:ds[t]? =some (ds.getD (t-0) .dead):=by simp[List.getD_eq_getElem?_getD,hlt]
  have:=h.2 t _ e
  have hv:t<vs.size:=by rw[h.1];exact hlt
  simpa[Array.getD_eq_getD_getElem?,Array.getElem?_append,hv] using this
 ·exact .dead _
theorem finish_norm{res:List SRes}{x:Option (Out×St)}{r:Res}{H':Hp}(h:finish G res x=some (r,H')):
    (∃s d,(x=some (.norm,s)∨x=some (.ret,s))∧evRes G s.env s.hp res=some d∧r= .val d∧H'=s.hp)∨∃s d,x=some (.pan d,s)∧r= .pan d∧H'=s.hp:=by
 unfold finish at h
 split at h
 ·rename_i s
  split at h
  ·rename_i d hd;cases h;exact .inl ⟨s,d,.inl rfl,hd,rfl,rfl⟩
  ·cases h
 ·rename_i s
  split at h
  ·rename_i d hd;cases h;exact .inl ⟨s,d,.inr rfl,hd,rfl,rfl⟩
  ·cases h
 ·rename_i d s;cases h;exact .inr ⟨s,d,rfl,rfl,rfl⟩
 ·cases h
theorem finish_fun{fn:Func}{fc:FC}(h6:mapO (resOf P) fn.results.toList=some fc.res){γ:Gh}{H:Hp}{w:World}{x:Option (Out×St)}{r:Res}{H':Hp}(h:finish G fc.res x=some (r,H')):
    ∃out s,x=some (out,s)∧Post W G fc.nt [] (bodyPost P fn fun e w'=>∃γ',γ.le γ'∧Frame γ H w γ' H' w'∧InvS W G γ' H' w'∧Ends' γ' r e) γ H w out s:=by
 rcases finish_norm h with⟨s,d,hx,hd,rfl,rfl⟩ |⟨s,d,hx,rfl,rfl⟩
 ·have post:∀γ' (a':Act) w',γ.le γ'→Frame γ H w γ' s.hp w'→InvS W G γ' s.hp w'→a'.defers=[]→EnvRep γ' s.env a'.tmps→a'.defers=[]∧∃v,(results fn a'.tmps).run P w'= .ok v w'∧∃γ',γ.le γ'∧Frame γ H w γ' s.hp w'∧InvS W G γ' s.hp w'∧Ends' γ' (.val d) (.returned v):=by
   intro γ' a' w' L F J hd' E
   obtain⟨v,q1,q2⟩:=results_ok J.toInv E h6 hd
   exact⟨hd',v,q1,γ',L,F,J,v,rfl,q2⟩
  rcases hx with hx |hx
  ·exact⟨.norm,s,hx,fun γ' a' w' L F J hd' _ E=>post γ' a' w' L F J hd' E⟩
  ·exact⟨.ret,s,hx,fun γ' a' w' L F J hd' _ E=>post γ' a' w' L F J hd' E⟩
 ·exact⟨.pan d,s,hx,fun γ' a' w' L F J hd' _ _ v V=>⟨hd',γ',L,F,J,v,rfl,V⟩⟩
theorem fun_ok{c:CallR}(S:Sound P W G c)(hm:P.follows .mixedOrders=true){it:It}(hit:∀b s r,it b s=some r→∃m,iter b m s=some r){f:Nat}{fc:FC}(hf:FOk P f fc)(hnd:fc.dfr=none){args:List D}{H:Hp}{r:Res}{H':Hp}
    (hl:args.length=fc.np) (h:finish G fc.res (evS c G it fc.body ⟨entry 0 args,H⟩)=some (r,H')):Meets P W G f args H r H':=by
 obtain⟨fn,cd,h1,h2,h3,h4,h5,h6,h7⟩:=hf.ex
 rw[hnd] at h7
 dsimp only at h7
 refine⟨⟨fn,h1,h2,by rw[h3];rfl⟩,fun γ w vs I hv=>?_⟩
 have hvs:vs.size=fc.np:=by rw[hv.1,hl]
 refine calls_of_wp h1 h3 ?_
 have hsz:(vs++Array.replicate (fn.ntmps-vs.size) undef).size=fc.nt:=by simp[h4,hvs];omega
 obtain⟨out,s,hx,hp⟩:=finish_fun (W:=W) (γ:=γ) (H:=H) (w:=w) h6 h
 exact code_wp S hm hit fc.body cd fc.body h7 _ γ ⟨entry 0 args,H⟩ _ w out s hx I (entry_rep hv _) hsz rfl hp
def DCalls(P:Program)(f:Nat)(vs:Array Value)(w:World)(R:Ending→World→Prop):Prop:=
 ∀(v:Value) (vs':Array Value),vs= #[v]++vs'→Enters P f∧(v= .nilIface→CallsD P f vs' .returning w fun e u' w'=>u'= .returning∧R e w')∧
  CallsD P f vs' (.panicking [{v:=v,recovered:=false}]) w fun e u' w'=>u'= .panicking [{v:=v,recovered:=true}]∧R e w'
theorem entry_def{rv:D}{ds:List D}{v:Value}{vs':Array Value}(h:RepL γ (#[v]++vs') (rv::ds)):RepD γ v rv∧RepL γ vs' ds:=by
 have h0:=h.2 0 rv rfl
 have e0:(#[v]++vs').getD 0 undef=v:=by
  simp only[Array.getD_eq_getD_getElem?]
  rw[Array.getElem?_append_left (by simp)]
  simp
 rw[e0] at h0
 refine⟨h0,by have:=h.1;simp at this;omega,fun i d hd=>?_⟩
 have:=h.2 (i+1) d (by simpa using hd)
 have e:(#[v]++vs').getD (i+1) undef=vs'.getD i undef:=by
  simp only[Array.getD_eq_getD_getElem?]
  rw[Array.getElem?_append_right (by simp)]
  simp
 rwa [e] at this
theorem def_ok{c:CallR}(S:Sound P W G c)(hm:P.follows .mixedOrders=true){it:It}(hit:∀b s r,it b s=some r→∃m,iter b m s=some r){T:Nat→Option (Nat×FC)}(hT:∀f x,T f=some x→DOk P f x.1 x.2){f:Nat}:
    ∀args H r H',evDef c T G it f args H=some (r,H')→∀γ w vs,InvS W G γ H w→RepL γ vs args→DCalls P f vs w fun e w'=>∃γ',γ.le γ'∧Frame γ H w γ' H' w'∧InvS W G γ' H' w'∧Ends' γ' r e:=by
 intro args H r H' h γ w vs I hv v vs' hvs
 subst hvs
 unfold evDef at h
 split at h
 ·rename_i dst fc rv as hTf
  split at h
  ·rename_i hl
   split at h
   ·rename_i d0 H0 hfin
    cases h
    obtain⟨fn,cd,h1,h2,h3,h4,h5,h6,h7⟩:=(hT f (dst,fc) hTf).ex
    dsimp only at h4 h5 h6 h7
    obtain⟨hrv,has⟩:=entry_def hv
    have hsz:(vs'++Array.replicate (fn.ntmps-vs'.size) undef).size=fc.nt:=by simp[h4,has.1,hl.1];omega
    refine⟨⟨fn,h1,h2,by rw[h3];rfl⟩,?_⟩
    have key:∀(u u':FrameMode),(∀(c₀:Go.Frame) cs,c₀.mode=u→∀v1 cs1,(recoverD (c₀::cs)=some (v1,cs1)∨(recoverD (c₀::cs)=none∧v1= .nilIface∧cs1=c₀::cs))→v1=v∧cs1={c₀ with mode:=u'}::cs)→
        CallsD P f vs' u w fun e u2 w'=>u2=u'∧∃γ',γ.le γ'∧Frame γ H w γ' H' w'∧InvS W G γ' H' w'∧Ends' γ' (.val d0) e:=by
     intro u u' hu
     refine callsD_of_wpS h1 h3 fun c₀ cs hc₀=>?_
     refine wpS_spine cd ?_
     unfold compDef at h7
     split at h7
     ·rename_i keep hs b id ops d rest hbody hsp
      split at h7
      ·rename_i o l hol
       split at h7
       ·rename_i as0 ts0 hop hgd
        split at h7
        ·rename_i sl b' hsl hb'
         split at h7
         ·rename_i hdst
          cases hh:fc.body with
          |seq x y=>
           rw[hh] at h7 hfin
           cases h7
           rw[hsp]
           obtain⟨ho,hdlt,hall⟩:=hdst
           refine wpS_rec (b:=.recover) hol hgd rfl hop fun v1 cs1 hr=>?_
           obtain⟨rfl,rfl⟩:=hu c₀ cs hc₀ v1 cs1 hr
           rw[ho]
           obtain⟨out,s,hx,hp⟩:=finish_fun (W:=W) (γ:=γ) (H:=H) (w:=w) h6 hfin
           have E1:EnvRep γ ((dst,rv)::(dst,rv)::entry 0 as) (({tmps:=vs'++Array.replicate (fn.ntmps-vs'.size) undef,defers:=[]}:Act).put (some dst) v1).tmps:=by
            have E0:=(entry_rep has (fn.ntmps-vs'.size)).put (t:=dst) (by rw[hsz];exact hdlt) hrv
            intro t
            have:=E0 t
            simp only[Env.get,Act.put] at this⊢
            split
            ·rename_i ht;rw[if_pos ht] at this;exact this
            ·rename_i ht;rw[if_neg ht] at this;first |exact this |(rw[if_neg ht];exact this)
           have hlt:∀(j:Nat) o' t,ops[j]? =some o'→o'.dst=some t→t<fc.nt:=fun j o' t hj ht=>by
            have hmem:o'∈ops.toList:=by
             rw[←Array.getElem?_toList] at hj
             exact List.mem_of_getElem? hj
            have:=List.all_eq_true.1 hall o' hmem
            rw[ht] at this
            simpa using this
           obtain⟨hll,hof⟩:=compL_both hsl
           have hof':∀(i:Nat) a so,l[i]? =some a→sl[i]? =some so→OpOf P ops fc.nt a so:=fun i a so ha hso=>by
            obtain⟨_,q⟩:=hof i a so ha hso
            exact soOf_ok q
           simp only[evS] at hx
           simp only[evOps,evGuard,evKC,evK,Opd.ev,Env.get,if_true,put] at hx
           have done:∀{γ':Gh} {a':Act} {w':World} {e:Exit},bodyPost P fn (fun e w'=>∃γ',γ.le γ'∧Frame γ H w γ' H' w'∧InvS W G γ' H' w'∧Ends' γ' (.val d0) e) e a' w'→
               bodyPostS P fn c₀ cs (fun e u2 w'=>u2=u'∧∃γ',γ.le γ'∧Frame γ H w γ' H' w'∧InvS W G γ' H' w'∧Ends' γ' (.val d0) e) e a' ({c₀ with mode:=u'}::cs) w':=by
            intro γ' a' w' e hq
            cases e with
            |normal=>obtain⟨q1,v,q2,q3⟩:=hq;exact⟨q1,u',rfl,v,q2,rfl,q3⟩
            |ret=>obtain⟨q1,v,q2,q3⟩:=hq;exact⟨q1,u',rfl,v,q2,rfl,q3⟩
            |panic ch=>obtain⟨q1,q3⟩:=hq;exact⟨q1,u',rfl,rfl,q3⟩
            |outgrown=>exact⟨u',rfl,hq⟩
            |exit id=>exact hq.elim
            |goto t=>exact hq.elim
           cases hev:evOps c G sl ((dst,rv)::(dst,rv)::entry 0 as) H with
           |none=>rw[hev] at hx;simp at hx
           |some ro=>
            rw[hev] at hx
            refine ops_wp S hlt l sl γ _ H _ w hll hof' I E1 (by simp[Act.put,hsz]) ro hev (fun γ' e2 H2 a' w' hr L F J E' hn' hd'=>?_) (fun γ' d2 e2 H2 v2 a' w' hr L F J V E' hn' hd'=>?_)
            ·subst hr
             simp only at hx
             refine wpLS_of_wpL (d::rest) ?_
             refine compSp_wp S hm hit b (d::rest) _ hb' _ γ' _ a' w' out s hx J (E'.keep _) hn' (df:=[]) (by rw[hd'];simp[Act.put]) ?_
             refine(hp.later L F).other fun e a w _ q=>done (γ':=γ') q
            ·subst hr
             simp only[Option.some.injEq,Prod.mk.injEq] at hx
             obtain⟨rfl,rfl⟩:=hx
             have:=hp γ' a' w' L F J (by rw[hd'];simp[Act.put]) hn' E' v2 V
             exact done (γ':=γ') this
          |_=>rw[hh] at h7;cases h7
         ·cases h7
        ·cases h7
       ·cases h7
      ·cases h7
     ·cases h7
    refine⟨fun hv0=>key .returning .returning ?_,key _ _ ?_⟩
    ·intro c₀ cs hc v1 cs1 hr
     have hn:recoverD (c₀::cs)=none:=by simp[recoverD,hc]
     rcases hr with hr |⟨_,rfl,rfl⟩
     ·rw[hn] at hr;cases hr
     ·exact⟨hv0.symm,by rw[←hc]⟩
    ·intro c₀ cs hc v1 cs1 hr
     have hs:recoverD (c₀::cs)=some (v,{c₀ with mode:=.panicking [{v:=v,recovered:=true}]}::cs):=by simp[recoverD,hc]
     rcases hr with hr |⟨hr,_,_⟩
     ·rw[hs] at hr;cases hr;exact⟨rfl,rfl⟩
     ·rw[hs] at hr;cases hr
   ·cases h
  ·cases h
 ·cases h
theorem wpL_app':∀(x y:List Code) (Q:Exit→Act→World→Prop) (a:Act) (w:World),wpL P x (Exit.then (wpL P y Q) Q) a w→wpL P (x++y) Q a w
 |[],y,Q,a,w,h=>h
 |c::x,y,Q,a,w,h=>by
  refine wp_mono (P:=P) h fun e a w q=>?_
  cases e with
  |normal=>exact wpL_app' x y Q a w q
  |_=>exact q
theorem body_D{fn:Func}{R:Ending→World→Prop}{e:Exit}{a:Act}{w:World}(h:bodyPost P fn R e a w):bodyPostD P fn R e a w:=by
 cases e with
 |normal=>
  obtain⟨q1,v,q2,q3⟩:=h
  show Leaves P fn a.tmps R a.defers .returning w
  rw[q1]
  exact⟨v,q2,q3⟩
 |ret=>
  obtain⟨q1,v,q2,q3⟩:=h
  show Leaves P fn a.tmps R a.defers .returning w
  rw[q1]
  exact⟨v,q2,q3⟩
 |panic ch=>
  obtain⟨q1,q3⟩:=h
  show Leaves P fn a.tmps R a.defers (.panicking ch) w
  rw[q1]
  exact q3
 |outgrown=>exact h
 |exit id=>exact h
 |goto t=>exact h
theorem DCalls.mono{f:Nat}{vs:Array Value}{w:World}{R R':Ending→World→Prop}(h:DCalls P f vs w R)(k:∀e w',R e w'→R' e w'):DCalls P f vs w R':=fun v vs' hv=>
 let⟨h0,h1,h2⟩:=h v vs' hv
 ⟨h0,fun hn=>(h1 hn).mono fun _ _ _ q=>⟨q.1,k _ _ q.2⟩,h2.mono fun _ _ _ q=>⟨q.1,k _ _ q.2⟩⟩
theorem dfr_ok{c:CallR}(S:Sound P W G c)(hm:P.follows .mixedOrders=true){it:It}(hit:∀b s r,it b s=some r→∃m,iter b m s=some r){T:Nat→Option (Nat×FC)}(hT:∀f x,T f=some x→DOk P f x.1 x.2){f:Nat}{fc:FC}(hf:FOk P f fc){x:Dfr}(hx:fc.dfr=some x)
    {args:List D} {H:Hp} {r:Res} {H':Hp} (hl:args.length=fc.np) (h:runF c T G it fc ⟨entry 0 args,H⟩=some (r,H')):Meets P W G f args H r H':=by
 obtain⟨fn,cd,h1,h2,h3,h4,h5,h6,h7⟩:=hf.ex
 rw[hx] at h7
 dsimp only at h7
 refine⟨⟨fn,h1,h2,by rw[h3];rfl⟩,fun γ w vs I hv=>?_⟩
 have hvs:vs.size=fc.np:=by rw[hv.1,hl]
 have hsz:(vs++Array.replicate (fn.ntmps-vs.size) undef).size=fc.nt:=by simp[h4,hvs];omega
 refine calls_of_wp_defers h1 h3 (wp_spine cd ?_)
 generalize hR:(fun(e:Ending) (w':World)=>∃γ',γ.le γ'∧Frame γ H w γ' H' w'∧InvS W G γ' H' w'∧Ends' γ' r e)=R
 unfold compDfr at h7
 split at h7
 ·rename_i id ops rest hdrop
  split at h7
  ·rename_i o hback
   split at h7
   ·rename_i f0 as0 ts0 hop hgd
    split at h7
    ·rename_i pre sl f' as' b hpre hsl hf' has' hb
     split at h7
     ·rename_i hdst
      simp only[Option.some.injEq,Prod.mk.injEq] at h7
      obtain⟨hx',hbody⟩:=h7
      have e1:x.pre=pre:=by rw[←hx']
      have e2:x.ops=sl.dropLast:=by rw[←hx']
      have e3:x.f=f':=by rw[←hx']
      have e4:x.as=as':=by rw[←hx']
      rw[←e1] at hpre
      rw[←e3] at hf'
      rw[←e4] at has'
      rw[hbody] at hb
      rw[←List.take_append_drop x.pre.length (spine cd),hdrop]
      refine wpL_app' _ _ _ _ _ ?_
      unfold runF at h
      rw[hx] at h
      dsimp only at h
      split at h
      ·rename_i s1 hs1
       refine compLs_wp S hm hit _ _ _ hpre _ γ ⟨entry 0 args,H⟩ _ w .norm s1 hs1 I (entry_rep hv _) hsz (df:=[]) rfl fun γ1 a1 w1 L1 F1 J1 hd1 hn1 E1=>?_
       show wpL P (.region id ops false::rest) _ a1 w1
       have ok:=compO_ok hsl
       obtain⟨hll,hof⟩:=compL_both hsl
       have hlast:ops.toList=ops.toList.dropLast++[o]:=by
        have hb':ops.toList.getLast?=some o:=by
         rw[Array.getLast?_toList];exact hback
        have hne:ops.toList≠[]:=by intro e;rw[e] at hb';cases hb'
        have hg:ops.toList.getLast hne=o:=by
         rw[List.getLast?_eq_some_getLast hne] at hb'
         exact Option.some.inj hb'
        rw[←hg];exact(List.dropLast_concat_getLast hne).symm
       have hlen2:ops.toList.dropLast.length=x.ops.length:=by rw[e2,List.length_dropLast,List.length_dropLast,hll]
       have hof2:∀(i:Nat) a so,ops.toList.dropLast[i]? =some a→x.ops[i]? =some so→OpOf P ops fc.nt a so:=fun i a so ha hso=>by
        rw[e2] at hso
        rw[List.getElem?_dropLast] at ha hso
        split at ha
        ·split at hso
         ·obtain⟨_,q⟩:=hof i a so ha hso
          exact soOf_ok q
         ·cases hso
        ·cases ha
       show(Code.region id ops false).wp P _ a1 w1
       refine wp_region_list ?_
       rw[hlast]
       split at h
       ·rename_i env2 H2 hops
        refine ops_wpR S ok.lt [o] ops.toList.dropLast x.ops γ1 s1.env s1.hp a1 w1 hlen2 hof2 J1 E1 hn1 _ hops (fun γ2 e2' H2' a2 w2 hr L2 F2 J2 E2 hn2 hd2=>?_) (fun γ2 d2 e2' H2' v2 a2 w2 hr _ _ _ _ _ _ _=>by cases hr)
        cases hr
        have hd2':a2.defers=[]:=hd2.trans hd1
        have hfr:=opdOf_rep E2 hf'
        have har:=opds_rep E2 has'
        have hw:Region.wanted o (yielded ops a2.tmps)=true:=by simp[Region.wanted,hgd]
        have tail:∀(out:Out) (s2:St) (rv:D),evS c G it fc.body ⟨env2.keep x.keep,H2⟩=some (out,s2)→((rv= .p .nili∧(out= .norm∨out= .ret))∨out= .pan rv)→endDfr c T G it fc.res (x.f.ev env2) (x.as.map (·.ev env2)) rv s2=some (r,H')→
            wpList P ops (Exit.then (wpL P rest (bodyPostD P fn R)) (bodyPostD P fn R)) [o] a2 w2:=by
         intro out s2 rv hb2 hout hend
         unfold endDfr at hend
         split at hend
         ·rename_i g first cap hfv
          rw[hfv] at hfr
          generalize hfval:a2.eval f0=fval at hfr
          cases hfr with
          |fn _ fa ca _ _ flen frep clen crep=>
           have rfa:RepL γ2 fa first:=⟨flen,frep⟩
           have rca:RepL γ2 ca cap:=⟨clen,crep⟩
           have hrun:(execOp a2.eval o).run P w2= .ok (.defer {target:=.fn (.func g) ca,args:=fa++as0.map a2.eval}) w2:=by
            simp[execOp,hop,resolve,hfval,Deferred.ofValue]
           simp only[wpList]
           rw[if_pos hw]
           left
           unfold Oper.wp
           rw[hrun]
           show wpL P rest (bodyPostD P fn R) (Act.put ({tmps:=a2.tmps,defers:={target:=.fn (.func g) ca,args:=fa++as0.map a2.eval}::a2.defers}:Act) o.dst undef) w2
           have hput:∀(z:Act),z.put o.dst undef=z:=fun z=>by
            have :o.dst=none:=by simpa using hdst
            rw[this];rfl
           rw[hput,hd2']
           split at hend
           ·rename_i dd H3 hcall
            obtain⟨d,hfd,rfl,rfl⟩:∃d,evRes G s2.env H3 fc.res=some d∧r= .val d∧H'=H3:=by
             rcases finish_norm hend with⟨s,d,hs,hd,hr1,hr2⟩ |⟨s,d,hs,_,_⟩
             ·rcases hs with hs |hs
              ·cases hs
              ·cases hs;exact⟨d,hd,hr1,hr2⟩
             ·cases hs
            have leave:∀γ3 (a3:Act) w3 (v3:Value) (u:FrameMode),γ2.le γ3→Frame γ2 H2 w2 γ3 s2.hp w3→InvS W G γ3 s2.hp w3→EnvRep γ3 s2.env a3.tmps→RepD γ3 v3 rv→
                ((u= .returning∧v3= .nilIface)∨u= .panicking [{v:=v3,recovered:=false}])→Leaves P fn a3.tmps R [{target:=.fn (.func g) ca,args:=fa++as0.map a2.eval}] u w3:=by
             intro γ3 a3 w3 v3 u L3 F3 J3 E3 V3 hu
             have hargs:RepL γ3 (#[v3]++(fa++as0.map a2.eval++ca)) (rv::(first++x.as.map (·.ev env2)++cap)):=by
              have hrest:=((rfa.mono L3).append (har.mono L3)).append (rca.mono L3)
              have h0:RepL γ3 #[v3] [rv]:=⟨rfl,fun i d hd=>by
               match i with
               | 0=>simp only[List.getElem?_cons_zero,Option.some.injEq] at hd;subst hd;exact V3
               |i+1=>simp at hd⟩
              exact h0.append hrest
             have hdc:=callD_gen (C:=fun vs w R=>DCalls P g vs w R) (fun _ _ _ _ h q=>h.mono q) (fun as H r H' hc=>def_ok (W:=W) S hm hit hT as H r H' hc) hcall γ3 w3 _ J3 hargs
             obtain⟨hent,hret,hpan⟩:=hdc v3 _ rfl
             have fin:∀u' w4,settle u'= .returning→(∃γ4,γ3.le γ4∧Frame γ3 s2.hp w3 γ4 H' w4∧InvS W G γ4 H' w4∧∃v,RepD γ4 v dd)→Leaves P fn a3.tmps R [] (settle u') w4:=by
              rintro u' w4 hs ⟨γ4,L4,F4,J4,_⟩
              rw[hs]
              obtain⟨v,q1,q2⟩:=results_ok J4.toInv (E3.mono L4) h6 hfd
              refine⟨v,q1,?_⟩
              rw[←hR]
              exact⟨γ4,L1.trans (L2.trans (L3.trans L4)),F1.trans L1.base (F2.trans L2.base (F3.trans L3.base F4)),J4,v,rfl,q2⟩
             refine leaves_cons (f:=g) (args:=fa++as0.map a2.eval++ca) ?_ (by simp only[invoke];exact run_enter hent _ _) ?_
             ·rcases hu with⟨rfl,_⟩ |rfl<;>simp
             ·rcases hu with⟨rfl,h0⟩ |rfl
              ·refine(hret h0).mono ?_
               rintro e u' w4 ⟨rfl,γ4,L4,F4,J4,v4,rfl,V4⟩
               exact fin _ _ rfl ⟨γ4,L4,F4,J4,v4,V4⟩
              ·refine hpan.mono ?_
               rintro e u' w4 ⟨rfl,γ4,L4,F4,J4,v4,rfl,V4⟩
               exact fin _ _ (by simp[settle]) ⟨γ4,L4,F4,J4,v4,V4⟩
            refine compSp_wp S hm hit _ _ _ hb _ γ2 ⟨env2.keep x.keep,H2⟩ _ w2 out s2 hb2 J2 (E2.keep _) hn2 (df:=[{target:=.fn (.func g) ca,args:=fa++as0.map a2.eval}]) rfl ?_
            intro γ3 a3 w3 L3 F3 J3 hd3
            rcases hout with⟨rfl,rfl |rfl⟩ |rfl
            ·intro hn3 E3
             show Leaves P fn a3.tmps R a3.defers .returning w3
             rw[hd3]
             exact leave γ3 a3 w3 .nilIface _ L3 F3 J3 E3 (.p _ _ .nili) (.inl ⟨rfl,rfl⟩)
            ·intro hn3 E3
             show Leaves P fn a3.tmps R a3.defers .returning w3
             rw[hd3]
             exact leave γ3 a3 w3 .nilIface _ L3 F3 J3 E3 (.p _ _ .nili) (.inl ⟨rfl,rfl⟩)
            ·intro hn3 E3 v3 V3
             show Leaves P fn a3.tmps R a3.defers (.panicking [{v:=v3,recovered:=false}]) w3
             rw[hd3]
             exact leave γ3 a3 w3 v3 _ L3 F3 J3 E3 V3 (.inr rfl)
           ·cases hend
         ·cases hend
        split at h
        ·rename_i s2 hb2;exact tail _ s2 _ hb2 (.inl ⟨rfl,.inl rfl⟩) h
        ·rename_i s2 hb2;exact tail _ s2 _ hb2 (.inl ⟨rfl,.inr rfl⟩) h
        ·rename_i d2 s2 hb2;exact tail _ s2 _ hb2 (.inr rfl) h
        ·cases h
       ·rename_i d2 env2 H2 hops
        cases h
        refine ops_wpR S ok.lt [o] ops.toList.dropLast x.ops γ1 s1.env s1.hp a1 w1 hlen2 hof2 J1 E1 hn1 _ hops (fun γ2 e2' H2' a2 w2 hr _ _ _ _ _ _=>by cases hr) (fun γ2 d2 e2' H2' v2 a2 w2 hr L2 F2 J2 V2 E2 hn2 hd2=>?_)
        cases hr
        show Leaves P fn a2.tmps R a2.defers (.panicking [{v:=v2,recovered:=false}]) w2
        rw[hd2.trans hd1]
        show R (.panicked _) w2
        rw[←hR]
        exact⟨γ2,L1.trans L2,F1.trans L1.base F2,J2,v2,rfl,V2⟩
       ·cases h
      ·rename_i hne
       obtain⟨out,s,hxx,hp⟩:=finish_fun (W:=W) (γ:=γ) (H:=H) (w:=w) h6 h
       refine compLs_wp S hm hit _ _ _ hpre _ γ ⟨entry 0 args,H⟩ _ w out s hxx I (entry_rep hv _) hsz (df:=[]) rfl (hp.other fun e a w hx q=>?_)
       subst hR
       cases out with
       |norm=>exact absurd hxx (hne s)
       |exit id=>cases hx;exact body_D q
       |ret=>cases hx;exact body_D q
       |pan d=>obtain⟨ch,rfl⟩:=hx;exact body_D q
     ·cases h7
    ·cases h7
   ·cases h7
  ·cases h7
 ·cases h7
theorem ends_seal(J:Inv G γ H w){nb:Nat}{r r':Res}{e:Ending}(E:Ends' γ r e)(h:(r.frz nb H).ren (below nb) some=some r'):Ends' (γ.sealC w nb) r' e:=by
 refine resRen (sealC_ren γ w nb) h ?_
 cases r with
 |val d=>
  obtain⟨v,rfl,hv⟩:=E
  exact⟨v,rfl,frz_rep J 8 (hv.mono (Gh.sealM_le J nb))⟩
 |pan d=>
  obtain⟨v,rfl,hv⟩:=E
  exact⟨v,rfl,frz_rep J 8 (hv.mono (Gh.sealM_le J nb))⟩
theorem seal_ok(I:Inv G γ H w){γ':Gh}{Hx:Hp}{w':World}(L:γ.le γ')(F:Frame γ H w γ' Hx w')(J:Inv G γ' Hx w'){r:Res}{e:Ending}(E:Ends' γ' r e){r':Res}{H':Hp}(h:sealF H.bx.length (r,Hx)=(r',H')):
    ∃γ'',γ.le γ''∧Frame γ H w γ'' H' w'∧Inv G γ'' H' w'∧Ends' γ'' r' e:=by
 unfold sealF at h
 dsimp only at h
 split at h
 ·rename_i bx r1 hbx hr
  split at h
  ·rename_i hnb
   cases h
   obtain⟨L2,F2,J2⟩:=seal_core I L F J hbx hnb
   exact⟨_,L2,F2,J2,ends_seal J E hr⟩
  ·cases h
   exact⟨γ',L,F,J,E⟩
 ·cases h
  exact⟨γ',L,F,J,E⟩
theorem close_ok{f:Nat}{args:List D}{H:Hp}{frz:Bool}{x:Option (Res×Hp)}{r:Res}{H':Hp}(h:closeF frz H.bx.length x=some (r,H'))(hx:∀r0 H0,x=some (r0,H0)→Meets P W G f args H r0 H0):Meets P W G f args H r H':=by
 unfold closeF at h
 split at h
 ·obtain⟨y,hy,hs⟩:=Option.map_eq_some_iff.1 h
  obtain⟨r0,H0⟩:=y
  obtain⟨hent,hm⟩:=hx r0 H0 hy
  refine⟨hent,fun γ w vs I hv=>(hm γ w vs I hv).mono ?_⟩
  rintro e w' ⟨γ',L,F,J,E⟩
  obtain⟨γ2,L2,F2,J2,E2⟩:=seal_ok I.toInv L F J.toInv E hs
  exact⟨γ2,L2,F2,I.up L2 F2 J2,E2⟩
 ·exact hx r H' h
structure PgOk (P:Program) (W:World) (p:Pg):Prop where
 mixed:P.follows .mixedOrders=true
 lib:Sound P W p.G p.lib
 fn:∀f fc,p.F f=some fc→FOk P f fc
 dfn:∀f x,p.D f=some x→DOk P f x.1 x.2:=by(intro _ _ h;cases h)
theorem evF_sound{p:Pg}(h:PgOk P W p):∀n,Sound P W p.G (evF p n)
 | 0=>fun f args H r H' e=>by simp only[evF] at e;cases e
 |n+1=>fun f args H r H' e=>by
  simp only[evF] at e
  split at e
  ·rename_i r0 hr;cases e;exact h.lib f args H r H' hr
  ·split at e
   ·rename_i fc hfc
    split at e
    ·rename_i hl
     refine close_ok e fun r0 H0 h0=>?_
     cases hd:fc.dfr with
     |none=>
      unfold runF at h0
      rw[hd] at h0
      exact fun_ok (evF_sound h n) h.mixed (it:=fun b s=>iter b n s) (fun b s r hr=>⟨n,hr⟩) (h.fn f fc hfc) hd hl h0
     |some x=>exact dfr_ok (evF_sound h n) h.mixed (it:=fun b s=>iter b n s) (fun b s r hr=>⟨n,hr⟩) h.dfn (h.fn f fc hfc) hd hl h0
    ·cases e
   ·cases e
theorem call_sound{p:Pg}(h:PgOk P W p):Sound P W p.G (call p):=fun f args H r H' e=>by
 obtain⟨n,hn⟩:=call_iff.1 e
 exact evF_sound h n f args H r H' hn
variable {c : CallR} {G : Nat → Option (List PD)}
def opsX(c:CallR)(G:Nat→Option (List PD))(keep:List Nat)(ops:List SO)(env:Env)(H:Hp):Option (Out×St):=
 match evOps c G ops env H with
 |some (.ok env H)=>some (.norm,⟨env.keep keep,H⟩)
 |some (.pan d env H)=>some (.pan d,⟨env,H⟩)
 |none=>none
def opsV(c:CallR)(G:Nat→Option (List PD))(keep:List Nat)(x:Option (Res×Hp))(dst:Option Nat)(r:List SO)(env:Env):Option (Out×St):=
 match x with
 |some (.val d,H')=>opsX c G keep r (put dst d env) H'
 |some (.pan d,H')=>some (.pan d,⟨env,H'⟩)
 |none=>none
def opsG(c:CallR)(G:Nat→Option (List PD))(keep:List Nat)(g:Option Bool)(o:SO)(r:List SO)(env:Env)(H:Hp):Option (Out×St):=
 match g with
 |some true=>opsV c G keep (evKC c G env H o.k) o.dst r env
 |some false=>opsX c G keep r (put o.dst .undef env) H
 |none=>none
@[simp] theorem evS_region(it:It)(keep:List Nat)(ops:List SO)(env:Env)(H:Hp):evS c G it (.region keep ops) ⟨env,H⟩=opsX c G keep ops env H:=rfl
@[simp] theorem opsX_nil(keep:List Nat)(env:Env)(H:Hp):opsX c G keep [] env H=some (.norm,⟨env.keep keep,H⟩):=rfl
theorem opsX_cons(keep:List Nat)(o:SO)(r:List SO)(env:Env)(H:Hp):opsX c G keep (o::r) env H=opsG c G keep (evGuard env o.g) o r env H:=by
 unfold opsX opsG
 simp only[evOps]
 cases evGuard env o.g with
 |none=>rfl
 |some b=>
  cases b with
  |false=>rfl
  |true=>
   unfold opsV
   cases evKC c G env H o.k with
   |none=>rfl
   |some x=>
    obtain⟨y,H'⟩:=x
    cases y<;>rfl
@[simp] theorem opsX_free(keep:List Nat)(dst:Option Nat)(k:SK)(r:List SO)(env:Env)(H:Hp):opsX c G keep (⟨dst,k,none⟩::r) env H=opsV c G keep (evKC c G env H k) dst r env:=opsX_cons ..
@[simp] theorem opsX_guard(keep:List Nat)(dst:Option Nat)(k:SK)(g:Nat×Bool)(r:List SO)(env:Env)(H:Hp):opsX c G keep (⟨dst,k,some g⟩::r) env H=opsG c G keep (evGuard env (some g)) ⟨dst,k,some g⟩ r env H:=opsX_cons ..
@[simp] theorem opsV_val(keep:List Nat)(d:D)(H':Hp)(dst:Option Nat)(r:List SO)(env:Env):opsV c G keep (some (.val d,H')) dst r env=opsX c G keep r (put dst d env) H':=rfl
@[simp] theorem opsV_pan(keep:List Nat)(d:D)(H':Hp)(dst:Option Nat)(r:List SO)(env:Env):opsV c G keep (some (.pan d,H')) dst r env=some (.pan d,⟨env,H'⟩):=rfl
@[simp] theorem opsG_true(keep:List Nat)(o:SO)(r:List SO)(env:Env)(H:Hp):opsG c G keep (some true) o r env H=opsV c G keep (evKC c G env H o.k) o.dst r env:=rfl
@[simp] theorem opsG_false(keep:List Nat)(o:SO)(r:List SO)(env:Env)(H:Hp):opsG c G keep (some false) o r env H=opsX c G keep r (put o.dst .undef env) H:=rfl
def drP(c:CallR)(G:Nat→Option (List PD))(pairs:List (Nat×Nat))(un:Env)(d:D)(H':Hp)(o:SO)(r:List SO)(env:Env)(H:Hp)(acc:List (Nat×Nat)):Option (Out×St):=
 match evRest c G pairs acc.length (acc.length+1) o.dst.toList r (put o.dst .undef env) H with
 |some cs=>if pairsOk pairs (acc++(0,0)::cs)&&panOk pairs (acc++(0,0)::cs) acc.length then some (.pan d,⟨un,H'⟩) else none
 |none=>none
def drX(c:CallR)(G:Nat→Option (List PD))(keep:List Nat)(pairs:List (Nat×Nat))(un:Env)(ops:List SO)(env:Env)(H:Hp)(acc:List (Nat×Nat)):Option (Out×St):=
 match evDraw c G ops env H with
 |some (env,H,cs)=>if pairsOk pairs (acc++cs) then some (.norm,⟨env.keep keep,H⟩) else none
 |none=>match evDrawP c G pairs acc.length ops env H with
  |some (d,H',cs,k)=>if pairsOk pairs (acc++cs)&&panOk pairs (acc++cs) k then some (.pan d,⟨un,H'⟩) else none
  |none=>none
def drV(c:CallR)(G:Nat→Option (List PD))(keep:List Nat)(pairs:List (Nat×Nat))(un:Env)(x:Option (Res×Hp))(o:SO)(r:List SO)(env:Env)(H:Hp)(acc:List (Nat×Nat)):Option (Out×St):=
 match x with
 |some (.val d,H')=>drX c G keep pairs un r (put o.dst d env) H' (acc++[clsP env H H' o.k])
 |some (.pan d,H')=>drP c G pairs un d H' o r env H acc
 |none=>none
def drG(c:CallR)(G:Nat→Option (List PD))(keep:List Nat)(pairs:List (Nat×Nat))(un:Env)(g:Option Bool)(o:SO)(r:List SO)(env:Env)(H:Hp)(acc:List (Nat×Nat)):Option (Out×St):=
 match g with
 |some true=>drV c G keep pairs un (evKC c G env H o.k) o r env H acc
 |some false=>drX c G keep pairs un r (put o.dst .undef env) H (acc++[(0,0)])
 |none=>none
@[simp] theorem evS_draw(it:It)(keep:List Nat)(pairs:List (Nat×Nat))(ops:List SO)(env:Env)(H:Hp):evS c G it (.draw keep pairs ops) ⟨env,H⟩=drX c G keep pairs (unwritten ops env) ops env H []:=rfl
theorem drX_end(keep:List Nat)(pairs:List (Nat×Nat))(un env:Env)(H:Hp)(acc:List (Nat×Nat)):drX c G keep pairs un [] env H acc=if pairsOk pairs acc then some (.norm,⟨env.keep keep,H⟩) else none:=by
 simp only[drX,evDraw,List.append_nil]
@[simp] theorem drX_nil(keep:List Nat)(pairs:List (Nat×Nat))(un env:Env)(H:Hp)(acc:List (Nat×Nat)):drX c G keep pairs un [] env H acc=if pairs.all (fun p=>!clash (acc.getD p.1 (0,0)) (acc.getD p.2 (0,0)))&&insOk acc then some (.norm,⟨env.keep keep,H⟩) else none:=
 drX_end ..
theorem drX_step{keep:List Nat}{pairs:List (Nat×Nat)}{un:Env}{o:SO}{r:List SO}{env env':Env}{H H':Hp}{acc:List (Nat×Nat)}{x:Nat×Nat}
    (h1:evDraw c G (o::r) env H=match evDraw c G r env' H' with |some (e,h,cs)=>some (e,h,x::cs) |none=>none)
    (h2:∀i,evDrawP c G pairs i (o::r) env H=(evDrawP c G pairs (i+1) r env' H').map fun y=>(y.1,y.2.1,x::y.2.2.1,y.2.2.2)):
    drX c G keep pairs un (o::r) env H acc=drX c G keep pairs un r env' H' (acc++[x]):=by
 unfold drX
 rw[h1,h2]
 cases evDraw c G r env' H' with
 |some z=>obtain⟨e,h,cs⟩:=z;simp only[List.append_assoc,List.singleton_append]
 |none=>
  simp only[List.length_append,List.length_singleton]
  cases evDrawP c G pairs (acc.length+1) r env' H' with
  |none=>rfl
  |some z=>obtain⟨d,h,cs,k⟩:=z;simp only[Option.map_some,List.append_assoc,List.singleton_append]
theorem drX_cons(keep:List Nat)(pairs:List (Nat×Nat))(un:Env)(o:SO)(r:List SO)(env:Env)(H:Hp)(acc:List (Nat×Nat)):drX c G keep pairs un (o::r) env H acc=drG c G keep pairs un (evGuard env o.g) o r env H acc:=by
 cases hg:evGuard env o.g with
 |none=>
  unfold drX drG
  simp only[evDraw,evDrawP,hg]
 |some b=>
  cases b with
  |false=>exact drX_step (by simp only[evDraw,hg];cases evDraw c G r (put o.dst .undef env) H<;>rfl) (fun i=>by simp only[evDrawP,hg])
  |true=>
   unfold drG drV
   dsimp only
   cases hk:evKC c G env H o.k with
   |none=>
    unfold drX
    simp only[evDraw,evDrawP,hg,hk]
   |some x=>
    obtain⟨y,H'⟩:=x
    cases y with
    |val d=>exact drX_step (by simp only[evDraw,hg,hk];cases evDraw c G r (put o.dst d env) H'<;>rfl) (fun i=>by simp only[evDrawP,hg,hk])
    |pan d=>
     unfold drX drP
     simp only[evDraw,evDrawP,hg,hk]
     cases evRest c G pairs acc.length (acc.length+1) o.dst.toList r (put o.dst .undef env) H<;>rfl
@[simp] theorem drX_free(keep:List Nat)(pairs:List (Nat×Nat))(un:Env)(dst:Option Nat)(k:SK)(r:List SO)(env:Env)(H:Hp)(acc:List (Nat×Nat)):drX c G keep pairs un (⟨dst,k,none⟩::r) env H acc=drV c G keep pairs un (evKC c G env H k) ⟨dst,k,none⟩ r env H acc:=drX_cons ..
@[simp] theorem drX_guard(keep:List Nat)(pairs:List (Nat×Nat))(un:Env)(dst:Option Nat)(k:SK)(g:Nat×Bool)(r:List SO)(env:Env)(H:Hp)(acc:List (Nat×Nat)):drX c G keep pairs un (⟨dst,k,some g⟩::r) env H acc=drG c G keep pairs un (evGuard env (some g)) ⟨dst,k,some g⟩ r env H acc:=drX_cons ..
@[simp] theorem drV_val(keep:List Nat)(pairs:List (Nat×Nat))(un:Env)(d:D)(H':Hp)(o:SO)(r:List SO)(env:Env)(H:Hp)(acc:List (Nat×Nat)):drV c G keep pairs un (some (.val d,H')) o r env H acc=drX c G keep pairs un r (put o.dst d env) H' (acc++[clsP env H H' o.k]):=rfl
@[simp] theorem drV_pan(keep:List Nat)(pairs:List (Nat×Nat))(un:Env)(d:D)(H':Hp)(o:SO)(r:List SO)(env:Env)(H:Hp)(acc:List (Nat×Nat)):drV c G keep pairs un (some (.pan d,H')) o r env H acc=drP c G pairs un d H' o r env H acc:=rfl
@[simp] theorem drG_true(keep:List Nat)(pairs:List (Nat×Nat))(un:Env)(o:SO)(r:List SO)(env:Env)(H:Hp)(acc:List (Nat×Nat)):drG c G keep pairs un (some true) o r env H acc=drV c G keep pairs un (evKC c G env H o.k) o r env H acc:=rfl
@[simp] theorem drG_false(keep:List Nat)(pairs:List (Nat×Nat))(un:Env)(o:SO)(r:List SO)(env:Env)(H:Hp)(acc:List (Nat×Nat)):drG c G keep pairs un (some false) o r env H acc=drX c G keep pairs un r (put o.dst .undef env) H (acc++[(0,0)]):=rfl
noncomputable def seqK (c:CallR) (G:Nat→Option (List PD)) (x:Option (Out×St)) (b:SC):Option (Out×St):=
 match x with
 |some (.norm,s')=>evS c G iterX b s'
 |r=>r
noncomputable def condK (c:CallR) (G:Nat→Option (List PD)) (t:D) (a b:SC) (s:St):Option (Out×St):=
 match t with
 | .p (.bool t)=>if t then evS c G iterX a s else evS c G iterX b s
 |_=>none
def blockK(id:Nat)(x:Option (Out×St)):Option (Out×St):=
 match x with
 |some (.exit i,s')=>if i=id then some (.norm,s') else some (.exit i,s')
 |r=>r
noncomputable def loopK (c:CallR) (G:Nat→Option (List PD)) (keep:List Nat) (b:SC) (s:St):Option (Out×St):=iterX (fun s=>evS c G iterX b ⟨s.env.keep keep,s.hp⟩) s
def locK(nb nt:Nat)(x:Option (Out×St)):Option (Out×St):=x.map (locD nb nt)
def loczK(nb nt:Nat)(x:Option (Out×St)):Option (Out×St):=x.map fun x=>locD nb nt (sealS nb x)
def tokbK(x:Option St):Option (Out×St):=x.map fun s=>(.norm,s)
def tokK(slot:Nat)(x:Option (D×Hp))(env:Env):Option (Out×St):=
 match x with
 |some (d,H)=>some (.norm,⟨(slot,d)::env,H⟩)
 |none=>none
@[simp] theorem evS_skip(s:St):evS c G iterX .skip s=some (.norm,s):=rfl
@[simp] theorem evS_exit(id:Nat)(s:St):evS c G iterX (.exit id) s=some (.exit id,s):=rfl
@[simp] theorem evS_ret(s:St):evS c G iterX .ret s=some (.ret,s):=rfl
@[simp] theorem evS_scope(b:SC)(s:St):evS c G iterX (.scope b) s=evS c G iterX b s:=rfl
@[simp] theorem evS_seq(a b:SC)(s:St):evS c G iterX (.seq a b) s=seqK c G (evS c G iterX a s) b:=rfl
@[simp] theorem evS_cond(x:Opd)(a b:SC)(env:Env)(H:Hp):evS c G iterX (.cond x a b) ⟨env,H⟩=condK c G (x.ev env) a b ⟨env,H⟩:=rfl
@[simp] theorem evS_block(id:Nat)(b:SC)(s:St):evS c G iterX (.block id b) s=blockK id (evS c G iterX b s):=rfl
theorem iterX_same{f:St→Option (Out×St)}{s s':St}(h:f s=f s'):iterX f s=iterX f s':=by
 have key:∀m,iter f m s=iter f m s':=by
  intro m
  cases m with
  |zero=>rfl
  |succ m=>simp only[iter,h]
 cases hx:iterX f s' with
 |some r=>
  obtain⟨m,hm⟩:=iterX_iff.1 hx
  exact iterX_iff.2 ⟨m,by rw[key];exact hm⟩
 |none=>
  cases hy:iterX f s with
  |none=>rfl
  |some r=>
   obtain⟨m,hm⟩:=iterX_iff.1 hy
   rw[key] at hm
   rw[iterX_iff.2 ⟨m,hm⟩] at hx
   cases hx
theorem get_keep_mem{ks:List Nat}{e:Env}{t:Nat}(h:t∈ks):(e.keep ks).get t=e.get t:=by
 induction ks with
 |nil=>cases h
 |cons k ks ih=>
  show(if k=t then e.get k else Env.get (List.map (fun t=>(t,e.get t)) ks) t)=_
  split
  ·rename_i hk;rw[hk]
  ·rename_i hk
   have :t∈ks:=by
    rcases List.mem_cons.1 h with h |h
    ·exact absurd h.symm hk
    ·exact h
   exact ih this
theorem keep_keep(ks:List Nat)(e:Env):(e.keep ks).keep ks=e.keep ks:=
 List.map_congr_left fun t ht=>by rw[get_keep_mem ht]
@[simp] theorem evS_loop(keep:List Nat)(b:SC)(env:Env)(H:Hp):evS c G iterX (.loop keep b) ⟨env,H⟩=loopK c G keep b ⟨env.keep keep,H⟩:=
 iterX_same (by dsimp only;rw[keep_keep])
@[simp] theorem evS_loc(b:SC)(env:Env)(H:Hp):evS c G iterX (.loc b) ⟨env,H⟩=locK H.bx.length H.tk.length (evS c G iterX b ⟨env,H⟩):=rfl
@[simp] theorem evS_tok(slot e sz:Nat)(env:Env)(H:Hp):evS c G iterX (.tok slot e sz) ⟨env,H⟩=tokK slot (tokD e sz (env.get slot) H) env:=rfl
@[simp] theorem evS_locz(b:SC)(env:Env)(H:Hp):evS c G iterX (.locz b) ⟨env,H⟩=loczK H.bx.length H.tk.length (evS c G iterX b ⟨env,H⟩):=rfl
@[simp] theorem evS_tokb(slot off e sz:Nat)(s:St):evS c G iterX (.tokb slot off e sz) s=tokbK (tokbD slot off e sz s):=rfl
@[simp] theorem tokbK_some(s:St):tokbK (some s)=some (.norm,s):=rfl
@[simp] theorem loczK_some(nb nt:Nat)(x:Out×St):loczK nb nt (some x)=some (locD nb nt (sealS nb x)):=rfl
@[simp] theorem seqK_norm(s:St)(b:SC):seqK c G (some (.norm,s)) b=evS c G iterX b s:=rfl
@[simp] theorem seqK_exit(id:Nat)(s:St)(b:SC):seqK c G (some (.exit id,s)) b=some (.exit id,s):=rfl
@[simp] theorem seqK_ret(s:St)(b:SC):seqK c G (some (.ret,s)) b=some (.ret,s):=rfl
@[simp] theorem seqK_pan(d:D)(s:St)(b:SC):seqK c G (some (.pan d,s)) b=some (.pan d,s):=rfl
@[simp] theorem condK_true(a b:SC)(s:St):condK c G (.p (.bool true)) a b s=evS c G iterX a s:=rfl
@[simp] theorem condK_false(a b:SC)(s:St):condK c G (.p (.bool false)) a b s=evS c G iterX b s:=rfl
@[simp] theorem blockK_norm(id:Nat)(s:St):blockK id (some (.norm,s))=some (.norm,s):=rfl
@[simp] theorem blockK_ret(id:Nat)(s:St):blockK id (some (.ret,s))=some (.ret,s):=rfl
@[simp] theorem blockK_pan(id:Nat)(d:D)(s:St):blockK id (some (.pan d,s))=some (.pan d,s):=rfl
@[simp] theorem blockK_exit(id i:Nat)(s:St):blockK id (some (.exit i,s))=if i=id then some (.norm,s) else some (.exit i,s):=rfl
@[simp] theorem locK_some(nb nt:Nat)(x:Out×St):locK nb nt (some x)=some (locD nb nt x):=rfl
@[simp] theorem tokK_some(slot:Nat)(d:D)(H:Hp)(env:Env):tokK slot (some (d,H)) env=some (.norm,⟨(slot,d)::env,H⟩):=rfl
theorem loopK_norm{keep:List Nat}{b:SC}{env:Env}{H:Hp}{s':St}(h:evS c G iterX b ⟨env.keep keep,H⟩=some (.norm,s')):loopK c G keep b ⟨env,H⟩=loopK c G keep b s':=iterX_norm h
theorem loopK_out{keep:List Nat}{b:SC}{env:Env}{H:Hp}{o:Out}{s':St}(h:evS c G iterX b ⟨env.keep keep,H⟩=some (o,s'))(ho:o≠.norm):loopK c G keep b ⟨env,H⟩=some (o,s'):=iterX_out h ho
@[simp] theorem intBin_add(k:IntKind)(a b:Int):intBin .add k a b=some (.int k (k.wrap (a+b))):=rfl
@[simp] theorem intBin_sub(k:IntKind)(a b:Int):intBin .sub k a b=some (.int k (k.wrap (a-b))):=rfl
@[simp] theorem intBin_mul(k:IntKind)(a b:Int):intBin .mul k a b=some (.int k (k.wrap (a*b))):=rfl
@[simp] theorem intBin_quo(k:IntKind)(a b:Int):intBin .quo k a b=if b=0 then none else some (.int k (k.wrap (a.tdiv b))):=rfl
@[simp] theorem intBin_rem(k:IntKind)(a b:Int):intBin .rem k a b=if b=0 then none else some (.int k (a.tmod b)):=rfl
@[simp] theorem intBin_eql(k:IntKind)(a b:Int):intBin .eql k a b=some (.bool (a==b)):=rfl
@[simp] theorem intBin_neq(k:IntKind)(a b:Int):intBin .neq k a b=some (.bool (a !=b)):=rfl
@[simp] theorem intBin_lss(k:IntKind)(a b:Int):intBin .lss k a b=some (.bool (decide (a<b))):=rfl
@[simp] theorem intBin_leq(k:IntKind)(a b:Int):intBin .leq k a b=some (.bool (decide (a≤b))):=rfl
@[simp] theorem intBin_gtr(k:IntKind)(a b:Int):intBin .gtr k a b=some (.bool (decide (a>b))):=rfl
@[simp] theorem intBin_geq(k:IntKind)(a b:Int):intBin .geq k a b=some (.bool (decide (a≥b))):=rfl
theorem wrap64{n:Int}(h1: -9223372036854775808≤n)(h2:n<9223372036854775808):IntKind.i64.wrap n=n:=by
 simp[IntKind.wrap,IntKind.bits,IntKind.signed]
 omega
@[simp] theorem evKC_call(f:Opd)(args:List Opd)(env:Env)(H:Hp):evKC c G env H (.call f args)=callV c (f.ev env) (args.map (·.ev env)) H:=rfl
@[simp] theorem evKC_panic(x:Opd)(env:Env)(H:Hp):evKC c G env H (.panic x)=panicD (x.ev env) H:=rfl
@[simp] theorem callV_fn(g:Nat)(first cap args:List D)(H:Hp):callV c (.fn g first cap) args H=callD c g (first++args++cap) H:=rfl
theorem callD_pure{f:Nat}{args:List D}{H:Hp}{d:D}{Hl:Hp}{d':D}(h:c f args ⟨[],[]⟩=some (.val d,Hl))(hr:D.refsL args=[])(ht:D.toksL args=[])(ha:D.renL (idx []) (idx []) args=some args)
    (hd:d.ren (fun _=>none) (fun _=>none)=some d'):callD c f args H=some (.val d',H):=by
 have hreach:∀n,reach H n []=[]:=by
  intro n
  cases n<;>simp[reach,boxRefs]
 unfold callD
 simp only[hr,ht,ins,hreach,boxToks,List.append_nil,nodupB,Bool.and_self,if_true,mapO,ha,h]
 unfold back
 simp only[firstN,List.length_nil,Nat.zero_le,if_true,List.take_zero,List.getElem?_nil,mapO,putAll,Res.ren,hd,Option.map_some]
end Go.Vs
namespace Go.Vs
open Go.RowKit Go.ChangeShapes Go.WideShapes
variable {P : Program}
def gh0(W:World):Gh:=⟨W.heap.size,fun _=>none,fun b o=>W.cell? ⟨b,o,none⟩,[],[]⟩
structure GlobOk (G:Nat→Option (List PD)) (W:World):Prop where
 ok:∀g cs,G g=some cs→∀j c,cs[j]? =some c→c.one=true∧∃v,W.cell? ⟨g,j,none⟩=some v∧RepP (gh0 W).mem v c
theorem inv0{G:Nat→Option (List PD)}{W:World}(h:GlobOk G W):Inv G (gh0 W) ⟨[],[]⟩ W:=by
 refine⟨Nat.le_refl _,fun _ _ _ h=>by simp[gh0] at h,fun t row n b cap h _=>by simp[gh0] at h,fun _ _ _ h=>h,h.ok,rfl,List.nodup_nil,fun i b cs hb _=>?_,fun b o hb=>?_,rfl,fun t row f hr _=>?_,fun t row f hr _=>?_,fun t t' b hf _=>?_⟩
 ·simp[gh0] at hb
 ·simp[gh0] at hb
 ·simp[gh0] at hr
 ·simp[gh0] at hr
 ·obtain⟨row,f,cap,hr,_⟩:=hf
  simp[gh0] at hr
theorem owned0{W:World}{b:Nat}(h:Owned (gh0 W) ⟨[],[]⟩ b):False:=by
 rcases h with h |⟨t,row,f,cap,hr,_⟩
 ·simp[gh0] at h
 ·simp[gh0] at hr
theorem invS0{G:Nat→Option (List PD)}{W:World}(h:GlobOk G W):InvS W G (gh0 W) ⟨[],[]⟩ W:=
 ⟨inv0 h,rfl,Below.refl _ W,fun _ h=>(owned0 h).elim⟩
theorem below_frame{W W':World}{γ':Gh}{H':Hp}(F:Frame (gh0 W) ⟨[],[]⟩ W γ' H' W'):Below W.heap.size W W':=
 ⟨F.os,F.tape,F.output,F.size,fun k hk=>(F.blk k hk owned0).1 hk⟩
theorem law_calls{p:Pg}{W:World}(h:PgOk P W p){f:Nat}{ds:List D}{H':Hp}(hc:call p f ds ⟨[],[]⟩=some (.val (.p (.bool true)),H')){args:Array Value}(hg:GlobOk p.G W)(hr:RepL (gh0 W) args ds):
    Calls P f args W fun e W'=>e= .returned (.bool true)∧Below W.heap.size W W':=by
 obtain⟨_,m⟩:=call_sound h f ds ⟨[],[]⟩ _ _ hc
 refine(m (gh0 W) W args (invS0 hg) hr).mono ?_
 rintro e W' ⟨γ',L,F,J,v,rfl,hv⟩
 rw[hv.p_inv.bool_inv]
 exact⟨rfl,below_frame F⟩
section
variable {H : Type} {enc : TypeId × Value → H}
theorem trodAll_below(hl:laidOutB P=true){W W':World}(B:Below W.heap.size W W'):∀{ts:List TypeId} {vs:List Value} {ds:List (DataW H)} {ps:List MemPlace},(∀t∈ts,P.readableRec t=true∧t<P.types.size)→
    DataW.TrodAll enc P W 0 (fun _=>true) true ts vs ds ps→(∀x∈ps,x.block<W.heap.size)→DataW.TrodAll enc P W' 0 (fun b=>decide (b<W.heap.size)) true ts vs ds ps
 |[],[],[],_,_,h,_=>h
 |t::ts,v::vs,d::ds,ps,ht,⟨p,q,h1,h2,e⟩,hlt=>by
  subst e
  exact⟨p,q,Below.trod hl (ht t (by simp)).1 (ht t (by simp)).2 h1 B fun x hx=>hlt x (by simp[hx]),trodAll_below hl B (fun u hu=>ht u (by simp[hu])) h2 fun x hx=>hlt x (by simp[hx]),rfl⟩
 |[],[],_::_,_,_,h,_=>h.elim
 |[],_::_,_,_,_,h,_=>by cases h
 |_::_,[],_,_,_,h,_=>by cases h
 |_::_,_::_,[],_,_,h,_=>by cases h
theorem post_law{fn:Func}{s:ChangeSpec}{apart fresh handsOn:Bool}{W W':World}{args:Array Value}{ds:List (DataW H)}{before:List MemPlace}{tb:TypeId}(hl:laidOutB P=true)
    (hts:∀t∈fn.params.toList,P.readableRec t=true∧t<P.types.size) (hv:s.vars=[]) (hW:DataW.Whole enc P fn.params.toList s.vars apart W args.toList ds [] before) (hr:fn.resultTypes= #[tb]) (hb:P.underlying tb=some .bool)
    (hs:s.fn H (ds++[])={results:=[.lit (.bool true)],args:=ds}) (B:Below W.heap.size W W'):s.post enc P fn apart fresh handsOn false W args (.bool true) W':=by
 have hlt:=hW.lt
 obtain⟨p,q,hA,hV,he,hz,hn⟩:=hW
 have hq:q=[]:=by rw[hv] at hV;exact hV
 refine⟨ds,[],before,[],p,[],⟨p,q,hA,hV,he,hz,hn⟩,?_,?_,?_,?_,fun h=>by cases h⟩
 ·rw[hs,hr]
  exact trodAll_mk1 (shut_bool hb true)
 ·rw[hs]
  refine trodAll_below hl B hts hA fun x hx=>by simpa using hlt x (by rw[he];simp[hx])
 ·rw[hs,hv];rfl
 ·refine World.keptBut_mono (fun x hx=>?_) (B.frame (fun _=>False))
  cases hx
end
theorem rep_string(W:World)(s:ByteArray):RepD (gh0 W) (.string s) (.p (.str s.data.toList)):=by
 refine .p _ _ ?_
 have :s=⟨s.data.toList.toArray⟩:=by simp
 rw[this]
 exact .str _
theorem repL1{γ:Gh}{v:Value}{d:D}(h:RepD γ v d):RepL γ #[v] [d]:=⟨rfl,fun i x hx=>by
 match i with
 | 0=>simp only[List.getElem?_cons_zero,Option.some.injEq] at hx;subst hx;exact h
 |i+1=>simp at hx⟩
theorem repL2{γ:Gh}{v u:Value}{d e:D}(h:RepD γ v d)(k:RepD γ u e):RepL γ #[v,u] [d,e]:=⟨rfl,fun i x hx=>by
 match i with
 | 0=>simp only[List.getElem?_cons_zero,Option.some.injEq] at hx;subst hx;exact h
 | 1=>simp only[List.getElem?_cons_succ,List.getElem?_cons_zero,Option.some.injEq] at hx;subst hx;exact k
 |i+2=>simp at hx⟩
theorem rep_ints{H:Type}{enc:TypeId×Value→H}{t e:TypeId}{k:IntKind}(ht:P.underlying t=some (.slice e))(he:P.underlying e=some (.int k))(hc:P.cellsOf e=1){W:World}{r:Reach}{b0:Nat}{v:Value}{d:DataW H}{ps:List MemPlace}
    (hval:Value.okWide P W r b0 t v) (hd:DataW.Trod enc P W 0 (fun _=>true) true t v d ps):
    ∃x:PD,RepD (gh0 W) v (.p x)∧(x= .nils∨∃zs:List Int,x= .slice 1 (zs.map (PD.int k))∧∀n∈zs,(Lit.int k n).wf=true):=by
 obtain⟨a0,n0,c0,rfl⟩:=okWide_slice ht hval
 obtain⟨fuel,hf⟩:=hd
 rcases open_ints ht he hc hf with⟨h1,_⟩ |⟨a,len,cap,zs,h1,_,hlc,_,hlen,_,hcell,hwf⟩
 ·simp[Value.cells] at h1
  obtain⟨rfl,rfl,rfl⟩:=h1
  exact⟨.nils,.p _ _ .nils,.inl rfl⟩
 ·simp[Value.cells] at h1
  obtain⟨rfl,rfl,rfl⟩:=h1
  simp only[if_true] at hlen
  refine⟨.slice 1 ((zs.take n0).map (PD.int k)),.p _ _ ?_,.inr ⟨zs.take n0,rfl,fun n hn=>hwf n (List.mem_of_mem_take hn)⟩⟩
  by_cases hn:n0=0
  ·subst hn
   simpa using RepP.sl0 (m:=(gh0 W).mem) (some a) c0 1
  ·have hl:((zs.take n0).map (PD.int k)).length=n0:=by simp;omega
   have h0:=hcell 0 (by omega)
   obtain⟨b,o,sp⟩:=a
   have hsp:sp=none:=by
    cases sp with
    |none=>rfl
    |some q=>
     exfalso
     unfold World.cell? Addr.add at h0
     split at h0
     ·simp at h0
     ·cases h0
   subst hsp
   have:=RepP.sl (m:=(gh0 W).mem) b o c0 1 ((zs.take n0).map (PD.int k)) (fun i _=>.int k (zs.getD i 0)) (by omega) (fun e he=>by
    obtain⟨n,_,rfl⟩:=List.mem_map.1 he;rfl) (fun e he c hc=>by
    obtain⟨n,_,rfl⟩:=List.mem_map.1 he
    simp only[PD.cells,List.mem_singleton] at hc;subst hc;rfl) (fun i j hi hj=>by
    have hj0:j=0:=by omega
    subst hj0
    have:=hcell i (by simp at hi;omega)
    simp only[Addr.add_lit] at this
    simpa[gh0] using this) (fun i e j c hi hj=>by
    simp only[List.getElem?_map,Option.map_eq_some_iff] at hi
    obtain⟨n,hn,rfl⟩:=hi
    obtain⟨h1,h2⟩:=take_get hn
    match j with
    | 0=>
     simp only[PD.cells,List.getElem?_cons_zero,Option.some.injEq] at hj
     subst hj
     have :zs.getD i 0=n:=by simp[List.getD_eq_getElem?_getD,h2]
     rw[this];exact .int k n
    |j+1=>simp[PD.cells] at hj)
   rw[hl] at this
   exact this
end Go.Vs
namespace Go.Vs
open Go.RowKit Go.ChangeShapes Go.WideShapes
variable {P : Program}
def mkE(P:Program)(e:TypeId)(xs:List PD):PD:=
 match P.underlying e,xs with
 |some (.struct _),xs=>.agg xs
 |_,[x]=>x
 |_,xs=>.agg xs
inductive TyP (P:Program):TypeId→List PD→Prop where
 |bool (t:TypeId) (b:Bool) (ht:P.underlying t=some .bool):TyP P t [.bool b]
 |int (t:TypeId) (k:IntKind) (n:Int) (ht:P.underlying t=some (.int k)) (hw:(Lit.int k n).wf=true):TyP P t [.int k n]
 |str (t:TypeId) (s:List UInt8) (ht:P.underlying t=some .string) (hs:s.length≤maxLen):TyP P t [.str s]
 |nils (t e:TypeId) (ht:P.underlying t=some (.slice e)):TyP P t [.nils]
 |emp (t e:TypeId) (ht:P.underlying t=some (.slice e)):TyP P t [.emp (P.cellsOf e)]
 |sl (t e:TypeId) (es:List PD) (hne:es≠[]) (ht:P.underlying t=some (.slice e)) (hl:es.length≤maxLen) (h:∀x∈es,TyP P e x.cells) (hs:∀x∈es,x.cells.length=P.cellsOf e) (hm:∀x∈es,x=mkE P e x.cells):TyP P t [.slice (P.cellsOf e) es]
 |struct (t:TypeId) (fs:Array Field) (parts:List (List PD)) (ht:P.underlying t=some (.struct fs)) (hl:parts.length=fs.size) (h:∀(i:Nat) f p,fs[i]? =some f→parts[i]? =some p→TyP P f.type p) (hs:∀(i:Nat) f p,fs[i]? =some f→parts[i]? =some p→p.length=P.cellsOf f.type):TyP P t parts.flatten
def tiles(P:Program)(n:Nat):Nat→List Field→Bool
 |i,[]=>i==n
 |i,f::r=>f.offset==i&&tiles P n (i+P.cellsOf f.type) r
def tyOk(P:Program)(ts:List TypeId)(t:TypeId):Bool:=
 match P.underlying t with
 |some .bool=>true
 |some (.int _)=>true
 |some .string=>true
 |some (.slice e)=>ts.contains e&&decide (0<P.cellsOf e)
 |some (.struct fs)=>tiles P (P.cellsOf t) 0 fs.toList&&fs.toList.all fun f=>ts.contains f.type
 |_=>false
def CellsRep(m:Mem)(cs:List Value)(xs:List PD):Prop:=xs.length=cs.length∧(∀x∈xs,x.one=true)∧∀(i:Nat) c x,cs[i]? =some c→xs[i]? =some x→RepP m c x
theorem CellsRep.single{m:Mem}{c:Value}{x:PD}(h:RepP m c x)(h1:x.one=true):CellsRep m [c] [x]:=
 ⟨rfl,fun y hy=>by simp at hy;subst hy;exact h1,fun i c' x' hc hx=>by
  match i with
  | 0=>simp at hc hx;subst hc;subst hx;exact h
  |i+1=>simp at hc⟩
theorem CellsRep.append{m:Mem}{cs ds:List Value}{xs ys:List PD}(h:CellsRep m cs xs)(k:CellsRep m ds ys):CellsRep m (cs++ds) (xs++ys):=by
 obtain⟨h1,h2,h3⟩:=h
 obtain⟨k1,k2,k3⟩:=k
 refine⟨by simp[h1,k1],fun x hx=>?_,fun i c x hc hx=>?_⟩
 ·rcases List.mem_append.1 hx with q |q
  ·exact h2 x q
  ·exact k2 x q
 ·by_cases hi:i<cs.length
  ·rw[List.getElem?_append_left hi] at hc
   rw[List.getElem?_append_left (by omega)] at hx
   exact h3 i c x hc hx
  ·rw[List.getElem?_append_right (by omega)] at hc
   rw[List.getElem?_append_right (by omega),h1] at hx
   exact k3 _ c x hc hx
theorem mkE_cells{e:TypeId}{xs:List PD}(h1:∀x∈xs,x.one=true):(mkE P e xs).cells=xs:=by
 unfold mkE
 split
 ·rfl
 ·rename_i x _
  have:=h1 x (by simp)
  cases x<;>first |rfl |cases this
 ·rfl
section
variable {H : Type} {enc : TypeId × Value → H} {W : World}
theorem fields_read{n:Nat}{ts:List TypeId}(IH:∀t cs x,t∈ts→DataW.trod enc P W 0 (fun _=>true) true n t cs=some x→∃xs,CellsRep (gh0 W).mem cs xs∧TyP P t xs)(cs:List Value):
    ∀(l:List Field) (off:Nat),tiles P cs.length off l=true→(∀f∈l,f.type∈ts)→(∀f∈l,∃y,DataW.trod enc P W 0 (fun _=>true) true n f.type ((cs.drop f.offset).take (P.cellsOf f.type))=some y)→
     off≤cs.length→(∀f∈l,f.offset+P.cellsOf f.type≤cs.length)→∃parts:List (List PD),parts.length=l.length∧CellsRep (gh0 W).mem (cs.drop off) parts.flatten∧∀(i:Nat) f p,l[i]? =some f→parts[i]? =some p→TyP P f.type p∧p.length=P.cellsOf f.type
 |[],off,ht,_,_,hoff,_=>by
  simp only[tiles,beq_iff_eq] at ht
  refine⟨[],rfl,?_,fun i f p h=>by simp at h⟩
  subst ht
  simp only[List.drop_length,List.flatten_nil]
  exact⟨rfl,fun x hx=>by simp at hx,fun i c x h=>by simp at h⟩
 |f::l,off,ht,hm,hr,hoff,hle=>by
  simp only[tiles,Bool.and_eq_true,beq_iff_eq] at ht
  obtain⟨h1,h2⟩:=ht
  obtain⟨y,hy⟩:=hr f (by simp)
  obtain⟨xs,q1,q2⟩:=IH _ _ _ (hm f (by simp)) hy
  have hfl:=hle f (by simp)
  obtain⟨parts,p1,p2,p3⟩:=fields_read IH cs l (off+P.cellsOf f.type) h2 (fun g hg=>hm g (by simp[hg])) (fun g hg=>hr g (by simp[hg])) (by omega) (fun g hg=>hle g (by simp[hg]))
  have hlen:xs.length=P.cellsOf f.type:=by rw[q1.1];simp;omega
  refine⟨xs::parts,by simp[p1],?_,fun i g p hg hp=>?_⟩
  ·have:=q1.append p2
   rw[h1] at this
   have e:(cs.drop off).take (P.cellsOf f.type)++cs.drop (off+P.cellsOf f.type)=cs.drop off:=by
    rw[←List.drop_drop];exact List.take_append_drop _ _
   rw[e] at this
   simpa using this
  ·match i with
   | 0=>simp at hg hp;subst hg;subst hp;exact⟨q2,hlen⟩
   |i+1=>exact p3 i g p (by simpa using hg) (by simpa using hp)
theorem tiles_le{n:Nat}:∀{l:List Field} {off:Nat},tiles P n off l=true→off≤n∧∀f∈l,f.offset+P.cellsOf f.type≤n
 |[],off,h=>by simp only[tiles,beq_iff_eq] at h;exact⟨by omega,fun f hf=>by simp at hf⟩
 |g::l,off,h=>by
  simp only[tiles,Bool.and_eq_true,beq_iff_eq] at h
  obtain⟨h1,h2⟩:=tiles_le h.2
  refine⟨by omega,fun f hf=>?_⟩
  rcases List.mem_cons.1 hf with rfl |hf
  ·have:=h.1;omega
  ·exact h2 f hf
theorem read_cells{ts:List TypeId}(hts:ts.all (tyOk P ts)=true):∀(n:Nat) t cs x,t∈ts→DataW.trod enc P W 0 (fun _=>true) true n t cs=some x→∃xs,CellsRep (gh0 W).mem cs xs∧TyP P t xs
 | 0,t,cs,x,_,h=>by simp[DataW.trod] at h
 |n+1,t,cs,x,hm,h=>by
  have hok:=List.all_eq_true.1 hts t hm
  unfold tyOk at hok
  split at hok
  ·rename_i ht
   obtain⟨b,rfl,_⟩:=DataW.trod_bool ht h
   exact⟨[.bool b],.single (.bool b) rfl,.bool t b ht⟩
  ·rename_i k ht
   obtain⟨m,rfl,_,hw⟩:=DataW.trod_int ht h
   exact⟨[.int k m],.single (.int k m) rfl,.int t k m ht hw⟩
  ·rename_i ht
   obtain⟨s,rfl,_,hl⟩:=DataW.trod_string ht h
   refine⟨[.str s.data.toList],.single ?_ rfl,.str t _ ht (by rw[Array.length_toList];exact hl)⟩
   have :s=⟨s.data.toList.toArray⟩:=by simp
   rw[this]
   exact .str _
  ·rename_i e ht
   simp only[Bool.and_eq_true,decide_eq_true_eq] at hok
   obtain⟨hc,hpos⟩:=hok
   have hme:e∈ts:=by simpa using hc
   rcases DataW.trod_slice ht h with⟨rfl,_⟩ |⟨a,len,cap,elems,rest,n',hn',rfl,_,_,hlc,hcm,hel,hget,_⟩
   ·exact⟨[.nils],.single .nils rfl,.nils t e ht⟩
   ·have hn'':n'=n:=by omega
    subst hn''
    have each:∀i,i<len→∃ci xi,W.cells? 0 (a.add (i*P.cellsOf e)) (P.cellsOf e)=some ci∧CellsRep (gh0 W).mem ci xi∧TyP P e xi:=fun i hi=>by
     have:=hget i hi
     rw[List.getElem?_eq_getElem (by omega)] at this
     obtain⟨ci,h1,h2⟩:=Option.bind_eq_some_iff.1 this
     obtain⟨xi,h3,h4⟩:=read_cells hts n' e ci _ hme h2
     exact⟨ci,xi,h1,h3,h4⟩
    let C:Nat→List Value:=fun i=>if hi:i<len then(each i hi).choose else[]
    let X:Nat→List PD:=fun i=>if hi:i<len then(each i hi).choose_spec.choose else[]
    have hCX:∀i,i<len→W.cells? 0 (a.add (i*P.cellsOf e)) (P.cellsOf e)=some (C i)∧CellsRep (gh0 W).mem (C i) (X i)∧TyP P e (X i):=fun i hi=>by
     simp only[C,X,hi,dif_pos]
     exact(each i hi).choose_spec.choose_spec
    have hlen:∀i,i<len→(X i).length=P.cellsOf e∧(C i).length=P.cellsOf e:=fun i hi=>by
     obtain⟨h1,h2,_⟩:=hCX i hi
     have:=(World.cells?_some h1).2.1
     exact⟨h2.1.trans this,this⟩
    have hmk:∀i,i<len→(mkE P e (X i)).cells=X i:=fun i hi=>mkE_cells (hCX i hi).2.1.2.1
    by_cases h0:len=0
    ·subst h0
     exact⟨[.emp (P.cellsOf e)],.single (.emp a cap _) rfl,.emp t e ht⟩
    have hty:TyP P t [.slice (P.cellsOf e) ((List.range len).map fun i=>mkE P e (X i))]:=by
     refine .sl t e _ (by simp[h0]) ht (by simp;omega) (fun x hx=>?_) (fun x hx=>?_) (fun x hx=>?_)
     ·obtain⟨i,hi,rfl⟩:=List.mem_map.1 hx
      have hi:i<len:=by simpa using hi
      rw[hmk i hi];exact(hCX i hi).2.2
     ·obtain⟨i,hi,rfl⟩:=List.mem_map.1 hx
      have hi:i<len:=by simpa using hi
      rw[hmk i hi];exact(hlen i hi).1
     ·obtain⟨i,hi,rfl⟩:=List.mem_map.1 hx
      have hi:i<len:=by simpa using hi
      rw[hmk i hi]
    refine⟨_,.single ?_ rfl,hty⟩
    ·have hf:=(World.cells?_some (hCX 0 (by omega)).1).2.2 0 hpos
     have hC0:(C 0)[0]?≠none:=by
      have:=(hlen 0 (by omega)).2
      rw[List.getElem?_eq_getElem (by omega)];simp
     obtain⟨b,o,sp⟩:=a
     have hsp:sp=none:=by
      cases sp with
      |none=>rfl
      |some q=>
       exfalso
       rw[←hf] at hC0
       apply hC0
       unfold World.cell? Addr.add
       split
       ·simp
       ·rfl
     subst hsp
     have hl:((List.range len).map fun i=>mkE P e (X i)).length=len:=by simp
     have:=RepP.sl (m:=(gh0 W).mem) b o cap (P.cellsOf e) ((List.range len).map fun i=>mkE P e (X i)) (fun i j=>(C i).getD j undef) (by rw[hl];exact hlc) (fun x hx=>by
      obtain⟨i,hi,rfl⟩:=List.mem_map.1 hx
      have hi:i<len:=by simpa using hi
      rw[hmk i hi];exact(hlen i hi).1) (fun x hx c hcm'=>by
      obtain⟨i,hi,rfl⟩:=List.mem_map.1 hx
      have hi:i<len:=by simpa using hi
      rw[hmk i hi] at hcm'
      exact(hCX i hi).2.1.2.1 c hcm') (fun i j hi hj=>by
      rw[hl] at hi
      have q:=(World.cells?_some (hCX i hi).1).2.2 j hj
      simp only[Addr.add_lit] at q
      show W.cell? ⟨b,o+i*P.cellsOf e+j,none⟩=_
      rw[q]
      have:=(hlen i hi).2
      simp[List.getD_eq_getElem?_getD,List.getElem?_eq_getElem (show j<(C i).length by omega)]) (fun i x j c hi hj=>by
      have hil:i<len:=by have:=(List.getElem?_eq_some_iff.1 hi).1;simpa using this
      have hx:x=mkE P e (X i):=by
       rw[List.getElem?_map,List.getElem?_range hil] at hi
       simpa using hi.symm
      subst hx
      rw[hmk i hil] at hj
      have hjl:=(List.getElem?_eq_some_iff.1 hj).1
      have h1:=(hlen i hil).1
      have h2:=(hlen i hil).2
      have hcj:(C i)[j]? =some ((C i).getD j undef):=by simp[List.getD_eq_getElem?_getD,List.getElem?_eq_getElem (show j<(C i).length by omega)]
      exact(hCX i hil).2.1.2.2 j _ c hcj hj)
     rw[hl] at this
     exact this
  ·rename_i fs ht
   simp only[Bool.and_eq_true] at hok
   obtain⟨htl,hall⟩:=hok
   obtain⟨xs,n',hn',_,hl,hlx,hget⟩:=DataW.trod_struct ht h
   have hn'':n'=n:=by omega
   subst hn''
   rw[←hl] at htl
   have hmem:∀f∈fs.toList,f.type∈ts:=fun f hf=>by
    have:=List.all_eq_true.1 hall f hf
    simpa using this
   obtain⟨t1,t2⟩:=tiles_le htl
   obtain⟨parts,p1,p2,p3⟩:=fields_read (W:=W) (enc:=enc) (n:=n') (ts:=ts) (fun t cs x hm h=>read_cells hts n' t cs x hm h) cs fs.toList 0 htl hmem (fun f hf=>by
    obtain⟨i,hi⟩:=List.getElem?_of_mem hf
    have hi':fs[i]? =some f:=by simpa using hi
    rw[hget i f hi']
    have hil:i<fs.size:=(Array.getElem?_eq_some_iff.1 hi').1
    exact⟨_,List.getElem?_eq_getElem (by omega)⟩) t1 t2
   refine⟨parts.flatten,by simpa using p2,.struct t fs parts ht (by simpa using p1) (fun i f p hf hp=>(p3 i f p (by simpa using hf) hp).1) (fun i f p hf hp=>(p3 i f p (by simpa using hf) hp).2)⟩
  ·cases hok
theorem rep_any{ts:List TypeId}(hts:ts.all (tyOk P ts)=true){t:TypeId}(hm:t∈ts){r:Reach}{b0:Nat}{v:Value}{d:DataW H}{ps:List MemPlace}(hval:Value.okWide P W r b0 t v)(hd:DataW.Trod enc P W 0 (fun _=>true) true t v d ps):
    ∃x:PD,RepD (gh0 W) v (.p x)∧TyP P t x.cells∧((∃fs,P.underlying t=some (.struct fs))→x= .agg x.cells)∧((∀fs,P.underlying t≠some (.struct fs))→x.one=true):=by
 obtain⟨fuel,hf⟩:=hd
 obtain⟨xs,q,hty⟩:=read_cells hts fuel t _ _ hm hf
 have hok:=List.all_eq_true.1 hts t hm
 have one:(∀fs,P.underlying t≠some (.struct fs))→v.cells= #[v]→∃x:PD,RepD (gh0 W) v (.p x)∧TyP P t x.cells∧((∃fs,P.underlying t=some (.struct fs))→x= .agg x.cells)∧((∀fs,P.underlying t≠some (.struct fs))→x.one=true):=by
  intro hns hv
  rw[hv] at q
  obtain⟨q1,q2,q3⟩:=q
  match xs,q1 with
  |[x],_=>
   have h1:=q2 x (by simp)
   have hc:x.cells=[x]:=by cases x<;>first |rfl |cases h1
   exact⟨x,.p _ _ (q3 0 v x rfl rfl),by rw[hc];exact hty,fun⟨fs,h⟩=>absurd h (hns fs),fun _=>h1⟩
 unfold tyOk at hok
 split at hok
 ·rename_i ht
  obtain⟨b,rfl⟩:=okWide_bool ht hval
  exact one (fun fs h=>by rw[ht] at h;cases h) rfl
 ·rename_i k ht
  obtain⟨m,rfl⟩:=okWide_int ht hval
  exact one (fun fs h=>by rw[ht] at h;cases h) rfl
 ·rename_i ht
  obtain⟨s,rfl⟩:=okWide_string ht hval
  exact one (fun fs h=>by rw[ht] at h;cases h) rfl
 ·rename_i e ht
  obtain⟨a,l,c,rfl⟩:=okWide_slice ht hval
  exact one (fun fs h=>by rw[ht] at h;cases h) rfl
 ·rename_i fs ht
  obtain⟨cs,rfl,_⟩:=okWide_struct ht hval
  obtain⟨q1,q2,q3⟩:=q
  refine⟨.agg xs,.p _ _ (.agg cs xs (by simpa[Value.cells] using q1.symm) q2 fun i x hx=>?_),hty,fun _=>rfl,fun h=>absurd ht (h fs)⟩
  have hi:i<cs.size:=by
   have:=(List.getElem?_eq_some_iff.1 hx).1
   rw[q1] at this;simpa[Value.cells] using this
  refine q3 i _ x ?_ hx
  simp[Value.cells,Array.getD_eq_getD_getElem?,hi]
 ·cases hok
end
end Go.Vs
namespace Go.Vs
theorem lenD_str(s:List UInt8):lenD 0 (.p (.str s))=some s.length:=rfl
theorem lenD_nils:lenD 1 (.p .nils)=some 0:=rfl
theorem lenD_sl(sz:Nat)(es:List PD):lenD 1 (.p (.slice sz es))=some es.length:=rfl
theorem lenD_fsl(e0 sz:Nat)(es:List PD):lenD 1 (.fsl e0 sz es)=some es.length:=rfl
theorem lenD_tsl(t e sz:Nat)(es:List PD):lenD 1 (.tsl t e sz es)=some es.length:=rfl
theorem iaddr_sl{sz:Nat}{es:List PD}{k:Nat}(h:k<es.length):iaddrD none sz (.p (.slice sz es)) (k:Int)=some (.ro (es[k]).cells 0):=by
 simp[iaddrD,D.elems?,h]
theorem iaddr_fsl{e0 sz:Nat}{es:List PD}{k:Nat}(h:k<es.length):iaddrD none sz (.fsl e0 sz es) (k:Int)=some (.ro (es[k]).cells 0):=by
 simp[iaddrD,D.elems?,h]
theorem iaddr_tsl{t e sz:Nat}{es:List PD}{k:Nat}(h:k<es.length):iaddrD none sz (.tsl t e sz es) (k:Int)=some (.ro (es[k]).cells 0):=by
 simp[iaddrD,D.elems?,h]
theorem u8_range{n:Int}(h:(Lit.int .u8 n).wf=true):0≤n∧n<256:=by
 simp[Lit.wf,IntKind.min,IntKind.max,IntKind.bits,IntKind.signed] at h
 omega
theorem repL_nil{γ:Gh}:RepL γ #[] []:=⟨rfl,fun i x hx=>by simp at hx⟩
theorem repL_cons{γ:Gh}{v:Value}{d:D}{vs:List Value}{ds:List D}(h:RepD γ v d)(k:RepL γ ⟨vs⟩ ds):RepL γ ⟨v::vs⟩ (d::ds):=by
 refine⟨by have:=k.1;simpa using this,fun i x hx=>?_⟩
 match i with
 | 0=>simp only[List.getElem?_cons_zero,Option.some.injEq] at hx;subst hx;exact h
 |i+1=>simpa using k.2 i x (by simpa using hx)
end Go.Vs
namespace Go.Vs
open Go.RowKit
variable {P : Program} {W : World} {G : Nat → Option (List PD)} {γ : Gh} {H : Hp} {w : World}
theorem Inv.below(I:Inv G γ H w){w':World}(B:Below w.heap.size w w'):Frame γ H w γ H w'∧Inv G γ H w':=by
 have hb:∀b,b<w.heap.size→w'.heap[b]? =w.heap[b]?:=fun b h=>B.block b h
 refine⟨⟨B.os,B.tape,B.output,B.size,fun b h _=>by rw[hb b h];exact⟨fun _=>rfl,.refl _ _⟩,fun _ _ _ _=>rfl,fun _ h=>.inl h,fun _ _ h=>.inl h⟩,?_⟩
 constructor
 ·exact Nat.le_trans I.size B.size
 ·intro b T n h
  have:=I.lt_of_tys h
  rw[hb b this];exact I.tys b T n h
 ·exact I.rowb
 ·intro b o v h
  rw[cell_eq (w:=w) (hb b (I.lt_of_mem h))]
  exact I.mem b o v h
 ·exact I.globs
 ·exact I.lenB
 ·exact I.nodup
 ·intro i b cs h1 h2
  rw[hb b (I.lt_of_box (List.mem_of_getElem? h1))]
  exact I.box i b cs h1 h2
 ·exact I.boxmem
 ·exact I.lenT
 ·intro t row f h1 h2
  obtain⟨r,a1,a2⟩:=I.row t row f h1 h2
  exact⟨r,a1,a2.keep (fun _ _ h=>h) (fun b cap hr hlt=>hb b (I.lt_of_free ⟨row,f,cap,h1,h2,hr▸a1,hlt⟩)) (fun _ _ _ _ _=>rfl) (fun _ _ _ _ h=>h)⟩
 ·exact I.rowmax
 ·exact I.free
theorem lib_meets{f:Nat}{args:List D}{d:D}(hent:Enters P f)
    (h:∀γ w vs,InvS W G γ H w→RepL γ vs args→Calls P f vs w fun e w'=>∃v,e= .returned v∧Below w.heap.size w w'∧RepD γ v d):Meets P W G f args H (.val d) H:=by
 refine⟨hent,fun γ w vs I hv=>(h γ w vs I hv).mono ?_⟩
 rintro e w' ⟨v,rfl,B,hr⟩
 obtain⟨F,J⟩:=I.toInv.below B
 exact⟨γ,.refl γ,F,I.up (.refl γ) F J,v,rfl,hr⟩
theorem repL_one{γ:Gh}{vs:Array Value}{d:D}(h:RepL γ vs [d]):∃v,vs= #[v]∧RepD γ v d:=by
 obtain⟨hl,hr⟩:=h
 obtain⟨l⟩:=vs
 match l,hl with
 |[v],_=>
  have:=hr 0 d rfl
  exact⟨v,rfl,by simpa[Array.getD_eq_getD_getElem?] using this⟩
theorem repL_two{γ:Gh}{vs:Array Value}{d e:D}(h:RepL γ vs [d,e]):∃v u,vs= #[v,u]∧RepD γ v d∧RepD γ u e:=by
 obtain⟨hl,hr⟩:=h
 obtain⟨l⟩:=vs
 match l,hl with
 |[v,u],_=>
  have h0:=hr 0 d rfl
  have h1:=hr 1 e rfl
  exact⟨v,u,rfl,by simpa[Array.getD_eq_getD_getElem?] using h0,by simpa[Array.getD_eq_getD_getElem?] using h1⟩
theorem rep_tup2{γ:Gh}{v u:Value}{d e:D}(h:RepD γ v d)(k:RepD γ u e):RepD γ (.tuple #[v,u]) (.tup [d,e]):=
 .tup _ _ rfl fun i x hx=>by
  match i with
  | 0=>simp only[List.getElem?_cons_zero,Option.some.injEq] at hx;subst hx;exact h
  | 1=>simp only[List.getElem?_cons_succ,List.getElem?_cons_zero,Option.some.injEq] at hx;subst hx;exact k
  |i+2=>simp at hx
end Go.Vs
namespace Go
variable {H : Type} {enc : TypeId × Value → H}
theorem returnsInHanded_and_shaped{a:Assume}{C:Checked}{os:Os}{f:FuncId}{fn:Func}{s:ChangeSpec}{conds:List PathCond}{apart fresh handsOn again:Bool}{X:World→Array Value→Prop}
    (hX:∀(w w':World) (args:Array Value),w.heap=w'.heap→X w args→X w' args)
    (own:ownKnob C.prog.godebug=none) (started:os.Started) (noInit:C.prog.inits.idxOf? f=none) (hfn:C.prog.funcs[f]? =some fn)
    (witness:∃(w:World) (tape:Tape) (i:Input),w.os=os∧(w.forCall tape i).Shaped C.prog∧i.vars=[]∧Input.okWide C.prog (w.forCall tape i) .any w.heap.size f i∧
     ((s.pre enc C.prog fn conds apart (w.forCall tape i).memory i.args∧X (w.forCall tape i).memory i.args)∧sizedMet enc C.prog fn (OpenSpec.ofChange s) apart (w.forCall tape i).memory i.args)∧a.holds C.prog (lone (Frame.enter C.prog f i.args .normal) [] (w.forCall tape i)))
    (contract:∀(W:World) (base:Nat) (args:Array Value) (ds gs:List (DataW H)) (before:List MemPlace),
     (∀(j:Nat) t v,fn.params[j]? =some t→args[j]? =some v→Value.okWide C.prog W .any base t v)→
     DataW.Whole enc C.prog fn.params.toList s.vars apart W args.toList ds gs before→X W args→W.ShapedOpen C.prog→
     Calls C.prog f args W fun e W'=>∃v,e= .returned v∧s.post enc C.prog fn apart fresh handsOn again W args v W'):
    ReturnsInHanded a C os f .any (fun w args=>(s.pre enc C.prog fn conds apart w args∧X w args)∧sizedMet enc C.prog fn (OpenSpec.ofChange s) apart w args) (s.post enc C.prog fn apart fresh handsOn again):=by
 refine returnsInHanded_of_calls own started noInit witness ?_
 intro w tape i _ hsh _ hok hpre _
 obtain⟨_,_,_,fn',hfn',_,_,_,_,hval⟩:=hok
 have e:fn'=fn:=Option.some.inj (hfn'.symm.trans hfn)
 subst e
 obtain⟨⟨⟨ds,gs,before,hw,_⟩,hx⟩,_⟩:=hpre
 have hw':=DataW.Whole.of_heap (w':=w.forCall tape i) (by rfl) hw
 refine(contract (w.forCall tape i) w.heap.size i.args ds gs before hval hw' (hX _ _ _ (by rfl) hx) hsh).mono fun e W' ⟨v,he,hp⟩=>?_
 subst he
 exact ChangeSpec.post_blind hp
end Go
namespace Go.Vs
variable {P : Program} {t e : TypeId} {xs : List PD}
theorem typ_slice(ht:P.underlying t=some (.slice e))(h:TyP P t xs):xs=[.nils]∨xs=[.emp (P.cellsOf e)]∨
    ∃es,es≠[]∧es.length≤maxLen∧xs=[.slice (P.cellsOf e) es]∧(∀x∈es,TyP P e x.cells)∧∀x∈es,x=mkE P e x.cells:=by
 cases h with
 |bool _ b hb=>rw[ht] at hb;cases hb
 |int _ k n hb=>rw[ht] at hb;cases hb
 |str _ s hb=>rw[ht] at hb;cases hb
 |nils _ e' hb=>exact .inl rfl
 |emp _ e' hb=>rw[ht] at hb;cases hb;exact .inr (.inl rfl)
 |sl _ e' es hne hb hl h hs hm=>rw[ht] at hb;cases hb;exact .inr (.inr ⟨es,hne,hl,rfl,h,hm⟩)
 |struct _ fs parts hb=>rw[ht] at hb;cases hb
theorem typ_int{k:IntKind}(ht:P.underlying t=some (.int k))(h:TyP P t xs):∃n,xs=[.int k n]∧(Lit.int k n).wf=true:=by
 cases h with
 |bool _ b hb=>rw[ht] at hb;cases hb
 |int _ k n hb hw=>rw[ht] at hb;cases hb;exact⟨n,rfl,hw⟩
 |str _ s hb=>rw[ht] at hb;cases hb
 |nils _ e' hb=>rw[ht] at hb;cases hb
 |emp _ e' hb=>rw[ht] at hb;cases hb
 |sl _ e' es hne hb hl h hs hm=>rw[ht] at hb;cases hb
 |struct _ fs parts hb=>rw[ht] at hb;cases hb
theorem typ_bool(ht:P.underlying t=some .bool)(h:TyP P t xs):∃b,xs=[.bool b]:=by
 cases h with
 |bool _ b hb=>exact⟨b,rfl⟩
 |int _ k n hb hw=>rw[ht] at hb;cases hb
 |str _ s hb=>rw[ht] at hb;cases hb
 |nils _ e' hb=>rw[ht] at hb;cases hb
 |emp _ e' hb=>rw[ht] at hb;cases hb
 |sl _ e' es hne hb hl h hs hm=>rw[ht] at hb;cases hb
 |struct _ fs parts hb=>rw[ht] at hb;cases hb
theorem typ_str(ht:P.underlying t=some .string)(h:TyP P t xs):∃s,xs=[.str s]∧s.length≤maxLen:=by
 cases h with
 |bool _ b hb=>rw[ht] at hb;cases hb
 |int _ k n hb hw=>rw[ht] at hb;cases hb
 |str _ s hb hs=>exact⟨s,rfl,hs⟩
 |nils _ e' hb=>rw[ht] at hb;cases hb
 |emp _ e' hb=>rw[ht] at hb;cases hb
 |sl _ e' es hne hb hl h hs hm=>rw[ht] at hb;cases hb
 |struct _ fs parts hb=>rw[ht] at hb;cases hb
theorem typ_struct{fs:Array Field}(ht:P.underlying t=some (.struct fs))(h:TyP P t xs):∃parts:List (List PD),xs=parts.flatten∧parts.length=fs.size∧
    ∀(i:Nat) f p,fs[i]? =some f→parts[i]? =some p→TyP P f.type p:=by
 cases h with
 |bool _ b hb=>rw[ht] at hb;cases hb
 |int _ k n hb hw=>rw[ht] at hb;cases hb
 |str _ s hb hs=>rw[ht] at hb;cases hb
 |nils _ e' hb=>rw[ht] at hb;cases hb
 |emp _ e' hb=>rw[ht] at hb;cases hb
 |sl _ e' es hne hb hl h hs hm=>rw[ht] at hb;cases hb
 |struct _ fs' parts hb hl h hs=>rw[ht] at hb;cases hb;exact⟨parts,rfl,hl,h⟩
theorem mkE_one{c:PD}(hn:∀fs,P.underlying e≠some (.struct fs)):mkE P e [c]=c:=by
 unfold mkE
 cases he:P.underlying e with
 |none=>rfl
 |some d=>cases d<;>first |exact absurd he (hn _) |rfl
theorem mkE_struct{fs:Array Field}(h:P.underlying e=some (.struct fs)):mkE P e xs= .agg xs:=by
 unfold mkE;rw[h]
theorem i64_wf{n:Int}(h:(Lit.int .i64 n).wf=true): -9223372036854775808≤n∧n≤9223372036854775807:=by
 simp[Lit.wf,IntKind.min,IntKind.max,IntKind.signed,IntKind.bits] at h
 omega
inductive Sl (α:Type) where
 |nil
 |amb
 |of (l:List α)
def Sl.map{α β:Type}(f:α→β):Sl α→Sl β
 | .nil=>.nil
 | .amb=>.amb
 | .of l=>.of (l.map f)
def slP(sz:Nat):Sl PD→PD
 | .nil=>.nils
 | .amb=>.slice sz []
 | .of []=>.emp sz
 | .of (e::es)=>.slice sz (e::es)
def els{α:Type}:Sl α→List α
 | .of l=>l
 |_=>[]
theorem els_map{α β:Type}(f:α→β)(o:Sl α):els (o.map f)=(els o).map f:=by cases o<;>rfl
theorem len_slP(sz:Nat)(o:Sl PD):lenD 1 (.p (slP sz o))=some (els o).length:=by
 match o with
 | .nil=>rfl
 | .amb=>rfl
 | .of []=>rfl
 | .of (e::es)=>rfl
theorem ia_slP{sz:Nat}{o:Sl PD}{k:Nat}(h:k<(els o).length):iaddrD none sz (.p (slP sz o)) (k:Int)=some (.ro ((els o)[k]).cells 0):=by
 match o with
 | .nil=>simp[els] at h
 | .amb=>simp[els] at h
 | .of []=>simp[els] at h
 | .of (e::es)=>
  have h':k<(e::es).length:=h
  simp only[slP,iaddrD,D.elems?,els]
  simp[List.getElem?_eq_getElem h']
theorem len_map{α:Type}(sz:Nat)(f:α→PD)(o:Sl α):lenD 1 (.p (slP sz (o.map f)))=some (els o).length:=by
 rw[len_slP,els_map,List.length_map]
theorem ia_map{α:Type}{sz:Nat}{f:α→PD}{o:Sl α}{k:Nat}(h:k<(els o).length):iaddrD none sz (.p (slP sz (o.map f))) (k:Int)=some (.ro (f (els o)[k]).cells 0):=by
 have h':k<(els (o.map f)).length:=by rw[els_map,List.length_map];exact h
 rw[ia_slP h']
 simp[els_map]
theorem one_slP(sz:Nat)(o:Sl PD):(D.p (slP sz o)).one=true:=by
 match o with
 | .nil=>rfl
 | .amb=>rfl
 | .of []=>rfl
 | .of (_::_)=>rfl
theorem pone_slP(sz:Nat)(o:Sl PD):(slP sz o).one=true:=by
 match o with
 | .nil=>rfl
 | .amb=>rfl
 | .of []=>rfl
 | .of (_::_)=>rfl
@[simp] theorem one_int(k:IntKind)(n:Int):(D.p (.int k n)).one=true:=rfl
@[simp] theorem one_bool(b:Bool):(D.p (.bool b)).one=true:=rfl
@[simp] theorem one_str(s:List UInt8):(D.p (.str s)).one=true:=rfl
@[simp] theorem one_slice(sz:Nat)(es:List PD):(D.p (.slice sz es)).one=true:=rfl
@[simp] theorem pone_slice(sz:Nat)(es:List PD):(PD.slice sz es).one=true:=rfl
@[simp] theorem one_nils:(D.p .nils).one=true:=rfl
@[simp] theorem one_nilp:(D.p .nilp).one=true:=rfl
@[simp] theorem one_box(i o:Nat):(D.box i o).one=true:=rfl
@[simp] theorem one_mapr(i:Nat):(D.mapr i).one=true:=rfl
@[simp] theorem one_tsl(t e sz:Nat)(es:List PD):(D.tsl t e sz es).one=true:=rfl
@[simp] theorem one_fsl(e sz:Nat)(es:List PD):(D.fsl e sz es).one=true:=rfl
@[simp] theorem one_msl(i o n:Nat)(c:Option Nat)(sz:Nat):(D.msl i o n c sz).one=true:=rfl
@[simp] theorem pone_int(k:IntKind)(n:Int):(PD.int k n).one=true:=rfl
@[simp] theorem pone_str(s:List UInt8):(PD.str s).one=true:=rfl
@[simp] theorem pone_bool(b:Bool):(PD.bool b).one=true:=rfl
@[simp] theorem pone_nils:PD.nils.one=true:=rfl
theorem cells_agg(cs:List PD):(PD.agg cs).cells=cs:=rfl
theorem pures_p:∀l:List PD,pures (l.map D.p)=some l
 |[]=>rfl
 |x::l=>by simp[pures,pures_p l]
theorem mkAgg_p(l:List PD):mkAgg (l.map D.p)= .p (.agg l):=by simp[mkAgg,pures_p]
theorem isMapC_p(l:List PD):isMapC (l.map D.p)=false:=by
 match l with
 |[]=>rfl
 |[x]=>rfl
 |x::y::r=>rfl
@[simp] theorem renL_p(f g:Nat→Option Nat):∀l:List PD,D.renL f g (l.map D.p)=some (l.map D.p)
 |[]=>rfl
 |x::l=>by simp[D.renL,D.ren,renL_p f g l]
@[simp] theorem refsL_p:∀l:List PD,D.refsL (l.map D.p)=[]
 |[]=>rfl
 |x::l=>by simp[D.refsL,D.refs,refsL_p l]
@[simp] theorem toksL_p:∀l:List PD,D.toksL (l.map D.p)=[]
 |[]=>rfl
 |x::l=>by simp[D.toksL,D.toks,toksL_p l]
theorem sub_all{α:Type}(l:List α):sub l 0 l.length=l:=by simp[sub]
theorem load_ro{G:Nat→Option (List PD)}{H:Hp}{cs:List PD}{n:Nat}(h:cs.length=n):loadD G H (some n) (.ro cs 0)=some (.p (.agg cs)):=by
 subst h
 simp[loadD,cutAt,sub_all]
theorem load_box{G:Nat→Option (List PD)}{H:Hp}{i:Nat}{cs:List PD}{n:Nat}(hb:H.bx[i]? =some (cs.map D.p))(h:cs.length=n):loadD G H (some n) (.box i 0)=some (.p (.agg cs)):=by
 subst h
 have:=sub_all (cs.map D.p)
 rw[List.length_map] at this
 simp[loadD,hb,isMapC_p,cutAt,this,mkAgg_p]
theorem store_box{H:Hp}{i:Nat}{zs:List PD}{cs:List PD}{n:Nat}(hb:H.bx[i]? =some (zs.map D.p))(h1:zs.length=n)(h2:cs.length=n)(h0:0<n)(ho:∀c∈cs,c.one=true):
    storeD H n (.box i 0) (.p (.agg cs))=some {H with bx:=H.bx.set i (cs.map D.p)}:=by
 have hc:(D.p (.agg cs)).cells=cs.map D.p:=rfl
 have ha:(cs.map D.p).all D.one=true:=by
  rw[List.all_eq_true]
  intro d hd
  obtain⟨c,hc,rfl⟩:=List.mem_map.1 hd
  exact ho c hc
 simp only[storeD,hb,hc,isMapC_p,List.length_map,ha]
 rw[if_pos ⟨trivial,h2,trivial,by omega,h0⟩]
 have hd:(zs.map D.p).drop (0+(cs.map D.p).length)=[]:=List.drop_eq_nil_of_le (by simp;omega)
 simp only[splice,hd,List.take_zero,List.nil_append,List.append_nil]
theorem beq_nat(a b:Nat):((a:Int)==(b:Int))=(a==b):=by rw[Bool.eq_iff_iff];simp;omega
theorem bne_nat(a b:Nat):((a:Int)!=(b:Int))=(a !=b):=by simp only[bne,beq_nat]
theorem dlt_nat(a b:Nat):((a:Int)<(b:Int))=(a<b):=by simp
theorem inc64{k:Nat}(h:k<4611686018427387904):IntKind.i64.wrap ((k:Int)+1)=((k+1 :Nat):Int):=by rw[wrap64 (by omega) (by omega)];rfl
def eqfB(sz:Nat)(zs:List PD):SC:=
    (.loc
     (.seq
      (.region [1,2,15,16,17,18] [
          ⟨some 18,.bin .lss (.t 17) (.t 16),none⟩])
      (.seq
       (.cond (.t 18)
        .skip
        (.exit 0))
       (.seq
        (.block 1
         (.seq
          (.region [1,2,7,8,15,16,17] [
              ⟨some 19,.move (.t 17),none⟩,
              ⟨some 20,.iaddr none sz (.t 15) (.t 17),none⟩,
              ⟨some 21,.load (some sz) (.t 20),none⟩,
              ⟨some 8,.alloc zs,none⟩,
              ⟨some 7,.move (.t 19),none⟩,
              ⟨none,.store sz (.t 8) (.t 21),none⟩])
          (.seq
           (.region [1,2,8,9,15,16,17] [
               ⟨some 22,.move (.t 1),none⟩,
               ⟨some 23,.move (.t 7),none⟩,
               ⟨some 24,.iaddr none sz (.t 22) (.t 23),none⟩,
               ⟨some 25,.load (some sz) (.t 24),none⟩,
               ⟨some 9,.alloc zs,none⟩,
               ⟨none,.store sz (.t 9) (.t 25),none⟩])
           (.seq
            (.region [1,2,15,16,17,30] [
                ⟨some 26,.move (.t 2),none⟩,
                ⟨some 27,.load (some sz) (.t 8),none⟩,
                ⟨some 28,.load (some sz) (.t 9),none⟩,
                ⟨some 29,.call (.t 26) [(.t 27),(.t 28)],none⟩,
                ⟨some 30,.un .not (.t 29),none⟩])
            (.cond (.t 30)
             (.seq
              (.region [6] [
                  ⟨some 6,.move (.c (.p (.bool false))),none⟩])
              .ret)
             .skip)))))
        (.region [1,2,15,16,17] [
            ⟨some 31,.bin .add (.t 17) (.c (.p (.int .i64 1))),none⟩,
            ⟨some 17,.move (.t 31),none⟩])))))
def eqfC(sz:Nat)(zs:List PD):FC where
 nt:=32
 np:=3
 res:=[.t 6]
 body:=
  (.seq
   (.region [0,1,2] [
       ⟨some 6,.move (.c (.p (.bool false))),none⟩])
   (.seq
    (.seq
     (.region [0,1,2,14] [
         ⟨some 10,.move (.t 0),none⟩,
         ⟨some 11,.len 1 (.t 10),none⟩,
         ⟨some 12,.move (.t 1),none⟩,
         ⟨some 13,.len 1 (.t 12),none⟩,
         ⟨some 14,.bin .neq (.t 11) (.t 13),none⟩])
     (.cond (.t 14)
      (.seq
       (.region [6] [
           ⟨some 6,.move (.c (.p (.bool false))),none⟩])
       .ret)
      .skip))
    (.seq
     (.seq
      (.region [1,2,15,16,17] [
          ⟨some 15,.move (.t 0),none⟩,
          ⟨some 16,.len 1 (.t 15),none⟩,
          ⟨some 17,.move (.c (.p (.int .i64 0))),none⟩])
      (.block 0
       (.loop [1,2,15,16,17]
        (eqfB sz zs))))
     (.seq
      (.region [6] [
          ⟨some 6,.move (.c (.p (.bool true))),none⟩])
      .ret))))
def eqAll{α β:Type}(r:α→β→Bool):List α→List β→Bool
 |[],[]=>true
 |a::x,b::y=>r a b&&eqAll r x y
 |_,_=>false
theorem eqAll_drop{α β:Type}{r:α→β→Bool}{a:List α}{b:List β}{k:Nat}(ha:k<a.length)(hb:k<b.length):eqAll r (a.drop k) (b.drop k)=(r a[k] b[k]&&eqAll r (a.drop (k+1)) (b.drop (k+1))):=by
 rw[List.drop_eq_getElem_cons ha,List.drop_eq_getElem_cons hb];rfl
theorem eqAll_len{α β:Type}{r:α→β→Bool}:∀{a:List α} {b:List β},eqAll r a b=true→a.length=b.length
 |[],[],_=>rfl
 |_::_,_::_,h=>by simp only[eqAll,Bool.and_eq_true] at h;simp[eqAll_len h.2]
 |[],_::_,h=>by cases h
 |_::_,[],h=>by cases h
def Rec(n:Nat)(x:PD):Prop:=∃cs,x= .agg cs∧cs.length=n∧∀c∈cs,c.one=true
section
variable {c : CallR} {G : Nat → Option (List PD)} {sz : Nat} {zs : List PD} {g : Nat} {α : Type} {f : α → PD} {a b : Sl α} {r : α → α → Bool}
 (hz:zs.length=sz) (h0:0<sz) (hzo:zs.all PD.one=true) (ha:∀x∈els a,Rec sz (f x)) (hb:∀x∈els b,Rec sz (f x))
 (hc:∀(k:Nat) (h1:k<(els a).length) (h2:k<(els b).length) H,callD c g [.p (f (els a)[k]),.p (f (els b)[k])] H=some (.val (.p (.bool (r (els a)[k] (els b)[k]))),H))
 (hl:(els a).length=(els b).length) (hn:(els a).length≤4611686018427387904)
include hz h0 hzo ha hb hc hl hn
theorem eqf_loop:∀(n k:Nat),k≤(els a).length→(els a).length-k≤n→
    ∃env,loopK c G [1,2,15,16,17] (eqfB sz zs) ⟨[(1,.p (slP sz (b.map f))),(2,.fn g [] []),(15,.p (slP sz (a.map f))),(16,.p (.int .i64 (els a).length)),(17,.p (.int .i64 k))],⟨[],[]⟩⟩=
     some (if eqAll r ((els a).drop k) ((els b).drop k) then(.exit 0,⟨env,⟨[],[]⟩⟩) else(.ret,⟨[(6,.p (.bool false))],⟨[],[]⟩⟩)):=by
 intro n
 induction n with
 |zero=>
  intro k hk hn'
  have :k=(els a).length:=by omega
  refine⟨[(1,.p (slP sz (b.map f))),(2,.fn g [] []),(15,.p (slP sz (a.map f))),(16,.p (.int .i64 (els a).length)),(17,.p (.int .i64 k)),(18,.p (.bool false))],?_⟩
  rw[List.drop_eq_nil_of_le (by omega),List.drop_eq_nil_of_le (by omega)]
  refine loopK_out (o:=.exit 0) ?_ (by simp)
  simp[eqfB,evKC,evK,put,Env.get,Env.keep,Opd.ev,binD,mapO,D.renL,D.ren,locD,Out.ren,List.map,this]
 |succ n ih=>
  intro k hk hn'
  by_cases he:k=(els a).length
  ·refine⟨[(1,.p (slP sz (b.map f))),(2,.fn g [] []),(15,.p (slP sz (a.map f))),(16,.p (.int .i64 (els a).length)),(17,.p (.int .i64 k)),(18,.p (.bool false))],?_⟩
   rw[List.drop_eq_nil_of_le (by omega),List.drop_eq_nil_of_le (by omega)]
   refine loopK_out (o:=.exit 0) ?_ (by simp)
   simp[eqfB,evKC,evK,put,Env.get,Env.keep,Opd.ev,binD,mapO,D.renL,D.ren,locD,Out.ren,List.map,he]
  ·have hka:k<(els a).length:=by omega
   have hkb:k<(els b).length:=by omega
   have hlt':(k:Int)<((els a).length:Int):=by omega
   have hia:=ia_map (sz:=sz) (f:=f) hka
   have hib:=ia_map (sz:=sz) (f:=f) hkb
   have hcall:=hc k hka hkb
   obtain⟨env,he⟩:=ih (k+1) (by omega) (by omega)
   refine⟨env,?_⟩
   rw[eqAll_drop hka hkb]
   obtain⟨ca,ea,la,oa⟩:=ha _ (List.getElem_mem hka)
   obtain⟨cb,eb,lb,ob⟩:=hb _ (List.getElem_mem hkb)
   generalize (els a)[k]=x at *
   generalize (els b)[k]=y at *
   rw[ea] at hia hcall
   rw[eb] at hib hcall
   rw[cells_agg] at hia hib
   have hk1:=inc64 (k:=k) (by omega)
   have l1:=fun(H:Hp)=>load_ro (G:=G) (H:=H) la
   have l2:=fun(H:Hp)=>load_ro (G:=G) (H:=H) lb
   have s1:storeD ⟨[zs.map D.p],[]⟩ sz (.box 0 0) (.p (.agg ca))=some ⟨[ca.map D.p],[]⟩:=store_box (H:=⟨[zs.map D.p],[]⟩) rfl hz la h0 oa
   have s2:storeD ⟨[ca.map D.p,zs.map D.p],[]⟩ sz (.box 1 0) (.p (.agg cb))=some ⟨[ca.map D.p,cb.map D.p],[]⟩:=store_box (H:=⟨[ca.map D.p,zs.map D.p],[]⟩) (i:=1) rfl hz lb h0 ob
   have l3:loadD G ⟨[ca.map D.p,cb.map D.p],[]⟩ (some sz) (.box 0 0)=some (.p (.agg ca)):=load_box rfl la
   have l4:loadD G ⟨[ca.map D.p,cb.map D.p],[]⟩ (some sz) (.box 1 0)=some (.p (.agg cb)):=load_box rfl lb
   have hzo':(zs.all PD.one)=true:=hzo
   cases hr:r x y with
   |true=>
    rw[hr] at hcall
    rw[Bool.true_and,←he]
    refine loopK_norm ?_
    simp[eqfB,evKC,evK,put,Env.get,Env.keep,Opd.ev,D.asInt?,binD,unD,mapO,D.renL,D.ren,locD,Out.ren,List.map,hlt',hia,hib,l1,l2,l3,l4,s1,s2,hzo',hcall,hk1]
   |false=>
    rw[hr] at hcall
    rw[Bool.false_and]
    refine loopK_out (o:=.ret) ?_ (by simp)
    simp[eqfB,evKC,evK,put,Env.get,Env.keep,Opd.ev,D.asInt?,binD,unD,mapO,D.ren,locD,Out.ren,List.map,hlt',hia,hib,l1,l2,l3,l4,s1,s2,hzo',hcall]
end
theorem eqf_eq{α:Type}{f:α→PD}{p:Pg}{fi g sz:Nat}{zs:List PD}{a b:Sl α}{r:α→α→Bool}(hL:p.lib fi [.p (slP sz (a.map f)),.p (slP sz (b.map f)),.fn g [] []] ⟨[],[]⟩=none)(hF:p.F fi=some (eqfC sz zs))
    (hz:zs.length=sz) (h0:0<sz) (hzo:zs.all PD.one=true) (ha:∀x∈els a,Rec sz (f x)) (hb:∀x∈els b,Rec sz (f x))
    (hc:∀(k:Nat) (h1:k<(els a).length) (h2:k<(els b).length) H,callD (call p) g [.p (f (els a)[k]),.p (f (els b)[k])] H=some (.val (.p (.bool (r (els a)[k] (els b)[k]))),H))
    (hn:(els a).length≤4611686018427387904):call p fi [.p (slP sz (a.map f)),.p (slP sz (b.map f)),.fn g [] []] ⟨[],[]⟩=some (.val (.p (.bool (eqAll r (els a) (els b)))),⟨[],[]⟩):=by
 refine call_body (fc:=eqfC sz zs) hL hF rfl rfl ?_
 by_cases hl:(els a).length=(els b).length
 ·have hne:(((els a).length:Int)!=((els b).length:Int))=false:=by rw[bne_nat];simp[hl]
  obtain⟨env,he⟩:=eqf_loop (G:=p.G) hz h0 hzo ha hb hc hl hn (els a).length 0 (by omega) (by omega)
  rw[List.drop_zero,List.drop_zero] at he
  simp only[Int.natCast_zero] at he
  cases hr:eqAll r (els a) (els b) with
  |true=>
   rw[hr] at he
   simp[eqfC,evKC,evK,put,Env.get,Env.keep,entry,Opd.ev,binD,finish,evRes,evRes1,len_map,hne,he]
  |false=>
   rw[hr] at he
   simp[eqfC,evKC,evK,put,Env.get,Env.keep,entry,Opd.ev,binD,finish,evRes,evRes1,len_map,hne,he]
 ·have hne:(((els a).length:Int)!=((els b).length:Int))=true:=by rw[bne_nat];simp[hl]
  have hr:eqAll r (els a) (els b)=false:=by
   cases h:eqAll r (els a) (els b) with
   |false=>rfl
   |true=>exact absurd (eqAll_len h) hl
  simp[eqfC,evKC,evK,put,Env.get,Env.keep,entry,Opd.ev,binD,finish,evRes,evRes1,len_map,hne,hr]
end Go.Vs
