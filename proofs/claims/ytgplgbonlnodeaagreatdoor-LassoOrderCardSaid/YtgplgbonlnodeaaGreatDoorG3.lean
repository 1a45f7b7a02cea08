/-
  A value-level evaluator for Go functions; the functions of this cut by it; plain laws. Text G3.
-/
import Derived.Test.YtgplgbonlnodeaaGreatDoorG2
import Derived.RangeFuncLeaves
import Derived.OrdersIn
import Derived.TacticsIn
import Derived.LoopNIn
import Derived.LoopN
import Derived.Scope
import Derived.RangeFuncRecord
import Derived.RangeFuncSeq
import Derived.Laws.ResultCell
import Derived.Recover
namespace Go.Vs
variable {P : Program} {W : World} {G : Nat → Option (List PD)}
def lastW{α:Type}(g0:α)(wr:Nat→Bool)(d:Nat→α)(l:Nat→Bool):Nat→α
 | 0=>g0
 |m+1=>if l m=true∧wr m=true then d m else lastW g0 wr d l m
theorem lastW_congr{α:Type}{g0:α}{wr:Nat→Bool}{d:Nat→α}{l l':Nat→Bool}:∀(n:Nat),(∀j,j<n→wr j=true→l j=l' j)→lastW g0 wr d l n=lastW g0 wr d l' n
 | 0,_=>rfl
 |n+1,h=>by
  simp only[lastW]
  rw[lastW_congr n fun j hj hw=>h j (by omega) hw]
  by_cases hw:wr n=true
  ·rw[h n (by omega) hw]
  ·simp[hw]
theorem lastW_below{α:Type}{g0:α}{wr:Nat→Bool}{d:Nat→α}{i:Nat}:∀(n:Nat),i≤n→lastW g0 wr d (fun j=>decide (j<i)) n=lastW g0 wr d (fun _=>true) i
 | 0,h=>by
  have :i=0:=by omega
  subst this;rfl
 |n+1,h=>by
  by_cases hi:i=n+1
  ·subst hi
   exact lastW_congr (n+1) fun j hj _=>by simp[hj]
  ·simp only[lastW]
   rw[if_neg (by simp;omega),lastW_below n (by omega)]
theorem lastW_at{α:Type}{g0:α}{wr:Nat→Bool}{d:Nat→α}{l:Nat→Bool}{i:Nat}(hl:l i=true)(hw:wr i=true):∀(n:Nat),i<n→(∀j,i<j→j<n→wr j=true→l j=false)→lastW g0 wr d l n=d i
 | 0,h,_=>by omega
 |n+1,h,q=>by
  simp only[lastW]
  by_cases hi:i=n
  ·subst hi;rw[if_pos ⟨hl,hw⟩]
  ·rw[if_neg (fun x=>by have:=q n (by omega) (by omega) x.2;rw[this] at x;exact absurd x.1 (by simp)),lastW_at hl hw n (by omega) fun j h1 h2 h3=>q j h1 (by omega) h3]
def slotClash(a b:SO):Bool:=
 (match a.dst with |some t=>b.uses.contains t||b.dst==some t |none=>false)||(match b.dst with |some t=>a.uses.contains t |none=>false)
def predsOf(o:Oper):List Nat:=(o.after.toList.filter (Region.binds .any)).map (·.on)
def maskOf(ms:List Nat):List Nat→Nat
 |[]=>0
 |j::r=>(maskOf ms r|||(1<<<j))|||ms.getD j 0
def masksOf:List Oper→List Nat→List Nat
 |[],ms=>ms
 |o::r,ms=>masksOf r (ms++[maskOf ms (predsOf o)])
def rel(ms:List Nat)(i j:Nat):Bool:=(ms.getD i 0).testBit j
def mkd(pairs:List (Nat×Nat))(i:Nat):Bool:=pairs.contains (1000000+i,0)
def earlierOk(ms:List Nat)(pairs:List (Nat×Nat))(i:Nat)(ps:List Nat)(b:SO):Nat→List SO→Bool
 |_,[]=>true
 |j,a::r=>(if rel ms i j then ps.any fun p=>p==j||(decide (j<p)&&rel ms p j) else !slotClash a b&&(a.k.heapless||b.k.heapless||pairs.contains (j,i)||mkd pairs i))&&earlierOk ms pairs i ps b (j+1) r
def drawOkAt(ms:List Nat)(pairs:List (Nat×Nat))(sl:List SO):Nat→List Oper→List SO→Bool
 |i,o::os,b::bs=>(predsOf o).all (fun p=>decide (p<i))&&earlierOk ms pairs i (predsOf o) b 0 (sl.take i)&&drawOkAt ms pairs sl (i+1) os bs
 |_,_,_=>true
def isAl(s:SO):Bool:=match s.k,s.g,s.dst with
 | .alloc (_::_),none,some _=>true
 |_,_,_=>false
def isAlO(o:Oper):Bool:=match o.op with
 | .alloc _=>true
 |_=>false
def lateAt(ms:List Nat)(pairs:List (Nat×Nat))(nd:Nat→Bool)(a:Nat)(ps:List Nat):Bool:=
 (List.range a).all fun j=>!nd j||ps.any fun p=>p==j||(!mkd pairs p&&(decide (j<p)&&rel ms p j))
def lateOk(ms:List Nat)(pairs:List (Nat×Nat))(nd:Nat→Bool)(a:Nat):Nat→List Oper→Bool
 |_,[]=>true
 |i,o::r=>(decide (i≤a)|| !rel ms i a||lateAt ms pairs nd a (predsOf o))&&lateOk ms pairs nd a (i+1) r
def ndS(sl:List SO)(j:Nat):Bool:=match sl[j]? with
 |some s=>!s.k.heapless
 |none=>false
def exAt(pairs:List (Nat×Nat))(ms:List Nat)(ops:List Oper)(sl:List SO)(a:Nat):Bool:=
 match sl[a]?,ops[a]? with
 |some x,some o=>isAl x&&isAlO o&&(predsOf o).isEmpty&&lateOk ms pairs (ndS sl) a 0 ops
 |_,_=>false
def exOk(pairs:List (Nat×Nat))(ms:List Nat)(ops:List Oper)(sl:List SO):Bool:=
 pairs.all fun p=>decide (p.1<1000000)||exAt pairs ms ops sl (p.1-1000000)
def drawOk(pairs:List (Nat×Nat))(ops:List Oper)(sl:List SO):Bool:=drawOkAt (masksOf ops []) pairs sl 0 ops sl&&exOk pairs (masksOf ops []) ops sl
theorem isAl_iff{s:SO}(h:isAl s=true):∃zs t,s.k= .alloc zs∧zs≠[]∧s.g=none∧s.dst=some t:=by
 unfold isAl at h
 split at h
 ·rename_i z zs t h1 h2 h3
  exact⟨z::zs,t,h1,by simp,h2,h3⟩
 ·cases h
theorem isAlO_iff{o:Oper}(h:isAlO o=true):∃e,o.op= .alloc e:=by
 unfold isAlO at h
 split at h
 ·rename_i e he;exact⟨e,he⟩
 ·cases h
theorem lateOk_iff{ms:List Nat}{pairs:List (Nat×Nat)}{nd:Nat→Bool}{a:Nat}:∀{i0:Nat} {os:List Oper},lateOk ms pairs nd a i0 os=true→∀(i:Nat) o,os[i]? =some o→a<i0+i→rel ms (i0+i) a=true→
    ∀j,j<a→nd j=true→∃p∈predsOf o,p=j∨(mkd pairs p=false∧j<p∧rel ms p j=true)
 |_,[],_,i,o,ho=>by simp at ho
 |i0,x::os,h,i,o,ho=>by
  intro hlt hr j hj hnd
  simp only[lateOk,Bool.and_eq_true] at h
  match i with
  | 0=>
   simp only[List.getElem?_cons_zero,Option.some.injEq] at ho
   subst ho
   have h1:=h.1
   rw[Nat.add_zero] at hr hlt
   rw[hr,decide_eq_false (by omega)] at h1
   have h1:lateAt ms pairs nd a (predsOf x)=true:=by simpa using h1
   have h2:=List.all_eq_true.1 h1 j (by simpa using hj)
   rw[hnd] at h2
   simpa[List.any_eq_true] using h2
  |i+1=>
   exact lateOk_iff (i0:=i0+1) h.2 i o (by simpa using ho) (by omega) (by rw[show i0+1+i=i0+(i+1) by omega];exact hr) j hj hnd
structure ExAt (pairs:List (Nat×Nat)) (ops:List Oper) (sl:List SO) (R:Nat→Nat→Bool) (a:Nat):Prop where
 al:∃x o e zx tx,sl[a]? =some x∧ops[a]? =some o∧o.op= .alloc e∧x.k= .alloc zx∧zx≠[]∧x.g=none∧x.dst=some tx∧predsOf o=[]
 late:∀(i:Nat) o,ops[i]? =some o→a<i→R i a=true→∀j,j<a→ndS sl j=true→∃p∈predsOf o,p=j∨(mkd pairs p=false∧j<p∧R p j=true)
theorem exOk_iff{pairs:List (Nat×Nat)}{ms:List Nat}{ops:List Oper}{sl:List SO}(h:exOk pairs ms ops sl=true){a:Nat}(ha:mkd pairs a=true):ExAt pairs ops sl (rel ms) a:=by
 have hm:(1000000+a,0)∈pairs:=by simpa[mkd] using ha
 have h1:=List.all_eq_true.1 h _ hm
 simp only[Bool.or_eq_true,decide_eq_true_eq] at h1
 rcases h1 with h1 |h1
 ·omega
 ·rw[Nat.add_sub_cancel_left] at h1
  unfold exAt at h1
  split at h1
  ·rename_i x o hx ho
   simp only[Bool.and_eq_true] at h1
   obtain⟨⟨⟨a1,a2⟩,a3⟩,a4⟩:=h1
   obtain⟨zx,tx,b1,b2,b3,b4⟩:=isAl_iff a1
   obtain⟨e,he⟩:=isAlO_iff a2
   exact⟨⟨x,o,e,zx,tx,hx,ho,he,b1,b2,b3,b4,by simpa using a3⟩,fun i o ho hi hr=>lateOk_iff a4 i o ho (by omega) (by rw[Nat.zero_add];exact hr)⟩
  ·cases h1
theorem earlierOk_iff{ms:List Nat}{pairs:List (Nat×Nat)}{i:Nat}{ps:List Nat}{b:SO}:∀{j0:Nat} {l:List SO},earlierOk ms pairs i ps b j0 l=true→∀(j:Nat) a,l[j]? =some a→
    (rel ms i (j0+j)=true∧∃p∈ps,p=j0+j∨(j0+j<p∧rel ms p (j0+j)=true))∨
    (rel ms i (j0+j)=false∧slotClash a b=false∧(a.k.heapless=true∨b.k.heapless=true∨(j0+j,i)∈pairs∨mkd pairs i=true))
 |_,[],_,j,a,ha=>by simp at ha
 |j0,x::l,h,j,a,ha=>by
  simp only[earlierOk,Bool.and_eq_true] at h
  match j with
  | 0=>
   simp only[List.getElem?_cons_zero,Option.some.injEq] at ha
   subst ha
   have h1:=h.1
   split at h1
   ·rename_i hr
    refine .inl ⟨hr,?_⟩
    simpa[List.any_eq_true] using h1
   ·rename_i hr
    refine .inr ⟨by simpa using hr,?_⟩
    simpa[or_assoc] using h1
  |j+1=>
   have:=earlierOk_iff h.2 j a (by simpa using ha)
   rw[show j0+(j+1)=j0+1+j by omega]
   exact this
theorem drawOkAt_iff{ms:List Nat}{pairs:List (Nat×Nat)}{sl:List SO}:∀{i0:Nat} {os:List Oper} {bs:List SO},drawOkAt ms pairs sl i0 os bs=true→∀(i:Nat) o b,os[i]? =some o→bs[i]? =some b→
    (∀p∈predsOf o,p<i0+i)∧earlierOk ms pairs (i0+i) (predsOf o) b 0 (sl.take (i0+i))=true
 |_,[],_,_,i,o,b,ho,_=>by simp at ho
 |_,_::_,[],_,i,o,b,_,hb=>by simp at hb
 |i0,x::os,y::bs,h,i,o,b,ho,hb=>by
  simp only[drawOkAt,Bool.and_eq_true] at h
  match i with
  | 0=>
   simp only[List.getElem?_cons_zero,Option.some.injEq] at ho hb
   subst ho;subst hb
   exact⟨by simpa[List.all_eq_true] using h.1.1,h.1.2⟩
  |i+1=>
   have:=drawOkAt_iff h.2 i o b (by simpa using ho) (by simpa using hb)
   rw[show i0+(i+1)=i0+1+i by omega]
   exact this
theorem drawOk_iff{pairs:List (Nat×Nat)}{ops:List Oper}{sl:List SO}(h:drawOk pairs ops sl=true):∃R:Nat→Nat→Bool,(∀(i:Nat) o b,ops[i]? =some o→sl[i]? =some b→
    (∀p∈predsOf o,p<i)∧∀(j:Nat) a,j<i→sl[j]? =some a→
     (R i j=true∧∃p∈predsOf o,p=j∨(j<p∧R p j=true))∨(R i j=false∧slotClash a b=false∧(a.k.heapless=true∨b.k.heapless=true∨(j,i)∈pairs∨mkd pairs i=true)))∧
    ∀a,mkd pairs a=true→ExAt pairs ops sl R a:=by
 unfold drawOk at h
 rw[Bool.and_eq_true] at h
 refine⟨rel (masksOf ops []),fun i o b ho hb=>?_,fun a ha=>exOk_iff h.2 ha⟩
 have:=drawOkAt_iff h.1 i o b ho hb
 simp only[Nat.zero_add] at this
 refine⟨this.1,fun j a hj ha=>?_⟩
 have:=earlierOk_iff this.2 j a (by rw[List.getElem?_take_of_lt hj];exact ha)
 simpa using this
structure Trace (c:CallR) (G:Nat→Option (List PD)) (sl:List SO) (E:Nat→Env) (Hs:Nat→Hp) (d:Nat→D) (cs:Nat→Nat×Nat) (X:Nat→Bool):Prop where
 env:∀(j:Nat) so,sl[j]? =some so→E (j+1)=put so.dst (d j) (E j)
 step:∀(j:Nat) so,sl[j]? =some so→((X j=true∨evGuard (E j) so.g=some false)∧d j= .undef∧Hs (j+1)=Hs j∧cs j=(0,0))∨
  (evGuard (E j) so.g=some true∧evKC c G (E j) (Hs j) so.k=some (.val (d j),Hs (j+1))∧cs j=clsP (E j) (Hs j) (Hs (j+1)) so.k)
theorem evRest_trace{c:CallR}{pairs:List (Nat×Nat)}{k:Nat}:∀{sl:List SO} {i:Nat} {dead:List Nat} {env:Env} {H:Hp} {cs:List (Nat×Nat)},evRest c G pairs k i dead sl env H=some cs→
    ∃E Hs d X,E 0=env∧Hs 0=H∧Trace c G sl E Hs d (fun j=>cs.getD j (0,0)) X∧(∀j,isW (cs.getD j (0,0)).1=false)∧
     ∀(j:Nat) so,sl[j]? =some so→X j=true→(∃t,t∈so.uses∧(t∈dead∨∃j' so',j'<j∧X j'=true∧sl[j']? =some so'∧so'.dst=some t))∨(so.k.heapless=false∧(k,i+j)∉pairs)
 |[],i,dead,env,H,cs,h=>by
  simp only[evRest] at h
  cases h
  exact⟨fun _=>env,fun _=>H,fun _=>.undef,fun _=>false,rfl,rfl,⟨fun j so hs=>by simp at hs,fun j so hs=>by simp at hs⟩,fun j=>by simp[isW],fun j so hs=>by simp at hs⟩
 |o::sl,i,dead,env,H,cs,h=>by
  simp only[evRest] at h
  split at h
  ·rename_i hb
   obtain⟨cs1,hr,rfl⟩:=Option.map_eq_some_iff.1 h
   obtain⟨E,Hs,d,X,a1,a2,T,hw,hx⟩:=evRest_trace hr
   refine⟨fun j=>match j with | 0=>env |j+1=>E j,fun j=>match j with | 0=>H |j+1=>Hs j,fun j=>match j with | 0=>.undef |j+1=>d j,fun j=>match j with | 0=>true |j+1=>X j,rfl,rfl,⟨fun j so hs=>?_,fun j so hs=>?_⟩,fun j=>?_,fun j so hs hX=>?_⟩
   ·match j with
    | 0=>simp only[List.getElem?_cons_zero,Option.some.injEq] at hs;subst hs;exact a1
    |j+1=>exact T.env j so (by simpa using hs)
   ·match j with
    | 0=>exact .inl ⟨.inl rfl,rfl,a2,rfl⟩
    |j+1=>exact T.step j so (by simpa using hs)
   ·match j with
    | 0=>rfl
    |j+1=>exact hw j
   ·match j with
    | 0=>
     simp only[List.getElem?_cons_zero,Option.some.injEq] at hs;subst hs
     simp only[behind,Bool.or_eq_true,Bool.and_eq_true,Bool.not_eq_true',List.any_eq_true] at hb
     rcases hb with⟨t,ht,htd⟩ |⟨h1,h2⟩
     ·exact .inl ⟨t,ht,.inl (by simpa using htd)⟩
     ·exact .inr ⟨h1,by simpa using h2⟩
    |j+1=>
     rcases hx j so (by simpa using hs) hX with⟨t,ht,hd⟩ |⟨h1,h2⟩
     ·refine .inl ⟨t,ht,?_⟩
      rcases hd with hd |⟨j',so',q1,q2,q3,q4⟩
      ·rcases List.mem_append.1 hd with hd |hd
       ·exact .inr ⟨0,o,by omega,rfl,rfl,by simpa using hd⟩
       ·exact .inl hd
      ·exact .inr ⟨j'+1,so',by omega,q2,by simpa using q3,q4⟩
     ·exact .inr ⟨h1,by rw[show i+(j+1)=i+1+j by omega];exact h2⟩
  ·split at h
   ·rename_i hg
    split at h
    ·rename_i d0 H0 hd
     split at h
     ·cases h
     ·rename_i hnw
      obtain⟨cs1,hr,rfl⟩:=Option.map_eq_some_iff.1 h
      obtain⟨E,Hs,d,X,a1,a2,T,hw,hx⟩:=evRest_trace hr
      refine⟨fun j=>match j with | 0=>env |j+1=>E j,fun j=>match j with | 0=>H |j+1=>Hs j,fun j=>match j with | 0=>d0 |j+1=>d j,fun j=>match j with | 0=>false |j+1=>X j,rfl,rfl,⟨fun j so hs=>?_,fun j so hs=>?_⟩,fun j=>?_,fun j so hs hX=>?_⟩
      ·match j with
       | 0=>simp only[List.getElem?_cons_zero,Option.some.injEq] at hs;subst hs;exact a1
       |j+1=>exact T.env j so (by simpa using hs)
      ·match j with
       | 0=>
        simp only[List.getElem?_cons_zero,Option.some.injEq] at hs;subst hs
        refine .inr ⟨hg,?_,?_⟩
        ·simp only[a2];exact hd
        ·simp only[a2];rfl
       |j+1=>exact T.step j so (by simpa using hs)
      ·match j with
       | 0=>simpa using hnw
       |j+1=>exact hw j
      ·match j with
       | 0=>cases hX
       |j+1=>
        rcases hx j so (by simpa using hs) hX with⟨t,ht,hd⟩ |⟨h1,h2⟩
        ·refine .inl ⟨t,ht,?_⟩
         rcases hd with hd |⟨j',so',q1,q2,q3,q4⟩
         ·exact .inl hd
         ·exact .inr ⟨j'+1,so',by omega,q2,by simpa using q3,q4⟩
        ·exact .inr ⟨h1,by rw[show i+(j+1)=i+1+j by omega];exact h2⟩
    ·cases h
   ·rename_i hg
    obtain⟨cs1,hr,rfl⟩:=Option.map_eq_some_iff.1 h
    obtain⟨E,Hs,d,X,a1,a2,T,hw,hx⟩:=evRest_trace hr
    refine⟨fun j=>match j with | 0=>env |j+1=>E j,fun j=>match j with | 0=>H |j+1=>Hs j,fun j=>match j with | 0=>.undef |j+1=>d j,fun j=>match j with | 0=>false |j+1=>X j,rfl,rfl,⟨fun j so hs=>?_,fun j so hs=>?_⟩,fun j=>?_,fun j so hs hX=>?_⟩
    ·match j with
     | 0=>simp only[List.getElem?_cons_zero,Option.some.injEq] at hs;subst hs;exact a1
     |j+1=>exact T.env j so (by simpa using hs)
    ·match j with
     | 0=>
      simp only[List.getElem?_cons_zero,Option.some.injEq] at hs;subst hs
      exact .inl ⟨.inr hg,rfl,a2,rfl⟩
     |j+1=>exact T.step j so (by simpa using hs)
    ·match j with
     | 0=>rfl
     |j+1=>exact hw j
    ·match j with
     | 0=>cases hX
     |j+1=>
      rcases hx j so (by simpa using hs) hX with⟨t,ht,hd⟩ |⟨h1,h2⟩
      ·refine .inl ⟨t,ht,?_⟩
       rcases hd with hd |⟨j',so',q1,q2,q3,q4⟩
       ·exact .inl hd
       ·exact .inr ⟨j'+1,so',by omega,q2,by simpa using q3,q4⟩
      ·exact .inr ⟨h1,by rw[show i+(j+1)=i+1+j by omega];exact h2⟩
   ·cases h
theorem slotClash_use{a b:SO}{t:Nat}(ha:a.dst=some t)(hb:t∈b.uses):slotClash a b=true:=by
 simp[slotClash,ha,hb]
theorem evDrawP_trace{c:CallR}{pairs:List (Nat×Nat)}:∀{sl:List SO} {i:Nat} {env:Env} {H:Hp} {dv:D} {H':Hp} {cs:List (Nat×Nat)} {k:Nat},evDrawP c G pairs i sl env H=some (dv,H',cs,k)→
    ∃E Hs d X k0,k=i+k0∧E 0=env∧Hs 0=H∧Trace c G sl E Hs d (fun j=>cs.getD j (0,0)) X∧X k0=true∧(∀j,j<k0→X j=false)∧
     (∃so,sl[k0]? =some so∧evGuard (E k0) so.g=some true∧evKC c G (E k0) (Hs k0) so.k=some (.pan dv,H'))∧(∀j,k0<j→isW (cs.getD j (0,0)).1=false)∧
     ∀(j:Nat) so,sl[j]? =some so→X j=true→j≠k0→k0<j∧((∃j' so',j'<j∧X j'=true∧sl[j']? =some so'∧slotClash so' so=true)∨(so.k.heapless=false∧(k,i+j)∉pairs))
 |[],i,env,H,dv,H',cs,k,h=>by
  simp only[evDrawP] at h
  cases h
 |o::sl,i,env,H,dv,H',cs,k,h=>by
  have later:∀(v:D) (H0:Hp) (x:Nat×Nat) (cs1:List (Nat×Nat)),evDrawP c G pairs (i+1) sl (put o.dst v env) H0=some (dv,H',cs1,k)→cs=x::cs1→
      ((evGuard env o.g=some false∧v= .undef∧H0=H∧x=(0,0))∨(evGuard env o.g=some true∧evKC c G env H o.k=some (.val v,H0)∧x=clsP env H H0 o.k))→
      ∃E Hs d X k0,k=i+k0∧E 0=env∧Hs 0=H∧Trace c G (o::sl) E Hs d (fun j=>cs.getD j (0,0)) X∧X k0=true∧(∀j,j<k0→X j=false)∧
       (∃so,(o::sl)[k0]? =some so∧evGuard (E k0) so.g=some true∧evKC c G (E k0) (Hs k0) so.k=some (.pan dv,H'))∧(∀j,k0<j→isW (cs.getD j (0,0)).1=false)∧
       ∀(j:Nat) so,(o::sl)[j]? =some so→X j=true→j≠k0→k0<j∧((∃j' so',j'<j∧X j'=true∧(o::sl)[j']? =some so'∧slotClash so' so=true)∨(so.k.heapless=false∧(k,i+j)∉pairs)):=by
   intro v H0 x cs1 hr hcs hstep
   subst hcs
   obtain⟨E,Hs,d,X,k0,hk,a1,a2,T,b1,b2,⟨so,b3,b4,b5⟩,b6,b7⟩:=evDrawP_trace hr
   refine⟨fun j=>match j with | 0=>env |j+1=>E j,fun j=>match j with | 0=>H |j+1=>Hs j,fun j=>match j with | 0=>v |j+1=>d j,fun j=>match j with | 0=>false |j+1=>X j,k0+1,by omega,rfl,rfl,⟨fun j so hs=>?_,fun j so hs=>?_⟩,b1,fun j hj=>?_,⟨so,by simpa using b3,b4,b5⟩,fun j hj=>?_,fun j so hs hX hne=>?_⟩
   ·match j with
    | 0=>simp only[List.getElem?_cons_zero,Option.some.injEq] at hs;subst hs;exact a1
    |j+1=>exact T.env j so (by simpa using hs)
   ·match j with
    | 0=>
     simp only[List.getElem?_cons_zero,Option.some.injEq] at hs;subst hs
     rcases hstep with⟨h1,h2,h3,h4⟩ |⟨h1,h2,h3⟩
     ·exact .inl ⟨.inr h1,h2,a2.trans h3,h4⟩
     ·refine .inr ⟨h1,?_,?_⟩
      ·simp only[a2];exact h2
      ·simp only[a2];exact h3
    |j+1=>exact T.step j so (by simpa using hs)
   ·match j with
    | 0=>rfl
    |j+1=>exact b2 j (by omega)
   ·match j with
    | 0=>omega
    |j+1=>exact b6 j (by omega)
   ·match j with
    | 0=>cases hX
    |j+1=>
     obtain⟨c1,c2⟩:=b7 j so (by simpa using hs) hX (by omega)
     refine⟨by omega,?_⟩
     rcases c2 with⟨j',so',q1,q2,q3,q4⟩ |⟨q1,q2⟩
     ·exact .inl ⟨j'+1,so',by omega,q2,by simpa using q3,q4⟩
     ·exact .inr ⟨q1,by rw[show i+(j+1)=i+1+j by omega];exact q2⟩
  simp only[evDrawP] at h
  split at h
  ·rename_i hg
   split at h
   ·rename_i d0 H0 hd
    obtain⟨⟨dv1,H1,cs1,k1⟩,hr,hh⟩:=Option.map_eq_some_iff.1 h
    simp only[Prod.mk.injEq] at hh
    obtain⟨rfl,rfl,rfl,rfl⟩:=hh
    exact later d0 H0 _ cs1 hr rfl (.inr ⟨hg,hd,rfl⟩)
   ·rename_i d0 H0 hd
    obtain⟨cs1,hr,hh⟩:=Option.map_eq_some_iff.1 h
    simp only[Prod.mk.injEq] at hh
    obtain⟨rfl,rfl,rfl,rfl⟩:=hh
    obtain⟨E,Hs,d,X,a1,a2,T,hw,hx⟩:=evRest_trace hr
    refine⟨fun j=>match j with | 0=>env |j+1=>E j,fun j=>match j with | 0=>H |j+1=>Hs j,fun j=>match j with | 0=>.undef |j+1=>d j,fun j=>match j with | 0=>true |j+1=>X j,0,rfl,rfl,rfl,⟨fun j so hs=>?_,fun j so hs=>?_⟩,rfl,fun j hj=>by omega,⟨o,rfl,hg,hd⟩,fun j hj=>?_,fun j so hs hX hne=>?_⟩
    ·match j with
     | 0=>simp only[List.getElem?_cons_zero,Option.some.injEq] at hs;subst hs;exact a1
     |j+1=>exact T.env j so (by simpa using hs)
    ·match j with
     | 0=>exact .inl ⟨.inl rfl,rfl,a2,rfl⟩
     |j+1=>exact T.step j so (by simpa using hs)
    ·match j with
     | 0=>omega
     |j+1=>exact hw j
    ·match j with
     | 0=>exact absurd rfl hne
     |j+1=>
      refine⟨by omega,?_⟩
      rcases hx j so (by simpa using hs) hX with⟨t,ht,hd⟩ |⟨h1,h2⟩
      ·rcases hd with hd |⟨j',so',q1,q2,q3,q4⟩
       ·exact .inl ⟨0,o,by omega,rfl,rfl,slotClash_use (by simpa using hd) ht⟩
       ·exact .inl ⟨j'+1,so',by omega,q2,by simpa using q3,slotClash_use q4 ht⟩
      ·exact .inr ⟨h1,by rw[show i+(j+1)=i+1+j by omega];exact h2⟩
   ·cases h
  ·rename_i hg
   obtain⟨⟨dv1,H1,cs1,k1⟩,hr,hh⟩:=Option.map_eq_some_iff.1 h
   simp only[Prod.mk.injEq] at hh
   obtain⟨rfl,rfl,rfl,rfl⟩:=hh
   exact later .undef H _ cs1 hr rfl (.inl ⟨hg,rfl,rfl,rfl⟩)
  ·cases h
theorem evDraw_trace{c:CallR}:∀{sl:List SO} {env:Env} {H:Hp} {e':Env} {H':Hp} {cs:List (Nat×Nat)},evDraw c G sl env H=some (e',H',cs)→
    ∃E Hs d,E 0=env∧Hs 0=H∧E sl.length=e'∧Hs sl.length=H'∧Trace c G sl E Hs d (fun j=>cs.getD j (0,0)) (fun _=>false)
 |[],env,H,e',H',cs,h=>by
  simp only[evDraw] at h
  cases h
  exact⟨fun _=>env,fun _=>H,fun _=>.undef,rfl,rfl,rfl,rfl,fun j so hs=>by simp at hs,fun j so hs=>by simp at hs⟩
 |o::sl,env,H,e',H',cs,h=>by
  simp only[evDraw] at h
  split at h
  ·rename_i hg
   split at h
   ·rename_i d0 H0 hd
    split at h
    ·rename_i e1 h1 cs1 hr
     cases h
     obtain⟨E,Hs,d,a1,a2,a3,a4,T⟩:=evDraw_trace hr
     refine⟨fun j=>match j with | 0=>env |j+1=>E j,fun j=>match j with | 0=>H |j+1=>Hs j,fun j=>match j with | 0=>d0 |j+1=>d j,rfl,rfl,a3,a4,⟨fun j so hs=>?_,fun j so hs=>?_⟩⟩
     ·match j with
      | 0=>simp only[List.getElem?_cons_zero,Option.some.injEq] at hs;subst hs;exact a1
      |j+1=>exact T.env j so (by simpa using hs)
     ·match j with
      | 0=>
       simp only[List.getElem?_cons_zero,Option.some.injEq] at hs;subst hs
       refine .inr ⟨hg,?_,?_⟩
       ·simp only[a2];exact hd
       ·simp only[a2];rfl
      |j+1=>exact T.step j so (by simpa using hs)
    ·cases h
   ·cases h
  ·rename_i hg
   split at h
   ·rename_i e1 h1 cs1 hr
    cases h
    obtain⟨E,Hs,d,a1,a2,a3,a4,T⟩:=evDraw_trace hr
    refine⟨fun j=>match j with | 0=>env |j+1=>E j,fun j=>match j with | 0=>H |j+1=>Hs j,fun j=>match j with | 0=>.undef |j+1=>d j,rfl,rfl,a3,a4,⟨fun j so hs=>?_,fun j so hs=>?_⟩⟩
    ·match j with
     | 0=>simp only[List.getElem?_cons_zero,Option.some.injEq] at hs;subst hs;exact a1
     |j+1=>exact T.env j so (by simpa using hs)
    ·match j with
     | 0=>
      simp only[List.getElem?_cons_zero,Option.some.injEq] at hs;subst hs
      exact .inl ⟨.inr hg,rfl,a2,rfl⟩
     |j+1=>exact T.step j so (by simpa using hs)
   ·cases h
  ·cases h
theorem cls_le(e:Env)(k:SK):cls e k≤2:=by
 cases k<;>simp only[cls]<;>(try split)<;>omega
theorem cls_one{c:CallR}{e:Env}{H H':Hp}{k:SK}{d:D}(he:evKC c G e H k=some (.val d,H'))(hc:cls e k=1):H'=H:=by
 have hlen:H'.bx.length=H.bx.length:=by
  cases k<;>first |(exfalso;simp only[cls] at hc;omega) |skip
  ·rename_i n x
   rw[evKC_plain rfl] at he
   split at he
   ·rename_i hd
    cases he
    simp only[evK] at hd
    obtain⟨_,_,hh⟩:=Option.map_eq_some_iff.1 hd
    cases hh
    rfl
   ·cases he
  ·rw[evKC_plain rfl] at he
   split at he
   ·rename_i hd
    cases he
    simp only[evK] at hd
    obtain⟨_,_,hh⟩:=Option.map_eq_some_iff.1 hd
    cases hh
    rfl
   ·cases he
  ·rw[evKC_plain rfl] at he
   split at he
   ·rename_i hd
    cases he
    simp only[evK] at hd
    unfold ustrD at hd
    split at hd
    ·split at hd
     ·split at hd<;>cases hd;rfl
     ·split at hd<;>cases hd;rfl
     ·split at hd
      ·obtain⟨_,_,hh⟩:=Option.map_eq_some_iff.1 hd
       cases hh;rfl
      ·cases hd
     ·cases hd
    ·cases hd
   ·cases he
  ·rw[evKC_plain rfl] at he
   split at he
   ·rename_i hd
    cases he
    simp only[evK] at hd
    obtain⟨_,_,hh⟩:=Option.map_eq_some_iff.1 hd
    cases hh
    rfl
   ·cases he
  ·rw[evKC_plain rfl] at he
   split at he
   ·rename_i hd
    cases he
    simp only[evK] at hd
    split at hd
    ·obtain⟨_,_,hh⟩:=Option.map_eq_some_iff.1 hd
     cases hh;rfl
    ·cases hd
   ·cases he
  ·exfalso
   simp only[cls] at hc
   split at hc<;>omega
 exact(evKC_same he (by omega) hlen).1
theorem isW_write(i:Nat):isW (4+2*i)=true:=by
 simp only[isW,Bool.or_eq_true,Bool.and_eq_true,decide_eq_true_eq,beq_iff_eq]
 omega
def SK.appI(e:Env):SK→Option Nat
 | .appendg _ _ _ s _=>match s.ev e with
  | .gsl i _ _ _ | .msl i _ _ _ _=>some i
  |_=>none
 |_=>none
def SK.isNew(e:Env):SK→Bool
 | .alloc _ | .box _ | .mkmap _ | .bsliceG _ _ _ _ _ | .makesl _ _ _ _ _=>true
 | .appendg a b c s x=>(SK.appI e (.appendg a b c s x)).isNone
 |_=>false
theorem isNew_app{e:Env}{H H':Hp}{k:SK}{d:D}(hk:k.isNew e=true)(h:evK G e H k=some (d,H')):(∃x,H'.bx=H.bx++[x])∨H'.bx=H.bx:=by
 cases k<;>first |(cases hk;done) |skip
 ·simp only[evK] at h;split at h<;>cases h;exact .inl ⟨_,rfl⟩
 ·simp only[evK] at h;split at h<;>cases h;exact .inl ⟨_,rfl⟩
 ·rename_i el sz by_ s x
  simp only[SK.isNew,SK.appI] at hk
  simp only[evK] at h
  split at h
  ·rename_i m xs hs
   unfold appendgD at h
   split at h
   ·rename_i hv;rw[hv] at hk;cases hk
   ·rename_i hv;rw[hv] at hk;cases hk
   ·split at h
    ·split at h
     ·cases h;exact .inr rfl
     ·split at h
      ·cases h;exact .inl ⟨_,rfl⟩
      ·cases h
    ·cases h
  ·cases h
 ·simp only[evK] at h;cases h;exact .inl ⟨_,rfl⟩
 ·simp only[evK] at h
  unfold makeslD at h
  split at h
  ·split at h
   ·cases h;exact .inl ⟨_,rfl⟩
   ·cases h
  ·cases h
 ·simp only[evK] at h
  split at h
  ·obtain⟨cs,_,hh⟩:=Option.map_eq_some_iff.1 h
   cases hh;exact .inl ⟨_,rfl⟩
  ·cases h
theorem appI_bx{e:Env}{H H':Hp}{k:SK}{d:D}{i:Nat}(hk:k.appI e=some i)(h:evK G e H k=some (d,H')){b:Nat}(hb:b≠i)(hl:b<H.bx.length):H'.bx[b]? =H.bx[b]?:=by
 unfold SK.appI at hk
 split at hk
 ·rename_i el sz by_ s x
  simp only[evK] at h
  split at h
  ·rename_i m xs hs
   split at hk
   ·rename_i i' e' n' sz' hv
    cases hk
    simp only[hv,appendgD] at h
    split at h
    ·split at h
     ·cases h;rfl
     ·split at h
      ·split at h
       ·split at h
        ·cases h
         show(H.bx.set i _)[b]? =_
         rw[List.getElem?_set_ne (Ne.symm hb)]
        ·split at h
         ·cases h
          show(H.bx.set i []++_)[b]? =_
          rw[List.getElem?_append_left (by simpa using hl),List.getElem?_set_ne (Ne.symm hb)]
         ·cases h
       ·cases h
      ·cases h
    ·cases h
   ·rename_i i' off n' cap' sz' hv
    cases hk
    simp only[hv] at h
    cases cap' with
    |none=>simp only[appendgD,fullD] at h;cases h
    |some c=>
     simp only[appendgD] at h
     split at h
     ·split at h
      ·cases h;rfl
      ·split at h
       ·split at h
        ·split at h
         ·split at h
          ·cases h
           show(H.bx.set i _)[b]? =_
           rw[List.getElem?_set_ne (Ne.symm hb)]
          ·cases h
         ·split at h
          ·cases h
           show(H.bx++_)[b]? =_
           rw[List.getElem?_append_left hl]
          ·cases h
        ·cases h
       ·cases h
     ·cases h
   ·cases hk
  ·cases h
 ·cases hk
theorem clsR_cases(l:Nat)(e:Env)(k:SK):clsR l e k=(cls e k,0)∨(∃n x i o,k= .load n x∧x.ev e= .box i o∧cls e k=1∧clsR l e k=(3+2*i,0))∨(∃n a v i o,k= .store n a v∧a.ev e= .box i o∧cls e k=2∧clsR l e k=(4+2*i,0))∨
    (∃g z ok m kk i,k= .mapget g z ok m kk∧m.ev e= .mapr i∧cls e k=1∧clsR l e k=(3+2*i,0))∨(k.isNew e=true∧cls e k=2∧clsR l e k=(4+2*l,0))∨
    (∃kd m kk v i q,k= .mapins kd m kk v∧m.ev e= .mapr i∧kk.ev e= .p q∧i<2000000000∧clsR l e k=(4+2*i,keyCode q+1))∨
    (∃el sz by_ s x,k= .append el sz by_ s x∧clsR l e k=(4+2*1000000007,0))∨
    (∃i,k.appI e=some i∧l<1000000∧clsR l e k=(4+2*(4000000000+i*1000000+l),0)):=by
 by_cases hap:∃a b c s x,k= .appendg a b c s x
 ·obtain⟨a,b,c,s,x,rfl⟩:=hap
  have key:∀i,SK.appI e (.appendg a b c s x)=some i→clsR l e (.appendg a b c s x)=if l<1000000 then(4+2*(4000000000+i*1000000+l),0) else(2,0):=by
   intro i hi
   simp only[SK.appI] at hi
   simp only[clsR]
   split at hi
   ·rename_i hv;cases hi;rw[hv]
   ·rename_i hv;cases hi;rw[hv]
   ·cases hi
  cases hi:SK.appI e (.appendg a b c s x) with
  |some i=>
   by_cases hl:l<1000000
   ·exact .inr (.inr (.inr (.inr (.inr (.inr (.inr ⟨i,rfl,hl,by rw[key i hi,if_pos hl]⟩))))))
   ·exact .inl (by rw[key i hi,if_neg hl];rfl)
  |none=>
   refine .inr (.inr (.inr (.inr (.inl ⟨by simp[SK.isNew,hi],rfl,?_⟩))))
   simp only[SK.appI] at hi
   simp only[clsR]
   split at hi
   ·cases hi
   ·cases hi
   ·rename_i h1 h2
    split
    ·rename_i hv;exact(h1 _ _ _ _ hv).elim
    ·rename_i hv;exact(h2 _ _ _ _ _ hv).elim
    ·rfl
 cases k<;>first |exact absurd ⟨_,_,_,_,_,rfl⟩ hap |exact .inr (.inr (.inr (.inr (.inr (.inr (.inl ⟨_,_,_,_,_,rfl,rfl⟩)))))) |exact .inr (.inr (.inr (.inr (.inl ⟨rfl,rfl,rfl⟩)))) |(exact .inl rfl) |skip
 ·rename_i n x
  cases hx:x.ev e with
  |box i o=>exact .inr (.inl ⟨n,x,i,o,rfl,hx,by simp only[cls,hx],by simp only[clsR,hx]⟩)
  |_=>exact .inl (by simp only[clsR,hx])
 ·rename_i n a v
  cases hx:a.ev e with
  |box i o=>exact .inr (.inr (.inl ⟨n,a,v,i,o,rfl,hx,rfl,by simp only[clsR,hx]⟩))
  |_=>exact .inl (by simp only[clsR,hx])
 ·rename_i kd m kk v
  cases hx:m.ev e with
  |mapr i=>
   cases hy:kk.ev e with
   |p q=>
    by_cases hi:i<2000000000
    ·exact .inr (.inr (.inr (.inr (.inr (.inl ⟨kd,m,kk,v,i,q,rfl,hx,hy,hi,by simp only[clsR,hx,hy,hi,if_true]⟩)))))
    ·exact .inl (by simp only[clsR,hx,hy,hi,if_false];rfl)
   |_=>exact .inl (by simp only[clsR,hx,hy])
  |_=>exact .inl (by simp only[clsR,hx])
 ·rename_i g z ok m kk
  cases hx:m.ev e with
  |mapr i=>exact .inr (.inr (.inr (.inl ⟨g,z,ok,m,kk,i,rfl,hx,rfl,by simp only[clsR,hx]⟩)))
  |_=>exact .inl (by simp only[clsR,hx])
theorem clsP_cases(e:Env)(H H':Hp)(k:SK):(cls e k=0∧H'.bx.length=H.bx.length∧clsP e H H' k=(0,0))∨((cls e k=0∨H'.bx.take H.bx.length=H.bx)∧∃m,isW m=true∧(m=2∨(m=4+2*H.bx.length∧H'.bx.length=H.bx.length+1))∧clsP e H H' k=(m,0))∨(cls e k≠0∧clsP e H H' k=clsR H.bx.length e k)∨(H'=H∧(clsP e H H' k=(1,0)∨∃i,callOne e H k=some i∧clsP e H H' k=(3+2*i,0)))∨(k.isCall=true∧isCl k=true∧(H'.bx.length=H.bx.length∧bnd (callIds e H k)<2000000000)∧clsP e H H' k=(4+2*(2000000000+bnd (callIds e H k)),0)):=by
 unfold clsP
 split
 ·rename_i h
  split
  ·rename_i h2;exact .inl ⟨h,h2,rfl⟩
  ·split
   ·rename_i h3
    exact .inr (.inl ⟨.inl h,_,by simp[isW],.inr ⟨rfl,h3⟩,rfl⟩)
   ·exact .inr (.inl ⟨.inl h,2,rfl,.inl rfl,rfl⟩)
 ·rename_i h
  split
  ·rename_i h2
   rw[Bool.and_eq_true] at h2
   refine .inr (.inr (.inr (.inl ⟨hpEq_eq h2.2,?_⟩)))
   cases hc:callOne e H k with
   |none=>exact .inl rfl
   |some i=>exact .inr ⟨i,rfl,rfl⟩
  ·split
   ·rename_i h3
    rw[Bool.and_eq_true] at h3
    refine .inr (.inr (.inr (.inr ⟨?_,h3.1,by simpa using h3.2,rfl⟩)))
    cases k<;>first |rfl |cases h3.1
   ·exact .inr (.inr (.inl ⟨h,rfl⟩))
theorem cls_heapless{e:Env}{k:SK}(h:k.heapless=true):cls e k=0:=by
 cases k<;>first |rfl |cases h
theorem isW_read'(i:Nat):isW (3+2*i)=false:=by
 simp[isW];omega
theorem evKC_pre{c:CallR}{e:Env}{H H':Hp}{k:SK}{d:D}(he:evKC c G e H k=some (.val d,H'))(hc:cls e k=0):H'.bx.take H.bx.length=H.bx:=by
 have same:H'=H→H'.bx.take H.bx.length=H.bx:=fun h=>by rw[h];simp
 by_cases hl:H'.bx.length=H.bx.length
 ·exact same (evKC_same he (by omega) hl).1
 by_cases hp:∃x,k= .panic x
 ·obtain⟨x,rfl⟩:=hp
  simp only[cls] at hc
  omega
 by_cases hk:k.isCall=true
 ·cases k<;>first |(cases hk;done) |(exact absurd ⟨_,rfl⟩ hp) |skip
  rename_i f as
  simp only[evKC] at he
  unfold callV at he
  split at he
  ·rename_i g first cap hg
   have href:D.refsL (first++List.map (fun x=>Opd.ev e x) as++cap)=[]:=by
    simp only[cls] at hc
    split at hc
    ·rename_i hr
     simp only[Bool.and_eq_true,List.isEmpty_iff] at hr
     have:=hr.1
     have app:∀x y:List D,D.refsL (x++y)=D.refsL x++D.refsL y:=by
      intro x y
      induction x with
      |nil=>simp[D.refsL]
      |cons d x ih=>simp[D.refsL,ih]
     rw[hg] at this
     simp only[D.refsL,D.refs,List.append_eq_nil_iff] at this
     rw[app,app,this.1.1,this.1.2,this.2]
     rfl
    ·omega
   have hreach:∀n,reach H n []=[]:=by
    intro n
    cases n<;>simp[reach,boxRefs]
   unfold callD at he
   dsimp only at he
   simp only[href,ins,hreach] at he
   split at he
   ·split at he
    ·split at he
     ·unfold back at he
      split at he
      ·dsimp only at he
       split at he
       ·cases he
        simp[putAll]
       ·split at he
        ·cases he
         simp[putAll]
        ·cases he
      ·cases he
     ·cases he
    ·cases he
   ·cases he
  ·cases he
 ·have hk:k.isCall=false:=by simpa using hk
  refine absurd ?_ hl
  rw[evKC_plain hk] at he
  split at he
  ·rename_i d0 H0 hd
   cases he
   by_cases hl':k.heapless=true
   ·have q:=evK_heapless (G:=G) (e:=e) hl' H
    rw[q] at hd
    obtain⟨x,hx,hh⟩:=Option.map_eq_some_iff.1 hd
    cases hh
    rfl
   ·cases k<;>first |(exact absurd rfl hl') |(exfalso;simp only[cls] at hc;omega) |(exfalso;cases hk;done) |skip
    all_goals
     simp only[evK] at hd
     first
      |(obtain⟨d',hd',hh⟩:=Option.map_eq_some_iff.1 hd
        cases hh;rfl)
      |(split at hd
        ·obtain⟨s,hs,hh⟩:=Option.map_eq_some_iff.1 hd
         cases hh;rfl
        ·cases hd)
  ·cases he
theorem ins_one{i:Nat}:∀(l:List Nat),ins [i] l=[i]→∀x∈l,x=i
 |[],_,x,hx=>by simp at hx
 |a::l,h,x,hx=>by
  have key:∀(l m:List Nat),m.length≤(ins m l).length:=by
   intro l
   induction l with
   |nil=>intro m;exact Nat.le_refl _
   |cons a l ih=>
    intro m
    simp only[ins]
    split
    ·exact ih m
    ·exact Nat.le_trans (by simp) (ih _)
  simp only[ins] at h
  split at h
  ·rename_i hc
   have ha:a=i:=by simpa using hc
   rcases List.mem_cons.1 hx with rfl |hx
   ·exact ha
   ·exact ins_one l h x hx
  ·have:=key l ([i]++[a])
   rw[h] at this
   simp at this
theorem ins_one'{i:Nat}:∀(l:List Nat),(∀x∈l,x=i)→ins [i] l=[i]
 |[],_=>rfl
 |a::l,h=>by
  have :a=i:=h a (by simp)
  subst this
  simp only[ins]
  rw[if_pos (by simp)]
  exact ins_one' l fun x hx=>h x (by simp[hx])
theorem ins_pre:∀(l m:List Nat),∃r,ins m l=m++r
 |[],m=>⟨[],by simp[ins]⟩
 |a::l,m=>by
  simp only[ins]
  split
  ·exact ins_pre l m
  ·obtain⟨r,hr⟩:=ins_pre l (m++[a])
   exact⟨[a]++r,by rw[hr];simp⟩
theorem reach_pre(H:Hp):∀(n:Nat) (m:List Nat),∃r,reach H n m=m++r
 | 0,m=>⟨[],by simp[reach]⟩
 |n+1,m=>by
  simp only[reach]
  split
  ·exact⟨[],by simp⟩
  ·rename_i new _
   obtain⟨r,hr⟩:=ins_pre (boxRefs H m) m
   obtain⟨r',hr'⟩:=reach_pre H n (ins m (boxRefs H m))
   exact⟨r++r',by rw[hr',hr];simp⟩
theorem reach_nil(H:Hp):∀n,reach H n []=[]
 | 0=>rfl
 |n+1=>by simp[reach,boxRefs]
theorem reach_one{H H2:Hp}{i:Nat}{l:List Nat}{n:Nat}(hb:H2.bx[i]? =H.bx[i]?)(h:reach H n l=[i])(hn:0<n∨True)(m:Nat)(hm:n=0→∀x∈boxRefs H [i],x=i):l=[i]∧reach H2 m l=[i]:=by
 have _:=hn
 have hl:l=[i]:=by
  obtain⟨r,hr⟩:=reach_pre H n l
  rw[h] at hr
  cases l with
  |nil=>rw[reach_nil] at h;cases h
  |cons a l=>
   simp only[List.cons_append,List.cons.injEq] at hr
   obtain⟨rfl,hr⟩:=hr
   have :l=[]:=by
    cases l with
    |nil=>rfl
    |cons b l=>simp at hr
   rw[this]
 subst hl
 refine⟨rfl,?_⟩
 have hr:∀x∈boxRefs H [i],x=i:=by
  cases n with
  |zero=>exact hm rfl
  |succ n=>
   simp only[reach] at h
   split at h
   ·rename_i he;rw[he];simp
   ·obtain⟨r,hr⟩:=reach_pre H n (ins [i] (boxRefs H [i]))
    obtain⟨r',hr'⟩:=ins_pre (boxRefs H [i]) [i]
    rw[h] at hr
    refine ins_one _ ?_
    rw[hr'] at hr⊢
    have :r'=[]:=by
     cases r' with
     |nil=>rfl
     |cons b l=>simp at hr
    rw[this];rfl
 have hb2:boxRefs H2 [i]=boxRefs H [i]:=by simp only[boxRefs,hb]
 induction m with
 |zero=>rfl
 |succ m ih=>
  simp only[reach]
  split
  ·rfl
  ·rename_i he
   rw[hb2,ins_one' _ hr]
   exact ih
theorem putAll_len1{α:Type}:∀(is:List Nat) (xs l:List α),(putAll l is xs).length=l.length
 |[],xs,l=>by cases xs<;>simp[putAll]
 |i::is,[],l=>by simp[putAll]
 |i::is,x::xs,l=>by simp only[putAll];rw[putAll_len1 is xs];simp
theorem back_one{H H2:Hp}{i:Nat}{r r':Res}{H':Hp}(h:back [i] [] H r H'=some (r',H))(hi:i<H.bx.length)(hb:H2.bx[i]? =H.bx[i]?):back [i] [] H2 r H'=some (r',H2):=by
 unfold back at h⊢
 generalize firstN H'.bx [i].length=o1 at h⊢
 generalize firstN H'.tk ([]:List Nat).length=o2 at h⊢
 cases o1 with
 |none=>cases h
 |some bx=>
  cases o2 with
  |none=>cases h
  |some tk=>
   dsimp only at h⊢
   generalize r.ren (fun j=>[i][j]?) (fun t=>([]:List Nat)[t]?)=o3 at h⊢
   generalize mapO (D.renL (fun j=>[i][j]?) fun t=>([]:List Nat)[t]?) bx=o4 at h⊢
   cases o3 with
   |none=>
    exfalso
    cases o4<;>dsimp only at h<;>split at h<;>first
     |(cases h;done)
     |(simp only[Option.some.injEq,Prod.mk.injEq] at h
       have e1:=congrArg (fun x=>x.bx.length) h.2
       simp only[List.length_append,putAll_len1,List.length_cons] at e1
       omega)
   |some r1=>
    cases o4 with
    |none=>
     exfalso
     dsimp only at h
     split at h
     ·simp only[Option.some.injEq,Prod.mk.injEq] at h
      have e1:=congrArg (fun x=>x.bx.length) h.2
      simp only[List.length_append,putAll_len1,List.length_cons] at e1
      omega
     ·cases h
    |some bx1=>
     simp only[Option.some.injEq,Prod.mk.injEq] at h⊢
     obtain⟨rfl,hH⟩:=h
     refine⟨rfl,?_⟩
     have e1:putAll H.bx [i] bx1=H.bx:=congrArg Hp.bx hH
     have e3:putAll H2.tk [] tk=H2.tk:=by simp[putAll]
     rw[e3]
     cases bx1 with
     |nil=>simp[putAll]
     |cons x l=>
      have q:∀(L:List (List D)),putAll L [i] (x::l)=L.set i x:=fun L=>by cases l<;>simp[putAll]
      rw[q] at e1
      rw[q]
      have hx:H.bx[i]? =some x:=by
       rw[←e1,List.getElem?_set_self hi]
      have hx2:H2.bx[i]? =some x:=hb.trans hx
      have hlt:i<H2.bx.length:=(List.getElem?_eq_some_iff.1 hx2).1
      have :H2.bx.set i x=H2.bx:=by
       refine List.ext_getElem? fun k=>?_
       by_cases hk:i=k
       ·subst hk;rw[List.getElem?_set_self hlt,hx2]
       ·rw[List.getElem?_set_ne hk]
      rw[this]
theorem call_one{c:CallR}{e:Env}{H H2:Hp}{k:SK}{d:D}{i:Nat}(he:evKC c G e H k=some (.val d,H))(hc:callOne e H k=some i)(hb:H2.bx[i]? =H.bx[i]?):evKC c G e H2 k=some (.val d,H2):=by
 cases k<;>first |(simp[callOne] at hc;done) |skip
 rename_i f as
 simp only[evKC,callV] at he⊢
 simp only[callOne] at hc
 split at hc
 ·rename_i g first cap hg
  rw[hg] at he
  dsimp only at he
  split at hc
  ·rename_i j hids htk
   cases hc
   rw[hids] at htk
   have hlt:i<H.bx.length:=by
    have hm:i∈reach H H.bx.length (ins [] (D.refsL (first++as.map (·.ev e)++cap))):=by rw[hids];simp
    unfold callD at he
    dsimp only at he
    rw[hids] at he
    split at he
    ·split at he
     ·rename_i h1 h2 h3
      cases hbx:H.bx[i]? with
      |none=>simp[mapO,hbx] at h2
      |some x=>exact(List.getElem?_eq_some_iff.1 hbx).1
     ·cases he
    ·cases he
   obtain⟨hl,hids2⟩:=reach_one hb hids (.inr trivial) H2.bx.length (fun h0=>by omega)
   have htk2:D.toksL (first++as.map (·.ev e)++cap)++boxToks H2 [i]=[]:=by
    have :boxToks H2 [i]=boxToks H [i]:=by simp only[boxToks,hb]
    rw[this];exact htk
   unfold callD at he⊢
   dsimp only at he⊢
   rw[hids,htk] at he
   rw[hids2,htk2]
   have hnd:(Vs.nodupB [i]&&Vs.nodupB (ins [] []))=true:=by simp[Vs.nodupB,ins]
   rw[if_pos hnd] at he⊢
   split at he
   ·rename_i as' bx tk h1 h2 h3
    have h2':mapO (fun i_1=>match H2.bx[i_1]? with |some cs=>D.renL (idx [i]) (idx (ins [] [])) cs |none=>none) [i]=some bx:=by
     rw[←h2]
     simp only[mapO,hb]
     rfl
    have h3':mapO (fun t=>H2.tk[t]?) (ins [] [])=some tk:=by
     rw[←h3];rfl
    split at he
    ·rename_i r H' hco
     split
     ·rename_i a2 b2 t2 g1 g2 g3
      have q1:a2=as':=Option.some.inj (g1.symm.trans h1)
      have q2:b2=bx:=Option.some.inj (g2.symm.trans h2')
      have q3:t2=tk:=Option.some.inj (g3.symm.trans h3')
      subst q1;subst q2;subst q3
      simp only[hco]
      exact back_one he hlt hb
     ·rename_i hno
      exact(hno _ _ _ h1 h2' h3').elim
    ·cases he
   ·cases he
  ·cases hc
 ·cases hc
section
variable {c : CallR} {sl : List SO} {E : Nat → Env} {Hs : Nat → Hp} {d : Nat → D} {cs : Nat → Nat × Nat} {X : Nat → Bool}
theorem Trace.quiet(T:Trace c G sl E Hs d cs X){j:Nat}{so:SO}(hs:sl[j]? =some so)(h:isW (cs j).1=false):Hs (j+1)=Hs j:=by
 rcases T.step j so hs with⟨_,_,h1,_⟩ |⟨_,h1,h2⟩
 ·exact h1
 ·have:=cls_le (E j) so.k
  rcases clsP_cases (E j) (Hs j) (Hs (j+1)) so.k with⟨hc,hl,_⟩ |⟨_,m,hm,_,q⟩ |⟨hc,q⟩ |⟨q,_⟩ |⟨_,_,_,q⟩
  ·exact(evKC_same h1 (by omega) hl).1
  ·rw[h2,q] at h;rw[hm] at h;cases h
  rotate_left
  ·exact q
  ·rw[h2,q,isW_write] at h;cases h
  ·rw[q] at h2
   rcases clsR_cases (Hs j).bx.length (E j) so.k with q |⟨_,_,_,_,_,_,q,_⟩ |⟨_,_,_,i,_,_,_,_,q⟩ |⟨_,_,_,_,_,_,_,_,q,_⟩ |⟨_,_,q⟩ |⟨_,_,_,_,_,_,_,_,_,_,q⟩ |⟨_,_,_,_,_,_,q⟩ |⟨_,_,_,q⟩
   ·rw[h2,q] at h
    have hne:cls (E j) so.k≠2:=fun e=>by rw[e] at h;cases h
    exact cls_one h1 (by omega)
   ·exact cls_one h1 q
   ·rw[h2,q,isW_write] at h;cases h
   ·exact cls_one h1 q
   ·rw[h2,q,isW_write] at h;cases h
   ·rw[h2,q,isW_write] at h;cases h
   ·rw[h2,q,isW_write] at h;cases h
   ·rw[h2,q,isW_write] at h;cases h
theorem Trace.free(T:Trace c G sl E Hs d cs X){j:Nat}{so:SO}(hs:sl[j]? =some so)(hx:X j=false)(h:(cs j).1=0)(hg:evGuard (E j) so.g=some true)(H2:Hp):evKC c G (E j) H2 so.k=some (.val (d j),H2):=by
 rcases T.step j so hs with⟨h0,_,_,_⟩ |⟨_,h1,h2⟩
 ·rcases h0 with h0 |h0
  ·rw[h0] at hx;cases hx
  ·rw[h0] at hg;cases hg
 ·rcases clsP_cases (E j) (Hs j) (Hs (j+1)) so.k with⟨hc,hl,_⟩ |⟨_,m,hm,_,q⟩ |⟨hc,q⟩ |⟨_,q⟩ |⟨hkc,hcl,hlen,q⟩
  ·exact(evKC_same h1 (by omega) hl).2 hc H2
  ·rw[h2,q] at h;dsimp only at h;rw[h] at hm;cases hm
  rotate_left
  ·rcases q with q |⟨_,_,q⟩<;>rw[h2,q] at h<;>dsimp only at h<;>omega
  ·rw[h2,q] at h;dsimp only at h;omega
  ·rw[q] at h2
   rcases clsR_cases (Hs j).bx.length (E j) so.k with q |⟨_,_,_,_,_,_,_,q⟩ |⟨_,_,_,_,_,_,_,_,q⟩ |⟨_,_,_,_,_,_,_,_,_,q⟩ |⟨_,_,q⟩ |⟨_,_,_,_,_,_,_,_,_,_,q⟩ |⟨_,_,_,_,_,_,q⟩ |⟨_,_,_,q⟩<;>rw[h2,q] at h<;>dsimp only at h<;>omega
theorem Trace.readBox(T:Trace c G sl E Hs d cs X){j b:Nat}{so:SO}(hs:sl[j]? =some so)(hx:X j=false)(h:(cs j).1=3+2*b)(hg:evGuard (E j) so.g=some true){H2:Hp}(hb:H2.bx[b]? =(Hs j).bx[b]?):evKC c G (E j) H2 so.k=some (.val (d j),H2):=by
 rcases T.step j so hs with⟨h0,_,_,_⟩ |⟨_,h1,h2⟩
 ·rcases h0 with h0 |h0
  ·rw[h0] at hx;cases hx
  ·rw[h0] at hg;cases hg
 ·have hle:=cls_le (E j) so.k
  rcases clsP_cases (E j) (Hs j) (Hs (j+1)) so.k with⟨_,_,q⟩ |⟨_,m,hm,_,q⟩ |⟨hc,q⟩ |q0 |⟨hkc,hcl,hlen,q⟩
  ·rw[h2,q] at h;dsimp only at h;omega
  ·rw[h2,q] at h;dsimp only at h;rw[h,isW_read'] at hm;cases hm
  rotate_left
  ·obtain⟨hH,q⟩:=q0
   rcases q with q |⟨i,hi,q⟩
   ·rw[h2,q] at h;dsimp only at h;omega
   ·have hib:i=b:=by rw[h2,q] at h;dsimp only at h;omega
    subst hib
    rw[hH] at h1
    exact call_one h1 hi hb
  ·rw[h2,q] at h;dsimp only at h;omega
  ·rw[q] at h2
   rcases clsR_cases (Hs j).bx.length (E j) so.k with q |⟨n,x,i,o,hk,hx,_,q⟩ |⟨_,_,_,_,_,_,_,_,q⟩ |⟨g,z,ok,m,kk,i,hk,hx,_,q⟩ |⟨_,_,q⟩ |⟨_,_,_,_,_,_,_,_,_,_,q⟩ |⟨_,_,_,_,_,_,q⟩ |⟨_,_,_,q⟩
   ·rw[h2,q] at h;dsimp only at h;omega
   ·have hib:i=b:=by rw[h2,q] at h;dsimp only at h;omega
    subst hib
    rw[hk] at h1⊢
    rw[evKC_plain rfl] at h1⊢
    simp only[evK,hx,loadD] at h1⊢
    rw[hb]
    cases hc:(Hs j).bx[i]? with
    |none=>rw[hc] at h1;cases h1
    |some cells=>
     rw[hc] at h1
     simp only at h1⊢
     cases hd:(if isMapC cells=true then none else cutAt cells o n id mkAgg) with
     |none=>rw[hd] at h1;cases h1
     |some d0=>
      rw[hd] at h1
      simp only[Option.map_some,Option.some.injEq,Prod.mk.injEq,Res.val.injEq] at h1⊢
      exact⟨h1.1,trivial⟩
   ·rw[h2,q] at h;dsimp only at h;omega
   ·have hib:i=b:=by rw[h2,q] at h;dsimp only at h;omega
    subst hib
    rw[hk] at h1⊢
    rw[evKC_plain rfl] at h1⊢
    simp only[evK] at h1⊢
    have hq:mapgetD g z ok (m.ev (E j)) (kk.ev (E j)) H2=mapgetD g z ok (m.ev (E j)) (kk.ev (E j)) (Hs j):=by
     rw[hx];unfold mapgetD
     split
     ·rfl
     ·rename_i h1 _;cases h1;rw[hb]
     ·rfl
    rw[hq]
    cases hd:mapgetD g z ok (m.ev (E j)) (kk.ev (E j)) (Hs j) with
    |none=>rw[hd] at h1;cases h1
    |some d0=>
     rw[hd] at h1
     simp only[Option.map_some,Option.some.injEq,Prod.mk.injEq,Res.val.injEq] at h1⊢
     exact⟨h1.1,trivial⟩
   ·rw[h2,q] at h;dsimp only at h;omega
   ·rw[h2,q] at h;dsimp only at h;omega
   ·rw[h2,q] at h;dsimp only at h;omega
   ·rw[h2,q] at h;dsimp only at h;omega
def insOf(e:Env):SK→Option (Nat×Nat×PD×D)
 | .mapins kd m k v=>match m.ev e,k.ev e with
  | .mapr i,.p q=>some (kd,i,q,v.ev e)
  |_,_=>none
 |_=>none
def insB(q:Nat×Nat×PD×D)(o:Option (List D)):Option (List D):=
 match o with
 |some [.mapc kd' ks vs]=>if keyKind q.2.2.1=q.1∧kd'=q.1∧q.1≠1∧findK q.2.2.1 ks=none∧vs.length=ks.length then
     some [.mapc q.1 (insAt (posK (keyCode q.2.2.1) ks) q.2.2.1 ks) (insAt (posK (keyCode q.2.2.1) ks) q.2.2.2 vs)] else o
 |o=>o
def insH(q:Nat×Nat×PD×D)(H:Hp):Hp:=
 match insB q (H.bx[q.2.1]?) with
 |some cs=>{H with bx:=H.bx.set q.2.1 cs}
 |none=>H
def insGood(q:Nat×Nat×PD×D)(o:Option (List D)):Prop:=∃ks vs,o=some [.mapc q.1 ks vs]∧keyKind q.2.2.1=q.1∧q.1≠1∧findK q.2.2.1 ks=none∧vs.length=ks.length
theorem insB_none{q:Nat×Nat×PD×D}{o:Option (List D)}(h:insB q o=none):o=none:=by
 unfold insB at h
 split at h
 ·split at h<;>cases h
 ·exact h
theorem insH_at{q:Nat×Nat×PD×D}{H:Hp}(b:Nat):(insH q H).bx[b]? =if q.2.1=b then insB q (H.bx[b]?) else H.bx[b]?:=by
 unfold insH
 split
 ·rename_i cs hcs
  show(H.bx.set q.2.1 cs)[b]? =_
  by_cases hb:q.2.1=b
  ·subst hb
   rw[if_pos rfl,hcs]
   have :q.2.1<H.bx.length:=by
    rcases Nat.lt_or_ge q.2.1 H.bx.length with h |h
    ·exact h
    ·rw[List.getElem?_eq_none h] at hcs;cases hcs
   rw[List.getElem?_set_self this]
  ·rw[if_neg hb,List.getElem?_set_ne hb]
 ·rename_i hcs
  split
  ·rename_i hb;subst hb;rw[insB_none hcs,←insB_none hcs,hcs];exact(insB_none hcs)
  ·rfl
theorem insH_run{q:Nat×Nat×PD×D}{H:Hp}(h:insGood q (H.bx[q.2.1]?)):mapinsD q.1 (.mapr q.2.1) (.p q.2.2.1) q.2.2.2 H=some (.undef,insH q H):=by
 obtain⟨ks,vs,h1,h2,h3,h4,h5⟩:=h
 have hb:insB q (H.bx[q.2.1]?)=some [.mapc q.1 (insAt (posK (keyCode q.2.2.1) ks) q.2.2.1 ks) (insAt (posK (keyCode q.2.2.1) ks) q.2.2.2 vs)]:=by
  rw[h1];simp[insB,h2,h3,h4,h5]
 unfold insH
 rw[hb]
 simp[mapinsD,h1,h2,h3,h4,h5]
theorem insOf_good{e:Env}{H H':Hp}{k:SK}{d:D}{q:Nat×Nat×PD×D}(hq:insOf e k=some q)(h:evKC c G e H k=some (.val d,H')):insGood q (H.bx[q.2.1]?)∧d= .undef∧H'=insH q H∧∀H2,evKC c G e H2 k=match mapinsD q.1 (.mapr q.2.1) (.p q.2.2.1) q.2.2.2 H2 with |some (d,H')=>some (.val d,H') |none=>none:=by
 cases k<;>first |(cases hq;done) |skip
 rename_i kd m kk v
 simp only[insOf] at hq
 split at hq
 ·rename_i i x hm hk
  cases hq
  have hev:∀H2,evKC c G e H2 (.mapins kd m kk v)=match mapinsD kd (.mapr i) (.p x) (v.ev e) H2 with |some (d,H')=>some (.val d,H') |none=>none:=fun H2=>by
   rw[evKC_plain rfl]
   (simp only[evK,hm,hk])<;>(cases mapinsD kd (.mapr i) (.p x) (v.ev e) H2<;>rfl)
  rw[hev] at h
  have hgood:insGood (kd,i,x,v.ev e) (H.bx[i]?):=by
   cases hmi:mapinsD kd (.mapr i) (.p x) (v.ev e) H with
   |none=>rw[hmi] at h;cases h
   |some r=>
    unfold mapinsD at hmi
    simp only at hmi
    split at hmi
    ·rename_i kd' ks vs hbx
     split at hmi
     ·rename_i hc
      obtain⟨h1,h2,h3,h4,h5⟩:=hc
      subst h2
      exact⟨ks,vs,hbx,h1,h3,h4,h5⟩
     ·cases hmi
    ·cases hmi
  rw[insH_run hgood] at h
  cases h
  exact⟨hgood,rfl,rfl,hev⟩
 ·cases hq
theorem Trace.ins(T:Trace c G sl E Hs d cs X){j:Nat}{so:SO}(hs:sl[j]? =some so)(h:(cs j).2≠0):∃q,insOf (E j) so.k=some q∧cs j=(4+2*q.2.1,keyCode q.2.2.1+1)∧evGuard (E j) so.g=some true∧evKC c G (E j) (Hs j) so.k=some (.val (d j),Hs (j+1)):=by
 rcases T.step j so hs with⟨_,_,_,h1⟩ |⟨hg,h1,h2⟩
 ·rw[h1] at h;exact absurd rfl h
 ·rcases clsP_cases (E j) (Hs j) (Hs (j+1)) so.k with⟨_,_,q⟩ |⟨_,_,_,_,q⟩ |⟨hc,q⟩ |⟨_,q⟩ |⟨hkc,hcl,hlen,q⟩
  ·rw[h2,q] at h;exact absurd rfl h
  ·rw[h2,q] at h;exact absurd rfl h
  rotate_left
  ·rcases q with q |⟨_,_,q⟩<;>rw[h2,q] at h<;>exact absurd rfl h
  ·rw[h2,q] at h;exact absurd rfl h
  ·rw[q] at h2
   rcases clsR_cases (Hs j).bx.length (E j) so.k with q |⟨_,_,_,_,_,_,_,q⟩ |⟨_,_,_,_,_,_,_,_,q⟩ |⟨_,_,_,_,_,_,_,_,_,q⟩ |⟨_,_,q⟩ |⟨kd,m,kk,v,i,x,hk,hm,hx,hlt,q⟩ |⟨_,_,_,_,_,_,q⟩ |⟨_,_,_,q⟩
   ·rw[h2,q] at h;exact absurd rfl h
   ·rw[h2,q] at h;exact absurd rfl h
   ·rw[h2,q] at h;exact absurd rfl h
   ·rw[h2,q] at h;exact absurd rfl h
   ·rw[h2,q] at h;exact absurd rfl h
   ·refine⟨(kd,i,x,v.ev (E j)),?_,h2.trans q,hg,h1⟩
    rw[hk]
    simp only[insOf,hm,hx]
   ·rw[h2,q] at h;exact absurd rfl h
   ·rw[h2,q] at h;exact absurd rfl h
theorem Trace.ins_lt(T:Trace c G sl E Hs d cs X){j:Nat}{so:SO}(hs:sl[j]? =some so)(h:(cs j).2≠0):∀q,insOf (E j) so.k=some q→q.2.1<2000000000:=by
 rcases T.step j so hs with⟨_,_,_,h1⟩ |⟨hg,h1,h2⟩
 ·rw[h1] at h;exact absurd rfl h
 ·rcases clsP_cases (E j) (Hs j) (Hs (j+1)) so.k with⟨_,_,q⟩ |⟨_,_,_,_,q⟩ |⟨hc,q⟩ |⟨_,q⟩ |⟨hkc,hcl,hlen,q⟩
  ·rw[h2,q] at h;exact absurd rfl h
  ·rw[h2,q] at h;exact absurd rfl h
  rotate_left
  ·rcases q with q |⟨_,_,q⟩<;>rw[h2,q] at h<;>exact absurd rfl h
  ·rw[h2,q] at h;exact absurd rfl h
  ·rw[q] at h2
   rcases clsR_cases (Hs j).bx.length (E j) so.k with q |⟨_,_,_,_,_,_,_,q⟩ |⟨_,_,_,_,_,_,_,_,q⟩ |⟨_,_,_,_,_,_,_,_,_,q⟩ |⟨_,_,q⟩ |⟨kd,m,kk,v,i,x,hk,hm,hx,hlt,q⟩ |⟨_,_,_,_,_,_,q⟩ |⟨_,_,_,q⟩
   ·rw[h2,q] at h;exact absurd rfl h
   ·rw[h2,q] at h;exact absurd rfl h
   ·rw[h2,q] at h;exact absurd rfl h
   ·rw[h2,q] at h;exact absurd rfl h
   ·rw[h2,q] at h;exact absurd rfl h
   ·intro q' hq'
    rw[hk] at hq'
    simp only[insOf,hm,hx,Option.some.injEq] at hq'
    subst hq'
    exact hlt
   ·rw[h2,q] at h;exact absurd rfl h
   ·rw[h2,q] at h;exact absurd rfl h
theorem offB_ne{b i:Nat}(h:offB b i=true):i≠b:=by
 unfold offB at h
 split at h
 ·exact fun e=>by simp[e] at h
 ·split at h
  ·rw[Bool.and_eq_true] at h
   have:=of_decide_eq_true h.2
   omega
  ·rw[Bool.and_eq_true] at h
   have:=of_decide_eq_true h.2
   omega
theorem bnd_not:∀{l:List Nat} {b:Nat},bnd l≤b→b∉l
 |[],_,_=>by simp
 |i::l,b,h=>by
  simp only[bnd] at h
  intro hm
  rcases List.mem_cons.1 hm with e |e
  ·omega
  ·exact bnd_not (by omega) e
theorem putAll_off{α:Type}:∀(is:List Nat) (l xs:List α) (b:Nat),b∉is→(putAll l is xs)[b]? =l[b]?
 |[],l,xs,b,_=>by cases xs<;>rfl
 |i::is,l,[],b,_=>rfl
 |i::is,l,x::xs,b,h=>by
  simp only[putAll]
  rw[putAll_off is _ xs b fun hm=>h (List.mem_cons_of_mem _ hm),List.getElem?_set_ne fun e=>h (by rw[e];exact List.mem_cons_self)]
theorem putAll_len{α:Type}:∀(is:List Nat) (l xs:List α),(putAll l is xs).length=l.length
 |[],l,xs=>by cases xs<;>rfl
 |i::is,l,[]=>rfl
 |i::is,l,x::xs=>by
  simp only[putAll]
  rw[putAll_len is]
  simp
theorem call_off{c:CallR}{e:Env}{H H':Hp}{k:SK}{d:D}(he:evKC c G e H k=some (.val d,H'))(hcl:isCl k=true)(hl:H'.bx.length=H.bx.length){b:Nat}(hb:b∉callIds e H k):H'.bx[b]? =H.bx[b]?:=by
 cases k<;>first |(cases hcl;done) |skip
 rename_i f as
 simp only[evKC] at he
 unfold callV at he
 split at he
 ·rename_i g first cap hg
  simp only[callIds,hg] at hb
  unfold callD at he
  dsimp only at he
  split at he
  ·split at he
   ·split at he
    ·unfold back at he
     split at he
     ·dsimp only at he
      split at he
      ·cases he
       exact putAll_off _ _ _ _ hb
      ·split at he
       ·cases he
        simp only[List.length_append,putAll_len,List.length_cons] at hl
        omega
       ·cases he
     ·cases he
    ·cases he
   ·cases he
  ·cases he
 ·cases he
theorem appendD_bx{e sz bytes:Nat}{s:D}{xs:List PD}{H H':Hp}{d:D}(h:appendD e sz bytes s xs H=some (d,H')):H'.bx=H.bx:=by
 unfold appendD at h
 split at h
 ·split at h<;>cases h;rfl
 ·split at h<;>cases h;rfl
 ·split at h<;>cases h;rfl
 ·cases h
theorem Trace.apart(T:Trace c G sl E Hs d cs X){j b i:Nat}{so:SO}(hs:sl[j]? =some so)(h:(cs j).1=4+2*i)(hoff:offB b i=true):(Hs (j+1)).bx[b]? =(Hs j).bx[b]?:=by
 have hne:=offB_ne hoff
 by_cases hz:(cs j).2≠0
 ·obtain⟨q,h1,h2,h3,h4⟩:=T.ins hs hz
  obtain⟨_,_,h5,_⟩:=insOf_good h1 h4
  rw[h5,insH_at,if_neg]
  rw[h2] at h
  dsimp only at h
  omega
 rcases T.step j so hs with⟨_,_,h1,_⟩ |⟨_,h1,h2⟩
 ·rw[h1]
 ·have hle:=cls_le (E j) so.k
  rcases clsP_cases (E j) (Hs j) (Hs (j+1)) so.k with⟨_,_,q⟩ |⟨hc0,m,hm,hm2,q⟩ |⟨hc,q⟩ |⟨_,q⟩ |⟨hkc,hcl,hlen,q⟩
  ·rw[h2,q] at h;dsimp only at h;omega
  ·rw[h2,q] at h;dsimp only at h
   rcases hm2 with hm2 |⟨hm2,hl⟩
   ·omega
   ·have hp:=hc0.elim (evKC_pre h1) id
    by_cases hb:b<(Hs j).bx.length
    ·rw[←hp,List.getElem?_take_of_lt hb]
    ·rw[List.getElem?_eq_none (by omega),List.getElem?_eq_none (by omega)]
  rotate_left
  ·rcases q with q |⟨_,_,q⟩<;>rw[h2,q] at h<;>dsimp only at h<;>omega
  ·rw[h2,q] at h
   dsimp only at h
   have hi:i=2000000000+bnd (callIds (E j) (Hs j) so.k):=by omega
   rw[hi] at hoff
   unfold offB at hoff
   rw[if_neg (by omega),if_pos (by omega),Bool.and_eq_true] at hoff
   exact call_off h1 hcl hlen.1 (bnd_not (by have:=of_decide_eq_true hoff.1;omega))
  ·rw[q] at h2
   rcases clsR_cases (Hs j).bx.length (E j) so.k with q |⟨_,_,_,_,_,_,_,q⟩ |⟨n,a,v,i',o,hk,ha,_,q⟩ |⟨_,_,_,_,_,_,_,_,_,q⟩ |⟨hn,_,q⟩ |⟨_,_,_,_,_,_,_,_,_,_,q⟩ |⟨el,sz,by_,s,x,hk,q⟩ |⟨i',hap,hl',q⟩
   ·rw[h2,q] at h;dsimp only at h;omega
   ·rw[h2,q] at h;dsimp only at h;omega
   ·have hii:i'=i:=by rw[h2,q] at h;dsimp only at h;omega
    subst hii
    rw[hk,evKC_plain rfl] at h1
    simp only[evK,ha] at h1
    split at h1
    ·rename_i d0 H0 hd
     cases h1
     obtain⟨H1,hst,hh⟩:=Option.map_eq_some_iff.1 hd
     simp only[Prod.mk.injEq] at hh
     rw[←hh.2]
     unfold storeD at hst
     simp only at hst
     split at hst
     ·split at hst
      ·cases hst
       show(((Hs j).bx.set _ _)[b]?)=_
       rw[List.getElem?_set_ne hne]
      ·cases hst
     ·cases hst
    ·cases h1
   ·rw[h2,q] at h;dsimp only at h;omega
   ·have hii:(Hs j).bx.length=i:=by rw[h2,q] at h;dsimp only at h;omega
    have hkc:so.k.isCall=false:=by cases hk:so.k<;>rw[hk] at hn<;>first |rfl |cases hn
    rw[evKC_plain hkc] at h1
    split at h1
    ·rename_i d0 H0 hd
     cases h1
     rcases isNew_app hn hd with⟨x,hx⟩ |hx
     ·rw[hx]
      by_cases hb:b<(Hs j).bx.length
      ·rw[List.getElem?_append_left hb]
      ·rw[List.getElem?_eq_none (by simp;omega),List.getElem?_eq_none (by omega)]
     ·rw[hx]
    ·cases h1
   ·rw[h2,q] at hz;exact absurd (fun e=>by cases e) hz
   ·rw[hk,evKC_plain rfl] at h1
    split at h1
    ·rename_i d0 H0 hd
     cases h1
     simp only[evK] at hd
     split at hd
     ·rw[appendD_bx hd]
     ·cases hd
    ·cases h1
   ·have hq:4000000000+i'*1000000+(Hs j).bx.length=i:=by rw[h2,q] at h;dsimp only at h;omega
    have hkc:so.k.isCall=false:=by cases hk:so.k<;>rw[hk] at hap<;>first |rfl |cases hap
    rw[evKC_plain hkc] at h1
    split at h1
    ·rename_i d0 H0 hd
     cases h1
     unfold offB at hoff
     rw[if_neg (by omega),if_neg (by omega),Bool.and_eq_true] at hoff
     have hb1:=of_decide_eq_true hoff.1
     have hb2:=of_decide_eq_true hoff.2
     exact appI_bx hap hd (by omega) (by omega)
    ·cases h1
theorem Trace.heapless(T:Trace c G sl E Hs d cs X){j:Nat}{so:SO}(hs:sl[j]? =some so)(h:so.k.heapless=true):cs j=(0,0):=by
 rcases T.step j so hs with⟨_,_,_,h1⟩ |⟨_,h1,h2⟩
 ·exact h1
 ·have hc:=cls_heapless (e:=E j) h
  have hk:so.k.isCall=false:=by cases hk:so.k<;>rw[hk] at h<;>first |rfl |cases h
  rw[evKC_plain hk,evK_heapless h] at h1
  split at h1
  ·rename_i hd
   cases h1
   obtain⟨x,hx,hh⟩:=Option.map_eq_some_iff.1 hd
   simp only[Prod.mk.injEq] at hh
   rw[h2]
   unfold clsP
   rw[if_pos hc,←hh.2,if_pos rfl]
  ·cases h1
def foldW{α:Type}(g0:α)(wr:Nat→Bool)(f:Nat→α→α)(l:Nat→Bool):Nat→α
 | 0=>g0
 |m+1=>if l m=true∧wr m=true then f m (foldW g0 wr f l m) else foldW g0 wr f l m
theorem foldW_congr{α:Type}{g0:α}{wr:Nat→Bool}{f:Nat→α→α}{l l':Nat→Bool}:∀(n:Nat),(∀j,j<n→wr j=true→l j=l' j)→foldW g0 wr f l n=foldW g0 wr f l' n
 | 0,_=>rfl
 |n+1,h=>by
  simp only[foldW]
  rw[foldW_congr n fun j hj hw=>h j (by omega) hw]
  by_cases hw:wr n=true
  ·rw[h n (by omega) hw]
  ·simp[hw]
theorem foldW_below{α:Type}{g0:α}{wr:Nat→Bool}{f:Nat→α→α}{i:Nat}:∀(n:Nat),i≤n→foldW g0 wr f (fun j=>decide (j<i)) n=foldW g0 wr f (fun _=>true) i
 | 0,h=>by
  have :i=0:=by omega
  subst this;rfl
 |n+1,h=>by
  by_cases hi:i=n+1
  ·subst hi
   exact foldW_congr (n+1) fun j hj _=>by simp[hj]
  ·simp only[foldW]
   rw[if_neg (by simp;omega),foldW_below n (by omega)]
theorem foldW_at{α:Type}{g0:α}{wr:Nat→Bool}{f:Nat→α→α}{l:Nat→Bool}{i:Nat}{x:α}(hl:l i=true)(hw:wr i=true)(hf:∀h,f i h=x):∀(n:Nat),i<n→(∀j,i<j→j<n→wr j=true→l j=false)→foldW g0 wr f l n=x
 | 0,h,_=>by omega
 |n+1,h,q=>by
  simp only[foldW]
  by_cases hi:i=n
  ·subst hi;rw[if_pos ⟨hl,hw⟩];exact hf _
  ·rw[if_neg (fun x=>by have:=q n (by omega) (by omega) x.2;rw[this] at x;exact absurd x.1 (by simp)),foldW_at hl hw hf n (by omega) fun j h1 h2 h3=>q j h1 (by omega) h3]
def effH(sl:List SO)(E:Nat→Env)(Hs:Nat→Hp)(cs:Nat→Nat×Nat)(j:Nat)(h:Hp):Hp:=
 if(cs j).2=0 then Hs (j+1) else match(sl[j]?).bind fun so=>insOf (E j) so.k with
  |some q=>insH q h
  |none=>Hs (j+1)
theorem effH_plain{j:Nat}{h:Hp}(hz:(cs j).2=0):effH sl E Hs cs j h=Hs (j+1):=by simp[effH,hz]
theorem effH_ins{j:Nat}{so:SO}{q:Nat×Nat×PD×D}{h:Hp}(hs:sl[j]? =some so)(hz:(cs j).2≠0)(hq:insOf (E j) so.k=some q):effH sl E Hs cs j h=insH q h:=by simp[effH,hz,hs,hq]
theorem Trace.eff(T:Trace c G sl E Hs d cs X){j:Nat}{so:SO}(hs:sl[j]? =some so):effH sl E Hs cs j (Hs j)=Hs (j+1):=by
 by_cases hz:(cs j).2=0
 ·exact effH_plain hz
 ·obtain⟨q,h1,h2,h3,h4⟩:=T.ins hs hz
  rw[effH_ins hs hz h1]
  exact(insOf_good h1 h4).2.2.1.symm
def wrT(sl:List SO)(t:Nat)(j:Nat):Bool:=((sl[j]?).bind (·.dst))==some t
theorem Trace.get(T:Trace c G sl E Hs d cs X)(t:Nat):∀j,j≤sl.length→(E j).get t=lastW ((E 0).get t) (wrT sl t) d (fun _=>true) j
 | 0,_=>rfl
 |j+1,h=>by
  have hs:sl[j]? =some sl[j]:=List.getElem?_eq_getElem (by omega)
  simp only[lastW]
  rw[T.env j _ hs,←T.get t j (by omega)]
  simp only[wrT,hs,Option.bind_some,true_and,beq_iff_eq]
  cases hd:(sl[j]).dst with
  |none=>simp[put]
  |some u=>simp only[put,Env.get,Option.some.injEq]
theorem Trace.heap(T:Trace c G sl E Hs d cs X):∀j,j≤sl.length→Hs j=foldW (Hs 0) (fun j=>isW (cs j).1) (effH sl E Hs cs) (fun _=>true) j
 | 0,_=>rfl
 |j+1,h=>by
  have hs:sl[j]? =some sl[j]:=List.getElem?_eq_getElem (by omega)
  simp only[foldW,true_and]
  rw[←T.heap j (by omega)]
  split
  ·exact(T.eff hs).symm
  ·rename_i hc
   rw[T.quiet hs (by simpa using hc)]
end
end Go.Vs
namespace Go.Vs
variable {P : Program} {W : World} {G : Nat → Option (List PD)}
def lst(L:Array Bool)(i:Nat):Bool:=L.getD i false
theorem lst_set{L:Array Bool}{i:Nat}(hi:i<L.size)(j:Nat):lst (L.setIfInBounds i true) j=if i=j then true else lst L j:=by
 simp only[lst,Array.getD_eq_getD_getElem?,Array.getElem?_setIfInBounds]
 split
 ·rename_i h;subst h;simp
 ·rfl
theorem mem_ready{ops:Array Oper}{L:Array Bool}(hL:L.size=ops.size){i:Nat}(h:i∈Region.ready .any ops L):∃o,ops[i]? =some o∧i<ops.size∧lst L i=false∧∀p∈predsOf o,lst L p=true:=by
 simp only[Region.ready,List.mem_filter,List.mem_range,Bool.and_eq_true,Bool.not_eq_true'] at h
 obtain⟨hi,h1,h2⟩:=h
 have ho:ops[i]? =some ops[i]:=Array.getElem?_eq_getElem hi
 rw[ho] at h2
 simp only[Option.map_some,Option.getD_some] at h2
 refine⟨_,ho,hi,?_,fun p hp=>?_⟩
 ·have hiL:i<L.size:=by omega
  simp only[lst,Array.getD_eq_getD_getElem?,Array.getElem?_eq_getElem hiL,Option.getD_some] at h1⊢
  exact h1
 ·simp only[predsOf,List.mem_map,List.mem_filter,Array.mem_toList_iff] at hp
  obtain⟨e,⟨he,hb⟩,rfl⟩:=hp
  have:=(Array.all_eq_true'.1 h2) e he
  simpa[hb,lst] using this
theorem ready_of{ops:Array Oper}{L:Array Bool}(hL:L.size=ops.size){i:Nat}{o:Oper}(ho:ops[i]? =some o)(hl:lst L i=false)(hp:∀p∈predsOf o,lst L p=true):i∈Region.ready .any ops L:=by
 have hi:i<ops.size:=(Array.getElem?_eq_some_iff.1 ho).1
 simp only[Region.ready,List.mem_filter,List.mem_range,Bool.and_eq_true,Bool.not_eq_true']
 refine⟨hi,?_,?_⟩
 ·have hiL:i<L.size:=by omega
  simp only[lst,Array.getD_eq_getD_getElem?,Array.getElem?_eq_getElem hiL,Option.getD_some] at hl⊢
  exact hl
 ·rw[ho]
  simp only[Option.map_some,Option.getD_some]
  refine Array.all_eq_true'.2 fun e he=>?_
  by_cases hb:Region.binds .any e=true
  ·have:=hp e.on (List.mem_map.2 ⟨e,List.mem_filter.2 ⟨by simpa using he,hb⟩,rfl⟩)
   simpa[hb,lst] using this
  ·simp[hb]
def left(l:Nat→Bool):Nat→Nat
 | 0=>0
 |n+1=>left l n+if l n then 0 else 1
theorem left_zero{l:Nat→Bool}:∀{n:Nat},left l n=0→∀j,j<n→l j=true
 |n+1,h,j,hj=>by
  simp only[left] at h
  by_cases hjn:j=n
  ·subst hjn;cases hl:l j<;>simp_all
  ·exact left_zero (n:=n) (by omega) j (by omega)
theorem left_set{l l':Nat→Bool}{i:Nat}(hi:l i=false)(hs:∀j,l' j=if i=j then true else l j):∀{n:Nat},(i<n→left l' n+1=left l n)∧(n≤i→left l' n=left l n)
 | 0=>⟨fun h=>by omega,fun _=>rfl⟩
 |n+1=>by
  obtain⟨h1,h2⟩:=left_set hi hs (n:=n)
  simp only[left,hs n]
  refine⟨fun h=>?_,fun h=>?_⟩
  ·by_cases hn:i=n
   ·subst hn;rw[h2 (by omega)];simp[hi]
   ·rw[if_neg hn,←h1 (by omega)];omega
  ·have hne:¬i=n:=by omega
   rw[if_neg hne,h2 (by omega)]
theorem least_left{l:Nat→Bool}:∀(n:Nat),(∃j,j<n∧l j=false)→∃j,j<n∧l j=false∧∀k,k<j→l k=true
 | 0,⟨j,h,_⟩=>by omega
 |n+1,⟨j,h,hj⟩=>by
  by_cases q:∃j,j<n∧l j=false
  ·obtain⟨k,h1,h2,h3⟩:=least_left n q
   exact⟨k,by omega,h2,h3⟩
  ·refine⟨j,h,hj,fun k hk=>?_⟩
   cases hl:l k with
   |true=>rfl
   |false=>exact absurd ⟨k,by omega,hl⟩ q
theorem isW_read(i:Nat):isW (3+2*i)=false:=by
 simp only[isW,Bool.or_eq_false_iff,Bool.and_eq_false_iff,decide_eq_false_iff_not,beq_eq_false_iff_ne]
 omega
def touches(b c:Nat):Bool:=isW c&&(c==2|| !offB b ((c-4)/2))
theorem touches_isW{b c:Nat}(h:touches b c=true):isW c=true:=(Bool.and_eq_true_iff.1 h).1
theorem untouched{b c:Nat}(h:touches b c=false):isW c=false∨∃i,c=4+2*i∧offB b i=true:=by
 cases hw:isW c with
 |false=>exact .inl rfl
 |true=>
  right
  simp only[touches,hw,Bool.true_and,Bool.or_eq_false_iff,beq_eq_false_iff_ne,Bool.not_eq_false'] at h
  simp only[isW,Bool.or_eq_true,beq_iff_eq,Bool.and_eq_true,decide_eq_true_eq] at hw
  exact⟨(c-4)/2,by omega,h.2⟩
theorem touches_one{b i:Nat}(hi:i<2000000000):touches b (4+2*i)=(b==i):=by
 have hw:isW (4+2*i)=true:=isW_write i
 have h2:(4+2*i==2)=false:=by simp;omega
 have h3:(4+2*i-4)/2=i:=by omega
 simp only[touches,hw,h2,h3,offB,if_pos hi,Bool.true_and,Bool.false_or]
 cases h:b==i<;>simp[bne,h]
theorem apartWW_comm(a b:Nat×Nat):apartWW a b=apartWW b a:=by
 rw[Bool.eq_iff_iff]
 simp only[apartWW,Bool.and_eq_true,bne_iff_ne,beq_iff_eq]
 constructor<;>rintro⟨⟨⟨h1,h2⟩,h3⟩,h4⟩<;>exact⟨⟨⟨h2,h1⟩,h3.symm⟩,fun e=>h4 e.symm⟩
theorem clash_comm(a b:Nat×Nat):clash a b=clash b a:=by
 simp only[clash]
 rw[Bool.and_comm (a.1 !=0),Bool.or_comm (isW a.1),Bool.or_comm (apartRW a.1 b.1),apartWW_comm a b]
theorem clash_ne{a b:Nat×Nat}(h:clash a b=true):a.1≠0∧b.1≠0:=by
 simp only[clash,Bool.and_eq_true,bne_iff_ne] at h
 exact h.1.1.1
theorem apart_l{a b:Nat}(h:apartRW a b=true):(∃i,a=3+2*i)∧isW a=false∧isW b=true:=by
 simp only[apartRW,Bool.and_eq_true,decide_eq_true_eq,beq_iff_eq] at h
 refine⟨⟨(a-3)/2,by omega⟩,?_,?_⟩
 ·simp only[isW,Bool.or_eq_false_iff,Bool.and_eq_false_iff,decide_eq_false_iff_not,beq_eq_false_iff_ne];omega
 ·simp only[isW,Bool.or_eq_true,Bool.and_eq_true,decide_eq_true_eq,beq_iff_eq];omega
theorem isW_ne{b:Nat}(h:isW b=true):b≠0:=fun e=>by subst e;cases h
theorem notWW{a b:Nat×Nat}(h:a.2=0∨b.2=0∨a.1≠b.1∨a.2=b.2):apartWW a b=false:=by
 cases q:apartWW a b with
 |false=>rfl
 |true=>
  simp only[apartWW,Bool.and_eq_true,bne_iff_ne,beq_iff_eq] at q
  obtain⟨⟨⟨h1,h2⟩,h3⟩,h4⟩:=q
  rcases h with h |h |h |h
  ·exact absurd h h1
  ·exact absurd h h2
  ·exact absurd h3 h
  ·exact absurd h h4
theorem clash_any{a b:Nat×Nat}(h0:a.1≠0)(hn:∀i,a.1≠3+2*i)(h2:a.2=0)(h:isW b.1=true):clash a b=true:=by
 simp only[clash,Bool.and_eq_true,bne_iff_ne,Bool.or_eq_true,Bool.not_eq_true',Bool.or_eq_false_iff]
 refine⟨⟨⟨⟨h0,isW_ne h⟩,.inr h⟩,?_,?_⟩,notWW (.inl h2)⟩
 ·cases q:apartRW a.1 b.1 with
  |false=>rfl
  |true=>obtain⟨⟨i,hi⟩,_⟩:=apart_l q;exact absurd hi (hn i)
 ·cases q:apartRW b.1 a.1 with
  |false=>rfl
  |true=>obtain⟨_,h1,_⟩:=apart_l q;rw[h] at h1;cases h1
theorem clash_ww{a b:Nat×Nat}(ha:isW a.1=true)(hb:isW b.1=true)(h2:a.2=0∨b.2=0∨a.1≠b.1∨a.2=b.2):clash a b=true:=by
 simp only[clash,Bool.and_eq_true,bne_iff_ne,Bool.or_eq_true,Bool.not_eq_true',Bool.or_eq_false_iff]
 refine⟨⟨⟨⟨isW_ne ha,isW_ne hb⟩,.inr hb⟩,?_,?_⟩,notWW h2⟩
 ·cases q:apartRW a.1 b.1 with
  |false=>rfl
  |true=>obtain⟨_,h1,_⟩:=apart_l q;rw[ha] at h1;cases h1
 ·cases q:apartRW b.1 a.1 with
  |false=>rfl
  |true=>obtain⟨_,h1,_⟩:=apart_l q;rw[hb] at h1;cases h1
theorem clash_touch{b:Nat}{a c:Nat×Nat}(ha:a.1=3+2*b)(h:touches b c.1=true):clash a c=true:=by
 have hw:=touches_isW h
 have h0:=h
 simp only[touches,Bool.and_eq_true,Bool.or_eq_true,beq_iff_eq,Bool.not_eq_true'] at h
 simp only[clash,Bool.and_eq_true,bne_iff_ne,Bool.or_eq_true,Bool.not_eq_true',Bool.or_eq_false_iff]
 refine⟨⟨⟨⟨by omega,isW_ne hw⟩,.inr hw⟩,?_,?_⟩,notWW (.inr (.inr (.inl (fun e=>by rw[←e,ha,isW_read] at hw;cases hw))))⟩
 ·cases q:apartRW a.1 c.1 with
  |false=>rfl
  |true=>
   simp only[apartRW,Bool.and_eq_true,decide_eq_true_eq,beq_iff_eq] at q
   rw[ha,show(3+2*b-3)/2=b by omega] at q
   rcases h.2 with h2 |h2
   ·omega
   ·rw[h2] at q;exact absurd q.2 (by simp)
 ·cases q:apartRW c.1 a.1 with
  |false=>rfl
  |true=>obtain⟨_,h1,_⟩:=apart_l q;rw[hw] at h1;cases h1
theorem keyEq_code{a b:PD}(h:keyEq a b=true):keyCode a=keyCode b:=by
 unfold keyEq at h
 split at h
 ·rw[eq_of_beq h]
 ·simp only[beq_iff_eq] at h;subst h;rfl
 ·rw[eq_of_beq h]
 ·simp only[Bool.and_eq_true,beq_iff_eq] at h
  obtain⟨⟨rfl,rfl⟩,rfl⟩:=h
  rfl
 ·cases h
theorem findK_insAt{k x:PD}:∀(p:Nat) (l:List PD),p≤l.length→(findK k (insAt p x l)=none↔findK k l=none∧keyEq k x=false)
 | 0,l,_=>by
  simp only[insAt,findK]
  cases keyEq k x<;>simp
 |p+1,[],h=>by simp at h
 |p+1,a::l,h=>by
  have:=findK_insAt (k:=k) (x:=x) p l (by simpa using h)
  simp only[insAt,findK]
  cases keyEq k a with
  |true=>simp
  |false=>simpa using this
theorem insAt_comm{α:Type}{k1 k2:PD}(hne:keyCode k1≠keyCode k2)(y1 y2:α):∀(ks:List PD) (zs:List α),zs.length=ks.length→
    insAt (posK (keyCode k1) (insAt (posK (keyCode k2) ks) k2 ks)) y1 (insAt (posK (keyCode k2) ks) y2 zs)=insAt (posK (keyCode k2) (insAt (posK (keyCode k1) ks) k1 ks)) y2 (insAt (posK (keyCode k1) ks) y1 zs)
 |[],[],_=>by
  by_cases h:keyCode k1<keyCode k2
  ·have h':¬keyCode k2<keyCode k1:=by omega
   simp[posK,insAt,h,h']
  ·have h':keyCode k2<keyCode k1:=by omega
   simp[posK,insAt,h,h']
 |a::ks,z::zs,hl=>by
  have ih:=insAt_comm hne y1 y2 ks zs (by simpa using hl)
  by_cases h1:keyCode k1<keyCode a
  ·by_cases h2:keyCode k2<keyCode a
   ·by_cases h:keyCode k1<keyCode k2
    ·have h':¬keyCode k2<keyCode k1:=by omega
     simp[posK,insAt,h,h',h1,h2]
    ·have h':keyCode k2<keyCode k1:=by omega
     simp[posK,insAt,h,h',h1,h2]
   ·have h':¬keyCode k2<keyCode k1:=by omega
    simp[posK,insAt,h',h1,h2]
  ·by_cases h2:keyCode k2<keyCode a
   ·have h':¬keyCode k1<keyCode k2:=by omega
    simp[posK,insAt,h',h1,h2]
   ·simp[posK,insAt,h1,h2,ih]
 |[],_::_,h=>by simp at h
 |_::_,[],h=>by simp at h
section
variable {q1 q2 : Nat × Nat × PD × D} (hne : keyCode q1.2.2.1 ≠ keyCode q2.2.2.1)
include hne
theorem insB_cond{ks:List PD}{vs:List D}:(findK q1.2.2.1 (insAt (posK (keyCode q2.2.2.1) ks) q2.2.2.1 ks)=none∧(insAt (posK (keyCode q2.2.2.1) ks) q2.2.2.2 vs).length=(insAt (posK (keyCode q2.2.2.1) ks) q2.2.2.1 ks).length)↔(findK q1.2.2.1 ks=none∧vs.length=ks.length):=by
 have hk:keyEq q1.2.2.1 q2.2.2.1=false:=by
  cases h:keyEq q1.2.2.1 q2.2.2.1 with
  |false=>rfl
  |true=>exact absurd (keyEq_code h) hne
 rw[findK_insAt _ _ (posK_le _ _),insAt_len,insAt_len,hk]
 simp
theorem insGood_ins{o:Option (List D)}:insGood q1 (insB q2 o)↔insGood q1 o:=by
 have key:∀{kd:Nat} {ks:List PD} {vs:List D},insGood q1 (some [.mapc kd ks vs])↔kd=q1.1∧keyKind q1.2.2.1=q1.1∧q1.1≠1∧findK q1.2.2.1 ks=none∧vs.length=ks.length:=by
  intro kd ks vs
  constructor
  ·rintro⟨ks',vs',h,h1,h2,h3,h4⟩
   simp only[Option.some.injEq,List.cons.injEq,D.mapc.injEq,and_true] at h
   obtain⟨rfl,rfl,rfl⟩:=h
   exact⟨rfl,h1,h2,h3,h4⟩
  ·rintro⟨rfl,h1,h2,h3,h4⟩
   exact⟨ks,vs,rfl,h1,h2,h3,h4⟩
 unfold insB
 split
 ·rename_i kd ks vs
  split
  ·rename_i hc
   obtain⟨c1,c2,c3,c4,c5⟩:=hc
   rw[key,key,insB_cond hne,c2]
  ·rfl
 ·rfl
theorem insB_comm(o:Option (List D)):insB q1 (insB q2 o)=insB q2 (insB q1 o):=by
 have hne':keyCode q2.2.2.1≠keyCode q1.2.2.1:=fun e=>hne e.symm
 have at1:∀(q:Nat×Nat×PD×D) kd ks vs,insB q (some [.mapc kd ks vs])=if keyKind q.2.2.1=q.1∧kd=q.1∧q.1≠1∧findK q.2.2.1 ks=none∧vs.length=ks.length then
     some [.mapc q.1 (insAt (posK (keyCode q.2.2.1) ks) q.2.2.1 ks) (insAt (posK (keyCode q.2.2.1) ks) q.2.2.2 vs)] else some [.mapc kd ks vs]:=fun q kd ks vs=>rfl
 by_cases hsh:∃kd ks vs,o=some [.mapc kd ks vs]
 ·obtain⟨kd,ks,vs,rfl⟩:=hsh
  rw[at1 q1,at1 q2]
  by_cases h1:keyKind q1.2.2.1=q1.1∧kd=q1.1∧q1.1≠1∧findK q1.2.2.1 ks=none∧vs.length=ks.length
  ·by_cases h2:keyKind q2.2.2.1=q2.1∧kd=q2.1∧q2.1≠1∧findK q2.2.2.1 ks=none∧vs.length=ks.length
   ·rw[if_pos h1,if_pos h2,at1,at1]
    obtain⟨a1,a2,a3,a4,a5⟩:=h1
    obtain⟨b1,b2,b3,b4,b5⟩:=h2
    have e:q1.1=q2.1:=a2.symm.trans b2
    rw[if_pos ⟨a1,e.symm,a3,(insB_cond hne).2 ⟨a4,a5⟩⟩,if_pos ⟨b1,e,b3,(insB_cond hne').2 ⟨b4,b5⟩⟩]
    rw[insAt_comm hne q1.2.2.1 q2.2.2.1 ks ks rfl,insAt_comm hne q1.2.2.2 q2.2.2.2 ks vs a5,e]
   ·rw[if_pos h1,if_neg h2,at1,at1,if_pos h1,if_neg]
    rintro⟨b1,b2,b3,b4⟩
    exact h2 ⟨b1,h1.2.1.trans b2,b3,(insB_cond hne').1 b4⟩
  ·by_cases h2:keyKind q2.2.2.1=q2.1∧kd=q2.1∧q2.1≠1∧findK q2.2.2.1 ks=none∧vs.length=ks.length
   ·rw[if_neg h1,if_pos h2,at1,at1,if_pos h2,if_neg]
    rintro⟨b1,b2,b3,b4⟩
    exact h1 ⟨b1,h2.2.1.trans b2,b3,(insB_cond hne).1 b4⟩
   ·rw[if_neg h1,if_neg h2,at1,at1,if_neg h1,if_neg h2]
 ·have no:∀q,insB q o=o:=fun q=>by
   unfold insB
   split
   ·exact absurd ⟨_,_,_,rfl⟩ hsh
   ·rfl
  rw[no,no,no]
theorem insH_comm(hb:q1.2.1=q2.2.1)(h:Hp):insH q1 (insH q2 h)=insH q2 (insH q1 h):=by
 have tk:∀q (h:Hp),(insH q h).tk=h.tk:=fun q h=>by unfold insH;split<;>rfl
 have e1:(insH q1 (insH q2 h)).bx=(insH q2 (insH q1 h)).bx:=by
  refine List.ext_getElem? fun b=>?_
  rw[insH_at,insH_at,insH_at,insH_at]
  by_cases hq:q1.2.1=b
  ·have hq2:q2.2.1=b:=hb▸hq
   rw[if_pos hq,if_pos hq2,if_pos hq2,if_pos hq]
   exact insB_comm hne _
  ·have hq2:¬q2.2.1=b:=hb▸hq
   rw[if_neg hq,if_neg hq2,if_neg hq2,if_neg hq]
 have e2:(insH q1 (insH q2 h)).tk=(insH q2 (insH q1 h)).tk:=by rw[tk,tk,tk,tk]
 cases ha:insH q1 (insH q2 h)
 cases hc:insH q2 (insH q1 h)
 rw[ha,hc] at e1 e2
 simp only at e1 e2
 rw[e1,e2]
end
theorem foldW_pos{α:Type}{g0:α}{wr:Nat→Bool}{f:Nat→α→α}{l:Nat→Bool}{m:Nat}(h:l m=true∧wr m=true):foldW g0 wr f l (m+1)=f m (foldW g0 wr f l m):=if_pos h
theorem foldW_neg{α:Type}{g0:α}{wr:Nat→Bool}{f:Nat→α→α}{l:Nat→Bool}{m:Nat}(h:¬(l m=true∧wr m=true)):foldW g0 wr f l (m+1)=foldW g0 wr f l m:=if_neg h
theorem insOk_ne:∀{cs:List (Nat×Nat)},insOk cs=true→∀(i j:Nat),i≠j→(cs.getD i (0,0)).2≠0→cs.getD i (0,0)≠cs.getD j (0,0)
 |[],_,i,j,_,h=>by simp at h
 |c::r,hk,i,j,hij,h=>by
  simp only[insOk,Bool.and_eq_true,Bool.or_eq_true,beq_iff_eq,Bool.not_eq_true'] at hk
  have mem:∀m,(r.getD m (0,0)).2≠0→r.getD m (0,0)∈r:=fun m hm=>by
   simp only[List.getD_eq_getElem?_getD] at hm⊢
   cases hr:r[m]? with
   |none=>rw[hr] at hm;simp at hm
   |some x=>simpa using List.mem_of_getElem? hr
  match i,j with
  | 0,0=>exact absurd rfl hij
  | 0,j+1=>
   simp only[List.getD_cons_zero,List.getD_cons_succ] at h⊢
   intro e
   rcases hk.1 with q |q
   ·exact h q
   ·have:=mem j (by rw[←e];exact h)
    rw[←e] at this
    simp[this] at q
  |i+1,0=>
   simp only[List.getD_cons_zero,List.getD_cons_succ] at h⊢
   intro e
   rcases hk.1 with q |q
   ·rw[e] at h;exact h q
   ·have:=mem i h
    rw[e] at this
    simp[this] at q
  |i+1,j+1=>
   simp only[List.getD_cons_succ] at h⊢
   exact insOk_ne hk.2 i j (by omega) h
theorem unwritten_get(ops:List SO)(e:Env)(t:Nat):(unwritten ops e).get t=if(ops.any fun o=>o.dst==some t)=true then .dead else e.get t:=by
 induction e with
 |nil=>simp[unwritten,Env.get]
 |cons y e ih=>
  obtain⟨s,x⟩:=y
  simp only[unwritten,List.filter_cons] at ih⊢
  by_cases hs:s=t
  ·subst hs
   by_cases h:(ops.any fun o=>o.dst==some s)=true
   ·rw[if_pos h] at ih⊢
    simpa[h] using ih
   ·rw[if_neg h]
    simp[h,Env.get]
  ·split
   ·simp only[Env.get,if_neg hs];exact ih
   ·rw[ih];simp only[Env.get,if_neg hs]
theorem lastW_none{α:Type}{g0:α}{wr:Nat→Bool}{d:Nat→α}{l:Nat→Bool}:∀{n:Nat},(∀j,j<n→wr j=true→False)→lastW g0 wr d l n=g0
 | 0,_=>rfl
 |n+1,h=>by
  simp only[lastW]
  rw[if_neg fun hw=>h n (by omega) hw.2,lastW_none fun j hj=>h j (by omega)]
structure DrSt (W:World) (G:Nat→Option (List PD)) (sl:List SO) (n:Nat) (R:Nat→Nat→Bool) (mk X:Nat→Bool) (E0:Env) (d:Nat→D) (fh:(Nat→Bool)→Hp) (γ:Gh) (H0:Hp) (w:World) (M L:Array Bool) (γ1:Gh) (a1:Act) (w1:World) (B:Nat→Bool):Prop where
 hL:L.size=n
 hcl:∀i,i<n→lst L i=true→∀j,j<i→R i j=true→lst L j=true
 hnx:∀i,i<n→X i=true→lst L i=false
 hle:γ.le γ1
 hF:Frame γ H0 w γ1 (fh (lst L)) w1
 hI:InvS W G γ1 (fh (lst L)) w1
 hM:∀j,lst M j=(lst L j||B j)
 hB:∃blk:Nat→Nat,(∀b b',B b=true→B b'=true→blk b=blk b'→b=b')∧∀b,B b=true→mk b=true∧lst L b=false∧b<n∧∃y ty zs,sl[b]? =some y∧y.dst=some ty∧y.k= .alloc zs∧a1.tmps.getD ty undef= .pointer (some ⟨blk b,0,none⟩)∧Priv γ1 (fh (lst L)) w.heap.size zs (blk b) w1
 hE:∀t,(∀b y,B b=true→sl[b]? =some y→y.dst≠some t)→RepD γ1 (a1.tmps.getD t undef) (lastW (E0.get t) (wrT sl t) d (lst L) n)
theorem draw_wpX{c:CallR}(S:Sound P W G c){ops:Array Oper}{sl:List SO}{nt:Nat}(hlen:ops.size=sl.length)(hof:∀(i:Nat) o so,ops[i]? =some o→sl[i]? =some so→OpOf P ops nt o so)
    (hlt:∀(j:Nat) o' t,ops[j]? =some o'→o'.dst=some t→t<nt) {pairs:List (Nat×Nat)} (hok:drawOk pairs ops.toList sl=true) {E:Nat→Env} {Hs:Nat→Hp} {d:Nat→D} {cs:List (Nat×Nat)} {X:Nat→Bool}
    (T:Trace c G sl E Hs d (fun j=>cs.getD j (0,0)) X)
    (hp0:pairsOk pairs cs=true) (hxx:∀a0,mkd pairs a0=true→∀i,X i=false) {γ:Gh} {a:Act} {w:World} (I:InvS W G γ (Hs 0) w) (En:EnvRep γ (E 0) a.tmps) (hn:a.tmps.size=nt) {Q:Exit→Act→World→Prop}
    (hX:∀(i:Nat) so,sl[i]? =some so→X i=true→
     (∃j so',j<i∧X j=true∧sl[j]? =some so'∧slotClash so' so=true)∨
     (∃j so',j<i∧X j=true∧sl[j]? =some so'∧so'.k.heapless=false∧so.k.heapless=false∧(j,i)∉pairs)∨
     (so.k.heapless=false∧(∀j,j<sl.length→j≠i→isW (cs.getD j (0,0)).1=true→j<i∧(j,i)∉pairs)∧evGuard (E i) so.g=some true∧∃dv H1,evKC c G (E i) (Hs i) so.k=some (.pan dv,H1)∧
      ∀γ' v a' w',γ.le γ'→Frame γ (Hs 0) w γ' H1 w'→InvS W G γ' H1 w'→RepD γ' v dv→EnvRep γ' (unwritten sl (E 0)) a'.tmps→a'.tmps.size=nt→a'.defers=a.defers→Q (.panic [{v,recovered:=false}]) a' w'))
    (hQ:(∀i,i<ops.size→X i=false)→∀γ' a' w',γ.le γ'→Frame γ (Hs 0) w γ' (Hs sl.length) w'→InvS W G γ' (Hs sl.length) w'→EnvRep γ' (E sl.length) a'.tmps→a'.tmps.size=nt→a'.defers=a.defers→Q .normal a' w'):
    wpAny P .any ops Q ops.size (Array.replicate ops.size false) a w:=by
 obtain⟨R0,hR0,hexA⟩:=drawOk_iff hok
 obtain⟨R,hRR⟩:∃R:Nat→Nat→Bool,∀i j,R i j=(R0 i j||(mkd pairs i&&ndS sl j)):=⟨_,fun _ _=>rfl⟩
 have hmk0:∀(i j:Nat),mkd pairs i=true→j<i→j<sl.length→R0 i j=false:=fun i j hm hj hjl=>by
  obtain⟨x,o,e,zx,tx,e1,e2,e3,e4,e5,e6,e7,e8⟩:=(hexA i hm).al
  rcases(hR0 i o x e2 e1).2 j _ hj (List.getElem?_eq_getElem hjl) with⟨_,p,hp,_⟩ |⟨h,_⟩
  ·rw[e8] at hp;simp at hp
  ·exact h
 have hR:∀(i:Nat) o b,ops.toList[i]? =some o→sl[i]? =some b→(∀p∈predsOf o,p<i)∧∀(j:Nat) a,j<i→sl[j]? =some a→
     (R i j=true∧((mkd pairs i=true∧slotClash a b=false)∨(R0 i j=true∧∃p∈predsOf o,p=j∨(j<p∧R0 p j=true))))∨(R i j=false∧slotClash a b=false∧(a.k.heapless=true∨b.k.heapless=true∨(j,i)∈pairs)):=fun i o b ho hb=>by
  obtain⟨h1,h2⟩:=hR0 i o b ho hb
  refine⟨h1,fun j a hj ha=>?_⟩
  rcases h2 j a hj ha with⟨q1,q2⟩ |⟨q1,q2,q3⟩
  ·exact .inl ⟨by rw[hRR,q1,Bool.true_or],.inr ⟨q1,q2⟩⟩
  ·cases hm:mkd pairs i with
   |true=>
    cases hh:a.k.heapless with
    |true=>exact .inr ⟨by rw[hRR,q1,hm];simp[ndS,ha,hh],q2,.inl rfl⟩
    |false=>exact .inl ⟨by rw[hRR,q1,hm];simp[ndS,ha,hh],.inl ⟨rfl,q2⟩⟩
   |false=>exact .inr ⟨by rw[hRR,q1,hm];rfl,q2,by rw[hm] at q3;simpa using q3⟩
 have getO:∀i,i<ops.size→∃o b,ops[i]? =some o∧ops.toList[i]? =some o∧sl[i]? =some b:=fun i hi=>
  ⟨ops[i],sl[i]'(by omega),Array.getElem?_eq_getElem hi,by simp[hi],List.getElem?_eq_getElem (by omega)⟩
 unfold pairsOk at hp0
 rw[Bool.and_eq_true] at hp0
 obtain⟨hp,hins⟩:=hp0
 have hpair:∀(j i:Nat),(j,i)∈pairs→clash (cs.getD j (0,0)) (cs.getD i (0,0))=false:=fun j i h=>by simpa using List.all_eq_true.1 hp (j,i) h
 have huniq:=insOk_ne hins
 generalize hcf:(fun j=>cs.getD j (0,0))=cf at T
 have hcf':∀j,cs.getD j (0,0)=cf j:=fun j=>by rw[←hcf]
 simp only[hcf'] at huniq hX
 have prom1:∀(M L:Array Bool) (γ1:Gh) (a1:Act) (w1:World) (B:Nat→Bool) (b:Nat),DrSt W G sl ops.size R (mkd pairs) X (E 0) d (fun l=>foldW (Hs 0) (fun j=>isW (cf j).1) (effH sl E Hs cf) l ops.size) γ (Hs 0) w M L γ1 a1 w1 B→B b=true→(∀j,j<b→ndS sl j=true→lst L j=true)→
     ∃γ2,DrSt W G sl ops.size R (mkd pairs) X (E 0) d (fun l=>foldW (Hs 0) (fun j=>isW (cf j).1) (effH sl E Hs cf) l ops.size) γ (Hs 0) w M (L.setIfInBounds b true) γ2 a1 w1 (fun j=>B j&&j !=b):=by
  intro M L γ1 a1 w1 B b st hb hpr
  obtain⟨hL,hcl,hnx,hle,hF,hI,hM,⟨blk,hinj,hB⟩,hE⟩:=st
  obtain⟨mb,lb,bn,y,ty,zs,hy,hyd,hyk,htm,hpv⟩:=hB b hb
  obtain⟨x,o,e,zx,tx,e1,e2,e3,e4,e5,e6,e7,e8⟩:=(hexA b mb).al
  have :x=y:=by rw[hy] at e1;cases e1;rfl
  subst this
  have :zx=zs:=by rw[hyk] at e4;cases e4;rfl
  subst this
  have stp:zx.all PD.one=true∧d b= .box (Hs b).bx.length 0∧Hs (b+1)={Hs b with bx:=(Hs b).bx++[zx.map .p]}∧cf b=(4+2*(Hs b).bx.length,0):=by
   rcases T.step b x hy with⟨q,_⟩ |⟨_,q2,q3⟩
   ·exfalso
    rcases q with q |q
    ·rw[hxx b mb b] at q;cases q
    ·rw[e6] at q;cases q
   ·rw[hyk,evKC_plain rfl] at q2
    simp only[evK] at q2
    split at q2
    ·rename_i d0 H0 hd0
     split at hd0
     ·rename_i hall1
      cases hd0
      simp only[Option.some.injEq,Prod.mk.injEq,Res.val.injEq] at q2
      obtain⟨q4,q5⟩:=q2
      refine⟨hall1,q4.symm,q5.symm,?_⟩
      rw[q3,hyk]
      simp[clsP,cls,isCl,clsR]
     ·cases hd0
    ·cases q2
  obtain⟨sy1,sy2,sy3,sy4⟩:=stp
  have hwy:isW (cf b).1=true:=by rw[sy4];exact isW_write _
  have late:∀j,b<j→j<ops.size→R j b=true→lst L j=false:=fun j hj hjn hr=>by
   cases hl:lst L j with
   |false=>rfl
   |true=>rw[hcl j hjn hl b hj hr] at lb;cases lb
  have lateW:∀j,b<j→j<ops.size→isW (cf j).1=true→lst L j=false:=fun j h1 h3 h4=>by
   obtain⟨oj,bj,_,hjo,hbj⟩:=getO j h3
   refine late j h1 h3 ?_
   rcases(hR j oj bj hjo hbj).2 b _ h1 hy with q |⟨_,_,q⟩
   ·exact q.1
   ·exfalso
    rcases q with q |q |q
    ·rw[hyk] at q;cases q
    ·rw[T.heapless hbj q] at h4;cases h4
    ·have:=hpair b j q
     rw[hcf',hcf',clash_any (by rw[sy4];dsimp only;omega) (fun b=>by rw[sy4];dsimp only;omega) (by rw[sy4]) h4] at this
     cases this
  have hHL:foldW (Hs 0) (fun j=>isW (cf j).1) (effH sl E Hs cf) (lst L) ops.size=Hs b:=by
   rw[T.heap b (by omega),←foldW_below ops.size (by omega)]
   refine foldW_congr _ fun j hj hw=>?_
   by_cases hne:j=b
   ·subst hne;simp[lb]
   ·by_cases hjb:j<b
    ·obtain⟨oj,bj,_,hjo,hbj⟩:=getO j hj
     rw[hpr j hjb ?_]
     ·simp[hjb]
     ·cases hh:bj.k.heapless with
      |false=>simp[ndS,hbj,hh]
      |true=>rw[T.heapless hbj hh] at hw;cases hw
    ·rw[lateW j (by omega) hj hw]
     simp[hjb]
  have hset3:=lst_set (L:=L) (i:=b) (by omega)
  have hH3:foldW (Hs 0) (fun j=>isW (cf j).1) (effH sl E Hs cf) (lst (L.setIfInBounds b true)) ops.size=Hs (b+1):=
   foldW_at (g0:=Hs 0) (wr:=fun j=>isW (cf j).1) (f:=effH sl E Hs cf) (l:=lst (L.setIfInBounds b true)) (i:=b) (x:=Hs (b+1)) (by rw[hset3];simp) hwy (fun _=>effH_plain (by rw[sy4])) _ bn fun j h1 h3 h4=>by
    rw[hset3,if_neg (by omega)]
    exact lateW j h1 h3 h4
  have hF:Frame γ (Hs 0) w γ1 (foldW (Hs 0) (fun j=>isW (cf j).1) (effH sl E Hs cf) (lst L) ops.size) w1:=hF
  have hI:InvS W G γ1 (foldW (Hs 0) (fun j=>isW (cf j).1) (effH sl E Hs cf) (lst L) ops.size) w1:=hI
  have hpv:Priv γ1 (foldW (Hs 0) (fun j=>isW (cf j).1) (effH sl E Hs cf) (lst L) ops.size) w.heap.size zx (blk b) w1:=hpv
  obtain⟨γ2,g1,g2,g3,g4,g5⟩:=hpv.add hI hF I.blw.size sy1 e5
  rw[hHL,←sy3] at g2 g3
  rw[hHL] at g4
  have g5:∀(s1:Nat) (zs1:List PD) (b1:Nat),b1≠blk b→Priv γ1 (foldW (Hs 0) (fun j=>isW (cf j).1) (effH sl E Hs cf) (lst L) ops.size) s1 zs1 b1 w1→Priv γ2 (Hs (b+1)) s1 zs1 b1 w1:=by
   rw[sy3,←hHL];exact g5
  rw[←hH3] at g2 g3 g5
  refine⟨γ2,by simp[hL],fun k hk hlk j hj hr=>?_,fun j _ hx=>(by rw[hxx b mb j] at hx;cases hx),hle.trans g1,g2,g3,fun j=>?_,⟨blk,fun b1 b2 h1 h2=>hinj b1 b2 ((Bool.and_eq_true_iff.1 h1).1) ((Bool.and_eq_true_iff.1 h2).1),fun b1 h1=>?_⟩,fun t ht=>?_⟩
  ·rw[hset3]
   split
   ·rfl
   ·rw[hset3] at hlk
    split at hlk
    ·rename_i hke
     subst hke
     rw[hRR,Bool.or_eq_true] at hr
     rcases hr with hr |hr
     ·rw[hmk0 b j mb hj (by omega)] at hr;cases hr
     ·exact hpr j hj (Bool.and_eq_true_iff.1 hr).2
    ·exact hcl k hk hlk j hj hr
  ·rw[hM,hset3]
   by_cases q1:b=j
   ·subst q1;simp[hb]
   ·have q':(j !=b)=true:=by simpa using fun e:j=b=>q1 e.symm
    rw[if_neg q1,q',Bool.and_true]
  ·obtain⟨h1,h2⟩:=Bool.and_eq_true_iff.1 h1
   have h2:b1≠b:=by simpa using h2
   obtain⟨m1,m2,m3,y1,ty1,zs1,m4,m5,m6,m7,m8⟩:=hB b1 h1
   exact⟨m1,by rw[hset3,if_neg (Ne.symm h2)];exact m2,m3,y1,ty1,zs1,m4,m5,m6,m7,g5 _ _ _ (fun q=>h2 (hinj b1 b h1 hb q)) m8⟩
  ·by_cases htt:t=ty
   ·subst htt
    rw[lastW_at (i:=b) (by rw[hset3];simp) (by simp[wrT,hy,hyd]) _ bn fun j h1 h2 h3=>?_,htm,sy2]
    ·exact g4
    ·rw[hset3,if_neg (by omega)]
     obtain⟨oj,bj,_,hjo,hbj⟩:=getO j h2
     refine late j h1 h2 ?_
     rcases(hR j oj bj hjo hbj).2 b _ h1 hy with q |⟨_,q,_⟩
     ·exact q.1
     ·exfalso
      have :bj.dst=some t:=by simpa[wrT,hbj] using h3
      simp[slotClash,hyd,this] at q
   ·rw[lastW_congr (l:=lst (L.setIfInBounds b true)) (l':=lst L) _ fun j hj hw=>by
     rw[hset3,if_neg]
     intro e
     subst e
     have :x.dst=some t:=by simpa[wrT,hy] using hw
     rw[hyd] at this
     cases this
     exact htt rfl]
    refine(hE t fun b1 y1 h1 h2=>?_).mono g1
    by_cases hbb:b1=b
    ·subst hbb
     rw[hy] at h2
     cases h2
     rw[hyd]
     intro q
     cases q
     exact htt rfl
    ·exact ht b1 y1 (by simp[h1,hbb]) h2
 have prom:∀(m:Nat) (M L:Array Bool) (γ1:Gh) (a1:Act) (w1:World) (B:Nat→Bool),left (lst L) ops.size=m→DrSt W G sl ops.size R (mkd pairs) X (E 0) d (fun l=>foldW (Hs 0) (fun j=>isW (cf j).1) (effH sl E Hs cf) l ops.size) γ (Hs 0) w M L γ1 a1 w1 B→
     ∃L' γ' B',DrSt W G sl ops.size R (mkd pairs) X (E 0) d (fun l=>foldW (Hs 0) (fun j=>isW (cf j).1) (effH sl E Hs cf) l ops.size) γ (Hs 0) w M L' γ' a1 w1 B'∧∀b,B' b=true→∃j,j<b∧ndS sl j=true∧lst L' j=false:=by
  intro m
  induction m with
  |zero=>
   intro M L γ1 a1 w1 B hm st
   refine⟨L,γ1,B,st,fun b hb=>?_⟩
   obtain⟨blk,_,hB⟩:=st.hB
   obtain⟨_,h2,h3,_⟩:=hB b hb
   rw[left_zero hm b h3] at h2
   cases h2
  |succ m ih=>
   intro M L γ1 a1 w1 B hm st
   by_cases hex:∃b,B b=true∧∀j,j<b→ndS sl j=true→lst L j=true
   ·obtain⟨b,hb,hpr⟩:=hex
    obtain⟨γ2,st2⟩:=prom1 M L γ1 a1 w1 B b st hb hpr
    obtain⟨blk,_,hB⟩:=st.hB
    obtain⟨_,h2,h3,_⟩:=hB b hb
    refine ih M _ γ2 a1 w1 _ ?_ st2
    have hLs:=st.hL
    have:=(left_set h2 (lst_set (L:=L) (i:=b) (by omega)) (n:=ops.size)).1 h3
    omega
   ·refine⟨L,γ1,B,st,fun b hb=>?_⟩
    refine Classical.byContradiction fun hne=>hex ⟨b,hb,fun j hj hnd=>?_⟩
    cases hl:lst L j with
    |true=>rfl
    |false=>exact absurd ⟨j,hj,hnd,hl⟩ hne
 have key:∀(fuel:Nat) (M L:Array Bool) (γ1:Gh) (a1:Act) (w1:World) (B:Nat→Bool),M.size=ops.size→left (lst M) ops.size=fuel→DrSt W G sl ops.size R (mkd pairs) X (E 0) d (fun l=>foldW (Hs 0) (fun j=>isW (cf j).1) (effH sl E Hs cf) l ops.size) γ (Hs 0) w M L γ1 a1 w1 B→a1.tmps.size=nt→a1.defers=a.defers→
     wpAny P .any ops Q fuel M a1 w1:=by
  intro fuel
  induction fuel with
  |zero=>
   intro M L0 γ0 a1 w1 B0 hMs hleft st0 hsz hdf
   have hallM:=left_zero hleft
   obtain⟨L,γ1,B,st,hnp⟩:=prom _ M L0 γ0 a1 w1 B0 rfl st0
   have hall:∀j,j<ops.size→lst L j=true:=by
    refine fun j hj=>Classical.byContradiction fun hne=>?_
    obtain⟨j0,h1,h2,h3⟩:=least_left (l:=lst L) ops.size ⟨j,hj,by simpa using hne⟩
    have hm:=hallM j0 h1
    rw[st.hM,h2,Bool.false_or] at hm
    obtain⟨k,k1,_,k2⟩:=hnp j0 hm
    rw[h3 k k1] at k2
    cases k2
   obtain⟨hL,hcl,hnx,hle,hF,hI,hM,⟨blk,hinj,hB⟩,hE⟩:=st
   have hF:Frame γ (Hs 0) w γ1 (foldW (Hs 0) (fun j=>isW (cf j).1) (effH sl E Hs cf) (lst L) ops.size) w1:=hF
   have hI:InvS W G γ1 (foldW (Hs 0) (fun j=>isW (cf j).1) (effH sl E Hs cf) (lst L) ops.size) w1:=hI
   have hE:∀t,RepD γ1 (a1.tmps.getD t undef) (lastW ((E 0).get t) (wrT sl t) d (lst L) ops.size):=fun t=>hE t fun b y hb _=>by
    obtain⟨_,h2,h3,_⟩:=hB b hb
    rw[hall b h3] at h2;cases h2
   refine⟨?_,?_⟩
   ·refine List.eq_nil_iff_forall_not_mem.2 fun i hi=>?_
    obtain⟨o,_,h1,h2,_⟩:=mem_ready hMs hi
    rw[hallM i h1] at h2;cases h2
   ·have e1:∀t,lastW ((E 0).get t) (wrT sl t) d (lst L) ops.size=(E sl.length).get t:=fun t=>by
     rw[T.get t _ (Nat.le_refl _),←hlen]
     exact lastW_congr _ fun j hj _=>hall j hj
    have e2:foldW (Hs 0) (fun j=>isW (cf j).1) (effH sl E Hs cf) (lst L) ops.size=Hs sl.length:=by
     rw[T.heap _ (Nat.le_refl _),←hlen]
     exact foldW_congr _ fun j hj _=>hall j hj
    rw[e2] at hF hI
    exact hQ (fun i hi=>by
     cases hx:X i with
     |false=>rfl
     |true=>have:=hnx i hi hx;rw[hall i hi] at this;cases this) γ1 a1 w1 hle hF hI (fun t=>by rw[←e1 t];exact hE t) hsz hdf
  |succ fuel ih=>
   intro M L0 γ0 a1 w1 B0 hMs hleft st0 hsz hdf
   refine⟨fun hnil=>?_,fun i hi=>?_⟩
   ·exfalso
    have hex:∃j,j<ops.size∧lst M j=false:=by
     refine Classical.byContradiction fun hne=>?_
     have hz:∀n,n≤ops.size→left (lst M) n=0:=by
      intro n
      induction n with
      |zero=>intro _;rfl
      |succ n ihn=>
       intro hn
       have :lst M n=true:=by
        cases hl:lst M n with
        |true=>rfl
        |false=>exact absurd ⟨n,by omega,hl⟩ hne
       simp only[left,this,if_true,ihn (by omega)]
     rw[hz _ (Nat.le_refl _)] at hleft
     omega
    obtain⟨j,h1,h2,h3⟩:=least_left _ hex
    obtain⟨o,b,ho,ho',hb⟩:=getO j h1
    have :j∈Region.ready .any ops M:=ready_of hMs ho h2 fun p hp=>h3 p ((hR j o b ho' hb).1 p hp)
    rw[hnil] at this
    cases this
   ·obtain⟨o,ho,hilt,hilM,hpr⟩:=mem_ready hMs hi
    obtain⟨o2,so,ho2,hol,hso⟩:=getO i hilt
    have :o2=o:=by rw[ho] at ho2;cases ho2;rfl
    subst this
    have hofi:=hof i o2 so ho hso
    obtain⟨L,γ1,B,st,hnp⟩:=prom _ M L0 γ0 a1 w1 B0 rfl st0
    obtain⟨hL,hcl,hnx,hle,hF,hI,hM,⟨blk,hinj,hB⟩,hE1⟩:=st
    have hF:Frame γ (Hs 0) w γ1 (foldW (Hs 0) (fun j=>isW (cf j).1) (effH sl E Hs cf) (lst L) ops.size) w1:=hF
    have hI:InvS W G γ1 (foldW (Hs 0) (fun j=>isW (cf j).1) (effH sl E Hs cf) (lst L) ops.size) w1:=hI
    obtain⟨hil,hBi⟩:lst L i=false∧B i=false:=by
     rw[hM] at hilM
     simpa using hilM
    have hleftM:left (lst (M.setIfInBounds i true)) ops.size=fuel:=by
     have:=(left_set hilM (lst_set (L:=M) (i:=i) (by omega)) (n:=ops.size)).1 hilt
     omega
    have hM2:(M.setIfInBounds i true).size=ops.size:=by simp[hMs]
    have hsetM:=lst_set (L:=M) (i:=i) (by omega)
    have mkClash:∀(i j:Nat) a b,mkd pairs i=true→j<i→sl[j]? =some a→sl[i]? =some b→slotClash a b=false:=fun i j a b hm hj ha hb=>by
     obtain⟨x,o,e,zx,tx,e1,e2,e3,e4,e5,e6,e7,e8⟩:=(hexA i hm).al
     rcases(hR0 i o b e2 hb).2 j a hj ha with⟨_,p,hp,_⟩ |⟨_,h,_⟩
     ·rw[e8] at hp;simp at hp
     ·exact h
    by_cases hmi:mkd pairs i=true
    ·
     obtain⟨x,o',e,zx,tx,e1,e2,e3,e4,e5,e6,e7,e8⟩:=(hexA i hmi).al
     have :x=so:=by rw[hso] at e1;cases e1;rfl
     subst this
     have :o'=o2:=by rw[hol] at e2;cases e2;rfl
     subst this
     have hw:=guard_ok (γ:=γ1) (env:=[]) hofi (fun t=>RepD.dead _) hsz hlt (b:=true) (by rw[e6];rfl)
     simp only[wpOp,ho]
     rw[if_pos hw]
     refine .inl ?_
     obtain⟨w2,r1,r2,r3,r4⟩:=alloc_priv (s0:=w.heap.size) (a:=a1) hI e3 (by rw[←e4];exact hofi.k) hF.size
     have hod:o'.dst=some tx:=by rw[←hofi.dst];exact e7
     have htx:tx<a1.tmps.size:=by rw[hsz];exact hofi.lt tx hod
     have hoth:∀b y ty,B b=true→sl[b]? =some y→y.dst=some ty→ty≠tx:=fun b y ty hb hy hyd e=>by
      subst e
      obtain⟨m1,_⟩:=hB b hb
      have hne:b≠i:=fun e=>by rw[e,hBi] at hb;cases hb
      by_cases hlt:b<i
      ·have:=mkClash i b y x hmi hlt hy hso
       simp[slotClash,hyd,e7] at this
      ·have:=mkClash b i x y m1 (by omega) hso hy
       simp[slotClash,hyd,e7] at this
     unfold Oper.wp
     rw[r1]
     refine ih (M.setIfInBounds i true) L γ1 _ w2 (fun j=>B j||j==i) hM2 hleftM ⟨hL,hcl,hnx,hle,hF.trans hle.base r2,r3,fun j=>?_,⟨fun j=>if j=i then w1.heap.size else blk j,fun b b' h1 h2 h3=>?_,fun b hb=>?_⟩,fun t ht=>?_⟩ ?_ ?_
     ·rw[hsetM,hM]
      by_cases q:i=j
      ·subst q;simp
      ·have q':(j==i)=false:=by simpa using fun e:j=i=>q e.symm
       rw[if_neg q,q',Bool.or_false]
     ·have hl1:∀b,B b=true→blk b<w1.heap.size:=fun b hb=>by
       obtain⟨_,_,_,_,_,_,_,_,_,_,h⟩:=hB b hb
       exact h.lt
      dsimp only at h1 h2 h3
      by_cases q1:b=i
      ·by_cases q2:b'=i
       ·rw[q1,q2]
       ·rw[if_pos q1,if_neg q2] at h3
        have:=hl1 b' (by simpa[q2] using h2)
        omega
      ·by_cases q2:b'=i
       ·rw[if_neg q1,if_pos q2] at h3
        have:=hl1 b (by simpa[q1] using h1)
        omega
       ·rw[if_neg q1,if_neg q2] at h3
        exact hinj b b' (by simpa[q1] using h1) (by simpa[q2] using h2) h3
     ·dsimp only at hb⊢
      by_cases q1:b=i
      ·subst q1
       rw[if_pos rfl]
       refine⟨hmi,hil,hilt,x,tx,zx,hso,e7,e4,?_,r4⟩
       rw[hod]
       simp[Act.put,Array.getD_eq_getD_getElem?,htx]
      ·rw[if_neg q1]
       have hb:B b=true:=by simpa[q1] using hb
       obtain⟨m1,m2,m3,y,ty,zs,m4,m5,m6,m7,m8⟩:=hB b hb
       refine⟨m1,m2,m3,y,ty,zs,m4,m5,m6,?_,m8.keep (.refl γ1) r2⟩
       rw[hod,←m7]
       simp[Act.put,Array.getD_eq_getD_getElem?,Ne.symm (hoth b y ty hb m4 m5)]
     ·have htt:t≠tx:=fun e=>ht i x (by simp) hso (by rw[e7,e])
      have:=hE1 t fun b y hb hy=>ht b y (by simp[hb]) hy
      rw[hod]
      simpa[Act.put,Array.getD_eq_getD_getElem?,Array.getElem?_setIfInBounds,Ne.symm htt] using this
     ·rw[hod];simp[Act.put,hsz]
     ·rw[hod];simp[Act.put,hdf]
    have hmi:mkd pairs i=false:=by simpa using hmi
    have notB:∀b,B b=true→b<i→R0 i b=false:=fun b hb hbi=>by
     cases hr:R0 i b with
     |false=>rfl
     |true=>
      exfalso
      obtain⟨m1,_⟩:=hB b hb
      obtain⟨k,k1,k2,k3⟩:=hnp b hb
      obtain⟨j0,q1,q2,q3⟩:=least_left (l:=fun j=>lst L j|| !ndS sl j) b ⟨k,k1,by simp[k2,k3]⟩
      have q2:lst L j0=false∧ndS sl j0=true:=by simpa using q2
      have q4:B j0=false:=by
       cases hb0:B j0 with
       |false=>rfl
       |true=>
        obtain⟨k',c1,c2,c3⟩:=hnp j0 hb0
        have:=q3 k' c1
        simp[c2,c3] at this
      obtain⟨p,hp,hp2⟩:=(hexA b m1).late i o2 hol hbi hr j0 q1 q2.2
      have hlp:=hpr p hp
      rw[hM,Bool.or_eq_true] at hlp
      rcases hp2 with rfl |⟨hp1,hp2,hp3⟩
      ·rw[q2.1,q4] at hlp;simp at hlp
      ·rcases hlp with hlp |hlp
       ·have:=hcl p (by have:=(hR i o2 so hol hso).1 p hp;omega) hlp j0 hp2 (by rw[hRR,hp3,Bool.true_or])
        rw[q2.1] at this;cases this
       ·obtain⟨m2,_⟩:=hB p hlp
        rw[hp1] at m2;cases m2
    have pre:∀j,j<i→R i j=true→lst L j=true:=fun j hj hr=>by
     obtain⟨b,hb⟩:∃b,sl[j]? =some b:=⟨_,List.getElem?_eq_getElem (by omega)⟩
     rcases(hR i o2 so hol hso).2 j b hj hb with⟨_,h1⟩ |h1
     ·rcases h1 with⟨h1,_⟩ |⟨hr0,p,hp,h1⟩
      ·rw[hmi] at h1;cases h1
      ·have hlp:=hpr p hp
       rw[hM,Bool.or_eq_true] at hlp
       rcases hlp with hlp |hlp
       ·rcases h1 with rfl |⟨h1,h2⟩
        ·exact hlp
        ·exact hcl p (by have:=(hR i o2 so hol hso).1 p hp;omega) hlp j h1 (by rw[hRR,h2,Bool.true_or])
       ·exfalso
        rcases h1 with rfl |⟨h1,h2⟩
        ·rw[notB p hlp hj] at hr0;cases hr0
        ·rw[hmk0 p j (hB p hlp).1 h1 (by omega)] at h2;cases h2
     ·rw[h1.1] at hr;cases hr
    have hnd:∀b y t,B b=true→sl[b]? =some y→y.dst=some t→¬(t∈so.uses∨so.dst=some t):=fun b y t hb hy hyd ht=>by
     have hne:b≠i:=fun e=>by rw[e,hBi] at hb;cases hb
     have hcc:slotClash y so=true∧slotClash so y=true:=by
      simp only[slotClash,hyd,Bool.or_eq_true]
      rcases ht with ht |ht
      ·exact⟨.inl (.inl (by simpa using ht)),.inr (by simpa using ht)⟩
      ·exact⟨.inl (.inr (by simp[ht])),.inl (by rw[ht];simp)⟩
     by_cases hlt:b<i
     ·rcases(hR0 i o2 so hol hso).2 b y hlt hy with⟨hr0,_⟩ |⟨_,h1,_⟩
      ·rw[notB b hb hlt] at hr0;cases hr0
      ·rw[hcc.1] at h1;cases h1
     ·have:=mkClash b i so y (hB b hb).1 (by omega) hso hy
      rw[hcc.2] at this;cases this
    have hE0:∀t,(t∈so.uses∨so.dst=some t)→RepD γ1 (a1.tmps.getD t undef) (lastW ((E 0).get t) (wrT sl t) d (lst L) ops.size):=fun t ht=>
     hE1 t fun b y hb hy hyd=>hnd b y t hb hy hyd ht
    have post:∀j,i<j→j<ops.size→R j i=true→lst L j=false:=fun j hj hjn hr=>by
     cases hl:lst L j with
     |false=>rfl
     |true=>rw[hcl j hjn hl i hj hr] at hil;cases hil
    have slots:∀t,(t∈so.uses∨so.dst=some t)→∀j,j<ops.size→wrT sl t j=true→j≠i→(lst L j=decide (j<i)):=fun t ht j hj hw hne=>by
     obtain⟨_,b,_,hjo,hb⟩:=getO j hj
     have hbd:b.dst=some t:=by simpa[wrT,hb] using hw
     by_cases hji:j<i
     ·rw[pre j hji ?_];simp[hji]
      rcases(hR i o2 so hol hso).2 j b hji hb with h |h
      ·exact h.1
      ·exfalso
       have:=h.2.1
       simp only[slotClash,hbd,Bool.or_eq_false_iff] at this
       rcases ht with ht |ht
       ·simp[ht] at this
       ·simp[ht] at this
     ·rw[post j (by omega) hj ?_];simp[hji]
      rcases(hR j _ b hjo hb).2 i so (by omega) hso with h |h
      ·exact h.1
      ·exfalso
       have:=h.2.1
       simp only[slotClash,hbd,Bool.or_eq_false_iff] at this
       rcases ht with ht |ht
       ·simp[ht] at this
       ·simp[ht] at this
    have tied:∀j,j<ops.size→j≠i→clash (cf i) (cf j)=true→lst L j=decide (j<i):=fun j hj hne h2=>by
     obtain⟨_,b,_,hjo,hb⟩:=getO j hj
     have hnl:∀(x:SO) (n:Nat),sl[n]? =some x→(cf n).1≠0→x.k.heapless=true→False:=fun x n hx h0 hh=>h0 (by rw[T.heapless hx hh])
     obtain⟨hi0,hj0⟩:=clash_ne h2
     have h3:clash (cf j) (cf i)=true:=by rw[clash_comm];exact h2
     by_cases hji:j<i
     ·rw[pre j hji ?_];simp[hji]
      rcases(hR i o2 so hol hso).2 j b hji hb with h |h
      ·exact h.1
      ·exfalso
       rcases h.2.2 with q |q |q
       ·exact hnl b j hb hj0 q
       ·exact hnl so i hso hi0 q
       ·have:=hpair j i q
        rw[hcf',hcf',h3] at this;cases this
     ·rw[post j (by omega) hj ?_];simp[hji]
      rcases(hR j _ b hjo hb).2 i so (by omega) hso with h |h
      ·exact h.1
      ·exfalso
       rcases h.2.2 with q |q |q
       ·exact hnl so i hso hi0 q
       ·exact hnl b j hb hj0 q
       ·have:=hpair i j q
        rw[hcf',hcf',h2] at this;cases this
    have heaps:(cf i).1≠0→(∀b,(cf i).1≠3+2*b)→(cf i).2=0→∀j,j<ops.size→j≠i→isW (cf j).1=true→lst L j=decide (j<i):=fun hi0 hnr hz j hj hne h2=>
     tied j hj hne (clash_any hi0 hnr hz h2)
    have hget:∀t∈so.uses,lastW ((E 0).get t) (wrT sl t) d (lst L) ops.size=(E i).get t:=fun t ht=>by
     rw[T.get t i (by omega),←lastW_below ops.size (by omega)]
     refine lastW_congr _ fun j hj hw=>?_
     by_cases hne:j=i
     ·subst hne;simp[hil]
     ·exact slots t (.inl ht) j hj hw hne
    have hheap:(cf i).1≠0→(∀b,(cf i).1≠3+2*b)→(cf i).2=0→foldW (Hs 0) (fun j=>isW (cf j).1) (effH sl E Hs cf) (lst L) ops.size=Hs i:=fun h0 hnr hz=>by
     rw[T.heap i (by omega),←foldW_below ops.size (by omega)]
     refine foldW_congr _ fun j hj hw=>?_
     by_cases hne:j=i
     ·subst hne;simp[hil]
     ·exact heaps h0 hnr hz j hj hne hw
    have hEi:EnvRep γ1 ((E i).keep so.uses) a1.tmps:=fun t=>by
     rw[Env.get_keep]
     split
     ·rename_i ht;rw[←hget t ht];exact hE0 t (.inl ht)
     ·exact .dead _
    have hgd:evGuard ((E i).keep so.uses) so.g=evGuard (E i) so.g:=by
     unfold evGuard
     cases hg:so.g with
     |none=>rfl
     |some tw=>
      obtain⟨t,want⟩:=tw
      have :t∈so.uses:=by simp[SO.uses,hg]
      simp only[Env.get_keep,this,if_true]
    have hevk:∀H2,evKC c G ((E i).keep so.uses) H2 so.k=evKC c G (E i) H2 so.k:=fun H2=>
     evKC_congr fun t ht=>by rw[Env.get_keep,if_pos (by simp[SO.uses,ht])]
    by_cases hXi:X i=true
    ·
     rcases hX i so hso hXi with⟨j,so',hj,hxj,hsj,hcj⟩ |⟨j,so',hj,hxj,hsj,h1,h2,h3⟩ |⟨hhl,hwr,hg,dv,H1,hpan,hQp⟩
     ·exfalso
      have hf:=hnx j (by omega) hxj
      rcases(hR i o2 so hol hso).2 j so' hj hsj with h |h
      ·rw[pre j hj h.1] at hf;cases hf
      ·rw[hcj] at h;cases h.2.1
     ·exfalso
      have hf:=hnx j (by omega) hxj
      rcases(hR i o2 so hol hso).2 j so' hj hsj with h |h
      ·rw[pre j hj h.1] at hf;cases hf
      ·rcases h.2.2 with q |q |q
       ·rw[h1] at q;cases q
       ·rw[h2] at q;cases q
       ·exact h3 q
     ·have hHi:foldW (Hs 0) (fun j=>isW (cf j).1) (effH sl E Hs cf) (lst L) ops.size=Hs i:=by
       rw[T.heap i (by omega),←foldW_below ops.size (by omega)]
       refine foldW_congr _ fun j hj hw=>?_
       by_cases hne:j=i
       ·subst hne;simp[hil]
       ·obtain⟨hji,hnp⟩:=hwr j (by omega) hne hw
        obtain⟨_,b,_,hjo,hb⟩:=getO j hj
        rw[pre j hji ?_]
        ·simp[hji]
        ·rcases(hR i o2 so hol hso).2 j b hji hb with h |h
         ·exact h.1
         ·exfalso
          rcases h.2.2 with q |q |q
          ·have:=T.heapless hb q;rw[this] at hw;cases hw
          ·rw[hhl] at q;cases q
          ·exact hnp q
      have hE:∀t,RepD γ1 (a1.tmps.getD t undef) (lastW ((E 0).get t) (wrT sl t) d (lst L) ops.size):=fun t=>hE1 t fun b y hb _=>by
       rw[hxx b (hB b hb).1 i] at hXi;cases hXi
      have hw:=guard_ok hofi hEi hsz hlt (hgd.trans hg)
      simp only[wpOp,ho]
      rw[if_pos hw]
      refine .inl ?_
      rw[hHi] at hF hI
      refine op_wp S hI hEi hofi.k ((hevk _).trans hpan) (fun v γ2 w2 d2 hr _ _ _ _=>by cases hr) (fun v γ2 w2 d2 hr h1 h2 h3 h4=>?_)
      cases hr
      refine hQp γ2 v a1 w2 (hle.trans h1) (hF.trans hle.base h2) h3 h4 (fun t=>?_) hsz hdf
      rw[unwritten_get]
      split
      ·exact .dead _
      ·rename_i hun
       have:=(hE t).mono h1
       rwa [lastW_none fun j hj hwj=>hun (by
        simp only[wrT,beq_iff_eq,Option.bind_eq_some_iff] at hwj
        obtain⟨b,hb,hbd⟩:=hwj
        exact List.any_eq_true.2 ⟨b,List.mem_of_getElem? hb,by rw[hbd];exact beq_self_eq_true _⟩)] at this
    have hXi:X i=false:=by simpa using hXi
    have hL2:(L.setIfInBounds i true).size=ops.size:=by simp[hL]
    have hset:=lst_set (L:=L) (i:=i) (by omega)
    have hcl2:∀k,k<ops.size→lst (L.setIfInBounds i true) k=true→∀j,j<k→R k j=true→lst (L.setIfInBounds i true) j=true:=fun k hk hlk j hj hr=>by
     rw[hset j]
     split
     ·rfl
     ·rw[hset k] at hlk
      split at hlk
      ·rename_i h;subst h;exact pre j hj hr
      ·exact hcl k hk hlk j hj hr
    have hW2:∀t,lastW ((E 0).get t) (wrT sl t) d (lst (L.setIfInBounds i true)) ops.size=if so.dst=some t then d i else lastW ((E 0).get t) (wrT sl t) d (lst L) ops.size:=fun t=>by
     split
     ·rename_i ht
      refine lastW_at (by rw[hset];simp) (by simp[wrT,hso,ht]) _ hilt fun j h1 h2 h3=>?_
      rw[hset,if_neg (by omega),slots t (.inr ht) j h2 h3 (by omega)]
      simp;omega
     ·rename_i ht
      refine lastW_congr _ fun j hj hw=>?_
      rw[hset,if_neg]
      intro h;subst h
      simp[wrT,hso] at hw
      exact ht hw
    have fin:∀γ2 w2 v,γ1.le γ2→Frame γ1 (foldW (Hs 0) (fun j=>isW (cf j).1) (effH sl E Hs cf) (lst L) ops.size) w1 γ2 (foldW (Hs 0) (fun j=>isW (cf j).1) (effH sl E Hs cf) (lst (L.setIfInBounds i true)) ops.size) w2→
        InvS W G γ2 (foldW (Hs 0) (fun j=>isW (cf j).1) (effH sl E Hs cf) (lst (L.setIfInBounds i true)) ops.size) w2→RepD γ2 v (d i)→wpAny P .any ops Q fuel (M.setIfInBounds i true) (a1.put o2.dst v) w2:=fun γ2 w2 v h1 h2 h3 h4=>by
     refine ih _ (L.setIfInBounds i true) γ2 _ w2 B hM2 hleftM ⟨hL2,hcl2,fun j hj hx=>?_,hle.trans h1,hF.trans hle.base h2,h3,fun j=>?_,⟨blk,hinj,fun b hb=>?_⟩,fun t ht=>?_⟩ ?_ ?_
     ·rw[hset]
      split
      ·rename_i e;rw[←e,hXi] at hx;cases hx
      ·exact hnx j hj hx
     ·rw[hsetM,hset,hM]
      split<;>rfl
     ·obtain⟨m1,m2,m3,y,ty,zs,m4,m5,m6,m7,m8⟩:=hB b hb
      have hne:i≠b:=fun e=>by rw[←e,hBi] at hb;cases hb
      refine⟨m1,by rw[hset,if_neg hne];exact m2,m3,y,ty,zs,m4,m5,m6,?_,m8.keep h1 h2⟩
      rw[←m7]
      have hdy:so.dst≠some ty:=fun e=>hnd b y ty hb m4 m5 (.inr e)
      rw[hofi.dst] at hdy
      cases hd:o2.dst with
      |none=>simp[Act.put]
      |some u=>
       have hut:u≠ty:=fun e=>hdy (by rw[hd,e])
       simp[Act.put,Array.getD_eq_getD_getElem?,hut]
     ·rw[hW2 t]
      have hE:=hE1 t ht
      rw[hofi.dst]
      cases hd:o2.dst with
      |none=>simpa[Act.put] using hE.mono h1
      |some u=>
       have hu:u<a1.tmps.size:=by rw[hsz];exact hofi.lt u hd
       simp only[Act.put,Option.some.injEq]
       split
       ·rename_i hut;subst hut
        simpa[Array.getD_eq_getD_getElem?,hu] using h4
       ·rename_i hut
        have:=hE.mono h1
        simpa[Array.getD_eq_getD_getElem?,Array.getElem?_setIfInBounds,hut] using this
     ·cases o2.dst<;>simp[Act.put,hsz]
     ·cases o2.dst<;>simp[Act.put,hdf]
    have hsame:isW (cf i).1=false→foldW (Hs 0) (fun j=>isW (cf j).1) (effH sl E Hs cf) (lst (L.setIfInBounds i true)) ops.size=foldW (Hs 0) (fun j=>isW (cf j).1) (effH sl E Hs cf) (lst L) ops.size:=fun h2=>
     foldW_congr _ fun j hj hw=>by
      rw[hset,if_neg]
      intro h;subst h
      rw[h2] at hw;cases hw
    simp only[wpOp,ho]
    rcases T.step i so hso with⟨hg,hd,hH,hc0⟩ |⟨hg,hd,_⟩
    ·have hg:evGuard (E i) so.g=some false:=by
      rcases hg with hg |hg
      ·rw[hXi] at hg;cases hg
      ·exact hg
     have hw:=guard_ok hofi hEi hsz hlt (hgd.trans hg)
     rw[if_neg (by simp[hw])]
     have hs:=hsame (by rw[hc0];rfl)
     refine fin γ1 w1 undef (.refl γ1) ?_ ?_ ?_
     ·rw[hs];exact .refl _ _ _
     ·rw[hs];exact hI
     ·rw[hd];exact RepD.undef
    ·have hw:=guard_ok hofi hEi hsz hlt (hgd.trans hg)
     rw[if_pos hw]
     refine .inl ?_
     by_cases h0:(cf i).1=0
     ·have hs:=hsame (by rw[h0];rfl)
      have hev:=T.free hso hXi h0 hg (foldW (Hs 0) (fun j=>isW (cf j).1) (effH sl E Hs cf) (lst L) ops.size)
      refine op_wp S hI hEi hofi.k ((hevk _).trans hev) (fun v γ2 w2 d2 hr h1 h2 h3 h4=>?_) (fun v γ2 w2 d2 hr _ _ _ _=>by cases hr)
      cases hr
      refine fin γ2 w2 v h1 ?_ ?_ h4
      ·rw[hs];exact h2
      ·rw[hs];exact h3
     ·by_cases hrd:∃b,(cf i).1=3+2*b
      ·obtain⟨b,hb⟩:=hrd
       have hs:=hsame (by rw[hb];exact isW_read b)
       have hbx:(foldW (Hs 0) (fun j=>isW (cf j).1) (effH sl E Hs cf) (lst L) ops.size).bx[b]? =(Hs i).bx[b]?:=by
        let gx:Nat→Option (List D)→Option (List D):=fun j o=>if(cf j).2=0 then(Hs (j+1)).bx[b]? else match(sl[j]?).bind fun so=>insOf (E j) so.k with
         |some q=>insB q o
         |none=>(Hs (j+1)).bx[b]?
        have insx:∀m,m<ops.size→(cf m).2≠0→∃q,(∀h,effH sl E Hs cf m h=insH q h)∧(∀o,gx m o=insB q o)∧((cf m).1=4+2*q.2.1∧q.2.1<2000000000)∧Hs (m+1)=insH q (Hs m):=by
         intro m hm hz
         have hsm:sl[m]? =some (sl[m]'(by omega)):=List.getElem?_eq_getElem (by omega)
         obtain⟨q,h1,h2,h3,h4⟩:=T.ins hsm hz
         refine⟨q,fun h=>effH_ins hsm hz h1,fun o=>?_,⟨by rw[h2],T.ins_lt hsm hz q h1⟩,(insOf_good h1 h4).2.2.1⟩
         simp only[gx,hz,if_false,hsm,Option.bind_some,h1]
        have one:∀m,m≤ops.size→(Hs m).bx[b]? =foldW ((Hs 0).bx[b]?) (fun j=>touches b (cf j).1) gx (fun _=>true) m:=by
         intro m
         induction m with
         |zero=>intro _;rfl
         |succ m ihm=>
          intro hm
          have hsm:sl[m]? =some (sl[m]'(by omega)):=List.getElem?_eq_getElem (by omega)
          simp only[foldW,true_and]
          rw[←ihm (by omega)]
          split
          ·rename_i ht
           by_cases hz:(cf m).2=0
           ·simp only[gx,hz,if_true]
           ·obtain⟨q,_,g2,g3,g4⟩:=insx m (by omega) hz
            rw[g2,g4,insH_at,if_pos]
            rw[g3.1,touches_one g3.2] at ht
            have :b=q.2.1:=by simpa using ht
            exact this.symm
          ·rename_i hnt
           rcases untouched (b:=b) (by simpa using hnt) with q |⟨i',q,hne⟩
           ·rw[T.quiet hsm q]
           ·exact T.apart hsm q hne
        have pref:∀m,m<ops.size→lst L m=true→isW (cf m).1=true→(cf m).2=0→∀j,j<m→isW (cf j).1=true→lst L j=true:=fun m hm hlm hwm hz j hj hwj=>by
         obtain⟨om,bm,_,hmo,hbm⟩:=getO m hm
         obtain⟨oj,bj,_,hjo,hbj⟩:=getO j (by omega)
         refine hcl m hm hlm j hj ?_
         rcases(hR m om bm hmo hbm).2 j bj hj hbj with h |h
         ·exact h.1
         ·exfalso
          rcases h.2.2 with q |q |q
          ·have:=T.heapless hbj q;rw[this] at hwj;cases hwj
          ·have:=T.heapless hbm q;rw[this] at hwm;cases hwm
          ·have:=hpair j m q
           rw[hcf',hcf',clash_ww hwj hwm (.inr (.inl hz))] at this;cases this
        have two:∀m,m≤ops.size→(foldW (Hs 0) (fun j=>isW (cf j).1) (effH sl E Hs cf) (lst L) m).bx[b]? =foldW ((Hs 0).bx[b]?) (fun j=>touches b (cf j).1) gx (lst L) m:=by
         intro m
         induction m with
         |zero=>intro _;rfl
         |succ m ihm=>
          intro hm
          by_cases hw:lst L m=true∧isW (cf m).1=true
          ·by_cases hz:(cf m).2=0
           ·have e1:foldW (Hs 0) (fun j=>isW (cf j).1) (effH sl E Hs cf) (lst L) (m+1)=Hs (m+1):=by
             simp only[foldW];rw[if_pos hw,effH_plain hz]
            rw[e1,one (m+1) hm]
            refine foldW_congr _ fun j hj ht=>?_
            by_cases hjm:j=m
            ·subst hjm;exact hw.1.symm
            ·exact(pref m (by omega) hw.1 hw.2 hz j (by omega) (touches_isW ht)).symm
           ·obtain⟨q,g1,g2,g3,g4⟩:=insx m (by omega) hz
            have e1:foldW (Hs 0) (fun j=>isW (cf j).1) (effH sl E Hs cf) (lst L) (m+1)=insH q (foldW (Hs 0) (fun j=>isW (cf j).1) (effH sl E Hs cf) (lst L) m):=by
             simp only[foldW];rw[if_pos hw,g1]
            rw[e1,insH_at,ihm (by omega)]
            by_cases hqb:q.2.1=b
            ·have ht:touches b (cf m).1=true:=by
              rw[g3.1,touches_one g3.2,hqb]
              simp
             simp only[foldW]
             rw[if_pos hqb,if_pos ⟨hw.1,ht⟩,g2]
            ·have ht:¬touches b (cf m).1=true:=by
              rw[g3.1,touches_one g3.2]
              simpa using fun e:b=q.2.1=>hqb e.symm
             simp only[foldW]
             rw[if_neg hqb,if_neg fun h=>ht h.2]
          ·have e1:foldW (Hs 0) (fun j=>isW (cf j).1) (effH sl E Hs cf) (lst L) (m+1)=foldW (Hs 0) (fun j=>isW (cf j).1) (effH sl E Hs cf) (lst L) m:=by
            simp only[foldW];rw[if_neg hw]
           have e2:foldW ((Hs 0).bx[b]?) (fun j=>touches b (cf j).1) gx (lst L) (m+1)=foldW ((Hs 0).bx[b]?) (fun j=>touches b (cf j).1) gx (lst L) m:=by
            simp only[foldW];rw[if_neg fun h=>hw ⟨h.1,touches_isW h.2⟩]
           rw[e1,e2,ihm (by omega)]
        rw[two _ (Nat.le_refl _),one i (by omega),←foldW_below ops.size (by omega)]
        refine foldW_congr _ fun j hj ht=>?_
        by_cases hne:j=i
        ·subst hne;simp[hil]
        ·exact tied j hj hne (clash_touch hb ht)
       have hev:=T.readBox hso hXi hb hg hbx
       refine op_wp S hI hEi hofi.k ((hevk _).trans hev) (fun v γ2 w2 d2 hr h1 h2 h3 h4=>?_) (fun v γ2 w2 d2 hr _ _ _ _=>by cases hr)
       cases hr
       refine fin γ2 w2 v h1 ?_ ?_ h4
       ·rw[hs];exact h2
       ·rw[hs];exact h3
      ·have hnr:∀b,(cf i).1≠3+2*b:=fun b h=>hrd ⟨b,h⟩
       by_cases hz:(cf i).2=0
       ·have hb:=hheap h0 hnr hz
        have hnext:Hs (i+1)=foldW (Hs 0) (fun j=>isW (cf j).1) (effH sl E Hs cf) (lst (L.setIfInBounds i true)) ops.size:=by
         by_cases h2:isW (cf i).1=true
         ·refine(foldW_at (g0:=Hs 0) (wr:=fun j=>isW (cf j).1) (f:=effH sl E Hs cf) (l:=lst (L.setIfInBounds i true)) (i:=i) (x:=Hs (i+1)) (by rw[hset];simp) h2 (fun _=>effH_plain hz) _ hilt fun j h1 h3 h4=>?_).symm
          rw[hset,if_neg (by omega),heaps h0 hnr hz j h3 (by omega) h4]
          simp;omega
         ·have h2:isW (cf i).1=false:=by simpa using h2
          rw[hsame h2,hb,T.quiet hso h2]
        rw[hb] at hI fin
        refine op_wp S hI hEi hofi.k ((hevk _).trans hd) (fun v γ2 w2 d2 hr h1 h2 h3 h4=>?_) (fun v γ2 w2 d2 hr _ _ _ _=>by cases hr)
        cases hr
        refine fin γ2 w2 v h1 ?_ ?_ h4
        ·rw[←hnext];exact h2
        ·rw[←hnext];exact h3
       ·
        obtain⟨q,hq1,hq2,_,hq4⟩:=T.ins hso hz
        obtain⟨hgood,hdu,hnx,hevq⟩:=insOf_good hq1 hq4
        have hwi:isW (cf i).1=true:=by rw[hq2];exact isW_write _
        have grp:∀j,j<ops.size→j≠i→isW (cf j).1=true→(clash (cf i) (cf j)=true∧lst L j=decide (j<i))∨∃q',(∀h,effH sl E Hs cf j h=insH q' h)∧(cf j).2≠0∧(cf j).1=(cf i).1∧q.2.1=q'.2.1∧keyCode q.2.2.1≠keyCode q'.2.2.1:=by
         intro j hj hne hw
         by_cases hcl':clash (cf i) (cf j)=true
         ·exact .inl ⟨hcl',tied j hj hne hcl'⟩
         ·right
          have h1:(cf j).2≠0:=fun e=>hcl' (clash_ww hwi hw (.inr (.inl e)))
          have h2:(cf i).1=(cf j).1:=Classical.byContradiction fun e=>hcl' (clash_ww hwi hw (.inr (.inr (.inl e))))
          have h3:(cf i).2≠(cf j).2:=fun e=>hcl' (clash_ww hwi hw (.inr (.inr (.inr e))))
          have hsj:sl[j]? =some (sl[j]'(by omega)):=List.getElem?_eq_getElem (by omega)
          obtain⟨q',g1,g2,_,_⟩:=T.ins hsj h1
          rw[hq2,g2] at h2 h3
          dsimp only at h2 h3
          exact⟨q',fun h=>effH_ins hsj h1 g1,h1,by rw[hq2,g2];dsimp only;omega,by omega,fun e=>h3 (by rw[e])⟩
        have hnext:foldW (Hs 0) (fun j=>isW (cf j).1) (effH sl E Hs cf) (lst (L.setIfInBounds i true)) ops.size=insH q (foldW (Hs 0) (fun j=>isW (cf j).1) (effH sl E Hs cf) (lst L) ops.size):=by
         have low:∀m,m≤i→foldW (Hs 0) (fun j=>isW (cf j).1) (effH sl E Hs cf) (lst (L.setIfInBounds i true)) m=foldW (Hs 0) (fun j=>isW (cf j).1) (effH sl E Hs cf) (lst L) m:=fun m hm=>
          foldW_congr m fun j hj _=>by rw[hset,if_neg (by omega)]
         have high:∀m,m≤ops.size→i<m→foldW (Hs 0) (fun j=>isW (cf j).1) (effH sl E Hs cf) (lst (L.setIfInBounds i true)) m=insH q (foldW (Hs 0) (fun j=>isW (cf j).1) (effH sl E Hs cf) (lst L) m):=by
          intro m
          induction m with
          |zero=>intro _ h;omega
          |succ m ihm=>
           intro hm him
           by_cases hmi:m=i
           ·subst hmi
            simp only[foldW]
            rw[if_pos ⟨by rw[hset];simp,hwi⟩,if_neg (fun h=>by rw[hil] at h;cases h.1),low m (Nat.le_refl _)]
            exact effH_ins hso hz hq1
           ·have hs':lst (L.setIfInBounds i true) m=lst L m:=by rw[hset m,if_neg (fun e=>hmi e.symm)]
            by_cases hw:lst L m=true∧isW (cf m).1=true
            ·rw[foldW_pos (l:=lst (L.setIfInBounds i true)) ⟨hs'.trans hw.1,hw.2⟩,foldW_pos hw,ihm (by omega) (by omega)]
             rcases grp m (by omega) hmi hw.2 with⟨_,h⟩ |⟨q',g1,_,_,g4,g5⟩
             ·rw[hw.1] at h
              have :m<i:=by simpa using h.symm
              omega
             ·rw[g1,g1]
              exact(insH_comm g5 g4 _).symm
            ·rw[foldW_neg (l:=lst (L.setIfInBounds i true)) (fun h=>hw ⟨hs'.symm.trans h.1,h.2⟩),foldW_neg hw,ihm (by omega) (by omega)]
         exact high _ (Nat.le_refl _) hilt
        have hgd2:insGood q ((foldW (Hs 0) (fun j=>isW (cf j).1) (effH sl E Hs cf) (lst L) ops.size).bx[q.2.1]?):=by
         have pr:∀m,m<i→lst L m=true→isW (cf m).1=true→((cf m).2=0∨(cf m).1≠(cf i).1)→∀j,j<m→isW (cf j).1=true→lst L j=true:=fun m hm hlm hwm hng j hj hwj=>by
          obtain⟨om,bm,_,hmo,hbm⟩:=getO m (by omega)
          obtain⟨oj,bj,_,hjo,hbj⟩:=getO j (by omega)
          rcases grp j (by omega) (by omega) hwj with⟨hcc,h⟩ |⟨q',g1,g2,g3,g4,g5⟩
          ·rw[h];simp;omega
          ·refine hcl m (by omega) hlm j hj ?_
           rcases(hR m om bm hmo hbm).2 j bj hj hbj with h |h
           ·exact h.1
           ·exfalso
            rcases h.2.2 with q |q |q
            ·have:=T.heapless hbj q;rw[this] at hwj;cases hwj
            ·have:=T.heapless hbm q;rw[this] at hwm;cases hwm
            ·have:=hpair j m q
             rw[hcf',hcf',clash_ww hwj hwm ?_] at this
             ·cases this
             ·rcases hng with e |e
              ·exact .inr (.inl e)
              ·exact .inr (.inr (.inl fun e'=>e (e'.symm.trans g3)))
         have cmp:∀m,m≤i→(insGood q ((foldW (Hs 0) (fun j=>isW (cf j).1) (effH sl E Hs cf) (fun _=>true) m).bx[q.2.1]?)↔insGood q ((foldW (Hs 0) (fun j=>isW (cf j).1) (effH sl E Hs cf) (lst L) m).bx[q.2.1]?)):=by
          intro m
          induction m with
          |zero=>intro _;rfl
          |succ m ihm=>
           intro hm
           by_cases hw:isW (cf m).1=true
           ·rcases grp m (by omega) (by omega) hw with⟨hcc,h⟩ |⟨q',g1,g2,g3,g4,g5⟩
            ·by_cases hng:(cf m).2=0∨(cf m).1≠(cf i).1
             ·have hlm:lst L m=true:=by rw[h];simp;omega
              have :foldW (Hs 0) (fun j=>isW (cf j).1) (effH sl E Hs cf) (fun _=>true) (m+1)=foldW (Hs 0) (fun j=>isW (cf j).1) (effH sl E Hs cf) (lst L) (m+1):=
               foldW_congr _ fun j hj hwj=>by
                by_cases hjm:j=m
                ·subst hjm;exact hlm.symm
                ·exact(pr m (by omega) hlm hw hng j (by omega) hwj).symm
              rw[this]
             ·
              exfalso
              have hng1:(cf m).2≠0:=fun e=>hng (.inl e)
              have hng2:(cf m).1=(cf i).1:=Classical.byContradiction fun e=>hng (.inr e)
              have hmi:=huniq m i (by omega) hng1
              have hcl2:¬clash (cf i) (cf m)=true:=by
               intro hc
               simp only[clash,Bool.and_eq_true,Bool.not_eq_true'] at hc
               have:=hc.2
               simp only[apartWW,Bool.and_eq_false_iff,bne_eq_false_iff_eq,beq_eq_false_iff_ne] at this
               rcases this with((e |e) |e) |e
               ·exact hz e
               ·exact hng1 e
               ·exact e hng2.symm
               ·exact hmi (Prod.ext hng2 e.symm)
              exact hcl2 hcc
            ·have gg:∀h:Hp,insGood q ((insH q' h).bx[q.2.1]?)↔insGood q (h.bx[q.2.1]?):=fun h=>by
              rw[insH_at,if_pos g4.symm]
              exact insGood_ins g5
             simp only[foldW,true_and]
             rw[if_pos hw,g1,gg,ihm (by omega)]
             by_cases hlm:lst L m=true
             ·rw[if_pos ⟨hlm,hw⟩,g1,gg]
             ·rw[if_neg fun h=>hlm h.1]
           ·simp only[foldW,true_and]
            rw[if_neg hw,if_neg fun h=>hw h.2]
            exact ihm (by omega)
         have up:∀m,m≤ops.size→i≤m→insGood q ((foldW (Hs 0) (fun j=>isW (cf j).1) (effH sl E Hs cf) (lst L) m).bx[q.2.1]?):=by
          intro m
          induction m with
          |zero=>
           intro _ h
           have hi0:i=0:=by omega
           rw[←cmp 0 (by omega)]
           have:=hgood
           rw[T.heap i (by omega),hi0] at this
           exact this
          |succ m ihm=>
           intro hm him
           by_cases hmi:i=m+1
           ·rw[←hmi,←cmp i (Nat.le_refl _),←T.heap i (by omega)]
            exact hgood
           ·have ih:=ihm (by omega) (by omega)
            by_cases hw:lst L m=true∧isW (cf m).1=true
            ·have hne:m≠i:=fun e=>by rw[e,hil] at hw;cases hw.1
             rcases grp m (by omega) hne hw.2 with⟨hcc,h⟩ |⟨q',g1,g2,g3,g4,g5⟩
             ·rw[hw.1] at h
              have :m<i:=by simpa using h.symm
              omega
             ·simp only[foldW]
              rw[if_pos hw,g1,insH_at,if_pos g4.symm]
              exact(insGood_ins g5).2 ih
            ·simp only[foldW]
             rw[if_neg hw]
             exact ih
         exact up _ (Nat.le_refl _) (by omega)
        have hrun:=insH_run hgd2
        have hev:evKC c G (E i) (foldW (Hs 0) (fun j=>isW (cf j).1) (effH sl E Hs cf) (lst L) ops.size) so.k=some (.val .undef,insH q (foldW (Hs 0) (fun j=>isW (cf j).1) (effH sl E Hs cf) (lst L) ops.size)):=by
         rw[hevq,hrun]
        refine op_wp S hI hEi hofi.k ((hevk _).trans hev) (fun v γ2 w2 d2 hr h1 h2 h3 h4=>?_) (fun v γ2 w2 d2 hr _ _ _ _=>by cases hr)
        cases hr
        refine fin γ2 w2 v h1 ?_ ?_ ?_
        ·rw[hnext];exact h2
        ·rw[hnext];exact h3
        ·rw[hdu];exact h4
 refine key _ (Array.replicate ops.size false) (Array.replicate ops.size false) γ a w (fun _=>false) (by simp) ?_ ⟨by simp,fun i hi hl=>by simp[lst,Array.getD_eq_getD_getElem?,hi] at hl,fun i hi _=>by simp[lst,Array.getD_eq_getD_getElem?,hi],.refl γ,?_,?_,fun j=>by simp,⟨fun _=>0,fun _ _ h=>(by cases h),fun _ h=>(by cases h)⟩,fun t _=>?_⟩ hn rfl
 ·have :∀n,n≤ops.size→left (lst (Array.replicate ops.size false)) n=n:=by
   intro n
   induction n with
   |zero=>intro _;rfl
   |succ n ihn=>
    intro h
    have h1:lst (Array.replicate ops.size false) n=false:=by simp[lst,Array.getD_eq_getD_getElem?,Array.getElem?_replicate];split<;>rfl
    simp only[left,h1,ihn (by omega)]
    rfl
  exact this _ (Nat.le_refl _)
 all_goals
  have hz2:∀{α:Type} (g0:α) (wr:Nat→Bool) (d:Nat→α→α) (n:Nat),foldW g0 wr d (lst (Array.replicate ops.size false)) n=g0:=by
   intro α g0 wr d n
   induction n with
   |zero=>rfl
   |succ n ihn=>
    have h1:lst (Array.replicate ops.size false) n=false:=by simp[lst,Array.getD_eq_getD_getElem?,Array.getElem?_replicate];split<;>rfl
    simp only[foldW,h1,Bool.false_eq_true,false_and,if_false,ihn]
  have hz:∀{α:Type} (g0:α) (wr:Nat→Bool) (d:Nat→α) (n:Nat),lastW g0 wr d (lst (Array.replicate ops.size false)) n=g0:=by
   intro α g0 wr d n
   induction n with
   |zero=>rfl
   |succ n ihn=>
    have h1:lst (Array.replicate ops.size false) n=false:=by simp[lst,Array.getD_eq_getD_getElem?,Array.getElem?_replicate];split<;>rfl
    simp only[lastW,h1,Bool.false_eq_true,false_and,if_false,ihn]
  first |(rw[hz2];exact .refl _ _ _) |(rw[hz2];exact I) |(rw[hz];exact En t)
theorem draw_wp{c:CallR}(S:Sound P W G c){ops:Array Oper}{sl:List SO}{nt:Nat}(hlen:ops.size=sl.length)(hof:∀(i:Nat) o so,ops[i]? =some o→sl[i]? =some so→OpOf P ops nt o so)
    (hlt:∀(j:Nat) o' t,ops[j]? =some o'→o'.dst=some t→t<nt) {pairs:List (Nat×Nat)} (hok:drawOk pairs ops.toList sl=true) {env env':Env} {H H':Hp} {cs:List (Nat×Nat)} (ev:evDraw c G sl env H=some (env',H',cs))
    (hp0:pairsOk pairs cs=true) {γ:Gh} {a:Act} {w:World} (I:InvS W G γ H w) (En:EnvRep γ env a.tmps) (hn:a.tmps.size=nt) {Q:Exit→Act→World→Prop}
    (hQ:∀γ' a' w',γ.le γ'→Frame γ H w γ' H' w'→InvS W G γ' H' w'→EnvRep γ' env' a'.tmps→a'.tmps.size=nt→a'.defers=a.defers→Q .normal a' w'):
    wpAny P .any ops Q ops.size (Array.replicate ops.size false) a w:=by
 obtain⟨E,Hs,d,rfl,rfl,rfl,rfl,T⟩:=evDraw_trace ev
 exact draw_wpX S hlen hof hlt hok T hp0 (fun _ _ _=>rfl) I En hn (fun i so _ h=>by cases h) fun _=>hQ
theorem pan_heapless{c:CallR}{e:Env}{H H':Hp}{k:SK}{d:D}(h:evKC c G e H k=some (.pan d,H')):k.heapless=false:=by
 cases hk:k.heapless with
 |false=>rfl
 |true=>
  have hc:k.isCall=false:=by cases k<;>first |rfl |cases hk
  rw[evKC_plain hc] at h
  split at h<;>cases h
theorem draw_pan{c:CallR}(S:Sound P W G c){ops:Array Oper}{sl:List SO}{nt:Nat}(hlen:ops.size=sl.length)(hof:∀(i:Nat) o so,ops[i]? =some o→sl[i]? =some so→OpOf P ops nt o so)
    (hlt:∀(j:Nat) o' t,ops[j]? =some o'→o'.dst=some t→t<nt) {pairs:List (Nat×Nat)} (hok:drawOk pairs ops.toList sl=true) {env:Env} {H H':Hp} {dv:D} {cs:List (Nat×Nat)} {k:Nat} (ev:evDrawP c G pairs 0 sl env H=some (dv,H',cs,k))
    (hp0:pairsOk pairs cs=true) (hp1:panOk pairs cs k=true) {γ:Gh} {a:Act} {w:World} (I:InvS W G γ H w) (En:EnvRep γ env a.tmps) (hn:a.tmps.size=nt) {Q:Exit→Act→World→Prop}
    (hQ:∀γ' v a' w',γ.le γ'→Frame γ H w γ' H' w'→InvS W G γ' H' w'→RepD γ' v dv→EnvRep γ' (unwritten sl env) a'.tmps→a'.tmps.size=nt→a'.defers=a.defers→Q (.panic [{v,recovered:=false}]) a' w'):
    wpAny P .any ops Q ops.size (Array.replicate ops.size false) a w:=by
 obtain⟨E,Hs,d,X,k0,rfl,rfl,rfl,T,b1,b2,⟨so0,b3,b4,b5⟩,b6,b7⟩:=evDrawP_trace ev
 have hlt0:k0<sl.length:=(List.getElem?_eq_some_iff.1 b3).1
 refine draw_wpX S hlen hof hlt hok T hp0 (fun a0 ha0=>by
  have hm:(1000000+a0,0)∈pairs:=by simpa[mkd] using ha0
  have:=List.all_eq_true.1 hp1 _ hm
  simp only[Bool.and_eq_true,decide_eq_true_eq] at this
  omega) I En hn (fun i so hs hx=>?_) fun hall=>?_
 ·by_cases hik:i=k0
  ·subst hik
   rw[b3] at hs
   cases hs
   refine .inr (.inr ⟨pan_heapless b5,fun j hj hne hw=>?_,b4,dv,H',b5,hQ⟩)
   have hji:j<i:=by
    by_cases h:j<i
    ·exact h
    ·rw[b6 j (by omega)] at hw;cases hw
   refine⟨hji,fun hm=>?_⟩
   have:=List.all_eq_true.1 hp1 (j,i) hm
   rw[List.getD_eq_getElem?_getD] at hw
   simp[hw] at this
  ·obtain⟨h1,h2⟩:=b7 i so hs hx hik
   rcases h2 with⟨j',so',q1,q2,q3,q4⟩ |⟨q1,q2⟩
   ·exact .inl ⟨j',so',q1,q2,q3,q4⟩
   ·refine .inr (.inl ⟨k0,so0,h1,b1,b3,pan_heapless b5,q1,?_⟩)
    rw[Nat.zero_add,Nat.zero_add] at q2
    exact q2
 ·have:=hall k0 (by omega)
  rw[b1] at this
  cases this
end Go.Vs
namespace Go.Vs
variable {P : Program}
def wr(ro:Option Nat):Fence:={Fence.wide with round:=ro}
theorem wr_room(ro:Option Nat)(n:Nat):(wr ro).room n:=room_wide n
theorem wr_depth(ro:Option Nat):(wr ro).depth.isSome=true→1≤0:=fun h=>by cases h
theorem callsIn_wr{ro:Option Nat}{n:Nat}{f:FuncId}{args:Array Value}{w:World}{R:Ending→World→Prop}:CallsIn (wr ro) n P f args w R↔Calls P f args w R:=
 (callsIn_wide:CallsIn Fence.wide n P f args w R↔Calls P f args w R)
theorem rowsIn_wr{ro:Option Nat}{n:Nat}{row:String}{args:Array Value}{w:World}{R:Value→World→Prop}(h:Rows P row args w R):RowsIn (wr ro) n P row args w R:=
 fun c cs _=>let⟨v,w',r,s⟩:=h c cs;⟨v,w',r,stepsIn_wide.2 s⟩
def nodef(o:Oper):Bool:=match o.op with
 | .defer _=>false
 |_=>true
theorem nodef_ne{o:Oper}(h:nodef o=true):∀c,o.op≠.defer c:=by
 intro c e
 unfold nodef at h
 rw[e] at h
 cases h
theorem upR{ro:Option Nat}{o:Oper}{a:Act}{K:Act→World→Prop}{Q:Exit→Act→World→Prop}{r:Result Next}(h:o.upon P a K Q r):o.uponIn (wr ro) 0 P a K Q r:=by
 unfold Oper.upon at h
 unfold Oper.uponIn
 split at h
 ·exact h
 ·exact h
 ·exact h
 ·exact⟨wr_depth ro,callsIn_wr.2 h⟩
 ·exact⟨wr_depth ro,rowsIn_wr h⟩
 ·exact h
 ·exact h.elim
theorem opR{ro:Option Nat}{o:Oper}(hd:nodef o=true){a:Act}{w:World}{K:Act→World→Prop}{Q:Exit→Act→World→Prop}(h:o.wp P a w K Q):o.wpIn (wr ro) 0 P a w K Q:=by
 refine⟨fun _ _=>trivial,?_⟩
 rw[Oper.semAt_eq _ _ _ (nodef_ne hd)]
 exact upR h
theorem wpListR{ro:Option Nat}{ops:Array Oper}{Q:Exit→Act→World→Prop}(hQ:∀a w,¬Q .outgrown a w):∀(l:List Oper),(∀o∈l,nodef o=true)→∀a w,wpList P ops Q l a w→wpListIn (wr ro) 0 P ops Q l a w
 |[],_,a,w,h=>h
 |o::l,hl,a,w,h=>by
  simp only[wpList] at h
  simp only[wpListIn]
  split at h
  ·rename_i hw
   rw[if_pos hw]
   rcases h with h |⟨_,a',w',q⟩
   ·exact opR (hl o (by simp)) (Oper.wp_mono (fun a w q=>wpListR hQ l (fun o ho=>hl o (by simp[ho])) a w q) h)
   ·exact(hQ _ _ q).elim
  ·rename_i hw
   rw[if_neg hw]
   exact⟨fun _ _=>trivial,wpListR hQ l (fun o ho=>hl o (by simp[ho])) _ _ h⟩
theorem wpAnyR{ro:Option Nat}{md:Region.Mode}{ops:Array Oper}{Q:Exit→Act→World→Prop}(hQ:∀a w,¬Q .outgrown a w)(hd:∀o∈ops.toList,nodef o=true):∀(fuel:Nat) (listed:Array Bool) (a:Act) (w:World),wpAny P md ops Q fuel listed a w→wpAnyIn (wr ro) 0 P md ops Q fuel listed a w
 | 0,listed,a,w,h=>h
 |fuel+1,listed,a,w,h=>by
  refine⟨h.1,fun i hi=>?_⟩
  have h2:=h.2 i hi
  unfold wpOp at h2
  unfold wpOpIn
  cases ho:ops[i]? with
  |none=>
   rw[ho] at h2
   exact wpAnyR hQ hd fuel _ _ _ h2
  |some o=>
   rw[ho] at h2
   dsimp only at h2⊢
   split at h2
   ·rename_i hw
    rw[if_pos hw]
    rcases h2 with h2 |⟨_,a',w',q⟩
    ·refine opR (hd o ?_) (Oper.wp_mono (fun a w q=>wpAnyR hQ hd fuel _ a w q) h2)
     rw[←Array.getElem?_toList] at ho
     exact List.mem_of_getElem? ho
    ·exact(hQ _ _ q).elim
   ·rename_i hw
    rw[if_neg hw]
    exact⟨fun _ _=>trivial,wpAnyR hQ hd fuel _ _ _ h2⟩
def roundEnd(P:Program)(l:Nat)(R:Ending→World→Prop):Exit→Act→World→Prop
 | .normal,_,w=>∃v w',(Instr.endRound l none).run P w= .ok v w'∧R (.returned v) w'
 | .ret,_,w=>∃v w',(Instr.endRound l (some .ret)).run P w= .ok v w'∧R (.returned v) w'
 | .exit id,_,w=>∃v w',(Instr.endRound l (some (.exit id))).run P w= .ok v w'∧R (.returned v) w'
 | .panic chain,a,w=>a.defers=[]∧R (.panicked chain) w
 |_,_,_=>False
def wpR(ro:Option Nat)(fid:Nat)(P:Program)(c:Code)(Q:Exit→Act→World→Prop)(a:Act)(w:World):Prop:=
 ∀(b:Go.Frame) (k:List Item) (cs:List Go.Frame),b.roundOf=ro→b.fn=fid→
  ∃e a' w',Q e a' w'∧ArrivesIn (Machine.fenced P Fence.wide) P (lone (b.atR a (.code c::k)) cs w) b k cs e a' w'
section
variable {ro : Option Nat} {fid : Nat} {c : Code} {Q : Exit → Act → World → Prop} {a : Act} {w : World}
theorem wpR_of_in(h:c.wpIn (wr ro) 0 P Q a w):wpR ro fid P c Q a w:=fun b k cs hb _=>h b k cs hb trivial (wr_room _ _)
theorem wpR_mono{Q':Exit→Act→World→Prop}(h:wpR ro fid P c Q a w)(hq:∀e a w,Q e a w→Q' e a w):wpR ro fid P c Q' a w:=fun b k cs hb hf=>
 let⟨e,a',w',q,r⟩:=h b k cs hb hf
 ⟨e,a',w',hq _ _ _ q,r⟩
theorem one_wide{m m':Machine}(h:step P m= .next m'):StepsIn (Machine.fenced P Fence.wide) P m m':=.one (fenced_wide P m) h
theorem wpR_seq{x y:Code}(h:wpR ro fid P x (Exit.then (wpR ro fid P y Q) Q) a w):wpR ro fid P (.seq x y) Q a w:=by
 intro b k cs hb hf
 have h0:StepsIn (Machine.fenced P Fence.wide) P (lone (b.atR a (.code (.seq x y)::k)) cs w) _:=one_wide stepR_seq
 obtain⟨e,a1,w1,q,r⟩:=h b (.code y::k) cs hb hf
 cases e with
 |normal=>
  obtain⟨e2,a2,w2,q2,r2⟩:=q b k cs hb hf
  exact⟨e2,a2,w2,q2,.of_steps (h0.trans r) r2⟩
 |_=>exact⟨_,a1,w1,q,.of_steps h0 (.pass (x:=.code y) rfl (fun _ _=>.inl (by simp)) r)⟩
theorem wpR_cond{o:Operand}{x y:Code}{t:Bool}(ho:a.eval o= .bool t)(h:wpR ro fid P (if t then x else y) Q a w):wpR ro fid P (.cond o x y) Q a w:=by
 intro b k cs hb hf
 obtain⟨e,a1,w1,q,r⟩:=h b k cs hb hf
 exact⟨e,a1,w1,q,.of_steps (one_wide (stepR_cond ho)) r⟩
theorem wpR_loop(m:Nat):∀{a:Act} {w:World},(∀R:Nat→Act→World→Prop,(∀a w,¬R 0 a w)→(∀n a w,wpR ro fid P c (Exit.then (R n) Q) a w→R (n+1) a w)→R m a w)→wpR ro fid P (.loop c) Q a w:=by
 intro a w h b k cs hb hf
 have key:=h (fun n a w=>n≠0∧∃e a' w',Q e a' w'∧ArrivesIn (Machine.fenced P Fence.wide) P (lone (b.atR a (.code c:: .inLoop c::k)) cs w) b k cs e a' w') (fun a w q=>q.1 rfl) (fun n a w hn=>by
  refine⟨by omega,?_⟩
  obtain⟨e,a1,w1,q,r⟩:=hn b (.inLoop c::k) cs hb hf
  cases e with
  |normal=>
   obtain⟨_,e2,a2,w2,q2,r2⟩:=q
   exact⟨e2,a2,w2,q2,.of_steps (StepsIn.trans r (one_wide stepR_inLoop)) r2⟩
  |_=>exact⟨_,a1,w1,q,.pass (x:=.inLoop c) rfl (fun _ _=>.inl (by simp)) r⟩)
 obtain⟨_,e,a1,w1,q,r⟩:=key
 exact⟨e,a1,w1,q,.of_steps (one_wide stepR_loop) r⟩
theorem wpR_block{id:Nat}(h:wpR ro fid P c (Exit.inBlock id Q) a w):wpR ro fid P (.block id c) Q a w:=by
 intro b k cs hb hf
 have h0:StepsIn (Machine.fenced P Fence.wide) P (lone (b.atR a (.code (.block id c)::k)) cs w) _:=one_wide stepR_block
 obtain⟨e,a1,w1,q,r⟩:=h b (.inBlock id::k) cs hb hf
 cases e with
 |normal=>exact⟨.normal,a1,w1,q,h0.trans (StepsIn.trans r (one_wide stepR_inBlock))⟩
 |exit i=>
  by_cases hi:i=id
  ·simp only[Exit.inBlock,hi,if_true] at q
   exact⟨.normal,a1,w1,q,h0.trans (r.1 k (by simp[exitTo,hi]))⟩
  ·simp only[Exit.inBlock,hi,if_false] at q
   have hx:exitTo i (.inBlock id::k)=exitTo i k:=by
    have :(id==i)=false:=by simpa using fun e=>hi e.symm
    simp[exitTo,this]
   refine⟨.exit i,a1,w1,q,?_,?_⟩
   ·intro k' hk
    exact h0.trans (r.1 k' (hx.trans hk))
   ·intro hr hk
    obtain⟨k1,g1,g2⟩:=r.2 hr (hx.trans hk)
    exact⟨k1,g1,h0.trans g2⟩
 |goto l=>
  have hx:gotoIn l (.inBlock id::k)=gotoIn l k:=by simp[gotoIn]
  refine⟨.goto l,a1,w1,q,?_,?_⟩
  ·intro k' hk
   exact h0.trans (r.1 k' (hx.trans hk))
  ·intro hr hk
   obtain⟨k1,g1,g2⟩:=r.2 hr (hx.trans hk)
   exact⟨k1,g1,h0.trans g2⟩
 |_=>exact⟨_,a1,w1,q,.of_steps h0 r⟩
theorem stepRo_scope{b:Go.Frame}{k:List Item}{cs:List Go.Frame}:step P (lone (b.atR a (.code (.scope c)::k)) cs w)= .next (lone (b.atR a (.code c:: .inScope c::k)) cs w):=
 step_lone_go (by simp[stepG,stepG.exec,Go.Frame.atR])
theorem stepRo_inScope{b:Go.Frame}{k:List Item}{cs:List Go.Frame}:step P (lone (b.atR a (.inScope c::k)) cs w)= .next (lone (b.atR a k) cs w):=
 step_lone_go (by simp[stepG,stepG.exec,Go.Frame.atR])
theorem wpR_scope(h:wpR ro fid P c (Exit.noGoto Q) a w):wpR ro fid P (.scope c) Q a w:=by
 intro b k cs hb hf
 have h0:StepsIn (Machine.fenced P Fence.wide) P (lone (b.atR a (.code (.scope c)::k)) cs w) _:=one_wide stepRo_scope
 obtain⟨e,a1,w1,q,r⟩:=h b (.inScope c::k) cs hb hf
 cases e with
 |normal=>exact⟨.normal,a1,w1,q,h0.trans (StepsIn.trans r (one_wide stepRo_inScope))⟩
 |exit i=>
  have hx:exitTo i (.inScope c::k)=exitTo i k:=by simp[exitTo]
  refine⟨.exit i,a1,w1,q,?_,?_⟩
  ·intro k' hk
   exact h0.trans (r.1 k' (hx.trans hk))
  ·intro hr hk
   obtain⟨k1,g1,g2⟩:=r.2 hr (hx.trans hk)
   exact⟨k1,g1,h0.trans g2⟩
 |goto l=>exact q.elim
 |_=>exact⟨_,a1,w1,q,.of_steps h0 r⟩
end
theorem round_of_wp{l:Nat}{fid:FuncId}{fnc:Func}(hfn:P.funcs[fid]? =some fnc){tmps:Array Value}{assign body:Code}{w:World}{R:Ending→World→Prop}
    (h:wpR (some l) fid P assign (Exit.then (fun a₁ w₁=>∃w₂,(Instr.beginRound l).run P w₁= .ok () w₂∧wpR (some l) fid P body (roundEnd P l R) a₁ w₂) (fun _ _ _=>False))
     {tmps:=tmps,defers:=[]} w):RoundIn (wr none) 0 P l fid tmps assign body w R:=by
 refine⟨trivial,fun c cs _=>?_⟩
 obtain⟨b,hb⟩:∃b:Go.Frame,b={(default:Go.Frame) with fn:=fid,kind:=.normal,roundOf:=some l}:=⟨_,rfl⟩
 have b1:b.roundOf=some l:=by rw[hb]
 have b2:b.fn=fid:=by rw[hb]
 have b3:b.kind= .normal:=by rw[hb]
 have hb0:Go.Frame.round l fid tmps assign body .normal=b.atR {tmps:=tmps,defers:=[]} [.code assign,.beginRound,.code body]:=by
  rw[hb];simp[Go.Frame.round,Go.Frame.atR]
 rw[hb0]
 obtain⟨e,a1,w1,hq,harr⟩:=h b [.beginRound,.code body] (c::cs) b1 b2
 cases e with
 |normal=>
  obtain⟨w2,hbr,hbody⟩:=hq
  have s1:=StepsIn.trans harr (one_wide (stepR_beginRound (k:=[.code body]) (cs:=c::cs) (a:=a1) b1 hbr))
  obtain⟨e2,a2,w3,hq2,harr2⟩:=hbody b [] (c::cs) b1 b2
  cases e2 with
  |normal=>
   obtain⟨v,w4,hend,hR⟩:=hq2
   exact⟨.returned v,w4,hR,s1.trans (StepsIn.trans harr2 (one_wide (stepR_round_end b1 b3 hend)))⟩
  |ret=>
   obtain⟨v,w4,hend,hR⟩:=hq2
   obtain⟨k1,hs⟩:=harr2.2 (by rw[b1];rfl)
   exact⟨.returned v,w4,hR,s1.trans (StepsIn.trans hs (one_wide (stepR_round_ret b1 b3 hend)))⟩
  |exit id=>
   obtain⟨v,w4,hend,hR⟩:=hq2
   obtain⟨k1,hk,hs⟩:=harr2.2 (by rw[b1];rfl) rfl
   exact⟨.returned v,w4,hR,s1.trans (StepsIn.trans hs (one_wide (stepR_round_exit b1 b3 hk hend)))⟩
  |panic chain=>
   obtain⟨hd,hR⟩:=hq2
   obtain⟨todo,hs⟩:=harr2
   have hleave:Go.Frame.leaving P ({b.atR a2 todo with mode:=.panicking chain}:Go.Frame) w3 (.panicked chain):=⟨rfl,hd,fnc,by show P.funcs[b.fn]? =_;rw[b2];exact hfn⟩
   exact⟨.panicked chain,w3,hR,s1.trans (StepsIn.trans hs (one_wide (step_leave_panicked hleave)))⟩
  |goto t=>exact hq2.elim
  |outgrown=>exact hq2.elim
 |exit id=>exact hq.elim
 |goto t=>exact hq.elim
 |ret=>exact hq.elim
 |panic chain=>exact hq.elim
 |outgrown=>exact hq.elim
end Go.Vs
namespace Go.Vs
variable {P : Program} {W : World} {G : Nat → Option (List PD)} {γ : Gh} {H : Hp} {w : World}
def Obj.plainO:Obj→Bool
 | .loop _=>true
 | .deferred _=>true
 |_=>false
theorem Inv.not_box(I:Inv G γ H w){b:Nat}{o:Obj}(hb:w.heap[b]? =some o)(ho:Obj.plainO o=true):b∉γ.boxes:=fun h=>by
 obtain⟨i,hi⟩:=List.getElem?_of_mem h
 have hlt:i<H.bx.length:=by rw[←I.lenB];exact(List.getElem?_eq_some_iff.1 hi).1
 obtain⟨vs,T,fr,q,_⟩:=I.box i b _ hi (List.getElem?_eq_getElem hlt)
 unfold viewC at q
 rw[hb] at q
 split at q
 ·cases o<;>first |(cases ho;done) |(simp at q)
 ·cases q
  cases ho
theorem Inv.not_owned(I:Inv G γ H w){b:Nat}{o:Obj}(hb:w.heap[b]? =some o)(ho:Obj.plainO o=true):¬Owned γ H b:=by
 rintro (h |⟨t,row,f,cap,h1,h2,h3,h4⟩)
 ·exact I.not_box hb ho h.mem
 ·obtain⟨r,hr,hok⟩:=I.row t row f h1 h2
  rw[h3] at hr
  cases hr
  obtain⟨cur,fr,q,_⟩:=hok.2 h4
  rw[hb] at q
  cases q
  cases ho
theorem Frame.stands{γ':Gh}{H':Hp}{w':World}(I:Inv G γ H w)(F:Frame γ H w γ' H' w'){b:Nat}{o:Obj}(hb:w.heap[b]? =some o)(ho:Obj.plainO o=true):w'.heap[b]? =some o:=by
 have hlt:b<w.heap.size:=(Array.getElem?_eq_some_iff.1 hb).1
 rcases(F.blk b hlt (I.not_owned hb ho)).2 with h |⟨cs,T,fr,fr',h1,_⟩
 ·rw[h];exact hb
 ·rw[hb] at h1
  cases h1
  cases ho
theorem cellO{w w':World}{b:Nat}(h:w'.heap[b]? =w.heap[b]?)(o:Nat):w'.cell? ⟨b,o,none⟩=w.cell? ⟨b,o,none⟩:=by
 simp only[World.cell?]
 rw[h]
theorem sim_cell{m:Nat→Option Value}{w w':World}{b:Nat}(h:Sim m w.heap[b]? w'.heap[b]?)(o:Nat):w'.cell? ⟨b,o,none⟩=w.cell? ⟨b,o,none⟩:=by
 rcases h with h |⟨cs,T,fr,fr',h1,h2,_⟩
 ·exact cellO h o
 ·simp only[World.cell?,h1,h2]
theorem Inv.turn(I:Inv G γ H w){b:Nat}{o:Obj}(hb:w.heap[b]? =some o)(ho:Obj.plainO o=true)(o':Obj):Inv G γ H (w.putObj b o'):=by
 have hk:∀k,k≠b→(w.putObj b o').heap[k]? =w.heap[k]?:=fun k h=>World.putObj_heap_other h
 have hs:(w.putObj b o').heap.size=w.heap.size:=World.putObj_size
 have hno:=I.not_owned hb ho
 constructor
 ·rw[hs];exact I.size
 ·intro c T n h
  obtain⟨vs,fr,h1,h2⟩:=I.tys c T n h
  have :c≠b:=fun e=>by rw[e,hb] at h1;cases h1;cases ho
  exact⟨vs,fr,by rw[hk c this];exact h1,h2⟩
 ·exact I.rowb
 ·intro c j v h
  have h1:=I.mem c j v h
  have :c≠b:=fun e=>by
   rw[e] at h1
   simp only[World.cell?,hb] at h1
   cases o<;>first |(cases ho;done) |(simp at h1)
  rw[cellO (hk c this)]
  exact h1
 ·exact I.globs
 ·exact I.lenB
 ·exact I.nodup
 ·intro i c cs h1 h2
  have :c≠b:=fun e=>I.not_box hb ho (by rw[←e];exact List.mem_of_getElem? h1)
  rw[hk c this]
  exact I.box i c cs h1 h2
 ·exact I.boxmem
 ·exact I.empt
 ·exact I.lenT
 ·intro t row f h1 h2
  obtain⟨r,a1,a2⟩:=I.row t row f h1 h2
  refine⟨r,a1,a2.keep (fun _ _ h=>h) (fun c cap hr hlt=>hk c fun e=>hno (.inr ⟨t,row,f,cap,h1,h2,?_,hlt⟩)) (fun _ _ _ _ _=>rfl) (fun _ _ _ _ h=>h)⟩
  rw[←e,←hr];exact a1
 ·exact I.rowmax
 ·exact I.free
theorem InvS.turn(I:InvS W G γ H w){b:Nat}{o:Obj}(hb:w.heap[b]? =some o)(ho:Obj.plainO o=true)(hW:W.heap.size≤b)(o':Obj):InvS W G γ H (w.putObj b o'):=by
 refine⟨I.toInv.turn hb ho o',I.bse,⟨I.blw.os,I.blw.tape,I.blw.output,?_,fun k hk=>?_⟩,I.own⟩
 ·rw[World.putObj_size];exact I.blw.size
 ·rw[World.putObj_heap_other (by omega)];exact I.blw.block k hk
theorem Frame.turn{γ':Gh}{H':Hp}{w':World}(F:Frame γ H w γ' H' w'){b:Nat}(hb:w.heap.size≤b)(o':Obj):Frame γ H w γ' H' (w'.putObj b o'):=by
 refine⟨F.os,F.tape,F.output,by rw[World.putObj_size];exact F.size,fun k hk ho=>?_,F.mem,F.box,F.fre,F.bxs⟩
 rw[World.putObj_heap_other (by omega)]
 exact F.blk k hk ho
theorem Inv.below(I:Inv G γ H w){w':World}(B:RowKit.Below w.heap.size w w'):Frame γ H w γ H w'∧Inv G γ H w':=by
 have hb:∀b,b<w.heap.size→w'.heap[b]? =w.heap[b]?:=fun b h=>B.block b h
 refine⟨⟨B.os,B.tape,B.output,B.size,fun b h _=>by rw[hb b h];exact⟨fun _=>rfl,.refl _ _⟩,fun _ _ _ _=>rfl,fun _ h=>.inl h,fun _ _ h=>.inl h,fun _ h=>.inl h⟩,?_⟩
 constructor
 ·exact Nat.le_trans I.size B.size
 ·intro b T n h
  have:=I.lt_of_tys h
  rw[hb b this];exact I.tys b T n h
 ·exact I.rowb
 ·intro b o v h
  rw[cellO (w:=w) (hb b (I.lt_of_mem h))]
  exact I.mem b o v h
 ·exact I.globs
 ·exact I.lenB
 ·exact I.nodup
 ·intro i b cs h1 h2
  rw[hb b (I.lt_of_box (List.mem_of_getElem? h1))]
  exact I.box i b cs h1 h2
 ·exact I.boxmem
 ·exact I.empt
 ·exact I.lenT
 ·intro t row f h1 h2
  obtain⟨r,a1,a2⟩:=I.row t row f h1 h2
  exact⟨r,a1,a2.keep (fun _ _ h=>h) (fun b cap hr hlt=>hb b (I.lt_of_free ⟨row,f,cap,h1,h2,hr▸a1,hlt⟩)) (fun _ _ _ _ _=>rfl) (fun _ _ _ _ h=>h)⟩
 ·exact I.rowmax
 ·exact I.free
def mark(m:Nat):Deferred:={target:=.collected m,args:=#[]}
def Dfs(mk:Option Nat)(df l:List Deferred)(w:World):Prop:=
 match mk with
 |none=>l=df
 |some B=>B≤w.heap.size∧∃ms:List Nat,l=ms.map mark++df∧ms.Nodup∧∀m∈ms,B≤m∧w.heap[m]? =some (.deferred (some []))
theorem Dfs.keep{mk:Option Nat}{df l l':List Deferred}{γ':Gh}{H':Hp}{w':World}(h:Dfs mk df l w)(I:Inv G γ H w)(F:Frame γ H w γ' H' w')(e:l'=l):Dfs mk df l' w':=by
 subst e
 cases mk with
 |none=>exact h
 |some B=>
  obtain⟨h0,ms,h1,h2,h3⟩:=h
  exact⟨Nat.le_trans h0 F.size,ms,h1,h2,fun m hm=>⟨(h3 m hm).1,F.stands I (h3 m hm).2 rfl⟩⟩
def Kept(W:World)(G:Nat→Option (List PD))(γ:Gh)(H:Hp)(ids:List Nat)(A:World):Prop:=∃γ' H',γ.le γ'∧InvS W G γ' H' A∧∀i∈ids,H'.bx[i]? =H.bx[i]?
def Stands(b:Nat)(A B:World):Prop:=(∀o,B.cell? ⟨b,o,none⟩=A.cell? ⟨b,o,none⟩)∧∀o,A.heap[b]? =some o→Obj.plainO o=true→B.heap[b]? =some o
def GenOk(P:Program)(W:World)(G:Nat→Option (List PD))(f:Nat)(gen:List D→List D→Hp→Option (List (List D))):Prop:=
 Enters P f∧∀fi cap H xs,gen fi cap H=some xs→∀γ w la lb,InvS W G γ H w→RepL γ la fi→RepL γ lb cap→
  ∃en:Nat→Array Value,(∀k x,xs[k]? =some x→(en k).size=x.length∧∀γ',RepL γ' (en k) x)∧
   ∀(l:Nat) (J:Nat→(Nat→Prop)→World→Prop) (X:Ending→World→Prop) (w0:World),RowKit.Below w.heap.size w w0→
    (∀k fb A,J k fb A→Kept W G γ H (capIds (.fn f fi cap) H) A)→
    (∀k fb A B,J k fb A→RowKit.Below A.heap.size A B→J k (fun b=>fb b∨(A.heap.size≤b∧b<B.heap.size)) B)→
    (∀k fb A b o o',J k fb A→fb b→A.heap[b]? =some o→Obj.plainO o=true→J k fb (A.putObj b o'))→(∀e A B,X e A→RowKit.Below A.heap.size A B→X e B)→
    (∀e A b o o',X e A→w0.heap.size≤b→A.heap[b]? =some o→Obj.plainO o=true→X e (A.putObj b o'))→
    (∀k fb x A,xs[k]? =some x→J k fb A→YieldAt (wr none) 0 P l (en k) A fun e B=>(A.heap.size≤B.heap.size∧∀b,fb b→Stands b A B)∧((e= .returned (.bool true)∧J (k+1) fb B)∨(e= .returned (.bool false)∧X e B)∨∃ch,e= .panicked ch∧X e B))→
    J 0 (fun _=>False) w0→CallsIn (wr none) 0 P f (la++ #[.func (.yield l) #[] #[]]++lb) w0 fun e B=>((∃v,e= .returned v)∧((∃fb,J xs.length fb B)∨X (.returned (.bool false)) B))∨∃ch,e= .panicked ch∧X e B
def SC.gens(P:Program)(W:World)(G:Nat→Option (List PD)):SC→Prop
 | .rangef f gen _ _ a b=>GenOk P W G f gen∧a.gens P W G∧b.gens P W G
 | .seq a b=>a.gens P W G∧b.gens P W G
 | .cond _ a b=>a.gens P W G∧b.gens P W G
 | .block _ b=>b.gens P W G
 | .loop _ b=>b.gens P W G
 | .scope b=>b.gens P W G
 | .loc b=>b.gens P W G
 | .locz b=>b.gens P W G
 |_=>True
def SC.noR:SC→Bool
 | .rangef .. =>false
 | .seq a b=>a.noR&&b.noR
 | .cond _ a b=>a.noR&&b.noR
 | .block _ b=>b.noR
 | .loop _ b=>b.noR
 | .scope b=>b.noR
 | .loc b=>b.noR
 | .locz b=>b.noR
 |_=>true
theorem SC.gens_of:∀{s:SC},s.noR=true→s.gens P W G
 | .rangef ..,h=>by cases h
 | .seq a b,h=>by simp only[SC.noR,Bool.and_eq_true] at h;exact⟨gens_of h.1,gens_of h.2⟩
 | .cond _ a b,h=>by simp only[SC.noR,Bool.and_eq_true] at h;exact⟨gens_of h.1,gens_of h.2⟩
 | .block _ b,h=>gens_of (s:=b) h
 | .loop _ b,h=>gens_of (s:=b) h
 | .scope b,h=>gens_of (s:=b) h
 | .loc b,h=>gens_of (s:=b) h
 | .locz b,h=>gens_of (s:=b) h
 | .skip,_ | .region ..,_ | .draw ..,_ | .tok ..,_ | .tokb ..,_ | .stuck,_ | .exit _,_ | .ret,_=>trivial
theorem wpR_range{fid:Nat}{g:Operand}{ps:Array Tmp}{asg body:Code}{Q:Exit→Act→World→Prop}{a:Act}{gf:Nat}{la lb:Array Value}(hg:a.eval g= .func (.func gf) la lb)(hent:Enters P gf)
    (h:Calls P gf (la++ #[.func (.yield (w.heap.size+1)) #[] #[]]++lb) ((w.alloc (.deferred (some []))).alloc (.loop {state:=.ready,pending:=none,fn:=fid,tmps:=a.tmps,params:=ps,assign:=asg,body,defers:=w.heap.size})) fun e B=>match e with
     | .returned _=>∃jump w4,(Instr.endLoop (w.heap.size+1)).run P B= .ok jump w4∧(match jump with
      |none=>Q .normal {a with defers:=mark w.heap.size::a.defers} w4
      |some c=>wpR none fid P c Q {a with defers:=mark w.heap.size::a.defers} w4)
     | .panicked ch=>Q (.panic ch) {a with defers:=mark w.heap.size::a.defers} B
     | .outgrown=>False):wpR none fid P (.rangeFunc g ps asg body) Q a w:=by
 intro b k cs hb hf
 have he:(Instr.enterLoop b.fn a.tmps ps asg body b.roundOf).run P w= .ok (w.heap.size+1,[mark w.heap.size]) ((w.alloc (.deferred (some []))).alloc (.loop {state:=.ready,pending:=none,fn:=fid,tmps:=a.tmps,params:=ps,assign:=asg,body,defers:=w.heap.size})):=by
  rw[hb,hf]
  exact run_enterLoop_outer ..
 generalize (w.alloc (.deferred (some []))).alloc (.loop {state:=.ready,pending:=none,fn:=fid,tmps:=a.tmps,params:=ps,assign:=asg,body,defers:=w.heap.size})=W1 at he h
 have hres:(resolve a.eval (rangeCall g (w.heap.size+1)) 0).run P W1= .ok {target:=.fn (.func gf) lb,args:=la++ #[.func (.yield (w.heap.size+1)) #[] #[]]} W1:=by
  simp only[resolve,hg]
  simp[go_sem]
 have hinv:(invoke (.fn (.func gf) lb) (la++ #[.func (.yield (w.heap.size+1)) #[] #[]])).run P W1= .ok (.enter gf (la++ #[.func (.yield (w.heap.size+1)) #[] #[]]++lb)) W1:=by
  simp only[invoke]
  exact run_enter hent _ _
 have hst:=stepR_rangeFunc (P:=P) (b:=b) (a:=a) (k:=k) (cs:=cs) (w:=w) he hres hinv
 obtain⟨e,w3,fr,hR,hcome,_,hleave⟩:=h (b.atR {a with defers:=mark w.heap.size::a.defers} (.inRangeFunc (w.heap.size+1)::k)::cs)
 have hs0:StepsIn (Machine.fenced P Fence.wide) P (lone (b.atR a (.code (.rangeFunc g ps asg body)::k)) cs w) _:=one_wide hst
 cases e with
 |outgrown=>exact hR.elim
 |returned v=>
  obtain⟨jump,w4,hend,hj⟩:=hR
  have hs1:StepsIn (Machine.fenced P Fence.wide) P (lone (Go.Frame.enter P gf (la++ #[.func (.yield (w.heap.size+1)) #[] #[]]++lb) .normal) (b.atR {a with defers:=mark w.heap.size::a.defers} (.inRangeFunc (w.heap.size+1)::k)::cs) W1) _:=stepsIn_wide.2 hcome
  have hs2:=one_wide (step_leave_returned (cs:=cs) (c:=b.atR {a with defers:=mark w.heap.size::a.defers} (.inRangeFunc (w.heap.size+1)::k)) hleave)
  rw[finish_atR_inRangeFunc] at hs2
  have hs3:=one_wide (stepR_endRangeFunc (b:=b) (a:={a with defers:=mark w.heap.size::a.defers}) (k:=k) (cs:=cs) hend)
  have hall:=hs0.trans (StepsIn.trans hs1 (StepsIn.trans hs2 hs3))
  cases jump with
  |none=>exact⟨.normal,_,w4,hj,hall⟩
  |some c=>
   obtain⟨e2,a2,w5,q,r⟩:=hj b k cs hb hf
   exact⟨e2,a2,w5,q,.of_steps hall r⟩
 |panicked ch=>
  have hs1:StepsIn (Machine.fenced P Fence.wide) P (lone (Go.Frame.enter P gf (la++ #[.func (.yield (w.heap.size+1)) #[] #[]]++lb) .normal) (b.atR {a with defers:=mark w.heap.size::a.defers} (.inRangeFunc (w.heap.size+1)::k)::cs) W1) _:=stepsIn_wide.2 hcome
  have hs2:=one_wide (step_leave_panicked (cs:=cs) (c:=b.atR {a with defers:=mark w.heap.size::a.defers} (.inRangeFunc (w.heap.size+1)::k)) hleave)
  exact⟨.panic ch,_,w3,hR,_,hs0.trans (StepsIn.trans hs1 hs2)⟩
variable {P : Program} {W : World} {G : Nat → Option (List PD)}
def soOf(P:Program)(nt:Nat)(ops:Array Oper)(hint:Option SK)(o:Oper):Option SO:=
    if(match o.dst with |some t=>decide (t<nt) |none=>true) then
     match o.guard with
     |none=>some ⟨o.dst,kHint P o hint,none⟩
     |some (j,want)=>match(ops[j]?).bind (·.dst) with
      |some t=>some ⟨o.dst,kHint P o hint,some (t,want)⟩
      |none=>none
    else none
theorem soOf_ok{nt:Nat}{ops:Array Oper}{hint:Option SK}{o:Oper}{so:SO}(h:soOf P nt ops hint o=some so):OpOf P ops nt o so:=by
    have hk:∀k,kHint P o hint=k→∃hint,kHint P o hint=k:=fun k h=>⟨hint,h⟩
    unfold soOf at h
    obtain⟨dst,op,type,pos,after,guard⟩:=o
    generalize hd:(match dst with |some t=>decide (t<nt) |none=>true)=bb at h
    cases bb with
    |true=>
     rw[if_pos rfl] at h
     have hlt:∀t,dst=some t→t<nt:=fun t ht=>by subst ht;simpa using hd
     cases guard with
     |none=>
      cases h
      exact⟨hk _ rfl,rfl,hlt,rfl,fun j want hj=>by cases hj⟩
     |some jw=>
      obtain⟨j,want⟩:=jw
      cases ht:(ops[j]?).bind (·.dst) with
      |none=>simp only[ht] at h;cases h
      |some t=>
       simp only[ht] at h
       cases h
       exact⟨hk _ rfl,rfl,hlt,by simp only[ht],fun j' want' hj=>by cases hj;rw[ht];rfl⟩
    |false=>
     rw[if_neg (by simp)] at h
     cases h
def compL(P:Program)(nt:Nat)(ops:Array Oper):List Oper→List SO→Option (List SO)
 |[],_=>some []
 |o::r,hs=>match soOf P nt ops (hs.head?.map (·.k)) o with
  |some s=>(compL P nt ops r hs.tail).map (s:: ·)
  |none=>none
def compO(P:Program)(nt:Nat)(ops:Array Oper)(hs:List SO):Option (List SO):=compL P nt ops ops.toList hs
theorem compL_both{nt:Nat}{ops:Array Oper}:∀{l:List Oper} {hs r:List SO},compL P nt ops l hs=some r→l.length=r.length∧∀(i:Nat) a b,l[i]? =some a→r[i]? =some b→∃h,soOf P nt ops h a=some b
 |[],hs,r,h=>by simp only[compL,Option.some.injEq] at h;subst h;exact⟨rfl,fun i a b h=>by simp at h⟩
 |x::l,hs,r,h=>by
  simp only[compL] at h
  split at h
  ·rename_i y hy
   obtain⟨r',hr,rfl⟩:=Option.map_eq_some_iff.1 h
   obtain⟨h1,h2⟩:=compL_both hr
   refine⟨by simp[h1],fun i a b ha hb=>?_⟩
   match i with
   | 0=>simp only[List.getElem?_cons_zero,Option.some.injEq] at ha hb;subst ha;subst hb;exact⟨_,hy⟩
   |i+1=>exact h2 i a b (by simpa using ha) (by simpa using hb)
  ·cases h
theorem mapO_both{α β:Type}{f:α→Option β}:∀{l:List α} {r:List β},mapO f l=some r→l.length=r.length∧∀(i:Nat) a b,l[i]? =some a→r[i]? =some b→f a=some b
 |[],r,h=>by simp only[mapO,Option.some.injEq] at h;subst h;exact⟨rfl,fun i a b h=>by simp at h⟩
 |x::l,r,h=>by
  simp only[mapO] at h
  split at h
  ·rename_i y hy
   obtain⟨r',hr,rfl⟩:=Option.map_eq_some_iff.1 h
   obtain⟨h1,h2⟩:=mapO_both hr
   refine⟨by simp[h1],fun i a b ha hb=>?_⟩
   match i with
   | 0=>simp only[List.getElem?_cons_zero,Option.some.injEq] at ha hb;subst ha;subst hb;exact hy
   |i+1=>exact h2 i a b (by simpa using ha) (by simpa using hb)
  ·cases h
structure OpsOf (P:Program) (nt:Nat) (ops:Array Oper) (sl:List SO):Prop where
 len:ops.size=sl.length
 of:∀(i:Nat) o so,ops[i]? =some o→sl[i]? =some so→OpOf P ops nt o so
 lt:∀(j:Nat) o' t,ops[j]? =some o'→o'.dst=some t→t<nt
theorem compO_ok{nt:Nat}{ops:Array Oper}{hs sl:List SO}(h:compO P nt ops hs=some sl):OpsOf P nt ops sl:=by
 obtain⟨h1,h2⟩:=compL_both h
 have hlen:ops.size=sl.length:=by simpa using h1
 have hof:∀(i:Nat) o so,ops[i]? =some o→sl[i]? =some so→OpOf P ops nt o so:=fun i o so ho hs=>by
  obtain⟨hh,q⟩:=h2 i o so (by simpa using ho) hs
  exact soOf_ok q
 refine⟨hlen,hof,fun j o' t ho hd=>?_⟩
 have hj:j<sl.length:=by rw[←hlen];exact(Array.getElem?_eq_some_iff.1 ho).1
 exact(hof j o' sl[j] ho (List.getElem?_eq_getElem hj)).lt t hd
def compC(P:Program)(nt:Nat):SC→Code→Option SC
 | .loc b,c=>(compC P nt b c).map .loc
 | .skip,.skip=>some .skip
 | .skip,.label _=>some .skip
 | .region keep hs,.region _ ops false=>if ops.toList.all nodef then(compO P nt ops hs).map (.region keep) else none
 | .draw keep pairs hs,.region _ ops true=>match compO P nt ops hs with
  |some sl=>if drawOk pairs ops.toList sl&&ops.toList.all nodef then some (.draw keep pairs sl) else none
  |none=>none
 | .rangef f gen _ _ a b,.rangeFunc g ps x y=>match opdOf g,compC P nt a x,compC P nt b y with
  |some g',some a',some b'=>if a'.noR&&b'.noR&&ps.toList.all (fun p=>decide (p<nt)) then some (.rangef f gen g' ps.toList a' b') else none
  |_,_,_=>none
 | .seq (.tok s e z) b,c=>if s<nt∧0<z then(compC P nt b c).map (.seq (.tok s e z)) else none
 | .seq (.tokb s off e z) b,c=>if s<nt∧0<z then(compC P nt b c).map (.seq (.tokb s off e z)) else none
 | .seq a b,.seq x y=>match compC P nt a x,compC P nt b y with
  |some a',some b'=>some (.seq a' b')
  |_,_=>none
 | .cond _ a b,.cond c x y=>match opdOf c,compC P nt a x,compC P nt b y with
  |some c',some a',some b'=>some (.cond c' a' b')
  |_,_,_=>none
 | .block _ b,.block id x=>(compC P nt b x).map (.block id)
 | .loop keep b,.loop x=>(compC P nt b x).map (.loop keep)
 | .scope b,.scope x=>(compC P nt b x).map .scope
 | .exit _,.exit id=>some (.exit id)
 | .ret,.ret=>some .ret
 | .locz b,c=>(compC P nt b c).map .locz
 | .stuck,_=>some .stuck
 |_,_=>none
def Post(W:World)(G:Nat→Option (List PD))(nt:Nat)(mk:Option Nat)(df:List Deferred)(Q:Exit→Act→World→Prop)(γ:Gh)(H:Hp)(w:World)(out:Out)(s':St):Prop:=
 ∀γ' a' w',γ.le γ'→Frame γ H w γ' s'.hp w'→InvS W G γ' s'.hp w'→Dfs mk df a'.defers w'→
  match out with
  | .norm=>a'.tmps.size=nt→EnvRep γ' s'.env a'.tmps→Q .normal a' w'
  | .exit id=>a'.tmps.size=nt→EnvRep γ' s'.env a'.tmps→Q (.exit id) a' w'
  | .ret=>a'.tmps.size=nt→EnvRep γ' s'.env a'.tmps→Q .ret a' w'
  | .pan d=>a'.tmps.size=nt→EnvRep γ' s'.env a'.tmps→∀v,RepD γ' v d→Q (.panic [{v,recovered:=false}]) a' w'
theorem Post.later{nt:Nat}{mk:Option Nat}{df:List Deferred}{Q:Exit→Act→World→Prop}{γ γ1:Gh}{H H1:Hp}{w w1:World}{out:Out}{s':St}(h:Post W G nt mk df Q γ H w out s')(L:γ.le γ1)(F:Frame γ H w γ1 H1 w1):Post W G nt mk df Q γ1 H1 w1 out s':=
 fun γ' a' w' l f=>h γ' a' w' (L.trans l) (F.trans L.base f)
theorem Post.other{nt:Nat}{mk:Option Nat}{df:List Deferred}{Q Q':Exit→Act→World→Prop}{γ:Gh}{H:Hp}{w:World}{out:Out}{s':St}(h:Post W G nt mk df Q γ H w out s')
    (hq:∀e a w,(match out with | .norm=>e= .normal | .exit id=>e= .exit id | .ret=>e= .ret | .pan _=>∃ch,e= .panic ch)→Q e a w→Q' e a w):Post W G nt mk df Q' γ H w out s':=by
 intro γ' a' w' h1 h2 h3 h5
 have:=h γ' a' w' h1 h2 h3 h5
 cases out with
 |norm=>exact fun m e=>hq _ _ _ rfl (this m e)
 |exit id=>exact fun m e=>hq _ _ _ rfl (this m e)
 |ret=>exact fun m e=>hq _ _ _ rfl (this m e)
 |pan d=>exact fun m e v hv=>hq _ _ _ ⟨_,rfl⟩ (this m e v hv)
theorem tok_ok{γ:Gh}{H H':Hp}{w:World}{v:Value}{d d':D}{e sz:Nat}(I:Inv G γ H w)(h:tokD e sz d H=some (d',H'))(hv:RepD γ v d):∃γ',γ.le γ'∧Frame γ H w γ' H' w∧Inv G γ' H' w∧RepD γ' v d':=by
 unfold tokD at h
 split at h
 ·cases h
  have hvv:=hv.p_inv.nils_inv
  subst hvv
  let row:Row:=⟨e,sz,fun n=>if n=0 then some none else none⟩
  obtain⟨b1,b2,b3⟩:=I.addTok row 0 none rfl (fun n x hx=>by
   simp only[row] at hx
   split at hx
   ·omega
   ·cases hx) rfl (fun _ _ h=>by cases h) (fun n b cap hx=>by
   simp only[row] at hx
   split at hx<;>cases hx)
  refine⟨_,b1,b2,b3,?_⟩
  exact .tsl _ _ _ _ _ row none (by show(γ.rows++[row])[H.tk.length]? =_;rw[←I.lenT];simp) rfl rfl (.sl0 _ _ _) rfl rfl
 ·rename_i e' sz' es
  split at h
  ·rename_i hc
   obtain⟨rfl,rfl,_⟩:=hc
   cases h
   cases hv with
   |fsl b n _ _ es' hbase hty hlen hrep=>
    subst hlen
    let row:Row:=⟨e',sz',fun n=>if n=es.length then some (some (b,es.length)) else none⟩
    obtain⟨b1,b2,b3⟩:=I.addTok row es.length (some (b,es.length)) (by simp[row]) (fun n x hx=>by
     simp only[row] at hx
     split at hx
     ·omega
     ·cases hx) ⟨⟨Nat.le_refl _,hty⟩,fun h=>by omega⟩ (fun _ _ h=>by cases h;rfl) (fun n b' cap hx=>by
     simp only[row] at hx
     split at hx
     ·cases hx;exact hbase
     ·cases hx)
    refine⟨_,b1,b2,b3,?_⟩
    exact .tsl _ _ _ _ _ row (some (b,es.length)) (by show(γ.rows++[row])[H.tk.length]? =_;rw[←I.lenT];simp) rfl rfl (hrep.mono b1.mem) (by simp[row]) rfl
  ·cases h
 ·rename_i t e' sz' es
  split at h
  ·rename_i hc
   obtain⟨rfl,rfl⟩:=hc
   cases h
   exact⟨γ,.refl γ,.refl γ H w,I,hv⟩
  ·cases h
 ·cases h
theorem EnvRep.tok{γ γ':Gh}{env:Env}{tmps:Array Value}(E:EnvRep γ env tmps)(L:γ.le γ'){s:Nat}{d:D}(h:RepD γ' (tmps.getD s undef) d):EnvRep γ' ((s,d)::env) tmps:=fun t=>by
 simp only[Env.get]
 split
 ·rename_i hs;subst hs;exact h
 ·exact(E t).mono L
theorem Inv.reread{γ:Gh}{H:Hp}{w:World}(I:Inv G γ H w){i b k:Nat}{cs:List D}{d d':D}(hb:γ.boxes[i]? =some b)(hc:H.bx[i]? =some cs)(hd:cs[k]? =some d)(h1:d'.one=true)(hm0:isMapC cs=false)(hr:∀vs T fr,w.heap[b]? =some (.cells vs T fr)→RepD γ (vs.getD k undef) d'):
    Frame γ H w γ {H with bx:=H.bx.set i (cs.set k d')} w∧Inv G γ {H with bx:=H.bx.set i (cs.set k d')} w:=by
 have hi:i<H.bx.length:=(List.getElem?_eq_some_iff.1 hc).1
 have hk:k<cs.length:=(List.getElem?_eq_some_iff.1 hd).1
 have hne0:cs≠[]:=fun e=>by subst e;simp at hk
 have hfree:∀t c,Free γ {H with bx:=H.bx.set i (cs.set k d')} t c→Free γ H t c:=fun t c h=>Free.congr (fun _ _ h=>h) (fun _ _ h=>h) h
 refine⟨⟨rfl,rfl,rfl,Nat.le_refl _,fun _ _ _=>⟨fun _=>rfl,.refl _ _⟩,fun _ _ _ _=>rfl,fun _ h=>.inl (Lv.set hc hne0 h),fun t b h=>.inl (hfree t b h),fun _ h=>.inl h⟩,I.size,I.tys,I.rowb,I.mem,I.globs,by simp[I.lenB],I.nodup_set hc hne0,?_,fun c o h=>I.boxmem c o (Lv.set hc hne0 h),fun j c hj hcs=>by
  have hcs:(H.bx.set i (cs.set k d'))[j]? =some []:=hcs
  by_cases hij:i=j
  ·subst hij
   rw[List.getElem?_set_self hi] at hcs
   have h0:(cs.set k d').length=0:=by simp at hcs;rw[hcs];rfl
   simp at h0
   exact(hne0 h0).elim
  ·rw[List.getElem?_set_ne hij] at hcs
   exact I.empt j c hj hcs,I.lenT,I.row,I.rowmax,fun t t' b h h'=>I.free t t' b (hfree t b h) (hfree t' b h')⟩
 intro j c cs' hj hcs
 by_cases hij:i=j
 ·subst hij
  rw[hb] at hj
  cases hj
  have hcs:(H.bx.set i (cs.set k d'))[i]? =some cs':=hcs
  rw[List.getElem?_set_self hi] at hcs
  cases hcs
  obtain⟨vs,T,fr,q1,q2,q3,q4⟩:=I.box i b cs hb hc
  rw[viewC_of hm0] at q1
  have q3:=q3 hm0
  have hall:∀x∈cs.set k d',x.one=true:=fun x hx=>by
   rcases List.mem_or_eq_of_mem_set hx with h |h
   ·exact q3 x h
   ·subst h;exact h1
  refine⟨vs,T,fr,(viewC_of (isMapC_one hall) _).trans q1,⟨by simpa using q2.1,fun m x hm=>?_⟩,fun _=>hall,fun hn=>q4 (fun e=>hn (by subst e;rfl))⟩
  ·by_cases hkm:k=m
   ·subst hkm
    rw[List.getElem?_set_self hk] at hm
    cases hm
    exact hr vs T fr q1
   ·rw[List.getElem?_set_ne hkm] at hm
    exact q2.2 m x hm
 ·have hcs:(H.bx.set i (cs.set k d'))[j]? =some cs':=hcs
  rw[List.getElem?_set_ne hij] at hcs
  exact I.box j c cs' hj hcs
theorem tokD_bx{e sz:Nat}{d d':D}{H H':Hp}(h:tokD e sz d H=some (d',H')):H'.bx=H.bx∧d'.one=true:=by
 unfold tokD at h
 split at h
 ·cases h;exact⟨rfl,rfl⟩
 ·split at h<;>cases h;exact⟨rfl,rfl⟩
 ·split at h<;>cases h;exact⟨rfl,rfl⟩
 ·cases h
theorem tokb_ok{γ:Gh}{w:World}{slot off e sz:Nat}{s s':St}{tmps:Array Value}(I:Inv G γ s.hp w)(h:tokbD slot off e sz s=some s')(E:EnvRep γ s.env tmps):∃γ',γ.le γ'∧Frame γ s.hp w γ' s'.hp w∧Inv G γ' s'.hp w∧EnvRep γ' s'.env tmps:=by
 unfold tokbD at h
 split at h
 ·rename_i i o hbox
  split at h
  ·rename_i cs hcs
   split at h
   ·cases h;exact⟨γ,.refl γ,.refl γ _ w,I,E⟩
   rename_i hm
   have hm:isMapC cs=false:=by simpa using hm
   split at h
   ·rename_i d hd
    split at h
    ·rename_i d' H' ht
     cases h
     have hb:=E slot
     rw[hbox] at hb
     generalize tmps.getD slot undef=v at hb
     cases hb with
     |box _ _ b hbb=>
      obtain⟨vs,T,fr,q1,q2,q3,q4⟩:=I.box i b cs hbb hcs
      rw[viewC_of hm] at q1
      obtain⟨γ',L,F,J,V⟩:=tok_ok I ht (q2.2 _ d hd)
      obtain⟨t1,t2⟩:=tokD_bx ht
      obtain⟨F2,J2⟩:=J.reread (L.boxes _ _ hbb) (by rw[t1];exact hcs) hd t2 hm (fun vs' T' fr' hw=>by
       rw[q1] at hw
       cases hw
       exact V)
      exact⟨γ',L,F.trans L.base F2,J2,fun t=>(E t).mono L⟩
    ·cases h;exact⟨γ,.refl γ,.refl γ _ w,I,E⟩
   ·cases h
  ·cases h
 ·cases h;exact⟨γ,.refl γ,.refl γ _ w,I,E⟩
def Gh.cut(γ:Gh)(nb nt:Nat):Gh:={γ with boxes:=γ.boxes.take nb,rows:=γ.rows.take nt}
theorem below_some{n i j:Nat}(h:below n i=some j):i<n∧j=i:=by
 unfold below at h
 split at h
 ·rename_i hi;cases h;exact⟨hi,rfl⟩
 ·cases h
theorem cut_ren(γ:Gh)(nb nt:Nat):Ren γ (γ.cut nb nt) (below nb) (below nt):=by
 refine⟨rfl,fun _ _ h=>h,fun _ _ _ h=>h,fun i j b hi hb=>?_,fun t u row ht hr=>?_⟩
 ·obtain⟨h1,rfl⟩:=below_some hi
  show(γ.boxes.take nb)[j]? =some b
  rw[List.getElem?_take_of_lt h1];exact hb
 ·obtain⟨h1,rfl⟩:=below_some ht
  refine⟨row,?_,rfl,rfl,fun _ _ h=>h⟩
  show(γ.rows.take nt)[u]? =some row
  rw[List.getElem?_take_of_lt h1];exact hr
theorem take_get{α:Type}{l:List α}{n i:Nat}{a:α}(h:(l.take n)[i]? =some a):i<n∧l[i]? =some a:=by
 rw[List.getElem?_take] at h
 split at h
 ·exact⟨‹_›,h⟩
 ·cases h
theorem cut_free{γ:Gh}{H:Hp}{bx:List (List D)}{nb nt:Nat}{t b:Nat}(h:Free (γ.cut nb nt) ⟨bx,H.tk.take nt⟩ t b):Free γ H t b:=by
 obtain⟨row,f,cap,h1,h2,h3,h4⟩:=h
 exact⟨row,f,cap,(take_get h1).2,(take_get h2).2,h3,h4⟩
theorem cut_get{γ:Gh}{H:Hp}{w:World}(_J:Inv G γ H w){nb nt:Nat}(_hb:nb≤H.bx.length){bx:List (List D)}(hr:mapO (D.renL (below nb) (below nt)) (H.bx.take nb)=some bx){i b:Nat}{cs:List D}(h1:(γ.cut nb nt).boxes[i]? =some b)(h2:bx[i]? =some cs):
    γ.boxes[i]? =some b∧∃c0,H.bx[i]? =some c0∧D.renL (below nb) (below nt) c0=some cs:=by
 obtain⟨hi,h1'⟩:=take_get h1
 obtain⟨c0,q1,q2⟩:=mapO_back hr h2
 rw[List.getElem?_take_of_lt hi] at q1
 exact⟨h1',c0,q1,q2⟩
theorem cut_lv{γ:Gh}{H:Hp}{w:World}(J:Inv G γ H w){nb nt:Nat}(hb:nb≤H.bx.length){bx:List (List D)}{tk:List Nat}(hr:mapO (D.renL (below nb) (below nt)) (H.bx.take nb)=some bx){b:Nat}(h:Lv (γ.cut nb nt) ⟨bx,tk⟩ b):Lv γ H b:=by
 obtain⟨i,cs,h1,h2,h3⟩:=h
 obtain⟨q1,c0,q2,q3⟩:=cut_get J hb hr h1 h2
 exact⟨i,c0,q1,q2,renL_ne q3 h3⟩
theorem renL_nil{bi ti:Nat→Option Nat}{c0:List D}(h:D.renL bi ti c0=some []):c0=[]:=by
 cases c0 with
 |nil=>rfl
 |cons d r=>have:=(renL_get h).1;simp at this
theorem cut_inv{γ:Gh}{H:Hp}{w:World}(J:Inv G γ H w){nb nt:Nat}(hb:nb≤H.bx.length)(ht:nt≤H.tk.length){bx:List (List D)}(hr:mapO (D.renL (below nb) (below nt)) (H.bx.take nb)=some bx):
    Inv G (γ.cut nb nt) ⟨bx,H.tk.take nt⟩ w:=by
 obtain⟨hl,hg⟩:=mapO_both hr
 have hl':bx.length=nb:=by rw[←hl];simp;omega
 refine⟨J.size,J.tys,fun t row n b cap h1 h2=>J.rowb t row n b cap (take_get h1).2 h2,J.mem,J.globs,?_,fun i j b ci cj h1 h2 h3 h4 n1 n2=>?_,fun i b cs h1 h2=>?_,fun b o h=>J.boxmem b o (cut_lv J hb hr h),fun i b h1 h2=>?_,?_,fun t row f h1 h2=>?_,fun t row f h1 h2=>J.rowmax t row f (take_get h1).2 (take_get h2).2,fun t t' b h h'=>J.free t t' b (cut_free h) (cut_free h')⟩
 ·have:=J.lenB
  show(γ.boxes.take nb).length=bx.length
  rw[hl'];simp;omega
 ·obtain⟨q1,c0,q2,q3⟩:=cut_get J hb hr h1 h3
  obtain⟨r1,c1,r2,r3⟩:=cut_get J hb hr h2 h4
  exact J.nodup i j b c0 c1 q1 r1 q2 r2 (renL_ne q3 n1) (renL_ne r3 n2)
 ·obtain⟨hi,h1'⟩:=take_get h1
  have hc:(H.bx.take nb)[i]? =some (H.bx[i]'(by omega)):=by rw[List.getElem?_take_of_lt hi];exact List.getElem?_eq_getElem _
  have hren:=hg i _ cs hc h2
  obtain⟨vs,T,fr,q1,q2,q3,q4⟩:=J.box i b _ h1' (List.getElem?_eq_getElem (by omega))
  exact⟨vs,T,fr,(viewC_same (renL_map hren) _).trans q1,renB_rep (cut_ren γ nb nt) q2 hren,fun hm=>renL_ones hren (q3 ((renL_map hren).symm.trans hm)),fun hn=>q4 (renL_ne hren hn)⟩
 ·obtain⟨q1,c0,q2,q3⟩:=cut_get J hb hr h1 h2
  have:=renL_nil q3
  subst this
  exact J.empt i b q1 q2
 ·have:=J.lenT
  show(γ.rows.take nt).length=(H.tk.take nt).length
  simp;omega
 ·obtain⟨r,q1,q2⟩:=J.row t row f (take_get h1).2 (take_get h2).2
  refine⟨r,q1,?_⟩
  cases r with
  |none=>exact q2
  |some bc=>
   refine⟨q2.1,fun hf=>?_⟩
   obtain⟨cur,fr,a1,a2,a3,a4,a5,a6⟩:=q2.2 hf
   exact⟨cur,fr,a1,a2,a3,a4,a5,fun h=>a6 (List.mem_of_mem_take h)⟩
theorem loc_post{nt:Nat}{mk:Option Nat}{df:List Deferred}{Q:Exit→Act→World→Prop}{γ:Gh}{H:Hp}{w:World}(I:InvS W G γ H w){x:Out×St}(h:Post W G nt mk df Q γ H w (locD H.bx.length H.tk.length x).1 (locD H.bx.length H.tk.length x).2):Post W G nt mk df Q γ H w x.1 x.2:=by
 unfold locD at h
 split at h
 ·rename_i hc
  split at h
  ·rename_i bx o hbx ho
   intro γ' a' w' L F J hd
   have R:=cut_ren γ' H.bx.length H.tk.length
   have L2:γ.le (γ'.cut H.bx.length H.tk.length):=by
    refine⟨L.base,L.tys,L.mem,fun i b hi=>?_,fun t r ht=>?_⟩
    ·have hi':i<H.bx.length:=by rw[←I.lenB];exact(List.getElem?_eq_some_iff.1 hi).1
     show(γ'.boxes.take H.bx.length)[i]? =some b
     rw[List.getElem?_take_of_lt hi'];exact L.boxes i b hi
    ·have ht':t<H.tk.length:=by rw[←I.lenT];exact(List.getElem?_eq_some_iff.1 ht).1
     obtain⟨r',q1,q2⟩:=L.rows t r ht
     refine⟨r',?_,q2⟩
     show(γ'.rows.take H.tk.length)[t]? =some r'
     rw[List.getElem?_take_of_lt ht'];exact q1
   have F2:Frame γ H w (γ'.cut H.bx.length H.tk.length) ⟨bx,x.2.hp.tk.take H.tk.length⟩ w':=
    ⟨F.os,F.tape,F.output,F.size,F.blk,F.mem,fun b hb=>F.box b (cut_lv J.toInv hc.1 hbx hb),fun t b hb=>F.fre t b (cut_free hb),fun b hb=>F.bxs b (List.mem_of_mem_take hb)⟩
   have J2:=I.up L2 F2 (cut_inv J.toInv hc.1 hc.2 hbx)
   have:=h _ a' w' L2 F2 J2 hd
   have hE:EnvRep γ' x.2.env a'.tmps→EnvRep (γ'.cut H.bx.length H.tk.length) (x.2.env.map fun y=>(y.1,(y.2.ren (below H.bx.length) (below H.tk.length)).getD .dead)) a'.tmps:=fun E t=>by
    have hget:∀(e:Env),Env.get (e.map fun y=>(y.1,(y.2.ren (below H.bx.length) (below H.tk.length)).getD .dead)) t=((e.get t).ren (below H.bx.length) (below H.tk.length)).getD .dead:=by
     intro e
     induction e with
     |nil=>rfl
     |cons y e ih=>
      obtain⟨s,d⟩:=y
      simp only[List.map_cons,Env.get]
      split
      ·rfl
      ·exact ih
    rw[hget]
    cases hren:(x.2.env.get t).ren (below H.bx.length) (below H.tk.length) with
    |none=>exact .dead _
    |some d'=>exact ren_rep R (E t) hren
   obtain⟨xo,xs⟩:=x
   cases xo with
   |norm=>cases ho;exact fun m E=>this m (hE E)
   |exit id=>cases ho;exact fun m E=>this m (hE E)
   |ret=>cases ho;exact fun m E=>this m (hE E)
   |pan d=>
    obtain⟨d',hd',rfl⟩:=Option.map_eq_some_iff.1 ho
    exact fun m E v hv=>this m (hE E) v (ren_rep R hv hd')
  ·exact h
 ·exact h
section
variable {γ : Gh} {H : Hp} {w : World}
def LvD(γ:Gh)(H:Hp)(nb b:Nat):Prop:=∃(i:Nat) (cs:List D),nb≤i∧γ.boxes[i]? =some b∧H.bx[i]? =some cs∧cs≠[]
theorem LvD.lv{γ:Gh}{H:Hp}{nb b:Nat}(h:LvD γ H nb b):Lv γ H b:=by
 obtain⟨i,cs,_,h1,h2,h3⟩:=h
 exact⟨i,cs,h1,h2,h3⟩
open Classical in
noncomputable def Gh.sealM (γ:Gh) (H:Hp) (w:World) (nb:Nat):Gh:=
 {γ with mem:=fun b o=>if LvD γ H nb b then(match w.heap[b]? with |some (.cells vs _ _)=>vs[o]? |_=>none) else γ.mem b o}
noncomputable def Gh.sealC (γ:Gh) (H:Hp) (w:World) (nb:Nat):Gh:={γ.sealM H w nb with boxes:=γ.boxes.take nb}
theorem Gh.sealM_out{γ:Gh}{H:Hp}{w:World}{nb b o:Nat}(h:¬LvD γ H nb b):(γ.sealM H w nb).mem b o=γ.mem b o:=by simp[Gh.sealM,h]
theorem Gh.sealM_le(I:Inv G γ H w)(nb:Nat):γ.le (γ.sealM H w nb):=by
 refine⟨rfl,fun _ _ h=>h,fun b o v h=>?_,fun _ _ h=>h,fun t r h=>⟨r,h,rfl,rfl,fun _ _ h=>h⟩⟩
 rw[Gh.sealM_out]
 ·exact h
 ·intro hb
  rw[I.boxmem b o hb.lv] at h
  cases h
theorem Gh.sealM_in{γ:Gh}{H:Hp}{w:World}{nb b:Nat}{vs:Array Value}{T:Nat}{fr:Nat×Nat}(h:LvD γ H nb b)(hw:w.heap[b]? =some (.cells vs T fr))(o:Nat):(γ.sealM H w nb).mem b o=vs[o]?:=by simp[Gh.sealM,h,hw]
theorem Gh.sealM_map{γ:Gh}{H:Hp}{w:World}{nb b:Nat}{es:Array MapEntry}{ck:Nat}(h:LvD γ H nb b)(hw:w.heap[b]? =some (.map es ck)){o:Nat}:(γ.sealM H w nb).mem b o=none:=by simp[Gh.sealM,h,hw]
theorem frz_one{k:Nat}{H:Hp}:∀(f:Nat) (d:D),d.one=true→(d.frz k H f).one=true
 | 0,d,h=>h
 |f+1,d,h=>by
  cases d<;>simp only[D.frz]<;>first |exact h |(simp[D.one] at h;done) |skip
  ·split<;>rfl
  ·split
   ·split
    ·split
     ·rfl
     ·split<;>rfl
    ·rfl
   ·rfl
  ·split
   ·split
    ·split
     ·split<;>rfl
     ·rfl
    ·rfl
   ·rfl
  ·split<;>rfl
  ·split
   ·split
    ·split
     ·split<;>rfl
     ·rfl
    ·rfl
   ·rfl
theorem frz_rep(J:Inv G γ H w){nb:Nat}:∀(f:Nat) {v:Value} {d:D},RepD (γ.sealM H w nb) v d→RepD (γ.sealM H w nb) v (d.frz nb H f)
 | 0,v,d,r=>r
 |f+1,v,d,r=>by
  have hle:=Gh.sealM_le J nb
  have box:∀(i b:Nat) (cs:List D) (j:Nat),nb≤i→γ.boxes[i]? =some b→H.bx[i]? =some cs→j<cs.length→LvD γ H nb b:=fun i b cs j hi hb hc hj=>
   ⟨i,cs,hi,hb,hc,fun e=>by subst e;simp at hj⟩
  cases r with
  |box i off b hb=>
   simp only[D.frz]
   split
   ·rename_i hk
    split
    ·rename_i cs hcs
     split
     ·exact .box i off b hb
     rename_i hm
     have hm:isMapC cs=false:=by simpa using hm
     split
     ·rename_i ps hps
      obtain⟨vs,T,fr,q1,q2,q3,_⟩:=J.box i b cs hb hcs
      rw[viewC_of hm] at q1
      have q3:=q3 hm
      obtain⟨l1,l2⟩:=sealL_get hps
      have hmem:∀j,j<cs.length→(γ.sealM H w nb).mem b j=vs[j]?:=fun j hj=>Gh.sealM_in (γ:=γ) (H:=H) (w:=w) (nb:=nb) (box i b cs j hk hb hcs hj) q1 j
      have hl:ps.length=cs.length:=by rw[l1];simp
      have q:=RepD.ro (γ:=γ.sealM H w nb) b 0 off ps (fun j=>vs.getD j undef) (fun j hj=>by
       rw[Nat.zero_add,hmem j (by omega)]
       have :j<vs.size:=by have:=q2.1;omega
       simp[Array.getD_eq_getD_getElem?,this]) (fun j c hc=>by
       obtain⟨d0,a1,a2⟩:=l2 j c hc
       simp only[List.getElem?_map,Option.map_eq_some_iff] at a1
       obtain⟨d1,hd1,rfl⟩:=a1
       exact⟨seal_rep (frz_rep J f ((q2.2 j d1 hd1).mono hle)) a2,seal_one a2 (frz_one f d1 (q3 d1 (List.mem_of_getElem? hd1)))⟩)
      rw[Nat.zero_add] at q
      exact q
     ·exact .box i off b hb
    ·exact .box i off b hb
   ·exact .box i off b hb
  |msl i off n c sz b cp hb hc hcap=>
   simp only[D.frz]
   split
   ·rename_i hk
    split
    ·rename_i cs hcs
     split
     ·rename_i hfit
      obtain⟨hm,hfit,hs⟩:=hfit
      split
      ·rename_i ps hps
       obtain⟨vs,T,fr,q1,q2,q3,_⟩:=J.box i b cs hb hcs
       rw[viewC_of hm] at q1
       have q3:=q3 hm
       obtain⟨l1,l2⟩:=sealL_get hps
       have hmem:∀j,j<cs.length→(γ.sealM H w nb).mem b j=vs[j]?:=fun j hj=>Gh.sealM_in (γ:=γ) (H:=H) (w:=w) (nb:=nb) (box i b cs j hk hb hcs hj) q1 j
       have hpl:ps.length=n*sz:=by rw[l1,List.length_map,sub_length _ _ _ hfit];omega
       have hel:∀(j:Nat) c,ps[j]? =some c→RepP (γ.sealM H w nb).mem (vs.getD (off+j) undef) c∧c.one=true:=fun j c hc=>by
        obtain⟨d0,a1,a2⟩:=l2 j c hc
        simp only[List.getElem?_map,Option.map_eq_some_iff] at a1
        obtain⟨d1,hd1,rfl⟩:=a1
        have hd2:=hd1
        rw[sub_get] at hd2
        split at hd2
        ·exact⟨seal_rep (frz_rep J f ((q2.2 _ d1 hd2).mono hle)) a2,seal_one a2 (frz_one f d1 (q3 d1 (List.mem_of_getElem? hd2)))⟩
        ·cases hd2
       have hones:∀p∈ps,p.one=true:=fun p hp=>by
        obtain⟨j,hj⟩:=List.getElem?_of_mem hp
        exact(hel j p hj).2
       obtain⟨c1,c2⟩:=chunks_get hs n ps hpl hones
       have hlt:∀k j,k<n→j<sz→k*sz+j<n*sz:=fun k j hk hj=>by
        calc k*sz+j<k*sz+sz:=by omega
         _=(k+1)*sz:=by rw[Nat.add_mul,Nat.one_mul]
         _≤n*sz:=Nat.mul_le_mul_right _ hk
       have q:=RepP.sl (m:=(γ.sealM H w nb).mem) b off cp sz (chunks sz n ps) (fun k j=>vs.getD (off+(k*sz+j)) undef) (by rw[c1];exact hc) (fun e he=>by
        obtain⟨k,hk⟩:=List.getElem?_of_mem he
        have hkn:k<n:=by rw[←c1];exact(List.getElem?_eq_some_iff.1 hk).1
        have h0:=hlt k 0 hkn hs
        have h1:=hlt k (sz-1) hkn (by omega)
        rw[c2 k e hk];simp;omega) (fun e he c hcm=>by
        obtain⟨k,hk⟩:=List.getElem?_of_mem he
        rw[c2 k e hk] at hcm
        exact hones c (List.mem_of_mem_drop (List.mem_of_mem_take hcm))) (fun k j hk hj=>by
        rw[c1] at hk
        have:=hlt k j hk hj
        rw[hmem _ (by omega)]
        have hvs:off+k*sz+j<vs.size:=by have:=q2.1;omega
        rw[←Nat.add_assoc]
        simp[Array.getD_eq_getD_getElem?,hvs]) (fun k e j c hk hc=>by
        have hkn:k<n:=by rw[←c1];exact(List.getElem?_eq_some_iff.1 hk).1
        rw[c2 k e hk,List.getElem?_take] at hc
        split at hc
        ·rw[List.getElem?_drop] at hc
         exact(hel _ c hc).1
        ·cases hc)
       rw[c1] at q
       exact .p _ _ q
      ·exact .msl i off n c sz b cp hb hc hcap
     ·exact .msl i off n c sz b cp hb hc hcap
    ·exact .msl i off n c sz b cp hb hc hcap
   ·exact .msl i off n c sz b cp hb hc hcap
  |gsl i e n sz b cp hb hc hcm hk2 hty=>
   simp only[D.frz]
   split
   ·rename_i hk
    split
    ·rename_i cs hcs
     split
     ·rename_i hfit
      obtain⟨hm,hfit,hs⟩:=hfit
      split
      ·rename_i ps hps
       obtain⟨vs,T,fr,q1,q2,q3,_⟩:=J.box i b cs hb hcs
       rw[viewC_of hm] at q1
       have q3:=q3 hm
       obtain⟨l1,l2⟩:=sealL_get hps
       have hmem:∀j,j<cs.length→(γ.sealM H w nb).mem b j=vs[j]?:=fun j hj=>Gh.sealM_in (γ:=γ) (H:=H) (w:=w) (nb:=nb) (box i b cs j hk hb hcs hj) q1 j
       have hpl:ps.length=n*sz:=by rw[l1,List.length_map,sub_length _ _ _ hfit];omega
       have hel:∀(j:Nat) c,ps[j]? =some c→RepP (γ.sealM H w nb).mem (vs.getD (0+j) undef) c∧c.one=true:=fun j c hc=>by
        obtain⟨d0,a1,a2⟩:=l2 j c hc
        simp only[List.getElem?_map,Option.map_eq_some_iff] at a1
        obtain⟨d1,hd1,rfl⟩:=a1
        have hd2:=hd1
        rw[sub_get] at hd2
        split at hd2
        ·exact⟨seal_rep (frz_rep J f ((q2.2 _ d1 hd2).mono hle)) a2,seal_one a2 (frz_one f d1 (q3 d1 (List.mem_of_getElem? hd2)))⟩
        ·cases hd2
       have hones:∀p∈ps,p.one=true:=fun p hp=>by
        obtain⟨j,hj⟩:=List.getElem?_of_mem hp
        exact(hel j p hj).2
       obtain⟨c1,c2⟩:=chunks_get hs n ps hpl hones
       have hlt:∀k j,k<n→j<sz→k*sz+j<n*sz:=fun k j hk hj=>by
        calc k*sz+j<k*sz+sz:=by omega
         _=(k+1)*sz:=by rw[Nat.add_mul,Nat.one_mul]
         _≤n*sz:=Nat.mul_le_mul_right _ hk
       have q:=RepP.sl (m:=(γ.sealM H w nb).mem) b 0 cp sz (chunks sz n ps) (fun k j=>vs.getD (0+(k*sz+j)) undef) (by rw[c1];exact hc) (fun e' he=>by
        obtain⟨k,hk⟩:=List.getElem?_of_mem he
        have hkn:k<n:=by rw[←c1];exact(List.getElem?_eq_some_iff.1 hk).1
        have h0:=hlt k 0 hkn hs
        have h1:=hlt k (sz-1) hkn (by omega)
        rw[c2 k e' hk];simp;omega) (fun e' he c hcm=>by
        obtain⟨k,hk⟩:=List.getElem?_of_mem he
        rw[c2 k e' hk] at hcm
        exact hones c (List.mem_of_mem_drop (List.mem_of_mem_take hcm))) (fun k j hk hj=>by
        rw[c1] at hk
        have:=hlt k j hk hj
        rw[hmem _ (by omega)]
        have hvs:0+k*sz+j<vs.size:=by have:=q2.1;omega
        rw[←Nat.add_assoc]
        rw[Array.getD_eq_getD_getElem?,Array.getElem?_eq_getElem hvs]
        rfl) (fun k e' j c hk hc=>by
        have hkn:k<n:=by rw[←c1];exact(List.getElem?_eq_some_iff.1 hk).1
        rw[c2 k e' hk,List.getElem?_take] at hc
        split at hc
        ·rw[List.getElem?_drop] at hc
         exact(hel _ c hc).1
        ·cases hc)
       rw[c1] at q
       exact .p _ _ q
      ·exact .gsl i e n sz b cp hb hc hcm hk2 hty
     ·exact .gsl i e n sz b cp hb hc hcm hk2 hty
    ·exact .gsl i e n sz b cp hb hc hcm hk2 hty
   ·exact .gsl i e n sz b cp hb hc hcm hk2 hty
  |agg cs ds hl hone hr=>
   simp only[D.frz]
   refine mkAgg_rep ⟨by simpa using hl,fun i d hd=>?_⟩ (fun d hd=>?_)
   ·simp only[List.getElem?_map,Option.map_eq_some_iff] at hd
    obtain⟨d1,hd1,rfl⟩:=hd
    exact frz_rep J f (hr i d1 hd1)
   ·obtain⟨d1,hd1,rfl⟩:=List.mem_map.1 hd
    exact frz_one f d1 (hone d1 hd1)
  |tup cs ds hl hr=>
   simp only[D.frz]
   refine .tup cs _ (by simpa using hl) fun i d hd=>?_
   simp only[List.getElem?_map,Option.map_eq_some_iff] at hd
   obtain⟨d1,hd1,rfl⟩:=hd
   exact frz_rep J f (hr i d1 hd1)
  |ifc t v d h=>
   simp only[D.frz]
   have q:=frz_rep J f h
   split
   ·rename_i y hy
    rw[hy] at q
    exact .p _ _ (.iface t v y q.p_inv)
   ·exact .ifc t v _ q
  |dead v=>exact .dead v
  |undef=>exact .undef
  |p v x h=>exact .p v x h
  |fsl b n e sz es a1 a2 a3 a4=>exact .p _ _ (seal_rep (.fsl b n e sz es a1 a2 a3 a4) rfl)
  |tsl v t e sz es row r a1 a2 a3 a4 a5 a6=>exact .tsl v t e sz es row r a1 a2 a3 a4 a5 a6
  |glob g off=>exact .glob g off
  |ro b o off cs vs a1 a2=>exact .ro b o off cs vs a1 a2
  |fn f0 as cs ds es a1 a2 a3 a4=>
   simp only[D.frz]
   refine .fn f0 as cs _ _ (by simpa using a1) (fun i d hd=>?_) (by simpa using a3) (fun i d hd=>?_)
   ·simp only[List.getElem?_map,Option.map_eq_some_iff] at hd
    obtain⟨d1,hd1,rfl⟩:=hd
    exact frz_rep J f (a2 i d1 hd1)
   ·simp only[List.getElem?_map,Option.map_eq_some_iff] at hd
    obtain⟨d1,hd1,rfl⟩:=hd
    exact frz_rep J f (a4 i d1 hd1)
  |esl a sz=>exact .esl a sz
  |csl a n sz es hn hx=>exact .csl a n sz es hn hx
  |dptr b n cap d a1 a2 a3=>exact .dptr b n cap d a1 a2 a3
  |anyp q=>exact .anyp q
  |fresh T n i b a1 a2=>exact .fresh T n i b a1 a2
  |mapr i b a1=>exact .mapr i b a1
  |mapc as cs kd ks ds s a1 a2 a3 a4 a5 a6 a7 a8 a9=>exact .mapc as cs kd ks ds s a1 a2 a3 a4 a5 a6 a7 a8 a9
theorem frz_map1{k:Nat}{H:Hp}:∀(f:Nat) (d:D),isMap1 (D.frz k H f d)=isMap1 d
 | 0,d=>rfl
 |f+1,d=>by
  cases d with
  |msl i off n c sz=>
   simp only[D.frz]
   split
   ·split
    ·split
     ·split<;>rfl
     ·rfl
    ·rfl
   ·rfl
  |gsl i e n sz=>
   simp only[D.frz]
   split
   ·split
    ·split
     ·split<;>rfl
     ·rfl
    ·rfl
   ·rfl
  |box i off=>
   simp only[D.frz]
   split
   ·split
    ·split
     ·rfl
     ·split<;>rfl
    ·rfl
   ·rfl
  |agg cs=>simp only[D.frz,mkAgg];split<;>rfl
  |ifc t d=>simp only[D.frz];split<;>rfl
  |_=>rfl
theorem frz_mapC{k:Nat}{H:Hp}(f:Nat)(cs:List D):isMapC (cs.map (D.frz k H f))=isMapC cs:=by
 match cs with
 |[]=>rfl
 |[d]=>rw[List.map_cons,List.map_nil,isMapC_one1,isMapC_one1,frz_map1]
 |d::e::r=>rw[List.map_cons,List.map_cons,isMapC_two,isMapC_two]
theorem sealC_ren(γ:Gh)(H:Hp)(w:World)(nb:Nat):Ren (γ.sealM H w nb) (γ.sealC H w nb) (below nb) some:=by
 refine⟨rfl,fun _ _ h=>h,fun _ _ _ h=>h,fun i j b hi hb=>?_,fun t u row ht hr=>?_⟩
 ·obtain⟨h1,rfl⟩:=below_some hi
  show(γ.boxes.take nb)[j]? =some b
  rw[List.getElem?_take_of_lt h1];exact hb
 ·cases ht
  exact⟨row,hr,rfl,rfl,fun _ _ h=>h⟩
theorem frzC_get{k:Nat}{H:Hp}{cs:List D}{i:Nat}{d:D}(h:(frzC k H cs)[i]? =some d):∃d1,cs[i]? =some d1∧(d=d1∨d=d1.frz k H 8):=by
 unfold frzC at h
 split at h
 ·exact⟨d,h,.inl rfl⟩
 ·simp only[List.getElem?_map,Option.map_eq_some_iff] at h
  obtain⟨d1,hd1,rfl⟩:=h
  exact⟨d1,hd1,.inr rfl⟩
theorem frzC_len(k:Nat)(H:Hp)(cs:List D):(frzC k H cs).length=cs.length:=by unfold frzC;split<;>simp
theorem frzC_mapC(k:Nat)(H:Hp)(cs:List D):isMapC (frzC k H cs)=isMapC cs:=by
 unfold frzC
 split
 ·rfl
 ·exact frz_mapC 8 cs
theorem seal_core(I:Inv G γ H w){γ':Gh}{Hx:Hp}{w':World}(L:γ.le γ')(F:Frame γ H w γ' Hx w')(J:Inv G γ' Hx w'){bx:List (List D)}(hbx:mapO (fun cs=>D.renL (below H.bx.length) some (frzC H.bx.length Hx cs)) (Hx.bx.take H.bx.length)=some bx)(hnb:H.bx.length≤Hx.bx.length):
    γ.le (γ'.sealC Hx w' H.bx.length)∧Frame γ H w (γ'.sealC Hx w' H.bx.length) ⟨bx,Hx.tk⟩ w'∧Inv G (γ'.sealC Hx w' H.bx.length) ⟨bx,Hx.tk⟩ w':=by
     have hlb:γ.boxes.length=H.bx.length:=I.lenB
     have hlb':γ'.boxes.length=Hx.bx.length:=J.lenB
     have hdrop:∀b,LvD γ' Hx H.bx.length b→b<w.heap.size→Lv γ H b:=fun b hb hlt=>by
      rcases F.box b hb.lv with q |q
      ·exact q
      ·omega
     have hkeep:∀b,Lv (γ'.sealC Hx w' H.bx.length) ⟨bx,Hx.tk⟩ b→Lv γ' Hx b∧¬LvD γ' Hx H.bx.length b:=fun b hb=>by
      obtain⟨i,cs,h1,h2,h3⟩:=hb
      obtain⟨hi1,hi2⟩:=take_get h1
      obtain⟨c0,q1,q2⟩:=mapO_back hbx h2
      rw[List.getElem?_take_of_lt hi1] at q1
      have hn0:c0≠[]:=fun e=>renL_ne q2 h3 (by rw[e];rfl)
      refine⟨⟨i,c0,hi2,q1,hn0⟩,fun hd=>?_⟩
      obtain⟨j,cj,a1,a2,a3,a4⟩:=hd
      have:=J.nodup i j b c0 cj hi2 a2 q1 a3 hn0 a4
      omega
     have hM:=Gh.sealM_le J H.bx.length
     have R:=sealC_ren γ' Hx w' H.bx.length
     have hfree:∀t b,Free (γ'.sealC Hx w' H.bx.length) ⟨bx,Hx.tk⟩ t b→Free γ' Hx t b:=fun t b h=>Free.congr (fun _ _ h=>h) (fun _ _ h=>h) h
     refine⟨?_,?_,?_⟩
     ·refine⟨L.base,L.tys,fun b o v h=>hM.mem _ _ _ (L.mem _ _ _ h),fun i b h=>?_,L.rows⟩
      show(γ'.boxes.take H.bx.length)[i]? =some b
      rw[List.getElem?_take_of_lt (by rw[←hlb];exact(List.getElem?_eq_some_iff.1 h).1)]
      exact L.boxes i b h
     ·refine⟨F.os,F.tape,F.output,F.size,fun b hb ho=>?_,fun b o hb ho=>?_,fun b hb=>F.box b (hkeep b hb).1,fun t b h=>F.fre t b (hfree t b h),fun b hb=>F.bxs b (List.mem_of_mem_take hb)⟩
      ·obtain⟨q1,q2⟩:=F.blk b hb ho
       refine⟨q1,?_⟩
       exact(Sim.refl (γ'.mem b) _).trans q2 (fun _ h=>h) |>.trans (Sim.refl _ _) (fun j hj=>by
        show(γ'.sealM Hx w' H.bx.length).mem b j≠none
        cases hm:γ'.mem b j with
        |none=>exact absurd hm hj
        |some v=>rw[hM.mem _ _ _ hm];simp)
      ·have hnd:¬LvD γ' Hx H.bx.length b:=fun h=>ho (.inl (hdrop b h hb))
       exact(Gh.sealM_out hnd).trans (F.mem b o hb ho)
     ·obtain⟨hl,hg⟩:=mapO_both hbx
      have hbl:bx.length=H.bx.length:=by rw[←hl];simp;omega
      constructor
      ·exact J.size
      ·exact J.tys
      ·exact J.rowb
      ·intro b o v h
       by_cases hd:LvD γ' Hx H.bx.length b
       ·obtain⟨j,cj,hj0,hj,hj2,hj3⟩:=hd
        have hd:LvD γ' Hx H.bx.length b:=⟨j,cj,hj0,hj,hj2,hj3⟩
        obtain⟨vs,T,fr,q1,_⟩:=J.box _ b _ hj hj2
        have h:(γ'.sealM Hx w' H.bx.length).mem b o=some v:=h
        have hm:isMapC cj=false:=by
         cases hm:isMapC cj with
         |false=>rfl
         |true=>
          exfalso
          simp only[viewC,hm,if_true] at q1
          split at q1
          ·rename_i es ck hmap
           rw[Gh.sealM_map hd hmap] at h
           cases h
          ·cases q1
        rw[viewC_of hm] at q1
        rw[Gh.sealM_in hd q1] at h
        simp only[World.cell?,q1]
        simpa using h
       ·have h:(γ'.sealM Hx w' H.bx.length).mem b o=some v:=h
        rw[Gh.sealM_out hd] at h
        exact J.mem b o v h
      ·intro g cs hgl j c hc
       obtain⟨h1,v,h2,h3⟩:=J.globs g cs hgl j c hc
       exact⟨h1,v,hM.mem _ _ _ h2,h3.mono hM.mem⟩
      ·show(γ'.boxes.take H.bx.length).length=bx.length
       rw[hbl];simp;omega
      ·intro i j b ci cj h1 h2 h3 h4 n1 n2
       obtain⟨hi1,hi2⟩:=take_get h1
       obtain⟨hj1,hj2⟩:=take_get h2
       obtain⟨c0,q1,q2⟩:=mapO_back hbx h3
       obtain⟨c1,r1,r2⟩:=mapO_back hbx h4
       rw[List.getElem?_take_of_lt hi1] at q1
       rw[List.getElem?_take_of_lt hj1] at r1
       exact J.nodup i j b c0 c1 hi2 hj2 q1 r1 (fun e=>renL_ne q2 n1 (by rw[e];rfl)) (fun e=>renL_ne r2 n2 (by rw[e];rfl))
      ·intro i b cs h1 h2
       obtain⟨hi,h1'⟩:=take_get h1
       have hil:i<Hx.bx.length:=by omega
       have hc:(Hx.bx.take H.bx.length)[i]? =some (Hx.bx[i]'hil):=by rw[List.getElem?_take_of_lt hi];exact List.getElem?_eq_getElem _
       have hren:=hg i _ cs hc h2
       obtain⟨vs,T,fr,q1,q2,q3,q4⟩:=J.box i b _ h1' (List.getElem?_eq_getElem hil)
       have hmm:=(renL_map hren).trans (frzC_mapC _ _ _)
       refine⟨vs,T,fr,(viewC_same hmm _).trans q1,renB_rep R ⟨by rw[frzC_len];exact q2.1,fun k d hd=>?_⟩ hren,fun hm=>renL_ones hren (fun d hd=>?_),fun hn=>q4 (fun e=>renL_ne hren hn (by rw[e];rfl))⟩
       ·obtain⟨d1,hd1,rfl |rfl⟩:=frzC_get hd
        ·exact(q2.2 k d hd1).mono hM
        ·exact frz_rep J 8 ((q2.2 k d1 hd1).mono hM)
       ·obtain⟨k,hk⟩:=List.getElem?_of_mem hd
        obtain⟨d1,hd1,rfl |rfl⟩:=frzC_get hk
        ·exact q3 (hmm.symm.trans hm) d (List.mem_of_getElem? hd1)
        ·exact frz_one 8 d1 (q3 (hmm.symm.trans hm) d1 (List.mem_of_getElem? hd1))
      ·intro b o hb
       obtain⟨k1,k2⟩:=hkeep b hb
       show(γ'.sealM Hx w' H.bx.length).mem b o=none
       rw[Gh.sealM_out k2]
       exact J.boxmem b o k1
      ·intro i b h1 h2
       obtain⟨hi1,hi2⟩:=take_get h1
       obtain⟨c0,q1,q2⟩:=mapO_back hbx h2
       rw[List.getElem?_take_of_lt hi1] at q1
       have h0:c0=[]:=by have:=renL_nil q2;exact List.eq_nil_of_length_eq_zero (by rw[←frzC_len H.bx.length Hx,this];rfl)
       subst h0
       exact J.empt i b hi2 q1
      ·exact J.lenT
      ·intro t row f h1 h2
       obtain⟨q,a1,a2⟩:=J.row t row f h1 h2
       refine⟨q,a1,a2.keep (fun _ _ h=>h) (fun _ _ _ _=>rfl) (fun b cap hq hlt o=>?_) (fun b cap hq hlt hb hb'=>hb (List.mem_of_mem_take hb'))⟩
       subst hq
       obtain⟨_,_,_,_,_,_,_,hnb'⟩:=a2.2 hlt
       exact Gh.sealM_out fun hd=>hnb' hd.lv.mem
      ·exact J.rowmax
      ·exact fun t t' b h h'=>J.free t t' b (hfree t b h) (hfree t' b h')
theorem seal_post{nt:Nat}{mk:Option Nat}{df:List Deferred}{Q:Exit→Act→World→Prop}{γ:Gh}{H:Hp}{w:World}(I:InvS W G γ H w){x:Out×St}(h:Post W G nt mk df Q γ H w (sealS H.bx.length x).1 (sealS H.bx.length x).2):Post W G nt mk df Q γ H w x.1 x.2:=by
 unfold sealS at h
 split at h
 ·rename_i bx o hbx ho
  split at h
  ·rename_i hnb
   intro γ' a' w' L F J hd
   obtain⟨L2,F2,J2⟩:=seal_core I.toInv L F J.toInv hbx hnb
   have:=h _ a' w' L2 F2 (I.up L2 F2 J2) hd
   have hrep:∀v d d',RepD γ' v d→(d.frz H.bx.length x.2.hp 8).ren (below H.bx.length) some=some d'→RepD (γ'.sealC x.2.hp w' H.bx.length) v d':=fun v d d' hv hr=>
    ren_rep (sealC_ren γ' x.2.hp w' H.bx.length) (frz_rep J.toInv 8 (hv.mono (Gh.sealM_le J.toInv H.bx.length))) hr
   have hE:EnvRep γ' x.2.env a'.tmps→EnvRep (γ'.sealC x.2.hp w' H.bx.length) (x.2.env.map fun y=>(y.1,((y.2.frz H.bx.length x.2.hp 8).ren (below H.bx.length) some).getD .dead)) a'.tmps:=fun E t=>by
    have hget:∀(e:Env),Env.get (e.map fun y=>(y.1,((y.2.frz H.bx.length x.2.hp 8).ren (below H.bx.length) some).getD .dead)) t=(((e.get t).frz H.bx.length x.2.hp 8).ren (below H.bx.length) some).getD .dead:=by
     intro e
     induction e with
     |nil=>rfl
     |cons y e ih=>
      obtain⟨s,d⟩:=y
      simp only[List.map_cons,Env.get]
      split
      ·rfl
      ·exact ih
    rw[hget]
    cases hren:((x.2.env.get t).frz H.bx.length x.2.hp 8).ren (below H.bx.length) some with
    |none=>exact .dead _
    |some d'=>exact hrep _ _ _ (E t) hren
   obtain⟨xo,xs⟩:=x
   cases xo with
   |norm=>cases ho;exact fun m E=>this m (hE E)
   |exit id=>cases ho;exact fun m E=>this m (hE E)
   |ret=>cases ho;exact fun m E=>this m (hE E)
   |pan d=>
    obtain⟨d',hd',rfl⟩:=Option.map_eq_some_iff.1 ho
    exact fun m E v hv=>this m (hE E) v (hrep _ _ _ hv hd')
  ·exact h
 ·exact h
end
theorem setPs_rep{γ:Gh}:∀(ps:List Nat) (x:List D) (vs:List Value) (env:Env) (tmps:Array Value),EnvRep γ env tmps→(∀p∈ps,p<tmps.size)→vs.length=x.length→(∀(i:Nat) d v,x[i]? =some d→vs[i]? =some v→RepD γ v d)→
    EnvRep γ (setPs env ps x) ((ps.zip vs).foldl (fun t (y:Nat×Value)=>t.setIfInBounds y.1 y.2) tmps)∧((ps.zip vs).foldl (fun t (y:Nat×Value)=>t.setIfInBounds y.1 y.2) tmps).size=tmps.size
 |[],x,vs,env,tmps,E,_,_,_=>by
  cases x<;>exact⟨E,rfl⟩
 |p::ps,[],[],env,tmps,E,_,_,_=>⟨E,rfl⟩
 |p::ps,[],_::_,env,tmps,E,_,hl,_=>by cases hl
 |p::ps,d::x,[],env,tmps,E,_,hl,_=>by cases hl
 |p::ps,d::x,v::vs,env,tmps,E,hp,hl,hr=>by
  have E':=E.put (hp p (by simp)) (hr 0 d v rfl rfl)
  obtain⟨h1,h2⟩:=setPs_rep ps x vs ((p,d)::env) (tmps.setIfInBounds p v) E' (fun q hq=>by rw[Array.size_setIfInBounds];exact hp q (by simp[hq])) (by simpa using hl) (fun i d' v' h1 h2=>hr (i+1) d' v' h1 h2)
  refine⟨h1,?_⟩
  rw[List.zip_cons_cons,List.foldl_cons,h2,Array.size_setIfInBounds]
theorem setPs_arr{γ:Gh}{ps:Array Nat}{x:List D}{vs:Array Value}{env:Env}{tmps:Array Value}(E:EnvRep γ env tmps)(hp:∀p∈ps.toList,p<tmps.size)(hr:RepL γ vs x):
    EnvRep γ (setPs env ps.toList x) ((ps.zip vs).foldl (fun t (p,v)=>t.setIfInBounds p v) tmps)∧((ps.zip vs).foldl (fun t (p,v)=>t.setIfInBounds p v) tmps).size=tmps.size:=by
 have h:=setPs_rep ps.toList x vs.toList env tmps E hp (by rw[Array.length_toList];exact hr.1) (fun i d v h1 h2=>by
  have:=hr.2 i d h1
  have hi:i<vs.size:=by rw[hr.1];exact(List.getElem?_eq_some_iff.1 h1).1
  rw[Array.getElem?_toList] at h2
  simpa[Array.getD_eq_getD_getElem?,h2] using this)
 rw[←Array.foldl_toList,Array.toList_zip]
 exact h
def RgJ(W:World)(G:Nat→Option (List PD))(γ:Gh)(H:Hp)(w:World)(ea eb:St→Option (Out×St))(env:Env)(ps:List Nat)(ids:List Nat)(xs:List (List D))(r:Out×St)(rec:Loop)(k:Nat)(fb:Nat→Prop)(A:World):Prop:=
 ∃Hk γk,(∀i∈ids,Hk.bx[i]? =H.bx[i]?)∧(∀b,fb b→b<A.heap.size∧w.heap.size+1<b∧¬Owned γk Hk b)∧evRounds ea eb env ps (keepB ids H) (xs.drop k) Hk=some r∧γ.le γk∧Frame γ H w γk Hk A∧InvS W G γk Hk A∧A.heap[w.heap.size+1]? =some (.loop rec)∧A.heap[w.heap.size]? =some (.deferred (some []))
def RgX(W:World)(G:Nat→Option (List PD))(γ:Gh)(H:Hp)(w:World)(r:Out×St)(rec:Loop)(e:Ending)(B:World):Prop:=
 ∃γ',γ.le γ'∧Frame γ H w γ' r.2.hp B∧InvS W G γ' r.2.hp B∧B.heap[w.heap.size]? =some (.deferred (some []))∧
  match e with
  | .returned _=>∃j,((r.1= .ret∧j=Code.ret)∨∃id,r.1= .exit id∧j=Code.exit id)∧B.heap[w.heap.size+1]? =some (.loop {rec with state:=.done,pending:=some j})
  | .panicked ch=>∃d v,r.1= .pan d∧ch=[{v,recovered:=false}]∧RepD γ' v d
  | .outgrown=>False
theorem InvS.below{γ:Gh}{H:Hp}{w w':World}(I:InvS W G γ H w)(B:RowKit.Below w.heap.size w w'):InvS W G γ H w':=I.up (.refl γ) (I.toInv.below B).1 (I.toInv.below B).2
theorem Frame.below{γ γ':Gh}{H H':Hp}{w A B:World}(F:Frame γ H w γ' H' A)(h:RowKit.Below A.heap.size A B):Frame γ H w γ' H' B:=by
 refine⟨h.os.trans F.os,h.tape.trans F.tape,h.output.trans F.output,Nat.le_trans F.size h.size,fun k hk ho=>?_,F.mem,F.box,F.fre,F.bxs⟩
 rw[h.block k (Nat.lt_of_lt_of_le hk F.size)]
 exact F.blk k hk ho
theorem at_below{A B:World}(h:RowKit.Below A.heap.size A B){b:Nat}{o:Obj}(hb:A.heap[b]? =some o):B.heap[b]? =some o:=by
 rw[h.block b (Array.getElem?_eq_some_iff.1 hb).1]
 exact hb
theorem code_wpR{c:CallR}(S:Sound P W G c)(hm:P.follows .mixedOrders=true){it:It}(hit:∀b s r,it b s=some r→∃m,iter b m s=some r){nt:Nat}:
    ∀(sc:SC) (cd:Code) (sc':SC),compC P nt sc cd=some sc'→∀{ro:Option Nat} {fid:Nat} {mk:Option Nat} {df:List Deferred},sc'.gens P W G→(sc'.noR=true∨(ro=none∧(∃B,mk=some B)∧∃fnc,P.funcs[fid]? =some fnc))→∀(Q:Exit→Act→World→Prop) (γ:Gh) (s:St) (a:Act) (w:World) (out:Out) (s':St),(∀a w,¬Q .outgrown a w)→evS c G it sc' s=some (out,s')→
     InvS W G γ s.hp w→EnvRep γ s.env a.tmps→a.tmps.size=nt→Dfs mk df a.defers w→Post W G nt mk df Q γ s.hp w out s'→wpR ro fid P cd Q a w:=by
 intro sc cd
 fun_induction compC P nt sc cd
 all_goals (intro sc' h ro fid mk df hG hr Q γ s a w out s' hQ he I E hn hd hp)
 case case1 b cd ih=>
  obtain⟨b',hb,rfl⟩:=Option.map_eq_some_iff.1 h
  simp only[evS] at he
  obtain⟨x,hx,heq⟩:=Option.map_eq_some_iff.1 he
  have h1:out=(locD s.hp.bx.length s.hp.tk.length x).1:=by rw[heq]
  have h2:s'=(locD s.hp.bx.length s.hp.tk.length x).2:=by rw[heq]
  rw[h1,h2] at hp
  exact ih b' hb hG hr Q γ s a w x.1 x.2 hQ hx I E hn hd (loc_post I hp)
 case case2=>
  cases h
  simp only[evS] at he
  cases he
  exact wpR_of_in (wpIn_skip (hp γ a w (.refl γ) (.refl γ _ w) I hd hn E))
 case case3=>
  cases h
  simp only[evS] at he
  cases he
  exact wpR_of_in (wpIn_label (hp γ a w (.refl γ) (.refl γ _ w) I hd hn E))
 case case4 keep hs id ops hnd=>
  obtain⟨sl,hsl,rfl⟩:=Option.map_eq_some_iff.1 h
  have hnd:=List.all_eq_true.1 hnd
  have o:=compO_ok hsl
  simp only[evS] at he
  have hl:ops.toList.length=sl.length:=by simpa using o.len
  have hof:∀(i:Nat) x so,ops.toList[i]? =some x→sl[i]? =some so→OpOf P ops nt x so:=fun i x so hx hs=>o.of i x so (by simpa using hx) hs
  split at he
  ·rename_i env' H' hev
   cases he
   refine wpR_of_in (wpIn_region_list (wpListR hQ _ hnd _ _ (ops_wp S o.lt ops.toList sl γ s.env s.hp a w hl hof I E hn _ hev (fun γ' e2 H2 a' w' hr L F J E' hn' hd'=>?_) (fun γ' d e2 H2 v a' w' hr _ _ _ _ _ _ _=>by cases hr))))
   cases hr
   exact hp γ' a' w' L F J (hd.keep I.toInv F hd') hn' (E'.keep keep)
  ·rename_i d env' H' hev
   cases he
   refine wpR_of_in (wpIn_region_list (wpListR hQ _ hnd _ _ (ops_wp S o.lt ops.toList sl γ s.env s.hp a w hl hof I E hn _ hev (fun γ' e2 H2 a' w' hr _ _ _ _ _ _=>by cases hr) (fun γ' d e2 H2 v a' w' hr L F J V E' hn' hd'=>?_))))
   cases hr
   exact hp γ' a' w' L F J (hd.keep I.toInv F hd') hn' E' v V
  ·cases he
 case case6 keep pairs hs id ops sl hsl hdr=>
  cases h
  rw[Bool.and_eq_true] at hdr
  have hnd:=List.all_eq_true.1 hdr.2
  have o:=compO_ok hsl
  simp only[evS] at he
  split at he
  ·rename_i env' H' cs hev
   split at he
   ·rename_i hpr
    cases he
    refine wpR_of_in (wpIn_region_any hm (wpAnyR hQ hnd _ _ _ _ (draw_wp S o.len o.of o.lt hdr.1 hev hpr (w:=w.drew) (I.up (.refl γ) (Frame.drew γ s.hp w) I.toInv.drew) E hn fun γ' a' w' L F J E' hn' hd'=>?_)))
    have F2:=(Frame.drew γ s.hp w).trans rfl F
    exact hp γ' a' w' L F2 J (hd.keep I.toInv F2 hd') hn' (E'.keep keep)
   ·cases he
  ·split at he
   ·rename_i d H' cs k hev
    split at he
    ·rename_i hpr
     cases he
     rw[Bool.and_eq_true] at hpr
     refine wpR_of_in (wpIn_region_any hm (wpAnyR hQ hnd _ _ _ _ (draw_pan S o.len o.of o.lt hdr.1 hev hpr.1 hpr.2 (w:=w.drew) (I.up (.refl γ) (Frame.drew γ s.hp w) I.toInv.drew) E hn fun γ' v a' w' L F J V E' hn' hd'=>?_)))
     have F2:=(Frame.drew γ s.hp w).trans rfl F
     exact hp γ' a' w' L F2 J (hd.keep I.toInv F2 hd') hn' E' v V
    ·cases he
   ·cases he
 case case9 f gen _ _ sa sb g ps x y g' a' b' hb ha hg hcnd iha ihb=>
  cases h
  simp only[Bool.and_eq_true] at hcnd
  obtain⟨⟨na,nb⟩,hps⟩:=hcnd
  have hps:∀p∈ps.toList,p<nt:=fun p hp=>by simpa using List.all_eq_true.1 hps p hp
  rcases hr with hr |⟨rfl,⟨B0,rfl⟩,fnc,hfn⟩
  ·cases hr
  obtain⟨⟨hent,hgen⟩,ga,gb⟩:=hG
  simp only[evS] at he
  split at he
  ·rename_i xs hxs
   have hgr:=opdOf_rep E hg
   unfold genD at hxs
   split at hxs
   ·rename_i f' fi cap hfv
    split at hxs
    ·rename_i hff
     subst hff
     rw[hfv] at hgr
     obtain⟨as,lb,hgv,r1,r2⟩:=hgr.fn_inv
     obtain⟨en,hen,hseq⟩:=hgen fi cap s.hp xs hxs γ w as lb I r1 r2
     rw[hfv] at he
     generalize hids:capIds (.fn f' fi cap) s.hp=ids at hseq he
     obtain⟨rec,hrec⟩:∃rec:Loop,rec={state:=.ready,pending:=none,fn:=fid,tmps:=a.tmps,params:=ps,assign:=x,body:=y,defers:=w.heap.size}:=⟨_,rfl⟩
     obtain⟨W1,hW1⟩:∃W1,(w.alloc (.deferred (some []))).alloc (.loop rec)=W1:=⟨_,rfl⟩
     have hL1:W1.heap[w.heap.size+1]? =some (.loop rec):=by
      rw[←hW1];have:=World.alloc_heap_new (w.alloc (.deferred (some []))) (.loop rec);rwa [World.size_alloc] at this
     have hK1:W1.heap[w.heap.size]? =some (.deferred (some [])):=by
      rw[←hW1];exact(RowKit.Below.heap_alloc _ _ _ (by simp)).trans (World.alloc_heap_new w _)
     have hB1:RowKit.Below w.heap.size w W1:=by
      rw[←hW1];exact((RowKit.Below.refl _ w).alloc (Nat.le_refl _) _).alloc (by simp) _
     have hWw:=I.blw.size
     have hround:∀k fb z A,xs[k]? =some z→RgJ W G γ s.hp w (evS c G it a') (evS c G it b') s.env ps.toList ids xs (out,s') rec k fb A→
         YieldAt (wr none) 0 P (w.heap.size+1) (en k) A fun e B=>(A.heap.size≤B.heap.size∧∀b,fb b→Stands b A B)∧((e= .returned (.bool true)∧RgJ W G γ s.hp w (evS c G it a') (evS c G it b') s.env ps.toList ids xs (out,s') rec (k+1) fb B)∨(e= .returned (.bool false)∧RgX W G γ s.hp w (out,s') rec e B)∨∃ch,e= .panicked ch∧RgX W G γ s.hp w (out,s') rec e B):=by
      rintro k fb z A hz ⟨Hk,γk,hkp,hfb,hev,Lk,Fk,Ik,hlk,hdk⟩
      obtain⟨hes,her⟩:=hen k z hz
      have hdrop:xs.drop k=z::xs.drop (k+1):=by
       obtain⟨hlt,rfl⟩:=List.getElem?_eq_some_iff.1 hz
       exact List.drop_eq_getElem_cons hlt
      rw[hdrop] at hev
      simp only[evRounds] at hev
      split at hev
      ·cases hev
      rename_i hzl
      have hzl:z.length=ps.toList.length:=Classical.not_not.1 hzl
      have hy:=run_yield (P:=P) (args:=en k) hlk (by rw[hes,hrec,hzl];simp)
      rw[hrec] at hy
      have hy':(Instr.yield (w.heap.size+1) (en k)).run P A= .ok (.round (w.heap.size+1) fid ((ps.zip (en k)).foldl (fun t (p,v)=>t.setIfInBounds p v) a.tmps) x y) A:=hy
      refine⟨_,_,_,_,hy',round_of_wp hfn ?_⟩
      obtain⟨E1,hs1⟩:=setPs_arr (E.mono Lk) (fun p hp=>by rw[hn];exact hps p hp) (her γk)
      split at hev
      ·rename_i s1 hea
       refine iha a' ha (ro:=some (w.heap.size+1)) (fid:=fid) (mk:=none) (df:=[]) ga (.inl na) _ γk ⟨setPs s.env ps.toList z,Hk⟩ _ A .norm s1 (fun _ _ h=>h) hea Ik E1 (by rw[hs1,hn]) rfl fun γ1 a1 w1 L1 F1 J1 hd1 hn1 E2=>?_
       have hd1:a1.defers=[]:=hd1
       have hl1:=F1.stands Ik.toInv hlk rfl
       have hk1:=F1.stands Ik.toInv hdk rfl
       have hbr:=run_beginRound (P:=P) hl1 (by rw[hrec])
       refine⟨_,hbr,?_⟩
       have J2:=J1.turn hl1 rfl (by omega) (.loop {rec with state:=.busy})
       have FF1:=(Fk.trans Lk.base F1).turn (b:=w.heap.size+1) (by omega) (.loop {rec with state:=.busy})
       have hl2:(w1.putObj (w.heap.size+1) (.loop {rec with state:=.busy})).heap[w.heap.size+1]? =some (.loop {rec with state:=.busy}):=World.putObj_heap_same (Array.getElem?_eq_some_iff.1 hl1).1
       have hk2:(w1.putObj (w.heap.size+1) (.loop {rec with state:=.busy})).heap[w.heap.size]? =some (.deferred (some [])):=(World.putObj_heap_other (by omega)).trans hk1
       have hfb2:∀b,fb b→b<(w1.putObj (w.heap.size+1) (.loop {rec with state:=.busy})).heap.size∧¬Owned γ1 s1.hp b∧Stands b A (w1.putObj (w.heap.size+1) (.loop {rec with state:=.busy})):=fun b hb=>by
        obtain⟨b1,b2,b3⟩:=hfb b hb
        refine⟨by rw[World.putObj_size];exact Nat.lt_of_lt_of_le b1 F1.size,fun ho=>?_,fun o=>?_,fun o h1 h2=>?_⟩
        ·rcases F1.own b ho with q |q
         ·exact b3 q
         ·omega
        ·rw[cellO (w:=w1) (World.putObj_heap_other (by omega))]
         exact sim_cell (F1.blk b b1 b3).2 o
        ·exact(World.putObj_heap_other (by omega)).trans (F1.stands Ik.toInv h1 h2)
       have hsz2:A.heap.size≤(w1.putObj (w.heap.size+1) (.loop {rec with state:=.busy})).heap.size:=by rw[World.putObj_size];exact F1.size
       generalize w1.putObj (w.heap.size+1) (.loop {rec with state:=.busy})=w2 at J2 FF1 hl2 hk2 hfb2 hsz2
       have hrR:∀(j:Option Code) (γ3:Gh) (H3:Hp) (w3:World),γ1.le γ3→Frame γ1 s1.hp w2 γ3 H3 w3→InvS W G γ3 H3 w3→∃w4,(Instr.endRound (w.heap.size+1) j).run P w3= .ok (.bool j.isNone) w4∧γ.le γ3∧Frame γ s.hp w γ3 H3 w4∧InvS W G γ3 H3 w4∧w4.heap[w.heap.size+1]? =some (.loop {rec with state:=if j.isNone then .ready else .done,pending:=j})∧w4.heap[w.heap.size]? =some (.deferred (some []))∧A.heap.size≤w4.heap.size∧∀b,fb b→(b<w4.heap.size∧w.heap.size+1<b∧¬Owned γ3 H3 b)∧Stands b A w4:=by
        intro j γ3 H3 w3 L3 F3 J3
        have hl3:=F3.stands J2.toInv hl2 rfl
        have hk3:=F3.stands J2.toInv hk2 rfl
        have hre:=run_endRound (P:=P) j hl3
        exact⟨_,hre,Lk.trans (L1.trans L3),(FF1.trans (L1.base.trans Lk.base) F3).turn (by omega) _,J3.turn hl3 rfl (by omega) _,World.putObj_heap_same (Array.getElem?_eq_some_iff.1 hl3).1,(World.putObj_heap_other (by omega)).trans hk3,by rw[World.putObj_size];exact Nat.le_trans hsz2 F3.size,fun b hb=>by
         obtain⟨_,b2,_⟩:=hfb b hb
         obtain⟨c1,c2,c3⟩:=hfb2 b hb
         refine⟨⟨by rw[World.putObj_size];exact Nat.lt_of_lt_of_le c1 F3.size,b2,fun ho=>?_⟩,fun o=>?_,fun o h1 h2=>?_⟩
         ·rcases F3.own b ho with q |q
          ·exact c2 q
          ·omega
         ·rw[cellO (w:=w3) (World.putObj_heap_other (by omega)),←c3.1 o]
          exact sim_cell (F3.blk b c1 c2).2 o
         ·exact(World.putObj_heap_other (by omega)).trans (F3.stands J2.toInv (c3.2 o h1 h2) h2)⟩
       split at hev
       ·rename_i s2 heb
        split at hev
        case isFalse=>cases hev
        rename_i hkb
        have hkp2:∀i∈ids,s2.hp.bx[i]? =s.hp.bx[i]?:=fun i hi=>sameBx_eq (List.all_eq_true.1 hkb i hi)
        refine ihb b' hb (ro:=some (w.heap.size+1)) (fid:=fid) (mk:=none) (df:=[]) gb (.inl nb) _ γ1 s1 a1 w2 .norm s2 (fun _ _ h=>h) heb J2 E2 hn1 hd1 fun γ3 a3 w3 L3 F3 J3 hd3 hn3 E3=>?_
        obtain⟨w4,q1,q2,q3,q4,q5,q6,q7,q8⟩:=hrR none γ3 s2.hp w3 L3 F3 J3
        refine⟨_,w4,q1,⟨q7,fun b hb=>(q8 b hb).2⟩,.inl ⟨rfl,⟨s2.hp,γ3,hkp2,fun b hb=>(q8 b hb).1,hev,q2,q3,q4,?_,q6⟩⟩⟩
        rw[q5,hrec]
        rfl
       ·rename_i o s2 hno heb
        have hos:o=out∧s'.hp=s2.hp:=by
         simp only[Option.some.injEq,Prod.mk.injEq] at hev
         exact⟨hev.1,by rw[←hev.2]⟩
        obtain⟨rfl,hh⟩:=hos
        refine ihb b' hb (ro:=some (w.heap.size+1)) (fid:=fid) (mk:=none) (df:=[]) gb (.inl nb) _ γ1 s1 a1 w2 o s2 (fun _ _ h=>h) heb J2 E2 hn1 hd1 fun γ3 a3 w3 L3 F3 J3 hd3=>?_
        cases o with
        |norm=>exact(hno rfl).elim
        |exit id=>
         intro hn3 E3
         obtain⟨w4,q1,q2,q3,q4,q5,q6,q7,q8⟩:=hrR (some (.exit id)) γ3 s2.hp w3 L3 F3 J3
         exact⟨_,w4,q1,⟨q7,fun b hb=>(q8 b hb).2⟩,.inr (.inl ⟨rfl,γ3,q2,by rw[hh];exact q3,by rw[hh];exact q4,q6,_,.inr ⟨id,rfl,rfl⟩,q5⟩)⟩
        |ret=>
         intro hn3 E3
         obtain⟨w4,q1,q2,q3,q4,q5,q6,q7,q8⟩:=hrR (some .ret) γ3 s2.hp w3 L3 F3 J3
         exact⟨_,w4,q1,⟨q7,fun b hb=>(q8 b hb).2⟩,.inr (.inl ⟨rfl,γ3,q2,by rw[hh];exact q3,by rw[hh];exact q4,q6,_,.inl ⟨rfl,rfl⟩,q5⟩)⟩
        |pan d=>
         intro hn3 E3 v V
         exact⟨hd3,⟨Nat.le_trans hsz2 F3.size,fun b hb=>by
          obtain⟨c1,c2,c3⟩:=hfb2 b hb
          exact⟨fun o=>by rw[←c3.1 o];exact sim_cell (F3.blk b c1 c2).2 o,fun o h1 h2=>F3.stands J2.toInv (c3.2 o h1 h2) h2⟩⟩,.inr (.inr ⟨_,rfl,γ3,Lk.trans (L1.trans L3),by rw[hh];exact FF1.trans (L1.base.trans Lk.base) F3,by rw[hh];exact J3,F3.stands J2.toInv hk2 rfl,d,v,rfl,rfl,V⟩)⟩
       ·cases hev
      ·cases hev
     have hcall:=hseq (w.heap.size+1) _ (RgX W G γ s.hp w (out,s') rec) W1 hB1
      (fun k fb A hj=>by
       obtain⟨Hk,γk,qk,_,_,q2,_,q4,_⟩:=hj
       exact⟨γk,Hk,q2,q4,qk⟩)
      (fun k fb A B hj hb2=>by
       obtain⟨Hk,γk,qk,q0,q1,q2,q3,q4,q5,q6⟩:=hj
       refine⟨Hk,γk,qk,fun b hb=>?_,q1,q2,q3.below hb2,q4.below hb2,at_below hb2 q5,at_below hb2 q6⟩
       rcases hb with hb |⟨hb,hb'⟩
       ·obtain⟨c1,c2,c3⟩:=q0 b hb
        exact⟨Nat.lt_of_lt_of_le c1 hb2.size,c2,c3⟩
       ·have hlt:w.heap.size+1<A.heap.size:=(Array.getElem?_eq_some_iff.1 q5).1
        exact⟨hb',by omega,fun ho=>by have:=q4.toInv.lt_of_owned ho;omega⟩)
      (fun k fb A b o o' hj hb ho hpl=>by
       obtain⟨Hk,γk,qk,q0,q1,q2,q3,q4,q5,q6⟩:=hj
       obtain⟨c1,c2,c3⟩:=q0 b hb
       exact⟨Hk,γk,qk,fun b' hb'=>by rw[World.putObj_size];exact q0 b' hb',q1,q2,q3.turn (by omega) o',q4.turn ho hpl (by omega) o',(World.putObj_heap_other (by omega)).trans q5,(World.putObj_heap_other (by omega)).trans q6⟩)
      (fun e A B hx hb2=>by
       obtain⟨γ',q2,q3,q4,q5,q6⟩:=hx
       refine⟨γ',q2,q3.below hb2,q4.below hb2,at_below hb2 q5,?_⟩
       cases e with
       |returned v=>obtain⟨j,h1,h2⟩:=q6;exact⟨j,h1,at_below hb2 h2⟩
       |panicked ch=>exact q6
       |outgrown=>exact q6)
      (fun e A b o o' hx hb ho hpl=>by
       have hb':w.heap.size+2≤b:=by rw[←hW1] at hb;simpa using hb
       obtain⟨γ',q2,q3,q4,q5,q6⟩:=hx
       refine⟨γ',q2,q3.turn (by omega) o',q4.turn ho hpl (by omega) o',(World.putObj_heap_other (by omega)).trans q5,?_⟩
       cases e with
       |returned v=>obtain⟨j,h1,h2⟩:=q6;exact⟨j,h1,(World.putObj_heap_other (by omega)).trans h2⟩
       |panicked ch=>exact q6
       |outgrown=>exact q6)
      hround ⟨s.hp,γ,fun _ _=>rfl,fun _ h=>h.elim,he,.refl γ,(Frame.refl γ s.hp w).below hB1,I.below hB1,hL1,hK1⟩
     have hcall:=callsIn_wr.1 hcall
     refine wpR_range hgv hent ?_
     rw[←hrec,hW1]
     refine hcall.mono ?_
     have fin:∀(γ':Gh) (H':Hp) (B:World) (rc:Loop),γ.le γ'→Frame γ s.hp w γ' H' B→InvS W G γ' H' B→B.heap[w.heap.size+1]? =some (.loop rc)→B.heap[w.heap.size]? =some (.deferred (some []))→rc.state≠.busy→
         ∃w4,(Instr.endLoop (w.heap.size+1)).run P B= .ok rc.pending w4∧Frame γ s.hp w γ' H' w4∧InvS W G γ' H' w4∧Dfs (some B0) df (mark w.heap.size::a.defers) w4:=by
      intro γ' H' B rc L F J hl hk hst
      have F4:=F.turn (b:=w.heap.size+1) (by omega) (.loop {rc with state:=.exhausted})
      refine⟨_,run_endLoop (P:=P) hl hst,F4,J.turn hl rfl (by omega) _,?_⟩
      obtain⟨h0,ms,h1,h2,h3⟩:=hd.keep I.toInv F4 rfl
      refine⟨h0,w.heap.size::ms,by rw[h1];rfl,?_,fun m hm=>?_⟩
      ·refine List.nodup_cons.2 ⟨fun hm=>?_,h2⟩
       obtain⟨_,ms0,g1,g2,g3⟩:=hd
       have :ms0=ms:=by
        have e:=g1.symm.trans h1
        have e2:ms0.map mark=ms.map mark:=List.append_cancel_right e
        exact(List.map_inj_right (fun x y hxy=>by simpa[mark] using hxy)).1 e2
       rw[←this] at hm
       have:=(Array.getElem?_eq_some_iff.1 (g3 _ hm).2).1
       omega
      ·rcases List.mem_cons.1 hm with rfl |hm
       ·exact⟨hd.1,(World.putObj_heap_other (by omega)).trans hk⟩
       ·exact h3 m hm
     rintro e B (⟨⟨v,rfl⟩,hj |hx⟩ |⟨ch,rfl,hx⟩)
     ·obtain⟨fb,Hk,γk,_,_,q1,q2,q3,q4,q5,q6⟩:=hj
      rw[List.drop_length] at q1
      simp only[evRounds,Option.some.injEq,Prod.mk.injEq] at q1
      obtain⟨rfl,rfl⟩:=q1
      obtain⟨w4,e1,e2,e3,e4⟩:=fin γk Hk B rec q2 q3 q4 q5 q6 (by rw[hrec];simp)
      refine⟨none,w4,by rw[e1,hrec],?_⟩
      exact hp γk {a with defers:=mark w.heap.size::a.defers} w4 q2 e2 e3 e4 hn (E.mono q2)
     ·obtain⟨γ',q2,q3,q4,q5,j,hj,q6⟩:=hx
      obtain⟨w4,e1,e2,e3,e4⟩:=fin γ' s'.hp B _ q2 q3 q4 q6 q5 (by simp)
      refine⟨some j,w4,e1,?_⟩
      have henv:s'.env=s.env:=by
       have key:∀(kb:Hp→Bool) (xs:List (List D)) (H:Hp),evRounds (evS c G it a') (evS c G it b') s.env ps.toList kb xs H=some (out,s')→s'.env=s.env:=by
        intro kb xs
        induction xs with
        |nil=>intro H h;cases h;rfl
        |cons z xs ih=>
         intro H h
         simp only[evRounds] at h
         split at h
         ·cases h
         ·split at h
          ·split at h
           ·split at h
            ·exact ih _ h
            ·cases h
           ·cases h;rfl
           ·cases h
          ·cases h
       exact key _ _ _ he
      have hpost:=hp γ' {a with defers:=mark w.heap.size::a.defers} w4 q2 e2 e3 e4
      rcases hj with⟨ho,rfl⟩ |⟨id,ho,rfl⟩
      ·have ho:out= .ret:=ho
       subst ho
       exact wpR_of_in (wpIn_ret (hpost hn (by rw[henv];exact E.mono q2)))
      ·have ho:out= .exit id:=ho
       subst ho
       exact wpR_of_in (wpIn_exit (hpost hn (by rw[henv];exact E.mono q2)))
     ·obtain⟨γ',q2,q3,q4,q5,d,v,ho,rfl,V⟩:=hx
      have ho:out= .pan d:=ho
      subst ho
      have henv:s'.env=s.env:=by
       have key:∀(kb:Hp→Bool) (xs:List (List D)) (H:Hp),evRounds (evS c G it a') (evS c G it b') s.env ps.toList kb xs H=some (.pan d,s')→s'.env=s.env:=by
        intro kb xs
        induction xs with
        |nil=>intro H h;cases h
        |cons z xs ih=>
         intro H h
         simp only[evRounds] at h
         split at h
         ·cases h
         ·split at h
          ·split at h
           ·split at h
            ·exact ih _ h
            ·cases h
           ·cases h;rfl
           ·cases h
          ·cases h
       exact key _ _ _ he
      obtain⟨h0,ms,h1,h2,h3⟩:=hd.keep I.toInv q3 rfl
      have hdd:Dfs (some B0) df (mark w.heap.size::a.defers) B:=by
       refine⟨h0,w.heap.size::ms,by rw[h1];rfl,?_,fun m hm=>?_⟩
       ·refine List.nodup_cons.2 ⟨fun hm=>?_,h2⟩
        obtain⟨_,ms0,g1,g2,g3⟩:=hd
        have :ms0=ms:=by
         have e:=g1.symm.trans h1
         have e2:ms0.map mark=ms.map mark:=List.append_cancel_right e
         exact(List.map_inj_right (fun x y hxy=>by simpa[mark] using hxy)).1 e2
        rw[←this] at hm
        have:=(Array.getElem?_eq_some_iff.1 (g3 _ hm).2).1
        omega
       ·rcases List.mem_cons.1 hm with rfl |hm
        ·exact⟨hd.1,q5⟩
        ·exact h3 m hm
      exact hp γ' {a with defers:=mark w.heap.size::a.defers} B q2 q3 q4 hdd hn (by rw[henv];exact E.mono q2) v V
    ·cases hxs
   ·cases hxs
  ·cases he
 case case12 st e z b cd hs ih=>
  obtain⟨b',hb,rfl⟩:=Option.map_eq_some_iff.1 h
  simp only[evS] at he
  split at he
  ·rename_i s1 h1
   split at h1
   ·rename_i d H1 ht
    cases h1
    obtain⟨γ1,L,F,J0,V⟩:=tok_ok I.toInv ht (E st)
    have J:=I.up L F J0
    exact ih b' hb hG.2 (by simpa[SC.noR] using hr) Q γ1 _ a w out s' hQ he J (E.tok L V) hn hd (hp.later L F)
   ·cases h1
  ·rename_i hne
   cases ht:tokD e z (s.env.get st) s.hp with
   |none=>rw[ht] at he;cases he
   |some dh=>exact(hne _ (by rw[ht])).elim
 case case14 st off e z b cd hs ih=>
  obtain⟨b',hb,rfl⟩:=Option.map_eq_some_iff.1 h
  simp only[evS] at he
  split at he
  ·rename_i s1 h1
   obtain⟨s2,ht,heq⟩:=Option.map_eq_some_iff.1 h1
   cases heq
   obtain⟨γ1,L,F,J0,E'⟩:=tokb_ok I.toInv ht E
   have J:=I.up L F J0
   exact ih b' hb hG.2 (by simpa[SC.noR] using hr) Q γ1 _ a w out s' hQ he J E' hn hd (hp.later L F)
  ·rename_i hne
   obtain⟨s2,ht,heq⟩:=Option.map_eq_some_iff.1 he
   exact(hne s2 (by rw[ht];rfl)).elim
 case case16 sa sb x y _ a' b' hb ha iha ihb=>
  cases h
  have hr1:a'.noR=true∨(ro=none∧(∃B,mk=some B)∧∃fnc,P.funcs[fid]? =some fnc):=hr.imp (fun q=>by simp only[SC.noR,Bool.and_eq_true] at q;exact q.1) id
  have hr2:b'.noR=true∨(ro=none∧(∃B,mk=some B)∧∃fnc,P.funcs[fid]? =some fnc):=hr.imp (fun q=>by simp only[SC.noR,Bool.and_eq_true] at q;exact q.2) id
  simp only[evS] at he
  split at he
  ·rename_i s1 h1
   refine wpR_seq (iha a' ha hG.1 hr1 _ γ s a w .norm s1 hQ h1 I E hn hd fun γ' a2 w2 L F J hd' hn' E'=>?_)
   exact ihb b' hb hG.2 hr2 Q γ' s1 a2 w2 out s' hQ he J E' hn' hd' (hp.later L F)
  ·rename_i hne
   refine wpR_seq (iha a' ha hG.1 hr1 _ γ s a w out s' hQ he I E hn hd (hp.other fun e a w hx q=>?_))
   cases out with
   |norm=>exact absurd he (hne s')
   |exit id=>cases hx;exact q
   |ret=>cases hx;exact q
   |pan d=>obtain⟨ch,rfl⟩:=hx;exact q
 case case18 _ sa sb cnd x y c' a' b' hb ha hc iha ihb=>
  cases h
  have hr1:a'.noR=true∨(ro=none∧(∃B,mk=some B)∧∃fnc,P.funcs[fid]? =some fnc):=hr.imp (fun q=>by simp only[SC.noR,Bool.and_eq_true] at q;exact q.1) id
  have hr2:b'.noR=true∨(ro=none∧(∃B,mk=some B)∧∃fnc,P.funcs[fid]? =some fnc):=hr.imp (fun q=>by simp only[SC.noR,Bool.and_eq_true] at q;exact q.2) id
  simp only[evS] at he
  split at he
  ·rename_i t hcv
   have hr:=opdOf_rep E hc
   rw[hcv] at hr
   have hv:=hr.p_inv.bool_inv
   refine wpR_cond hv ?_
   cases t with
   |true=>exact iha a' ha hG.1 hr1 Q γ s a w out s' hQ he I E hn hd hp
   |false=>exact ihb b' hb hG.2 hr2 Q γ s a w out s' hQ he I E hn hd hp
  ·cases he
 case case20 _ sb id x ih=>
  obtain⟨b',hb,rfl⟩:=Option.map_eq_some_iff.1 h
  simp only[evS] at he
  split at he
  ·rename_i i s1 h1
   split at he
   ·rename_i hi
    cases he
    refine wpR_block (ih b' hb hG hr _ γ s a w _ _ hQ h1 I E hn hd fun γ' a2 w2 L F J hd' hn' E'=>?_)
    simp only[Exit.inBlock,hi,if_true]
    exact hp γ' a2 w2 L F J hd' hn' E'
   ·rename_i hi
    cases he
    refine wpR_block (ih b' hb hG hr _ γ s a w _ _ hQ h1 I E hn hd fun γ' a2 w2 L F J hd' hn' E'=>?_)
    simp only[Exit.inBlock,hi,if_false]
    exact hp γ' a2 w2 L F J hd' hn' E'
  ·rename_i hne
   refine wpR_block (ih b' hb hG hr _ γ s a w out s' hQ he I E hn hd (hp.other fun e a w hx q=>?_))
   cases out with
   |norm=>cases hx;exact q
   |exit id=>exact absurd he (hne id s')
   |ret=>cases hx;exact q
   |pan d=>obtain⟨ch,rfl⟩:=hx;exact q
 case case21 keep sb x ih=>
  obtain⟨b',hb,rfl⟩:=Option.map_eq_some_iff.1 h
  simp only[evS] at he
  obtain⟨m,hm⟩:=hit _ _ _ he
  refine wpR_loop m fun R h0 hS=>?_
  clear he
  induction m generalizing γ s a w with
  |zero=>cases hm
  |succ m ihm=>
   simp only[iter] at hm
   split at hm
   ·rename_i s1 h1
    refine hS m a w (ih b' hb hG hr _ γ _ a w .norm s1 hQ h1 I (E.keep keep) hn hd fun γ' a2 w2 L F J hd' hn' E'=>?_)
    exact ihm γ' s1 a2 w2 J E' hn' hd' (hp.later L F) hm
   ·rename_i hne
    refine hS m a w (ih b' hb hG hr _ γ _ a w out s' hQ hm I (E.keep keep) hn hd (hp.other fun e a w hx q=>?_))
    cases out with
    |norm=>exact absurd hm (hne s')
    |exit id=>cases hx;exact q
    |ret=>cases hx;exact q
    |pan d=>obtain⟨ch,rfl⟩:=hx;exact q
 case case22 sb x ih=>
  obtain⟨b',hb,rfl⟩:=Option.map_eq_some_iff.1 h
  simp only[evS] at he
  refine wpR_scope (ih b' hb hG hr _ γ s a w out s' hQ he I E hn hd (hp.other fun e a w hx q=>?_))
  cases out with
  |norm=>cases hx;exact q
  |exit id=>cases hx;exact q
  |ret=>cases hx;exact q
  |pan d=>obtain⟨ch,rfl⟩:=hx;exact q
 case case23 id _=>
  cases h
  simp only[evS] at he
  cases he
  exact wpR_of_in (wpIn_exit (hp γ a w (.refl γ) (.refl γ _ w) I hd hn E))
 case case24=>
  cases h
  simp only[evS] at he
  cases he
  exact wpR_of_in (wpIn_ret (hp γ a w (.refl γ) (.refl γ _ w) I hd hn E))
 case case25 b cd ih=>
  obtain⟨b',hb,rfl⟩:=Option.map_eq_some_iff.1 h
  simp only[evS] at he
  obtain⟨x,hx,heq⟩:=Option.map_eq_some_iff.1 he
  have h1:out=(locD s.hp.bx.length s.hp.tk.length (sealS s.hp.bx.length x)).1:=by rw[heq]
  have h2:s'=(locD s.hp.bx.length s.hp.tk.length (sealS s.hp.bx.length x)).2:=by rw[heq]
  rw[h1,h2] at hp
  exact ih b' hb hG hr Q γ s a w x.1 x.2 hQ hx I E hn hd (seal_post I (loc_post I hp))
 case case26=>
  cases h
  simp only[evS] at he
  cases he
 all_goals cases h
theorem wp_of_R{cd:Code}{Q:Exit→Act→World→Prop}{a:Act}{w:World}(h:∀fid,wpR none fid P cd Q a w):cd.wp P Q a w:=
 (wpIn_wide (n:=0)).1 fun b k cs hb _ _=>h b.fn b k cs hb rfl
theorem code_wp{c:CallR}(S:Sound P W G c)(hm:P.follows .mixedOrders=true){it:It}(hit:∀b s r,it b s=some r→∃m,iter b m s=some r){nt:Nat}{df:List Deferred}
    (sc:SC) (cd:Code) (sc':SC) (h:compC P nt sc cd=some sc') (hN:sc'.noR=true) (Q:Exit→Act→World→Prop) (γ:Gh) (s:St) (a:Act) (w:World) (out:Out) (s':St) (hQ:∀a w,¬Q .outgrown a w) (he:evS c G it sc' s=some (out,s'))
    (I:InvS W G γ s.hp w) (E:EnvRep γ s.env a.tmps) (hn:a.tmps.size=nt) (hd:a.defers=df) (hp:Post W G nt none df Q γ s.hp w out s'):cd.wp P Q a w:=
 wp_of_R fun fid=>code_wpR S hm hit sc cd sc' h (ro:=none) (fid:=fid) (mk:=none) (df:=df) (SC.gens_of hN) (.inl hN) Q γ s a w out s' hQ he I E hn hd hp
end Go.Vs
namespace Go.Vs
variable {P : Program} {W : World} {G : Nat → Option (List PD)} {γ : Gh} {H : Hp} {w : World}
theorem cells_rep{t:TypeId}{n:Option Nat}(ht:cellN P t=some n){b base off:Nat}{ds:List D}{f:Nat→Value}(hcell:∀j,j<ds.length→w.cell? ⟨b,base+j,none⟩=some (f j))
    (hr:∀j d,ds[j]? =some d→RepD γ (f j) d) (h1:∀d∈ds,d.one=true) {d:D} (hd:cutAt ds off n id mkAgg=some d):∃v,(loadVar t ⟨b,base+off,none⟩).run P w= .ok v w∧RepD γ v d:=by
 unfold cutAt at hd
 split at hd
 ·obtain⟨d',hd',hh⟩:=Option.map_eq_some_iff.1 hd
  cases hh
  have hlt:off<ds.length:=(List.getElem?_eq_some_iff.1 hd').1
  have q:=run_loadVar (P:=P) (w:=w) ht (b:=b) (off:=base+off) (f:=fun j=>f (off+j)) (fun j hj=>by
   rw[Nat.add_assoc];exact hcell (off+j) (by simp at hj;omega))
  exact⟨_,q,hr _ _ hd'⟩
 ·rename_i k
  split at hd
  ·rename_i hk
   cases hd
   have q:=run_loadVar (P:=P) (w:=w) ht (b:=b) (off:=base+off) (f:=fun j=>f (off+j)) (fun j hj=>by
    simp only[Option.getD_some] at hj
    rw[Nat.add_assoc];exact hcell (off+j) (by omega))
   exact⟨_,q,mkAgg_rep (rangeL_rep hk fun j d hj hd=>hr _ _ hd) (fun d hd=>h1 d (sub_mem hd))⟩
  ·cases hd
theorem load_rep(I:Inv G γ H w){t:TypeId}{n:Option Nat}(ht:cellN P t=some n){v0:Value}{d0:D}(hv:RepD γ v0 d0){d:D}(hd:loadD G H n d0=some d):
    ∃ad v,v0= .pointer (some ad)∧(loadVar t ad).run P w= .ok v w∧RepD γ v d:=by
 unfold loadD at hd
 split at hd
 ·rename_i i off
  split at hd
  ·rename_i cs hcs
   split at hd
   ·cases hd
   rename_i hm
   have hm:isMapC cs=false:=by simpa using hm
   cases hv with
   |box _ _ b hb=>
    obtain⟨vs,T,fr,q1,q2,q3,_⟩:=I.box i b cs hb hcs
    rw[viewC_of hm] at q1
    have q3:=q3 hm
    obtain⟨v,h1,h2⟩:=cells_rep (P:=P) (w:=w) ht (b:=b) (base:=0) (off:=off) (ds:=cs) (f:=fun j=>vs.getD j undef) (fun j hj=>by
     have hj':j<vs.size:=by have:=q2.1;omega
     simp[World.cell?,q1,hj',Array.getD_eq_getD_getElem?]) q2.2 q3 hd
    rw[Nat.zero_add] at h1
    exact⟨_,v,rfl,h1,h2⟩
  ·cases hd
 ·rename_i cs off
  cases hv with
  |ro b base _ _ vs hm hr=>
   obtain⟨v,h1,h2⟩:=cells_rep (P:=P) (w:=w) ht (b:=b) (base:=base) (off:=off) (ds:=cs.map .p) (f:=vs) (fun j hj=>I.mem _ _ _ (hm j (by simpa using hj))) (fun j d hd=>by
    simp only[List.getElem?_map,Option.map_eq_some_iff] at hd
    obtain⟨z,hz,rfl⟩:=hd
    exact .p _ _ (hr j z hz).1) (fun d hd=>by
    obtain⟨z,hz,rfl⟩:=List.mem_map.1 hd
    obtain⟨j,hj⟩:=List.getElem?_of_mem hz
    exact(hr j z hj).2) (cutAt_p hd)
   exact⟨_,v,rfl,h1,h2⟩
 ·rename_i g off
  split at hd
  ·rename_i cs hcs
   cases hv with
   |glob _ _=>
    have hg:=I.globs g cs hcs
    obtain⟨v,h1,h2⟩:=cells_rep (P:=P) (w:=w) ht (b:=g) (base:=0) (off:=off) (ds:=cs.map .p) (f:=fun j=>(γ.mem g j).getD undef) (fun j hj=>by
     have hj:j<cs.length:=by simpa using hj
     obtain⟨_,v,q1,q2⟩:=hg j _ (List.getElem?_eq_getElem hj)
     rw[q1];simp only[Nat.zero_add,Option.getD_some]
     exact I.mem _ _ _ q1) (fun j d hd=>by
     simp only[List.getElem?_map,Option.map_eq_some_iff] at hd
     obtain⟨z,hz,rfl⟩:=hd
     obtain⟨_,v,q1,q2⟩:=hg j z hz
     rw[q1];exact .p _ _ q2) (fun d hd=>by
     obtain⟨z,hz,rfl⟩:=List.mem_map.1 hd
     obtain⟨j,hj⟩:=List.getElem?_of_mem hz
     exact(hg j z hj).1) (cutAt_p hd)
    rw[Nat.zero_add] at h1
    exact⟨_,v,rfl,h1,h2⟩
  ·cases hd
 ·cases hd
def resOf(P:Program):ResultVar→Option SRes
 | .tmp t=>some (.t t)
 | .cell a t=>(cellN P t).map (.cell a)
def res1(tmps:Array Value):ResultVar→Sem Value
 | .tmp t=>pure (tmps.getD t undef)
 | .cell a t=>do loadVar t (←asAddr (tmps.getD a undef))
theorem res1_ok(I:Inv G γ H w){env:Env}{tmps:Array Value}(E:EnvRep γ env tmps){rv:ResultVar}{r:SRes}(h:resOf P rv=some r){d:D}(hd:evRes1 G env H r=some d):
    ∃v,(res1 tmps rv).run P w= .ok v w∧RepD γ v d:=by
 cases rv with
 |tmp t=>
  cases h
  cases hd
  exact⟨_,rfl,E t⟩
 |cell a t=>
  obtain⟨n,hn,rfl⟩:=Option.map_eq_some_iff.1 h
  simp only[evRes1] at hd
  obtain⟨ad,v,h1,h2,h3⟩:=load_rep (P:=P) I hn (E a) hd
  refine⟨v,?_,h3⟩
  simp only[res1,h1,asAddr,Sem.run_bind,Sem.run_pure,Result.andThen_ok,h2]
theorem resL_ok(I:Inv G γ H w){env:Env}{tmps:Array Value}(E:EnvRep γ env tmps):∀{rvs:List ResultVar} {rs:List SRes},mapO (resOf P) rvs=some rs→∀{ds:List D},mapO (evRes1 G env H) rs=some ds→
    ∃vs:List Value,(rvs.mapM (res1 tmps)).run P w= .ok vs w∧vs.length=ds.length∧∀(i:Nat) v d,vs[i]? =some v→ds[i]? =some d→RepD γ v d
 |[],rs,h,ds,hd=>by
  simp only[mapO,Option.some.injEq] at h
  subst h
  simp only[mapO,Option.some.injEq] at hd
  subst hd
  exact⟨[],rfl,rfl,fun i v d h=>by simp at h⟩
 |rv::rvs,rs,h,ds,hd=>by
  simp only[mapO] at h
  split at h
  ·rename_i r hr
   obtain⟨rs',hrs,rfl⟩:=Option.map_eq_some_iff.1 h
   simp only[mapO] at hd
   split at hd
   ·rename_i d hd1
    obtain⟨ds',hds,rfl⟩:=Option.map_eq_some_iff.1 hd
    obtain⟨v,h1,h2⟩:=res1_ok I E hr hd1
    obtain⟨vs,h3,h4,h5⟩:=resL_ok I E hrs hds
    refine⟨v::vs,?_,by simp[h4],fun i u e hu he=>?_⟩
    ·simp only[List.mapM_cons,Sem.run_bind,h1,Result.andThen_ok,h3,Sem.run_pure]
    ·match i with
     | 0=>simp only[List.getElem?_cons_zero,Option.some.injEq] at hu he;subst hu;subst he;exact h2
     |i+1=>exact h5 i u e (by simpa using hu) (by simpa using he)
   ·cases hd
  ·cases h
theorem results_ok(I:Inv G γ H w){env:Env}{tmps:Array Value}(E:EnvRep γ env tmps){fn:Func}{rs:List SRes}(h:mapO (resOf P) fn.results.toList=some rs){d:D}(hd:evRes G env H rs=some d):
    ∃v,(results fn tmps).run P w= .ok v w∧RepD γ v d:=by
 have hrun:∀vs,(fn.results.toList.mapM (res1 tmps)).run P w= .ok vs w→(results fn tmps).run P w= .ok (if h:vs.toArray.size=1 then vs.toArray[0] else .tuple vs.toArray) w:=by
  intro vs hvs
  have :results fn tmps=(fn.results.mapM (res1 tmps))>>=fun vs=>pure (if h:vs.size=1 then vs[0] else .tuple vs):=rfl
  rw[this,Array.mapM_eq_mapM_toList]
  simp only[Sem.run_bind,map_eq_pure_bind,hvs,Result.andThen_ok,Sem.run_pure]
 unfold evRes at hd
 split at hd
 ·cases hd
  obtain⟨vs,h1,h2,_⟩:=resL_ok I E h (ds:=[]) rfl
  have hv:vs=[]:=List.length_eq_zero_iff.1 h2
  subst hv
  exact⟨_,hrun _ h1,RepD.undef⟩
 ·rename_i r
  obtain⟨vs,h1,h2,h3⟩:=resL_ok I E h (ds:=[d]) (by simp only[mapO,hd,Option.map_some])
  obtain⟨v,rfl⟩:=List.length_eq_one_iff.1 h2
  exact⟨v,by simpa using hrun _ h1,h3 0 v d rfl rfl⟩
 ·rename_i rs0 hne1 hne2
  obtain⟨ds,hds,rfl⟩:=Option.map_eq_some_iff.1 hd
  obtain⟨vs,h1,h2,h3⟩:=resL_ok I E h hds
  have hl:rs.length=ds.length:=(mapO_both hds).1
  have hne:¬vs.toArray.size=1:=by
   intro hs
   simp at hs
   rw[←h2] at hl
   rw[hs] at hl
   obtain⟨r,hr⟩:=List.length_eq_one_iff.1 hl
   exact hne2 r hr
  refine⟨.tuple vs.toArray,?_,?_⟩
  ·have:=hrun _ h1
   rw[dif_neg hne] at this
   exact this
  ·refine .tup _ _ (by simpa using h2) fun i d hd=>?_
   have hi:i<vs.length:=by rw[h2];exact(List.getElem?_eq_some_iff.1 hd).1
   have:=h3 i vs[i] d (List.getElem?_eq_getElem hi) hd
   simpa[Array.getD_eq_getD_getElem?,hi] using this
def spine:Code→List Code
 | .seq a b=>spine a++spine b
 |c=>[c]
def wpL(P:Program):List Code→(Exit→Act→World→Prop)→Act→World→Prop
 |[],Q,a,w=>Q .normal a w
 |c::r,Q,a,w=>c.wp P (Exit.then (wpL P r Q) Q) a w
def wpLS(P:Program):List Code→(Exit→Act→List Go.Frame→World→Prop)→Act→List Go.Frame→World→Prop
 |[],Q,a,cs,w=>Q .normal a cs w
 |c::r,Q,a,cs,w=>c.wpS P (Exit.thenS (wpLS P r Q) Q) a cs w
theorem wpS_mono{c:Code}{Q Q':Exit→Act→List Go.Frame→World→Prop}{a:Act}{cs:List Go.Frame}{w:World}(h:c.wpS P Q a cs w)(hq:∀e a cs w,Q e a cs w→Q' e a cs w):c.wpS P Q' a cs w:=
 fun b k h1 h2=>let⟨e,a',cs',w',q,r⟩:=h b k h1 h2;⟨e,a',cs',w',hq _ _ _ _ q,r⟩
theorem wpLS_app:∀(x y:List Code) (Q:Exit→Act→List Go.Frame→World→Prop) (a:Act) (cs:List Go.Frame) (w:World),wpLS P (x++y) Q a cs w→wpLS P x (Exit.thenS (wpLS P y Q) Q) a cs w
 |[],y,Q,a,cs,w,h=>h
 |c::x,y,Q,a,cs,w,h=>by
  refine wpS_mono (P:=P) h fun e a cs w q=>?_
  cases e with
  |normal=>exact wpLS_app x y Q a cs w q
  |_=>exact q
theorem wpLS_mono:∀(x:List Code) {Q Q':Exit→Act→List Go.Frame→World→Prop} {a:Act} {cs:List Go.Frame} {w:World},wpLS P x Q a cs w→(∀e a cs w,Q e a cs w→Q' e a cs w)→wpLS P x Q' a cs w
 |[],Q,Q',a,cs,w,h,k=>k _ _ _ _ h
 |c::x,Q,Q',a,cs,w,h,k=>by
  refine wpS_mono (P:=P) h fun e a cs w q=>?_
  cases e with
  |normal=>exact wpLS_mono x q k
  |_=>exact k _ _ _ _ q
theorem wpS_spine:∀(c:Code) {Q:Exit→Act→List Go.Frame→World→Prop} {a:Act} {cs:List Go.Frame} {w:World},wpLS P (spine c) Q a cs w→c.wpS P Q a cs w:=by
 intro c
 induction c with
 |seq x y ihx ihy=>
  intro Q a cs w h
  refine wpS_seq (ihx (wpLS_mono (spine x) (wpLS_app (spine x) (spine y) Q a cs w h) fun e a cs w q=>?_))
  cases e with
  |normal=>exact ihy q
  |_=>exact q
 |_=>
  intro Q a cs w h
  refine wpS_mono (P:=P) h fun e a cs w q=>?_
  cases e with
  |normal=>exact q
  |_=>exact q
theorem wpLS_of_wpL:∀(x:List Code) {Q:Exit→Act→List Go.Frame→World→Prop} {a:Act} {cs:List Go.Frame} {w:World},wpL P x (fun e a w=>Q e a cs w) a w→wpLS P x Q a cs w
 |[],Q,a,cs,w,h=>h
 |c::x,Q,a,cs,w,h=>by
  refine wpS_of_wp (wp_mono (P:=P) h fun e a w q=>?_)
  cases e with
  |normal=>exact wpLS_of_wpL x q
  |_=>exact q
theorem wpS_rec{id:Nat}{ops:Array Oper}{o:Oper}{l:List Oper}(ho:ops.toList=o::l)(hg:o.guard=none){b:Builtin}(hb:b= .recover){as:Array Operand}{ts:Array TypeId}(hop:o.op= .call {callee:=.builtin b,args:=as,argTypes:=ts})
    {Q:Exit→Act→List Go.Frame→World→Prop} {a:Act} {cs:List Go.Frame} {w:World}
    (h:∀v cs',(recoverD cs=some (v,cs')∨(recoverD cs=none∧v= .nilIface∧cs'=cs))→wpList P ops (fun e a w=>Q e a cs' w) l (a.put o.dst v) w):(Code.region id ops false).wpS P Q a cs w:=by
 intro b' k hk hro
 have hsz:ops.size=l.length+1:=by rw[←Array.length_toList,ho];rfl
 have h0:ops[0]? =some o:=by rw[←Array.getElem?_toList,ho];rfl
 have hlist:∀j,l[j]? =ops[1+j]?:=fun j=>by rw[←Array.getElem?_toList,ho,Nat.add_comm];rfl
 have hrange:List.range ops.size=0::List.range' 1 l.length:=by
  rw[hsz,List.range_eq_range']
  rfl
 have hw:Region.wanted o (yielded ops a.tmps)=true:=by simp[Region.wanted,hg]
 have hrun:(execOp a.eval o).run P w= .ok .recover w:=by
  subst hb
  simp[execOp,hop,resolve,invoke,builtin]
 have hgo:=stepG_op (P:=P) (b:=b') (k:=k) (cs:=cs) (w:=w) (rest:=List.range' 1 l.length) h0 hw
 have hfin:∀v,(b'.at a (.inRegion ops (0::List.range' 1 l.length)::k)).finish v=b'.at (a.put o.dst v) (.inRegion ops (List.range' 1 l.length)::k):=by
  intro v;rw[Go.Frame.finish_at,h0];rfl
 have htr:=tryRecover_deferred (fr:=b'.at a (.inRegion ops (0::List.range' 1 l.length)::k)) hk cs
 obtain⟨v,cs',hrec,hstep⟩:∃v cs',(recoverD cs=some (v,cs')∨(recoverD cs=none∧v= .nilIface∧cs'=cs))∧
     step P (lone (b'.at a (.inRegion ops (0::List.range' 1 l.length)::k)) cs w)= .next (lone (b'.at (a.put o.dst v) (.inRegion ops (List.range' 1 l.length)::k)) cs' w):=by
  cases hr:recoverD cs with
  |some x=>
   obtain⟨v,cs'⟩:=x
   refine⟨v,cs',.inl rfl,step_lone_go ?_⟩
   rw[hgo,←hfin]
   simp only[Go.Frame.at] at htr⊢
   simp[stepG.apply,hrun,htr,hr]
  |none=>
   refine⟨.nilIface,cs,.inr ⟨rfl,rfl,rfl⟩,step_lone_go ?_⟩
   rw[hgo,←hfin]
   simp only[Go.Frame.at] at htr⊢
   simp[stepG.apply,hrun,htr,hr]
 have hl:=h v cs' hrec
 rw[←wpOps_eq_wpList l 1 hlist] at hl
 obtain⟨e,a',w',q,r⟩:=wp_ops _ _ _ hl b' k cs'
 refine⟨e,a',cs',w',q,.of_steps (.head step_region ?_) r⟩
 rw[hrange]
 exact .one hstep
def compLs(P:Program)(nt:Nat):List SC→List Code→Option (List SC)
 |[],[]=>some []
 |s::r,c::cr=>match compC P nt s c,compLs P nt r cr with
  |some a,some b=>some (a::b)
  |_,_=>none
 |_,_=>none
def compSp(P:Program)(nt:Nat):SC→List Code→Option SC
 | .seq a b,c::d::r=>match compC P nt a c,compSp P nt b (d::r) with
  |some x,some y=>some (.seq x y)
  |_,_=>none
 |s,[c]=>compC P nt s c
 |_,_=>none
theorem compLs_wp{c:CallR}(S:Sound P W G c)(hm:P.follows .mixedOrders=true){it:It}(hit:∀b s r,it b s=some r→∃m,iter b m s=some r){nt:Nat}{df:List Deferred}:
    ∀(l:List SC) (cd:List Code) (l':List SC),compLs P nt l cd=some l'→l'.all SC.noR=true→∀(Q:Exit→Act→World→Prop) (γ:Gh) (s:St) (a:Act) (w:World) (out:Out) (s':St),(∀a w,¬Q .outgrown a w)→evSeqL c G it l' s=some (out,s')→
     InvS W G γ s.hp w→EnvRep γ s.env a.tmps→a.tmps.size=nt→a.defers=df→Post W G nt none df Q γ s.hp w out s'→wpL P cd Q a w
 |[],[],l',h,_,Q,γ,s,a,w,out,s',_,he,I,E,hn,hd,hp=>by
  cases h
  simp only[evSeqL] at he
  cases he
  exact hp γ a w (.refl γ) (.refl γ _ w) I hd hn E
 |x::l,y::cd,l',h,hN,Q,γ,s,a,w,out,s',hQ,he,I,E,hn,hd,hp=>by
  simp only[compLs] at h
  split at h
  ·rename_i x' r' hx hr
   cases h
   simp only[List.all_cons,Bool.and_eq_true] at hN
   simp only[evSeqL] at he
   split at he
   ·rename_i s1 h1
    refine code_wp S hm hit x y x' hx hN.1 _ γ s a w .norm s1 hQ h1 I E hn hd fun γ' a2 w2 L F J hd' hn' E'=>?_
    exact compLs_wp S hm hit l cd r' hr hN.2 Q γ' s1 a2 w2 out s' hQ he J E' hn' hd' (hp.later L F)
   ·rename_i hne
    refine code_wp S hm hit x y x' hx hN.1 _ γ s a w out s' hQ he I E hn hd (hp.other fun e a w hx q=>?_)
    cases out with
    |norm=>exact absurd he (hne s')
    |exit id=>cases hx;exact q
    |ret=>cases hx;exact q
    |pan d=>obtain⟨ch,rfl⟩:=hx;exact q
  ·cases h
 |[],_::_,l',h,_,Q,γ,s,a,w,out,s',_,he,I,E,hn,hd,hp=>by cases h
 |_::_,[],l',h,_,Q,γ,s,a,w,out,s',_,he,I,E,hn,hd,hp=>by cases h
theorem compSp_wp{c:CallR}(S:Sound P W G c)(hm:P.follows .mixedOrders=true){it:It}(hit:∀b s r,it b s=some r→∃m,iter b m s=some r){nt:Nat}{df:List Deferred}(sc:SC)(cd:List Code):
    ∀(sc':SC),compSp P nt sc cd=some sc'→sc'.noR=true→∀(Q:Exit→Act→World→Prop) (γ:Gh) (s:St) (a:Act) (w:World) (out:Out) (s':St),(∀a w,¬Q .outgrown a w)→evS c G it sc' s=some (out,s')→
     InvS W G γ s.hp w→EnvRep γ s.env a.tmps→a.tmps.size=nt→a.defers=df→Post W G nt none df Q γ s.hp w out s'→wpL P cd Q a w:=by
 fun_induction compSp P nt sc cd
 all_goals (intro sc' h hN Q γ s a w out s' hQ he I E hn hd hp)
 case case1 x y c0 d r x' y' hy hx ih=>
  cases h
  simp only[SC.noR,Bool.and_eq_true] at hN
  simp only[evS] at he
  split at he
  ·rename_i s1 h1
   refine code_wp S hm hit x c0 x' hx hN.1 _ γ s a w .norm s1 hQ h1 I E hn hd fun γ' a2 w2 L F J hd' hn' E'=>?_
   exact ih y' hy hN.2 Q γ' s1 a2 w2 out s' hQ he J E' hn' hd' (hp.later L F)
  ·rename_i hne
   refine code_wp S hm hit x c0 x' hx hN.1 _ γ s a w out s' hQ he I E hn hd (hp.other fun e a w hx q=>?_)
   cases out with
   |norm=>exact absurd he (hne s')
   |exit id=>cases hx;exact q
   |ret=>cases hx;exact q
   |pan d=>obtain⟨ch,rfl⟩:=hx;exact q
 case case3=>
  refine code_wp S hm hit _ _ sc' h hN _ γ s a w out s' hQ he I E hn hd (hp.other fun e a w hx q=>?_)
  cases e<;>exact q
 all_goals cases h
def compDfr(P:Program)(nt:Nat)(x:Dfr)(body:SC)(c:Code):Option (Dfr×SC):=
 match(spine c).drop x.pre.length with
 | .region _ ops false::rest=>match ops.back? with
  |some o=>match o.op,o.guard with
   | .defer ⟨.value f,as,_⟩,none=>
    match compLs P nt x.pre ((spine c).take x.pre.length),compO P nt ops (x.ops++[⟨none,.stuck,none⟩]),opdOf f,mapO opdOf as.toList,compSp P nt body rest with
    |some pre,some sl,some f',some as',some b=>if o.dst.isNone then some (⟨pre,x.keep,sl.dropLast,f',as'⟩,b) else none
    |_,_,_,_,_=>none
   |_,_=>none
  |none=>none
 |_=>none
def FC.noR(fc:FC):Bool:=fc.body.noR&&(match fc.dfr with |none=>true |some x=>x.pre.all SC.noR)
structure FOk0 (P:Program) (f:Nat) (fc:FC):Prop where
 ex:∃fn c,P.funcs[f]? =some fn∧(fn.name== "runtime.NumGoroutine")=false∧fn.body=some c∧fn.ntmps=fc.nt∧fc.np≤fc.nt∧mapO (resOf P) fn.results.toList=some fc.res∧
  (match fc.dfr with |none=>∃sk,compC P fc.nt sk c=some fc.body |some x=>compDfr P fc.nt x fc.body c=some (x,fc.body))
structure FOk (P:Program) (f:Nat) (fc:FC):Prop extends FOk0 P f fc where
 nr:fc.noR=true
def compF0(P:Program)(fn:Func)(fc:FC):Option FC:=
 if fn.name== "runtime.NumGoroutine" then none else
 match fn.body,mapO (resOf P) fn.results.toList with
 |some c,some res=>if fn.ntmps=fc.nt∧fc.np≤fc.nt then(match fc.dfr with
  |none=>(compC P fc.nt fc.body c).map fun b=>⟨fc.nt,fc.np,res,b,fc.frz,none⟩
  |some x=>(compDfr P fc.nt x fc.body c).map fun y=>⟨fc.nt,fc.np,res,y.2,fc.frz,some y.1⟩) else none
 |_,_=>none
def compF(P:Program)(fn:Func)(fc:FC):Option FC:=if fc.noR then compF0 P fn fc else none
theorem FOk0.of{f:Nat}{fn:Func}{fc:FC}(hf:P.funcs[f]? =some fn)(h:compF0 P fn fc=some fc):FOk0 P f fc:=by
 unfold compF0 at h
 split at h
 ·cases h
 ·rename_i hn
  split at h
  ·rename_i c res hb hres
   split at h
   ·rename_i hc
    cases hd:fc.dfr with
    |none=>
     rw[hd] at h
     obtain⟨b,hb',heq⟩:=Option.map_eq_some_iff.1 h
     have e1:res=fc.res:=congrArg FC.res heq
     have e2:b=fc.body:=congrArg FC.body heq
     exact⟨fn,c,hf,by simpa using hn,hb,hc.1,hc.2,by rw[hres,e1],by rw[hd];dsimp only;exact⟨fc.body,by rw[hb',e2]⟩⟩
    |some x=>
     rw[hd] at h
     obtain⟨y,hb',heq⟩:=Option.map_eq_some_iff.1 h
     have e1:res=fc.res:=congrArg FC.res heq
     have e2:y.2=fc.body:=congrArg FC.body heq
     have e3:some y.1=some x:=by rw[←hd];exact congrArg FC.dfr heq
     cases e3
     exact⟨fn,c,hf,by simpa using hn,hb,hc.1,hc.2,by rw[hres,e1],by rw[hd];dsimp only;rw[hb',←e2]⟩
   ·cases h
  ·cases h
theorem FOk0.made{f:Nat}{fn:Func}{sk fc:FC}(hf:P.funcs[f]? =some fn)(hsk:sk.dfr=none)(h:compF0 P fn sk=some fc):FOk0 P f fc:=by
 unfold compF0 at h
 split at h
 ·cases h
 ·rename_i hn
  split at h
  ·rename_i c res hb hres
   split at h
   ·rename_i hc
    rw[hsk] at h
    obtain⟨b,hb',heq⟩:=Option.map_eq_some_iff.1 h
    subst heq
    exact⟨fn,c,hf,by simpa using hn,hb,hc.1,hc.2,hres,⟨sk.body,hb'⟩⟩
   ·cases h
  ·cases h
theorem FOk.of{f:Nat}{fn:Func}{fc:FC}(hf:P.funcs[f]? =some fn)(h:compF P fn fc=some fc):FOk P f fc:=by
 unfold compF at h
 split at h
 ·rename_i hr
  exact⟨FOk0.of hf h,hr⟩
 ·cases h
def compDef(P:Program)(nt dst:Nat)(sc:SC)(c:Code):Option SC:=
 match sc,spine c with
 | .seq (.region keep hs) b,.region _ ops false::d::rest=>match ops.toList with
  |o::l=>match o.op,o.guard with
   | .call ⟨.builtin .recover,_,_⟩,none=>match compL P nt ops l hs.tail,compSp P nt b (d::rest) with
    |some sl,some b'=>if o.dst=some dst∧dst<nt∧(ops.toList.all fun x=>match x.dst with |some t=>decide (t<nt) |none=>true)=true then some (.seq (.region keep (⟨some dst,.move (.t dst),none⟩::sl)) b') else none
    |_,_=>none
   |_,_=>none
  |[]=>none
 |_,_=>none
structure DOk (P:Program) (f dst:Nat) (fc:FC):Prop where
 ex:∃fn c,P.funcs[f]? =some fn∧(fn.name== "runtime.NumGoroutine")=false∧fn.body=some c∧fn.ntmps=fc.nt∧fc.np≤fc.nt∧mapO (resOf P) fn.results.toList=some fc.res∧compDef P fc.nt dst fc.body c=some fc.body
 nr:fc.body.noR=true
def compDF(P:Program)(fn:Func)(dst:Nat)(fc:FC):Option FC:=
 if fn.name== "runtime.NumGoroutine" then none else
 match fn.body,mapO (resOf P) fn.results.toList with
 |some c,some res=>if(fn.ntmps=fc.nt∧fc.np≤fc.nt)∧fc.body.noR=true then(compDef P fc.nt dst fc.body c).map fun b=>⟨fc.nt,fc.np,res,b,fc.frz,fc.dfr⟩ else none
 |_,_=>none
theorem DOk.of{f dst:Nat}{fn:Func}{fc:FC}(hf:P.funcs[f]? =some fn)(h:compDF P fn dst fc=some fc):DOk P f dst fc:=by
 unfold compDF at h
 split at h
 ·cases h
 ·rename_i hn
  split at h
  ·rename_i c res hb hres
   split at h
   ·rename_i hc
    obtain⟨b,hb',heq⟩:=Option.map_eq_some_iff.1 h
    have e1:res=fc.res:=congrArg FC.res heq
    have e2:b=fc.body:=congrArg FC.body heq
    exact⟨⟨fn,c,hf,by simpa using hn,hb,hc.1.1,hc.1.2,by rw[hres,e1],by rw[hb',e2]⟩,hc.2⟩
   ·cases h
  ·cases h
theorem entry_get:∀(n:Nat) (l:List D) (t:Nat),(entry n l).get t=if n≤t∧t<n+l.length then l.getD (t-n) .dead else .dead
 |n,[],t=>by simp only[entry,Env.get,List.length_nil];rw[if_neg (by omega)]
 |n,d::l,t=>by
  simp only[entry,Env.get,List.length_cons]
  split
  ·rename_i h;subst h;rw[if_pos (by omega),Nat.sub_self];rfl
  ·rename_i h
   rw[entry_get (n+1) l t]
   by_cases hc:n+1≤t∧t<n+1+l.length
   ·rw[if_pos hc,if_pos (by omega)]
    rw[show t-n=(t-(n+1))+1 by omega];rfl
   ·rw[if_neg hc,if_neg (by omega)]
theorem entry_rep{vs:Array Value}{ds:List D}(h:RepL γ vs ds)(k:Nat):EnvRep γ (entry 0 ds) (vs++Array.replicate k undef):=by
 intro t
 rw[entry_get]
 split
 ·rename_i ht
  have hlt:t<ds.length:=by omega
  have e:ds[t]? =some (ds.getD (t-0) .dead):=by simp[List.getD_eq_getElem?_getD,hlt]
  have:=h.2 t _ e
  have hv:t<vs.size:=by rw[h.1];exact hlt
  simpa[Array.getD_eq_getD_getElem?,Array.getElem?_append,hv] using this
 ·exact .dead _
theorem finish_norm{res:List SRes}{x:Option (Out×St)}{r:Res}{H':Hp}(h:finish G res x=some (r,H')):
    (∃s d,(x=some (.norm,s)∨x=some (.ret,s))∧evRes G s.env s.hp res=some d∧r= .val d∧H'=s.hp)∨∃s d,x=some (.pan d,s)∧r= .pan d∧H'=s.hp:=by
 unfold finish at h
 split at h
 ·rename_i s
  split at h
  ·rename_i d hd;cases h;exact .inl ⟨s,d,.inl rfl,hd,rfl,rfl⟩
  ·cases h
 ·rename_i s
  split at h
  ·rename_i d hd;cases h;exact .inl ⟨s,d,.inr rfl,hd,rfl,rfl⟩
  ·cases h
 ·rename_i d s;cases h;exact .inr ⟨s,d,rfl,rfl,rfl⟩
 ·cases h
theorem finish_fun{fn:Func}{fc:FC}(h6:mapO (resOf P) fn.results.toList=some fc.res){γ:Gh}{H:Hp}{w:World}{x:Option (Out×St)}{r:Res}{H':Hp}(h:finish G fc.res x=some (r,H')):
    ∃out s,x=some (out,s)∧Post W G fc.nt none [] (bodyPost P fn fun e w'=>∃γ',γ.le γ'∧Frame γ H w γ' H' w'∧InvS W G γ' H' w'∧Ends' γ' r e) γ H w out s:=by
 rcases finish_norm h with⟨s,d,hx,hd,rfl,rfl⟩ |⟨s,d,hx,rfl,rfl⟩
 ·have post:∀γ' (a':Act) w',γ.le γ'→Frame γ H w γ' s.hp w'→InvS W G γ' s.hp w'→a'.defers=[]→EnvRep γ' s.env a'.tmps→a'.defers=[]∧∃v,(results fn a'.tmps).run P w'= .ok v w'∧∃γ',γ.le γ'∧Frame γ H w γ' s.hp w'∧InvS W G γ' s.hp w'∧Ends' γ' (.val d) (.returned v):=by
   intro γ' a' w' L F J hd' E
   obtain⟨v,q1,q2⟩:=results_ok J.toInv E h6 hd
   exact⟨hd',v,q1,γ',L,F,J,v,rfl,q2⟩
  rcases hx with hx |hx
  ·exact⟨.norm,s,hx,fun γ' a' w' L F J hd' _ E=>post γ' a' w' L F J hd' E⟩
  ·exact⟨.ret,s,hx,fun γ' a' w' L F J hd' _ E=>post γ' a' w' L F J hd' E⟩
 ·exact⟨.pan d,s,hx,fun γ' a' w' L F J hd' _ _ v V=>⟨hd',γ',L,F,J,v,rfl,V⟩⟩
theorem no_out{γ:Gh}{r:Res}:¬Ends' γ r .outgrown:=by
 cases r with
 |val d=>rintro⟨v,h,_⟩;cases h
 |pan d=>rintro⟨v,h,_⟩;cases h
def DCalls(P:Program)(f:Nat)(vs:Array Value)(w:World)(R:Ending→World→Prop):Prop:=
 ∀(v:Value) (vs':Array Value),vs= #[v]++vs'→Enters P f∧(v= .nilIface→CallsD P f vs' .returning w fun e u' w'=>u'= .returning∧R e w')∧
  CallsD P f vs' (.panicking [{v:=v,recovered:=false}]) w fun e u' w'=>u'= .panicking [{v:=v,recovered:=true}]∧R e w'
theorem entry_def{rv:D}{ds:List D}{v:Value}{vs':Array Value}(h:RepL γ (#[v]++vs') (rv::ds)):RepD γ v rv∧RepL γ vs' ds:=by
 have h0:=h.2 0 rv rfl
 have e0:(#[v]++vs').getD 0 undef=v:=by
  simp only[Array.getD_eq_getD_getElem?]
  rw[Array.getElem?_append_left (by simp)]
  simp
 rw[e0] at h0
 refine⟨h0,by have:=h.1;simp at this;omega,fun i d hd=>?_⟩
 have:=h.2 (i+1) d (by simpa using hd)
 have e:(#[v]++vs').getD (i+1) undef=vs'.getD i undef:=by
  simp only[Array.getD_eq_getD_getElem?]
  rw[Array.getElem?_append_right (by simp)]
  simp
 rwa [e] at this
theorem def_ok{c:CallR}(S:Sound P W G c)(hm:P.follows .mixedOrders=true){it:It}(hit:∀b s r,it b s=some r→∃m,iter b m s=some r){T:Nat→Option (Nat×FC)}(hT:∀f x,T f=some x→DOk P f x.1 x.2){f:Nat}:
    ∀args H r H',evDef c T G it f args H=some (r,H')→∀γ w vs,InvS W G γ H w→RepL γ vs args→DCalls P f vs w fun e w'=>∃γ',γ.le γ'∧Frame γ H w γ' H' w'∧InvS W G γ' H' w'∧Ends' γ' r e:=by
 intro args H r H' h γ w vs I hv v vs' hvs
 subst hvs
 unfold evDef at h
 split at h
 ·rename_i dst fc rv as hTf
  split at h
  ·rename_i hl
   split at h
   ·rename_i d0 H0 hfin
    cases h
    obtain⟨fn,cd,h1,h2,h3,h4,h5,h6,h7⟩:=(hT f (dst,fc) hTf).ex
    have hnr:=(hT f (dst,fc) hTf).nr
    dsimp only at h4 h5 h6 h7 hnr
    obtain⟨hrv,has⟩:=entry_def hv
    have hsz:(vs'++Array.replicate (fn.ntmps-vs'.size) undef).size=fc.nt:=by simp[h4,has.1,hl.1];omega
    refine⟨⟨fn,h1,h2,by rw[h3];rfl⟩,?_⟩
    have key:∀(u u':FrameMode),(∀(c₀:Go.Frame) cs,c₀.mode=u→∀v1 cs1,(recoverD (c₀::cs)=some (v1,cs1)∨(recoverD (c₀::cs)=none∧v1= .nilIface∧cs1=c₀::cs))→v1=v∧cs1={c₀ with mode:=u'}::cs)→
        CallsD P f vs' u w fun e u2 w'=>u2=u'∧∃γ',γ.le γ'∧Frame γ H w γ' H' w'∧InvS W G γ' H' w'∧Ends' γ' (.val d0) e:=by
     intro u u' hu
     refine callsD_of_wpS h1 h3 fun c₀ cs hc₀=>?_
     refine wpS_spine cd ?_
     unfold compDef at h7
     split at h7
     ·rename_i keep hs b id ops d rest hbody hsp
      split at h7
      ·rename_i o l hol
       split at h7
       ·rename_i as0 ts0 hop hgd
        split at h7
        ·rename_i sl b' hsl hb'
         split at h7
         ·rename_i hdst
          cases hh:fc.body with
          |seq x y=>
           rw[hh] at h7 hfin hnr
           cases h7
           have hnb:b'.noR=true:=by simpa[SC.noR] using hnr
           rw[hsp]
           obtain⟨ho,hdlt,hall⟩:=hdst
           refine wpS_rec (b:=.recover) hol hgd rfl hop fun v1 cs1 hr=>?_
           obtain⟨rfl,rfl⟩:=hu c₀ cs hc₀ v1 cs1 hr
           rw[ho]
           obtain⟨out,s,hx,hp⟩:=finish_fun (W:=W) (γ:=γ) (H:=H) (w:=w) h6 hfin
           have E1:EnvRep γ ((dst,rv)::(dst,rv)::entry 0 as) (({tmps:=vs'++Array.replicate (fn.ntmps-vs'.size) undef,defers:=[]}:Act).put (some dst) v1).tmps:=by
            have E0:=(entry_rep has (fn.ntmps-vs'.size)).put (t:=dst) (by rw[hsz];exact hdlt) hrv
            intro t
            have:=E0 t
            simp only[Env.get,Act.put] at this⊢
            split
            ·rename_i ht;rw[if_pos ht] at this;exact this
            ·rename_i ht;rw[if_neg ht] at this;first |exact this |(rw[if_neg ht];exact this)
           have hlt:∀(j:Nat) o' t,ops[j]? =some o'→o'.dst=some t→t<fc.nt:=fun j o' t hj ht=>by
            have hmem:o'∈ops.toList:=by
             rw[←Array.getElem?_toList] at hj
             exact List.mem_of_getElem? hj
            have:=List.all_eq_true.1 hall o' hmem
            rw[ht] at this
            simpa using this
           obtain⟨hll,hof⟩:=compL_both hsl
           have hof':∀(i:Nat) a so,l[i]? =some a→sl[i]? =some so→OpOf P ops fc.nt a so:=fun i a so ha hso=>by
            obtain⟨_,q⟩:=hof i a so ha hso
            exact soOf_ok q
           simp only[evS] at hx
           simp only[evOps,evGuard,evKC,evK,Opd.ev,Env.get,if_true,put] at hx
           have done:∀{γ':Gh} {a':Act} {w':World} {e:Exit},bodyPost P fn (fun e w'=>∃γ',γ.le γ'∧Frame γ H w γ' H' w'∧InvS W G γ' H' w'∧Ends' γ' (.val d0) e) e a' w'→
               bodyPostS P fn c₀ cs (fun e u2 w'=>u2=u'∧∃γ',γ.le γ'∧Frame γ H w γ' H' w'∧InvS W G γ' H' w'∧Ends' γ' (.val d0) e) e a' ({c₀ with mode:=u'}::cs) w':=by
            intro γ' a' w' e hq
            cases e with
            |normal=>obtain⟨q1,v,q2,q3⟩:=hq;exact⟨q1,u',rfl,v,q2,rfl,q3⟩
            |ret=>obtain⟨q1,v,q2,q3⟩:=hq;exact⟨q1,u',rfl,v,q2,rfl,q3⟩
            |panic ch=>obtain⟨q1,q3⟩:=hq;exact⟨q1,u',rfl,rfl,q3⟩
            |outgrown=>exact⟨u',rfl,hq⟩
            |exit id=>exact hq.elim
            |goto t=>exact hq.elim
           cases hev:evOps c G sl ((dst,rv)::(dst,rv)::entry 0 as) H with
           |none=>rw[hev] at hx;simp at hx
           |some ro=>
            rw[hev] at hx
            refine ops_wp S hlt l sl γ _ H _ w hll hof' I E1 (by simp[Act.put,hsz]) ro hev (fun γ' e2 H2 a' w' hr L F J E' hn' hd'=>?_) (fun γ' d2 e2 H2 v2 a' w' hr L F J V E' hn' hd'=>?_)
            ·subst hr
             simp only at hx
             refine wpLS_of_wpL (d::rest) ?_
             refine compSp_wp S hm hit b (d::rest) _ hb' hnb _ γ' _ a' w' out s ?_ hx J (E'.keep _) hn' (df:=[]) (by rw[hd'];simp[Act.put]) ?_
             ·rintro a w ⟨_,_,_,_,_,_,q⟩
              exact no_out q
             refine(hp.later L F).other fun e a w _ q=>done (γ':=γ') q
            ·subst hr
             simp only[Option.some.injEq,Prod.mk.injEq] at hx
             obtain⟨rfl,rfl⟩:=hx
             have:=hp γ' a' w' L F J (by show a'.defers=[];rw[hd'];simp[Act.put]) hn' E' v2 V
             exact done (γ':=γ') this
          |_=>rw[hh] at h7;cases h7
         ·cases h7
        ·cases h7
       ·cases h7
      ·cases h7
     ·cases h7
    refine⟨fun hv0=>key .returning .returning ?_,key _ _ ?_⟩
    ·intro c₀ cs hc v1 cs1 hr
     have hn:recoverD (c₀::cs)=none:=by simp[recoverD,hc]
     rcases hr with hr |⟨_,rfl,rfl⟩
     ·rw[hn] at hr;cases hr
     ·exact⟨hv0.symm,by rw[←hc]⟩
    ·intro c₀ cs hc v1 cs1 hr
     have hs:recoverD (c₀::cs)=some (v,{c₀ with mode:=.panicking [{v:=v,recovered:=true}]}::cs):=by simp[recoverD,hc]
     rcases hr with hr |⟨hr,_,_⟩
     ·rw[hs] at hr;cases hr;exact⟨rfl,rfl⟩
     ·rw[hs] at hr;cases hr
   ·cases h
  ·cases h
 ·cases h
theorem body_D{fn:Func}{R:Ending→World→Prop}{e:Exit}{a:Act}{w:World}(h:bodyPost P fn R e a w):bodyPostD P fn R e a w:=by
 cases e with
 |normal=>
  obtain⟨q1,v,q2,q3⟩:=h
  show Leaves P fn a.tmps R a.defers .returning w
  rw[q1]
  exact⟨v,q2,q3⟩
 |ret=>
  obtain⟨q1,v,q2,q3⟩:=h
  show Leaves P fn a.tmps R a.defers .returning w
  rw[q1]
  exact⟨v,q2,q3⟩
 |panic ch=>
  obtain⟨q1,q3⟩:=h
  show Leaves P fn a.tmps R a.defers (.panicking ch) w
  rw[q1]
  exact q3
 |outgrown=>exact h
 |exit id=>exact h
 |goto t=>exact h
theorem DCalls.mono{f:Nat}{vs:Array Value}{w:World}{R R':Ending→World→Prop}(h:DCalls P f vs w R)(k:∀e w',R e w'→R' e w'):DCalls P f vs w R':=fun v vs' hv=>
 let⟨h0,h1,h2⟩:=h v vs' hv
 ⟨h0,fun hn=>(h1 hn).mono fun _ _ _ q=>⟨q.1,k _ _ q.2⟩,h2.mono fun _ _ _ q=>⟨q.1,k _ _ q.2⟩⟩
theorem ends_seal(J:Inv G γ H w){nb:Nat}{r r':Res}{e:Ending}(E:Ends' γ r e)(h:(r.frz nb H).ren (below nb) some=some r'):Ends' (γ.sealC H w nb) r' e:=by
 refine resRen (sealC_ren γ H w nb) h ?_
 cases r with
 |val d=>
  obtain⟨v,rfl,hv⟩:=E
  exact⟨v,rfl,frz_rep J 8 (hv.mono (Gh.sealM_le J nb))⟩
 |pan d=>
  obtain⟨v,rfl,hv⟩:=E
  exact⟨v,rfl,frz_rep J 8 (hv.mono (Gh.sealM_le J nb))⟩
theorem seal_ok(I:Inv G γ H w){γ':Gh}{Hx:Hp}{w':World}(L:γ.le γ')(F:Frame γ H w γ' Hx w')(J:Inv G γ' Hx w'){r:Res}{e:Ending}(E:Ends' γ' r e){r':Res}{H':Hp}(h:sealF H.bx.length (r,Hx)=(r',H')):
    ∃γ'',γ.le γ''∧Frame γ H w γ'' H' w'∧Inv G γ'' H' w'∧Ends' γ'' r' e:=by
 unfold sealF at h
 dsimp only at h
 split at h
 ·rename_i bx r1 hbx hr
  split at h
  ·rename_i hnb
   cases h
   obtain⟨L2,F2,J2⟩:=seal_core I L F J hbx hnb
   exact⟨_,L2,F2,J2,ends_seal J E hr⟩
  ·cases h
   exact⟨γ',L,F,J,E⟩
 ·cases h
  exact⟨γ',L,F,J,E⟩
theorem close_ok{f:Nat}{args:List D}{H:Hp}{frz:Bool}{x:Option (Res×Hp)}{r:Res}{H':Hp}(h:closeF frz H.bx.length x=some (r,H'))(hx:∀r0 H0,x=some (r0,H0)→Meets P W G f args H r0 H0):Meets P W G f args H r H':=by
 unfold closeF at h
 split at h
 ·obtain⟨y,hy,hs⟩:=Option.map_eq_some_iff.1 h
  obtain⟨r0,H0⟩:=y
  obtain⟨hent,hm⟩:=hx r0 H0 hy
  refine⟨hent,fun γ w vs I hv=>(hm γ w vs I hv).mono ?_⟩
  rintro e w' ⟨γ',L,F,J,E⟩
  obtain⟨γ2,L2,F2,J2,E2⟩:=seal_ok I.toInv L F J.toInv E hs
  exact⟨γ2,L2,F2,I.up L2 F2 J2,E2⟩
 ·exact hx r H' h
end Go.Vs
