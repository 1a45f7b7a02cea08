/-
  A value-level evaluator for Go functions; the functions of this cut by it; plain laws. Text G3.
-/
import Derived.Test.YtgplgbonlnodeaaGreatDoorG2
import Derived.RangeFuncLeaves
import Derived.OrdersIn
import Derived.TacticsIn
import Derived.LoopNIn
import Derived.LoopN
import Derived.Scope
import Derived.RangeFuncRecord
import Derived.RangeFuncSeq
import Derived.Laws.ResultCell
import Derived.Recover
open Array renaming all_eq_true'→amE,foldl_toList→YA,getD_eq_getD_getElem?→bN,getElem?_append→Ah,getElem?_append_right→YC,getElem?_eq_getElem→pY,getElem?_eq_some_iff→gz,getElem?_replicate→YJ,getElem?_setIfInBounds→Ka,getElem?_toList→CO,length_toList→qE,replicate→nA,size_setIfInBounds→Yz
open Bool renaming and_eq_false_iff→FW,and_eq_true→bQ,and_eq_true_iff→CR,false_eq_true→ob,false_or→Pt,not_eq_false'→PF,not_eq_true'→ud,or_comm→amF,or_eq_false_iff→Aj,or_eq_true→o0,true_and→YG,true_or→YI
open Classical renaming byContradiction→qD
open List renaming all_eq_true→gI,any_eq_true→PE,append_cancel_right→amG,append_eq_nil_iff→xJ,cons_append→jN,drop_eq_getElem_cons→FX,drop_length→Ki,eq_nil_of_length_eq_zero→tY,ext_getElem?→oh,filter_cons→xK,foldl_cons→Af,getD_cons_succ→PG,getD_cons_zero→YH,getD_eq_getElem?_getD→fE,getElem?_append_left→cH,getElem?_cons_zero→ew,getElem?_drop→oZ,getElem?_eq_getElem→aA,getElem?_eq_none→lU,getElem?_eq_some_iff→az,getElem?_map→cP,getElem?_of_mem→eC,getElem?_set_ne→dH,getElem?_set_self→j9,getElem?_take→j7,getElem?_take_of_lt→o7,length_append→iq,length_cons→dZ,length_eq_one_iff→amH,length_eq_zero_iff→Kb,length_map→cx,length_nil→fW,map→vO,map_cons→dA,map_inj_right→YK,map_nil→mF,mem_append→cW,mem_cons→cN,mem_cons_of_mem→jD,mem_cons_self→pa,mem_filter→rH,mem_map→dz,mem_of_getElem?→bS,mem_of_mem_drop→sU,mem_of_mem_take→j8,mem_or_eq_of_mem_set→Kd,mem_range→YF,nodup_cons→vS,range→ku,range'→xI
open List.cons renaming injEq→FV
open Nat renaming add_assoc→vQ,add_mul→fM,add_sub_cancel_left→vU,add_zero→oe,le_refl→aV,le_trans→gA,lt_of_lt_of_le→xF,lt_or_ge→iP,mul_le_mul_right→kz,one_mul→og,sub_self→xE,zero_add→eS
open Option renaming bind_some→PB,getD_some→kU,map_eq_some_iff→au,map_some→eA
open Option.some renaming inj→oi,injEq→bI
open Prod renaming mk→lB
namespace Go.Vs
variable {P : Program} {W : World} {G : Nat → Option (List PD)}
def jV{α:Type}(g0:α)(wr:Nat→Bool)(d:Nat→α)(l:Nat→Bool):Nat→α
 | 0=>g0
 |m+1=>if l m=true∧wr m=true then d m else jV g0 wr d l m
theorem AN{α:Type}{g0:α}{wr:Nat→Bool}{d:Nat→α}{l l':Nat→Bool}:∀(n:Nat),(∀j,j<n→wr j=true→l j=l' j)→jV g0 wr d l n=jV g0 wr d l' n
 | 0,_=>rfl
 |n+1,h=>by
  simp only[jV];rw[AN n fun j hj hw=>h j (by omega) hw];by_cases hw:wr n=true
  ·rw[h n (by omega) hw]
  ·simp[hw]
theorem Rs{α:Type}{g0:α}{wr:Nat→Bool}{d:Nat→α}{i:Nat}:∀(n:Nat),i≤n→jV g0 wr d (fun j=>decide (j<i)) n=jV g0 wr d (fun _=>true) i
 | 0,h=>by
  have :i=0:=by omega
  subst this;rfl
 |n+1,h=>by
  by_cases hi:i=n+1
  ·subst hi;exact AN (n+1) fun j hj _=>by simp[hj]
  ·simp only[jV];rw[if_neg (by simp;omega),Rs n (by omega)]
theorem LK{α:Type}{g0:α}{wr:Nat→Bool}{d:Nat→α}{l:Nat→Bool}{i:Nat}(hl:l i=true)(hw:wr i=true):∀(n:Nat),i<n→(∀j,i<j→j<n→wr j=true→l j=false)→jV g0 wr d l n=d i
 | 0,h,_=>by omega
 |n+1,h,q=>by
  simp only[jV];by_cases hi:i=n
  ·subst hi;rw[if_pos ⟨hl,hw⟩]
  ·rw[if_neg (fun x=>by have:=q n (by omega) (by omega) x.2;rw[this] at x;exact absurd x.1 (by simp)),LK hl hw n (by omega) fun j h1 h2 h3=>q j h1 (by omega) h3]
def lL(a b:SO):Bool:=
 (match a.dst with |some t=>b.uses.contains t||b.dst==some t |none=>false)||(match b.dst with |some t=>a.uses.contains t |none=>false)
def lM(o:Oper):List Nat:=(o.after.toList.filter (Region.binds .any)).map (·.on)
def Ru(ms:List Nat):List Nat→Nat
 |[]=>0
 |j::r=>(Ru ms r|||(1<<<j))|||ms.getD j 0
def Ds:List Oper→List Nat→List Nat
 |[],ms=>ms
 |o::r,ms=>Ds r (ms++[Ru ms (lM o)])
def rel(ms:List Nat)(i j:Nat):Bool:=(ms.getD i 0).testBit j
def jW(ax:List (Nat×Nat))(i:Nat):Bool:=ax.contains (1000000+i,0)
def Dt(ms:List Nat)(ax:List (Nat×Nat))(i:Nat)(ps:List Nat)(b:SO):Nat→List SO→Bool
 |_,[]=>true
 |j,a::r=>(if rel ms i j then ps.any fun p=>p==j||(decide (j<p)&&rel ms p j) else !lL a b&&(a.k.fw||b.k.fw||ax.contains (j,i)||jW ax i))&&Dt ms ax i ps b (j+1) r
def G9(ms:List Nat)(ax:List (Nat×Nat))(sl:List SO):Nat→List Oper→List SO→Bool
 |i,o::os,b::bs=>(lM o).all (fun p=>decide (p<i))&&Dt ms ax i (lM o) b 0 (sl.take i)&&G9 ms ax sl (i+1) os bs
 |_,_,_=>true
def LL(s:SO):Bool:=match s.k,s.g,s.dst with
 | .alloc (_::_),none,some _=>true
 |_,_,_=>false
def Ha(o:Oper):Bool:=match o.op with
 | .alloc _=>true
 |_=>false
def Rv(ms:List Nat)(ax:List (Nat×Nat))(nd:Nat→Bool)(a:Nat)(ps:List Nat):Bool:=
 (ku a).all fun j=>!nd j||ps.any fun p=>p==j||(!jW ax p&&(decide (j<p)&&rel ms p j))
def Du(ms:List Nat)(ax:List (Nat×Nat))(nd:Nat→Bool)(a:Nat):Nat→List Oper→Bool
 |_,[]=>true
 |i,o::r=>(decide (i≤a)|| !rel ms i a||Rv ms ax nd a (lM o))&&Du ms ax nd a (i+1) r
def rY(sl:List SO)(j:Nat):Bool:=match sl[j]? with
 |some s=>!s.k.fw
 |none=>false
def Rx(ax:List (Nat×Nat))(ms:List Nat)(ops:List Oper)(sl:List SO)(a:Nat):Bool:=
 match sl[a]?,ops[a]? with
 |some x,some o=>LL x&&Ha o&&(lM o).isEmpty&&Du ms ax (rY sl) a 0 ops
 |_,_=>false
def Ry(ax:List (Nat×Nat))(ms:List Nat)(ops:List Oper)(sl:List SO):Bool:=
 ax.all fun p=>decide (p.1<1000000)||Rx ax ms ops sl (p.1-1000000)
def AO(ax:List (Nat×Nat))(ops:List Oper)(sl:List SO):Bool:=G9 (Ds ops []) ax sl 0 ops sl&&Ry ax (Ds ops []) ops sl
theorem abn{s:SO}(h:LL s=true):∃zs t,s.k= .alloc zs∧zs≠[]∧s.g=none∧s.dst=some t:=by
 unfold LL at h;split at h
 ·rename_i z zs t h1 h2 h3;exact⟨z::zs,t,h1,by simp,h2,h3⟩
 ·cases h
theorem abo{o:Oper}(h:Ha o=true):∃e,o.op= .alloc e:=by
 unfold Ha at h;split at h
 ·rename_i e he;exact⟨e,he⟩
 ·cases h
theorem Rz{ms:List Nat}{ax:List (Nat×Nat)}{nd:Nat→Bool}{a:Nat}:∀{i0:Nat} {os:List Oper},Du ms ax nd a i0 os=true→∀(i:Nat) o,os[i]? =some o→a<i0+i→rel ms (i0+i) a=true→
    ∀j,j<a→nd j=true→∃p∈lM o,p=j∨(jW ax p=false∧j<p∧rel ms p j=true)
 |_,[],_,i,o,ho=>by simp at ho
 |i0,x::os,h,i,o,ho=>by
  intro ah hr j hj gj;simp only[Du,bQ] at h
  match i with
  | 0=>
   simp only[ew,bI] at ho;subst ho;have h1:=h.1;rw[oe] at hr ah;rw[hr,decide_eq_false (by omega)] at h1;have h1:Rv ms ax nd a (lM x)=true:=by simpa using h1
   have h2:=gI.1 h1 j (by simpa using hj);rw[gj] at h2;simpa[PE] using h2
  |i+1=>
   exact Rz (i0:=i0+1) h.2 i o (by simpa using ho) (by omega) (by rw[show i0+1+i=i0+(i+1) by omega];exact hr) j hj gj
structure RA (ax:List (Nat×Nat)) (ops:List Oper) (sl:List SO) (R:Nat→Nat→Bool) (a:Nat):Prop where
 al:∃x o e zx tx,sl[a]? =some x∧ops[a]? =some o∧o.op= .alloc e∧x.k= .alloc zx∧zx≠[]∧x.g=none∧x.dst=some tx∧lM o=[]
 late:∀(i:Nat) o,ops[i]? =some o→a<i→R i a=true→∀j,j<a→rY sl j=true→∃p∈lM o,p=j∨(jW ax p=false∧j<p∧R p j=true)
theorem abp{ax:List (Nat×Nat)}{ms:List Nat}{ops:List Oper}{sl:List SO}(h:Ry ax ms ops sl=true){a:Nat}(ha:jW ax a=true):RA ax ops sl (rel ms) a:=by
 have hm:(1000000+a,0)∈ax:=by simpa[jW] using ha
 have h1:=gI.1 h _ hm;simp only[o0,decide_eq_true_eq] at h1;rcases h1 with h1 |h1
 ·omega
 ·rw[vU] at h1;unfold Rx at h1;split at h1
  ·rename_i x o hx ho;simp only[bQ] at h1;obtain⟨⟨⟨a1,a2⟩,a3⟩,a4⟩:=h1;obtain⟨zx,tx,b1,b2,b3,b4⟩:=abn a1;obtain⟨e,he⟩:=abo a2;exact⟨⟨x,o,e,zx,tx,hx,ho,he,b1,b2,b3,b4,by simpa using a3⟩,fun i o ho hi hr=>Rz a4 i o ho (by omega) (by rw[eS];exact hr)⟩
  ·cases h1
theorem RB{ms:List Nat}{ax:List (Nat×Nat)}{i:Nat}{ps:List Nat}{b:SO}:∀{j0:Nat} {l:List SO},Dt ms ax i ps b j0 l=true→∀(j:Nat) a,l[j]? =some a→
    (rel ms i (j0+j)=true∧∃p∈ps,p=j0+j∨(j0+j<p∧rel ms p (j0+j)=true))∨
    (rel ms i (j0+j)=false∧lL a b=false∧(a.k.fw=true∨b.k.fw=true∨(j0+j,i)∈ax∨jW ax i=true))
 |_,[],_,j,a,ha=>by simp at ha
 |j0,x::l,h,j,a,ha=>by
  simp only[Dt,bQ] at h
  match j with
  | 0=>
   simp only[ew,bI] at ha;subst ha;have h1:=h.1;split at h1
   ·rename_i hr;refine .inl ⟨hr,?_⟩;simpa[PE] using h1
   ·rename_i hr;refine .inr ⟨by simpa using hr,?_⟩;simpa[or_assoc] using h1
  |j+1=>
   have:=RB h.2 j a (by simpa using ha);rw[show j0+(j+1)=j0+1+j by omega];exact this
theorem RC{ms:List Nat}{ax:List (Nat×Nat)}{sl:List SO}:∀{i0:Nat} {os:List Oper} {bs:List SO},G9 ms ax sl i0 os bs=true→∀(i:Nat) o b,os[i]? =some o→bs[i]? =some b→
    (∀p∈lM o,p<i0+i)∧Dt ms ax (i0+i) (lM o) b 0 (sl.take (i0+i))=true
 |_,[],_,_,i,o,b,ho,_=>by simp at ho
 |_,_::_,[],_,i,o,b,_,hb=>by simp at hb
 |i0,x::os,y::bs,h,i,o,b,ho,hb=>by
  simp only[G9,bQ] at h
  match i with
  | 0=>
   simp only[ew,bI] at ho hb;subst ho;subst hb;exact⟨by simpa[gI] using h.1.1,h.1.2⟩
  |i+1=>
   have:=RC h.2 i o b (by simpa using ho) (by simpa using hb);rw[show i0+(i+1)=i0+1+i by omega];exact this
theorem abq{ax:List (Nat×Nat)}{ops:List Oper}{sl:List SO}(h:AO ax ops sl=true):∃R:Nat→Nat→Bool,(∀(i:Nat) o b,ops[i]? =some o→sl[i]? =some b→
    (∀p∈lM o,p<i)∧∀(j:Nat) a,j<i→sl[j]? =some a→
     (R i j=true∧∃p∈lM o,p=j∨(j<p∧R p j=true))∨(R i j=false∧lL a b=false∧(a.k.fw=true∨b.k.fw=true∨(j,i)∈ax∨jW ax i=true)))∧
    ∀a,jW ax a=true→RA ax ops sl R a:=by
 unfold AO at h;rw[bQ] at h;refine⟨rel (Ds ops []),fun i o b ho hb=>?_,fun a ha=>abp h.2 ha⟩;have:=RC h.1 i o b ho hb;simp only[eS] at this;refine⟨this.1,fun j a hj ha=>?_⟩;have:=RB this.2 j a (by rw[o7 hj];exact ha);simpa using this
structure Trace (c:bC) (G:Nat→Option (List PD)) (sl:List SO) (E:Nat→Env) (Hs:Nat→Hp) (d:Nat→D) (cs:Nat→Nat×Nat) (X:Nat→Bool):Prop where
 env:∀(j:Nat) so,sl[j]? =some so→E (j+1)=put so.dst (d j) (E j)
 step:∀(j:Nat) so,sl[j]? =some so→((X j=true∨fF (E j) so.g=some false)∧d j= .undef∧Hs (j+1)=Hs j∧cs j=(0,0))∨
  (fF (E j) so.g=some true∧cF c G (E j) (Hs j) so.k=some (.val (d j),Hs (j+1))∧cs j=jP (E j) (Hs j) (Hs (j+1)) so.k)
theorem Hb{c:bC}{ax:List (Nat×Nat)}{k:Nat}:∀{sl:List SO} {i:Nat} {dead:List Nat} {env:Env} {H:Hp} {cs:List (Nat×Nat)},ox c G ax k i dead sl env H=some cs→
    ∃E Hs d X,E 0=env∧Hs 0=H∧Trace c G sl E Hs d (fun j=>cs.getD j (0,0)) X∧(∀j,bq (cs.getD j (0,0)).1=false)∧
     ∀(j:Nat) so,sl[j]? =some so→X j=true→(∃t,t∈so.uses∧(t∈dead∨∃j' fB,j'<j∧X j'=true∧sl[j']? =some fB∧fB.dst=some t))∨(so.k.fw=false∧(k,i+j)∉ax)
 |[],i,dead,env,H,cs,h=>by
  simp only[ox] at h;cases h;exact⟨fun _=>env,fun _=>H,fun _=>.undef,fun _=>false,rfl,rfl,⟨fun j so hs=>by simp at hs,fun j so hs=>by simp at hs⟩,fun j=>by simp[bq],fun j so hs=>by simp at hs⟩
 |o::sl,i,dead,env,H,cs,h=>by
  simp only[ox] at h;split at h
  ·rename_i hb;obtain⟨jH,hr,rfl⟩:=au.1 h;obtain⟨E,Hs,d,X,a1,a2,T,hw,hx⟩:=Hb hr;refine⟨fun j=>match j with | 0=>env |j+1=>E j,fun j=>match j with | 0=>H |j+1=>Hs j,fun j=>match j with | 0=>.undef |j+1=>d j,fun j=>match j with | 0=>true |j+1=>X j,rfl,rfl,⟨fun j so hs=>?_,fun j so hs=>?_⟩,fun j=>?_,fun j so hs hX=>?_⟩
   ·match j with
    | 0=>simp only[ew,bI] at hs;subst hs;exact a1
    |j+1=>exact T.env j so (by simpa using hs)
   ·match j with
    | 0=>exact .inl ⟨.inl rfl,rfl,a2,rfl⟩
    |j+1=>exact T.step j so (by simpa using hs)
   ·match j with
    | 0=>rfl
    |j+1=>exact hw j
   ·match j with
    | 0=>
     simp only[ew,bI] at hs;subst hs;simp only[behind,o0,bQ,ud,PE] at hb;rcases hb with⟨t,ht,yg⟩ |⟨h1,h2⟩
     ·exact .inl ⟨t,ht,.inl (by simpa using yg)⟩
     ·exact .inr ⟨h1,by simpa using h2⟩
    |j+1=>
     rcases hx j so (by simpa using hs) hX with⟨t,ht,hd⟩ |⟨h1,h2⟩
     ·refine .inl ⟨t,ht,?_⟩;rcases hd with hd |⟨j',fB,q1,q2,q3,q4⟩
      ·rcases cW.1 hd with hd |hd
       ·exact .inr ⟨0,o,by omega,rfl,rfl,by simpa using hd⟩
       ·exact .inl hd
      ·exact .inr ⟨j'+1,fB,by omega,q2,by simpa using q3,q4⟩
     ·exact .inr ⟨h1,by rw[show i+(j+1)=i+1+j by omega];exact h2⟩
  ·split at h
   ·rename_i hg;split at h
    ·rename_i d0 H0 hd;split at h
     ·cases h
     ·rename_i hnw;obtain⟨jH,hr,rfl⟩:=au.1 h;obtain⟨E,Hs,d,X,a1,a2,T,hw,hx⟩:=Hb hr;refine⟨fun j=>match j with | 0=>env |j+1=>E j,fun j=>match j with | 0=>H |j+1=>Hs j,fun j=>match j with | 0=>d0 |j+1=>d j,fun j=>match j with | 0=>false |j+1=>X j,rfl,rfl,⟨fun j so hs=>?_,fun j so hs=>?_⟩,fun j=>?_,fun j so hs hX=>?_⟩
      ·match j with
       | 0=>simp only[ew,bI] at hs;subst hs;exact a1
       |j+1=>exact T.env j so (by simpa using hs)
      ·match j with
       | 0=>
        simp only[ew,bI] at hs;subst hs;refine .inr ⟨hg,?_,?_⟩
        ·simp only[a2];exact hd
        ·simp only[a2];rfl
       |j+1=>exact T.step j so (by simpa using hs)
      ·match j with
       | 0=>simpa using hnw
       |j+1=>exact hw j
      ·match j with
       | 0=>cases hX
       |j+1=>
        rcases hx j so (by simpa using hs) hX with⟨t,ht,hd⟩ |⟨h1,h2⟩
        ·refine .inl ⟨t,ht,?_⟩;rcases hd with hd |⟨j',fB,q1,q2,q3,q4⟩
         ·exact .inl hd
         ·exact .inr ⟨j'+1,fB,by omega,q2,by simpa using q3,q4⟩
        ·exact .inr ⟨h1,by rw[show i+(j+1)=i+1+j by omega];exact h2⟩
    ·cases h
   ·rename_i hg;obtain⟨jH,hr,rfl⟩:=au.1 h;obtain⟨E,Hs,d,X,a1,a2,T,hw,hx⟩:=Hb hr;refine⟨fun j=>match j with | 0=>env |j+1=>E j,fun j=>match j with | 0=>H |j+1=>Hs j,fun j=>match j with | 0=>.undef |j+1=>d j,fun j=>match j with | 0=>false |j+1=>X j,rfl,rfl,⟨fun j so hs=>?_,fun j so hs=>?_⟩,fun j=>?_,fun j so hs hX=>?_⟩
    ·match j with
     | 0=>simp only[ew,bI] at hs;subst hs;exact a1
     |j+1=>exact T.env j so (by simpa using hs)
    ·match j with
     | 0=>
      simp only[ew,bI] at hs;subst hs;exact .inl ⟨.inr hg,rfl,a2,rfl⟩
     |j+1=>exact T.step j so (by simpa using hs)
    ·match j with
     | 0=>rfl
     |j+1=>exact hw j
    ·match j with
     | 0=>cases hX
     |j+1=>
      rcases hx j so (by simpa using hs) hX with⟨t,ht,hd⟩ |⟨h1,h2⟩
      ·refine .inl ⟨t,ht,?_⟩;rcases hd with hd |⟨j',fB,q1,q2,q3,q4⟩
       ·exact .inl hd
       ·exact .inr ⟨j'+1,fB,by omega,q2,by simpa using q3,q4⟩
      ·exact .inr ⟨h1,by rw[show i+(j+1)=i+1+j by omega];exact h2⟩
   ·cases h
theorem RD{a b:SO}{t:Nat}(ha:a.dst=some t)(hb:t∈b.uses):lL a b=true:=by
 simp[lL,ha,hb]
theorem RE{c:bC}{ax:List (Nat×Nat)}:∀{sl:List SO} {i:Nat} {env:Env} {H:Hp} {dv:D} {H':Hp} {cs:List (Nat×Nat)} {k:Nat},jo c G ax i sl env H=some (dv,H',cs,k)→
    ∃E Hs d X k0,k=i+k0∧E 0=env∧Hs 0=H∧Trace c G sl E Hs d (fun j=>cs.getD j (0,0)) X∧X k0=true∧(∀j,j<k0→X j=false)∧
     (∃so,sl[k0]? =some so∧fF (E k0) so.g=some true∧cF c G (E k0) (Hs k0) so.k=some (.bR dv,H'))∧(∀j,k0<j→bq (cs.getD j (0,0)).1=false)∧
     ∀(j:Nat) so,sl[j]? =some so→X j=true→j≠k0→k0<j∧((∃j' fB,j'<j∧X j'=true∧sl[j']? =some fB∧lL fB so=true)∨(so.k.fw=false∧(k,i+j)∉ax))
 |[],i,env,H,dv,H',cs,k,h=>by
  simp only[jo] at h;cases h
 |o::sl,i,env,H,dv,H',cs,k,h=>by
  have later:∀(v:D) (H0:Hp) (x:Nat×Nat) (jH:List (Nat×Nat)),jo c G ax (i+1) sl (put o.dst v env) H0=some (dv,H',jH,k)→cs=x::jH→
      ((fF env o.g=some false∧v= .undef∧H0=H∧x=(0,0))∨(fF env o.g=some true∧cF c G env H o.k=some (.val v,H0)∧x=jP env H H0 o.k))→
      ∃E Hs d X k0,k=i+k0∧E 0=env∧Hs 0=H∧Trace c G (o::sl) E Hs d (fun j=>cs.getD j (0,0)) X∧X k0=true∧(∀j,j<k0→X j=false)∧
       (∃so,(o::sl)[k0]? =some so∧fF (E k0) so.g=some true∧cF c G (E k0) (Hs k0) so.k=some (.bR dv,H'))∧(∀j,k0<j→bq (cs.getD j (0,0)).1=false)∧
       ∀(j:Nat) so,(o::sl)[j]? =some so→X j=true→j≠k0→k0<j∧((∃j' fB,j'<j∧X j'=true∧(o::sl)[j']? =some fB∧lL fB so=true)∨(so.k.fw=false∧(k,i+j)∉ax)):=by
   intro v H0 x jH hr ak LM;subst ak;obtain⟨E,Hs,d,X,k0,hk,a1,a2,T,b1,b2,⟨so,b3,b4,b5⟩,b6,b7⟩:=RE hr;refine⟨fun j=>match j with | 0=>env |j+1=>E j,fun j=>match j with | 0=>H |j+1=>Hs j,fun j=>match j with | 0=>v |j+1=>d j,fun j=>match j with | 0=>false |j+1=>X j,k0+1,by omega,rfl,rfl,⟨fun j so hs=>?_,fun j so hs=>?_⟩,b1,fun j hj=>?_,⟨so,by simpa using b3,b4,b5⟩,fun j hj=>?_,fun j so hs hX aq=>?_⟩
   ·match j with
    | 0=>simp only[ew,bI] at hs;subst hs;exact a1
    |j+1=>exact T.env j so (by simpa using hs)
   ·match j with
    | 0=>
     simp only[ew,bI] at hs;subst hs;rcases LM with⟨h1,h2,h3,h4⟩ |⟨h1,h2,h3⟩
     ·exact .inl ⟨.inr h1,h2,a2.trans h3,h4⟩
     ·refine .inr ⟨h1,?_,?_⟩
      ·simp only[a2];exact h2
      ·simp only[a2];exact h3
    |j+1=>exact T.step j so (by simpa using hs)
   ·match j with
    | 0=>rfl
    |j+1=>exact b2 j (by omega)
   ·match j with
    | 0=>omega
    |j+1=>exact b6 j (by omega)
   ·match j with
    | 0=>cases hX
    |j+1=>
     obtain⟨c1,c2⟩:=b7 j so (by simpa using hs) hX (by omega);refine⟨by omega,?_⟩;rcases c2 with⟨j',fB,q1,q2,q3,q4⟩ |⟨q1,q2⟩
     ·exact .inl ⟨j'+1,fB,by omega,q2,by simpa using q3,q4⟩
     ·exact .inr ⟨q1,by rw[show i+(j+1)=i+1+j by omega];exact q2⟩
  simp only[jo] at h;split at h
  ·rename_i hg;split at h
   ·rename_i d0 H0 hd;obtain⟨⟨dv1,H1,jH,k1⟩,hr,hh⟩:=au.1 h;simp only[lB.injEq] at hh;obtain⟨rfl,rfl,rfl,rfl⟩:=hh;exact later d0 H0 _ jH hr rfl (.inr ⟨hg,hd,rfl⟩)
   ·rename_i d0 H0 hd;obtain⟨jH,hr,hh⟩:=au.1 h;simp only[lB.injEq] at hh;obtain⟨rfl,rfl,rfl,rfl⟩:=hh;obtain⟨E,Hs,d,X,a1,a2,T,hw,hx⟩:=Hb hr;refine⟨fun j=>match j with | 0=>env |j+1=>E j,fun j=>match j with | 0=>H |j+1=>Hs j,fun j=>match j with | 0=>.undef |j+1=>d j,fun j=>match j with | 0=>true |j+1=>X j,0,rfl,rfl,rfl,⟨fun j so hs=>?_,fun j so hs=>?_⟩,rfl,fun j hj=>by omega,⟨o,rfl,hg,hd⟩,fun j hj=>?_,fun j so hs hX aq=>?_⟩
    ·match j with
     | 0=>simp only[ew,bI] at hs;subst hs;exact a1
     |j+1=>exact T.env j so (by simpa using hs)
    ·match j with
     | 0=>exact .inl ⟨.inl rfl,rfl,a2,rfl⟩
     |j+1=>exact T.step j so (by simpa using hs)
    ·match j with
     | 0=>omega
     |j+1=>exact hw j
    ·match j with
     | 0=>exact absurd rfl aq
     |j+1=>
      refine⟨by omega,?_⟩;rcases hx j so (by simpa using hs) hX with⟨t,ht,hd⟩ |⟨h1,h2⟩
      ·rcases hd with hd |⟨j',fB,q1,q2,q3,q4⟩
       ·exact .inl ⟨0,o,by omega,rfl,rfl,RD (by simpa using hd) ht⟩
       ·exact .inl ⟨j'+1,fB,by omega,q2,by simpa using q3,RD q4 ht⟩
      ·exact .inr ⟨h1,by rw[show i+(j+1)=i+1+j by omega];exact h2⟩
   ·cases h
  ·rename_i hg;obtain⟨⟨dv1,H1,jH,k1⟩,hr,hh⟩:=au.1 h;simp only[lB.injEq] at hh;obtain⟨rfl,rfl,rfl,rfl⟩:=hh;exact later .undef H _ jH hr rfl (.inl ⟨hg,rfl,rfl,rfl⟩)
  ·cases h
theorem LN{c:bC}:∀{sl:List SO} {env:Env} {H:Hp} {e':Env} {H':Hp} {cs:List (Nat×Nat)},gW c G sl env H=some (e',H',cs)→
    ∃E Hs d,E 0=env∧Hs 0=H∧E sl.length=e'∧Hs sl.length=H'∧Trace c G sl E Hs d (fun j=>cs.getD j (0,0)) (fun _=>false)
 |[],env,H,e',H',cs,h=>by
  simp only[gW] at h;cases h;exact⟨fun _=>env,fun _=>H,fun _=>.undef,rfl,rfl,rfl,rfl,fun j so hs=>by simp at hs,fun j so hs=>by simp at hs⟩
 |o::sl,env,H,e',H',cs,h=>by
  simp only[gW] at h;split at h
  ·rename_i hg;split at h
   ·rename_i d0 H0 hd;split at h
    ·rename_i e1 h1 jH hr;cases h;obtain⟨E,Hs,d,a1,a2,a3,a4,T⟩:=LN hr;refine⟨fun j=>match j with | 0=>env |j+1=>E j,fun j=>match j with | 0=>H |j+1=>Hs j,fun j=>match j with | 0=>d0 |j+1=>d j,rfl,rfl,a3,a4,⟨fun j so hs=>?_,fun j so hs=>?_⟩⟩
     ·match j with
      | 0=>simp only[ew,bI] at hs;subst hs;exact a1
      |j+1=>exact T.env j so (by simpa using hs)
     ·match j with
      | 0=>
       simp only[ew,bI] at hs;subst hs;refine .inr ⟨hg,?_,?_⟩
       ·simp only[a2];exact hd
       ·simp only[a2];rfl
      |j+1=>exact T.step j so (by simpa using hs)
    ·cases h
   ·cases h
  ·rename_i hg;split at h
   ·rename_i e1 h1 jH hr;cases h;obtain⟨E,Hs,d,a1,a2,a3,a4,T⟩:=LN hr;refine⟨fun j=>match j with | 0=>env |j+1=>E j,fun j=>match j with | 0=>H |j+1=>Hs j,fun j=>match j with | 0=>.undef |j+1=>d j,rfl,rfl,a3,a4,⟨fun j so hs=>?_,fun j so hs=>?_⟩⟩
    ·match j with
     | 0=>simp only[ew,bI] at hs;subst hs;exact a1
     |j+1=>exact T.env j so (by simpa using hs)
    ·match j with
     | 0=>
      simp only[ew,bI] at hs;subst hs;exact .inl ⟨.inr hg,rfl,a2,rfl⟩
     |j+1=>exact T.step j so (by simpa using hs)
   ·cases h
  ·cases h
theorem LO(e:Env)(k:SK):cls e k≤2:=by
 cases k<;>simp only[cls]<;>(try split)<;>omega
theorem LP{c:bC}{e:Env}{H H':Hp}{k:SK}{d:D}(he:cF c G e H k=some (.val d,H'))(hc:cls e k=1):H'=H:=by
 have hlen:H'.bx.length=H.bx.length:=by
  cases k<;>first |(exfalso;simp only[cls] at hc;omega) |skip
  ·rename_i n x;rw[kK rfl] at he;split at he
   ·rename_i hd;cases he;simp only[aN] at hd;obtain⟨_,_,hh⟩:=au.1 hd;cases hh;rfl
   ·cases he
  ·rw[kK rfl] at he;split at he
   ·rename_i hd;cases he;simp only[aN] at hd;obtain⟨_,_,hh⟩:=au.1 hd;cases hh;rfl
   ·cases he
  ·rw[kK rfl] at he;split at he
   ·rename_i hd;cases he;simp only[aN] at hd;unfold F9 at hd;split at hd
    ·split at hd
     ·split at hd<;>cases hd;rfl
     ·split at hd<;>cases hd;rfl
     ·split at hd
      ·obtain⟨_,_,hh⟩:=au.1 hd;cases hh;rfl
      ·cases hd
     ·cases hd
    ·cases hd
   ·cases he
  ·rw[kK rfl] at he;split at he
   ·rename_i hd;cases he;simp only[aN] at hd;obtain⟨_,_,hh⟩:=au.1 hd;cases hh;rfl
   ·cases he
  ·rw[kK rfl] at he;split at he
   ·rename_i hd;cases he;simp only[aN] at hd;split at hd
    ·obtain⟨_,_,hh⟩:=au.1 hd;cases hh;rfl
    ·cases hd
   ·cases he
  ·exfalso;simp only[cls] at hc;split at hc<;>omega
 exact(G8 he (by omega) hlen).1
theorem uM(i:Nat):bq (4+2*i)=true:=by
 simp only[bq,o0,bQ,decide_eq_true_eq,beq_iff_eq];omega
def SK.uN(e:Env):SK→Option Nat
 | .appendg _ _ _ s _=>match s.ev e with
  | .aB i _ _ _ | .bu i _ _ _ _=>some i
  |_=>none
 |_=>none
def SK.Hc(e:Env):SK→Bool
 | .alloc _ | .box _ | .vY _ | .bsliceG _ _ _ _ _ | .makesl _ _ _ _ _=>true
 | .appendg a b c s x=>(SK.uN e (.appendg a b c s x)).isNone
 |_=>false
theorem abu{e:Env}{H H':Hp}{k:SK}{d:D}(hk:k.Hc e=true)(h:aN G e H k=some (d,H')):(∃x,H'.bx=H.bx++[x])∨H'.bx=H.bx:=by
 cases k<;>first |(cases hk;done) |skip
 ·simp only[aN] at h;split at h<;>cases h;exact .inl ⟨_,rfl⟩
 ·simp only[aN] at h;split at h<;>cases h;exact .inl ⟨_,rfl⟩
 ·rename_i el sz Hd s x;simp only[SK.Hc,SK.uN] at hk;simp only[aN] at h;split at h
  ·rename_i m xs hs;unfold gL at h;split at h
   ·rename_i hv;rw[hv] at hk;cases hk
   ·rename_i hv;rw[hv] at hk;cases hk
   ·split at h
    ·split at h
     ·cases h;exact .inr rfl
     ·split at h
      ·cases h;exact .inl ⟨_,rfl⟩
      ·cases h
    ·cases h
  ·cases h
 ·simp only[aN] at h;cases h;exact .inl ⟨_,rfl⟩
 ·simp only[aN] at h;unfold Am at h;split at h
  ·split at h
   ·cases h;exact .inl ⟨_,rfl⟩
   ·cases h
  ·cases h
 ·simp only[aN] at h;split at h
  ·split at h
   ·split at h
    ·cases h;exact .inl ⟨_,rfl⟩
    ·cases h
   ·cases h
  ·cases h
theorem abv{e:Env}{H H':Hp}{k:SK}{d:D}{i:Nat}(hk:k.uN e=some i)(h:aN G e H k=some (d,H')){b:Nat}(hb:b≠i)(hl:b<H.bx.length):H'.bx[b]? =H.bx[b]?:=by
 unfold SK.uN at hk;split at hk
 ·rename_i el sz Hd s x;simp only[aN] at h;split at h
  ·rename_i m xs hs;split at hk
   ·rename_i i' e' n' bF hv;cases hk;simp only[hv,gL] at h;split at h
    ·split at h
     ·cases h;rfl
     ·split at h
      ·split at h
       ·split at h
        ·cases h;show(H.bx.set i _)[b]? =_;rw[dH (Ne.symm hb)]
        ·split at h
         ·cases h;show(H.bx.set i []++_)[b]? =_;rw[cH (by simpa using hl),dH (Ne.symm hb)]
         ·cases h
       ·cases h
      ·cases h
    ·cases h
   ·rename_i i' off n' kH bF hv;cases hk;simp only[hv] at h;cases kH with
    |none=>simp only[gL,mK] at h;cases h
    |some c=>
     simp only[gL] at h;split at h
     ·split at h
      ·cases h;rfl
      ·split at h
       ·split at h
        ·split at h
         ·split at h
          ·cases h;show(H.bx.set i _)[b]? =_;rw[dH (Ne.symm hb)]
          ·cases h
         ·split at h
          ·cases h;show(H.bx++_)[b]? =_;rw[cH hl]
          ·cases h
        ·cases h
       ·cases h
     ·cases h
   ·cases hk
  ·cases h
 ·cases hk
theorem AP(l:Nat)(e:Env)(k:SK):gN l e k=(cls e k,0)∨(∃n x i o,k= .load n x∧x.ev e= .box i o∧cls e k=1∧gN l e k=(3+2*i,0))∨(∃n a v i o,k= .store n a v∧a.ev e= .box i o∧cls e k=2∧gN l e k=(4+2*i,0))∨
    (∃g z ok m kk i,k= .mapget g z ok m kk∧m.ev e= .bU i∧cls e k=1∧gN l e k=(3+2*i,0))∨(k.Hc e=true∧cls e k=2∧gN l e k=(4+2*l,0))∨
    (∃kd m kk v i q,k= .mapins kd m kk v∧m.ev e= .bU i∧kk.ev e= .p q∧i<2000000000∧gN l e k=(4+2*i,cX q+1))∨
    (∃el sz Hd s x,k= .append el sz Hd s x∧gN l e k=(4+2*1000000007,0))∨
    (∃i,k.uN e=some i∧l<1000000∧gN l e k=(4+2*(4000000000+i*1000000+l),0)):=by
 by_cases cG:∃a b c s x,k= .appendg a b c s x
 ·obtain⟨a,b,c,s,x,rfl⟩:=cG;have key:∀i,SK.uN e (.appendg a b c s x)=some i→gN l e (.appendg a b c s x)=if l<1000000 then(4+2*(4000000000+i*1000000+l),0) else(2,0):=by
   intro i hi;simp only[SK.uN] at hi;simp only[gN];split at hi
   ·rename_i hv;cases hi;rw[hv]
   ·rename_i hv;cases hi;rw[hv]
   ·cases hi
  cases hi:SK.uN e (.appendg a b c s x) with
  |some i=>
   by_cases hl:l<1000000
   ·exact .inr (.inr (.inr (.inr (.inr (.inr (.inr ⟨i,rfl,hl,by rw[key i hi,if_pos hl]⟩))))))
   ·exact .inl (by rw[key i hi,if_neg hl];rfl)
  |none=>
   refine .inr (.inr (.inr (.inr (.inl ⟨by simp[SK.Hc,hi],rfl,?_⟩))));simp only[SK.uN] at hi;simp only[gN];split at hi
   ·cases hi
   ·cases hi
   ·rename_i h1 h2;split
    ·rename_i hv;exact(h1 _ _ _ _ hv).elim
    ·rename_i hv;exact(h2 _ _ _ _ _ hv).elim
    ·rfl
 cases k<;>first |exact absurd ⟨_,_,_,_,_,rfl⟩ cG |exact .inr (.inr (.inr (.inr (.inr (.inr (.inl ⟨_,_,_,_,_,rfl,rfl⟩)))))) |exact .inr (.inr (.inr (.inr (.inl ⟨rfl,rfl,rfl⟩)))) |(exact .inl rfl) |skip
 ·rename_i n x;cases hx:x.ev e with
  |box i o=>exact .inr (.inl ⟨n,x,i,o,rfl,hx,by simp only[cls,hx],by simp only[gN,hx]⟩)
  |_=>exact .inl (by simp only[gN,hx])
 ·rename_i n a v;cases hx:a.ev e with
  |box i o=>exact .inr (.inr (.inl ⟨n,a,v,i,o,rfl,hx,rfl,by simp only[gN,hx]⟩))
  |_=>exact .inl (by simp only[gN,hx])
 ·rename_i kd m kk v;cases hx:m.ev e with
  |bU i=>
   cases hy:kk.ev e with
   |p q=>
    by_cases hi:i<2000000000
    ·exact .inr (.inr (.inr (.inr (.inr (.inl ⟨kd,m,kk,v,i,q,rfl,hx,hy,hi,by simp only[gN,hx,hy,hi,if_true]⟩)))))
    ·exact .inl (by simp only[gN,hx,hy,hi,if_false];rfl)
   |_=>exact .inl (by simp only[gN,hx,hy])
  |_=>exact .inl (by simp only[gN,hx])
 ·rename_i g z ok m kk;cases hx:m.ev e with
  |bU i=>exact .inr (.inr (.inr (.inl ⟨g,z,ok,m,kk,i,rfl,hx,rfl,by simp only[gN,hx]⟩)))
  |_=>exact .inl (by simp only[gN,hx])
theorem AQ(e:Env)(H H':Hp)(k:SK):(cls e k=0∧H'.bx.length=H.bx.length∧jP e H H' k=(0,0))∨((cls e k=0∨H'.bx.take H.bx.length=H.bx)∧∃m,bq m=true∧(m=2∨(m=4+2*H.bx.length∧H'.bx.length=H.bx.length+1))∧jP e H H' k=(m,0))∨(cls e k≠0∧jP e H H' k=gN H.bx.length e k)∨(H'=H∧(jP e H H' k=(1,0)∨∃i,jO e H k=some i∧jP e H H' k=(3+2*i,0)))∨(k.lI=true∧rL k=true∧(H'.bx.length=H.bx.length∧we (xX e H k)<2000000000)∧jP e H H' k=(4+2*(2000000000+we (xX e H k)),0)):=by
 unfold jP;split
 ·rename_i h;split
  ·rename_i h2;exact .inl ⟨h,h2,rfl⟩
  ·split
   ·rename_i h3;exact .inr (.inl ⟨.inl h,_,by simp[bq],.inr ⟨rfl,h3⟩,rfl⟩)
   ·exact .inr (.inl ⟨.inl h,2,rfl,.inl rfl,rfl⟩)
 ·rename_i h;split
  ·rename_i h2;rw[bQ] at h2;refine .inr (.inr (.inr (.inl ⟨Y3 h2.2,?_⟩)));cases hc:jO e H k with
   |none=>exact .inl rfl
   |some i=>exact .inr ⟨i,rfl,rfl⟩
  ·split
   ·rename_i h3;rw[bQ] at h3;refine .inr (.inr (.inr (.inr ⟨?_,h3.1,by simpa using h3.2,rfl⟩)));cases k<;>first |rfl |cases h3.1
   ·exact .inr (.inr (.inl ⟨h,rfl⟩))
theorem abw{e:Env}{k:SK}(h:k.fw=true):cls e k=0:=by
 cases k<;>first |rfl |cases h
theorem abx(i:Nat):bq (3+2*i)=false:=by
 simp[bq];omega
theorem aby{c:bC}{e:Env}{H H':Hp}{k:SK}{d:D}(he:cF c G e H k=some (.val d,H'))(hc:cls e k=0):H'.bx.take H.bx.length=H.bx:=by
 have same:H'=H→H'.bx.take H.bx.length=H.bx:=fun h=>by rw[h];simp
 by_cases hl:H'.bx.length=H.bx.length
 ·exact same (G8 he (by omega) hl).1
 by_cases hp:∃x,k= .panic x
 ·obtain⟨x,rfl⟩:=hp;simp only[cls] at hc;omega
 by_cases hk:k.lI=true
 ·cases k<;>first |(cases hk;done) |(exact absurd ⟨_,rfl⟩ hp) |skip
  rename_i f as;simp only[cF] at he;unfold p9 at he;split at he
  ·rename_i g first cap hg
   have AM:D.aD (first++vO (fun x=>aw.ev e x) as++cap)=[]:=by
    simp only[cls] at hc;split at hc
    ·rename_i hr;simp only[bQ,List.isEmpty_iff] at hr;have:=hr.1;have app:∀x y:List D,D.aD (x++y)=D.aD x++D.aD y:=by
      intro x y
      induction x with
      |nil=>simp[D.aD]
      |cons d x ih=>simp[D.aD,ih]
     rw[hg] at this;simp only[D.aD,D.refs,xJ] at this;rw[app,app,this.1.1,this.1.2,this.2];rfl
    ·omega
   have yx:∀n,reach H n []=[]:=by
    intro n;cases n<;>simp[reach,ef]
   unfold av at he;dsimp only at he;simp only[AM,ins,yx] at he;split at he
   ·split at he
    ·split at he
     ·unfold back at he;split at he
      ·dsimp only at he;split at he
       ·cases he;simp[cq]
       ·split at he
        ·cases he;simp[cq]
        ·cases he
      ·cases he
     ·cases he
    ·cases he
   ·cases he
  ·cases he
 ·have hk:k.lI=false:=by simpa using hk
  refine absurd ?_ hl;rw[kK hk] at he;split at he
  ·rename_i d0 H0 hd;cases he;by_cases nG:k.fw=true
   ·have q:=G7 (G:=G) (e:=e) nG H;rw[q] at hd;obtain⟨x,hx,hh⟩:=au.1 hd;cases hh;rfl
   ·cases k<;>first |(exact absurd rfl nG) |(exfalso;simp only[cls] at hc;omega) |(exfalso;cases hk;done) |skip
    all_goals
     simp only[aN] at hd
     first
      |(obtain⟨d',bH,hh⟩:=au.1 hd
        cases hh;rfl)
      |(split at hd
        ·obtain⟨s,hs,hh⟩:=au.1 hd;cases hh;rfl
        ·cases hd)
  ·cases he
theorem RF{i:Nat}:∀(l:List Nat),ins [i] l=[i]→∀x∈l,x=i
 |[],_,x,hx=>by simp at hx
 |a::l,h,x,hx=>by
  have key:∀(l m:List Nat),m.length≤(ins m l).length:=by
   intro l
   induction l with
   |nil=>intro m;exact aV _
   |cons a l ih=>
    intro m;simp only[ins];split
    ·exact ih m
    ·exact gA (by simp) (ih _)
  simp only[ins] at h;split at h
  ·rename_i hc;have ha:a=i:=by simpa using hc
   rcases cN.1 hx with rfl |hx
   ·exact ha
   ·exact RF l h x hx
  ·have:=key l ([i]++[a]);rw[h] at this;simp at this
theorem RG{i:Nat}:∀(l:List Nat),(∀x∈l,x=i)→ins [i] l=[i]
 |[],_=>rfl
 |a::l,h=>by
  have :a=i:=h a (by simp);subst this;simp only[ins];rw[if_pos (by simp)];exact RG l fun x hx=>h x (by simp[hx])
theorem He:∀(l m:List Nat),∃r,ins m l=m++r
 |[],m=>⟨[],by simp[ins]⟩
 |a::l,m=>by
  simp only[ins];split
  ·exact He l m
  ·obtain⟨r,hr⟩:=He l (m++[a]);exact⟨[a]++r,by rw[hr];simp⟩
theorem LQ(H:Hp):∀(n:Nat) (m:List Nat),∃r,reach H n m=m++r
 | 0,m=>⟨[],by simp[reach]⟩
 |n+1,m=>by
  simp only[reach];split
  ·exact⟨[],by simp⟩
  ·rename_i new _;obtain⟨r,hr⟩:=He (ef H m) m;obtain⟨r',tq⟩:=LQ H n (ins m (ef H m));exact⟨r++r',by rw[tq,hr];simp⟩
theorem qX(H:Hp):∀n,reach H n []=[]
 | 0=>rfl
 |n+1=>by simp[reach,ef]
theorem abz{H H2:Hp}{i:Nat}{l:List Nat}{n:Nat}(hb:H2.bx[i]? =H.bx[i]?)(h:reach H n l=[i])(hn:0<n∨True)(m:Nat)(hm:n=0→∀x∈ef H [i],x=i):l=[i]∧reach H2 m l=[i]:=by
 have _:=hn;have hl:l=[i]:=by
  obtain⟨r,hr⟩:=LQ H n l;rw[h] at hr;cases l with
  |nil=>rw[qX] at h;cases h
  |cons a l=>
   simp only[jN,FV] at hr;obtain⟨rfl,hr⟩:=hr;have :l=[]:=by
    cases l with
    |nil=>rfl
    |cons b l=>simp at hr
   rw[this]
 subst hl;refine⟨rfl,?_⟩;have hr:∀x∈ef H [i],x=i:=by
  cases n with
  |zero=>exact hm rfl
  |succ n=>
   simp only[reach] at h;split at h
   ·rename_i he;rw[he];simp
   ·obtain⟨r,hr⟩:=LQ H n (ins [i] (ef H [i]));obtain⟨r',tq⟩:=He (ef H [i]) [i];rw[h] at hr;refine RF _ ?_;rw[tq] at hr⊢;have :r'=[]:=by
     cases r' with
     |nil=>rfl
     |cons b l=>simp at hr
    rw[this];rfl
 have aC:ef H2 [i]=ef H [i]:=by simp only[ef,hb]
 induction m with
 |zero=>rfl
 |succ m ih=>
  simp only[reach];split
  ·rfl
  ·rename_i he;rw[aC,RG _ hr];exact ih
theorem LR{α:Type}:∀(is:List Nat) (xs l:List α),(cq l is xs).length=l.length
 |[],xs,l=>by cases xs<;>simp[cq]
 |i::is,[],l=>by simp[cq]
 |i::is,x::xs,l=>by simp only[cq];rw[LR is xs];simp
theorem abA{H H2:Hp}{i:Nat}{r r':bt}{H':Hp}(h:back [i] [] H r H'=some (r',H))(hi:i<H.bx.length)(hb:H2.bx[i]? =H.bx[i]?):back [i] [] H2 r H'=some (r',H2):=by
 unfold back at h⊢;generalize gM H'.bx [i].length=o1 at h⊢;generalize gM H'.tk ([]:List Nat).length=o2 at h⊢;cases o1 with
 |none=>cases h
 |some bx=>
  cases o2 with
  |none=>cases h
  |some tk=>
   dsimp only at h⊢;generalize r.ren (fun j=>[i][j]?) (fun t=>([]:List Nat)[t]?)=o3 at h⊢;generalize aP (D.ba (fun j=>[i][j]?) fun t=>([]:List Nat)[t]?) bx=o4 at h⊢;cases o3 with
   |none=>
    exfalso;cases o4<;>dsimp only at h<;>split at h<;>first
     |(cases h;done)
     |(simp only[bI,lB.injEq] at h
       have e1:=congrArg (fun x=>x.bx.length) h.2;simp only[iq,LR,dZ] at e1;omega)
   |some r1=>
    cases o4 with
    |none=>
     exfalso;dsimp only at h;split at h
     ·simp only[bI,lB.injEq] at h;have e1:=congrArg (fun x=>x.bx.length) h.2;simp only[iq,LR,dZ] at e1;omega
     ·cases h
    |some RH=>
     simp only[bI,lB.injEq] at h⊢;obtain⟨rfl,hH⟩:=h;refine⟨rfl,?_⟩;have e1:cq H.bx [i] RH=H.bx:=congrArg Hp.bx hH;have e3:cq H2.tk [] tk=H2.tk:=by simp[cq]
     rw[e3];cases RH with
     |nil=>simp[cq]
     |cons x l=>
      have q:∀(L:List (List D)),cq L [i] (x::l)=L.set i x:=fun L=>by cases l<;>simp[cq]
      rw[q] at e1;rw[q];have hx:H.bx[i]? =some x:=by
       rw[←e1,j9 hi]
      have qY:H2.bx[i]? =some x:=hb.trans hx;have ah:i<H2.bx.length:=(az.1 qY).1;have :H2.bx.set i x=H2.bx:=by
       refine oh fun k=>?_;by_cases hk:i=k
       ·subst hk;rw[j9 ah,qY]
       ·rw[dH hk]
      rw[this]
theorem abB{c:bC}{e:Env}{H H2:Hp}{k:SK}{d:D}{i:Nat}(he:cF c G e H k=some (.val d,H))(hc:jO e H k=some i)(hb:H2.bx[i]? =H.bx[i]?):cF c G e H2 k=some (.val d,H2):=by
 cases k<;>first |(simp[jO] at hc;done) |skip
 rename_i f as;simp only[cF,p9] at he⊢;simp only[jO] at hc;split at hc
 ·rename_i g first cap hg
  rw[hg] at he;dsimp only at he;split at hc
  ·rename_i j uJ cw;cases hc;rw[uJ] at cw;have ah:i<H.bx.length:=by
    have hm:i∈reach H H.bx.length (ins [] (D.aD (first++as.map (·.ev e)++cap))):=by rw[uJ];simp
    unfold av at he;dsimp only at he;rw[uJ] at he;split at he
    ·split at he
     ·rename_i h1 h2 h3;cases bX:H.bx[i]? with
      |none=>simp[aP,bX] at h2
      |some x=>exact(az.1 bX).1
     ·cases he
    ·cases he
   obtain⟨hl,abC⟩:=abz hb uJ (.inr trivial) H2.bx.length (fun h0=>by omega);have abD:D.bz (first++as.map (·.ev e)++cap)++fX H2 [i]=[]:=by
    have :fX H2 [i]=fX H [i]:=by simp only[fX,hb]
    rw[this];exact cw
   unfold av at he⊢;dsimp only at he⊢;rw[uJ,cw] at he;rw[abC,abD];have gj:(Vs.nodupB [i]&&Vs.nodupB (ins [] []))=true:=by simp[Vs.nodupB,ins]
   rw[if_pos gj] at he⊢;split at he
   ·rename_i x6 bx tk h1 h2 h3;have tj:aP (fun i_1=>match H2.bx[i_1]? with |some cs=>D.ba (idx [i]) (idx (ins [] [])) cs |none=>none) [i]=some bx:=by
     rw[←h2];simp only[aP,hb];rfl
    have uD:aP (fun t=>H2.tk[t]?) (ins [] [])=some tk:=by
     rw[←h3];rfl
    split at he
    ·rename_i r H' hco;split
     ·rename_i a2 b2 t2 g1 g2 g3;have q1:a2=x6:=oi (g1.symm.trans h1);have q2:b2=bx:=oi (g2.symm.trans tj);have q3:t2=tk:=oi (g3.symm.trans uD);subst q1;subst q2;subst q3;simp only[hco];exact abA he ah hb
     ·rename_i eU;exact(eU _ _ _ h1 tj uD).elim
    ·cases he
   ·cases he
  ·cases hc
 ·cases hc
section
variable {c : bC} {sl : List SO} {E : Nat → Env} {Hs : Nat → Hp} {d : Nat → D} {cs : Nat → Nat × Nat} {X : Nat → Bool}
theorem Trace.quiet(T:Trace c G sl E Hs d cs X){j:Nat}{so:SO}(hs:sl[j]? =some so)(h:bq (cs j).1=false):Hs (j+1)=Hs j:=by
 rcases T.step j so hs with⟨_,_,h1,_⟩ |⟨_,h1,h2⟩
 ·exact h1
 ·have:=LO (E j) so.k;rcases AQ (E j) (Hs j) (Hs (j+1)) so.k with⟨hc,hl,_⟩ |⟨_,m,hm,_,q⟩ |⟨hc,q⟩ |⟨q,_⟩ |⟨_,_,_,q⟩
  ·exact(G8 h1 (by omega) hl).1
  ·rw[h2,q] at h;rw[hm] at h;cases h
  rotate_left
  ·exact q
  ·rw[h2,q,uM] at h;cases h
  ·rw[q] at h2;rcases AP (Hs j).bx.length (E j) so.k with q |⟨_,_,_,_,_,_,q,_⟩ |⟨_,_,_,i,_,_,_,_,q⟩ |⟨_,_,_,_,_,_,_,_,q,_⟩ |⟨_,_,q⟩ |⟨_,_,_,_,_,_,_,_,_,_,q⟩ |⟨_,_,_,_,_,_,q⟩ |⟨_,_,_,q⟩
   ·rw[h2,q] at h;have aq:cls (E j) so.k≠2:=fun e=>by rw[e] at h;cases h
    exact LP h1 (by omega)
   ·exact LP h1 q
   ·rw[h2,q,uM] at h;cases h
   ·exact LP h1 q
   ·rw[h2,q,uM] at h;cases h
   ·rw[h2,q,uM] at h;cases h
   ·rw[h2,q,uM] at h;cases h
   ·rw[h2,q,uM] at h;cases h
theorem Trace.free(T:Trace c G sl E Hs d cs X){j:Nat}{so:SO}(hs:sl[j]? =some so)(hx:X j=false)(h:(cs j).1=0)(hg:fF (E j) so.g=some true)(H2:Hp):cF c G (E j) H2 so.k=some (.val (d j),H2):=by
 rcases T.step j so hs with⟨h0,_,_,_⟩ |⟨_,h1,h2⟩
 ·rcases h0 with h0 |h0
  ·rw[h0] at hx;cases hx
  ·rw[h0] at hg;cases hg
 ·rcases AQ (E j) (Hs j) (Hs (j+1)) so.k with⟨hc,hl,_⟩ |⟨_,m,hm,_,q⟩ |⟨hc,q⟩ |⟨_,q⟩ |⟨wE,dr,hlen,q⟩
  ·exact(G8 h1 (by omega) hl).2 hc H2
  ·rw[h2,q] at h;dsimp only at h;rw[h] at hm;cases hm
  rotate_left
  ·rcases q with q |⟨_,_,q⟩<;>rw[h2,q] at h<;>dsimp only at h<;>omega
  ·rw[h2,q] at h;dsimp only at h;omega
  ·rw[q] at h2;rcases AP (Hs j).bx.length (E j) so.k with q |⟨_,_,_,_,_,_,_,q⟩ |⟨_,_,_,_,_,_,_,_,q⟩ |⟨_,_,_,_,_,_,_,_,_,q⟩ |⟨_,_,q⟩ |⟨_,_,_,_,_,_,_,_,_,_,q⟩ |⟨_,_,_,_,_,_,q⟩ |⟨_,_,_,q⟩<;>rw[h2,q] at h<;>dsimp only at h<;>omega
theorem Trace.abG(T:Trace c G sl E Hs d cs X){j b:Nat}{so:SO}(hs:sl[j]? =some so)(hx:X j=false)(h:(cs j).1=3+2*b)(hg:fF (E j) so.g=some true){H2:Hp}(hb:H2.bx[b]? =(Hs j).bx[b]?):cF c G (E j) H2 so.k=some (.val (d j),H2):=by
 rcases T.step j so hs with⟨h0,_,_,_⟩ |⟨_,h1,h2⟩
 ·rcases h0 with h0 |h0
  ·rw[h0] at hx;cases hx
  ·rw[h0] at hg;cases hg
 ·have hle:=LO (E j) so.k;rcases AQ (E j) (Hs j) (Hs (j+1)) so.k with⟨_,_,q⟩ |⟨_,m,hm,_,q⟩ |⟨hc,q⟩ |q0 |⟨wE,dr,hlen,q⟩
  ·rw[h2,q] at h;dsimp only at h;omega
  ·rw[h2,q] at h;dsimp only at h;rw[h,abx] at hm;cases hm
  rotate_left
  ·obtain⟨hH,q⟩:=q0;rcases q with q |⟨i,hi,q⟩
   ·rw[h2,q] at h;dsimp only at h;omega
   ·have qo:i=b:=by rw[h2,q] at h;dsimp only at h;omega
    subst qo;rw[hH] at h1;exact abB h1 hi hb
  ·rw[h2,q] at h;dsimp only at h;omega
  ·rw[q] at h2;rcases AP (Hs j).bx.length (E j) so.k with q |⟨n,x,i,o,hk,hx,_,q⟩ |⟨_,_,_,_,_,_,_,_,q⟩ |⟨g,z,ok,m,kk,i,hk,hx,_,q⟩ |⟨_,_,q⟩ |⟨_,_,_,_,_,_,_,_,_,_,q⟩ |⟨_,_,_,_,_,_,q⟩ |⟨_,_,_,q⟩
   ·rw[h2,q] at h;dsimp only at h;omega
   ·have qo:i=b:=by rw[h2,q] at h;dsimp only at h;omega
    subst qo;rw[hk] at h1⊢;rw[kK rfl] at h1⊢;simp only[aN,hx,ph] at h1⊢;rw[hb];cases hc:(Hs j).bx[i]? with
    |none=>rw[hc] at h1;cases h1
    |some cells=>
     rw[hc] at h1;simp only at h1⊢;cases hd:(if aU cells=true then none else cutAt cells o n id ec) with
     |none=>rw[hd] at h1;cases h1
     |some d0=>
      rw[hd] at h1;simp only[eA,bI,lB.injEq,bt.val.injEq] at h1⊢;exact⟨h1.1,trivial⟩
   ·rw[h2,q] at h;dsimp only at h;omega
   ·have qo:i=b:=by rw[h2,q] at h;dsimp only at h;omega
    subst qo;rw[hk] at h1⊢;rw[kK rfl] at h1⊢;simp only[aN] at h1⊢;have hq:v8 g z ok (m.ev (E j)) (kk.ev (E j)) H2=v8 g z ok (m.ev (E j)) (kk.ev (E j)) (Hs j):=by
     rw[hx];unfold v8;split
     ·rfl
     ·rename_i h1 _;cases h1;rw[hb]
     ·rfl
    rw[hq];cases hd:v8 g z ok (m.ev (E j)) (kk.ev (E j)) (Hs j) with
    |none=>rw[hd] at h1;cases h1
    |some d0=>
     rw[hd] at h1;simp only[eA,bI,lB.injEq,bt.val.injEq] at h1⊢;exact⟨h1.1,trivial⟩
   ·rw[h2,q] at h;dsimp only at h;omega
   ·rw[h2,q] at h;dsimp only at h;omega
   ·rw[h2,q] at h;dsimp only at h;omega
   ·rw[h2,q] at h;dsimp only at h;omega
def uO(e:Env):SK→Option (Nat×Nat×PD×D)
 | .mapins kd m k v=>match m.ev e,k.ev e with
  | .bU i,.p q=>some (kd,i,q,v.ev e)
  |_,_=>none
 |_=>none
def mX(q:Nat×Nat×PD×D)(o:Option (List D)):Option (List D):=
 match o with
 |some [.bB lD ks vs]=>if dD q.2.2.1=q.1∧lD=q.1∧q.1≠1∧eO q.2.2.1 ks=none∧vs.length=ks.length then
     some [.bB q.1 (dI (iv (cX q.2.2.1) ks) q.2.2.1 ks) (dI (iv (cX q.2.2.1) ks) q.2.2.2 vs)] else o
 |o=>o
def fS(q:Nat×Nat×PD×D)(H:Hp):Hp:=
 match mX q (H.bx[q.2.1]?) with
 |some cs=>{H with bx:=H.bx.set q.2.1 cs}
 |none=>H
def qZ(q:Nat×Nat×PD×D)(o:Option (List D)):Prop:=∃ks vs,o=some [.bB q.1 ks vs]∧dD q.2.2.1=q.1∧q.1≠1∧eO q.2.2.1 ks=none∧vs.length=ks.length
theorem LS{q:Nat×Nat×PD×D}{o:Option (List D)}(h:mX q o=none):o=none:=by
 unfold mX at h;split at h
 ·split at h<;>cases h
 ·exact h
theorem uP{q:Nat×Nat×PD×D}{H:Hp}(b:Nat):(fS q H).bx[b]? =if q.2.1=b then mX q (H.bx[b]?) else H.bx[b]?:=by
 unfold fS;split
 ·rename_i cs ak;show(H.bx.set q.2.1 cs)[b]? =_;by_cases hb:q.2.1=b
  ·subst hb;rw[if_pos rfl,ak];have :q.2.1<H.bx.length:=by
    rcases iP q.2.1 H.bx.length with h |h
    ·exact h
    ·rw[lU h] at ak;cases ak
   rw[j9 this]
  ·rw[if_neg hb,dH hb]
 ·rename_i ak;split
  ·rename_i hb;subst hb;rw[LS ak,←LS ak,ak];exact(LS ak)
  ·rfl
theorem RJ{q:Nat×Nat×PD×D}{H:Hp}(h:qZ q (H.bx[q.2.1]?)):qK q.1 (.bU q.2.1) (.p q.2.2.1) q.2.2.2 H=some (.undef,fS q H):=by
 obtain⟨ks,vs,h1,h2,h3,h4,h5⟩:=h;have hb:mX q (H.bx[q.2.1]?)=some [.bB q.1 (dI (iv (cX q.2.2.1) ks) q.2.2.1 ks) (dI (iv (cX q.2.2.1) ks) q.2.2.2 vs)]:=by
  rw[h1];simp[mX,h2,h3,h4,h5]
 unfold fS;rw[hb];simp[qK,h1,h2,h3,h4,h5]
theorem Hf{e:Env}{H H':Hp}{k:SK}{d:D}{q:Nat×Nat×PD×D}(hq:uO e k=some q)(h:cF c G e H k=some (.val d,H')):qZ q (H.bx[q.2.1]?)∧d= .undef∧H'=fS q H∧∀H2,cF c G e H2 k=match qK q.1 (.bU q.2.1) (.p q.2.2.1) q.2.2.2 H2 with |some (d,H')=>some (.val d,H') |none=>none:=by
 cases k<;>first |(cases hq;done) |skip
 rename_i kd m kk v;simp only[uO] at hq;split at hq
 ·rename_i i x hm hk;cases hq;have cD:∀H2,cF c G e H2 (.mapins kd m kk v)=match qK kd (.bU i) (.p x) (v.ev e) H2 with |some (d,H')=>some (.val d,H') |none=>none:=fun H2=>by
   rw[kK rfl]
   (simp only[aN,hm,hk])<;>(cases qK kd (.bU i) (.p x) (v.ev e) H2<;>rfl)
  rw[cD] at h;have Dv:qZ (kd,i,x,v.ev e) (H.bx[i]?):=by
   cases ki:qK kd (.bU i) (.p x) (v.ev e) H with
   |none=>rw[ki] at h;cases h
   |some r=>
    unfold qK at ki;simp only at ki;split at ki
    ·rename_i lD ks vs bX;split at ki
     ·rename_i hc;obtain⟨h1,h2,h3,h4,h5⟩:=hc;subst h2;exact⟨ks,vs,bX,h1,h3,h4,h5⟩
     ·cases ki
    ·cases ki
  rw[RJ Dv] at h;cases h;exact⟨Dv,rfl,rfl,cD⟩
 ·cases hq
theorem Trace.ins(T:Trace c G sl E Hs d cs X){j:Nat}{so:SO}(hs:sl[j]? =some so)(h:(cs j).2≠0):∃q,uO (E j) so.k=some q∧cs j=(4+2*q.2.1,cX q.2.2.1+1)∧fF (E j) so.g=some true∧cF c G (E j) (Hs j) so.k=some (.val (d j),Hs (j+1)):=by
 rcases T.step j so hs with⟨_,_,_,h1⟩ |⟨hg,h1,h2⟩
 ·rw[h1] at h;exact absurd rfl h
 ·rcases AQ (E j) (Hs j) (Hs (j+1)) so.k with⟨_,_,q⟩ |⟨_,_,_,_,q⟩ |⟨hc,q⟩ |⟨_,q⟩ |⟨wE,dr,hlen,q⟩
  ·rw[h2,q] at h;exact absurd rfl h
  ·rw[h2,q] at h;exact absurd rfl h
  rotate_left
  ·rcases q with q |⟨_,_,q⟩<;>rw[h2,q] at h<;>exact absurd rfl h
  ·rw[h2,q] at h;exact absurd rfl h
  ·rw[q] at h2;rcases AP (Hs j).bx.length (E j) so.k with q |⟨_,_,_,_,_,_,_,q⟩ |⟨_,_,_,_,_,_,_,_,q⟩ |⟨_,_,_,_,_,_,_,_,_,q⟩ |⟨_,_,q⟩ |⟨kd,m,kk,v,i,x,hk,hm,hx,ah,q⟩ |⟨_,_,_,_,_,_,q⟩ |⟨_,_,_,q⟩
   ·rw[h2,q] at h;exact absurd rfl h
   ·rw[h2,q] at h;exact absurd rfl h
   ·rw[h2,q] at h;exact absurd rfl h
   ·rw[h2,q] at h;exact absurd rfl h
   ·rw[h2,q] at h;exact absurd rfl h
   ·refine⟨(kd,i,x,v.ev (E j)),?_,h2.trans q,hg,h1⟩;rw[hk];simp only[uO,hm,hx]
   ·rw[h2,q] at h;exact absurd rfl h
   ·rw[h2,q] at h;exact absurd rfl h
theorem Trace.abH(T:Trace c G sl E Hs d cs X){j:Nat}{so:SO}(hs:sl[j]? =some so)(h:(cs j).2≠0):∀q,uO (E j) so.k=some q→q.2.1<2000000000:=by
 rcases T.step j so hs with⟨_,_,_,h1⟩ |⟨hg,h1,h2⟩
 ·rw[h1] at h;exact absurd rfl h
 ·rcases AQ (E j) (Hs j) (Hs (j+1)) so.k with⟨_,_,q⟩ |⟨_,_,_,_,q⟩ |⟨hc,q⟩ |⟨_,q⟩ |⟨wE,dr,hlen,q⟩
  ·rw[h2,q] at h;exact absurd rfl h
  ·rw[h2,q] at h;exact absurd rfl h
  rotate_left
  ·rcases q with q |⟨_,_,q⟩<;>rw[h2,q] at h<;>exact absurd rfl h
  ·rw[h2,q] at h;exact absurd rfl h
  ·rw[q] at h2;rcases AP (Hs j).bx.length (E j) so.k with q |⟨_,_,_,_,_,_,_,q⟩ |⟨_,_,_,_,_,_,_,_,q⟩ |⟨_,_,_,_,_,_,_,_,_,q⟩ |⟨_,_,q⟩ |⟨kd,m,kk,v,i,x,hk,hm,hx,ah,q⟩ |⟨_,_,_,_,_,_,q⟩ |⟨_,_,_,q⟩
   ·rw[h2,q] at h;exact absurd rfl h
   ·rw[h2,q] at h;exact absurd rfl h
   ·rw[h2,q] at h;exact absurd rfl h
   ·rw[h2,q] at h;exact absurd rfl h
   ·rw[h2,q] at h;exact absurd rfl h
   ·intro q' jX;rw[hk] at jX;simp only[uO,hm,hx,bI] at jX;subst jX;exact ah
   ·rw[h2,q] at h;exact absurd rfl h
   ·rw[h2,q] at h;exact absurd rfl h
theorem abI{b i:Nat}(h:nD b i=true):i≠b:=by
 unfold nD at h;split at h
 ·exact fun e=>by simp[e] at h
 ·split at h
  ·rw[bQ] at h;have:=of_decide_eq_true h.2;omega
  ·rw[bQ] at h;have:=of_decide_eq_true h.2;omega
theorem RK:∀{l:List Nat} {b:Nat},we l≤b→b∉l
 |[],_,_=>by simp
 |i::l,b,h=>by
  simp only[we] at h;intro hm;rcases cN.1 hm with e |e
  ·omega
  ·exact RK (by omega) e
theorem RL{α:Type}:∀(is:List Nat) (l xs:List α) (b:Nat),b∉is→(cq l is xs)[b]? =l[b]?
 |[],l,xs,b,_=>by cases xs<;>rfl
 |i::is,l,[],b,_=>rfl
 |i::is,l,x::xs,b,h=>by
  simp only[cq];rw[RL is _ xs b fun hm=>h (jD _ hm),dH fun e=>h (by rw[e];exact pa)]
theorem RM{α:Type}:∀(is:List Nat) (l xs:List α),(cq l is xs).length=l.length
 |[],l,xs=>by cases xs<;>rfl
 |i::is,l,[]=>rfl
 |i::is,l,x::xs=>by
  simp only[cq];rw[RM is];simp
theorem abJ{c:bC}{e:Env}{H H':Hp}{k:SK}{d:D}(he:cF c G e H k=some (.val d,H'))(dr:rL k=true)(hl:H'.bx.length=H.bx.length){b:Nat}(hb:b∉xX e H k):H'.bx[b]? =H.bx[b]?:=by
 cases k<;>first |(cases dr;done) |skip
 rename_i f as;simp only[cF] at he;unfold p9 at he;split at he
 ·rename_i g first cap hg
  simp only[xX,hg] at hb;unfold av at he;dsimp only at he;split at he
  ·split at he
   ·split at he
    ·unfold back at he;split at he
     ·dsimp only at he;split at he
      ·cases he;exact RL _ _ _ _ hb
      ·split at he
       ·cases he;simp only[iq,RM,dZ] at hl;omega
       ·cases he
     ·cases he
    ·cases he
   ·cases he
  ·cases he
 ·cases he
theorem abK{e sz bytes:Nat}{s:D}{xs:List PD}{H H':Hp}{d:D}(h:fj e sz bytes s xs H=some (d,H')):H'.bx=H.bx:=by
 unfold fj at h;split at h
 ·split at h<;>cases h;rfl
 ·split at h<;>cases h;rfl
 ·split at h<;>cases h;rfl
 ·cases h
theorem Trace.apart(T:Trace c G sl E Hs d cs X){j b i:Nat}{so:SO}(hs:sl[j]? =some so)(h:(cs j).1=4+2*i)(rZ:nD b i=true):(Hs (j+1)).bx[b]? =(Hs j).bx[b]?:=by
 have aq:=abI rZ;by_cases hz:(cs j).2≠0
 ·obtain⟨q,h1,h2,h3,h4⟩:=T.ins hs hz;obtain⟨_,_,h5,_⟩:=Hf h1 h4;rw[h5,uP,if_neg];rw[h2] at h;dsimp only at h;omega
 rcases T.step j so hs with⟨_,_,h1,_⟩ |⟨_,h1,h2⟩
 ·rw[h1]
 ·have hle:=LO (E j) so.k;rcases AQ (E j) (Hs j) (Hs (j+1)) so.k with⟨_,_,q⟩ |⟨Dn,m,hm,kL,q⟩ |⟨hc,q⟩ |⟨_,q⟩ |⟨wE,dr,hlen,q⟩
  ·rw[h2,q] at h;dsimp only at h;omega
  ·rw[h2,q] at h;dsimp only at h;rcases kL with kL |⟨kL,hl⟩
   ·omega
   ·have hp:=Dn.elim (aby h1) id;by_cases hb:b<(Hs j).bx.length
    ·rw[←hp,o7 hb]
    ·rw[lU (by omega),lU (by omega)]
  rotate_left
  ·rcases q with q |⟨_,_,q⟩<;>rw[h2,q] at h<;>dsimp only at h<;>omega
  ·rw[h2,q] at h;dsimp only at h;have hi:i=2000000000+we (xX (E j) (Hs j) so.k):=by omega
   rw[hi] at rZ;unfold nD at rZ;rw[if_neg (by omega),if_pos (by omega),bQ] at rZ;exact abJ h1 dr hlen.1 (RK (by have:=of_decide_eq_true rZ.1;omega))
  ·rw[q] at h2;rcases AP (Hs j).bx.length (E j) so.k with q |⟨_,_,_,_,_,_,_,q⟩ |⟨n,a,v,i',o,hk,ha,_,q⟩ |⟨_,_,_,_,_,_,_,_,_,q⟩ |⟨hn,_,q⟩ |⟨_,_,_,_,_,_,_,_,_,_,q⟩ |⟨el,sz,Hd,s,x,hk,q⟩ |⟨i',cG,nG,q⟩
   ·rw[h2,q] at h;dsimp only at h;omega
   ·rw[h2,q] at h;dsimp only at h;omega
   ·have yy:i'=i:=by rw[h2,q] at h;dsimp only at h;omega
    subst yy;rw[hk,kK rfl] at h1;simp only[aN,ha] at h1;split at h1
    ·rename_i d0 H0 hd;cases h1;obtain⟨H1,cC,hh⟩:=au.1 hd;simp only[lB.injEq] at hh;rw[←hh.2];unfold uk at cC;simp only at cC;split at cC
     ·split at cC
      ·cases cC;show(((Hs j).bx.set _ _)[b]?)=_;rw[dH aq]
      ·cases cC
     ·cases cC
    ·cases h1
   ·rw[h2,q] at h;dsimp only at h;omega
   ·have yy:(Hs j).bx.length=i:=by rw[h2,q] at h;dsimp only at h;omega
    have wE:so.k.lI=false:=by cases hk:so.k<;>rw[hk] at hn<;>first |rfl |cases hn
    rw[kK wE] at h1;split at h1
    ·rename_i d0 H0 hd;cases h1;rcases abu hn hd with⟨x,hx⟩ |hx
     ·rw[hx];by_cases hb:b<(Hs j).bx.length
      ·rw[cH hb]
      ·rw[lU (by simp;omega),lU (by omega)]
     ·rw[hx]
    ·cases h1
   ·rw[h2,q] at hz;exact absurd (fun e=>by cases e) hz
   ·rw[hk,kK rfl] at h1;split at h1
    ·rename_i d0 H0 hd;cases h1;simp only[aN] at hd;split at hd
     ·rw[abK hd]
     ·cases hd
    ·cases h1
   ·have hq:4000000000+i'*1000000+(Hs j).bx.length=i:=by rw[h2,q] at h;dsimp only at h;omega
    have wE:so.k.lI=false:=by cases hk:so.k<;>rw[hk] at cG<;>first |rfl |cases cG
    rw[kK wE] at h1;split at h1
    ·rename_i d0 H0 hd;cases h1;unfold nD at rZ;rw[if_neg (by omega),if_neg (by omega),bQ] at rZ;have ai:=of_decide_eq_true rZ.1;have aC:=of_decide_eq_true rZ.2;exact abv cG hd (by omega) (by omega)
    ·cases h1
theorem Trace.fw(T:Trace c G sl E Hs d cs X){j:Nat}{so:SO}(hs:sl[j]? =some so)(h:so.k.fw=true):cs j=(0,0):=by
 rcases T.step j so hs with⟨_,_,_,h1⟩ |⟨_,h1,h2⟩
 ·exact h1
 ·have hc:=abw (e:=E j) h;have hk:so.k.lI=false:=by cases hk:so.k<;>rw[hk] at h<;>first |rfl |cases h
  rw[kK hk,G7 h] at h1;split at h1
  ·rename_i hd;cases h1;obtain⟨x,hx,hh⟩:=au.1 hd;simp only[lB.injEq] at hh;rw[h2];unfold jP;rw[if_pos hc,←hh.2,if_pos rfl]
  ·cases h1
def bM{α:Type}(g0:α)(wr:Nat→Bool)(f:Nat→α→α)(l:Nat→Bool):Nat→α
 | 0=>g0
 |m+1=>if l m=true∧wr m=true then f m (bM g0 wr f l m) else bM g0 wr f l m
theorem r7{α:Type}{g0:α}{wr:Nat→Bool}{f:Nat→α→α}{l l':Nat→Bool}:∀(n:Nat),(∀j,j<n→wr j=true→l j=l' j)→bM g0 wr f l n=bM g0 wr f l' n
 | 0,_=>rfl
 |n+1,h=>by
  simp only[bM];rw[r7 n fun j hj hw=>h j (by omega) hw];by_cases hw:wr n=true
  ·rw[h n (by omega) hw]
  ·simp[hw]
theorem Dw{α:Type}{g0:α}{wr:Nat→Bool}{f:Nat→α→α}{i:Nat}:∀(n:Nat),i≤n→bM g0 wr f (fun j=>decide (j<i)) n=bM g0 wr f (fun _=>true) i
 | 0,h=>by
  have :i=0:=by omega
  subst this;rfl
 |n+1,h=>by
  by_cases hi:i=n+1
  ·subst hi;exact r7 (n+1) fun j hj _=>by simp[hj]
  ·simp only[bM];rw[if_neg (by simp;omega),Dw n (by omega)]
theorem LU{α:Type}{g0:α}{wr:Nat→Bool}{f:Nat→α→α}{l:Nat→Bool}{i:Nat}{x:α}(hl:l i=true)(hw:wr i=true)(hf:∀h,f i h=x):∀(n:Nat),i<n→(∀j,i<j→j<n→wr j=true→l j=false)→bM g0 wr f l n=x
 | 0,h,_=>by omega
 |n+1,h,q=>by
  simp only[bM];by_cases hi:i=n
  ·subst hi;rw[if_pos ⟨hl,hw⟩];exact hf _
  ·rw[if_neg (fun x=>by have:=q n (by omega) (by omega) x.2;rw[this] at x;exact absurd x.1 (by simp)),LU hl hw hf n (by omega) fun j h1 h2 h3=>q j h1 (by omega) h3]
def cU(sl:List SO)(E:Nat→Env)(Hs:Nat→Hp)(cs:Nat→Nat×Nat)(j:Nat)(h:Hp):Hp:=
 if(cs j).2=0 then Hs (j+1) else match(sl[j]?).bind fun so=>uO (E j) so.k with
  |some q=>fS q h
  |none=>Hs (j+1)
theorem Hg{j:Nat}{h:Hp}(hz:(cs j).2=0):cU sl E Hs cs j h=Hs (j+1):=by simp[cU,hz]
theorem Hi{j:Nat}{so:SO}{q:Nat×Nat×PD×D}{h:Hp}(hs:sl[j]? =some so)(hz:(cs j).2≠0)(hq:uO (E j) so.k=some q):cU sl E Hs cs j h=fS q h:=by simp[cU,hz,hs,hq]
theorem Trace.eff(T:Trace c G sl E Hs d cs X){j:Nat}{so:SO}(hs:sl[j]? =some so):cU sl E Hs cs j (Hs j)=Hs (j+1):=by
 by_cases hz:(cs j).2=0
 ·exact Hg hz
 ·obtain⟨q,h1,h2,h3,h4⟩:=T.ins hs hz;rw[Hi hs hz h1];exact(Hf h1 h4).2.2.1.symm
def mi(sl:List SO)(t:Nat)(j:Nat):Bool:=((sl[j]?).bind (·.dst))==some t
theorem Trace.get(T:Trace c G sl E Hs d cs X)(t:Nat):∀j,j≤sl.length→(E j).get t=jV ((E 0).get t) (mi sl t) d (fun _=>true) j
 | 0,_=>rfl
 |j+1,h=>by
  have hs:sl[j]? =some sl[j]:=aA (by omega);simp only[jV];rw[T.env j _ hs,←T.get t j (by omega)];simp only[mi,hs,PB,true_and,beq_iff_eq];cases hd:(sl[j]).dst with
  |none=>simp[put]
  |some u=>simp only[put,Env.get,bI]
theorem Trace.heap(T:Trace c G sl E Hs d cs X):∀j,j≤sl.length→Hs j=bM (Hs 0) (fun j=>bq (cs j).1) (cU sl E Hs cs) (fun _=>true) j
 | 0,_=>rfl
 |j+1,h=>by
  have hs:sl[j]? =some sl[j]:=aA (by omega);simp only[bM,true_and];rw[←T.heap j (by omega)];split
  ·exact(T.eff hs).symm
  ·rename_i hc;rw[T.quiet hs (by simpa using hc)]
end
end Go.Vs
namespace Go.Vs
variable {P : Program} {W : World} {G : Nat → Option (List PD)}
def aT(L:Array Bool)(i:Nat):Bool:=L.getD i false
theorem Dx{L:Array Bool}{i:Nat}(hi:i<L.size)(j:Nat):aT (L.setIfInBounds i true) j=if i=j then true else aT L j:=by
 simp only[aT,bN,Ka];split
 ·rename_i h;subst h;simp
 ·rfl
theorem mem_ready{ops:Array Oper}{L:Array Bool}(hL:L.size=ops.size){i:Nat}(h:i∈Region.ready .any ops L):∃o,ops[i]? =some o∧i<ops.size∧aT L i=false∧∀p∈lM o,aT L p=true:=by
 simp only[Region.ready,rH,YF,bQ,ud] at h;obtain⟨hi,h1,h2⟩:=h;have ho:ops[i]? =some ops[i]:=pY hi;rw[ho] at h2;simp only[eA,kU] at h2;refine⟨_,ho,hi,?_,fun p hp=>?_⟩
 ·have LV:i<L.size:=by omega
  simp only[aT,bN,pY LV,kU] at h1⊢;exact h1
 ·simp only[lM,dz,rH,Array.mem_toList_iff] at hp;obtain⟨e,⟨he,hb⟩,rfl⟩:=hp;have:=(amE.1 h2) e he;simpa[hb,aT] using this
theorem abM{ops:Array Oper}{L:Array Bool}(hL:L.size=ops.size){i:Nat}{o:Oper}(ho:ops[i]? =some o)(hl:aT L i=false)(hp:∀p∈lM o,aT L p=true):i∈Region.ready .any ops L:=by
 have hi:i<ops.size:=(gz.1 ho).1;simp only[Region.ready,rH,YF,bQ,ud];refine⟨hi,?_,?_⟩
 ·have LV:i<L.size:=by omega
  simp only[aT,bN,pY LV,kU] at hl⊢;exact hl
 ·rw[ho];simp only[eA,kU];refine amE.2 fun e he=>?_;by_cases hb:Region.binds .any e=true
  ·have:=hp e.on (dz.2 ⟨e,rH.2 ⟨by simpa using he,hb⟩,rfl⟩);simpa[hb,aT] using this
  ·simp[hb]
def left(l:Nat→Bool):Nat→Nat
 | 0=>0
 |n+1=>left l n+if l n then 0 else 1
theorem LW{l:Nat→Bool}:∀{n:Nat},left l n=0→∀j,j<n→l j=true
 |n+1,h,j,hj=>by
  simp only[left] at h;by_cases wF:j=n
  ·subst wF;cases hl:l j<;>simp_all
  ·exact LW (n:=n) (by omega) j (by omega)
theorem LX{l l':Nat→Bool}{i:Nat}(hi:l i=false)(hs:∀j,l' j=if i=j then true else l j):∀{n:Nat},(i<n→left l' n+1=left l n)∧(n≤i→left l' n=left l n)
 | 0=>⟨fun h=>by omega,fun _=>rfl⟩
 |n+1=>by
  obtain⟨h1,h2⟩:=LX hi hs (n:=n);simp only[left,hs n];refine⟨fun h=>?_,fun h=>?_⟩
  ·by_cases hn:i=n
   ·subst hn;rw[h2 (by omega)];simp[hi]
   ·rw[if_neg hn,←h1 (by omega)];omega
  ·have aq:¬i=n:=by omega
   rw[if_neg aq,h2 (by omega)]
theorem Hj{l:Nat→Bool}:∀(n:Nat),(∃j,j<n∧l j=false)→∃j,j<n∧l j=false∧∀k,k<j→l k=true
 | 0,⟨j,h,_⟩=>by omega
 |n+1,⟨j,h,hj⟩=>by
  by_cases q:∃j,j<n∧l j=false
  ·obtain⟨k,h1,h2,h3⟩:=Hj n q;exact⟨k,by omega,h2,h3⟩
  ·refine⟨j,h,hj,fun k hk=>?_⟩;cases hl:l k with
   |true=>rfl
   |false=>exact absurd ⟨k,by omega,hl⟩ q
theorem RN(i:Nat):bq (3+2*i)=false:=by
 simp only[bq,Aj,FW,decide_eq_false_iff_not,beq_eq_false_iff_ne];omega
def qp(b c:Nat):Bool:=bq c&&(c==2|| !nD b ((c-4)/2))
theorem LY{b c:Nat}(h:qp b c=true):bq c=true:=(CR.1 h).1
theorem abN{b c:Nat}(h:qp b c=false):bq c=false∨∃i,c=4+2*i∧nD b i=true:=by
 cases hw:bq c with
 |false=>exact .inl rfl
 |true=>
  right;simp only[qp,hw,YG,Aj,beq_eq_false_iff_ne,PF] at h;simp only[bq,o0,beq_iff_eq,bQ,decide_eq_true_eq] at hw;exact⟨(c-4)/2,by omega,h.2⟩
theorem LZ{b i:Nat}(hi:i<2000000000):qp b (4+2*i)=(b==i):=by
 have hw:bq (4+2*i)=true:=uM i;have h2:(4+2*i==2)=false:=by simp;omega
 have h3:(4+2*i-4)/2=i:=by omega
 simp only[qp,hw,h2,h3,nD,if_pos hi,YG,Pt];cases h:b==i<;>simp[bne,h]
theorem abO(a b:Nat×Nat):pj a b=pj b a:=by
 rw[Bool.eq_iff_iff];simp only[pj,bQ,bne_iff_ne,beq_iff_eq];constructor<;>rintro⟨⟨⟨h1,h2⟩,h3⟩,h4⟩<;>exact⟨⟨⟨h2,h1⟩,h3.symm⟩,fun e=>h4 e.symm⟩
theorem abP(a b:Nat×Nat):eP a b=eP b a:=by
 simp only[eP];rw[Bool.and_comm (a.1 !=0),amF (bq a.1),amF (kC a.1 b.1),abO a b]
theorem abQ{a b:Nat×Nat}(h:eP a b=true):a.1≠0∧b.1≠0:=by
 simp only[eP,bQ,bne_iff_ne] at h;exact h.1.1.1
theorem Dy{a b:Nat}(h:kC a b=true):(∃i,a=3+2*i)∧bq a=false∧bq b=true:=by
 simp only[kC,bQ,decide_eq_true_eq,beq_iff_eq] at h;refine⟨⟨(a-3)/2,by omega⟩,?_,?_⟩
 ·simp only[bq,Aj,FW,decide_eq_false_iff_not,beq_eq_false_iff_ne];omega
 ·simp only[bq,o0,bQ,decide_eq_true_eq,beq_iff_eq];omega
theorem Hm{b:Nat}(h:bq b=true):b≠0:=fun e=>by subst e;cases h
theorem L5{a b:Nat×Nat}(h:a.2=0∨b.2=0∨a.1≠b.1∨a.2=b.2):pj a b=false:=by
 cases q:pj a b with
 |false=>rfl
 |true=>
  simp only[pj,bQ,bne_iff_ne,beq_iff_eq] at q;obtain⟨⟨⟨h1,h2⟩,h3⟩,h4⟩:=q;rcases h with h |h |h |h
  ·exact absurd h h1
  ·exact absurd h h2
  ·exact absurd h3 h
  ·exact absurd h h4
theorem RP{a b:Nat×Nat}(h0:a.1≠0)(hn:∀i,a.1≠3+2*i)(h2:a.2=0)(h:bq b.1=true):eP a b=true:=by
 simp only[eP,bQ,bne_iff_ne,o0,ud,Aj];refine⟨⟨⟨⟨h0,Hm h⟩,.inr h⟩,?_,?_⟩,L5 (.inl h2)⟩
 ·cases q:kC a.1 b.1 with
  |false=>rfl
  |true=>obtain⟨⟨i,hi⟩,_⟩:=Dy q;exact absurd hi (hn i)
 ·cases q:kC b.1 a.1 with
  |false=>rfl
  |true=>obtain⟨_,h1,_⟩:=Dy q;rw[h] at h1;cases h1
theorem Dz{a b:Nat×Nat}(ha:bq a.1=true)(hb:bq b.1=true)(h2:a.2=0∨b.2=0∨a.1≠b.1∨a.2=b.2):eP a b=true:=by
 simp only[eP,bQ,bne_iff_ne,o0,ud,Aj];refine⟨⟨⟨⟨Hm ha,Hm hb⟩,.inr hb⟩,?_,?_⟩,L5 h2⟩
 ·cases q:kC a.1 b.1 with
  |false=>rfl
  |true=>obtain⟨_,h1,_⟩:=Dy q;rw[ha] at h1;cases h1
 ·cases q:kC b.1 a.1 with
  |false=>rfl
  |true=>obtain⟨_,h1,_⟩:=Dy q;rw[hb] at h1;cases h1
theorem abR{b:Nat}{a c:Nat×Nat}(ha:a.1=3+2*b)(h:qp b c.1=true):eP a c=true:=by
 have hw:=LY h;have h0:=h;simp only[qp,bQ,o0,beq_iff_eq,ud] at h;simp only[eP,bQ,bne_iff_ne,o0,ud,Aj];refine⟨⟨⟨⟨by omega,Hm hw⟩,.inr hw⟩,?_,?_⟩,L5 (.inr (.inr (.inl (fun e=>by rw[←e,ha,RN] at hw;cases hw))))⟩
 ·cases q:kC a.1 c.1 with
  |false=>rfl
  |true=>
   simp only[kC,bQ,decide_eq_true_eq,beq_iff_eq] at q;rw[ha,show(3+2*b-3)/2=b by omega] at q;rcases h.2 with h2 |h2
   ·omega
   ·rw[h2] at q;exact absurd q.2 (by simp)
 ·cases q:kC c.1 a.1 with
  |false=>rfl
  |true=>obtain⟨_,h1,_⟩:=Dy q;rw[hw] at h1;cases h1
theorem abS{a b:PD}(h:fO a b=true):cX a=cX b:=by
 unfold fO at h;split at h
 ·rw[eq_of_beq h]
 ·simp only[beq_iff_eq] at h;subst h;rfl
 ·rw[eq_of_beq h]
 ·simp only[bQ,beq_iff_eq] at h;obtain⟨⟨rfl,rfl⟩,rfl⟩:=h;rfl
 ·cases h
theorem RQ{k x:PD}:∀(p:Nat) (l:List PD),p≤l.length→(eO k (dI p x l)=none↔eO k l=none∧fO k x=false)
 | 0,l,_=>by
  simp only[dI,eO];cases fO k x<;>simp
 |p+1,[],h=>by simp at h
 |p+1,a::l,h=>by
  have:=RQ (k:=k) (x:=x) p l (by simpa using h);simp only[dI,eO];cases fO k a with
  |true=>simp
  |false=>simpa using this
theorem L6{α:Type}{k1 k2:PD}(aq:cX k1≠cX k2)(y1 y2:α):∀(ks:List PD) (zs:List α),zs.length=ks.length→
    dI (iv (cX k1) (dI (iv (cX k2) ks) k2 ks)) y1 (dI (iv (cX k2) ks) y2 zs)=dI (iv (cX k2) (dI (iv (cX k1) ks) k1 ks)) y2 (dI (iv (cX k1) ks) y1 zs)
 |[],[],_=>by
  by_cases h:cX k1<cX k2
  ·have h':¬cX k2<cX k1:=by omega
   simp[iv,dI,h,h']
  ·have h':cX k2<cX k1:=by omega
   simp[iv,dI,h,h']
 |a::ks,z::zs,hl=>by
  have ih:=L6 aq y1 y2 ks zs (by simpa using hl);by_cases h1:cX k1<cX a
  ·by_cases h2:cX k2<cX a
   ·by_cases h:cX k1<cX k2
    ·have h':¬cX k2<cX k1:=by omega
     simp[iv,dI,h,h',h1,h2]
    ·have h':cX k2<cX k1:=by omega
     simp[iv,dI,h,h',h1,h2]
   ·have h':¬cX k2<cX k1:=by omega
    simp[iv,dI,h',h1,h2]
  ·by_cases h2:cX k2<cX a
   ·have h':¬cX k1<cX k2:=by omega
    simp[iv,dI,h',h1,h2]
   ·simp[iv,dI,h1,h2,ih]
 |[],_::_,h=>by simp at h
 |_::_,[],h=>by simp at h
section
variable {q1 q2 : Nat × Nat × PD × D} (aq : cX q1.2.2.1 ≠ cX q2.2.2.1)
include aq
theorem DA{ks:List PD}{vs:List D}:(eO q1.2.2.1 (dI (iv (cX q2.2.2.1) ks) q2.2.2.1 ks)=none∧(dI (iv (cX q2.2.2.1) ks) q2.2.2.2 vs).length=(dI (iv (cX q2.2.2.1) ks) q2.2.2.1 ks).length)↔(eO q1.2.2.1 ks=none∧vs.length=ks.length):=by
 have hk:fO q1.2.2.1 q2.2.2.1=false:=by
  cases h:fO q1.2.2.1 q2.2.2.1 with
  |false=>rfl
  |true=>exact absurd (abS h) aq
 rw[RQ _ _ (Li _ _),qi,qi,hk];simp
theorem RR{o:Option (List D)}:qZ q1 (mX q2 o)↔qZ q1 o:=by
 have key:∀{kd:Nat} {ks:List PD} {vs:List D},qZ q1 (some [.bB kd ks vs])↔kd=q1.1∧dD q1.2.2.1=q1.1∧q1.1≠1∧eO q1.2.2.1 ks=none∧vs.length=ks.length:=by
  intro kd ks vs;constructor
  ·rintro⟨oG,cv,h,h1,h2,h3,h4⟩;simp only[bI,FV,D.bB.injEq,and_true] at h;obtain⟨rfl,rfl,rfl⟩:=h;exact⟨rfl,h1,h2,h3,h4⟩
  ·rintro⟨rfl,h1,h2,h3,h4⟩;exact⟨ks,vs,rfl,h1,h2,h3,h4⟩
 unfold mX;split
 ·rename_i kd ks vs;split
  ·rename_i hc;obtain⟨c1,c2,c3,c4,c5⟩:=hc;rw[key,key,DA aq,c2]
  ·rfl
 ·rfl
theorem abT(o:Option (List D)):mX q1 (mX q2 o)=mX q2 (mX q1 o):=by
 have RS:cX q2.2.2.1≠cX q1.2.2.1:=fun e=>aq e.symm;have tB:∀(q:Nat×Nat×PD×D) kd ks vs,mX q (some [.bB kd ks vs])=if dD q.2.2.1=q.1∧kd=q.1∧q.1≠1∧eO q.2.2.1 ks=none∧vs.length=ks.length then
     some [.bB q.1 (dI (iv (cX q.2.2.1) ks) q.2.2.1 ks) (dI (iv (cX q.2.2.1) ks) q.2.2.2 vs)] else some [.bB kd ks vs]:=fun q kd ks vs=>rfl
 by_cases tr:∃kd ks vs,o=some [.bB kd ks vs]
 ·obtain⟨kd,ks,vs,rfl⟩:=tr;rw[tB q1,tB q2];by_cases h1:dD q1.2.2.1=q1.1∧kd=q1.1∧q1.1≠1∧eO q1.2.2.1 ks=none∧vs.length=ks.length
  ·by_cases h2:dD q2.2.2.1=q2.1∧kd=q2.1∧q2.1≠1∧eO q2.2.2.1 ks=none∧vs.length=ks.length
   ·rw[if_pos h1,if_pos h2,tB,tB];obtain⟨a1,a2,a3,a4,a5⟩:=h1;obtain⟨b1,b2,b3,b4,b5⟩:=h2;have e:q1.1=q2.1:=a2.symm.trans b2;rw[if_pos ⟨a1,e.symm,a3,(DA aq).2 ⟨a4,a5⟩⟩,if_pos ⟨b1,e,b3,(DA RS).2 ⟨b4,b5⟩⟩];rw[L6 aq q1.2.2.1 q2.2.2.1 ks ks rfl,L6 aq q1.2.2.2 q2.2.2.2 ks vs a5,e]
   ·rw[if_pos h1,if_neg h2,tB,tB,if_pos h1,if_neg];rintro⟨b1,b2,b3,b4⟩;exact h2 ⟨b1,h1.2.1.trans b2,b3,(DA RS).1 b4⟩
  ·by_cases h2:dD q2.2.2.1=q2.1∧kd=q2.1∧q2.1≠1∧eO q2.2.2.1 ks=none∧vs.length=ks.length
   ·rw[if_neg h1,if_pos h2,tB,tB,if_pos h2,if_neg];rintro⟨b1,b2,b3,b4⟩;exact h1 ⟨b1,h2.2.1.trans b2,b3,(DA aq).1 b4⟩
   ·rw[if_neg h1,if_neg h2,tB,tB,if_neg h1,if_neg h2]
 ·have no:∀q,mX q o=o:=fun q=>by
   unfold mX;split
   ·exact absurd ⟨_,_,_,rfl⟩ tr
   ·rfl
  rw[no,no,no]
theorem abU(hb:q1.2.1=q2.2.1)(h:Hp):fS q1 (fS q2 h)=fS q2 (fS q1 h):=by
 have tk:∀q (h:Hp),(fS q h).tk=h.tk:=fun q h=>by unfold fS;split<;>rfl
 have e1:(fS q1 (fS q2 h)).bx=(fS q2 (fS q1 h)).bx:=by
  refine oh fun b=>?_;rw[uP,uP,uP,uP];by_cases hq:q1.2.1=b
  ·have mj:q2.2.1=b:=hb▸hq;rw[if_pos hq,if_pos mj,if_pos mj,if_pos hq];exact abT aq _
  ·have mj:¬q2.2.1=b:=hb▸hq;rw[if_neg hq,if_neg mj,if_neg mj,if_neg hq]
 have e2:(fS q1 (fS q2 h)).tk=(fS q2 (fS q1 h)).tk:=by rw[tk,tk,tk,tk]
 cases ha:fS q1 (fS q2 h);cases hc:fS q2 (fS q1 h);rw[ha,hc] at e1 e2;simp only at e1 e2;rw[e1,e2]
end
theorem RT{α:Type}{g0:α}{wr:Nat→Bool}{f:Nat→α→α}{l:Nat→Bool}{m:Nat}(h:l m=true∧wr m=true):bM g0 wr f l (m+1)=f m (bM g0 wr f l m):=if_pos h
theorem RU{α:Type}{g0:α}{wr:Nat→Bool}{f:Nat→α→α}{l:Nat→Bool}{m:Nat}(h:¬(l m=true∧wr m=true)):bM g0 wr f l (m+1)=bM g0 wr f l m:=if_neg h
theorem RV:∀{cs:List (Nat×Nat)},qL cs=true→∀(i j:Nat),i≠j→(cs.getD i (0,0)).2≠0→cs.getD i (0,0)≠cs.getD j (0,0)
 |[],_,i,j,_,h=>by simp at h
 |c::r,hk,i,j,cQ,h=>by
  simp only[qL,bQ,o0,beq_iff_eq,ud] at hk;have mem:∀m,(r.getD m (0,0)).2≠0→r.getD m (0,0)∈r:=fun m hm=>by
   simp only[fE] at hm⊢;cases hr:r[m]? with
   |none=>rw[hr] at hm;simp at hm
   |some x=>simpa using bS hr
  match i,j with
  | 0,0=>exact absurd rfl cQ
  | 0,j+1=>
   simp only[YH,PG] at h⊢;intro e;rcases hk.1 with q |q
   ·exact h q
   ·have:=mem j (by rw[←e];exact h);rw[←e] at this;simp[this] at q
  |i+1,0=>
   simp only[YH,PG] at h⊢;intro e;rcases hk.1 with q |q
   ·rw[e] at h;exact h q
   ·have:=mem i h;rw[e] at this;simp[this] at q
  |i+1,j+1=>
   simp only[PG] at h⊢;exact RV hk.2 i j (by omega) h
theorem abV(ops:List SO)(e:Env)(t:Nat):(xY ops e).get t=if(ops.any fun o=>o.dst==some t)=true then .dead else e.get t:=by
 induction e with
 |nil=>simp[xY,Env.get]
 |cons y e ih=>
  obtain⟨s,x⟩:=y;simp only[xY,xK] at ih⊢;by_cases hs:s=t
  ·subst hs;by_cases h:(ops.any fun o=>o.dst==some s)=true
   ·rw[if_pos h] at ih⊢;simpa[h] using ih
   ·rw[if_neg h];simp[h,Env.get]
  ·split
   ·simp only[Env.get,if_neg hs];exact ih
   ·rw[ih];simp only[Env.get,if_neg hs]
theorem RW{α:Type}{g0:α}{wr:Nat→Bool}{d:Nat→α}{l:Nat→Bool}:∀{n:Nat},(∀j,j<n→wr j=true→False)→jV g0 wr d l n=g0
 | 0,_=>rfl
 |n+1,h=>by
  simp only[jV];rw[if_neg fun hw=>h n (by omega) hw.2,RW fun j hj=>h j (by omega)]
structure DB (W:World) (G:Nat→Option (List PD)) (sl:List SO) (n:Nat) (R:Nat→Nat→Bool) (mk X:Nat→Bool) (E0:Env) (d:Nat→D) (fh:(Nat→Bool)→Hp) (γ:Gh) (H0:Hp) (w:World) (M L:Array Bool) (γ1:Gh) (a1:Act) (w1:World) (B:Nat→Bool):Prop where
 hL:L.size=n
 dr:∀i,i<n→aT L i=true→∀j,j<i→R i j=true→aT L j=true
 uQ:∀i,i<n→X i=true→aT L i=false
 hle:γ.le γ1
 hF:Frame γ H0 w γ1 (fh (aT L)) w1
 hI:bD W G γ1 (fh (aT L)) w1
 hM:∀j,aT M j=(aT L j||B j)
 hB:∃bP:Nat→Nat,(∀b b',B b=true→B b'=true→bP b=bP b'→b=b')∧∀b,B b=true→mk b=true∧aT L b=false∧b<n∧∃y ty zs,sl[b]? =some y∧y.dst=some ty∧y.k= .alloc zs∧a1.tmps.getD ty undef= .pointer (some ⟨bP b,0,none⟩)∧pA γ1 (fh (aT L)) w.heap.size zs (bP b) w1
 hE:∀t,(∀b y,B b=true→sl[b]? =some y→y.dst≠some t)→aL γ1 (a1.tmps.getD t undef) (jV (E0.get t) (mi sl t) d (aT L) n)
theorem RX{c:bC}(S:Sound P W G c){ops:Array Oper}{sl:List SO}{nt:Nat}(hlen:ops.size=sl.length)(ld:∀(i:Nat) o so,ops[i]? =some o→sl[i]? =some so→qm P ops nt o so)
    (ah:∀(j:Nat) o' t,ops[j]? =some o'→o'.dst=some t→t<nt) {ax:List (Nat×Nat)} (bV:AO ax ops.toList sl=true) {E:Nat→Env} {Hs:Nat→Hp} {d:Nat→D} {cs:List (Nat×Nat)} {X:Nat→Bool}
    (T:Trace c G sl E Hs d (fun j=>cs.getD j (0,0)) X)
    (ra:um ax cs=true) (iX:∀a0,jW ax a0=true→∀i,X i=false) {γ:Gh} {a:Act} {w:World} (I:bD W G γ (Hs 0) w) (En:bh γ (E 0) a.tmps) (hn:a.tmps.size=nt) {Q:Exit→Act→World→Prop}
    (hX:∀(i:Nat) so,sl[i]? =some so→X i=true→
     (∃j fB,j<i∧X j=true∧sl[j]? =some fB∧lL fB so=true)∨
     (∃j fB,j<i∧X j=true∧sl[j]? =some fB∧fB.k.fw=false∧so.k.fw=false∧(j,i)∉ax)∨
     (so.k.fw=false∧(∀j,j<sl.length→j≠i→bq (cs.getD j (0,0)).1=true→j<i∧(j,i)∉ax)∧fF (E i) so.g=some true∧∃dv H1,cF c G (E i) (Hs i) so.k=some (.bR dv,H1)∧
      ∀γ' v a' w',γ.le γ'→Frame γ (Hs 0) w γ' H1 w'→bD W G γ' H1 w'→aL γ' v dv→bh γ' (xY sl (E 0)) a'.tmps→a'.tmps.size=nt→a'.defers=a.defers→Q (.panic [{v,recovered:=false}]) a' w'))
    (hQ:(∀i,i<ops.size→X i=false)→∀γ' a' w',γ.le γ'→Frame γ (Hs 0) w γ' (Hs sl.length) w'→bD W G γ' (Hs sl.length) w'→bh γ' (E sl.length) a'.tmps→a'.tmps.size=nt→a'.defers=a.defers→Q .normal a' w'):
    wpAny P .any ops Q ops.size (nA ops.size false) a w:=by
 obtain⟨R0,jI,DC⟩:=abq bV;obtain⟨R,yz⟩:∃R:Nat→Nat→Bool,∀i j,R i j=(R0 i j||(jW ax i&&rY sl j)):=⟨_,fun _ _=>rfl⟩;have RY:∀(i j:Nat),jW ax i=true→j<i→j<sl.length→R0 i j=false:=fun i j hm hj nL=>by
  obtain⟨x,o,e,zx,tx,e1,e2,e3,e4,e5,e6,e7,e8⟩:=(DC i hm).al;rcases(jI i o x e2 e1).2 j _ hj (aA nL) with⟨_,p,hp,_⟩ |⟨h,_⟩
  ·rw[e8] at hp;simp at hp
  ·exact h
 have hR:∀(i:Nat) o b,ops.toList[i]? =some o→sl[i]? =some b→(∀p∈lM o,p<i)∧∀(j:Nat) a,j<i→sl[j]? =some a→
     (R i j=true∧((jW ax i=true∧lL a b=false)∨(R0 i j=true∧∃p∈lM o,p=j∨(j<p∧R0 p j=true))))∨(R i j=false∧lL a b=false∧(a.k.fw=true∨b.k.fw=true∨(j,i)∈ax)):=fun i o b ho hb=>by
  obtain⟨h1,h2⟩:=jI i o b ho hb;refine⟨h1,fun j a hj ha=>?_⟩;rcases h2 j a hj ha with⟨q1,q2⟩ |⟨q1,q2,q3⟩
  ·exact .inl ⟨by rw[yz,q1,YI],.inr ⟨q1,q2⟩⟩
  ·cases hm:jW ax i with
   |true=>
    cases hh:a.k.fw with
    |true=>exact .inr ⟨by rw[yz,q1,hm];simp[rY,ha,hh],q2,.inl rfl⟩
    |false=>exact .inl ⟨by rw[yz,q1,hm];simp[rY,ha,hh],.inl ⟨rfl,q2⟩⟩
   |false=>exact .inr ⟨by rw[yz,q1,hm];rfl,q2,by rw[hm] at q3;simpa using q3⟩
 have re:∀i,i<ops.size→∃o b,ops[i]? =some o∧ops.toList[i]? =some o∧sl[i]? =some b:=fun i hi=>
  ⟨ops[i],sl[i]'(by omega),pY hi,by simp[hi],aA (by omega)⟩
 unfold um at ra;rw[bQ] at ra;obtain⟨hp,jJ⟩:=ra;have DD:∀(j i:Nat),(j,i)∈ax→eP (cs.getD j (0,0)) (cs.getD i (0,0))=false:=fun j i h=>by simpa using gI.1 hp (j,i) h
 have RZ:=RV jJ;generalize Hn:(fun j=>cs.getD j (0,0))=cf at T;have r8:∀j,cs.getD j (0,0)=cf j:=fun j=>by rw[←Hn]
 simp only[r8] at RZ hX;have abW:∀(M L:Array Bool) (γ1:Gh) (a1:Act) (w1:World) (B:Nat→Bool) (b:Nat),DB W G sl ops.size R (jW ax) X (E 0) d (fun l=>bM (Hs 0) (fun j=>bq (cf j).1) (cU sl E Hs cf) l ops.size) γ (Hs 0) w M L γ1 a1 w1 B→B b=true→(∀j,j<b→rY sl j=true→aT L j=true)→
     ∃γ2,DB W G sl ops.size R (jW ax) X (E 0) d (fun l=>bM (Hs 0) (fun j=>bq (cf j).1) (cU sl E Hs cf) l ops.size) γ (Hs 0) w M (L.setIfInBounds b true) γ2 a1 w1 (fun j=>B j&&j !=b):=by
  intro M L γ1 a1 w1 B b st hb qq;obtain⟨hL,dr,uQ,hle,hF,hI,hM,⟨bP,AR,hB⟩,hE⟩:=st;obtain⟨mb,lb,bn,y,ty,zs,hy,se,Ho,htm,L7⟩:=hB b hb;obtain⟨x,o,e,zx,tx,e1,e2,e3,e4,e5,e6,e7,e8⟩:=(DC b mb).al;have :x=y:=by rw[hy] at e1;cases e1;rfl
  subst this;have :zx=zs:=by rw[Ho] at e4;cases e4;rfl
  subst this;have stp:zx.all PD.one=true∧d b= .box (Hs b).bx.length 0∧Hs (b+1)={Hs b with bx:=(Hs b).bx++[zx.map .p]}∧cf b=(4+2*(Hs b).bx.length,0):=by
   rcases T.step b x hy with⟨q,_⟩ |⟨_,q2,q3⟩
   ·exfalso;rcases q with q |q
    ·rw[iX b mb b] at q;cases q
    ·rw[e6] at q;cases q
   ·rw[Ho,kK rfl] at q2;simp only[aN] at q2;split at q2
    ·rename_i d0 H0 fH;split at fH
     ·rename_i abZ;cases fH;simp only[bI,lB.injEq,bt.val.injEq] at q2;obtain⟨q4,q5⟩:=q2;refine⟨abZ,q4.symm,q5.symm,?_⟩;rw[q3,Ho];simp[jP,cls,rL,gN]
     ·cases fH
    ·cases q2
  obtain⟨sy1,sy2,R1,DE⟩:=stp;have hwy:bq (cf b).1=true:=by rw[DE];exact uM _
  have late:∀j,b<j→j<ops.size→R j b=true→aT L j=false:=fun j hj wF hr=>by
   cases hl:aT L j with
   |false=>rfl
   |true=>rw[dr j wF hl b hj hr] at lb;cases lb
  have R2:∀j,b<j→j<ops.size→bq (cf j).1=true→aT L j=false:=fun j h1 h3 h4=>by
   obtain⟨oj,bj,_,sf,pB⟩:=re j h3;refine late j h1 h3 ?_;rcases(hR j oj bj sf pB).2 b _ h1 hy with q |⟨_,_,q⟩
   ·exact q.1
   ·exfalso;rcases q with q |q |q
    ·rw[Ho] at q;cases q
    ·rw[T.fw pB q] at h4;cases h4
    ·have:=DD b j q;rw[r8,r8,RP (by rw[DE];dsimp only;omega) (fun b=>by rw[DE];dsimp only;omega) (by rw[DE]) h4] at this;cases this
  have L8:bM (Hs 0) (fun j=>bq (cf j).1) (cU sl E Hs cf) (aT L) ops.size=Hs b:=by
   rw[T.heap b (by omega),←Dw ops.size (by omega)];refine r7 _ fun j hj hw=>?_;by_cases aq:j=b
   ·subst aq;simp[lb]
   ·by_cases DF:j<b
    ·obtain⟨oj,bj,_,sf,pB⟩:=re j hj;rw[qq j DF ?_]
     ·simp[DF]
     ·cases hh:bj.k.fw with
      |false=>simp[rY,pB,hh]
      |true=>rw[T.fw pB hh] at hw;cases hw
    ·rw[R2 j (by omega) hj hw];simp[DF]
  have uR:=Dx (L:=L) (i:=b) (by omega);have hH3:bM (Hs 0) (fun j=>bq (cf j).1) (cU sl E Hs cf) (aT (L.setIfInBounds b true)) ops.size=Hs (b+1):=
   LU (g0:=Hs 0) (wr:=fun j=>bq (cf j).1) (f:=cU sl E Hs cf) (l:=aT (L.setIfInBounds b true)) (i:=b) (x:=Hs (b+1)) (by rw[uR];simp) hwy (fun _=>Hg (by rw[DE])) _ bn fun j h1 h3 h4=>by
    rw[uR,if_neg (by omega)];exact R2 j h1 h3 h4
  have hF:Frame γ (Hs 0) w γ1 (bM (Hs 0) (fun j=>bq (cf j).1) (cU sl E Hs cf) (aT L) ops.size) w1:=hF;have hI:bD W G γ1 (bM (Hs 0) (fun j=>bq (cf j).1) (cU sl E Hs cf) (aT L) ops.size) w1:=hI;have L7:pA γ1 (bM (Hs 0) (fun j=>bq (cf j).1) (cU sl E Hs cf) (aT L) ops.size) w.heap.size zx (bP b) w1:=L7;obtain⟨γ2,g1,g2,g3,g4,g5⟩:=L7.add hI hF I.nM.size sy1 e5;rw[L8,←R1] at g2 g3;rw[L8] at g4;have g5:∀(s1:Nat) (wD:List PD) (b1:Nat),b1≠bP b→pA γ1 (bM (Hs 0) (fun j=>bq (cf j).1) (cU sl E Hs cf) (aT L) ops.size) s1 wD b1 w1→pA γ2 (Hs (b+1)) s1 wD b1 w1:=by
   rw[R1,←L8];exact g5
  rw[←hH3] at g2 g3 g5;refine⟨γ2,by simp[hL],fun k hk rh j hj hr=>?_,fun j _ hx=>(by rw[iX b mb j] at hx;cases hx),hle.trans g1,g2,g3,fun j=>?_,⟨bP,fun b1 b2 h1 h2=>AR b1 b2 ((CR.1 h1).1) ((CR.1 h2).1),fun b1 h1=>?_⟩,fun t ht=>?_⟩
  ·rw[uR];split
   ·rfl
   ·rw[uR] at rh;split at rh
    ·rename_i DG;subst DG;rw[yz,o0] at hr;rcases hr with hr |hr
     ·rw[RY b j mb hj (by omega)] at hr;cases hr
     ·exact qq j hj (CR.1 hr).2
    ·exact dr k hk rh j hj hr
  ·rw[hM,uR];by_cases q1:b=j
   ·subst q1;simp[hb]
   ·have q':(j !=b)=true:=by simpa using fun e:j=b=>q1 e.symm
    rw[if_neg q1,q',Bool.and_true]
  ·obtain⟨h1,h2⟩:=CR.1 h1;have h2:b1≠b:=by simpa using h2
   obtain⟨m1,m2,m3,y1,ty1,wD,m4,m5,m6,m7,m8⟩:=hB b1 h1;exact⟨m1,by rw[uR,if_neg (Ne.symm h2)];exact m2,m3,y1,ty1,wD,m4,m5,m6,m7,g5 _ _ _ (fun q=>h2 (AR b1 b h1 hb q)) m8⟩
  ·by_cases DH:t=ty
   ·subst DH;rw[LK (i:=b) (by rw[uR];simp) (by simp[mi,hy,se]) _ bn fun j h1 h2 h3=>?_,htm,sy2]
    ·exact g4
    ·rw[uR,if_neg (by omega)];obtain⟨oj,bj,_,sf,pB⟩:=re j h2;refine late j h1 h2 ?_;rcases(hR j oj bj sf pB).2 b _ h1 hy with q |⟨_,q,_⟩
     ·exact q.1
     ·exfalso;have :bj.dst=some t:=by simpa[mi,pB] using h3
      simp[lL,se,this] at q
   ·rw[AN (l:=aT (L.setIfInBounds b true)) (l':=aT L) _ fun j hj hw=>by
     rw[uR,if_neg];intro e;subst e;have :x.dst=some t:=by simpa[mi,hy] using hw
     rw[se] at this;cases this;exact DH rfl]
    refine(hE t fun b1 y1 h1 h2=>?_).mono g1;by_cases mW:b1=b
    ·subst mW;rw[hy] at h2;cases h2;rw[se];intro q;cases q;exact DH rfl
    ·exact ht b1 y1 (by simp[h1,mW]) h2
 have prom:∀(m:Nat) (M L:Array Bool) (γ1:Gh) (a1:Act) (w1:World) (B:Nat→Bool),left (aT L) ops.size=m→DB W G sl ops.size R (jW ax) X (E 0) d (fun l=>bM (Hs 0) (fun j=>bq (cf j).1) (cU sl E Hs cf) l ops.size) γ (Hs 0) w M L γ1 a1 w1 B→
     ∃L' γ' B',DB W G sl ops.size R (jW ax) X (E 0) d (fun l=>bM (Hs 0) (fun j=>bq (cf j).1) (cU sl E Hs cf) l ops.size) γ (Hs 0) w M L' γ' a1 w1 B'∧∀b,B' b=true→∃j,j<b∧rY sl j=true∧aT L' j=false:=by
  intro m
  induction m with
  |zero=>
   intro M L γ1 a1 w1 B hm st;refine⟨L,γ1,B,st,fun b hb=>?_⟩;obtain⟨bP,_,hB⟩:=st.hB;obtain⟨_,h2,h3,_⟩:=hB b hb;rw[LW hm b h3] at h2;cases h2
  |succ m ih=>
   intro M L γ1 a1 w1 B hm st;by_cases hex:∃b,B b=true∧∀j,j<b→rY sl j=true→aT L j=true
   ·obtain⟨b,hb,qq⟩:=hex;obtain⟨γ2,st2⟩:=abW M L γ1 a1 w1 B b st hb qq;obtain⟨bP,_,hB⟩:=st.hB;obtain⟨_,h2,h3,_⟩:=hB b hb;refine ih M _ γ2 a1 w1 _ ?_ st2;have hLs:=st.hL;have:=(LX h2 (Dx (L:=L) (i:=b) (by omega)) (n:=ops.size)).1 h3;omega
   ·refine⟨L,γ1,B,st,fun b hb=>?_⟩;refine qD fun aq=>hex ⟨b,hb,fun j hj gj=>?_⟩;cases hl:aT L j with
    |true=>rfl
    |false=>exact absurd ⟨j,hj,gj,hl⟩ aq
 have key:∀(fuel:Nat) (M L:Array Bool) (γ1:Gh) (a1:Act) (w1:World) (B:Nat→Bool),M.size=ops.size→left (aT M) ops.size=fuel→DB W G sl ops.size R (jW ax) X (E 0) d (fun l=>bM (Hs 0) (fun j=>bq (cf j).1) (cU sl E Hs cf) l ops.size) γ (Hs 0) w M L γ1 a1 w1 B→a1.tmps.size=nt→a1.defers=a.defers→
     wpAny P .any ops Q fuel M a1 w1:=by
  intro fuel
  induction fuel with
  |zero=>
   intro M L0 γ0 a1 w1 B0 DI L9 Ma aS DJ;have R3:=LW L9;obtain⟨L,γ1,B,st,uS⟩:=prom _ M L0 γ0 a1 w1 B0 rfl Ma;have eQ:∀j,j<ops.size→aT L j=true:=by
    refine fun j hj=>qD fun aq=>?_;obtain⟨j0,h1,h2,h3⟩:=Hj (l:=aT L) ops.size ⟨j,hj,by simpa using aq⟩;have hm:=R3 j0 h1;rw[st.hM,h2,Pt] at hm;obtain⟨k,k1,_,k2⟩:=uS j0 hm;rw[h3 k k1] at k2;cases k2
   obtain⟨hL,dr,uQ,hle,hF,hI,hM,⟨bP,AR,hB⟩,hE⟩:=st;have hF:Frame γ (Hs 0) w γ1 (bM (Hs 0) (fun j=>bq (cf j).1) (cU sl E Hs cf) (aT L) ops.size) w1:=hF;have hI:bD W G γ1 (bM (Hs 0) (fun j=>bq (cf j).1) (cU sl E Hs cf) (aT L) ops.size) w1:=hI;have hE:∀t,aL γ1 (a1.tmps.getD t undef) (jV ((E 0).get t) (mi sl t) d (aT L) ops.size):=fun t=>hE t fun b y hb _=>by
    obtain⟨_,h2,h3,_⟩:=hB b hb;rw[eQ b h3] at h2;cases h2
   refine⟨?_,?_⟩
   ·refine List.eq_nil_iff_forall_not_mem.2 fun i hi=>?_;obtain⟨o,_,h1,h2,_⟩:=mem_ready DI hi;rw[R3 i h1] at h2;cases h2
   ·have e1:∀t,jV ((E 0).get t) (mi sl t) d (aT L) ops.size=(E sl.length).get t:=fun t=>by
     rw[T.get t _ (aV _),←hlen];exact AN _ fun j hj _=>eQ j hj
    have e2:bM (Hs 0) (fun j=>bq (cf j).1) (cU sl E Hs cf) (aT L) ops.size=Hs sl.length:=by
     rw[T.heap _ (aV _),←hlen];exact r7 _ fun j hj _=>eQ j hj
    rw[e2] at hF hI;exact hQ (fun i hi=>by
     cases hx:X i with
     |false=>rfl
     |true=>have:=uQ i hi hx;rw[eQ i hi] at this;cases this) γ1 a1 w1 hle hF hI (fun t=>by rw[←e1 t];exact hE t) aS DJ
  |succ fuel ih=>
   intro M L0 γ0 a1 w1 B0 DI L9 Ma aS DJ;refine⟨fun ab6=>?_,fun i hi=>?_⟩
   ·exfalso;have hex:∃j,j<ops.size∧aT M j=false:=by
     refine qD fun aq=>?_;have hz:∀n,n≤ops.size→left (aT M) n=0:=by
      intro n
      induction n with
      |zero=>intro _;rfl
      |succ n yA=>
       intro hn;have :aT M n=true:=by
        cases hl:aT M n with
        |true=>rfl
        |false=>exact absurd ⟨n,by omega,hl⟩ aq
       simp only[left,this,if_true,yA (by omega)]
     rw[hz _ (aV _)] at L9;omega
    obtain⟨j,h1,h2,h3⟩:=Hj _ hex;obtain⟨o,b,ho,LG,hb⟩:=re j h1;have :j∈Region.ready .any ops M:=abM DI ho h2 fun p hp=>h3 p ((hR j o b LG hb).1 p hp);rw[ab6] at this;cases this
   ·obtain⟨o,ho,AS,Mb,qq⟩:=mem_ready DI hi;obtain⟨o2,so,R4,jT,bE⟩:=re i AS;have :o2=o:=by rw[ho] at R4;cases R4;rfl
    subst this;have oL:=ld i o2 so ho bE;obtain⟨L,γ1,B,st,uS⟩:=prom _ M L0 γ0 a1 w1 B0 rfl Ma;obtain⟨hL,dr,uQ,hle,hF,hI,hM,⟨bP,AR,hB⟩,Hr⟩:=st;have hF:Frame γ (Hs 0) w γ1 (bM (Hs 0) (fun j=>bq (cf j).1) (cU sl E Hs cf) (aT L) ops.size) w1:=hF;have hI:bD W G γ1 (bM (Hs 0) (fun j=>bq (cf j).1) (cU sl E Hs cf) (aT L) ops.size) w1:=hI;obtain⟨fC,Mc⟩:aT L i=false∧B i=false:=by
     rw[hM] at Mb;simpa using Mb
    have R5:left (aT (M.setIfInBounds i true)) ops.size=fuel:=by
     have:=(LX Mb (Dx (L:=M) (i:=i) (by omega)) (n:=ops.size)).1 AS;omega
    have DK:(M.setIfInBounds i true).size=ops.size:=by simp[DI]
    have R6:=Dx (L:=M) (i:=i) (by omega);have Md:∀(i j:Nat) a b,jW ax i=true→j<i→sl[j]? =some a→sl[i]? =some b→lL a b=false:=fun i j a b hm hj ha hb=>by
     obtain⟨x,o,e,zx,tx,e1,e2,e3,e4,e5,e6,e7,e8⟩:=(DC i hm).al;rcases(jI i o b e2 hb).2 j a hj ha with⟨_,p,hp,_⟩ |⟨_,h,_⟩
     ·rw[e8] at hp;simp at hp
     ·exact h
    by_cases ki:jW ax i=true
    ·-- made ahead of its turn
     obtain⟨x,o',e,zx,tx,e1,e2,e3,e4,e5,e6,e7,e8⟩:=(DC i ki).al;have :x=so:=by rw[bE] at e1;cases e1;rfl
     subst this;have :o'=o2:=by rw[jT] at e2;cases e2;rfl
     subst this;have hw:=AL (γ:=γ1) (env:=[]) oL (fun t=>aL.dead _) aS ah (b:=true) (by rw[e6];rfl);simp only[wpOp,ho];rw[if_pos hw];refine .inl ?_;obtain⟨w2,r1,r2,r3,r4⟩:=abk (s0:=w.heap.size) (a:=a1) hI e3 (by rw[←e4];exact oL.k) hF.size;have pC:o'.dst=some tx:=by rw[←oL.dst];exact e7
     have htx:tx<a1.tmps.size:=by rw[aS];exact oL.lt tx pC
     have lH:∀b y ty,B b=true→sl[b]? =some y→y.dst=some ty→ty≠tx:=fun b y ty hb hy se e=>by
      subst e;obtain⟨m1,_⟩:=hB b hb;have aq:b≠i:=fun e=>by rw[e,Mc] at hb;cases hb
      by_cases ah:b<i
      ·have:=Md i b y x ki ah hy bE;simp[lL,se,e7] at this
      ·have:=Md b i x y m1 (by omega) bE hy;simp[lL,se,e7] at this
     unfold Oper.wp;rw[r1];refine ih (M.setIfInBounds i true) L γ1 _ w2 (fun j=>B j||j==i) DK R5 ⟨hL,dr,uQ,hle,hF.trans hle.base r2,r3,fun j=>?_,⟨fun j=>if j=i then w1.heap.size else bP j,fun b b' h1 h2 h3=>?_,fun b hb=>?_⟩,fun t ht=>?_⟩ ?_ ?_
     ·rw[R6,hM];by_cases q:i=j
      ·subst q;simp
      ·have q':(j==i)=false:=by simpa using fun e:j=i=>q e.symm
       rw[if_neg q,q',Bool.or_false]
     ·have ml:∀b,B b=true→bP b<w1.heap.size:=fun b hb=>by
       obtain⟨_,_,_,_,_,_,_,_,_,_,h⟩:=hB b hb;exact h.lt
      dsimp only at h1 h2 h3;by_cases q1:b=i
      ·by_cases q2:b'=i
       ·rw[q1,q2]
       ·rw[if_pos q1,if_neg q2] at h3;have:=ml b' (by simpa[q2] using h2);omega
      ·by_cases q2:b'=i
       ·rw[if_neg q1,if_pos q2] at h3;have:=ml b (by simpa[q1] using h1);omega
       ·rw[if_neg q1,if_neg q2] at h3;exact AR b b' (by simpa[q1] using h1) (by simpa[q2] using h2) h3
     ·dsimp only at hb⊢;by_cases q1:b=i
      ·subst q1;rw[if_pos rfl];refine⟨ki,fC,AS,x,tx,zx,bE,e7,e4,?_,r4⟩;rw[pC];simp[Act.put,bN,htx]
      ·rw[if_neg q1];have hb:B b=true:=by simpa[q1] using hb
       obtain⟨m1,m2,m3,y,ty,zs,m4,m5,m6,m7,m8⟩:=hB b hb;refine⟨m1,m2,m3,y,ty,zs,m4,m5,m6,?_,m8.keep (.refl γ1) r2⟩;rw[pC,←m7];simp[Act.put,bN,Ne.symm (lH b y ty hb m4 m5)]
     ·have DH:t≠tx:=fun e=>ht i x (by simp) bE (by rw[e7,e]);have:=Hr t fun b y hb hy=>ht b y (by simp[hb]) hy;rw[pC];simpa[Act.put,bN,Ka,Ne.symm DH] using this
     ·rw[pC];simp[Act.put,aS]
     ·rw[pC];simp[Act.put,DJ]
    have ki:jW ax i=false:=by simpa using ki
    have R7:∀b,B b=true→b<i→R0 i b=false:=fun b hb yu=>by
     cases hr:R0 i b with
     |false=>rfl
     |true=>
      exfalso;obtain⟨m1,_⟩:=hB b hb;obtain⟨k,k1,k2,k3⟩:=uS b hb;obtain⟨j0,q1,q2,q3⟩:=Hj (l:=fun j=>aT L j|| !rY sl j) b ⟨k,k1,by simp[k2,k3]⟩;have q2:aT L j0=false∧rY sl j0=true:=by simpa using q2
      have q4:B j0=false:=by
       cases ae:B j0 with
       |false=>rfl
       |true=>
        obtain⟨k',c1,c2,c3⟩:=uS j0 ae;have:=q3 k' c1;simp[c2,c3] at this
      obtain⟨p,hp,yB⟩:=(DC b m1).late i o2 jT yu hr j0 q1 q2.2;have eR:=qq p hp;rw[hM,o0] at eR;rcases yB with rfl |⟨eo,yB,AT⟩
      ·rw[q2.1,q4] at eR;simp at eR
      ·rcases eR with eR |eR
       ·have:=dr p (by have:=(hR i o2 so jT bE).1 p hp;omega) eR j0 yB (by rw[yz,AT,YI]);rw[q2.1] at this;cases this
       ·obtain⟨m2,_⟩:=hB p eR;rw[eo] at m2;cases m2
    have pre:∀j,j<i→R i j=true→aT L j=true:=fun j hj hr=>by
     obtain⟨b,hb⟩:∃b,sl[j]? =some b:=⟨_,aA (by omega)⟩;rcases(hR i o2 so jT bE).2 j b hj hb with⟨_,h1⟩ |h1
     ·rcases h1 with⟨h1,_⟩ |⟨oH,p,hp,h1⟩
      ·rw[ki] at h1;cases h1
      ·have eR:=qq p hp;rw[hM,o0] at eR;rcases eR with eR |eR
       ·rcases h1 with rfl |⟨h1,h2⟩
        ·exact eR
        ·exact dr p (by have:=(hR i o2 so jT bE).1 p hp;omega) eR j h1 (by rw[yz,h2,YI])
       ·exfalso;rcases h1 with rfl |⟨h1,h2⟩
        ·rw[R7 p eR hj] at oH;cases oH
        ·rw[RY p j (hB p eR).1 h1 (by omega)] at h2;cases h2
     ·rw[h1.1] at hr;cases hr
    have gj:∀b y t,B b=true→sl[b]? =some y→y.dst=some t→¬(t∈so.uses∨so.dst=some t):=fun b y t hb hy se ht=>by
     have aq:b≠i:=fun e=>by rw[e,Mc] at hb;cases hb
     have eh:lL y so=true∧lL so y=true:=by
      simp only[lL,se,o0];rcases ht with ht |ht
      ·exact⟨.inl (.inl (by simpa using ht)),.inr (by simpa using ht)⟩
      ·exact⟨.inl (.inr (by simp[ht])),.inl (by rw[ht];simp)⟩
     by_cases ah:b<i
     ·rcases(jI i o2 so jT bE).2 b y ah hy with⟨oH,_⟩ |⟨_,h1,_⟩
      ·rw[R7 b hb ah] at oH;cases oH
      ·rw[eh.1] at h1;cases h1
     ·have:=Md b i so y (hB b hb).1 (by omega) bE hy;rw[eh.2] at this;cases this
    have hE0:∀t,(t∈so.uses∨so.dst=some t)→aL γ1 (a1.tmps.getD t undef) (jV ((E 0).get t) (mi sl t) d (aT L) ops.size):=fun t ht=>
     Hr t fun b y hb hy se=>gj b y t hb hy se ht
    have post:∀j,i<j→j<ops.size→R j i=true→aT L j=false:=fun j hj wF hr=>by
     cases hl:aT L j with
     |false=>rfl
     |true=>rw[dr j wF hl i hj hr] at fC;cases fC
    have slots:∀t,(t∈so.uses∨so.dst=some t)→∀j,j<ops.size→mi sl t j=true→j≠i→(aT L j=decide (j<i)):=fun t ht j hj hw aq=>by
     obtain⟨_,b,_,sf,hb⟩:=re j hj;have nN:b.dst=some t:=by simpa[mi,hb] using hw
     by_cases mY:j<i
     ·rw[pre j mY ?_];simp[mY];rcases(hR i o2 so jT bE).2 j b mY hb with h |h
      ·exact h.1
      ·exfalso;have:=h.2.1;simp only[lL,nN,Aj] at this;rcases ht with ht |ht
       ·simp[ht] at this
       ·simp[ht] at this
     ·rw[post j (by omega) hj ?_];simp[mY];rcases(hR j _ b sf hb).2 i so (by omega) bE with h |h
      ·exact h.1
      ·exfalso;have:=h.2.1;simp only[lL,nN,Aj] at this;rcases ht with ht |ht
       ·simp[ht] at this
       ·simp[ht] at this
    have tied:∀j,j<ops.size→j≠i→eP (cf i) (cf j)=true→aT L j=decide (j<i):=fun j hj aq h2=>by
     obtain⟨_,b,_,sf,hb⟩:=re j hj;have oK:∀(x:SO) (n:Nat),sl[n]? =some x→(cf n).1≠0→x.k.fw=true→False:=fun x n hx h0 hh=>h0 (by rw[T.fw hx hh]);obtain⟨mZ,Ht⟩:=abQ h2;have h3:eP (cf j) (cf i)=true:=by rw[abP];exact h2
     by_cases mY:j<i
     ·rw[pre j mY ?_];simp[mY];rcases(hR i o2 so jT bE).2 j b mY hb with h |h
      ·exact h.1
      ·exfalso;rcases h.2.2 with q |q |q
       ·exact oK b j hb Ht q
       ·exact oK so i bE mZ q
       ·have:=DD j i q;rw[r8,r8,h3] at this;cases this
     ·rw[post j (by omega) hj ?_];simp[mY];rcases(hR j _ b sf hb).2 i so (by omega) bE with h |h
      ·exact h.1
      ·exfalso;rcases h.2.2 with q |q |q
       ·exact oK so i bE mZ q
       ·exact oK b j hb Ht q
       ·have:=DD i j q;rw[r8,r8,h2] at this;cases this
    have R8:(cf i).1≠0→(∀b,(cf i).1≠3+2*b)→(cf i).2=0→∀j,j<ops.size→j≠i→bq (cf j).1=true→aT L j=decide (j<i):=fun mZ qh hz j hj aq h2=>
     tied j hj aq (RP mZ qh hz h2)
    have jt:∀t∈so.uses,jV ((E 0).get t) (mi sl t) d (aT L) ops.size=(E i).get t:=fun t ht=>by
     rw[T.get t i (by omega),←Rs ops.size (by omega)];refine AN _ fun j hj hw=>?_;by_cases aq:j=i
     ·subst aq;simp[fC]
     ·exact slots t (.inl ht) j hj hw aq
    have ab9:(cf i).1≠0→(∀b,(cf i).1≠3+2*b)→(cf i).2=0→bM (Hs 0) (fun j=>bq (cf j).1) (cU sl E Hs cf) (aT L) ops.size=Hs i:=fun h0 qh hz=>by
     rw[T.heap i (by omega),←Dw ops.size (by omega)];refine r7 _ fun j hj hw=>?_;by_cases aq:j=i
     ·subst aq;simp[fC]
     ·exact R8 h0 qh hz j hj aq hw
    have wG:bh γ1 ((E i).keep so.uses) a1.tmps:=fun t=>by
     rw[Env.Gp];split
     ·rename_i ht;rw[←jt t ht];exact hE0 t (.inl ht)
     ·exact .dead _
    have oI:fF ((E i).keep so.uses) so.g=fF (E i) so.g:=by
     unfold fF;cases hg:so.g with
     |none=>rfl
     |some tw=>
      obtain⟨t,want⟩:=tw;have :t∈so.uses:=by simp[SO.uses,hg]
      simp only[Env.Gp,this,if_true]
    have DL:∀H2,cF c G ((E i).keep so.uses) H2 so.k=cF c G (E i) H2 so.k:=fun H2=>
     abi fun t ht=>by rw[Env.Gp,if_pos (by simp[SO.uses,ht])]
    by_cases uT:X i=true
    ·-- not run, or it panics
     rcases hX i so bE uT with⟨j,fB,hj,fT,wB,sg⟩ |⟨j,fB,hj,fT,wB,h1,h2,h3⟩ |⟨hhl,hwr,hg,dv,H1,uL,hQp⟩
     ·exfalso;have hf:=uQ j (by omega) fT;rcases(hR i o2 so jT bE).2 j fB hj wB with h |h
      ·rw[pre j hj h.1] at hf;cases hf
      ·rw[sg] at h;cases h.2.1
     ·exfalso;have hf:=uQ j (by omega) fT;rcases(hR i o2 so jT bE).2 j fB hj wB with h |h
      ·rw[pre j hj h.1] at hf;cases hf
      ·rcases h.2.2 with q |q |q
       ·rw[h1] at q;cases q
       ·rw[h2] at q;cases q
       ·exact h3 q
     ·have hHi:bM (Hs 0) (fun j=>bq (cf j).1) (cU sl E Hs cf) (aT L) ops.size=Hs i:=by
       rw[T.heap i (by omega),←Dw ops.size (by omega)];refine r7 _ fun j hj hw=>?_;by_cases aq:j=i
       ·subst aq;simp[fC]
       ·obtain⟨mY,uS⟩:=hwr j (by omega) aq hw;obtain⟨_,b,_,sf,hb⟩:=re j hj;rw[pre j mY ?_]
        ·simp[mY]
        ·rcases(hR i o2 so jT bE).2 j b mY hb with h |h
         ·exact h.1
         ·exfalso;rcases h.2.2 with q |q |q
          ·have:=T.fw hb q;rw[this] at hw;cases hw
          ·rw[hhl] at q;cases q
          ·exact uS q
      have hE:∀t,aL γ1 (a1.tmps.getD t undef) (jV ((E 0).get t) (mi sl t) d (aT L) ops.size):=fun t=>Hr t fun b y hb _=>by
       rw[iX b (hB b hb).1 i] at uT;cases uT
      have hw:=AL oL wG aS ah (oI.trans hg);simp only[wpOp,ho];rw[if_pos hw];refine .inl ?_;rw[hHi] at hF hI;refine yw S hI wG oL.k ((DL _).trans uL) (fun v γ2 w2 d2 hr _ _ _ _=>by cases hr) (fun v γ2 w2 d2 hr h1 h2 h3 h4=>?_);cases hr;refine hQp γ2 v a1 w2 (hle.trans h1) (hF.trans hle.base h2) h3 h4 (fun t=>?_) aS DJ;rw[abV];split
      ·exact .dead _
      ·rename_i x9;have:=(hE t).mono h1
       rwa [RW fun j hj qt=>x9 (by
        simp only[mi,beq_iff_eq,Option.bind_eq_some_iff] at qt;obtain⟨b,hb,nN⟩:=qt;exact PE.2 ⟨b,bS hb,by rw[nN];exact beq_self_eq_true _⟩)] at this
    have uT:X i=false:=by simpa using uT
    have hL2:(L.setIfInBounds i true).size=ops.size:=by simp[hL]
    have hC:=Dx (L:=L) (i:=i) (by omega);have Me:∀k,k<ops.size→aT (L.setIfInBounds i true) k=true→∀j,j<k→R k j=true→aT (L.setIfInBounds i true) j=true:=fun k hk rh j hj hr=>by
     rw[hC j];split
     ·rfl
     ·rw[hC k] at rh;split at rh
      ·rename_i h;subst h;exact pre j hj hr
      ·exact dr k hk rh j hj hr
    have hW2:∀t,jV ((E 0).get t) (mi sl t) d (aT (L.setIfInBounds i true)) ops.size=if so.dst=some t then d i else jV ((E 0).get t) (mi sl t) d (aT L) ops.size:=fun t=>by
     split
     ·rename_i ht;refine LK (by rw[hC];simp) (by simp[mi,bE,ht]) _ AS fun j h1 h2 h3=>?_;rw[hC,if_neg (by omega),slots t (.inr ht) j h2 h3 (by omega)];simp;omega
     ·rename_i ht;refine AN _ fun j hj hw=>?_;rw[hC,if_neg];intro h;subst h;simp[mi,bE] at hw;exact ht hw
    have fin:∀γ2 w2 v,γ1.le γ2→Frame γ1 (bM (Hs 0) (fun j=>bq (cf j).1) (cU sl E Hs cf) (aT L) ops.size) w1 γ2 (bM (Hs 0) (fun j=>bq (cf j).1) (cU sl E Hs cf) (aT (L.setIfInBounds i true)) ops.size) w2→
        bD W G γ2 (bM (Hs 0) (fun j=>bq (cf j).1) (cU sl E Hs cf) (aT (L.setIfInBounds i true)) ops.size) w2→aL γ2 v (d i)→wpAny P .any ops Q fuel (M.setIfInBounds i true) (a1.put o2.dst v) w2:=fun γ2 w2 v h1 h2 h3 h4=>by
     refine ih _ (L.setIfInBounds i true) γ2 _ w2 B DK R5 ⟨hL2,Me,fun j hj hx=>?_,hle.trans h1,hF.trans hle.base h2,h3,fun j=>?_,⟨bP,AR,fun b hb=>?_⟩,fun t ht=>?_⟩ ?_ ?_
     ·rw[hC];split
      ·rename_i e;rw[←e,uT] at hx;cases hx
      ·exact uQ j hj hx
     ·rw[R6,hC,hM];split<;>rfl
     ·obtain⟨m1,m2,m3,y,ty,zs,m4,m5,m6,m7,m8⟩:=hB b hb;have aq:i≠b:=fun e=>by rw[←e,Mc] at hb;cases hb
      refine⟨m1,by rw[hC,if_neg aq];exact m2,m3,y,ty,zs,m4,m5,m6,?_,m8.keep h1 h2⟩;rw[←m7];have R9:so.dst≠some ty:=fun e=>gj b y ty hb m4 m5 (.inr e);rw[oL.dst] at R9;cases hd:o2.dst with
      |none=>simp[Act.put]
      |some u=>
       have qj:u≠ty:=fun e=>R9 (by rw[hd,e]);simp[Act.put,bN,qj]
     ·rw[hW2 t];have hE:=Hr t ht;rw[oL.dst];cases hd:o2.dst with
      |none=>simpa[Act.put] using hE.mono h1
      |some u=>
       have hu:u<a1.tmps.size:=by rw[aS];exact oL.lt u hd
       simp only[Act.put,bI];split
       ·rename_i qj;subst qj;simpa[bN,hu] using h4
       ·rename_i qj;have:=hE.mono h1;simpa[bN,Ka,qj] using this
     ·cases o2.dst<;>simp[Act.put,aS]
     ·cases o2.dst<;>simp[Act.put,DJ]
    have Hu:bq (cf i).1=false→bM (Hs 0) (fun j=>bq (cf j).1) (cU sl E Hs cf) (aT (L.setIfInBounds i true)) ops.size=bM (Hs 0) (fun j=>bq (cf j).1) (cU sl E Hs cf) (aT L) ops.size:=fun h2=>
     r7 _ fun j hj hw=>by
      rw[hC,if_neg];intro h;subst h;rw[h2] at hw;cases hw
    simp only[wpOp,ho];rcases T.step i so bE with⟨hg,hd,hH,Dn⟩ |⟨hg,hd,_⟩
    ·have hg:fF (E i) so.g=some false:=by
      rcases hg with hg |hg
      ·rw[uT] at hg;cases hg
      ·exact hg
     have hw:=AL oL wG aS ah (oI.trans hg);rw[if_neg (by simp[hw])];have hs:=Hu (by rw[Dn];rfl);refine fin γ1 w1 undef (.refl γ1) ?_ ?_ ?_
     ·rw[hs];exact .refl _ _ _
     ·rw[hs];exact hI
     ·rw[hd];exact aL.undef
    ·have hw:=AL oL wG aS ah (oI.trans hg);rw[if_pos hw];refine .inl ?_;by_cases h0:(cf i).1=0
     ·have hs:=Hu (by rw[h0];rfl);have cD:=T.free bE uT h0 hg (bM (Hs 0) (fun j=>bq (cf j).1) (cU sl E Hs cf) (aT L) ops.size);refine yw S hI wG oL.k ((DL _).trans cD) (fun v γ2 w2 d2 hr h1 h2 h3 h4=>?_) (fun v γ2 w2 d2 hr _ _ _ _=>by cases hr);cases hr;refine fin γ2 w2 v h1 ?_ ?_ h4
      ·rw[hs];exact h2
      ·rw[hs];exact h3
     ·by_cases Sa:∃b,(cf i).1=3+2*b
      ·obtain⟨b,hb⟩:=Sa;have hs:=Hu (by rw[hb];exact RN b);have bX:(bM (Hs 0) (fun j=>bq (cf j).1) (cU sl E Hs cf) (aT L) ops.size).bx[b]? =(Hs i).bx[b]?:=by
        let gx:Nat→Option (List D)→Option (List D):=fun j o=>if(cf j).2=0 then(Hs (j+1)).bx[b]? else match(sl[j]?).bind fun so=>uO (E j) so.k with
         |some q=>mX q o
         |none=>(Hs (j+1)).bx[b]?
        have Sb:∀m,m<ops.size→(cf m).2≠0→∃q,(∀h,cU sl E Hs cf m h=fS q h)∧(∀o,gx m o=mX q o)∧((cf m).1=4+2*q.2.1∧q.2.1<2000000000)∧Hs (m+1)=fS q (Hs m):=by
         intro m hm hz;have si:sl[m]? =some (sl[m]'(by omega)):=aA (by omega);obtain⟨q,h1,h2,h3,h4⟩:=T.ins si hz;refine⟨q,fun h=>Hi si hz h1,fun o=>?_,⟨by rw[h2],T.abH si hz q h1⟩,(Hf h1 h4).2.2.1⟩;simp only[gx,hz,if_false,si,PB,h1]
        have one:∀m,m≤ops.size→(Hs m).bx[b]? =bM ((Hs 0).bx[b]?) (fun j=>qp b (cf j).1) gx (fun _=>true) m:=by
         intro m
         induction m with
         |zero=>intro _;rfl
         |succ m pD=>
          intro hm;have si:sl[m]? =some (sl[m]'(by omega)):=aA (by omega);simp only[bM,true_and];rw[←pD (by omega)];split
          ·rename_i ht;by_cases hz:(cf m).2=0
           ·simp only[gx,hz,if_true]
           ·obtain⟨q,_,g2,g3,g4⟩:=Sb m (by omega) hz;rw[g2,g4,uP,if_pos];rw[g3.1,LZ g3.2] at ht;have :b=q.2.1:=by simpa using ht
            exact this.symm
          ·rename_i iZ;rcases abN (b:=b) (by simpa using iZ) with q |⟨i',q,aq⟩
           ·rw[T.quiet si q]
           ·exact T.apart si q aq
        have ach:∀m,m<ops.size→aT L m=true→bq (cf m).1=true→(cf m).2=0→∀j,j<m→bq (cf j).1=true→aT L j=true:=fun m hm uU yC hz j hj qt=>by
         obtain⟨om,bm,_,uA,m9⟩:=re m hm;obtain⟨oj,bj,_,sf,pB⟩:=re j (by omega);refine dr m hm uU j hj ?_;rcases(hR m om bm uA m9).2 j bj hj pB with h |h
         ·exact h.1
         ·exfalso;rcases h.2.2 with q |q |q
          ·have:=T.fw pB q;rw[this] at qt;cases qt
          ·have:=T.fw m9 q;rw[this] at yC;cases yC
          ·have:=DD j m q;rw[r8,r8,Dz qt yC (.inr (.inl hz))] at this;cases this
        have two:∀m,m≤ops.size→(bM (Hs 0) (fun j=>bq (cf j).1) (cU sl E Hs cf) (aT L) m).bx[b]? =bM ((Hs 0).bx[b]?) (fun j=>qp b (cf j).1) gx (aT L) m:=by
         intro m
         induction m with
         |zero=>intro _;rfl
         |succ m pD=>
          intro hm;by_cases hw:aT L m=true∧bq (cf m).1=true
          ·by_cases hz:(cf m).2=0
           ·have e1:bM (Hs 0) (fun j=>bq (cf j).1) (cU sl E Hs cf) (aT L) (m+1)=Hs (m+1):=by
             simp only[bM];rw[if_pos hw,Hg hz]
            rw[e1,one (m+1) hm];refine r7 _ fun j hj ht=>?_;by_cases Mf:j=m
            ·subst Mf;exact hw.1.symm
            ·exact(ach m (by omega) hw.1 hw.2 hz j (by omega) (LY ht)).symm
           ·obtain⟨q,g1,g2,g3,g4⟩:=Sb m (by omega) hz;have e1:bM (Hs 0) (fun j=>bq (cf j).1) (cU sl E Hs cf) (aT L) (m+1)=fS q (bM (Hs 0) (fun j=>bq (cf j).1) (cU sl E Hs cf) (aT L) m):=by
             simp only[bM];rw[if_pos hw,g1]
            rw[e1,uP,pD (by omega)];by_cases Hv:q.2.1=b
            ·have ht:qp b (cf m).1=true:=by
              rw[g3.1,LZ g3.2,Hv];simp
             simp only[bM];rw[if_pos Hv,if_pos ⟨hw.1,ht⟩,g2]
            ·have ht:¬qp b (cf m).1=true:=by
              rw[g3.1,LZ g3.2];simpa using fun e:b=q.2.1=>Hv e.symm
             simp only[bM];rw[if_neg Hv,if_neg fun h=>ht h.2]
          ·have e1:bM (Hs 0) (fun j=>bq (cf j).1) (cU sl E Hs cf) (aT L) (m+1)=bM (Hs 0) (fun j=>bq (cf j).1) (cU sl E Hs cf) (aT L) m:=by
            simp only[bM];rw[if_neg hw]
           have e2:bM ((Hs 0).bx[b]?) (fun j=>qp b (cf j).1) gx (aT L) (m+1)=bM ((Hs 0).bx[b]?) (fun j=>qp b (cf j).1) gx (aT L) m:=by
            simp only[bM];rw[if_neg fun h=>hw ⟨h.1,LY h.2⟩]
           rw[e1,e2,pD (by omega)]
        rw[two _ (aV _),one i (by omega),←Dw ops.size (by omega)];refine r7 _ fun j hj ht=>?_;by_cases aq:j=i
        ·subst aq;simp[fC]
        ·exact tied j hj aq (abR hb ht)
       have cD:=T.abG bE uT hb hg bX;refine yw S hI wG oL.k ((DL _).trans cD) (fun v γ2 w2 d2 hr h1 h2 h3 h4=>?_) (fun v γ2 w2 d2 hr _ _ _ _=>by cases hr);cases hr;refine fin γ2 w2 v h1 ?_ ?_ h4
       ·rw[hs];exact h2
       ·rw[hs];exact h3
      ·have qh:∀b,(cf i).1≠3+2*b:=fun b h=>Sa ⟨b,h⟩;by_cases hz:(cf i).2=0
       ·have hb:=ab9 h0 qh hz;have uV:Hs (i+1)=bM (Hs 0) (fun j=>bq (cf j).1) (cU sl E Hs cf) (aT (L.setIfInBounds i true)) ops.size:=by
         by_cases h2:bq (cf i).1=true
         ·refine(LU (g0:=Hs 0) (wr:=fun j=>bq (cf j).1) (f:=cU sl E Hs cf) (l:=aT (L.setIfInBounds i true)) (i:=i) (x:=Hs (i+1)) (by rw[hC];simp) h2 (fun _=>Hg hz) _ AS fun j h1 h3 h4=>?_).symm;rw[hC,if_neg (by omega),R8 h0 qh hz j h3 (by omega) h4];simp;omega
         ·have h2:bq (cf i).1=false:=by simpa using h2
          rw[Hu h2,hb,T.quiet bE h2]
        rw[hb] at hI fin;refine yw S hI wG oL.k ((DL _).trans hd) (fun v γ2 w2 d2 hr h1 h2 h3 h4=>?_) (fun v γ2 w2 d2 hr _ _ _ _=>by cases hr);cases hr;refine fin γ2 w2 v h1 ?_ ?_ h4
        ·rw[←uV];exact h2
        ·rw[←uV];exact h3
       ·-- a key is put into a map
        obtain⟨q,Sc,mj,_,hq4⟩:=T.ins bE hz;obtain⟨Dv,gF,uQ,acj⟩:=Hf Sc hq4;have Hw:bq (cf i).1=true:=by rw[mj];exact uM _
        have Hy:∀j,j<ops.size→j≠i→bq (cf j).1=true→(eP (cf i) (cf j)=true∧aT L j=decide (j<i))∨∃q',(∀h,cU sl E Hs cf j h=fS q' h)∧(cf j).2≠0∧(cf j).1=(cf i).1∧q.2.1=q'.2.1∧cX q.2.2.1≠cX q'.2.2.1:=by
         intro j hj aq hw;by_cases DM:eP (cf i) (cf j)=true
         ·exact .inl ⟨DM,tied j hj aq DM⟩
         ·right;have h1:(cf j).2≠0:=fun e=>DM (Dz Hw hw (.inr (.inl e)));have h2:(cf i).1=(cf j).1:=qD fun e=>DM (Dz Hw hw (.inr (.inr (.inl e))));have h3:(cf i).2≠(cf j).2:=fun e=>DM (Dz Hw hw (.inr (.inr (.inr e))));have wB:sl[j]? =some (sl[j]'(by omega)):=aA (by omega);obtain⟨q',g1,g2,_,_⟩:=T.ins wB h1;rw[mj,g2] at h2 h3;dsimp only at h2 h3;exact⟨q',fun h=>Hi wB h1 g1,h1,by rw[mj,g2];dsimp only;omega,by omega,fun e=>h3 (by rw[e])⟩
        have uV:bM (Hs 0) (fun j=>bq (cf j).1) (cU sl E Hs cf) (aT (L.setIfInBounds i true)) ops.size=fS q (bM (Hs 0) (fun j=>bq (cf j).1) (cU sl E Hs cf) (aT L) ops.size):=by
         have low:∀m,m≤i→bM (Hs 0) (fun j=>bq (cf j).1) (cU sl E Hs cf) (aT (L.setIfInBounds i true)) m=bM (Hs 0) (fun j=>bq (cf j).1) (cU sl E Hs cf) (aT L) m:=fun m hm=>
          r7 m fun j hj _=>by rw[hC,if_neg (by omega)]
         have high:∀m,m≤ops.size→i<m→bM (Hs 0) (fun j=>bq (cf j).1) (cU sl E Hs cf) (aT (L.setIfInBounds i true)) m=fS q (bM (Hs 0) (fun j=>bq (cf j).1) (cU sl E Hs cf) (aT L) m):=by
          intro m
          induction m with
          |zero=>intro _ h;omega
          |succ m pD=>
           intro hm KN;by_cases ki:m=i
           ·subst ki;simp only[bM];rw[if_pos ⟨by rw[hC];simp,Hw⟩,if_neg (fun h=>by rw[fC] at h;cases h.1),low m (aV _)];exact Hi bE hz Sc
           ·have l8:aT (L.setIfInBounds i true) m=aT L m:=by rw[hC m,if_neg (fun e=>ki e.symm)]
            by_cases hw:aT L m=true∧bq (cf m).1=true
            ·rw[RT (l:=aT (L.setIfInBounds i true)) ⟨l8.trans hw.1,hw.2⟩,RT hw,pD (by omega) (by omega)];rcases Hy m (by omega) ki hw.2 with⟨_,h⟩ |⟨q',g1,_,_,g4,g5⟩
             ·rw[hw.1] at h;have :m<i:=by simpa using h.symm
              omega
             ·rw[g1,g1];exact(abU g5 g4 _).symm
            ·rw[RU (l:=aT (L.setIfInBounds i true)) (fun h=>hw ⟨l8.symm.trans h.1,h.2⟩),RU hw,pD (by omega) (by omega)]
         exact high _ (aV _) AS
        have ack:qZ q ((bM (Hs 0) (fun j=>bq (cf j).1) (cU sl E Hs cf) (aT L) ops.size).bx[q.2.1]?):=by
         have pr:∀m,m<i→aT L m=true→bq (cf m).1=true→((cf m).2=0∨(cf m).1≠(cf i).1)→∀j,j<m→bq (cf j).1=true→aT L j=true:=fun m hm uU yC DN j hj qt=>by
          obtain⟨om,bm,_,uA,m9⟩:=re m (by omega);obtain⟨oj,bj,_,sf,pB⟩:=re j (by omega);rcases Hy j (by omega) (by omega) qt with⟨eh,h⟩ |⟨q',g1,g2,g3,g4,g5⟩
          ·rw[h];simp;omega
          ·refine dr m (by omega) uU j hj ?_;rcases(hR m om bm uA m9).2 j bj hj pB with h |h
           ·exact h.1
           ·exfalso;rcases h.2.2 with q |q |q
            ·have:=T.fw pB q;rw[this] at qt;cases qt
            ·have:=T.fw m9 q;rw[this] at yC;cases yC
            ·have:=DD j m q;rw[r8,r8,Dz qt yC ?_] at this
             ·cases this
             ·rcases DN with e |e
              ·exact .inr (.inl e)
              ·exact .inr (.inr (.inl fun e'=>e (e'.symm.trans g3)))
         have cmp:∀m,m≤i→(qZ q ((bM (Hs 0) (fun j=>bq (cf j).1) (cU sl E Hs cf) (fun _=>true) m).bx[q.2.1]?)↔qZ q ((bM (Hs 0) (fun j=>bq (cf j).1) (cU sl E Hs cf) (aT L) m).bx[q.2.1]?)):=by
          intro m
          induction m with
          |zero=>intro _;rfl
          |succ m pD=>
           intro hm;by_cases hw:bq (cf m).1=true
           ·rcases Hy m (by omega) (by omega) hw with⟨eh,h⟩ |⟨q',g1,g2,g3,g4,g5⟩
            ·by_cases DN:(cf m).2=0∨(cf m).1≠(cf i).1
             ·have uU:aT L m=true:=by rw[h];simp;omega
              have :bM (Hs 0) (fun j=>bq (cf j).1) (cU sl E Hs cf) (fun _=>true) (m+1)=bM (Hs 0) (fun j=>bq (cf j).1) (cU sl E Hs cf) (aT L) (m+1):=
               r7 _ fun j hj qt=>by
                by_cases Mf:j=m
                ·subst Mf;exact uU.symm
                ·exact(pr m (by omega) uU hw DN j (by omega) qt).symm
              rw[this]
             ·-- another key with the same number: there is none
              exfalso;have Sd:(cf m).2≠0:=fun e=>DN (.inl e);have Se:(cf m).1=(cf i).1:=qD fun e=>DN (.inr e);have ki:=RZ m i (by omega) Sd;have Me:¬eP (cf i) (cf m)=true:=by
               intro hc;simp only[eP,bQ,ud] at hc;have:=hc.2;simp only[pj,FW,bne_eq_false_iff_eq,beq_eq_false_iff_ne] at this;rcases this with((e |e) |e) |e
               ·exact hz e
               ·exact Sd e
               ·exact e Se.symm
               ·exact ki (Prod.ext Se e.symm)
              exact Me eh
            ·have gg:∀h:Hp,qZ q ((fS q' h).bx[q.2.1]?)↔qZ q (h.bx[q.2.1]?):=fun h=>by
              rw[uP,if_pos g4.symm];exact RR g5
             simp only[bM,true_and];rw[if_pos hw,g1,gg,pD (by omega)];by_cases uU:aT L m=true
             ·rw[if_pos ⟨uU,hw⟩,g1,gg]
             ·rw[if_neg fun h=>uU h.1]
           ·simp only[bM,true_and];rw[if_neg hw,if_neg fun h=>hw h.2];exact pD (by omega)
         have up:∀m,m≤ops.size→i≤m→qZ q ((bM (Hs 0) (fun j=>bq (cf j).1) (cU sl E Hs cf) (aT L) m).bx[q.2.1]?):=by
          intro m
          induction m with
          |zero=>
           intro _ h;have mZ:i=0:=by omega
           rw[←cmp 0 (by omega)];have:=Dv;rw[T.heap i (by omega),mZ] at this;exact this
          |succ m pD=>
           intro hm KN;by_cases ki:i=m+1
           ·rw[←ki,←cmp i (aV _),←T.heap i (by omega)];exact Dv
           ·have ih:=pD (by omega) (by omega);by_cases hw:aT L m=true∧bq (cf m).1=true
            ·have aq:m≠i:=fun e=>by rw[e,fC] at hw;cases hw.1
             rcases Hy m (by omega) aq hw.2 with⟨eh,h⟩ |⟨q',g1,g2,g3,g4,g5⟩
             ·rw[hw.1] at h;have :m<i:=by simpa using h.symm
              omega
             ·simp only[bM];rw[if_pos hw,g1,uP,if_pos g4.symm];exact(RR g5).2 ih
            ·simp only[bM];rw[if_neg hw];exact ih
         exact up _ (aV _) (by omega)
        have cM:=RJ ack;have cD:cF c G (E i) (bM (Hs 0) (fun j=>bq (cf j).1) (cU sl E Hs cf) (aT L) ops.size) so.k=some (.val .undef,fS q (bM (Hs 0) (fun j=>bq (cf j).1) (cU sl E Hs cf) (aT L) ops.size)):=by
         rw[acj,cM]
        refine yw S hI wG oL.k ((DL _).trans cD) (fun v γ2 w2 d2 hr h1 h2 h3 h4=>?_) (fun v γ2 w2 d2 hr _ _ _ _=>by cases hr);cases hr;refine fin γ2 w2 v h1 ?_ ?_ ?_
        ·rw[uV];exact h2
        ·rw[uV];exact h3
        ·rw[gF];exact h4
 refine key _ (nA ops.size false) (nA ops.size false) γ a w (fun _=>false) (by simp) ?_ ⟨by simp,fun i hi hl=>by simp[aT,bN,hi] at hl,fun i hi _=>by simp[aT,bN,hi],.refl γ,?_,?_,fun j=>by simp,⟨fun _=>0,fun _ _ h=>(by cases h),fun _ h=>(by cases h)⟩,fun t _=>?_⟩ hn rfl
 ·have :∀n,n≤ops.size→left (aT (nA ops.size false)) n=n:=by
   intro n
   induction n with
   |zero=>intro _;rfl
   |succ n yA=>
    intro h;have h1:aT (nA ops.size false) n=false:=by simp[aT,bN,YJ];split<;>rfl
    simp only[left,h1,yA (by omega)];rfl
  exact this _ (aV _)
 all_goals
  have AJ:∀{α:Type} (g0:α) (wr:Nat→Bool) (d:Nat→α→α) (n:Nat),bM g0 wr d (aT (nA ops.size false)) n=g0:=by
   intro α g0 wr d n
   induction n with
   |zero=>rfl
   |succ n yA=>
    have h1:aT (nA ops.size false) n=false:=by simp[aT,bN,YJ];split<;>rfl
    simp only[bM,h1,ob,false_and,if_false,yA]
  have hz:∀{α:Type} (g0:α) (wr:Nat→Bool) (d:Nat→α) (n:Nat),jV g0 wr d (aT (nA ops.size false)) n=g0:=by
   intro α g0 wr d n
   induction n with
   |zero=>rfl
   |succ n yA=>
    have h1:aT (nA ops.size false) n=false:=by simp[aT,bN,YJ];split<;>rfl
    simp only[jV,h1,ob,false_and,if_false,yA]
  first |(rw[AJ];exact .refl _ _ _) |(rw[AJ];exact I) |(rw[hz];exact En t)
theorem acm{c:bC}(S:Sound P W G c){ops:Array Oper}{sl:List SO}{nt:Nat}(hlen:ops.size=sl.length)(ld:∀(i:Nat) o so,ops[i]? =some o→sl[i]? =some so→qm P ops nt o so)
    (ah:∀(j:Nat) o' t,ops[j]? =some o'→o'.dst=some t→t<nt) {ax:List (Nat×Nat)} (bV:AO ax ops.toList sl=true) {env gi:Env} {H H':Hp} {cs:List (Nat×Nat)} (ev:gW c G sl env H=some (gi,H',cs))
    (ra:um ax cs=true) {γ:Gh} {a:Act} {w:World} (I:bD W G γ H w) (En:bh γ env a.tmps) (hn:a.tmps.size=nt) {Q:Exit→Act→World→Prop}
    (hQ:∀γ' a' w',γ.le γ'→Frame γ H w γ' H' w'→bD W G γ' H' w'→bh γ' gi a'.tmps→a'.tmps.size=nt→a'.defers=a.defers→Q .normal a' w'):
    wpAny P .any ops Q ops.size (nA ops.size false) a w:=by
 obtain⟨E,Hs,d,rfl,rfl,rfl,rfl,T⟩:=LN ev;exact RX S hlen ld ah bV T ra (fun _ _ _=>rfl) I En hn (fun i so _ h=>by cases h) fun _=>hQ
theorem Sf{c:bC}{e:Env}{H H':Hp}{k:SK}{d:D}(h:cF c G e H k=some (.bR d,H')):k.fw=false:=by
 cases hk:k.fw with
 |false=>rfl
 |true=>
  have hc:k.lI=false:=by cases k<;>first |rfl |cases hk
  rw[kK hc] at h;split at h<;>cases h
theorem acn{c:bC}(S:Sound P W G c){ops:Array Oper}{sl:List SO}{nt:Nat}(hlen:ops.size=sl.length)(ld:∀(i:Nat) o so,ops[i]? =some o→sl[i]? =some so→qm P ops nt o so)
    (ah:∀(j:Nat) o' t,ops[j]? =some o'→o'.dst=some t→t<nt) {ax:List (Nat×Nat)} (bV:AO ax ops.toList sl=true) {env:Env} {H H':Hp} {dv:D} {cs:List (Nat×Nat)} {k:Nat} (ev:jo c G ax 0 sl env H=some (dv,H',cs,k))
    (ra:um ax cs=true) (eo:Gb ax cs k=true) {γ:Gh} {a:Act} {w:World} (I:bD W G γ H w) (En:bh γ env a.tmps) (hn:a.tmps.size=nt) {Q:Exit→Act→World→Prop}
    (hQ:∀γ' v a' w',γ.le γ'→Frame γ H w γ' H' w'→bD W G γ' H' w'→aL γ' v dv→bh γ' (xY sl env) a'.tmps→a'.tmps.size=nt→a'.defers=a.defers→Q (.panic [{v,recovered:=false}]) a' w'):
    wpAny P .any ops Q ops.size (nA ops.size false) a w:=by
 obtain⟨E,Hs,d,X,k0,rfl,rfl,rfl,T,b1,b2,⟨so0,b3,b4,b5⟩,b6,b7⟩:=RE ev;have anc:k0<sl.length:=(az.1 b3).1;refine RX S hlen ld ah bV T ra (fun a0 Mg=>by
  have hm:(1000000+a0,0)∈ax:=by simpa[jW] using Mg
  have:=gI.1 eo _ hm;simp only[bQ,decide_eq_true_eq] at this;omega) I En hn (fun i so hs hx=>?_) fun eQ=>?_
 ·by_cases iW:i=k0
  ·subst iW;rw[b3] at hs;cases hs;refine .inr (.inr ⟨Sf b5,fun j hj aq hw=>?_,b4,dv,H',b5,hQ⟩);have mY:j<i:=by
    by_cases h:j<i
    ·exact h
    ·rw[b6 j (by omega)] at hw;cases hw
   refine⟨mY,fun hm=>?_⟩;have:=gI.1 eo (j,i) hm;rw[fE] at hw;simp[hw] at this
  ·obtain⟨h1,h2⟩:=b7 i so hs hx iW;rcases h2 with⟨j',fB,q1,q2,q3,q4⟩ |⟨q1,q2⟩
   ·exact .inl ⟨j',fB,q1,q2,q3,q4⟩
   ·refine .inr (.inl ⟨k0,so0,h1,b1,b3,Sf b5,q1,?_⟩);rw[eS,eS] at q2;exact q2
 ·have:=eQ k0 (by omega);rw[b1] at this;cases this
end Go.Vs
namespace Go.Vs
variable {P : Program}
def wr(ro:Option Nat):Fence:={Fence.wide with round:=ro}
theorem acp(ro:Option Nat)(n:Nat):(wr ro).room n:=room_wide n
theorem Sg(ro:Option Nat):(wr ro).depth.isSome=true→1≤0:=fun h=>by cases h
theorem ri{ro:Option Nat}{n:Nat}{f:FuncId}{args:Array Value}{w:World}{R:Ending→World→Prop}:CallsIn (wr ro) n P f args w R↔Calls P f args w R:=
 (callsIn_wide:CallsIn Fence.wide n P f args w R↔Calls P f args w R)
theorem acq{ro:Option Nat}{n:Nat}{row:String}{args:Array Value}{w:World}{R:Value→World→Prop}(h:Rows P row args w R):RowsIn (wr ro) n P row args w R:=
 fun c cs _=>let⟨v,w',r,s⟩:=h c cs;⟨v,w',r,stepsIn_wide.2 s⟩
def yD(o:Oper):Bool:=match o.op with
 | .defer _=>false
 |_=>true
theorem acr{o:Oper}(h:yD o=true):∀c,o.op≠.defer c:=by
 intro c e;unfold yD at h;rw[e] at h;cases h
theorem upR{ro:Option Nat}{o:Oper}{a:Act}{K:Act→World→Prop}{Q:Exit→Act→World→Prop}{r:Result Next}(h:o.upon P a K Q r):o.uponIn (wr ro) 0 P a K Q r:=by
 unfold Oper.upon at h;unfold Oper.uponIn;split at h
 ·exact h
 ·exact h
 ·exact h
 ·exact⟨Sg ro,ri.2 h⟩
 ·exact⟨Sg ro,acq h⟩
 ·exact h
 ·exact h.elim
theorem Sh{ro:Option Nat}{o:Oper}(hd:yD o=true){a:Act}{w:World}{K:Act→World→Prop}{Q:Exit→Act→World→Prop}(h:o.wp P a w K Q):o.wpIn (wr ro) 0 P a w K Q:=by
 refine⟨fun _ _=>trivial,?_⟩;rw[Oper.semAt_eq _ _ _ (acr hd)];exact upR h
theorem Hz{ro:Option Nat}{ops:Array Oper}{Q:Exit→Act→World→Prop}(hQ:∀a w,¬Q .outgrown a w):∀(l:List Oper),(∀o∈l,yD o=true)→∀a w,wpList P ops Q l a w→wpListIn (wr ro) 0 P ops Q l a w
 |[],_,a,w,h=>h
 |o::l,hl,a,w,h=>by
  simp only[wpList] at h;simp only[wpListIn];split at h
  ·rename_i hw;rw[if_pos hw];rcases h with h |⟨_,a',w',q⟩
   ·exact Sh (hl o (by simp)) (Oper.wp_mono (fun a w q=>Hz hQ l (fun o ho=>hl o (by simp[ho])) a w q) h)
   ·exact(hQ _ _ q).elim
  ·rename_i hw;rw[if_neg hw];exact⟨fun _ _=>trivial,Hz hQ l (fun o ho=>hl o (by simp[ho])) _ _ h⟩
theorem DO{ro:Option Nat}{md:Region.Mode}{ops:Array Oper}{Q:Exit→Act→World→Prop}(hQ:∀a w,¬Q .outgrown a w)(hd:∀o∈ops.toList,yD o=true):∀(fuel:Nat) (listed:Array Bool) (a:Act) (w:World),wpAny P md ops Q fuel listed a w→wpAnyIn (wr ro) 0 P md ops Q fuel listed a w
 | 0,listed,a,w,h=>h
 |fuel+1,listed,a,w,h=>by
  refine⟨h.1,fun i hi=>?_⟩;have h2:=h.2 i hi;unfold wpOp at h2;unfold wpOpIn;cases ho:ops[i]? with
  |none=>
   rw[ho] at h2;exact DO hQ hd fuel _ _ _ h2
  |some o=>
   rw[ho] at h2;dsimp only at h2⊢;split at h2
   ·rename_i hw;rw[if_pos hw];rcases h2 with h2 |⟨_,a',w',q⟩
    ·refine Sh (hd o ?_) (Oper.wp_mono (fun a w q=>DO hQ hd fuel _ a w q) h2);rw[←CO] at ho;exact bS ho
    ·exact(hQ _ _ q).elim
   ·rename_i hw;rw[if_neg hw];exact⟨fun _ _=>trivial,DO hQ hd fuel _ _ _ h2⟩
def Si(P:Program)(l:Nat)(R:Ending→World→Prop):Exit→Act→World→Prop
 | .normal,_,w=>∃v w',(Instr.endRound l none).run P w= .ok v w'∧R (.returned v) w'
 | .ret,_,w=>∃v w',(Instr.endRound l (some .ret)).run P w= .ok v w'∧R (.returned v) w'
 | .exit id,_,w=>∃v w',(Instr.endRound l (some (.exit id))).run P w= .ok v w'∧R (.returned v) w'
 | .panic chain,a,w=>a.defers=[]∧R (.panicked chain) w
 |_,_,_=>False
def gl(ro:Option Nat)(fid:Nat)(P:Program)(c:Code)(Q:Exit→Act→World→Prop)(a:Act)(w:World):Prop:=
 ∀(b:Go.Frame) (k:List Item) (cs:List Go.Frame),b.roundOf=ro→b.fn=fid→
  ∃e a' w',Q e a' w'∧ArrivesIn (Machine.fenced P Fence.wide) P (lone (b.atR a (.code c::k)) cs w) b k cs e a' w'
section
variable {ro : Option Nat} {fid : Nat} {c : Code} {Q : Exit → Act → World → Prop} {a : Act} {w : World}
theorem pE(h:c.wpIn (wr ro) 0 P Q a w):gl ro fid P c Q a w:=fun b k cs hb _=>h b k cs hb trivial (acp _ _)
theorem yE{Q':Exit→Act→World→Prop}(h:gl ro fid P c Q a w)(hq:∀e a w,Q e a w→Q' e a w):gl ro fid P c Q' a w:=fun b k cs hb hf=>
 let⟨e,a',w',q,r⟩:=h b k cs hb hf
 ⟨e,a',w',hq _ _ _ q,r⟩
theorem nc{m m':Machine}(h:step P m= .next m'):StepsIn (Machine.fenced P Fence.wide) P m m':=.one (fenced_wide P m) h
theorem tC{x y:Code}(h:gl ro fid P x (Exit.then (gl ro fid P y Q) Q) a w):gl ro fid P (.seq x y) Q a w:=by
 intro b k cs hb hf;have h0:StepsIn (Machine.fenced P Fence.wide) P (lone (b.atR a (.code (.seq x y)::k)) cs w) _:=nc stepR_seq;obtain⟨e,a1,w1,q,r⟩:=h b (.code y::k) cs hb hf;cases e with
 |normal=>
  obtain⟨e2,a2,w2,q2,r2⟩:=q b k cs hb hf;exact⟨e2,a2,w2,q2,.of_steps (h0.trans r) r2⟩
 |_=>exact⟨_,a1,w1,q,.of_steps h0 (.pass (x:=.code y) rfl (fun _ _=>.inl (by simp)) r)⟩
theorem acu{o:Operand}{x y:Code}{t:Bool}(ho:a.eval o= .bool t)(h:gl ro fid P (if t then x else y) Q a w):gl ro fid P (.cond o x y) Q a w:=by
 intro b k cs hb hf;obtain⟨e,a1,w1,q,r⟩:=h b k cs hb hf;exact⟨e,a1,w1,q,.of_steps (nc (stepR_cond ho)) r⟩
theorem Sj(m:Nat):∀{a:Act} {w:World},(∀R:Nat→Act→World→Prop,(∀a w,¬R 0 a w)→(∀n a w,gl ro fid P c (Exit.then (R n) Q) a w→R (n+1) a w)→R m a w)→gl ro fid P (.loop c) Q a w:=by
 intro a w h b k cs hb hf;have key:=h (fun n a w=>n≠0∧∃e a' w',Q e a' w'∧ArrivesIn (Machine.fenced P Fence.wide) P (lone (b.atR a (.code c:: .inLoop c::k)) cs w) b k cs e a' w') (fun a w q=>q.1 rfl) (fun n a w hn=>by
  refine⟨by omega,?_⟩;obtain⟨e,a1,w1,q,r⟩:=hn b (.inLoop c::k) cs hb hf;cases e with
  |normal=>
   obtain⟨_,e2,a2,w2,q2,r2⟩:=q;exact⟨e2,a2,w2,q2,.of_steps (StepsIn.trans r (nc stepR_inLoop)) r2⟩
  |_=>exact⟨_,a1,w1,q,.pass (x:=.inLoop c) rfl (fun _ _=>.inl (by simp)) r⟩)
 obtain⟨_,e,a1,w1,q,r⟩:=key;exact⟨e,a1,w1,q,.of_steps (nc stepR_loop) r⟩
theorem yF{id:Nat}(h:gl ro fid P c (Exit.inBlock id Q) a w):gl ro fid P (.block id c) Q a w:=by
 intro b k cs hb hf;have h0:StepsIn (Machine.fenced P Fence.wide) P (lone (b.atR a (.code (.block id c)::k)) cs w) _:=nc stepR_block;obtain⟨e,a1,w1,q,r⟩:=h b (.inBlock id::k) cs hb hf;cases e with
 |normal=>exact⟨.normal,a1,w1,q,h0.trans (StepsIn.trans r (nc stepR_inBlock))⟩
 |exit i=>
  by_cases hi:i=id
  ·simp only[Exit.inBlock,hi,if_true] at q;exact⟨.normal,a1,w1,q,h0.trans (r.1 k (by simp[exitTo,hi]))⟩
  ·simp only[Exit.inBlock,hi,if_false] at q;have hx:exitTo i (.inBlock id::k)=exitTo i k:=by
    have :(id==i)=false:=by simpa using fun e=>hi e.symm
    simp[exitTo,this]
   refine⟨.exit i,a1,w1,q,?_,?_⟩
   ·intro k' hk;exact h0.trans (r.1 k' (hx.trans hk))
   ·intro hr hk;obtain⟨k1,g1,g2⟩:=r.2 hr (hx.trans hk);exact⟨k1,g1,h0.trans g2⟩
 |goto l=>
  have hx:gotoIn l (.inBlock id::k)=gotoIn l k:=by simp[gotoIn]
  refine⟨.goto l,a1,w1,q,?_,?_⟩
  ·intro k' hk;exact h0.trans (r.1 k' (hx.trans hk))
  ·intro hr hk;obtain⟨k1,g1,g2⟩:=r.2 hr (hx.trans hk);exact⟨k1,g1,h0.trans g2⟩
 |_=>exact⟨_,a1,w1,q,.of_steps h0 r⟩
theorem acv{b:Go.Frame}{k:List Item}{cs:List Go.Frame}:step P (lone (b.atR a (.code (.scope c)::k)) cs w)= .next (lone (b.atR a (.code c:: .inScope c::k)) cs w):=
 step_lone_go (by simp[stepG,stepG.exec,Go.Frame.atR])
theorem acw{b:Go.Frame}{k:List Item}{cs:List Go.Frame}:step P (lone (b.atR a (.inScope c::k)) cs w)= .next (lone (b.atR a k) cs w):=
 step_lone_go (by simp[stepG,stepG.exec,Go.Frame.atR])
theorem acx(h:gl ro fid P c (Exit.noGoto Q) a w):gl ro fid P (.scope c) Q a w:=by
 intro b k cs hb hf;have h0:StepsIn (Machine.fenced P Fence.wide) P (lone (b.atR a (.code (.scope c)::k)) cs w) _:=nc acv;obtain⟨e,a1,w1,q,r⟩:=h b (.inScope c::k) cs hb hf;cases e with
 |normal=>exact⟨.normal,a1,w1,q,h0.trans (StepsIn.trans r (nc acw))⟩
 |exit i=>
  have hx:exitTo i (.inScope c::k)=exitTo i k:=by simp[exitTo]
  refine⟨.exit i,a1,w1,q,?_,?_⟩
  ·intro k' hk;exact h0.trans (r.1 k' (hx.trans hk))
  ·intro hr hk;obtain⟨k1,g1,g2⟩:=r.2 hr (hx.trans hk);exact⟨k1,g1,h0.trans g2⟩
 |goto l=>exact q.elim
 |_=>exact⟨_,a1,w1,q,.of_steps h0 r⟩
end
theorem Sk{l:Nat}{fid:FuncId}{fnc:Func}(qu:P.funcs[fid]? =some fnc){tmps:Array Value}{assign body:Code}{w:World}{R:Ending→World→Prop}
    (h:gl (some l) fid P assign (Exit.then (fun a₁ w₁=>∃w₂,(Instr.beginRound l).run P w₁= .ok () w₂∧gl (some l) fid P body (Si P l R) a₁ w₂) (fun _ _ _=>False))
     {tmps:=tmps,defers:=[]} w):RoundIn (wr none) 0 P l fid tmps assign body w R:=by
 refine⟨trivial,fun c cs _=>?_⟩;obtain⟨b,hb⟩:∃b:Go.Frame,b={(default:Go.Frame) with fn:=fid,kind:=.normal,roundOf:=some l}:=⟨_,rfl⟩;have b1:b.roundOf=some l:=by rw[hb]
 have b2:b.fn=fid:=by rw[hb]
 have b3:b.kind= .normal:=by rw[hb]
 have ae:Go.Frame.round l fid tmps assign body .normal=b.atR {tmps:=tmps,defers:=[]} [.code assign,.beginRound,.code body]:=by
  rw[hb];simp[Go.Frame.round,Go.Frame.atR]
 rw[ae];obtain⟨e,a1,w1,hq,AU⟩:=h b [.beginRound,.code body] (c::cs) b1 b2;cases e with
 |normal=>
  obtain⟨w2,DP,HA⟩:=hq;have s1:=StepsIn.trans AU (nc (stepR_beginRound (k:=[.code body]) (cs:=c::cs) (a:=a1) b1 DP));obtain⟨e2,a2,w3,mj,HB⟩:=HA b [] (c::cs) b1 b2;cases e2 with
  |normal=>
   obtain⟨v,w4,ju,hR⟩:=mj;exact⟨.returned v,w4,hR,s1.trans (StepsIn.trans HB (nc (stepR_round_end b1 b3 ju)))⟩
  |ret=>
   obtain⟨v,w4,ju,hR⟩:=mj;obtain⟨k1,hs⟩:=HB.2 (by rw[b1];rfl);exact⟨.returned v,w4,hR,s1.trans (StepsIn.trans hs (nc (stepR_round_ret b1 b3 ju)))⟩
  |exit id=>
   obtain⟨v,w4,ju,hR⟩:=mj;obtain⟨k1,hk,hs⟩:=HB.2 (by rw[b1];rfl) rfl;exact⟨.returned v,w4,hR,s1.trans (StepsIn.trans hs (nc (stepR_round_exit b1 b3 hk ju)))⟩
  |panic chain=>
   obtain⟨hd,hR⟩:=mj;obtain⟨todo,hs⟩:=HB;have HC:Go.Frame.leaving P ({b.atR a2 todo with mode:=.panicking chain}:Go.Frame) w3 (.panicked chain):=⟨rfl,hd,fnc,by show P.funcs[b.fn]? =_;rw[b2];exact qu⟩;exact⟨.panicked chain,w3,hR,s1.trans (StepsIn.trans hs (nc (step_leave_panicked HC)))⟩
  |goto t=>exact mj.elim
  |outgrown=>exact mj.elim
 |exit id=>exact hq.elim
 |goto t=>exact hq.elim
 |ret=>exact hq.elim
 |panic chain=>exact hq.elim
 |outgrown=>exact hq.elim
end Go.Vs
namespace Go.Vs
variable {P : Program} {W : World} {G : Nat → Option (List PD)} {γ : Gh} {H : Hp} {w : World}
def Obj.plainO:Obj→Bool
 | .loop _=>true
 | .deferred _=>true
 |_=>false
theorem Inv.Sm(I:Inv G γ H w){b:Nat}{o:Obj}(hb:w.heap[b]? =some o)(ho:Obj.plainO o=true):b∉γ.boxes:=fun h=>by
 obtain⟨i,hi⟩:=eC h;have ah:i<H.bx.length:=by rw[←I.cT];exact(az.1 hi).1
 obtain⟨vs,T,fr,q,_⟩:=I.box i b _ hi (aA ah);unfold oz at q;rw[hb] at q;split at q
 ·cases o<;>first |(cases ho;done) |(simp at q)
 ·cases q;cases ho
theorem Inv.Sn(I:Inv G γ H w){b:Nat}{o:Obj}(hb:w.heap[b]? =some o)(ho:Obj.plainO o=true):¬kE γ H b:=by
 rintro (h |⟨t,row,f,cap,h1,h2,h3,h4⟩)
 ·exact I.Sm hb ho h.mem
 ·obtain⟨r,hr,bV⟩:=I.row t row f h1 h2;rw[h3] at hr;cases hr;obtain⟨cur,fr,q,_⟩:=bV.2 h4;rw[hb] at q;cases q;cases ho
theorem Frame.stands{γ':Gh}{H':Hp}{w':World}(I:Inv G γ H w)(F:Frame γ H w γ' H' w'){b:Nat}{o:Obj}(hb:w.heap[b]? =some o)(ho:Obj.plainO o=true):w'.heap[b]? =some o:=by
 have ah:b<w.heap.size:=(gz.1 hb).1;rcases(F.bP b ah (I.Sn hb ho)).2 with h |⟨cs,T,fr,ct,h1,_⟩
 ·rw[h];exact hb
 ·rw[hb] at h1;cases h1;cases ho
theorem yG{w w':World}{b:Nat}(h:w'.heap[b]? =w.heap[b]?)(o:Nat):w'.cell? ⟨b,o,none⟩=w.cell? ⟨b,o,none⟩:=by
 simp only[World.cell?];rw[h]
theorem Mh{m:Nat→Option Value}{w w':World}{b:Nat}(h:qc m w.heap[b]? w'.heap[b]?)(o:Nat):w'.cell? ⟨b,o,none⟩=w.cell? ⟨b,o,none⟩:=by
 rcases h with h |⟨cs,T,fr,ct,h1,h2,_⟩
 ·exact yG h o
 ·simp only[World.cell?,h1,h2]
theorem Inv.jv(I:Inv G γ H w){b:Nat}{o:Obj}(hb:w.heap[b]? =some o)(ho:Obj.plainO o=true)(o':Obj):Inv G γ H (w.putObj b o'):=by
 have hk:∀k,k≠b→(w.putObj b o').heap[k]? =w.heap[k]?:=fun k h=>World.putObj_heap_other h;have hs:(w.putObj b o').heap.size=w.heap.size:=World.putObj_size;have eU:=I.Sn hb ho;constructor
 ·rw[hs];exact I.size
 ·intro c T n h;obtain⟨vs,fr,h1,h2⟩:=I.br c T n h;have :c≠b:=fun e=>by rw[e,hb] at h1;cases h1;cases ho
  exact⟨vs,fr,by rw[hk c this];exact h1,h2⟩
 ·exact I.iV
 ·intro c j v h;have h1:=I.mem c j v h;have :c≠b:=fun e=>by
   rw[e] at h1;simp only[World.cell?,hb] at h1;cases o<;>first |(cases ho;done) |(simp at h1)
  rw[yG (hk c this)];exact h1
 ·exact I.jQ
 ·exact I.cT
 ·exact I.nodup
 ·intro i c cs h1 h2;have :c≠b:=fun e=>I.Sm hb ho (by rw[←e];exact bS h1);rw[hk c this];exact I.box i c cs h1 h2
 ·exact I.iw
 ·exact I.jE
 ·exact I.fY
 ·intro t row f h1 h2;obtain⟨r,a1,a2⟩:=I.row t row f h1 h2;refine⟨r,a1,a2.keep (fun _ _ h=>h) (fun c cap hr ah=>hk c fun e=>eU (.inr ⟨t,row,f,cap,h1,h2,?_,ah⟩)) (fun _ _ _ _ _=>rfl) (fun _ _ _ _ h=>h)⟩;rw[←e,←hr];exact a1
 ·exact I.jR
 ·exact I.free
theorem bD.jv(I:bD W G γ H w){b:Nat}{o:Obj}(hb:w.heap[b]? =some o)(ho:Obj.plainO o=true)(hW:W.heap.size≤b)(o':Obj):bD W G γ H (w.putObj b o'):=by
 refine⟨I.toInv.jv hb ho o',I.Dq,⟨I.nM.os,I.nM.tape,I.nM.output,?_,fun k hk=>?_⟩,I.own⟩
 ·rw[World.putObj_size];exact I.nM.size
 ·rw[World.putObj_heap_other (by omega)];exact I.nM.block k hk
theorem Frame.jv{γ':Gh}{H':Hp}{w':World}(F:Frame γ H w γ' H' w'){b:Nat}(hb:w.heap.size≤b)(o':Obj):Frame γ H w γ' H' (w'.putObj b o'):=by
 refine⟨F.os,F.tape,F.output,by rw[World.putObj_size];exact F.size,fun k hk ho=>?_,F.mem,F.box,F.uv,F.uw⟩;rw[World.putObj_heap_other (by omega)];exact F.bP k hk ho
theorem Inv.below(I:Inv G γ H w){w':World}(B:RowKit.Below w.heap.size w w'):Frame γ H w γ H w'∧Inv G γ H w':=by
 have hb:∀b,b<w.heap.size→w'.heap[b]? =w.heap[b]?:=fun b h=>B.block b h;refine⟨⟨B.os,B.tape,B.output,B.size,fun b h _=>by rw[hb b h];exact⟨fun _=>rfl,.refl _ _⟩,fun _ _ _ _=>rfl,fun _ h=>.inl h,fun _ _ h=>.inl h,fun _ h=>.inl h⟩,?_⟩;constructor
 ·exact gA I.size B.size
 ·intro b T n h;have:=I.Gt h;rw[hb b this];exact I.br b T n h
 ·exact I.iV
 ·intro b o v h;rw[yG (w:=w) (hb b (I.qP h))];exact I.mem b o v h
 ·exact I.jQ
 ·exact I.cT
 ·exact I.nodup
 ·intro i b cs h1 h2;rw[hb b (I.mP (bS h1))];exact I.box i b cs h1 h2
 ·exact I.iw
 ·exact I.jE
 ·exact I.fY
 ·intro t row f h1 h2;obtain⟨r,a1,a2⟩:=I.row t row f h1 h2;exact⟨r,a1,a2.keep (fun _ _ h=>h) (fun b cap hr ah=>hb b (I.nE ⟨row,f,cap,h1,h2,hr▸a1,ah⟩)) (fun _ _ _ _ _=>rfl) (fun _ _ _ _ h=>h)⟩
 ·exact I.jR
 ·exact I.free
def mark(m:Nat):Deferred:={target:=.collected m,args:=#[]}
def wH(mk:Option Nat)(df l:List Deferred)(w:World):Prop:=
 match mk with
 |none=>l=df
 |some B=>B≤w.heap.size∧∃ms:List Nat,l=ms.map mark++df∧ms.Nodup∧∀m∈ms,B≤m∧w.heap[m]? =some (.deferred (some []))
theorem wH.keep{mk:Option Nat}{df l l':List Deferred}{γ':Gh}{H':Hp}{w':World}(h:wH mk df l w)(I:Inv G γ H w)(F:Frame γ H w γ' H' w')(e:l'=l):wH mk df l' w':=by
 subst e;cases mk with
 |none=>exact h
 |some B=>
  obtain⟨h0,ms,h1,h2,h3⟩:=h;exact⟨gA h0 F.size,ms,h1,h2,fun m hm=>⟨(h3 m hm).1,F.stands I (h3 m hm).2 rfl⟩⟩
def Kept(W:World)(G:Nat→Option (List PD))(γ:Gh)(H:Hp)(ids:List Nat)(A:World):Prop:=∃γ' H',γ.le γ'∧bD W G γ' H' A∧∀i∈ids,H'.bx[i]? =H.bx[i]?
def nO(b:Nat)(A B:World):Prop:=(∀o,B.cell? ⟨b,o,none⟩=A.cell? ⟨b,o,none⟩)∧∀o,A.heap[b]? =some o→Obj.plainO o=true→B.heap[b]? =some o
def sj(P:Program)(W:World)(G:Nat→Option (List PD))(f:Nat)(gen:List D→List D→Hp→Option (List (List D))):Prop:=
 Enters P f∧∀fi cap H xs,gen fi cap H=some xs→∀γ w la lb,bD W G γ H w→cy γ la fi→cy γ lb cap→
  ∃en:Nat→Array Value,(∀k x,xs[k]? =some x→(en k).size=x.length∧∀γ',cy γ' (en k) x)∧
   ∀(l:Nat) (J:Nat→(Nat→Prop)→World→Prop) (X:Ending→World→Prop) (w0:World),RowKit.Below w.heap.size w w0→
    (∀k fb A,J k fb A→Kept W G γ H (oy (.fn f fi cap) H) A)→
    (∀k fb A B,J k fb A→RowKit.Below A.heap.size A B→J k (fun b=>fb b∨(A.heap.size≤b∧b<B.heap.size)) B)→
    (∀k fb A b o o',J k fb A→fb b→A.heap[b]? =some o→Obj.plainO o=true→J k fb (A.putObj b o'))→(∀e A B,X e A→RowKit.Below A.heap.size A B→X e B)→
    (∀e A b o o',X e A→w0.heap.size≤b→A.heap[b]? =some o→Obj.plainO o=true→X e (A.putObj b o'))→
    (∀k fb x A,xs[k]? =some x→J k fb A→YieldAt (wr none) 0 P l (en k) A fun e B=>(A.heap.size≤B.heap.size∧∀b,fb b→nO b A B)∧((e= .returned (.bool true)∧J (k+1) fb B)∨(e= .returned (.bool false)∧X e B)∨∃ch,e= .panicked ch∧X e B))→
    J 0 (fun _=>False) w0→CallsIn (wr none) 0 P f (la++ #[.func (.yield l) #[] #[]]++lb) w0 fun e B=>((∃v,e= .returned v)∧((∃fb,J xs.length fb B)∨X (.returned (.bool false)) B))∨∃ch,e= .panicked ch∧X e B
def SC.fU(P:Program)(W:World)(G:Nat→Option (List PD)):SC→Prop
 | .mJ f gen _ _ a b=>sj P W G f gen∧a.fU P W G∧b.fU P W G
 | .seq a b=>a.fU P W G∧b.fU P W G
 | .cond _ a b=>a.fU P W G∧b.fU P W G
 | .block _ b=>b.fU P W G
 | .loop _ b=>b.fU P W G
 | .scope b=>b.fU P W G
 | .loc b=>b.fU P W G
 | .mI b=>b.fU P W G
 |_=>True
def SC.cZ:SC→Bool
 | .mJ .. =>false
 | .seq a b=>a.cZ&&b.cZ
 | .cond _ a b=>a.cZ&&b.cZ
 | .block _ b=>b.cZ
 | .loop _ b=>b.cZ
 | .scope b=>b.cZ
 | .loc b=>b.cZ
 | .mI b=>b.cZ
 |_=>true
theorem SC.sq:∀{s:SC},s.cZ=true→s.fU P W G
 | .mJ ..,h=>by cases h
 | .seq a b,h=>by simp only[SC.cZ,bQ] at h;exact⟨sq h.1,sq h.2⟩
 | .cond _ a b,h=>by simp only[SC.cZ,bQ] at h;exact⟨sq h.1,sq h.2⟩
 | .block _ b,h=>sq (s:=b) h
 | .loop _ b,h=>sq (s:=b) h
 | .scope b,h=>sq (s:=b) h
 | .loc b,h=>sq (s:=b) h
 | .mI b,h=>sq (s:=b) h
 | .skip,_ | .region ..,_ | .draw ..,_ | .tok ..,_ | .tokb ..,_ | .stuck,_ | .exit _,_ | .ret,_=>trivial
theorem Sq{fid:Nat}{g:Operand}{ps:Array Tmp}{ft body:Code}{Q:Exit→Act→World→Prop}{a:Act}{gf:Nat}{la lb:Array Value}(hg:a.eval g= .func (.func gf) la lb)(rW:Enters P gf)
    (h:Calls P gf (la++ #[.func (.yield (w.heap.size+1)) #[] #[]]++lb) ((w.alloc (.deferred (some []))).alloc (.loop {state:=.ready,pending:=none,fn:=fid,tmps:=a.tmps,params:=ps,assign:=ft,body,defers:=w.heap.size})) fun e B=>match e with
     | .returned _=>∃jump w4,(Instr.endLoop (w.heap.size+1)).run P B= .ok jump w4∧(match jump with
      |none=>Q .normal {a with defers:=mark w.heap.size::a.defers} w4
      |some c=>gl none fid P c Q {a with defers:=mark w.heap.size::a.defers} w4)
     | .panicked ch=>Q (.panic ch) {a with defers:=mark w.heap.size::a.defers} B
     | .outgrown=>False):gl none fid P (.rangeFunc g ps ft body) Q a w:=by
 intro b k cs hb hf;have he:(Instr.enterLoop b.fn a.tmps ps ft body b.roundOf).run P w= .ok (w.heap.size+1,[mark w.heap.size]) ((w.alloc (.deferred (some []))).alloc (.loop {state:=.ready,pending:=none,fn:=fid,tmps:=a.tmps,params:=ps,assign:=ft,body,defers:=w.heap.size})):=by
  rw[hb,hf];exact run_enterLoop_outer ..
 generalize (w.alloc (.deferred (some []))).alloc (.loop {state:=.ready,pending:=none,fn:=fid,tmps:=a.tmps,params:=ps,assign:=ft,body,defers:=w.heap.size})=W1 at he h;have tD:(resolve a.eval (rangeCall g (w.heap.size+1)) 0).run P W1= .ok {target:=.fn (.func gf) lb,args:=la++ #[.func (.yield (w.heap.size+1)) #[] #[]]} W1:=by
  simp only[resolve,hg];simp[go_sem]
 have hinv:(invoke (.fn (.func gf) lb) (la++ #[.func (.yield (w.heap.size+1)) #[] #[]])).run P W1= .ok (.enter gf (la++ #[.func (.yield (w.heap.size+1)) #[] #[]]++lb)) W1:=by
  simp only[invoke];exact LC rW _ _
 have cC:=stepR_rangeFunc (P:=P) (b:=b) (a:=a) (k:=k) (cs:=cs) (w:=w) he tD hinv;obtain⟨e,w3,fr,hR,Ss,_,HC⟩:=h (b.atR {a with defers:=mark w.heap.size::a.defers} (.inRangeFunc (w.heap.size+1)::k)::cs);have lN:StepsIn (Machine.fenced P Fence.wide) P (lone (b.atR a (.code (.rangeFunc g ps ft body)::k)) cs w) _:=nc cC;cases e with
 |outgrown=>exact hR.elim
 |returned v=>
  obtain⟨jump,w4,ju,hj⟩:=hR;have iL:StepsIn (Machine.fenced P Fence.wide) P (lone (Go.Frame.enter P gf (la++ #[.func (.yield (w.heap.size+1)) #[] #[]]++lb) .normal) (b.atR {a with defers:=mark w.heap.size::a.defers} (.inRangeFunc (w.heap.size+1)::k)::cs) W1) _:=stepsIn_wide.2 Ss;have pF:=nc (step_leave_returned (cs:=cs) (c:=b.atR {a with defers:=mark w.heap.size::a.defers} (.inRangeFunc (w.heap.size+1)::k)) HC);rw[finish_atR_inRangeFunc] at pF;have hs3:=nc (stepR_endRangeFunc (b:=b) (a:={a with defers:=mark w.heap.size::a.defers}) (k:=k) (cs:=cs) ju);have eQ:=lN.trans (StepsIn.trans iL (StepsIn.trans pF hs3));cases jump with
  |none=>exact⟨.normal,_,w4,hj,eQ⟩
  |some c=>
   obtain⟨e2,a2,w5,q,r⟩:=hj b k cs hb hf;exact⟨e2,a2,w5,q,.of_steps eQ r⟩
 |panicked ch=>
  have iL:StepsIn (Machine.fenced P Fence.wide) P (lone (Go.Frame.enter P gf (la++ #[.func (.yield (w.heap.size+1)) #[] #[]]++lb) .normal) (b.atR {a with defers:=mark w.heap.size::a.defers} (.inRangeFunc (w.heap.size+1)::k)::cs) W1) _:=stepsIn_wide.2 Ss;have pF:=nc (step_leave_panicked (cs:=cs) (c:=b.atR {a with defers:=mark w.heap.size::a.defers} (.inRangeFunc (w.heap.size+1)::k)) HC);exact⟨.panic ch,_,w3,hR,_,lN.trans (StepsIn.trans iL pF)⟩
variable {P : Program} {W : World} {G : Nat → Option (List PD)}
def HD(P:Program)(nt:Nat)(ops:Array Oper)(hint:Option SK)(o:Oper):Option SO:=
    if(match o.dst with |some t=>decide (t<nt) |none=>true) then
     match o.guard with
     |none=>some ⟨o.dst,qf P o hint,none⟩
     |some (j,want)=>match(ops[j]?).bind (·.dst) with
      |some t=>some ⟨o.dst,qf P o hint,some (t,want)⟩
      |none=>none
    else none
theorem Mi{nt:Nat}{ops:Array Oper}{hint:Option SK}{o:Oper}{so:SO}(h:HD P nt ops hint o=some so):qm P ops nt o so:=by
    have hk:∀k,qf P o hint=k→∃hint,qf P o hint=k:=fun k h=>⟨hint,h⟩;unfold HD at h;obtain⟨dst,op,type,pos,after,guard⟩:=o;generalize hd:(match dst with |some t=>decide (t<nt) |none=>true)=bb at h;cases bb with
    |true=>
     rw[if_pos rfl] at h;have ah:∀t,dst=some t→t<nt:=fun t ht=>by subst ht;simpa using hd
     cases guard with
     |none=>
      cases h;exact⟨hk _ rfl,rfl,ah,rfl,fun j want hj=>by cases hj⟩
     |some jw=>
      obtain⟨j,want⟩:=jw;cases ht:(ops[j]?).bind (·.dst) with
      |none=>simp only[ht] at h;cases h
      |some t=>
       simp only[ht] at h;cases h;exact⟨hk _ rfl,rfl,ah,by simp only[ht],fun j' ane hj=>by cases hj;rw[ht];rfl⟩
    |false=>
     rw[if_neg (by simp)] at h;cases h
def AV(P:Program)(nt:Nat)(ops:Array Oper):List Oper→List SO→Option (List SO)
 |[],_=>some []
 |o::r,hs=>match HD P nt ops (hs.head?.map (·.k)) o with
  |some s=>(AV P nt ops r hs.tail).map (s:: ·)
  |none=>none
def HE(P:Program)(nt:Nat)(ops:Array Oper)(hs:List SO):Option (List SO):=AV P nt ops ops.toList hs
theorem HF{nt:Nat}{ops:Array Oper}:∀{l:List Oper} {hs r:List SO},AV P nt ops l hs=some r→l.length=r.length∧∀(i:Nat) a b,l[i]? =some a→r[i]? =some b→∃h,HD P nt ops h a=some b
 |[],hs,r,h=>by simp only[AV,bI] at h;subst h;exact⟨rfl,fun i a b h=>by simp at h⟩
 |x::l,hs,r,h=>by
  simp only[AV] at h;split at h
  ·rename_i y hy;obtain⟨r',hr,rfl⟩:=au.1 h;obtain⟨h1,h2⟩:=HF hr;refine⟨by simp[h1],fun i a b ha hb=>?_⟩
   match i with
   | 0=>simp only[ew,bI] at ha hb;subst ha;subst hb;exact⟨_,hy⟩
   |i+1=>exact h2 i a b (by simpa using ha) (by simpa using hb)
  ·cases h
theorem HG{α β:Type}{f:α→Option β}:∀{l:List α} {r:List β},aP f l=some r→l.length=r.length∧∀(i:Nat) a b,l[i]? =some a→r[i]? =some b→f a=some b
 |[],r,h=>by simp only[aP,bI] at h;subst h;exact⟨rfl,fun i a b h=>by simp at h⟩
 |x::l,r,h=>by
  simp only[aP] at h;split at h
  ·rename_i y hy;obtain⟨r',hr,rfl⟩:=au.1 h;obtain⟨h1,h2⟩:=HG hr;refine⟨by simp[h1],fun i a b ha hb=>?_⟩
   match i with
   | 0=>simp only[ew,bI] at ha hb;subst ha;subst hb;exact hy
   |i+1=>exact h2 i a b (by simpa using ha) (by simpa using hb)
  ·cases h
structure acz (P:Program) (nt:Nat) (ops:Array Oper) (sl:List SO):Prop where
 len:ops.size=sl.length
 of:∀(i:Nat) o so,ops[i]? =some o→sl[i]? =some so→qm P ops nt o so
 lt:∀(j:Nat) o' t,ops[j]? =some o'→o'.dst=some t→t<nt
theorem Mj{nt:Nat}{ops:Array Oper}{hs sl:List SO}(h:HE P nt ops hs=some sl):acz P nt ops sl:=by
 obtain⟨h1,h2⟩:=HF h;have hlen:ops.size=sl.length:=by simpa using h1
 have ld:∀(i:Nat) o so,ops[i]? =some o→sl[i]? =some so→qm P ops nt o so:=fun i o so ho hs=>by
  obtain⟨hh,q⟩:=h2 i o so (by simpa using ho) hs;exact Mi q
 refine⟨hlen,ld,fun j o' t ho hd=>?_⟩;have hj:j<sl.length:=by rw[←hlen];exact(gz.1 ho).1
 exact(ld j o' sl[j] ho (aA hj)).lt t hd
def dN(P:Program)(nt:Nat):SC→Code→Option SC
 | .loc b,c=>(dN P nt b c).map .loc
 | .skip,.skip=>some .skip
 | .skip,.label _=>some .skip
 | .region keep hs,.region _ ops false=>if ops.toList.all yD then(HE P nt ops hs).map (.region keep) else none
 | .draw keep ax hs,.region _ ops true=>match HE P nt ops hs with
  |some sl=>if AO ax ops.toList sl&&ops.toList.all yD then some (.draw keep ax sl) else none
  |none=>none
 | .mJ f gen _ _ a b,.rangeFunc g ps x y=>match aQ g,dN P nt a x,dN P nt b y with
  |some g',some a',some b'=>if a'.cZ&&b'.cZ&&ps.toList.all (fun p=>decide (p<nt)) then some (.mJ f gen g' ps.toList a' b') else none
  |_,_,_=>none
 | .seq (.tok s e z) b,c=>if s<nt∧0<z then(dN P nt b c).map (.seq (.tok s e z)) else none
 | .seq (.tokb s off e z) b,c=>if s<nt∧0<z then(dN P nt b c).map (.seq (.tokb s off e z)) else none
 | .seq a b,.seq x y=>match dN P nt a x,dN P nt b y with
  |some a',some b'=>some (.seq a' b')
  |_,_=>none
 | .cond _ a b,.cond c x y=>match aQ c,dN P nt a x,dN P nt b y with
  |some c',some a',some b'=>some (.cond c' a' b')
  |_,_,_=>none
 | .block _ b,.block id x=>(dN P nt b x).map (.block id)
 | .loop keep b,.loop x=>(dN P nt b x).map (.loop keep)
 | .scope b,.scope x=>(dN P nt b x).map .scope
 | .exit _,.exit id=>some (.exit id)
 | .ret,.ret=>some .ret
 | .mI b,c=>(dN P nt b c).map .mI
 | .stuck,_=>some .stuck
 |_,_=>none
def nP(W:World)(G:Nat→Option (List PD))(nt:Nat)(mk:Option Nat)(df:List Deferred)(Q:Exit→Act→World→Prop)(γ:Gh)(H:Hp)(w:World)(out:Out)(s':St):Prop:=
 ∀γ' a' w',γ.le γ'→Frame γ H w γ' s'.hp w'→bD W G γ' s'.hp w'→wH mk df a'.defers w'→
  match out with
  | .norm=>a'.tmps.size=nt→bh γ' s'.env a'.tmps→Q .normal a' w'
  | .exit id=>a'.tmps.size=nt→bh γ' s'.env a'.tmps→Q (.exit id) a' w'
  | .ret=>a'.tmps.size=nt→bh γ' s'.env a'.tmps→Q .ret a' w'
  | .bR d=>a'.tmps.size=nt→bh γ' s'.env a'.tmps→∀v,aL γ' v d→Q (.panic [{v,recovered:=false}]) a' w'
theorem nP.later{nt:Nat}{mk:Option Nat}{df:List Deferred}{Q:Exit→Act→World→Prop}{γ γ1:Gh}{H H1:Hp}{w w1:World}{out:Out}{s':St}(h:nP W G nt mk df Q γ H w out s')(L:γ.le γ1)(F:Frame γ H w γ1 H1 w1):nP W G nt mk df Q γ1 H1 w1 out s':=
 fun γ' a' w' l f=>h γ' a' w' (L.trans l) (F.trans L.base f)
theorem nP.other{nt:Nat}{mk:Option Nat}{df:List Deferred}{Q Q':Exit→Act→World→Prop}{γ:Gh}{H:Hp}{w:World}{out:Out}{s':St}(h:nP W G nt mk df Q γ H w out s')
    (hq:∀e a w,(match out with | .norm=>e= .normal | .exit id=>e= .exit id | .ret=>e= .ret | .bR _=>∃ch,e= .panic ch)→Q e a w→Q' e a w):nP W G nt mk df Q' γ H w out s':=by
 intro γ' a' w' h1 h2 h3 h5;have:=h γ' a' w' h1 h2 h3 h5;cases out with
 |norm=>exact fun m e=>hq _ _ _ rfl (this m e)
 |exit id=>exact fun m e=>hq _ _ _ rfl (this m e)
 |ret=>exact fun m e=>hq _ _ _ rfl (this m e)
 |bR d=>exact fun m e v hv=>hq _ _ _ ⟨_,rfl⟩ (this m e v hv)
theorem Su{γ:Gh}{H H':Hp}{w:World}{v:Value}{d d':D}{e sz:Nat}(I:Inv G γ H w)(h:qa e sz d H=some (d',H'))(hv:aL γ v d):∃γ',γ.le γ'∧Frame γ H w γ' H' w∧Inv G γ' H' w∧aL γ' v d':=by
 unfold qa at h;split at h
 ·cases h;have AG:=hv.bY.qg;subst AG
  let row:Row:=⟨e,sz,fun n=>if n=0 then some none else none⟩
  obtain⟨b1,b2,b3⟩:=I.Gu row 0 none rfl (fun n x hx=>by
   simp only[row] at hx;split at hx
   ·omega
   ·cases hx) rfl (fun _ _ h=>by cases h) (fun n b cap hx=>by
   simp only[row] at hx;split at hx<;>cases hx)
  refine⟨_,b1,b2,b3,?_⟩;exact .bk _ _ _ _ _ row none (by show(γ.rows++[row])[H.tk.length]? =_;rw[←I.fY];simp) rfl rfl (.kD _ _ _) rfl rfl
 ·rename_i e' bF es;split at h
  ·rename_i hc;obtain⟨rfl,rfl,_⟩:=hc;cases h;cases hv with
   |cI b n _ _ iz x8 dP hlen gY=>
    subst hlen
    let row:Row:=⟨e',bF,fun n=>if n=es.length then some (some (b,es.length)) else none⟩
    obtain⟨b1,b2,b3⟩:=I.Gu row es.length (some (b,es.length)) (by simp[row]) (fun n x hx=>by
     simp only[row] at hx;split at hx
     ·omega
     ·cases hx) ⟨⟨aV _,dP⟩,fun h=>by omega⟩ (fun _ _ h=>by cases h;rfl) (fun n b' cap hx=>by
     simp only[row] at hx;split at hx
     ·cases hx;exact x8
     ·cases hx)
    refine⟨_,b1,b2,b3,?_⟩;exact .bk _ _ _ _ _ row (some (b,es.length)) (by show(γ.rows++[row])[H.tk.length]? =_;rw[←I.fY];simp) rfl rfl (gY.mono b1.mem) (by simp[row]) rfl
  ·cases h
 ·rename_i t e' bF es;split at h
  ·rename_i hc;obtain⟨rfl,rfl⟩:=hc;cases h;exact⟨γ,.refl γ,.refl γ H w,I,hv⟩
  ·cases h
 ·cases h
theorem bh.tok{γ γ':Gh}{env:Env}{tmps:Array Value}(E:bh γ env tmps)(L:γ.le γ'){s:Nat}{d:D}(h:aL γ' (tmps.getD s undef) d):bh γ' ((s,d)::env) tmps:=fun t=>by
 simp only[Env.get];split
 ·rename_i hs;subst hs;exact h
 ·exact(E t).mono L
theorem Inv.acA{γ:Gh}{H:Hp}{w:World}(I:Inv G γ H w){i b k:Nat}{cs:List D}{d d':D}(hb:γ.boxes[i]? =some b)(hc:H.bx[i]? =some cs)(hd:cs[k]? =some d)(h1:d'.one=true)(jF:aU cs=false)(hr:∀vs T fr,w.heap[b]? =some (.cells vs T fr)→aL γ (vs.getD k undef) d'):
    Frame γ H w γ {H with bx:=H.bx.set i (cs.set k d')} w∧Inv G γ {H with bx:=H.bx.set i (cs.set k d')} w:=by
 have hi:i<H.bx.length:=(az.1 hc).1;have hk:k<cs.length:=(az.1 hd).1;have nF:cs≠[]:=fun e=>by subst e;simp at hk
 have dK:∀t c,cY γ {H with bx:=H.bx.set i (cs.set k d')} t c→cY γ H t c:=fun t c h=>cY.congr (fun _ _ h=>h) (fun _ _ h=>h) h;refine⟨⟨rfl,rfl,rfl,aV _,fun _ _ _=>⟨fun _=>rfl,.refl _ _⟩,fun _ _ _ _=>rfl,fun _ h=>.inl (Lv.set hc nF h),fun t b h=>.inl (dK t b h),fun _ h=>.inl h⟩,I.size,I.br,I.iV,I.mem,I.jQ,by simp[I.cT],I.Gs hc nF,?_,fun c o h=>I.iw c o (Lv.set hc nF h),fun j c hj ak=>by
  have ak:(H.bx.set i (cs.set k d'))[j]? =some []:=ak;by_cases cQ:i=j
  ·subst cQ;rw[j9 hi] at ak;have h0:(cs.set k d').length=0:=by simp at ak;rw[ak];rfl
   simp at h0;exact(nF h0).elim
  ·rw[dH cQ] at ak;exact I.jE j c hj ak,I.fY,I.row,I.jR,fun t t' b h h'=>I.free t t' b (dK t b h) (dK t' b h')⟩
 intro j c bL hj ak;by_cases cQ:i=j
 ·subst cQ;rw[hb] at hj;cases hj;have ak:(H.bx.set i (cs.set k d'))[i]? =some bL:=ak;rw[j9 hi] at ak;cases ak;obtain⟨vs,T,fr,q1,q2,q3,q4⟩:=I.box i b cs hb hc;rw[iU jF] at q1;have q3:=q3 jF;have eQ:∀x∈cs.set k d',x.one=true:=fun x hx=>by
   rcases Kd hx with h |h
   ·exact q3 x h
   ·subst h;exact h1
  refine⟨vs,T,fr,(iU (C0 eQ) _).trans q1,⟨by simpa using q2.1,fun m x hm=>?_⟩,fun _=>eQ,fun hn=>q4 (fun e=>hn (by subst e;rfl))⟩
  ·by_cases Mk:k=m
   ·subst Mk;rw[j9 hk] at hm;cases hm;exact hr vs T fr q1
   ·rw[dH Mk] at hm;exact q2.2 m x hm
 ·have ak:(H.bx.set i (cs.set k d'))[j]? =some bL:=ak;rw[dH cQ] at ak;exact I.box j c bL hj ak
theorem acB{e sz:Nat}{d d':D}{H H':Hp}(h:qa e sz d H=some (d',H')):H'.bx=H.bx∧d'.one=true:=by
 unfold qa at h;split at h
 ·cases h;exact⟨rfl,rfl⟩
 ·split at h<;>cases h;exact⟨rfl,rfl⟩
 ·split at h<;>cases h;exact⟨rfl,rfl⟩
 ·cases h
theorem acC{γ:Gh}{w:World}{slot off e sz:Nat}{s s':St}{tmps:Array Value}(I:Inv G γ s.hp w)(h:Gc slot off e sz s=some s')(E:bh γ s.env tmps):∃γ',γ.le γ'∧Frame γ s.hp w γ' s'.hp w∧Inv G γ' s'.hp w∧bh γ' s'.env tmps:=by
 unfold Gc at h;split at h
 ·rename_i i o acD;split at h
  ·rename_i cs ak;split at h
   ·cases h;exact⟨γ,.refl γ,.refl γ _ w,I,E⟩
   rename_i hm;have hm:aU cs=false:=by simpa using hm
   split at h
   ·rename_i d hd;split at h
    ·rename_i d' H' ht;cases h;have hb:=E slot;rw[acD] at hb;generalize tmps.getD slot undef=v at hb;cases hb with
     |box _ _ b mW=>
      obtain⟨vs,T,fr,q1,q2,q3,q4⟩:=I.box i b cs mW ak;rw[iU hm] at q1;obtain⟨γ',L,F,J,V⟩:=Su I ht (q2.2 _ d hd);obtain⟨t1,t2⟩:=acB ht;obtain⟨F2,J2⟩:=J.acA (L.boxes _ _ mW) (by rw[t1];exact ak) hd t2 hm (fun cv T' ct hw=>by
       rw[q1] at hw;cases hw;exact V)
      exact⟨γ',L,F.trans L.base F2,J2,fun t=>(E t).mono L⟩
    ·cases h;exact⟨γ,.refl γ,.refl γ _ w,I,E⟩
   ·cases h
  ·cases h
 ·cases h;exact⟨γ,.refl γ,.refl γ _ w,I,E⟩
def Gh.cut(γ:Gh)(nb nt:Nat):Gh:={γ with boxes:=γ.boxes.take nb,rows:=γ.rows.take nt}
theorem Ml{n i j:Nat}(h:below n i=some j):i<n∧j=i:=by
 unfold below at h;split at h
 ·rename_i hi;cases h;exact⟨hi,rfl⟩
 ·cases h
theorem Sv(γ:Gh)(nb nt:Nat):Ren γ (γ.cut nb nt) (below nb) (below nt):=by
 refine⟨rfl,fun _ _ h=>h,fun _ _ _ h=>h,fun i j b hi hb=>?_,fun t u row ht hr=>?_⟩
 ·obtain⟨h1,rfl⟩:=Ml hi;show(γ.boxes.take nb)[j]? =some b;rw[o7 h1];exact hb
 ·obtain⟨h1,rfl⟩:=Ml ht;refine⟨row,?_,rfl,rfl,fun _ _ h=>h⟩;show(γ.rows.take nt)[u]? =some row;rw[o7 h1];exact hr
theorem pG{α:Type}{l:List α}{n i:Nat}{a:α}(h:(l.take n)[i]? =some a):i<n∧l[i]? =some a:=by
 rw[j7] at h;split at h
 ·exact⟨‹_›,h⟩
 ·cases h
theorem Mm{γ:Gh}{H:Hp}{bx:List (List D)}{nb nt:Nat}{t b:Nat}(h:cY (γ.cut nb nt) ⟨bx,H.tk.take nt⟩ t b):cY γ H t b:=by
 obtain⟨row,f,cap,h1,h2,h3,h4⟩:=h;exact⟨row,f,cap,(pG h1).2,(pG h2).2,h3,h4⟩
theorem HH{γ:Gh}{H:Hp}{w:World}(_:Inv G γ H w){nb nt:Nat}(_:nb≤H.bx.length){bx:List (List D)}(hr:aP (D.ba (below nb) (below nt)) (H.bx.take nb)=some bx){i b:Nat}{cs:List D}(h1:(γ.cut nb nt).boxes[i]? =some b)(h2:bx[i]? =some cs):
    γ.boxes[i]? =some b∧∃c0,H.bx[i]? =some c0∧D.ba (below nb) (below nt) c0=some cs:=by
 obtain⟨hi,uH⟩:=pG h1;obtain⟨c0,q1,q2⟩:=po hr h2;rw[o7 hi] at q1;exact⟨uH,c0,q1,q2⟩
theorem Sw{γ:Gh}{H:Hp}{w:World}(J:Inv G γ H w){nb nt:Nat}(hb:nb≤H.bx.length){bx:List (List D)}{tk:List Nat}(hr:aP (D.ba (below nb) (below nt)) (H.bx.take nb)=some bx){b:Nat}(h:Lv (γ.cut nb nt) ⟨bx,tk⟩ b):Lv γ H b:=by
 obtain⟨i,cs,h1,h2,h3⟩:=h;obtain⟨q1,c0,q2,q3⟩:=HH J hb hr h1 h2;exact⟨i,c0,q1,q2,mf q3 h3⟩
theorem Sx{bi ti:Nat→Option Nat}{c0:List D}(h:D.ba bi ti c0=some []):c0=[]:=by
 cases c0 with
 |nil=>rfl
 |cons d r=>have:=(pz h).1;simp at this
theorem acE{γ:Gh}{H:Hp}{w:World}(J:Inv G γ H w){nb nt:Nat}(hb:nb≤H.bx.length)(ht:nt≤H.tk.length){bx:List (List D)}(hr:aP (D.ba (below nb) (below nt)) (H.bx.take nb)=some bx):
    Inv G (γ.cut nb nt) ⟨bx,H.tk.take nt⟩ w:=by
 obtain⟨hl,hg⟩:=HG hr;have nG:bx.length=nb:=by rw[←hl];simp;omega
 refine⟨J.size,J.br,fun t row n b cap h1 h2=>J.iV t row n b cap (pG h1).2 h2,J.mem,J.jQ,?_,fun i j b ci cj h1 h2 h3 h4 n1 n2=>?_,fun i b cs h1 h2=>?_,fun b o h=>J.iw b o (Sw J hb hr h),fun i b h1 h2=>?_,?_,fun t row f h1 h2=>?_,fun t row f h1 h2=>J.jR t row f (pG h1).2 (pG h2).2,fun t t' b h h'=>J.free t t' b (Mm h) (Mm h')⟩
 ·have:=J.cT;show(γ.boxes.take nb).length=bx.length;rw[nG];simp;omega
 ·obtain⟨q1,c0,q2,q3⟩:=HH J hb hr h1 h3;obtain⟨r1,c1,r2,r3⟩:=HH J hb hr h2 h4;exact J.nodup i j b c0 c1 q1 r1 q2 r2 (mf q3 n1) (mf r3 n2)
 ·obtain⟨hi,uH⟩:=pG h1;have hc:(H.bx.take nb)[i]? =some (H.bx[i]'(by omega)):=by rw[o7 hi];exact aA _
  have mh:=hg i _ cs hc h2;obtain⟨vs,T,fr,q1,q2,q3,q4⟩:=J.box i b _ uH (aA (by omega));exact⟨vs,T,fr,(Gm (yq mh) _).trans q1,GY (Sv γ nb nt) q2 mh,fun hm=>GZ mh (q3 ((yq mh).symm.trans hm)),fun hn=>q4 (mf mh hn)⟩
 ·obtain⟨q1,c0,q2,q3⟩:=HH J hb hr h1 h2;have:=Sx q3;subst this;exact J.jE i b q1 q2
 ·have:=J.fY;show(γ.rows.take nt).length=(H.tk.take nt).length;simp;omega
 ·obtain⟨r,q1,q2⟩:=J.row t row f (pG h1).2 (pG h2).2;refine⟨r,q1,?_⟩;cases r with
  |none=>exact q2
  |some bc=>
   refine⟨q2.1,fun hf=>?_⟩;obtain⟨cur,fr,a1,a2,a3,a4,a5,a6⟩:=q2.2 hf;exact⟨cur,fr,a1,a2,a3,a4,a5,fun h=>a6 (j8 h)⟩
theorem Sy{nt:Nat}{mk:Option Nat}{df:List Deferred}{Q:Exit→Act→World→Prop}{γ:Gh}{H:Hp}{w:World}(I:bD W G γ H w){x:Out×St}(h:nP W G nt mk df Q γ H w (dJ H.bx.length H.tk.length x).1 (dJ H.bx.length H.tk.length x).2):nP W G nt mk df Q γ H w x.1 x.2:=by
 unfold dJ at h;split at h
 ·rename_i hc;split at h
  ·rename_i bx o bX ho;intro γ' a' w' L F J hd;have R:=Sv γ' H.bx.length H.tk.length;have L2:γ.le (γ'.cut H.bx.length H.tk.length):=by
    refine⟨L.base,L.br,L.mem,fun i b hi=>?_,fun t r ht=>?_⟩
    ·have fk:i<H.bx.length:=by rw[←I.cT];exact(az.1 hi).1
     show(γ'.boxes.take H.bx.length)[i]? =some b;rw[o7 fk];exact L.boxes i b hi
    ·have uW:t<H.tk.length:=by rw[←I.fY];exact(az.1 ht).1
     obtain⟨r',q1,q2⟩:=L.rows t r ht;refine⟨r',?_,q2⟩;show(γ'.rows.take H.tk.length)[t]? =some r';rw[o7 uW];exact q1
   have F2:Frame γ H w (γ'.cut H.bx.length H.tk.length) ⟨bx,x.2.hp.tk.take H.tk.length⟩ w':=
    ⟨F.os,F.tape,F.output,F.size,F.bP,F.mem,fun b hb=>F.box b (Sw J.toInv hc.1 bX hb),fun t b hb=>F.uv t b (Mm hb),fun b hb=>F.uw b (j8 hb)⟩
   have J2:=I.up L2 F2 (acE J.toInv hc.1 hc.2 bX);have:=h _ a' w' L2 F2 J2 hd;have hE:bh γ' x.2.env a'.tmps→bh (γ'.cut H.bx.length H.tk.length) (x.2.env.map fun y=>(y.1,(y.2.ren (below H.bx.length) (below H.tk.length)).getD .dead)) a'.tmps:=fun E t=>by
    have jt:∀(e:Env),Env.get (e.map fun y=>(y.1,(y.2.ren (below H.bx.length) (below H.tk.length)).getD .dead)) t=((e.get t).ren (below H.bx.length) (below H.tk.length)).getD .dead:=by
     intro e
     induction e with
     |nil=>rfl
     |cons y e ih=>
      obtain⟨s,d⟩:=y;simp only[dA,Env.get];split
      ·rfl
      ·exact ih
    rw[jt];cases mh:(x.2.env.get t).ren (below H.bx.length) (below H.tk.length) with
    |none=>exact .dead _
    |some d'=>exact yp R (E t) mh
   obtain⟨xo,xs⟩:=x;cases xo with
   |norm=>cases ho;exact fun m E=>this m (hE E)
   |exit id=>cases ho;exact fun m E=>this m (hE E)
   |ret=>cases ho;exact fun m E=>this m (hE E)
   |bR d=>
    obtain⟨d',bH,rfl⟩:=au.1 ho;exact fun m E v hv=>this m (hE E) v (yp R hv bH)
  ·exact h
 ·exact h
section
variable {γ : Gh} {H : Hp} {w : World}
def rj(γ:Gh)(H:Hp)(nb b:Nat):Prop:=∃(i:Nat) (cs:List D),nb≤i∧γ.boxes[i]? =some b∧H.bx[i]? =some cs∧cs≠[]
theorem rj.lv{γ:Gh}{H:Hp}{nb b:Nat}(h:rj γ H nb b):Lv γ H b:=by
 obtain⟨i,cs,_,h1,h2,h3⟩:=h;exact⟨i,cs,h1,h2,h3⟩
open Classical in
noncomputable def Gh.jY (γ:Gh) (H:Hp) (w:World) (nb:Nat):Gh:=
 {γ with mem:=fun b o=>if rj γ H nb b then(match w.heap[b]? with |some (.cells vs _ _)=>vs[o]? |_=>none) else γ.mem b o}
noncomputable def Gh.uX (γ:Gh) (H:Hp) (w:World) (nb:Nat):Gh:={γ.jY H w nb with boxes:=γ.boxes.take nb}
theorem Gh.DQ{γ:Gh}{H:Hp}{w:World}{nb b o:Nat}(h:¬rj γ H nb b):(γ.jY H w nb).mem b o=γ.mem b o:=by simp[Gh.jY,h]
theorem Gh.DR(I:Inv G γ H w)(nb:Nat):γ.le (γ.jY H w nb):=by
 refine⟨rfl,fun _ _ h=>h,fun b o v h=>?_,fun _ _ h=>h,fun t r h=>⟨r,h,rfl,rfl,fun _ _ h=>h⟩⟩;rw[Gh.DQ]
 ·exact h
 ·intro hb;rw[I.iw b o hb.lv] at h;cases h
theorem Gh.HI{γ:Gh}{H:Hp}{w:World}{nb b:Nat}{vs:Array Value}{T:Nat}{fr:Nat×Nat}(h:rj γ H nb b)(hw:w.heap[b]? =some (.cells vs T fr))(o:Nat):(γ.jY H w nb).mem b o=vs[o]?:=by simp[Gh.jY,h,hw]
theorem Gh.acF{γ:Gh}{H:Hp}{w:World}{nb b:Nat}{es:Array MapEntry}{ck:Nat}(h:rj γ H nb b)(hw:w.heap[b]? =some (.map es ck)){o:Nat}:(γ.jY H w nb).mem b o=none:=by simp[Gh.jY,h,hw]
theorem DS{k:Nat}{H:Hp}:∀(f:Nat) (d:D),d.one=true→(d.aH k H f).one=true
 | 0,d,h=>h
 |f+1,d,h=>by
  cases d<;>simp only[D.aH]<;>first |exact h |(simp[D.one] at h;done) |skip
  ·split<;>rfl
  ·split
   ·split
    ·split
     ·rfl
     ·split<;>rfl
    ·rfl
   ·rfl
  ·split
   ·split
    ·split
     ·split<;>rfl
     ·rfl
    ·rfl
   ·rfl
  ·split<;>rfl
  ·split
   ·split
    ·split
     ·split<;>rfl
     ·rfl
    ·rfl
   ·rfl
theorem rk(J:Inv G γ H w){nb:Nat}:∀(f:Nat) {v:Value} {d:D},aL (γ.jY H w nb) v d→aL (γ.jY H w nb) v (d.aH nb H f)
 | 0,v,d,r=>r
 |f+1,v,d,r=>by
  have hle:=Gh.DR J nb;have box:∀(i b:Nat) (cs:List D) (j:Nat),nb≤i→γ.boxes[i]? =some b→H.bx[i]? =some cs→j<cs.length→rj γ H nb b:=fun i b cs j hi hb hc hj=>
   ⟨i,cs,hi,hb,hc,fun e=>by subst e;simp at hj⟩
  cases r with
  |box i off b hb=>
   simp only[D.aH];split
   ·rename_i hk;split
    ·rename_i cs ak;split
     ·exact .box i off b hb
     rename_i hm;have hm:aU cs=false:=by simpa using hm
     split
     ·rename_i ps nH;obtain⟨vs,T,fr,q1,q2,q3,_⟩:=J.box i b cs hb ak;rw[iU hm] at q1;have q3:=q3 hm;obtain⟨l1,l2⟩:=yi nH;have ey:∀j,j<cs.length→(γ.jY H w nb).mem b j=vs[j]?:=fun j hj=>Gh.HI (γ:=γ) (H:=H) (w:=w) (nb:=nb) (box i b cs j hk hb ak hj) q1 j;have hl:ps.length=cs.length:=by rw[l1];simp
      have q:=aL.ro (γ:=γ.jY H w nb) b 0 off ps (fun j=>vs.getD j undef) (fun j hj=>by
       rw[eS,ey j (by omega)];have :j<vs.size:=by have:=q2.1;omega
       simp[bN,this]) (fun j c hc=>by
       obtain⟨d0,a1,a2⟩:=l2 j c hc;simp only[cP,au] at a1;obtain⟨d1,dL,rfl⟩:=a1;exact⟨yj (rk J f ((q2.2 j d1 dL).mono hle)) a2,Df a2 (DS f d1 (q3 d1 (bS dL)))⟩)
      rw[eS] at q;exact q
     ·exact .box i off b hb
    ·exact .box i off b hb
   ·exact .box i off b hb
  |bu i off n c sz b cp hb hc dO=>
   simp only[D.aH];split
   ·rename_i hk;split
    ·rename_i cs ak;split
     ·rename_i fx;obtain⟨hm,fx,hs⟩:=fx;split
      ·rename_i ps nH;obtain⟨vs,T,fr,q1,q2,q3,_⟩:=J.box i b cs hb ak;rw[iU hm] at q1;have q3:=q3 hm;obtain⟨l1,l2⟩:=yi nH;have ey:∀j,j<cs.length→(γ.jY H w nb).mem b j=vs[j]?:=fun j hj=>Gh.HI (γ:=γ) (H:=H) (w:=w) (nb:=nb) (box i b cs j hk hb ak hj) q1 j;have cg:ps.length=n*sz:=by rw[l1,cx,wo _ _ _ fx];omega
       have gP:∀(j:Nat) c,ps[j]? =some c→aZ (γ.jY H w nb).mem (vs.getD (off+j) undef) c∧c.one=true:=fun j c hc=>by
        obtain⟨d0,a1,a2⟩:=l2 j c hc;simp only[cP,au] at a1;obtain⟨d1,dL,rfl⟩:=a1;have ja:=dL;rw[pq] at ja;split at ja
        ·exact⟨yj (rk J f ((q2.2 _ d1 ja).mono hle)) a2,Df a2 (DS f d1 (q3 d1 (bS ja)))⟩
        ·cases ja
       have DT:∀p∈ps,p.one=true:=fun p hp=>by
        obtain⟨j,hj⟩:=eC hp;exact(gP j p hj).2
       obtain⟨c1,c2⟩:=GN hs n ps cg DT;have ah:∀k j,k<n→j<sz→k*sz+j<n*sz:=fun k j hk hj=>by
        calc k*sz+j<k*sz+sz:=by omega
         _=(k+1)*sz:=by rw[fM,og]
         _≤n*sz:=kz _ hk
       have q:=aZ.sl (m:=(γ.jY H w nb).mem) b off cp sz (chunks sz n ps) (fun k j=>vs.getD (off+(k*sz+j)) undef) (by rw[c1];exact hc) (fun e he=>by
        obtain⟨k,hk⟩:=eC he;have iA:k<n:=by rw[←c1];exact(az.1 hk).1
        have h0:=ah k 0 iA hs;have h1:=ah k (sz-1) iA (by omega);rw[c2 k e hk];simp;omega) (fun e he c gC=>by
        obtain⟨k,hk⟩:=eC he;rw[c2 k e hk] at gC;exact DT c (sU (j8 gC))) (fun k j hk hj=>by
        rw[c1] at hk;have:=ah k j hk hj;rw[ey _ (by omega)];have lY:off+k*sz+j<vs.size:=by have:=q2.1;omega
        rw[←vQ];simp[bN,lY]) (fun k e j c hk hc=>by
        have iA:k<n:=by rw[←c1];exact(az.1 hk).1
        rw[c2 k e hk,j7] at hc;split at hc
        ·rw[oZ] at hc;exact(gP _ c hc).1
        ·cases hc)
       rw[c1] at q;exact .p _ _ q
      ·exact .bu i off n c sz b cp hb hc dO
     ·exact .bu i off n c sz b cp hb hc dO
    ·exact .bu i off n c sz b cp hb hc dO
   ·exact .bu i off n c sz b cp hb hc dO
  |aB i e n sz b cp hb hc gC bW dP=>
   simp only[D.aH];split
   ·rename_i hk;split
    ·rename_i cs ak;split
     ·rename_i fx;obtain⟨hm,fx,hs⟩:=fx;split
      ·rename_i ps nH;obtain⟨vs,T,fr,q1,q2,q3,_⟩:=J.box i b cs hb ak;rw[iU hm] at q1;have q3:=q3 hm;obtain⟨l1,l2⟩:=yi nH;have ey:∀j,j<cs.length→(γ.jY H w nb).mem b j=vs[j]?:=fun j hj=>Gh.HI (γ:=γ) (H:=H) (w:=w) (nb:=nb) (box i b cs j hk hb ak hj) q1 j;have cg:ps.length=n*sz:=by rw[l1,cx,wo _ _ _ fx];omega
       have gP:∀(j:Nat) c,ps[j]? =some c→aZ (γ.jY H w nb).mem (vs.getD (0+j) undef) c∧c.one=true:=fun j c hc=>by
        obtain⟨d0,a1,a2⟩:=l2 j c hc;simp only[cP,au] at a1;obtain⟨d1,dL,rfl⟩:=a1;have ja:=dL;rw[pq] at ja;split at ja
        ·exact⟨yj (rk J f ((q2.2 _ d1 ja).mono hle)) a2,Df a2 (DS f d1 (q3 d1 (bS ja)))⟩
        ·cases ja
       have DT:∀p∈ps,p.one=true:=fun p hp=>by
        obtain⟨j,hj⟩:=eC hp;exact(gP j p hj).2
       obtain⟨c1,c2⟩:=GN hs n ps cg DT;have ah:∀k j,k<n→j<sz→k*sz+j<n*sz:=fun k j hk hj=>by
        calc k*sz+j<k*sz+sz:=by omega
         _=(k+1)*sz:=by rw[fM,og]
         _≤n*sz:=kz _ hk
       have q:=aZ.sl (m:=(γ.jY H w nb).mem) b 0 cp sz (chunks sz n ps) (fun k j=>vs.getD (0+(k*sz+j)) undef) (by rw[c1];exact hc) (fun e' he=>by
        obtain⟨k,hk⟩:=eC he;have iA:k<n:=by rw[←c1];exact(az.1 hk).1
        have h0:=ah k 0 iA hs;have h1:=ah k (sz-1) iA (by omega);rw[c2 k e' hk];simp;omega) (fun e' he c gC=>by
        obtain⟨k,hk⟩:=eC he;rw[c2 k e' hk] at gC;exact DT c (sU (j8 gC))) (fun k j hk hj=>by
        rw[c1] at hk;have:=ah k j hk hj;rw[ey _ (by omega)];have lY:0+k*sz+j<vs.size:=by have:=q2.1;omega
        rw[←vQ];rw[bN,pY lY];rfl) (fun k e' j c hk hc=>by
        have iA:k<n:=by rw[←c1];exact(az.1 hk).1
        rw[c2 k e' hk,j7] at hc;split at hc
        ·rw[oZ] at hc;exact(gP _ c hc).1
        ·cases hc)
       rw[c1] at q;exact .p _ _ q
      ·exact .aB i e n sz b cp hb hc gC bW dP
     ·exact .aB i e n sz b cp hb hc gC bW dP
    ·exact .aB i e n sz b cp hb hc gC bW dP
   ·exact .aB i e n sz b cp hb hc gC bW dP
  |agg cs ds hl dE hr=>
   simp only[D.aH];refine Db ⟨by simpa using hl,fun i d hd=>?_⟩ (fun d hd=>?_)
   ·simp only[cP,au] at hd;obtain⟨d1,dL,rfl⟩:=hd;exact rk J f (hr i d1 dL)
   ·obtain⟨d1,dL,rfl⟩:=dz.1 hd;exact DS f d1 (dE d1 dL)
  |bA cs ds hl hr=>
   simp only[D.aH];refine .bA cs _ (by simpa using hl) fun i d hd=>?_;simp only[cP,au] at hd;obtain⟨d1,dL,rfl⟩:=hd;exact rk J f (hr i d1 dL)
  |eE t v d h=>
   simp only[D.aH];have q:=rk J f h;split
   ·rename_i y hy;rw[hy] at q;exact .p _ _ (.iface t v y q.bY)
   ·exact .eE t v _ q
  |dead v=>exact .dead v
  |undef=>exact .undef
  |p v x h=>exact .p v x h
  |cI b n e sz es a1 a2 a3 a4=>exact .p _ _ (yj (.cI b n e sz es a1 a2 a3 a4) rfl)
  |bk v t e sz es row r a1 a2 a3 a4 a5 a6=>exact .bk v t e sz es row r a1 a2 a3 a4 a5 a6
  |eD g off=>exact .eD g off
  |ro b o off cs vs a1 a2=>exact .ro b o off cs vs a1 a2
  |fn f0 as cs ds es a1 a2 a3 a4=>
   simp only[D.aH];refine .fn f0 as cs _ _ (by simpa using a1) (fun i d hd=>?_) (by simpa using a3) (fun i d hd=>?_)
   ·simp only[cP,au] at hd;obtain⟨d1,dL,rfl⟩:=hd;exact rk J f (a2 i d1 dL)
   ·simp only[cP,au] at hd;obtain⟨d1,dL,rfl⟩:=hd;exact rk J f (a4 i d1 dL)
  |ff a sz=>exact .ff a sz
  |gK a n sz es hn hx=>exact .gK a n sz es hn hx
  |fN b n cap d a1 a2 a3=>exact .fN b n cap d a1 a2 a3
  |iH q=>exact .iH q
  |fresh T n i b a1 a2=>exact .fresh T n i b a1 a2
  |bU i b a1=>exact .bU i b a1
  |bB as cs kd ks ds s a1 a2 a3 a4 a5 a6 a7 a8 a9=>exact .bB as cs kd ks ds s a1 a2 a3 a4 a5 a6 a7 a8 a9
theorem acG{k:Nat}{H:Hp}:∀(f:Nat) (d:D),Dl (D.aH k H f d)=Dl d
 | 0,d=>rfl
 |f+1,d=>by
  cases d with
  |bu i off n c sz=>
   simp only[D.aH];split
   ·split
    ·split
     ·split<;>rfl
     ·rfl
    ·rfl
   ·rfl
  |aB i e n sz=>
   simp only[D.aH];split
   ·split
    ·split
     ·split<;>rfl
     ·rfl
    ·rfl
   ·rfl
  |box i off=>
   simp only[D.aH];split
   ·split
    ·split
     ·rfl
     ·split<;>rfl
    ·rfl
   ·rfl
  |agg cs=>simp only[D.aH,ec];split<;>rfl
  |eE t d=>simp only[D.aH];split<;>rfl
  |_=>rfl
theorem acH{k:Nat}{H:Hp}(f:Nat)(cs:List D):aU (cs.map (D.aH k H f))=aU cs:=by
 match cs with
 |[]=>rfl
 |[d]=>rw[dA,mF,GW,GW,acG]
 |d::e::r=>rw[dA,dA,GX,GX]
theorem Mn(γ:Gh)(H:Hp)(w:World)(nb:Nat):Ren (γ.jY H w nb) (γ.uX H w nb) (below nb) some:=by
 refine⟨rfl,fun _ _ h=>h,fun _ _ _ h=>h,fun i j b hi hb=>?_,fun t u row ht hr=>?_⟩
 ·obtain⟨h1,rfl⟩:=Ml hi;show(γ.boxes.take nb)[j]? =some b;rw[o7 h1];exact hb
 ·cases ht;exact⟨row,hr,rfl,rfl,fun _ _ h=>h⟩
theorem Sz{k:Nat}{H:Hp}{cs:List D}{i:Nat}{d:D}(h:(pk k H cs)[i]? =some d):∃d1,cs[i]? =some d1∧(d=d1∨d=d1.aH k H 8):=by
 unfold pk at h;split at h
 ·exact⟨d,h,.inl rfl⟩
 ·simp only[cP,au] at h;obtain⟨d1,dL,rfl⟩:=h;exact⟨d1,dL,.inr rfl⟩
theorem SA(k:Nat)(H:Hp)(cs:List D):(pk k H cs).length=cs.length:=by unfold pk;split<;>simp
theorem acI(k:Nat)(H:Hp)(cs:List D):aU (pk k H cs)=aU cs:=by
 unfold pk;split
 ·rfl
 ·exact acH 8 cs
theorem SB(I:Inv G γ H w){γ':Gh}{Hx:Hp}{w':World}(L:γ.le γ')(F:Frame γ H w γ' Hx w')(J:Inv G γ' Hx w'){bx:List (List D)}(bX:aP (fun cs=>D.ba (below H.bx.length) some (pk H.bx.length Hx cs)) (Hx.bx.take H.bx.length)=some bx)(fZ:H.bx.length≤Hx.bx.length):
    γ.le (γ'.uX Hx w' H.bx.length)∧Frame γ H w (γ'.uX Hx w' H.bx.length) ⟨bx,Hx.tk⟩ w'∧Inv G (γ'.uX Hx w' H.bx.length) ⟨bx,Hx.tk⟩ w':=by
     have nJ:γ.boxes.length=H.bx.length:=I.cT;have anf:γ'.boxes.length=Hx.bx.length:=J.cT;have DU:∀b,rj γ' Hx H.bx.length b→b<w.heap.size→Lv γ H b:=fun b hb ah=>by
      rcases F.box b hb.lv with q |q
      ·exact q
      ·omega
     have SD:∀b,Lv (γ'.uX Hx w' H.bx.length) ⟨bx,Hx.tk⟩ b→Lv γ' Hx b∧¬rj γ' Hx H.bx.length b:=fun b hb=>by
      obtain⟨i,cs,h1,h2,h3⟩:=hb;obtain⟨pH,bp⟩:=pG h1;obtain⟨c0,q1,q2⟩:=po bX h2;rw[o7 pH] at q1;have js:c0≠[]:=fun e=>mf q2 h3 (by rw[e];rfl);refine⟨⟨i,c0,bp,q1,js⟩,fun hd=>?_⟩;obtain⟨j,cj,a1,a2,a3,a4⟩:=hd;have:=J.nodup i j b c0 cj bp a2 q1 a3 js a4;omega
     have hM:=Gh.DR J H.bx.length;have R:=Mn γ' Hx w' H.bx.length;have dK:∀t b,cY (γ'.uX Hx w' H.bx.length) ⟨bx,Hx.tk⟩ t b→cY γ' Hx t b:=fun t b h=>cY.congr (fun _ _ h=>h) (fun _ _ h=>h) h;refine⟨?_,?_,?_⟩
     ·refine⟨L.base,L.br,fun b o v h=>hM.mem _ _ _ (L.mem _ _ _ h),fun i b h=>?_,L.rows⟩;show(γ'.boxes.take H.bx.length)[i]? =some b;rw[o7 (by rw[←nJ];exact(az.1 h).1)];exact L.boxes i b h
     ·refine⟨F.os,F.tape,F.output,F.size,fun b hb ho=>?_,fun b o hb ho=>?_,fun b hb=>F.box b (SD b hb).1,fun t b h=>F.uv t b (dK t b h),fun b hb=>F.uw b (j8 hb)⟩
      ·obtain⟨q1,q2⟩:=F.bP b hb ho;refine⟨q1,?_⟩;exact(qc.refl (γ'.mem b) _).trans q2 (fun _ h=>h) |>.trans (qc.refl _ _) (fun j hj=>by
        show(γ'.jY Hx w' H.bx.length).mem b j≠none;cases hm:γ'.mem b j with
        |none=>exact absurd hm hj
        |some v=>rw[hM.mem _ _ _ hm];simp)
      ·have gj:¬rj γ' Hx H.bx.length b:=fun h=>ho (.inl (DU b h hb));exact(Gh.DQ gj).trans (F.mem b o hb ho)
     ·obtain⟨hl,hg⟩:=HG bX;have fA:bx.length=H.bx.length:=by rw[←hl];simp;omega
      constructor
      ·exact J.size
      ·exact J.br
      ·exact J.iV
      ·intro b o v h;by_cases hd:rj γ' Hx H.bx.length b
       ·obtain⟨j,cj,Ht,hj,oE,hj3⟩:=hd;have hd:rj γ' Hx H.bx.length b:=⟨j,cj,Ht,hj,oE,hj3⟩;obtain⟨vs,T,fr,q1,_⟩:=J.box _ b _ hj oE;have h:(γ'.jY Hx w' H.bx.length).mem b o=some v:=h;have hm:aU cj=false:=by
         cases hm:aU cj with
         |false=>rfl
         |true=>
          exfalso;simp only[oz,hm,if_true] at q1;split at q1
          ·rename_i es ck rS;rw[Gh.acF hd rS] at h;cases h
          ·cases q1
        rw[iU hm] at q1;rw[Gh.HI hd q1] at h;simp only[World.cell?,q1];simpa using h
       ·have h:(γ'.jY Hx w' H.bx.length).mem b o=some v:=h;rw[Gh.DQ hd] at h;exact J.mem b o v h
      ·intro g cs hgl j c hc;obtain⟨h1,v,h2,h3⟩:=J.jQ g cs hgl j c hc;exact⟨h1,v,hM.mem _ _ _ h2,h3.mono hM.mem⟩
      ·show(γ'.boxes.take H.bx.length).length=bx.length;rw[fA];simp;omega
      ·intro i j b ci cj h1 h2 h3 h4 n1 n2;obtain⟨pH,bp⟩:=pG h1;obtain⟨hj1,oE⟩:=pG h2;obtain⟨c0,q1,q2⟩:=po bX h3;obtain⟨c1,r1,r2⟩:=po bX h4;rw[o7 pH] at q1;rw[o7 hj1] at r1;exact J.nodup i j b c0 c1 bp oE q1 r1 (fun e=>mf q2 n1 (by rw[e];rfl)) (fun e=>mf r2 n2 (by rw[e];rfl))
      ·intro i b cs h1 h2;obtain⟨hi,uH⟩:=pG h1;have fC:i<Hx.bx.length:=by omega
       have hc:(Hx.bx.take H.bx.length)[i]? =some (Hx.bx[i]'fC):=by rw[o7 hi];exact aA _
       have mh:=hg i _ cs hc h2;obtain⟨vs,T,fr,q1,q2,q3,q4⟩:=J.box i b _ uH (aA fC);have kY:=(yq mh).trans (acI _ _ _);refine⟨vs,T,fr,(Gm kY _).trans q1,GY R ⟨by rw[SA];exact q2.1,fun k d hd=>?_⟩ mh,fun hm=>GZ mh (fun d hd=>?_),fun hn=>q4 (fun e=>mf mh hn (by rw[e];rfl))⟩
       ·obtain⟨d1,dL,rfl |rfl⟩:=Sz hd
        ·exact(q2.2 k d dL).mono hM
        ·exact rk J 8 ((q2.2 k d1 dL).mono hM)
       ·obtain⟨k,hk⟩:=eC hd;obtain⟨d1,dL,rfl |rfl⟩:=Sz hk
        ·exact q3 (kY.symm.trans hm) d (bS dL)
        ·exact DS 8 d1 (q3 (kY.symm.trans hm) d1 (bS dL))
      ·intro b o hb;obtain⟨k1,k2⟩:=SD b hb;show(γ'.jY Hx w' H.bx.length).mem b o=none;rw[Gh.DQ k2];exact J.iw b o k1
      ·intro i b h1 h2;obtain⟨pH,bp⟩:=pG h1;obtain⟨c0,q1,q2⟩:=po bX h2;rw[o7 pH] at q1;have h0:c0=[]:=by have:=Sx q2;exact tY (by rw[←SA H.bx.length Hx,this];rfl)
       subst h0;exact J.jE i b bp q1
      ·exact J.fY
      ·intro t row f h1 h2;obtain⟨q,a1,a2⟩:=J.row t row f h1 h2;refine⟨q,a1,a2.keep (fun _ _ h=>h) (fun _ _ _ _=>rfl) (fun b cap hq ah o=>?_) (fun b cap hq ah hb cb=>hb (j8 cb))⟩;subst hq;obtain⟨_,_,_,_,_,_,_,Ly⟩:=a2.2 ah;exact Gh.DQ fun hd=>Ly hd.lv.mem
      ·exact J.jR
      ·exact fun t t' b h h'=>J.free t t' b (dK t b h) (dK t' b h')
theorem acM{nt:Nat}{mk:Option Nat}{df:List Deferred}{Q:Exit→Act→World→Prop}{γ:Gh}{H:Hp}{w:World}(I:bD W G γ H w){x:Out×St}(h:nP W G nt mk df Q γ H w (wh H.bx.length x).1 (wh H.bx.length x).2):nP W G nt mk df Q γ H w x.1 x.2:=by
 unfold wh at h;split at h
 ·rename_i bx o bX ho;split at h
  ·rename_i fZ;intro γ' a' w' L F J hd;obtain⟨L2,F2,J2⟩:=SB I.toInv L F J.toInv bX fZ;have:=h _ a' w' L2 F2 (I.up L2 F2 J2) hd;have gY:∀v d d',aL γ' v d→(d.aH H.bx.length x.2.hp 8).ren (below H.bx.length) some=some d'→aL (γ'.uX x.2.hp w' H.bx.length) v d':=fun v d d' hv hr=>
    yp (Mn γ' x.2.hp w' H.bx.length) (rk J.toInv 8 (hv.mono (Gh.DR J.toInv H.bx.length))) hr
   have hE:bh γ' x.2.env a'.tmps→bh (γ'.uX x.2.hp w' H.bx.length) (x.2.env.map fun y=>(y.1,((y.2.aH H.bx.length x.2.hp 8).ren (below H.bx.length) some).getD .dead)) a'.tmps:=fun E t=>by
    have jt:∀(e:Env),Env.get (e.map fun y=>(y.1,((y.2.aH H.bx.length x.2.hp 8).ren (below H.bx.length) some).getD .dead)) t=(((e.get t).aH H.bx.length x.2.hp 8).ren (below H.bx.length) some).getD .dead:=by
     intro e
     induction e with
     |nil=>rfl
     |cons y e ih=>
      obtain⟨s,d⟩:=y;simp only[dA,Env.get];split
      ·rfl
      ·exact ih
    rw[jt];cases mh:((x.2.env.get t).aH H.bx.length x.2.hp 8).ren (below H.bx.length) some with
    |none=>exact .dead _
    |some d'=>exact gY _ _ _ (E t) mh
   obtain⟨xo,xs⟩:=x;cases xo with
   |norm=>cases ho;exact fun m E=>this m (hE E)
   |exit id=>cases ho;exact fun m E=>this m (hE E)
   |ret=>cases ho;exact fun m E=>this m (hE E)
   |bR d=>
    obtain⟨d',bH,rfl⟩:=au.1 ho;exact fun m E v hv=>this m (hE E) v (gY _ _ _ hv bH)
  ·exact h
 ·exact h
end
theorem SE{γ:Gh}:∀(ps:List Nat) (x:List D) (vs:List Value) (env:Env) (tmps:Array Value),bh γ env tmps→(∀p∈ps,p<tmps.size)→vs.length=x.length→(∀(i:Nat) d v,x[i]? =some d→vs[i]? =some v→aL γ v d)→
    bh γ (mN env ps x) ((ps.zip vs).foldl (fun t (y:Nat×Value)=>t.setIfInBounds y.1 y.2) tmps)∧((ps.zip vs).foldl (fun t (y:Nat×Value)=>t.setIfInBounds y.1 y.2) tmps).size=tmps.size
 |[],x,vs,env,tmps,E,_,_,_=>by
  cases x<;>exact⟨E,rfl⟩
 |p::ps,[],[],env,tmps,E,_,_,_=>⟨E,rfl⟩
 |p::ps,[],_::_,env,tmps,E,_,hl,_=>by cases hl
 |p::ps,d::x,[],env,tmps,E,_,hl,_=>by cases hl
 |p::ps,d::x,v::vs,env,tmps,E,hp,hl,hr=>by
  have E':=E.put (hp p (by simp)) (hr 0 d v rfl rfl);obtain⟨h1,h2⟩:=SE ps x vs ((p,d)::env) (tmps.setIfInBounds p v) E' (fun q hq=>by rw[Yz];exact hp q (by simp[hq])) (by simpa using hl) (fun i d' v' h1 h2=>hr (i+1) d' v' h1 h2);refine⟨h1,?_⟩;rw[List.zip_cons_cons,Af,h2,Yz]
theorem acN{γ:Gh}{ps:Array Nat}{x:List D}{vs:Array Value}{env:Env}{tmps:Array Value}(E:bh γ env tmps)(hp:∀p∈ps.toList,p<tmps.size)(hr:cy γ vs x):
    bh γ (mN env ps.toList x) ((ps.zip vs).foldl (fun t (p,v)=>t.setIfInBounds p v) tmps)∧((ps.zip vs).foldl (fun t (p,v)=>t.setIfInBounds p v) tmps).size=tmps.size:=by
 have h:=SE ps.toList x vs.toList env tmps E hp (by rw[qE];exact hr.1) (fun i d v h1 h2=>by
  have:=hr.2 i d h1;have hi:i<vs.size:=by rw[hr.1];exact(az.1 h1).1
  rw[CO] at h2;simpa[bN,h2] using this)
 rw[←YA,Array.toList_zip];exact h
def SG(W:World)(G:Nat→Option (List PD))(γ:Gh)(H:Hp)(w:World)(ea eb:St→Option (Out×St))(env:Env)(ps:List Nat)(ids:List Nat)(xs:List (List D))(r:Out×St)(rec:Loop)(k:Nat)(fb:Nat→Prop)(A:World):Prop:=
 ∃Hk γk,(∀i∈ids,Hk.bx[i]? =H.bx[i]?)∧(∀b,fb b→b<A.heap.size∧w.heap.size+1<b∧¬kE γk Hk b)∧kV ea eb env ps (Gd ids H) (xs.drop k) Hk=some r∧γ.le γk∧Frame γ H w γk Hk A∧bD W G γk Hk A∧A.heap[w.heap.size+1]? =some (.loop rec)∧A.heap[w.heap.size]? =some (.deferred (some []))
def Mp(W:World)(G:Nat→Option (List PD))(γ:Gh)(H:Hp)(w:World)(r:Out×St)(rec:Loop)(e:Ending)(B:World):Prop:=
 ∃γ',γ.le γ'∧Frame γ H w γ' r.2.hp B∧bD W G γ' r.2.hp B∧B.heap[w.heap.size]? =some (.deferred (some []))∧
  match e with
  | .returned _=>∃j,((r.1= .ret∧j=Code.ret)∨∃id,r.1= .exit id∧j=Code.exit id)∧B.heap[w.heap.size+1]? =some (.loop {rec with state:=.done,pending:=some j})
  | .panicked ch=>∃d v,r.1= .bR d∧ch=[{v,recovered:=false}]∧aL γ' v d
  | .outgrown=>False
theorem bD.below{γ:Gh}{H:Hp}{w w':World}(I:bD W G γ H w)(B:RowKit.Below w.heap.size w w'):bD W G γ H w':=I.up (.refl γ) (I.toInv.below B).1 (I.toInv.below B).2
theorem Frame.below{γ γ':Gh}{H H':Hp}{w A B:World}(F:Frame γ H w γ' H' A)(h:RowKit.Below A.heap.size A B):Frame γ H w γ' H' B:=by
 refine⟨h.os.trans F.os,h.tape.trans F.tape,h.output.trans F.output,gA F.size h.size,fun k hk ho=>?_,F.mem,F.box,F.uv,F.uw⟩;rw[h.block k (xF hk F.size)];exact F.bP k hk ho
theorem HJ{A B:World}(h:RowKit.Below A.heap.size A B){b:Nat}{o:Obj}(hb:A.heap[b]? =some o):B.heap[b]? =some o:=by
 rw[h.block b (gz.1 hb).1];exact hb
theorem DV{c:bC}(S:Sound P W G c)(hm:P.follows .mixedOrders=true){it:It}(jK:∀b s r,it b s=some r→∃m,iter b m s=some r){nt:Nat}:
    ∀(sc:SC) (cd:Code) (kj:SC),dN P nt sc cd=some kj→∀{ro:Option Nat} {fid:Nat} {mk:Option Nat} {df:List Deferred},kj.fU P W G→(kj.cZ=true∨(ro=none∧(∃B,mk=some B)∧∃fnc,P.funcs[fid]? =some fnc))→∀(Q:Exit→Act→World→Prop) (γ:Gh) (s:St) (a:Act) (w:World) (out:Out) (s':St),(∀a w,¬Q .outgrown a w)→ay c G it kj s=some (out,s')→
     bD W G γ s.hp w→bh γ s.env a.tmps→a.tmps.size=nt→wH mk df a.defers w→nP W G nt mk df Q γ s.hp w out s'→gl ro fid P cd Q a w:=by
 intro sc cd
 fun_induction dN P nt sc cd
 all_goals (intro kj h ro fid mk df hG hr Q γ s a w out s' hQ he I E hn hd hp)
 case case1 b cd ih=>
  obtain⟨b',hb,rfl⟩:=au.1 h;simp only[ay] at he;obtain⟨x,hx,heq⟩:=au.1 he;have h1:out=(dJ s.hp.bx.length s.hp.tk.length x).1:=by rw[heq]
  have h2:s'=(dJ s.hp.bx.length s.hp.tk.length x).2:=by rw[heq]
  rw[h1,h2] at hp;exact ih b' hb hG hr Q γ s a w x.1 x.2 hQ hx I E hn hd (Sy I hp)
 case case2=>
  cases h;simp only[ay] at he;cases he;exact pE (wpIn_skip (hp γ a w (.refl γ) (.refl γ _ w) I hd hn E))
 case case3=>
  cases h;simp only[ay] at he;cases he;exact pE (wpIn_label (hp γ a w (.refl γ) (.refl γ _ w) I hd hn E))
 case case4 keep hs id ops gj=>
  obtain⟨sl,dk,rfl⟩:=au.1 h;have gj:=gI.1 gj;have o:=Mj dk;simp only[ay] at he;have hl:ops.toList.length=sl.length:=by simpa using o.len
  have ld:∀(i:Nat) x so,ops.toList[i]? =some x→sl[i]? =some so→qm P ops nt x so:=fun i x so hx hs=>o.of i x so (by simpa using hx) hs;split at he
  ·rename_i gi H' cD;cases he;refine pE (wpIn_region_list (Hz hQ _ gj _ _ (LH S o.lt ops.toList sl γ s.env s.hp a w hl ld I E hn _ cD (fun γ' e2 H2 a' w' hr L F J E' cO bH=>?_) (fun γ' d e2 H2 v a' w' hr _ _ _ _ _ _ _=>by cases hr))));cases hr;exact hp γ' a' w' L F J (hd.keep I.toInv F bH) cO (E'.keep keep)
  ·rename_i d gi H' cD;cases he;refine pE (wpIn_region_list (Hz hQ _ gj _ _ (LH S o.lt ops.toList sl γ s.env s.hp a w hl ld I E hn _ cD (fun γ' e2 H2 a' w' hr _ _ _ _ _ _=>by cases hr) (fun γ' d e2 H2 v a' w' hr L F J V E' cO bH=>?_))));cases hr;exact hp γ' a' w' L F J (hd.keep I.toInv F bH) cO E' v V
  ·cases he
 case case6 keep ax hs id ops sl dk hdr=>
  cases h;rw[bQ] at hdr;have gj:=gI.1 hdr.2;have o:=Mj dk;simp only[ay] at he;split at he
  ·rename_i gi H' cs cD;split at he
   ·rename_i qq;cases he;refine pE (wpIn_region_any hm (DO hQ gj _ _ _ _ (acm S o.len o.of o.lt hdr.1 cD qq (w:=w.drew) (I.up (.refl γ) (Frame.drew γ s.hp w) I.toInv.drew) E hn fun γ' a' w' L F J E' cO bH=>?_)));have F2:=(Frame.drew γ s.hp w).trans rfl F;exact hp γ' a' w' L F2 J (hd.keep I.toInv F2 bH) cO (E'.keep keep)
   ·cases he
  ·split at he
   ·rename_i d H' cs k cD;split at he
    ·rename_i qq;cases he;rw[bQ] at qq;refine pE (wpIn_region_any hm (DO hQ gj _ _ _ _ (acn S o.len o.of o.lt hdr.1 cD qq.1 qq.2 (w:=w.drew) (I.up (.refl γ) (Frame.drew γ s.hp w) I.toInv.drew) E hn fun γ' v a' w' L F J V E' cO bH=>?_)));have F2:=(Frame.drew γ s.hp w).trans rfl F;exact hp γ' a' w' L F2 J (hd.keep I.toInv F2 bH) cO E' v V
    ·cases he
   ·cases he
 case case9 f gen _ _ sa sb g ps x y g' a' b' hb ha hg hcnd fI fJ=>
  cases h;simp only[bQ] at hcnd;obtain⟨⟨na,nb⟩,nH⟩:=hcnd;have nH:∀p∈ps.toList,p<nt:=fun p hp=>by simpa using gI.1 nH p hp
  rcases hr with hr |⟨rfl,⟨B0,rfl⟩,fnc,qu⟩
  ·cases hr
  obtain⟨⟨rW,acO⟩,ga,gb⟩:=hG;simp only[ay] at he;split at he
  ·rename_i xs gh;have SH:=bT E hg;unfold CZ at gh;split at gh
   ·rename_i f' fi cap HK;split at gh
    ·rename_i lO;subst lO;rw[HK] at SH;obtain⟨as,lb,hgv,r1,r2⟩:=SH.GC;obtain⟨en,hen,SI⟩:=acO fi cap s.hp xs gh γ w as lb I r1 r2;rw[HK] at he;generalize uJ:oy (.fn f' fi cap) s.hp=ids at SI he;obtain⟨rec,jZ⟩:∃rec:Loop,rec={state:=.ready,pending:=none,fn:=fid,tmps:=a.tmps,params:=ps,assign:=x,body:=y,defers:=w.heap.size}:=⟨_,rfl⟩;obtain⟨W1,yH⟩:∃W1,(w.alloc (.deferred (some []))).alloc (.loop rec)=W1:=⟨_,rfl⟩;have hL1:W1.heap[w.heap.size+1]? =some (.loop rec):=by
      rw[←yH];have:=World.alloc_heap_new (w.alloc (.deferred (some []))) (.loop rec);rwa [World.size_alloc] at this
     have hK1:W1.heap[w.heap.size]? =some (.deferred (some [])):=by
      rw[←yH];exact(RowKit.Below.heap_alloc _ _ _ (by simp)).trans (World.alloc_heap_new w _)
     have uY:RowKit.Below w.heap.size w W1:=by
      rw[←yH];exact((RowKit.Below.refl _ w).alloc (aV _) _).alloc (by simp) _
     have hWw:=I.nM.size;have acT:∀k fb z A,xs[k]? =some z→SG W G γ s.hp w (ay c G it a') (ay c G it b') s.env ps.toList ids xs (out,s') rec k fb A→
         YieldAt (wr none) 0 P (w.heap.size+1) (en k) A fun e B=>(A.heap.size≤B.heap.size∧∀b,fb b→nO b A B)∧((e= .returned (.bool true)∧SG W G γ s.hp w (ay c G it a') (ay c G it b') s.env ps.toList ids xs (out,s') rec (k+1) fb B)∨(e= .returned (.bool false)∧Mp W G γ s.hp w (out,s') rec e B)∨∃ch,e= .panicked ch∧Mp W G γ s.hp w (out,s') rec e B):=by
      rintro k fb z A hz ⟨Hk,γk,hkp,HL,cD,Lk,Fk,Ik,rh,hdk⟩;obtain⟨dC,her⟩:=hen k z hz;have DU:xs.drop k=z::xs.drop (k+1):=by
       obtain⟨ah,rfl⟩:=az.1 hz;exact FX ah
      rw[DU] at cD;simp only[kV] at cD;split at cD
      ·cases cD
      rename_i AH;have AH:z.length=ps.toList.length:=Classical.not_not.1 AH;have hy:=run_yield (P:=P) (args:=en k) rh (by rw[dC,jZ,AH];simp);rw[jZ] at hy;have G2:(Instr.yield (w.heap.size+1) (en k)).run P A= .ok (.round (w.heap.size+1) fid ((ps.zip (en k)).foldl (fun t (p,v)=>t.setIfInBounds p v) a.tmps) x y) A:=hy;refine⟨_,_,_,_,G2,Sk qu ?_⟩;obtain⟨E1,iL⟩:=acN (E.mono Lk) (fun p hp=>by rw[hn];exact nH p hp) (her γk);split at cD
      ·rename_i s1 hea;refine fI a' ha (ro:=some (w.heap.size+1)) (fid:=fid) (mk:=none) (df:=[]) ga (.inl na) _ γk ⟨mN s.env ps.toList z,Hk⟩ _ A .norm s1 (fun _ _ h=>h) hea Ik E1 (by rw[iL,hn]) rfl fun γ1 a1 w1 L1 F1 J1 dL iJ E2=>?_;have dL:a1.defers=[]:=dL;have ml:=F1.stands Ik.toInv rh rfl;have iK:=F1.stands Ik.toInv hdk rfl;have DP:=run_beginRound (P:=P) ml (by rw[jZ]);refine⟨_,DP,?_⟩;have J2:=J1.jv ml rfl (by omega) (.loop {rec with state:=.busy});have Mq:=(Fk.trans Lk.base F1).jv (b:=w.heap.size+1) (by omega) (.loop {rec with state:=.busy});have kI:(w1.putObj (w.heap.size+1) (.loop {rec with state:=.busy})).heap[w.heap.size+1]? =some (.loop {rec with state:=.busy}):=World.putObj_heap_same (gz.1 ml).1;have bW:(w1.putObj (w.heap.size+1) (.loop {rec with state:=.busy})).heap[w.heap.size]? =some (.deferred (some [])):=(World.putObj_heap_other (by omega)).trans iK;have Mr:∀b,fb b→b<(w1.putObj (w.heap.size+1) (.loop {rec with state:=.busy})).heap.size∧¬kE γ1 s1.hp b∧nO b A (w1.putObj (w.heap.size+1) (.loop {rec with state:=.busy})):=fun b hb=>by
        obtain⟨b1,b2,b3⟩:=HL b hb;refine⟨by rw[World.putObj_size];exact xF b1 F1.size,fun ho=>?_,fun o=>?_,fun o h1 h2=>?_⟩
        ·rcases F1.own b ho with q |q
         ·exact b3 q
         ·omega
        ·rw[yG (w:=w1) (World.putObj_heap_other (by omega))];exact Mh (F1.bP b b1 b3).2 o
        ·exact(World.putObj_heap_other (by omega)).trans (F1.stands Ik.toInv h1 h2)
       have wy:A.heap.size≤(w1.putObj (w.heap.size+1) (.loop {rec with state:=.busy})).heap.size:=by rw[World.putObj_size];exact F1.size
       generalize w1.putObj (w.heap.size+1) (.loop {rec with state:=.busy})=w2 at J2 Mq kI bW Mr wy;have Ms:∀(j:Option Code) (γ3:Gh) (H3:Hp) (w3:World),γ1.le γ3→Frame γ1 s1.hp w2 γ3 H3 w3→bD W G γ3 H3 w3→∃w4,(Instr.endRound (w.heap.size+1) j).run P w3= .ok (.bool j.isNone) w4∧γ.le γ3∧Frame γ s.hp w γ3 H3 w4∧bD W G γ3 H3 w4∧w4.heap[w.heap.size+1]? =some (.loop {rec with state:=if j.isNone then .ready else .done,pending:=j})∧w4.heap[w.heap.size]? =some (.deferred (some []))∧A.heap.size≤w4.heap.size∧∀b,fb b→(b<w4.heap.size∧w.heap.size+1<b∧¬kE γ3 H3 b)∧nO b A w4:=by
        intro j γ3 H3 w3 L3 F3 J3;have DW:=F3.stands J2.toInv kI rfl;have su:=F3.stands J2.toInv bW rfl;have wx:=run_endRound (P:=P) j DW;exact⟨_,wx,Lk.trans (L1.trans L3),(Mq.trans (L1.base.trans Lk.base) F3).jv (by omega) _,J3.jv DW rfl (by omega) _,World.putObj_heap_same (gz.1 DW).1,(World.putObj_heap_other (by omega)).trans su,by rw[World.putObj_size];exact gA wy F3.size,fun b hb=>by
         obtain⟨_,b2,_⟩:=HL b hb;obtain⟨c1,c2,c3⟩:=Mr b hb;refine⟨⟨by rw[World.putObj_size];exact xF c1 F3.size,b2,fun ho=>?_⟩,fun o=>?_,fun o h1 h2=>?_⟩
         ·rcases F3.own b ho with q |q
          ·exact c2 q
          ·omega
         ·rw[yG (w:=w3) (World.putObj_heap_other (by omega)),←c3.1 o];exact Mh (F3.bP b c1 c2).2 o
         ·exact(World.putObj_heap_other (by omega)).trans (F3.stands J2.toInv (c3.2 o h1 h2) h2)⟩
       split at cD
       ·rename_i s2 Mt;split at cD
        case isFalse=>cases cD
        rename_i tE;have acX:∀i∈ids,s2.hp.bx[i]? =s.hp.bx[i]?:=fun i hi=>Y4 (gI.1 tE i hi);refine fJ b' hb (ro:=some (w.heap.size+1)) (fid:=fid) (mk:=none) (df:=[]) gb (.inl nb) _ γ1 s1 a1 w2 .norm s2 (fun _ _ h=>h) Mt J2 E2 iJ dL fun γ3 a3 w3 L3 F3 J3 AW AX E3=>?_;obtain⟨w4,q1,q2,q3,q4,q5,q6,q7,q8⟩:=Ms none γ3 s2.hp w3 L3 F3 J3;refine⟨_,w4,q1,⟨q7,fun b hb=>(q8 b hb).2⟩,.inl ⟨rfl,⟨s2.hp,γ3,acX,fun b hb=>(q8 b hb).1,cD,q2,q3,q4,?_,q6⟩⟩⟩;rw[q5,jZ];rfl
       ·rename_i o s2 eU Mt;have uz:o=out∧s'.hp=s2.hp:=by
         simp only[bI,lB.injEq] at cD;exact⟨cD.1,by rw[←cD.2]⟩
        obtain⟨rfl,hh⟩:=uz;refine fJ b' hb (ro:=some (w.heap.size+1)) (fid:=fid) (mk:=none) (df:=[]) gb (.inl nb) _ γ1 s1 a1 w2 o s2 (fun _ _ h=>h) Mt J2 E2 iJ dL fun γ3 a3 w3 L3 F3 J3 AW=>?_;cases o with
        |norm=>exact(eU rfl).elim
        |exit id=>
         intro AX E3;obtain⟨w4,q1,q2,q3,q4,q5,q6,q7,q8⟩:=Ms (some (.exit id)) γ3 s2.hp w3 L3 F3 J3;exact⟨_,w4,q1,⟨q7,fun b hb=>(q8 b hb).2⟩,.inr (.inl ⟨rfl,γ3,q2,by rw[hh];exact q3,by rw[hh];exact q4,q6,_,.inr ⟨id,rfl,rfl⟩,q5⟩)⟩
        |ret=>
         intro AX E3;obtain⟨w4,q1,q2,q3,q4,q5,q6,q7,q8⟩:=Ms (some .ret) γ3 s2.hp w3 L3 F3 J3;exact⟨_,w4,q1,⟨q7,fun b hb=>(q8 b hb).2⟩,.inr (.inl ⟨rfl,γ3,q2,by rw[hh];exact q3,by rw[hh];exact q4,q6,_,.inl ⟨rfl,rfl⟩,q5⟩)⟩
        |bR d=>
         intro AX E3 v V;exact⟨AW,⟨gA wy F3.size,fun b hb=>by
          obtain⟨c1,c2,c3⟩:=Mr b hb;exact⟨fun o=>by rw[←c3.1 o];exact Mh (F3.bP b c1 c2).2 o,fun o h1 h2=>F3.stands J2.toInv (c3.2 o h1 h2) h2⟩⟩,.inr (.inr ⟨_,rfl,γ3,Lk.trans (L1.trans L3),by rw[hh];exact Mq.trans (L1.base.trans Lk.base) F3,by rw[hh];exact J3,F3.stands J2.toInv bW rfl,d,v,rfl,rfl,V⟩)⟩
       ·cases cD
      ·cases cD
     have mg:=SI (w.heap.size+1) _ (Mp W G γ s.hp w (out,s') rec) W1 uY
      (fun k fb A hj=>by
       obtain⟨Hk,γk,qk,_,_,q2,_,q4,_⟩:=hj;exact⟨γk,Hk,q2,q4,qk⟩)
      (fun k fb A B hj aC=>by
       obtain⟨Hk,γk,qk,q0,q1,q2,q3,q4,q5,q6⟩:=hj;refine⟨Hk,γk,qk,fun b hb=>?_,q1,q2,q3.below aC,q4.below aC,HJ aC q5,HJ aC q6⟩;rcases hb with hb |⟨hb,cb⟩
       ·obtain⟨c1,c2,c3⟩:=q0 b hb;exact⟨xF c1 aC.size,c2,c3⟩
       ·have ah:w.heap.size+1<A.heap.size:=(gz.1 q5).1;exact⟨cb,by omega,fun ho=>by have:=q4.toInv.Zf ho;omega⟩)
      (fun k fb A b o o' hj hb ho cg=>by
       obtain⟨Hk,γk,qk,q0,q1,q2,q3,q4,q5,q6⟩:=hj;obtain⟨c1,c2,c3⟩:=q0 b hb;exact⟨Hk,γk,qk,fun b' cb=>by rw[World.putObj_size];exact q0 b' cb,q1,q2,q3.jv (by omega) o',q4.jv ho cg (by omega) o',(World.putObj_heap_other (by omega)).trans q5,(World.putObj_heap_other (by omega)).trans q6⟩)
      (fun e A B hx aC=>by
       obtain⟨γ',q2,q3,q4,q5,q6⟩:=hx;refine⟨γ',q2,q3.below aC,q4.below aC,HJ aC q5,?_⟩;cases e with
       |returned v=>obtain⟨j,h1,h2⟩:=q6;exact⟨j,h1,HJ aC h2⟩
       |panicked ch=>exact q6
       |outgrown=>exact q6)
      (fun e A b o o' hx hb ho cg=>by
       have cb:w.heap.size+2≤b:=by rw[←yH] at hb;simpa using hb
       obtain⟨γ',q2,q3,q4,q5,q6⟩:=hx;refine⟨γ',q2,q3.jv (by omega) o',q4.jv ho cg (by omega) o',(World.putObj_heap_other (by omega)).trans q5,?_⟩;cases e with
       |returned v=>obtain⟨j,h1,h2⟩:=q6;exact⟨j,h1,(World.putObj_heap_other (by omega)).trans h2⟩
       |panicked ch=>exact q6
       |outgrown=>exact q6)
      acT ⟨s.hp,γ,fun _ _=>rfl,fun _ h=>h.elim,he,.refl γ,(Frame.refl γ s.hp w).below uY,I.below uY,hL1,hK1⟩
     have mg:=ri.1 mg;refine Sq hgv rW ?_;rw[←jZ,yH];refine mg.mono ?_;have fin:∀(γ':Gh) (H':Hp) (B:World) (rc:Loop),γ.le γ'→Frame γ s.hp w γ' H' B→bD W G γ' H' B→B.heap[w.heap.size+1]? =some (.loop rc)→B.heap[w.heap.size]? =some (.deferred (some []))→rc.state≠.busy→
         ∃w4,(Instr.endLoop (w.heap.size+1)).run P B= .ok rc.pending w4∧Frame γ s.hp w γ' H' w4∧bD W G γ' H' w4∧wH (some B0) df (mark w.heap.size::a.defers) w4:=by
      intro γ' H' B rc L F J hl hk cC;have F4:=F.jv (b:=w.heap.size+1) (by omega) (.loop {rc with state:=.exhausted});refine⟨_,run_endLoop (P:=P) hl cC,F4,J.jv hl rfl (by omega) _,?_⟩;obtain⟨h0,ms,h1,h2,h3⟩:=hd.keep I.toInv F4 rfl;refine⟨h0,w.heap.size::ms,by rw[h1];rfl,?_,fun m hm=>?_⟩
      ·refine vS.2 ⟨fun hm=>?_,h2⟩;obtain⟨_,DX,g1,g2,g3⟩:=hd;have :DX=ms:=by
        have e:=g1.symm.trans h1;have e2:DX.map mark=ms.map mark:=amG e;exact(YK (fun x y pI=>by simpa[mark] using pI)).1 e2
       rw[←this] at hm;have:=(gz.1 (g3 _ hm).2).1;omega
      ·rcases cN.1 hm with rfl |hm
       ·exact⟨hd.1,(World.putObj_heap_other (by omega)).trans hk⟩
       ·exact h3 m hm
     rintro e B (⟨⟨v,rfl⟩,hj |hx⟩ |⟨ch,rfl,hx⟩)
     ·obtain⟨fb,Hk,γk,_,_,q1,q2,q3,q4,q5,q6⟩:=hj;rw[Ki] at q1;simp only[kV,bI,lB.injEq] at q1;obtain⟨rfl,rfl⟩:=q1;obtain⟨w4,e1,e2,e3,e4⟩:=fin γk Hk B rec q2 q3 q4 q5 q6 (by rw[jZ];simp);refine⟨none,w4,by rw[e1,jZ],?_⟩;exact hp γk {a with defers:=mark w.heap.size::a.defers} w4 q2 e2 e3 e4 hn (E.mono q2)
     ·obtain⟨γ',q2,q3,q4,q5,j,hj,q6⟩:=hx;obtain⟨w4,e1,e2,e3,e4⟩:=fin γ' s'.hp B _ q2 q3 q4 q6 q5 (by simp);refine⟨some j,w4,e1,?_⟩;have HM:s'.env=s.env:=by
       have key:∀(kb:Hp→Bool) (xs:List (List D)) (H:Hp),kV (ay c G it a') (ay c G it b') s.env ps.toList kb xs H=some (out,s')→s'.env=s.env:=by
        intro kb xs
        induction xs with
        |nil=>intro H h;cases h;rfl
        |cons z xs ih=>
         intro H h;simp only[kV] at h;split at h
         ·cases h
         ·split at h
          ·split at h
           ·split at h
            ·exact ih _ h
            ·cases h
           ·cases h;rfl
           ·cases h
          ·cases h
       exact key _ _ _ he
      have SJ:=hp γ' {a with defers:=mark w.heap.size::a.defers} w4 q2 e2 e3 e4;rcases hj with⟨ho,rfl⟩ |⟨id,ho,rfl⟩
      ·have ho:out= .ret:=ho;subst ho;exact pE (wpIn_ret (SJ hn (by rw[HM];exact E.mono q2)))
      ·have ho:out= .exit id:=ho;subst ho;exact pE (wpIn_exit (SJ hn (by rw[HM];exact E.mono q2)))
     ·obtain⟨γ',q2,q3,q4,q5,d,v,ho,rfl,V⟩:=hx;have ho:out= .bR d:=ho;subst ho;have HM:s'.env=s.env:=by
       have key:∀(kb:Hp→Bool) (xs:List (List D)) (H:Hp),kV (ay c G it a') (ay c G it b') s.env ps.toList kb xs H=some (.bR d,s')→s'.env=s.env:=by
        intro kb xs
        induction xs with
        |nil=>intro H h;cases h
        |cons z xs ih=>
         intro H h;simp only[kV] at h;split at h
         ·cases h
         ·split at h
          ·split at h
           ·split at h
            ·exact ih _ h
            ·cases h
           ·cases h;rfl
           ·cases h
          ·cases h
       exact key _ _ _ he
      obtain⟨h0,ms,h1,h2,h3⟩:=hd.keep I.toInv q3 rfl;have hdd:wH (some B0) df (mark w.heap.size::a.defers) B:=by
       refine⟨h0,w.heap.size::ms,by rw[h1];rfl,?_,fun m hm=>?_⟩
       ·refine vS.2 ⟨fun hm=>?_,h2⟩;obtain⟨_,DX,g1,g2,g3⟩:=hd;have :DX=ms:=by
         have e:=g1.symm.trans h1;have e2:DX.map mark=ms.map mark:=amG e;exact(YK (fun x y pI=>by simpa[mark] using pI)).1 e2
        rw[←this] at hm;have:=(gz.1 (g3 _ hm).2).1;omega
       ·rcases cN.1 hm with rfl |hm
        ·exact⟨hd.1,q5⟩
        ·exact h3 m hm
      exact hp γ' {a with defers:=mark w.heap.size::a.defers} B q2 q3 q4 hdd hn (by rw[HM];exact E.mono q2) v V
    ·cases gh
   ·cases gh
  ·cases he
 case case12 st e z b cd hs ih=>
  obtain⟨b',hb,rfl⟩:=au.1 h;simp only[ay] at he;split at he
  ·rename_i s1 h1;split at h1
   ·rename_i d H1 ht;cases h1;obtain⟨γ1,L,F,J0,V⟩:=Su I.toInv ht (E st);have J:=I.up L F J0;exact ih b' hb hG.2 (by simpa[SC.cZ] using hr) Q γ1 _ a w out s' hQ he J (E.tok L V) hn hd (hp.later L F)
   ·cases h1
  ·rename_i aq;cases ht:qa e z (s.env.get st) s.hp with
   |none=>rw[ht] at he;cases he
   |some dh=>exact(aq _ (by rw[ht])).elim
 case case14 st off e z b cd hs ih=>
  obtain⟨b',hb,rfl⟩:=au.1 h;simp only[ay] at he;split at he
  ·rename_i s1 h1;obtain⟨s2,ht,heq⟩:=au.1 h1;cases heq;obtain⟨γ1,L,F,J0,E'⟩:=acC I.toInv ht E;have J:=I.up L F J0;exact ih b' hb hG.2 (by simpa[SC.cZ] using hr) Q γ1 _ a w out s' hQ he J E' hn hd (hp.later L F)
  ·rename_i aq;obtain⟨s2,ht,heq⟩:=au.1 he;exact(aq s2 (by rw[ht];rfl)).elim
 case case16 sa sb x y _ a' b' hb ha fI fJ=>
  cases h;have iC:a'.cZ=true∨(ro=none∧(∃B,mk=some B)∧∃fnc,P.funcs[fid]? =some fnc):=hr.imp (fun q=>by simp only[SC.cZ,bQ] at q;exact q.1) id;have nQ:b'.cZ=true∨(ro=none∧(∃B,mk=some B)∧∃fnc,P.funcs[fid]? =some fnc):=hr.imp (fun q=>by simp only[SC.cZ,bQ] at q;exact q.2) id;simp only[ay] at he;split at he
  ·rename_i s1 h1;refine tC (fI a' ha hG.1 iC _ γ s a w .norm s1 hQ h1 I E hn hd fun γ' a2 w2 L F J bH cO E'=>?_);exact fJ b' hb hG.2 nQ Q γ' s1 a2 w2 out s' hQ he J E' cO bH (hp.later L F)
  ·rename_i aq;refine tC (fI a' ha hG.1 iC _ γ s a w out s' hQ he I E hn hd (hp.other fun e a w hx q=>?_));cases out with
   |norm=>exact absurd he (aq s')
   |exit id=>cases hx;exact q
   |ret=>cases hx;exact q
   |bR d=>obtain⟨ch,rfl⟩:=hx;exact q
 case case18 _ sa sb cnd x y c' a' b' hb ha hc fI fJ=>
  cases h;have iC:a'.cZ=true∨(ro=none∧(∃B,mk=some B)∧∃fnc,P.funcs[fid]? =some fnc):=hr.imp (fun q=>by simp only[SC.cZ,bQ] at q;exact q.1) id;have nQ:b'.cZ=true∨(ro=none∧(∃B,mk=some B)∧∃fnc,P.funcs[fid]? =some fnc):=hr.imp (fun q=>by simp only[SC.cZ,bQ] at q;exact q.2) id;simp only[ay] at he;split at he
  ·rename_i t hcv;have hr:=bT E hc;rw[hcv] at hr;have hv:=hr.bY.s8;refine acu hv ?_;cases t with
   |true=>exact fI a' ha hG.1 iC Q γ s a w out s' hQ he I E hn hd hp
   |false=>exact fJ b' hb hG.2 nQ Q γ s a w out s' hQ he I E hn hd hp
  ·cases he
 case case20 _ sb id x ih=>
  obtain⟨b',hb,rfl⟩:=au.1 h;simp only[ay] at he;split at he
  ·rename_i i s1 h1;split at he
   ·rename_i hi;cases he;refine yF (ih b' hb hG hr _ γ s a w _ _ hQ h1 I E hn hd fun γ' a2 w2 L F J bH cO E'=>?_);simp only[Exit.inBlock,hi,if_true];exact hp γ' a2 w2 L F J bH cO E'
   ·rename_i hi;cases he;refine yF (ih b' hb hG hr _ γ s a w _ _ hQ h1 I E hn hd fun γ' a2 w2 L F J bH cO E'=>?_);simp only[Exit.inBlock,hi,if_false];exact hp γ' a2 w2 L F J bH cO E'
  ·rename_i aq;refine yF (ih b' hb hG hr _ γ s a w out s' hQ he I E hn hd (hp.other fun e a w hx q=>?_));cases out with
   |norm=>cases hx;exact q
   |exit id=>exact absurd he (aq id s')
   |ret=>cases hx;exact q
   |bR d=>obtain⟨ch,rfl⟩:=hx;exact q
 case case21 keep sb x ih=>
  obtain⟨b',hb,rfl⟩:=au.1 h;simp only[ay] at he;obtain⟨m,hm⟩:=jK _ _ _ he;refine Sj m fun R h0 hS=>?_;clear he
  induction m generalizing γ s a w with
  |zero=>cases hm
  |succ m pD=>
   simp only[iter] at hm;split at hm
   ·rename_i s1 h1;refine hS m a w (ih b' hb hG hr _ γ _ a w .norm s1 hQ h1 I (E.keep keep) hn hd fun γ' a2 w2 L F J bH cO E'=>?_);exact pD γ' s1 a2 w2 J E' cO bH (hp.later L F) hm
   ·rename_i aq;refine hS m a w (ih b' hb hG hr _ γ _ a w out s' hQ hm I (E.keep keep) hn hd (hp.other fun e a w hx q=>?_));cases out with
    |norm=>exact absurd hm (aq s')
    |exit id=>cases hx;exact q
    |ret=>cases hx;exact q
    |bR d=>obtain⟨ch,rfl⟩:=hx;exact q
 case case22 sb x ih=>
  obtain⟨b',hb,rfl⟩:=au.1 h;simp only[ay] at he;refine acx (ih b' hb hG hr _ γ s a w out s' hQ he I E hn hd (hp.other fun e a w hx q=>?_));cases out with
  |norm=>cases hx;exact q
  |exit id=>cases hx;exact q
  |ret=>cases hx;exact q
  |bR d=>obtain⟨ch,rfl⟩:=hx;exact q
 case case23 id _=>
  cases h;simp only[ay] at he;cases he;exact pE (wpIn_exit (hp γ a w (.refl γ) (.refl γ _ w) I hd hn E))
 case case24=>
  cases h;simp only[ay] at he;cases he;exact pE (wpIn_ret (hp γ a w (.refl γ) (.refl γ _ w) I hd hn E))
 case case25 b cd ih=>
  obtain⟨b',hb,rfl⟩:=au.1 h;simp only[ay] at he;obtain⟨x,hx,heq⟩:=au.1 he;have h1:out=(dJ s.hp.bx.length s.hp.tk.length (wh s.hp.bx.length x)).1:=by rw[heq]
  have h2:s'=(dJ s.hp.bx.length s.hp.tk.length (wh s.hp.bx.length x)).2:=by rw[heq]
  rw[h1,h2] at hp;exact ih b' hb hG hr Q γ s a w x.1 x.2 hQ hx I E hn hd (acM I (Sy I hp))
 case case26=>
  cases h;simp only[ay] at he;cases he
 all_goals cases h
theorem acY{cd:Code}{Q:Exit→Act→World→Prop}{a:Act}{w:World}(h:∀fid,gl none fid P cd Q a w):cd.wp P Q a w:=
 (wpIn_wide (n:=0)).1 fun b k cs hb _ _=>h b.fn b k cs hb rfl
theorem DY{c:bC}(S:Sound P W G c)(hm:P.follows .mixedOrders=true){it:It}(jK:∀b s r,it b s=some r→∃m,iter b m s=some r){nt:Nat}{df:List Deferred}
    (sc:SC) (cd:Code) (kj:SC) (h:dN P nt sc cd=some kj) (hN:kj.cZ=true) (Q:Exit→Act→World→Prop) (γ:Gh) (s:St) (a:Act) (w:World) (out:Out) (s':St) (hQ:∀a w,¬Q .outgrown a w) (he:ay c G it kj s=some (out,s'))
    (I:bD W G γ s.hp w) (E:bh γ s.env a.tmps) (hn:a.tmps.size=nt) (hd:a.defers=df) (hp:nP W G nt none df Q γ s.hp w out s'):cd.wp P Q a w:=
 acY fun fid=>DV S hm jK sc cd kj h (ro:=none) (fid:=fid) (mk:=none) (df:=df) (SC.sq hN) (.inl hN) Q γ s a w out s' hQ he I E hn hd hp
end Go.Vs
namespace Go.Vs
variable {P : Program} {W : World} {G : Nat → Option (List PD)} {γ : Gh} {H : Hp} {w : World}
theorem Mu{t:TypeId}{n:Option Nat}(ht:lZ P t=some n){b base off:Nat}{ds:List D}{f:Nat→Value}(mS:∀j,j<ds.length→w.cell? ⟨b,base+j,none⟩=some (f j))
    (hr:∀j d,ds[j]? =some d→aL γ (f j) d) (h1:∀d∈ds,d.one=true) {d:D} (hd:cutAt ds off n id ec=some d):∃v,(loadVar t ⟨b,base+off,none⟩).run P w= .ok v w∧aL γ v d:=by
 unfold cutAt at hd;split at hd
 ·obtain⟨d',bH,hh⟩:=au.1 hd;cases hh;have ah:off<ds.length:=(az.1 bH).1;have q:=GJ (P:=P) (w:=w) ht (b:=b) (off:=base+off) (f:=fun j=>f (off+j)) (fun j hj=>by
   rw[vQ];exact mS (off+j) (by simp at hj;omega))
  exact⟨_,q,hr _ _ bH⟩
 ·rename_i k;split at hd
  ·rename_i hk;cases hd;have q:=GJ (P:=P) (w:=w) ht (b:=b) (off:=base+off) (f:=fun j=>f (off+j)) (fun j hj=>by
    simp only[kU] at hj;rw[vQ];exact mS (off+j) (by omega))
   exact⟨_,q,Db (QJ hk fun j d hj hd=>hr _ _ hd) (fun d hd=>h1 d (AD hd))⟩
  ·cases hd
theorem acZ(I:Inv G γ H w){t:TypeId}{n:Option Nat}(ht:lZ P t=some n){v0:Value}{d0:D}(hv:aL γ v0 d0){d:D}(hd:ph G H n d0=some d):
    ∃ad v,v0= .pointer (some ad)∧(loadVar t ad).run P w= .ok v w∧aL γ v d:=by
 unfold ph at hd;split at hd
 ·rename_i i off;split at hd
  ·rename_i cs ak;split at hd
   ·cases hd
   rename_i hm;have hm:aU cs=false:=by simpa using hm
   cases hv with
   |box _ _ b hb=>
    obtain⟨vs,T,fr,q1,q2,q3,_⟩:=I.box i b cs hb ak;rw[iU hm] at q1;have q3:=q3 hm;obtain⟨v,h1,h2⟩:=Mu (P:=P) (w:=w) ht (b:=b) (base:=0) (off:=off) (ds:=cs) (f:=fun j=>vs.getD j undef) (fun j hj=>by
     have jS:j<vs.size:=by have:=q2.1;omega
     simp[World.cell?,q1,jS,bN]) q2.2 q3 hd
    rw[eS] at h1;exact⟨_,v,rfl,h1,h2⟩
  ·cases hd
 ·rename_i cs off;cases hv with
  |ro b base _ _ vs hm hr=>
   obtain⟨v,h1,h2⟩:=Mu (P:=P) (w:=w) ht (b:=b) (base:=base) (off:=off) (ds:=cs.map .p) (f:=vs) (fun j hj=>I.mem _ _ _ (hm j (by simpa using hj))) (fun j d hd=>by
    simp only[cP,au] at hd;obtain⟨z,hz,rfl⟩:=hd;exact .p _ _ (hr j z hz).1) (fun d hd=>by
    obtain⟨z,hz,rfl⟩:=dz.1 hd;obtain⟨j,hj⟩:=eC hz;exact(hr j z hj).2) (AB hd)
   exact⟨_,v,rfl,h1,h2⟩
 ·rename_i g off;split at hd
  ·rename_i cs ak;cases hv with
   |eD _ _=>
    have hg:=I.jQ g cs ak;obtain⟨v,h1,h2⟩:=Mu (P:=P) (w:=w) ht (b:=g) (base:=0) (off:=off) (ds:=cs.map .p) (f:=fun j=>(γ.mem g j).getD undef) (fun j hj=>by
     have hj:j<cs.length:=by simpa using hj
     obtain⟨_,v,q1,q2⟩:=hg j _ (aA hj);rw[q1];simp only[eS,kU];exact I.mem _ _ _ q1) (fun j d hd=>by
     simp only[cP,au] at hd;obtain⟨z,hz,rfl⟩:=hd;obtain⟨_,v,q1,q2⟩:=hg j z hz;rw[q1];exact .p _ _ q2) (fun d hd=>by
     obtain⟨z,hz,rfl⟩:=dz.1 hd;obtain⟨j,hj⟩:=eC hz;exact(hg j z hj).1) (AB hd)
    rw[eS] at h1;exact⟨_,v,rfl,h1,h2⟩
  ·cases hd
 ·cases hd
def uZ(P:Program):ResultVar→Option ou
 | .tmp t=>some (.t t)
 | .cell a t=>(lZ P t).map (.cell a)
def DZ(tmps:Array Value):ResultVar→Sem Value
 | .tmp t=>pure (tmps.getD t undef)
 | .cell a t=>do loadVar t (←asAddr (tmps.getD a undef))
theorem ac0(I:Inv G γ H w){env:Env}{tmps:Array Value}(E:bh γ env tmps){rv:ResultVar}{r:ou}(h:uZ P rv=some r){d:D}(hd:qM G env H r=some d):
    ∃v,(DZ tmps rv).run P w= .ok v w∧aL γ v d:=by
 cases rv with
 |tmp t=>
  cases h;cases hd;exact⟨_,rfl,E t⟩
 |cell a t=>
  obtain⟨n,hn,rfl⟩:=au.1 h;simp only[qM] at hd;obtain⟨ad,v,h1,h2,h3⟩:=acZ (P:=P) I hn (E a) hd;refine⟨v,?_,h3⟩;simp only[DZ,h1,asAddr,Sem.run_bind,Sem.run_pure,Result.andThen_ok,h2]
theorem HN(I:Inv G γ H w){env:Env}{tmps:Array Value}(E:bh γ env tmps):∀{Mv:List ResultVar} {rs:List ou},aP (uZ P) Mv=some rs→∀{ds:List D},aP (qM G env H) rs=some ds→
    ∃vs:List Value,(Mv.mapM (DZ tmps)).run P w= .ok vs w∧vs.length=ds.length∧∀(i:Nat) v d,vs[i]? =some v→ds[i]? =some d→aL γ v d
 |[],rs,h,ds,hd=>by
  simp only[aP,bI] at h;subst h;simp only[aP,bI] at hd;subst hd;exact⟨[],rfl,rfl,fun i v d h=>by simp at h⟩
 |rv::Mv,rs,h,ds,hd=>by
  simp only[aP] at h;split at h
  ·rename_i r hr;obtain⟨rs',D2,rfl⟩:=au.1 h;simp only[aP] at hd;split at hd
   ·rename_i d dL;obtain⟨eG,oD,rfl⟩:=au.1 hd;obtain⟨v,h1,h2⟩:=ac0 I E hr dL;obtain⟨vs,h3,h4,h5⟩:=HN I E D2 oD;refine⟨v::vs,?_,by simp[h4],fun i u e hu he=>?_⟩
    ·simp only[List.mapM_cons,Sem.run_bind,h1,Result.andThen_ok,h3,Sem.run_pure]
    ·match i with
     | 0=>simp only[ew,bI] at hu he;subst hu;subst he;exact h2
     |i+1=>exact h5 i u e (by simpa using hu) (by simpa using he)
   ·cases hd
  ·cases h
theorem SL(I:Inv G γ H w){env:Env}{tmps:Array Value}(E:bh γ env tmps){fn:Func}{rs:List ou}(h:aP (uZ P) fn.results.toList=some rs){d:D}(hd:lX G env H rs=some d):
    ∃v,(results fn tmps).run P w= .ok v w∧aL γ v d:=by
 have cM:∀vs,(fn.results.toList.mapM (DZ tmps)).run P w= .ok vs w→(results fn tmps).run P w= .ok (if h:vs.toArray.size=1 then vs.toArray[0] else .tuple vs.toArray) w:=by
  intro vs lY;have :results fn tmps=(fn.results.mapM (DZ tmps))>>=fun vs=>pure (if h:vs.size=1 then vs[0] else .tuple vs):=rfl;rw[this,Array.mapM_eq_mapM_toList];simp only[Sem.run_bind,map_eq_pure_bind,lY,Result.andThen_ok,Sem.run_pure]
 unfold lX at hd;split at hd
 ·cases hd;obtain⟨vs,h1,h2,_⟩:=HN I E h (ds:=[]) rfl;have hv:vs=[]:=Kb.1 h2;subst hv;exact⟨_,cM _ h1,aL.undef⟩
 ·rename_i r;obtain⟨vs,h1,h2,h3⟩:=HN I E h (ds:=[d]) (by simp only[aP,hd,eA]);obtain⟨v,rfl⟩:=amH.1 h2;exact⟨v,by simpa using cM _ h1,h3 0 v d rfl rfl⟩
 ·rename_i rs0 LJ qU;obtain⟨ds,oD,rfl⟩:=au.1 hd;obtain⟨vs,h1,h2,h3⟩:=HN I E h oD;have hl:rs.length=ds.length:=(HG oD).1;have aq:¬vs.toArray.size=1:=by
   intro hs;simp at hs;rw[←h2] at hl;rw[hs] at hl;obtain⟨r,hr⟩:=amH.1 hl;exact qU r hr
  refine⟨.tuple vs.toArray,?_,?_⟩
  ·have:=cM _ h1;rw[dif_neg aq] at this;exact this
  ·refine .bA _ _ (by simpa using h2) fun i d hd=>?_;have hi:i<vs.length:=by rw[h2];exact(az.1 hd).1
   have:=h3 i vs[i] d (aA hi) hd;simpa[bN,hi] using this
def spine:Code→List Code
 | .seq a b=>spine a++spine b
 |c=>[c]
def D3(P:Program):List Code→(Exit→Act→World→Prop)→Act→World→Prop
 |[],Q,a,w=>Q .normal a w
 |c::r,Q,a,w=>c.wp P (Exit.then (D3 P r Q) Q) a w
def wI(P:Program):List Code→(Exit→Act→List Go.Frame→World→Prop)→Act→List Go.Frame→World→Prop
 |[],Q,a,cs,w=>Q .normal a cs w
 |c::r,Q,a,cs,w=>c.wpS P (Exit.thenS (wI P r Q) Q) a cs w
theorem Mw{c:Code}{Q Q':Exit→Act→List Go.Frame→World→Prop}{a:Act}{cs:List Go.Frame}{w:World}(h:c.wpS P Q a cs w)(hq:∀e a cs w,Q e a cs w→Q' e a cs w):c.wpS P Q' a cs w:=
 fun b k h1 h2=>let⟨e,a',bL,w',q,r⟩:=h b k h1 h2;⟨e,a',bL,w',hq _ _ _ _ q,r⟩
theorem SM:∀(x y:List Code) (Q:Exit→Act→List Go.Frame→World→Prop) (a:Act) (cs:List Go.Frame) (w:World),wI P (x++y) Q a cs w→wI P x (Exit.thenS (wI P y Q) Q) a cs w
 |[],y,Q,a,cs,w,h=>h
 |c::x,y,Q,a,cs,w,h=>by
  refine Mw (P:=P) h fun e a cs w q=>?_;cases e with
  |normal=>exact SM x y Q a cs w q
  |_=>exact q
theorem SN:∀(x:List Code) {Q Q':Exit→Act→List Go.Frame→World→Prop} {a:Act} {cs:List Go.Frame} {w:World},wI P x Q a cs w→(∀e a cs w,Q e a cs w→Q' e a cs w)→wI P x Q' a cs w
 |[],Q,Q',a,cs,w,h,k=>k _ _ _ _ h
 |c::x,Q,Q',a,cs,w,h,k=>by
  refine Mw (P:=P) h fun e a cs w q=>?_;cases e with
  |normal=>exact SN x q k
  |_=>exact k _ _ _ _ q
theorem ac1:∀(c:Code) {Q:Exit→Act→List Go.Frame→World→Prop} {a:Act} {cs:List Go.Frame} {w:World},wI P (spine c) Q a cs w→c.wpS P Q a cs w:=by
 intro c
 induction c with
 |seq x y Mx My=>
  intro Q a cs w h;refine wpS_seq (Mx (SN (spine x) (SM (spine x) (spine y) Q a cs w h) fun e a cs w q=>?_));cases e with
  |normal=>exact My q
  |_=>exact q
 |_=>
  intro Q a cs w h;refine Mw (P:=P) h fun e a cs w q=>?_;cases e with
  |normal=>exact q
  |_=>exact q
theorem SP:∀(x:List Code) {Q:Exit→Act→List Go.Frame→World→Prop} {a:Act} {cs:List Go.Frame} {w:World},D3 P x (fun e a w=>Q e a cs w) a w→wI P x Q a cs w
 |[],Q,a,cs,w,h=>h
 |c::x,Q,a,cs,w,h=>by
  refine wpS_of_wp (wp_mono (P:=P) h fun e a w q=>?_);cases e with
  |normal=>exact SP x q
  |_=>exact q
theorem ac2{id:Nat}{ops:Array Oper}{o:Oper}{l:List Oper}(ho:ops.toList=o::l)(hg:o.guard=none){b:Builtin}(hb:b= .recover){as:Array Operand}{ts:Array TypeId}(dF:o.op= .call {callee:=.builtin b,args:=as,argTypes:=ts})
    {Q:Exit→Act→List Go.Frame→World→Prop} {a:Act} {cs:List Go.Frame} {w:World}
    (h:∀v bL,(recoverD cs=some (v,bL)∨(recoverD cs=none∧v= .nilIface∧bL=cs))→wpList P ops (fun e a w=>Q e a bL w) l (a.put o.dst v) w):(Code.region id ops false).wpS P Q a cs w:=by
 intro b' k hk jx;have aS:ops.size=l.length+1:=by rw[←qE,ho];rfl
 have h0:ops[0]? =some o:=by rw[←CO,ho];rfl
 have ac3:∀j,l[j]? =ops[1+j]?:=fun j=>by rw[←CO,ho,Nat.add_comm];rfl
 have ac4:ku ops.size=0::xI 1 l.length:=by
  rw[aS,List.range_eq_range'];rfl
 have hw:Region.wanted o (yielded ops a.tmps)=true:=by simp[Region.wanted,hg]
 have cM:(execOp a.eval o).run P w= .ok .recover w:=by
  subst hb;simp[execOp,dF,resolve,invoke,builtin]
 have HO:=stepG_op (P:=P) (b:=b') (k:=k) (cs:=cs) (w:=w) (rest:=xI 1 l.length) h0 hw;have dY:∀v,(b'.at a (.inRegion ops (0::xI 1 l.length)::k)).finish v=b'.at (a.put o.dst v) (.inRegion ops (xI 1 l.length)::k):=by
  intro v;rw[Go.Frame.finish_at,h0];rfl
 have HP:=tryRecover_deferred (fr:=b'.at a (.inRegion ops (0::xI 1 l.length)::k)) hk cs;obtain⟨v,bL,jZ,LM⟩:∃v bL,(recoverD cs=some (v,bL)∨(recoverD cs=none∧v= .nilIface∧bL=cs))∧
     step P (lone (b'.at a (.inRegion ops (0::xI 1 l.length)::k)) cs w)= .next (lone (b'.at (a.put o.dst v) (.inRegion ops (xI 1 l.length)::k)) bL w):=by
  cases hr:recoverD cs with
  |some x=>
   obtain⟨v,bL⟩:=x;refine⟨v,bL,.inl rfl,step_lone_go ?_⟩;rw[HO,←dY];simp only[Go.Frame.at] at HP⊢;simp[stepG.apply,cM,HP,hr]
  |none=>
   refine⟨.nilIface,cs,.inr ⟨rfl,rfl,rfl⟩,step_lone_go ?_⟩;rw[HO,←dY];simp only[Go.Frame.at] at HP⊢;simp[stepG.apply,cM,HP,hr]
 have hl:=h v bL jZ;rw[←wpOps_eq_wpList l 1 ac3] at hl;obtain⟨e,a',w',q,r⟩:=wp_ops _ _ _ hl b' k bL;refine⟨e,a',bL,w',q,.of_steps (.head step_region ?_) r⟩;rw[ac4];exact .one LM
def HQ(P:Program)(nt:Nat):List SC→List Code→Option (List SC)
 |[],[]=>some []
 |s::r,c::cr=>match dN P nt s c,HQ P nt r cr with
  |some a,some b=>some (a::b)
  |_,_=>none
 |_,_=>none
def yI(P:Program)(nt:Nat):SC→List Code→Option SC
 | .seq a b,c::d::r=>match dN P nt a c,yI P nt b (d::r) with
  |some x,some y=>some (.seq x y)
  |_,_=>none
 |s,[c]=>dN P nt s c
 |_,_=>none
theorem Mz{c:bC}(S:Sound P W G c)(hm:P.follows .mixedOrders=true){it:It}(jK:∀b s r,it b s=some r→∃m,iter b m s=some r){nt:Nat}{df:List Deferred}:
    ∀(l:List SC) (cd:List Code) (l':List SC),HQ P nt l cd=some l'→l'.all SC.cZ=true→∀(Q:Exit→Act→World→Prop) (γ:Gh) (s:St) (a:Act) (w:World) (out:Out) (s':St),(∀a w,¬Q .outgrown a w)→pn c G it l' s=some (out,s')→
     bD W G γ s.hp w→bh γ s.env a.tmps→a.tmps.size=nt→a.defers=df→nP W G nt none df Q γ s.hp w out s'→D3 P cd Q a w
 |[],[],l',h,_,Q,γ,s,a,w,out,s',_,he,I,E,hn,hd,hp=>by
  cases h;simp only[pn] at he;cases he;exact hp γ a w (.refl γ) (.refl γ _ w) I hd hn E
 |x::l,y::cd,l',h,hN,Q,γ,s,a,w,out,s',hQ,he,I,E,hn,hd,hp=>by
  simp only[HQ] at h;split at h
  ·rename_i x' r' hx hr;cases h;simp only[List.all_cons,bQ] at hN;simp only[pn] at he;split at he
   ·rename_i s1 h1;refine DY S hm jK x y x' hx hN.1 _ γ s a w .norm s1 hQ h1 I E hn hd fun γ' a2 w2 L F J bH cO E'=>?_;exact Mz S hm jK l cd r' hr hN.2 Q γ' s1 a2 w2 out s' hQ he J E' cO bH (hp.later L F)
   ·rename_i aq;refine DY S hm jK x y x' hx hN.1 _ γ s a w out s' hQ he I E hn hd (hp.other fun e a w hx q=>?_);cases out with
    |norm=>exact absurd he (aq s')
    |exit id=>cases hx;exact q
    |ret=>cases hx;exact q
    |bR d=>obtain⟨ch,rfl⟩:=hx;exact q
  ·cases h
 |[],_::_,l',h,_,Q,γ,s,a,w,out,s',_,he,I,E,hn,hd,hp=>by cases h
 |_::_,[],l',h,_,Q,γ,s,a,w,out,s',_,he,I,E,hn,hd,hp=>by cases h
theorem ac5{c:bC}(S:Sound P W G c)(hm:P.follows .mixedOrders=true){it:It}(jK:∀b s r,it b s=some r→∃m,iter b m s=some r){nt:Nat}{df:List Deferred}(sc:SC)(cd:List Code):
    ∀(kj:SC),yI P nt sc cd=some kj→kj.cZ=true→∀(Q:Exit→Act→World→Prop) (γ:Gh) (s:St) (a:Act) (w:World) (out:Out) (s':St),(∀a w,¬Q .outgrown a w)→ay c G it kj s=some (out,s')→
     bD W G γ s.hp w→bh γ s.env a.tmps→a.tmps.size=nt→a.defers=df→nP W G nt none df Q γ s.hp w out s'→D3 P cd Q a w:=by
 fun_induction yI P nt sc cd
 all_goals (intro kj h hN Q γ s a w out s' hQ he I E hn hd hp)
 case case1 x y c0 d r x' y' hy hx ih=>
  cases h;simp only[SC.cZ,bQ] at hN;simp only[ay] at he;split at he
  ·rename_i s1 h1;refine DY S hm jK x c0 x' hx hN.1 _ γ s a w .norm s1 hQ h1 I E hn hd fun γ' a2 w2 L F J bH cO E'=>?_;exact ih y' hy hN.2 Q γ' s1 a2 w2 out s' hQ he J E' cO bH (hp.later L F)
  ·rename_i aq;refine DY S hm jK x c0 x' hx hN.1 _ γ s a w out s' hQ he I E hn hd (hp.other fun e a w hx q=>?_);cases out with
   |norm=>exact absurd he (aq s')
   |exit id=>cases hx;exact q
   |ret=>cases hx;exact q
   |bR d=>obtain⟨ch,rfl⟩:=hx;exact q
 case case3=>
  refine DY S hm jK _ _ kj h hN _ γ s a w out s' hQ he I E hn hd (hp.other fun e a w hx q=>?_);cases e<;>exact q
 all_goals cases h
def MA(P:Program)(nt:Nat)(x:F8)(body:SC)(c:Code):Option (F8×SC):=
 match(spine c).drop x.pre.length with
 | .region _ ops false::rest=>match ops.back? with
  |some o=>match o.op,o.guard with
   | .defer ⟨.value f,as,_⟩,none=>
    match HQ P nt x.pre ((spine c).take x.pre.length),HE P nt ops (x.ops++[⟨none,.stuck,none⟩]),aQ f,aP aQ as.toList,yI P nt body rest with
    |some pre,some sl,some f',some x6,some b=>if o.dst.isNone then some (⟨pre,x.keep,sl.dropLast,f',x6⟩,b) else none
    |_,_,_,_,_=>none
   |_,_=>none
  |none=>none
 |_=>none
def FC.cZ(fc:FC):Bool:=fc.body.cZ&&(match fc.iu with |none=>true |some x=>x.pre.all SC.cZ)
structure FOk0 (P:Program) (f:Nat) (fc:FC):Prop where
 ex:∃fn c,P.funcs[f]? =some fn∧(fn.name== "runtime.NumGoroutine")=false∧fn.body=some c∧fn.ntmps=fc.nt∧fc.np≤fc.nt∧aP (uZ P) fn.results.toList=some fc.res∧
  (match fc.iu with |none=>∃sk,dN P fc.nt sk c=some fc.body |some x=>MA P fc.nt x fc.body c=some (x,fc.body))
structure wJ (P:Program) (f:Nat) (fc:FC):Prop extends FOk0 P f fc where
 nr:fc.cZ=true
def D4(P:Program)(fn:Func)(fc:FC):Option FC:=
 if fn.name== "runtime.NumGoroutine" then none else
 match fn.body,aP (uZ P) fn.results.toList with
 |some c,some res=>if fn.ntmps=fc.nt∧fc.np≤fc.nt then(match fc.iu with
  |none=>(dN P fc.nt fc.body c).map fun b=>⟨fc.nt,fc.np,res,b,fc.aH,none⟩
  |some x=>(MA P fc.nt x fc.body c).map fun y=>⟨fc.nt,fc.np,res,y.2,fc.aH,some y.1⟩) else none
 |_,_=>none
def SQ(P:Program)(fn:Func)(fc:FC):Option FC:=if fc.cZ then D4 P fn fc else none
theorem FOk0.of{f:Nat}{fn:Func}{fc:FC}(hf:P.funcs[f]? =some fn)(h:D4 P fn fc=some fc):FOk0 P f fc:=by
 unfold D4 at h;split at h
 ·cases h
 ·rename_i hn;split at h
  ·rename_i c res hb tD;split at h
   ·rename_i hc;cases hd:fc.iu with
    |none=>
     rw[hd] at h;obtain⟨b,cb,heq⟩:=au.1 h;have e1:res=fc.res:=congrArg FC.res heq;have e2:b=fc.body:=congrArg FC.body heq;exact⟨fn,c,hf,by simpa using hn,hb,hc.1,hc.2,by rw[tD,e1],by rw[hd];dsimp only;exact⟨fc.body,by rw[cb,e2]⟩⟩
    |some x=>
     rw[hd] at h;obtain⟨y,cb,heq⟩:=au.1 h;have e1:res=fc.res:=congrArg FC.res heq;have e2:y.2=fc.body:=congrArg FC.body heq;have e3:some y.1=some x:=by rw[←hd];exact congrArg FC.iu heq
     cases e3;exact⟨fn,c,hf,by simpa using hn,hb,hc.1,hc.2,by rw[tD,e1],by rw[hd];dsimp only;rw[cb,←e2]⟩
   ·cases h
  ·cases h
theorem FOk0.made{f:Nat}{fn:Func}{sk fc:FC}(hf:P.funcs[f]? =some fn)(yJ:sk.iu=none)(h:D4 P fn sk=some fc):FOk0 P f fc:=by
 unfold D4 at h;split at h
 ·cases h
 ·rename_i hn;split at h
  ·rename_i c res hb tD;split at h
   ·rename_i hc;rw[yJ] at h;obtain⟨b,cb,heq⟩:=au.1 h;subst heq;exact⟨fn,c,hf,by simpa using hn,hb,hc.1,hc.2,tD,⟨sk.body,cb⟩⟩
   ·cases h
  ·cases h
theorem wJ.of{f:Nat}{fn:Func}{fc:FC}(hf:P.funcs[f]? =some fn)(h:SQ P fn fc=some fc):wJ P f fc:=by
 unfold SQ at h;split at h
 ·rename_i hr;exact⟨FOk0.of hf h,hr⟩
 ·cases h
def MB(P:Program)(nt dst:Nat)(sc:SC)(c:Code):Option SC:=
 match sc,spine c with
 | .seq (.region keep hs) b,.region _ ops false::d::rest=>match ops.toList with
  |o::l=>match o.op,o.guard with
   | .call ⟨.builtin .recover,_,_⟩,none=>match AV P nt ops l hs.tail,yI P nt b (d::rest) with
    |some sl,some b'=>if o.dst=some dst∧dst<nt∧(ops.toList.all fun x=>match x.dst with |some t=>decide (t<nt) |none=>true)=true then some (.seq (.region keep (⟨some dst,.move (.t dst),none⟩::sl)) b') else none
    |_,_=>none
   |_,_=>none
  |[]=>none
 |_,_=>none
structure wK (P:Program) (f dst:Nat) (fc:FC):Prop where
 ex:∃fn c,P.funcs[f]? =some fn∧(fn.name== "runtime.NumGoroutine")=false∧fn.body=some c∧fn.ntmps=fc.nt∧fc.np≤fc.nt∧aP (uZ P) fn.results.toList=some fc.res∧MB P fc.nt dst fc.body c=some fc.body
 nr:fc.body.cZ=true
def SR(P:Program)(fn:Func)(dst:Nat)(fc:FC):Option FC:=
 if fn.name== "runtime.NumGoroutine" then none else
 match fn.body,aP (uZ P) fn.results.toList with
 |some c,some res=>if(fn.ntmps=fc.nt∧fc.np≤fc.nt)∧fc.body.cZ=true then(MB P fc.nt dst fc.body c).map fun b=>⟨fc.nt,fc.np,res,b,fc.aH,fc.iu⟩ else none
 |_,_=>none
theorem wK.of{f dst:Nat}{fn:Func}{fc:FC}(hf:P.funcs[f]? =some fn)(h:SR P fn dst fc=some fc):wK P f dst fc:=by
 unfold SR at h;split at h
 ·cases h
 ·rename_i hn;split at h
  ·rename_i c res hb tD;split at h
   ·rename_i hc;obtain⟨b,cb,heq⟩:=au.1 h;have e1:res=fc.res:=congrArg FC.res heq;have e2:b=fc.body:=congrArg FC.body heq;exact⟨⟨fn,c,hf,by simpa using hn,hb,hc.1.1,hc.1.2,by rw[tD,e1],by rw[cb,e2]⟩,hc.2⟩
   ·cases h
  ·cases h
theorem SS:∀(n:Nat) (l:List D) (t:Nat),(entry n l).get t=if n≤t∧t<n+l.length then l.getD (t-n) .dead else .dead
 |n,[],t=>by simp only[entry,Env.get,fW];rw[if_neg (by omega)]
 |n,d::l,t=>by
  simp only[entry,Env.get,dZ];split
  ·rename_i h;subst h;rw[if_pos (by omega),xE];rfl
  ·rename_i h;rw[SS (n+1) l t];by_cases hc:n+1≤t∧t<n+1+l.length
   ·rw[if_pos hc,if_pos (by omega)];rw[show t-n=(t-(n+1))+1 by omega];rfl
   ·rw[if_neg hc,if_neg (by omega)]
theorem HR{vs:Array Value}{ds:List D}(h:cy γ vs ds)(k:Nat):bh γ (entry 0 ds) (vs++nA k undef):=by
 intro t;rw[SS];split
 ·rename_i ht;have ah:t<ds.length:=by omega
  have e:ds[t]? =some (ds.getD (t-0) .dead):=by simp[fE,ah]
  have:=h.2 t _ e;have hv:t<vs.size:=by rw[h.1];exact ah
  simpa[bN,Ah,hv] using this
 ·exact .dead _
theorem SU{res:List ou}{x:Option (Out×St)}{r:bt}{H':Hp}(h:finish G res x=some (r,H')):
    (∃s d,(x=some (.norm,s)∨x=some (.ret,s))∧lX G s.env s.hp res=some d∧r= .val d∧H'=s.hp)∨∃s d,x=some (.bR d,s)∧r= .bR d∧H'=s.hp:=by
 unfold finish at h;split at h
 ·rename_i s;split at h
  ·rename_i d hd;cases h;exact .inl ⟨s,d,.inl rfl,hd,rfl,rfl⟩
  ·cases h
 ·rename_i s;split at h
  ·rename_i d hd;cases h;exact .inl ⟨s,d,.inr rfl,hd,rfl,rfl⟩
  ·cases h
 ·rename_i d s;cases h;exact .inr ⟨s,d,rfl,rfl,rfl⟩
 ·cases h
theorem MC{fn:Func}{fc:FC}(h6:aP (uZ P) fn.results.toList=some fc.res){γ:Gh}{H:Hp}{w:World}{x:Option (Out×St)}{r:bt}{H':Hp}(h:finish G fc.res x=some (r,H')):
    ∃out s,x=some (out,s)∧nP W G fc.nt none [] (bodyPost P fn fun e w'=>∃γ',γ.le γ'∧Frame γ H w γ' H' w'∧bD W G γ' H' w'∧jU γ' r e) γ H w out s:=by
 rcases SU h with⟨s,d,hx,hd,rfl,rfl⟩ |⟨s,d,hx,rfl,rfl⟩
 ·have post:∀γ' (a':Act) w',γ.le γ'→Frame γ H w γ' s.hp w'→bD W G γ' s.hp w'→a'.defers=[]→bh γ' s.env a'.tmps→a'.defers=[]∧∃v,(results fn a'.tmps).run P w'= .ok v w'∧∃γ',γ.le γ'∧Frame γ H w γ' s.hp w'∧bD W G γ' s.hp w'∧jU γ' (.val d) (.returned v):=by
   intro γ' a' w' L F J bH E;obtain⟨v,q1,q2⟩:=SL J.toInv E h6 hd;exact⟨bH,v,q1,γ',L,F,J,v,rfl,q2⟩
  rcases hx with hx |hx
  ·exact⟨.norm,s,hx,fun γ' a' w' L F J bH _ E=>post γ' a' w' L F J bH E⟩
  ·exact⟨.ret,s,hx,fun γ' a' w' L F J bH _ E=>post γ' a' w' L F J bH E⟩
 ·exact⟨.bR d,s,hx,fun γ' a' w' L F J bH _ _ v V=>⟨bH,γ',L,F,J,v,rfl,V⟩⟩
theorem MD{γ:Gh}{r:bt}:¬jU γ r .outgrown:=by
 cases r with
 |val d=>rintro⟨v,h,_⟩;cases h
 |bR d=>rintro⟨v,h,_⟩;cases h
def D5(P:Program)(f:Nat)(vs:Array Value)(w:World)(R:Ending→World→Prop):Prop:=
 ∀(v:Value) (cv:Array Value),vs= #[v]++cv→Enters P f∧(v= .nilIface→CallsD P f cv .returning w fun e u' w'=>u'= .returning∧R e w')∧
  CallsD P f cv (.panicking [{v:=v,recovered:=false}]) w fun e u' w'=>u'= .panicking [{v:=v,recovered:=true}]∧R e w'
theorem ac6{rv:D}{ds:List D}{v:Value}{cv:Array Value}(h:cy γ (#[v]++cv) (rv::ds)):aL γ v rv∧cy γ cv ds:=by
 have h0:=h.2 0 rv rfl;have e0:(#[v]++cv).getD 0 undef=v:=by
  simp only[bN];rw[Array.getElem?_append_left (by simp)];simp
 rw[e0] at h0;refine⟨h0,by have:=h.1;simp at this;omega,fun i d hd=>?_⟩;have:=h.2 (i+1) d (by simpa using hd);have e:(#[v]++cv).getD (i+1) undef=cv.getD i undef:=by
  simp only[bN];rw[YC (by simp)];simp
 rwa [e] at this
theorem ac7{c:bC}(S:Sound P W G c)(hm:P.follows .mixedOrders=true){it:It}(jK:∀b s r,it b s=some r→∃m,iter b m s=some r){T:Nat→Option (Nat×FC)}(hT:∀f x,T f=some x→wK P f x.1 x.2){f:Nat}:
    ∀args H r H',uo c T G it f args H=some (r,H')→∀γ w vs,bD W G γ H w→cy γ vs args→D5 P f vs w fun e w'=>∃γ',γ.le γ'∧Frame γ H w γ' H' w'∧bD W G γ' H' w'∧jU γ' r e:=by
 intro args H r H' h γ w vs I hv v cv lY;subst lY;unfold uo at h;split at h
 ·rename_i dst fc rv as SV;split at h
  ·rename_i hl;split at h
   ·rename_i d0 H0 dY;cases h;obtain⟨fn,cd,h1,h2,h3,h4,h5,h6,h7⟩:=(hT f (dst,fc) SV).ex;have qh:=(hT f (dst,fc) SV).nr;dsimp only at h4 h5 h6 h7 qh;obtain⟨hrv,has⟩:=ac6 hv;have aS:(cv++nA (fn.ntmps-cv.size) undef).size=fc.nt:=by simp[h4,has.1,hl.1];omega
    refine⟨⟨fn,h1,h2,by rw[h3];rfl⟩,?_⟩;have key:∀(u u':FrameMode),(∀(c₀:Go.Frame) cs,c₀.mode=u→∀v1 jH,(recoverD (c₀::cs)=some (v1,jH)∨(recoverD (c₀::cs)=none∧v1= .nilIface∧jH=c₀::cs))→v1=v∧jH={c₀ with mode:=u'}::cs)→
        CallsD P f cv u w fun e u2 w'=>u2=u'∧∃γ',γ.le γ'∧Frame γ H w γ' H' w'∧bD W G γ' H' w'∧jU γ' (.val d0) e:=by
     intro u u' hu;refine callsD_of_wpS h1 h3 fun c₀ cs hc₀=>?_;refine ac1 cd ?_;unfold MB at h7;split at h7
     ·rename_i keep hs b id ops d rest HA iB;split at h7
      ·rename_i o l jT;split at h7
       ·rename_i rX ts0 dF oI;split at h7
        ·rename_i sl b' dk cb;split at h7
         ·rename_i ME;cases hh:fc.body with
          |seq x y=>
           rw[hh] at h7 dY qh;cases h7;have fZ:b'.cZ=true:=by simpa[SC.cZ] using qh
           rw[iB];obtain⟨ho,adb,eQ⟩:=ME;refine ac2 (b:=.recover) jT oI rfl dF fun v1 jH hr=>?_;obtain⟨rfl,rfl⟩:=hu c₀ cs hc₀ v1 jH hr;rw[ho];obtain⟨out,s,hx,hp⟩:=MC (W:=W) (γ:=γ) (H:=H) (w:=w) h6 dY;have E1:bh γ ((dst,rv)::(dst,rv)::entry 0 as) (({tmps:=cv++nA (fn.ntmps-cv.size) undef,defers:=[]}:Act).put (some dst) v1).tmps:=by
            have E0:=(HR has (fn.ntmps-cv.size)).put (t:=dst) (by rw[aS];exact adb) hrv;intro t;have:=E0 t;simp only[Env.get,Act.put] at this⊢;split
            ·rename_i ht;rw[if_pos ht] at this;exact this
            ·rename_i ht;rw[if_neg ht] at this;first |exact this |(rw[if_neg ht];exact this)
           have ah:∀(j:Nat) o' t,ops[j]? =some o'→o'.dst=some t→t<fc.nt:=fun j o' t hj ht=>by
            have ey:o'∈ops.toList:=by
             rw[←CO] at hj;exact bS hj
            have:=gI.1 eQ o' ey;rw[ht] at this;simpa using this
           obtain⟨ie,ld⟩:=HF dk;have ade:∀(i:Nat) a so,l[i]? =some a→sl[i]? =some so→qm P ops fc.nt a so:=fun i a so ha bE=>by
            obtain⟨_,q⟩:=ld i a so ha bE;exact Mi q
           simp only[ay] at hx;simp only[kc,fF,cF,aN,aw.ev,Env.get,if_true,put] at hx;have done:∀{γ':Gh} {a':Act} {w':World} {e:Exit},bodyPost P fn (fun e w'=>∃γ',γ.le γ'∧Frame γ H w γ' H' w'∧bD W G γ' H' w'∧jU γ' (.val d0) e) e a' w'→
               bodyPostS P fn c₀ cs (fun e u2 w'=>u2=u'∧∃γ',γ.le γ'∧Frame γ H w γ' H' w'∧bD W G γ' H' w'∧jU γ' (.val d0) e) e a' ({c₀ with mode:=u'}::cs) w':=by
            intro γ' a' w' e hq;cases e with
            |normal=>obtain⟨q1,v,q2,q3⟩:=hq;exact⟨q1,u',rfl,v,q2,rfl,q3⟩
            |ret=>obtain⟨q1,v,q2,q3⟩:=hq;exact⟨q1,u',rfl,v,q2,rfl,q3⟩
            |panic ch=>obtain⟨q1,q3⟩:=hq;exact⟨q1,u',rfl,rfl,q3⟩
            |outgrown=>exact⟨u',rfl,hq⟩
            |exit id=>exact hq.elim
            |goto t=>exact hq.elim
           cases cD:kc c G sl ((dst,rv)::(dst,rv)::entry 0 as) H with
           |none=>rw[cD] at hx;simp at hx
           |some ro=>
            rw[cD] at hx;refine LH S ah l sl γ _ H _ w ie ade I E1 (by simp[Act.put,aS]) ro cD (fun γ' e2 H2 a' w' hr L F J E' cO bH=>?_) (fun γ' d2 e2 H2 v2 a' w' hr L F J V E' cO bH=>?_)
            ·subst hr;simp only at hx;refine SP (d::rest) ?_;refine ac5 S hm jK b (d::rest) _ cb fZ _ γ' _ a' w' out s ?_ hx J (E'.keep _) cO (df:=[]) (by rw[bH];simp[Act.put]) ?_
             ·rintro a w ⟨_,_,_,_,_,_,q⟩;exact MD q
             refine(hp.later L F).other fun e a w _ q=>done (γ':=γ') q
            ·subst hr;simp only[bI,lB.injEq] at hx;obtain⟨rfl,rfl⟩:=hx;have:=hp γ' a' w' L F J (by show a'.defers=[];rw[bH];simp[Act.put]) cO E' v2 V;exact done (γ':=γ') this
          |_=>rw[hh] at h7;cases h7
         ·cases h7
        ·cases h7
       ·cases h7
      ·cases h7
     ·cases h7
    refine⟨fun D6=>key .returning .returning ?_,key _ _ ?_⟩
    ·intro c₀ cs hc v1 jH hr;have hn:recoverD (c₀::cs)=none:=by simp[recoverD,hc]
     rcases hr with hr |⟨_,rfl,rfl⟩
     ·rw[hn] at hr;cases hr
     ·exact⟨D6.symm,by rw[←hc]⟩
    ·intro c₀ cs hc v1 jH hr;have hs:recoverD (c₀::cs)=some (v,{c₀ with mode:=.panicking [{v:=v,recovered:=true}]}::cs):=by simp[recoverD,hc]
     rcases hr with hr |⟨hr,_,_⟩
     ·rw[hs] at hr;cases hr;exact⟨rfl,rfl⟩
     ·rw[hs] at hr;cases hr
   ·cases h
  ·cases h
 ·cases h
theorem AY{fn:Func}{R:Ending→World→Prop}{e:Exit}{a:Act}{w:World}(h:bodyPost P fn R e a w):bodyPostD P fn R e a w:=by
 cases e with
 |normal=>
  obtain⟨q1,v,q2,q3⟩:=h;show Leaves P fn a.tmps R a.defers .returning w;rw[q1];exact⟨v,q2,q3⟩
 |ret=>
  obtain⟨q1,v,q2,q3⟩:=h;show Leaves P fn a.tmps R a.defers .returning w;rw[q1];exact⟨v,q2,q3⟩
 |panic ch=>
  obtain⟨q1,q3⟩:=h;show Leaves P fn a.tmps R a.defers (.panicking ch) w;rw[q1];exact q3
 |outgrown=>exact h
 |exit id=>exact h
 |goto t=>exact h
theorem D5.mono{f:Nat}{vs:Array Value}{w:World}{R R':Ending→World→Prop}(h:D5 P f vs w R)(k:∀e w',R e w'→R' e w'):D5 P f vs w R':=fun v cv hv=>
 let⟨h0,h1,h2⟩:=h v cv hv
 ⟨h0,fun hn=>(h1 hn).mono fun _ _ _ q=>⟨q.1,k _ _ q.2⟩,h2.mono fun _ _ _ q=>⟨q.1,k _ _ q.2⟩⟩
theorem adg(J:Inv G γ H w){nb:Nat}{r r':bt}{e:Ending}(E:jU γ r e)(h:(r.aH nb H).ren (below nb) some=some r'):jU (γ.uX H w nb) r' e:=by
 refine LB (Mn γ H w nb) h ?_;cases r with
 |val d=>
  obtain⟨v,rfl,hv⟩:=E;exact⟨v,rfl,rk J 8 (hv.mono (Gh.DR J nb))⟩
 |bR d=>
  obtain⟨v,rfl,hv⟩:=E;exact⟨v,rfl,rk J 8 (hv.mono (Gh.DR J nb))⟩
theorem adh(I:Inv G γ H w){γ':Gh}{Hx:Hp}{w':World}(L:γ.le γ')(F:Frame γ H w γ' Hx w')(J:Inv G γ' Hx w'){r:bt}{e:Ending}(E:jU γ' r e){r':bt}{H':Hp}(h:rM H.bx.length (r,Hx)=(r',H')):
    ∃γ'',γ.le γ''∧Frame γ H w γ'' H' w'∧Inv G γ'' H' w'∧jU γ'' r' e:=by
 unfold rM at h;dsimp only at h;split at h
 ·rename_i bx r1 bX hr;split at h
  ·rename_i fZ;cases h;obtain⟨L2,F2,J2⟩:=SB I L F J bX fZ;exact⟨_,L2,F2,J2,adg J E hr⟩
  ·cases h;exact⟨γ',L,F,J,E⟩
 ·cases h;exact⟨γ',L,F,J,E⟩
theorem adi{f:Nat}{args:List D}{H:Hp}{aH:Bool}{x:Option (bt×Hp)}{r:bt}{H':Hp}(h:mO aH H.bx.length x=some (r,H'))(hx:∀r0 H0,x=some (r0,H0)→yv P W G f args H r0 H0):yv P W G f args H r H':=by
 unfold mO at h;split at h
 ·obtain⟨y,hy,hs⟩:=au.1 h;obtain⟨r0,H0⟩:=y;obtain⟨rW,hm⟩:=hx r0 H0 hy;refine⟨rW,fun γ w vs I hv=>(hm γ w vs I hv).mono ?_⟩;rintro e w' ⟨γ',L,F,J,E⟩;obtain⟨γ2,L2,F2,J2,E2⟩:=adh I.toInv L F J.toInv E hs;exact⟨γ2,L2,F2,I.up L2 F2 J2,E2⟩
 ·exact hx r H' h
end Go.Vs
