/-
  A value-level evaluator for Go functions; the functions of this cut by it; plain laws. Text G6.
-/
import Derived.Test.YtgplgbonlnodeaaGreatDoorG5
open Bool renaming and_eq_true→bQ,eq_false_iff→FR,false_eq_true→ob,not_true→Pw,true_and→YG
open Classical renaming byContradiction→qD
open Int renaming emod_nonneg→YR,natCast_inj→pZ,natCast_one→uh,natCast_pow→CT,natCast_zero→gJ,ofNat_le→amN,tdiv_eq_ediv_of_nonneg→YQ,tdiv_nonneg→YP,tmod_eq_emod_of_nonneg→Kn,toNat_natCast→qF
open List renaming all_eq_true→gI,append_assoc→oc,append_nil→lA,cons_append→jN,drop_append_of_le_length→YM,drop_eq_getElem_cons→FX,drop_eq_nil_of_le→Kl,drop_of_length_le→Km,eq_nil_of_length_eq_zero→tY,ext_getElem?→oh,filter_append→YU,filter_cons→xK,filter_nil→FY,flatMap_cons→ub,getD_eq_getElem?_getD→fE,getElem?_append_left→cH,getElem?_append_right→eL,getElem?_cons_succ→vN,getElem?_drop→oZ,getElem?_eq_getElem→aA,getElem?_eq_none→lU,getElem?_eq_some_iff→az,getElem?_map→cP,getElem?_set_ne→dH,getElem?_set_self→j9,getElem?_take_of_lt→o7,getElem_cons_succ→xS,getElem_cons_zero→p7,getElem_mem→bO,getElem_of_mem→p6,length→oq,length_append→iq,length_cons→dZ,length_eq_zero_iff→Kb,length_filter_le→F5,length_map→cx,length_nil→fW,length_pos_iff→xG,length_singleton→xL,length_take→pb,length_take_le'→amM,map→vO,map_append→vW,map_cons→dA,map_map→uf,map_nil→mF,mem_append→cW,mem_cons→cN,mem_cons_of_mem→jD,mem_cons_self→pa,mem_map→dz,mem_of_getElem?→bS,mem_of_mem_drop→sU,mem_of_mem_take→j8,mem_or_eq_of_mem_set→Kd,mem_singleton→mH,nil_append→jm,not_mem_nil→mG,pairwise_iff_getElem→F0,replicate→eB,set_append_right→F6,set_cons_succ→PI,set_cons_zero→PJ,sum_append→Kk,sum_cons→CS,take→rI,take_append_drop→xH,take_append_of_le_length→PK,take_length→oo,take_of_length_le→jC,take_succ_cons→YT,take_succ_eq_append_getElem→sW,take_zero→vT
open Nat renaming add_mul→fM,add_sub_cancel→YS,add_sub_cancel_left→vU,add_zero→oe,le_refl→aV,lt_or_ge→iP,lt_trichotomy→FZ,min_eq_left→ue,min_eq_right→amL,mul_le_mul→ug,mul_le_mul_right→kz,not_lt_zero→Ai,one_mul→og,pow_succ→PL,sub_self→xE,zero_add→eS,zero_le→b9
open Option renaming getD_some→kU,map_eq_some_iff→au,map_some→eA
open Option.some renaming injEq→bI
section
open Go.Vs Go.Proofs.YtgplgbonlnodeaaGreatDoor
attribute [local simp] cF aN fF put Env.get Env.keep entry aw.ev ph uk aE cutAt uj D.rJ D.lC u8 vZ ui v5 kB sub v7 p8 PD.eqv jP cls gN rL bq kC nD pj eP qL finish lX qM aP D.aD D.refs D.bz D.cJ ec gU aO ov fj eF D.iR D.eM qF rK sX qJ D.jn aU A8 A9 wL Ba Bb jL B7 gives nx B2 B3 B4 pZ zz dJ below Out.ren D.ren D.ba zF B6 BK BL BM tL zA BN BO BP BQ BR BS BT zC BU BV BW BX zD wZ BZ
namespace Go.Proofs.YtgplgbonlnodeaaGreatDoor
open Go.Vs
set_option maxRecDepth 100000
theorem sM{l:List Int}{i:Nat}(h:i<l.length):(l.take (i+1)).sum=(l.take i).sum+l[i]:=by
 rw[sW h,Kk];simp
theorem EO:∀{l:List Int} {m:Int},(∀x∈l,0≤x∧x≤m)→0≤l.sum∧l.sum≤l.length*m
 |[],m,_=>by simp
 |a::l,m,h=>by
  have h1:=h a (by simp);have h2:=EO (l:=l) (m:=m) fun x hx=>h x (by simp[hx]);simp only[CS,dZ];have :((l.length+1 :Nat):Int)*m=l.length*m+m:=by
   rw[Int.natCast_add,Int.add_mul];simp
  omega
theorem I8{l:List Int}{m:Int}(h:∀x∈l,0≤x∧x≤m)(i:Nat):0≤(l.take i).sum∧(l.take i).sum≤l.length*m:=by
 have h1:=EO (l:=l.take i) (m:=m) fun x hx=>h x (j8 hx);have h2:=EO (l:=l.drop i) (m:=m) fun x hx=>h x (sU hx);have h3:=EO h;have :l.sum=(l.take i).sum+(l.drop i).sum:=by rw[←Kk,xH]
 omega
theorem I9(a:Sl Int)(st:Int)(hl:(els a).length≤1000)(h:∀x∈els a,0≤x∧x≤5):
    ∀H,av (call pg) 48 [.p (.agg [af a,.int .i64 st])] H=some (.val (.p (.int .i64 ((els a).sum))),H):=by
 have ae:=rf (bd Ix 0)
 conv at ae=>rhs;reduce
 have hf:=rf Ix
 conv at hf=>rhs;reduce
 rw[←ae] at hf;have key:=jd (c:=call pg) (G:=pg.G) (keep:=[1,3,4]) (b:=bd Ix 0) (fun i=>[(1,.box 0 0),(3,.p (.int .i64 (((els a).take i).sum))),(4,.p (.int .i64 i))]) (fun _=>⟨[[.p (af a),.p (.int .i64 st)]],[]⟩) (els a).length (fun _=>True)
  (fun o e H=>o= .exit 0∧e.get 3= .p (.int .i64 ((els a).sum))) trivial ?_ ?_
 ·obtain⟨o,e,H,hx,rfl,h3⟩:=bJ key;refine aG (aa:=[_]) hf rfl rfl rfl ?_;clear hf ae;simp at hx;simp[hx,h3]
 ·intro i hi _;have hw:IntKind.i64.wrap (((els a).take i).sum+(els a)[i])=((els a).take i).sum+(els a)[i]:=by
   have:=I8 h (i+1);rw[sM hi] at this;exact wrap64 (by omega) (by omega)
  rw[ae];clear hf ae;simp[aR,cK hi,hi,bw (k:=i) (by omega),sM hi,hw]
 ·intro _;rw[ae];clear hf ae;simp[aR]
def EP(n:Nat)(a:Sl Int)(st:Int):Prop:=(els a).length=n∧n≤4∧1≤st∧st≤4∧(∀x∈els a,1≤x∧x≤5)∧(els a).sum≤12
theorem xb{l:List Int}{P:Int→Prop}:(∀i,i<l.length→∀x,l[i]? =some x→P x)↔∀x∈l,P x:=by
 constructor
 ·intro h x hx;obtain⟨i,hi,rfl⟩:=p6 hx;exact h i hi _ (aA hi)
 ·intro h i hi x hx;exact h x (bS hx)
theorem Vj{so f2 f3 f4:PD}{n:Nat}(bE:fg 1 (.p so)=some n)(o1:so.one=true)(o2:f2.one=true)(o3:f3.one=true)(o4:f4.one=true)(a:Sl Int)(st:Int)(hn:n<4611686018427387904)(_:(els a).length<4611686018427387904):
    ∃r:Bool,(∀H,av (call pg) 47 [.p (.agg [so,f2,f3,f4]),.p (.agg [af a,.int .i64 st])] H=some (.val (.p (.bool r)),H))∧(r=true↔EP n a st):=by
 have ae:=rf (bd Iw 0)
 conv at ae=>rhs;reduce
 have hf:=rf Iw
 conv at hf=>rhs;reduce
 rw[←ae] at hf;by_cases h0:(els a).length=n∧n≤4∧1≤st∧st≤4
 ·obtain⟨e1,e2,e3,e4⟩:=h0;have key:=ko (c:=call pg) (G:=pg.G) (keep:=[3,5]) (b:=bd Iw 0) (fun i=>[(3,.box 1 0),(5,.p (.int .i64 i))]) ⟨[[.p so,.p f2,.p f3,.p f4],[.p (af a),.p (.int .i64 st)]],[]⟩ (els a).length
   (fun i=>∀x,(els a)[i]? =some x→1≤x∧x≤5) 0 (fun e=>e.get 3= .box 1 0) (fun e=>e.get 4= .p (.bool false)) ?_ ?_ ?_
  ·rcases key with⟨e,hx,hq,hp⟩ |⟨e,hx,hr,hp⟩
   ·rw[xb] at hp;have eX:=I9 a st (by omega) fun x hx=>by have:=hp x hx;omega
    refine⟨decide ((els a).sum≤12),aG (aa:=[_,_]) hf rfl rfl rfl ?_,?_⟩
    ·clear hf ae;simp at hx;have g1:¬4<n:=by omega
     have g2:¬st<1:=by omega
     have g3:¬4<st:=by omega
     have g4:¬((4 :Int)<(n:Int)):=by omega
     simp[aR,bE,o1,o2,o3,o4,e1,g2,g3,g4,hx,hq,eX]
    ·rw[decide_eq_true_eq];exact⟨fun h=>⟨e1,e2,e3,e4,hp,h⟩,fun h=>h.2.2.2.2.2⟩
   ·rw[xb] at hp;refine⟨false,aG (aa:=[_,_]) hf rfl rfl rfl ?_,iff_of_false (by simp) fun hh=>hp hh.2.2.2.2.1⟩;clear hf ae;simp at hx;have g1:¬4<n:=by omega
    have g2:¬st<1:=by omega
    have g3:¬4<st:=by omega
    have g4:¬((4 :Int)<(n:Int)):=by omega
    simp[aR,bE,o1,o2,o3,o4,e1,g2,g3,g4,hx,hr]
  ·intro i hi hP;rw[ae];clear hf ae;have hP:=hP _ (aA hi);have g1:¬(els a)[i]<1:=by omega
   have g2:¬5<(els a)[i]:=by omega
   simp[aR,cK hi,hi,g1,g2,bw (k:=i) (by omega)]
  ·intro i hi hP;rw[ae];clear hf ae;have hP:¬(1≤(els a)[i]∧(els a)[i]≤5):=fun h=>hP fun x hx=>by
    rw[aA hi] at hx;cases hx;exact h
   by_cases g1:(els a)[i]<1
   ·simp[aR,cK hi,hi,g1]
   ·have g2:5<(els a)[i]:=by omega
    simp[aR,cK hi,hi,g1,g2]
  ·rw[ae];clear hf ae;simp[aR]
 ·refine⟨false,aG (aa:=[_,_]) hf rfl rfl rfl ?_,iff_of_false (by simp) fun h=>h0 ⟨h.1,h.2.1,h.2.2.1,h.2.2.2.1⟩⟩;clear hf ae;by_cases g1:(els a).length=n
  ·by_cases g2:4<n
   ·have g4:((4 :Int)<(n:Int)):=by omega
    simp[aR,bE,o1,o2,o3,o4,g1,g4]
   ·have g4:¬((4 :Int)<(n:Int)):=by omega
    by_cases g3:st<1
    ·simp[aR,bE,o1,o2,o3,o4,g1,g3,g4]
    ·have g5:4<st:=by omega
     simp[aR,bE,o1,o2,o3,o4,g1,g3,g4,g5]
  ·simp[aR,bE,o1,o2,o3,o4,g1]
theorem NT(a b:Sl Int)(ha:(els a).length<4611686018427387904):
    ∃r:Bool,(∀H,av (call pg) 65 [.p (af a),.p (af b)] H=some (.val (.p (.bool r)),H))∧(r=true↔els a=els b):=by
 have ae:=rf (bd Io 0)
 conv at ae=>rhs;reduce
 have hf:=rf Io
 conv at hf=>rhs;reduce
 rw[←ae] at hf;by_cases hl:(els a).length=(els b).length
 ·have key:=ko (c:=call pg) (G:=pg.G) (keep:=[0,1,12,13]) (b:=bd Io 0) (fun i=>[(0,.p (af a)),(1,.p (af b)),(12,.p (.int .i64 (((els a).length:Nat):Int))),(13,.p (.int .i64 ((i:Nat):Int)))]) ⟨[],[]⟩ (els a).length
   (fun i=>(els a)[i]? =(els b)[i]?) 0 (fun _=>True) (fun e=>e.get 4= .p (.bool false)) ?_ ?_ ?_
  ·rcases key with⟨e,hx,-,hp⟩ |⟨e,hx,hr,hp⟩
   ·refine⟨true,aG (aa:=[_,_]) hf rfl rfl rfl ?_,iff_of_true rfl ?_⟩
    ·clear hf ae;simp[aR,hl] at hx⊢;simp[hx]
    ·refine oh fun i=>?_;rcases iP i (els a).length with h |h
     ·exact hp i h
     ·rw[lU h,lU (hl▸h)]
   ·refine⟨false,aG (aa:=[_,_]) hf rfl rfl rfl ?_,iff_of_false (by simp) fun hh=>hp fun i _=>by rw[hh]⟩;clear hf ae;simp[aR,hl] at hx⊢;simp[hx,hr]
  ·intro i hi hP;rw[ae];clear hf ae;have bp:i<(els b).length:=hl▸hi;rw[aA hi,aA bp,bI] at hP;simp[cK hi,cK bp,hi,hP,bw (k:=i) (by omega)]
  ·intro i hi hP;rw[ae];clear hf ae;have bp:i<(els b).length:=hl▸hi;rw[aA hi,aA bp,bI] at hP;simp[cK hi,cK bp,hi,hP]
  ·rw[ae];clear hf ae;simp[]
 ·refine⟨false,aG (aa:=[_,_]) hf rfl rfl rfl ?_,iff_of_false (by simp) fun h=>hl (by rw[h])⟩;clear hf ae;simp[aR,hl]
theorem ER(x lo hi:Int):∀H,av (call pg) 172 [.p (.int .i64 x),.p (.int .i64 lo),.p (.int .i64 hi)] H=some (.val (.p (.bool (decide (lo≤x∧x≤hi)))),H):=by
 have hf:=rf T3
 conv at hf=>rhs;reduce
 refine aG (aa:=[_,_,_]) hf rfl rfl rfl ?_;clear hf;by_cases h1:lo≤x
 ·simp[h1]
 ·simp[h1]
theorem agG(a:Sl Int)(hl:(els a).length≤1000)(h:∀x∈els a,0≤x∧x≤5):
    ∀H,av (call pg) 173 [.p (af a)] H=some (.val (.p (.int .i64 ((els a).sum))),H):=by
 have ae:=rf (bd Iu 0)
 conv at ae=>rhs;reduce
 have hf:=rf Iu
 conv at hf=>rhs;reduce
 rw[←ae] at hf;have key:=jd (c:=call pg) (G:=pg.G) (keep:=[3,6,7,8]) (b:=bd Iu 0) (fun i=>[(3,.p (.int .i64 (((els a).take i).sum))),(6,.p (af a)),(7,.p (.int .i64 (((els a).length:Nat):Int))),(8,.p (.int .i64 ((i:Nat):Int)))]) (fun _=>⟨[],[]⟩) (els a).length (fun _=>True)
  (fun o e H=>o= .exit 0∧e.get 3= .p (.int .i64 ((els a).sum))) trivial ?_ ?_
 ·obtain⟨o,e,H,hx,rfl,h3⟩:=bJ key;refine aG (aa:=[_]) hf rfl rfl rfl ?_;clear hf ae;simp at hx;simp[aR,hx,h3]
 ·intro i hi _;have hw:IntKind.i64.wrap (((els a).take i).sum+(els a)[i])=((els a).take i).sum+(els a)[i]:=by
   have:=I8 h (i+1);rw[sM hi] at this;exact wrap64 (by omega) (by omega)
  rw[ae];clear hf ae;simp[cK hi,hi,bw (k:=i) (by omega),sM hi,hw]
 ·intro _;rw[ae];clear hf ae;simp
theorem Vk(a:Sl Int)(st:Int)(hl:(els a).length≤1000)(h:∀x∈els a,0≤x∧x≤5):
    ∀H,av (call pg) 112 [.p (.agg [af a,.int .i64 st])] H=some (.val (.p (.int .i64 ((els a).sum))),H):=by
 have hf:=rf Nf
 conv at hf=>rhs;reduce
 refine aG (aa:=[_]) hf rfl rfl rfl ?_;clear hf;simp[agG a hl h]
theorem Vl(x y:Int)(a b:Sl Int)(ha:(els a).length<4611686018427387904):
    ∃r:Bool,(∀H,av (call pg) 117 [.p (.agg [.int .i64 x,af a]),.p (.agg [.int .i64 y,af b])] H=some (.val (.p (.bool r)),H))∧(r=true↔x=y∧els a=els b):=by
 obtain⟨r,c1,d1⟩:=NT a b ha;have hf:=rf Ui
 conv at hf=>rhs;reduce
 by_cases h:x=y
 ·refine⟨r,aG (aa:=[_,_]) hf rfl rfl rfl ?_,by rw[d1];exact⟨fun q=>⟨h,q⟩,fun q=>q.2⟩⟩;clear hf;simp[h,c1]
 ·refine⟨false,aG (aa:=[_,_]) hf rfl rfl rfl ?_,iff_of_false (by simp) fun q=>h q.1⟩;clear hf;simp[h]
theorem agH{so f2 f3 f4:PD}{n:Nat}(bE:fg 1 (.p so)=some n)(o1:so.one=true)(o2:f2.one=true)(o3:f3.one=true)(o4:f4.one=true)(a:Sl Int)(st:Int)(hn:n<4611686018427387904)(_:(els a).length<4611686018427387904):
    ∃r:Bool,(∀H,av (call pg) 111 [.p (.agg [so,f2,f3,f4]),.p (.agg [af a,.int .i64 st])] H=some (.val (.p (.bool r)),H))∧(r=true↔EP n a st):=by
 have w1:=ER st 1 4;have ae:=rf (bd Iq 0)
 conv at ae=>rhs;reduce
 have hf:=rf Iq
 conv at hf=>rhs;reduce
 rw[←ae] at hf;by_cases h0:(els a).length=n∧n≤4∧1≤st∧st≤4
 ·obtain⟨e1,e2,e3,e4⟩:=h0;rw[decide_eq_true (⟨e3,e4⟩:1≤st∧st≤4)] at w1;have g4:¬((4 :Int)<(n:Int)):=by omega
  have g1:¬4<n:=by omega
  have key:=ko (c:=call pg) (G:=pg.G) (keep:=[3,27,28,29]) (b:=bd Iq 0) (fun i=>[(3,.box 1 0),(27,.p (af a)),(28,.p (.int .i64 (((els a).length:Nat):Int))),(29,.p (.int .i64 ((i:Nat):Int)))]) ⟨[[.p so,.p f2,.p f3,.p f4],[.p (af a),.p (.int .i64 st)]],[]⟩ (els a).length
   (fun i=>∀x,(els a)[i]? =some x→1≤x∧x≤5) 0 (fun e=>e.get 3= .box 1 0) (fun e=>e.get 4= .p (.bool false)) ?_ ?_ ?_
  ·rcases key with⟨e,hx,hq,hp⟩ |⟨e,hx,hr,hp⟩
   ·rw[xb] at hp;have eX:=Vk a st (by omega) fun x hx=>by have:=hp x hx;omega
    refine⟨decide ((els a).sum≤12),aG (aa:=[_,_]) hf rfl rfl rfl ?_,?_⟩
    ·clear hf ae;simp[e1] at hx;simp[aR,bE,o1,o2,o3,o4,e1,g4,w1,hx,hq,eX]
    ·rw[decide_eq_true_eq];exact⟨fun h=>⟨e1,e2,e3,e4,hp,h⟩,fun h=>h.2.2.2.2.2⟩
   ·rw[xb] at hp;refine⟨false,aG (aa:=[_,_]) hf rfl rfl rfl ?_,iff_of_false (by simp) fun hh=>hp hh.2.2.2.2.1⟩;clear hf ae;simp[e1] at hx;simp[aR,bE,o1,o2,o3,o4,e1,g4,w1,hx,hr]
  ·intro i hi hP;have hP:=hP _ (aA hi);have w:=ER (els a)[i] 1 5;rw[decide_eq_true hP] at w;rw[ae];clear hf ae;simp[cK hi,hi,w,bw (k:=i) (by omega)]
  ·intro i hi hP;have hP:¬(1≤(els a)[i]∧(els a)[i]≤5):=fun h=>hP fun x hx=>by
    rw[aA hi] at hx;cases hx;exact h
   have w:=ER (els a)[i] 1 5;rw[decide_eq_false hP] at w;rw[ae];clear hf ae;simp[cK hi,hi,w]
  ·rw[ae];clear hf ae;simp
 ·refine⟨false,aG (aa:=[_,_]) hf rfl rfl rfl ?_,iff_of_false (by simp) fun h=>h0 ⟨h.1,h.2.1,h.2.2.1,h.2.2.2.1⟩⟩;clear hf ae;by_cases g2:4<n
  ·have g4:((4 :Int)<(n:Int)):=by omega
   simp[bE,o1,o2,o3,o4,g4]
  ·have g4:¬((4 :Int)<(n:Int)):=by omega
   by_cases g1:(els a).length=n
   ·have g3:¬(1≤st∧st≤4):=fun h=>h0 ⟨g1,by omega,h.1,h.2⟩;rw[decide_eq_false g3] at w1;simp[aR,bE,o1,o2,o3,o4,g1,g4,w1]
   ·have sN:¬((els a).length:Int)=(n:Int):=by omega
    simp[aR,bE,o1,o2,o3,o4,sN,g4]
theorem tO{n i:Nat}(hn:n≤12)(hi:i≤3):n ^ i≤1728:=by
 have h1:n ^ i≤12 ^ i:=Nat.pow_le_pow_left hn i;have h2:(12 :Nat) ^ i≤12 ^ 3:=Nat.pow_le_pow_right (by omega) hi;omega
theorem agI{n k:Nat}(hn:n≤12)(hk:k≤3):∀H,av (call pg) 126 [.p (.int .i64 ((n:Nat):Int)),.p (.int .i64 ((k:Nat):Int))] H=some (.val (.p (.int .i64 ((n ^ k:Nat):Int))),H):=by
 have ae:=rf (bd IB 0)
 conv at ae=>rhs;reduce
 have hf:=rf IB
 conv at hf=>rhs;reduce
 rw[←ae] at hf;have key:=jd (c:=call pg) (G:=pg.G) (keep:=[0,1,5,6]) (b:=bd IB 0) (fun i=>[(0,.p (.int .i64 ((n:Nat):Int))),(1,.p (.int .i64 ((k:Nat):Int))),(5,.p (.int .i64 ((n ^ i:Nat):Int))),(6,.p (.int .i64 ((i:Nat):Int)))]) (fun _=>⟨[],[]⟩) k (fun _=>True)
  (fun o e H=>o= .exit 0∧e.get 5= .p (.int .i64 ((n ^ k:Nat):Int))) trivial ?_ ?_
 ·obtain⟨o,e,H,hx,rfl,h3⟩:=bJ key;refine aG (aa:=[_,_]) hf rfl rfl rfl ?_;clear hf ae;simp at hx;simp[hx,h3]
 ·intro i hi _;rw[ae];clear hf ae;have h1:(i:Int)<3:=by omega
  have h2:IntKind.i64.wrap ((n:Int) ^ i*(n:Int))=(n:Int) ^ (i+1):=by
   have:=tO hn (i:=i+1) (by omega);rw[show(n:Int) ^ i*(n:Int)=((n ^ (i+1):Nat):Int) by rw[PL];simp,wrap64 (by omega) (by omega)];simp
  simp[hi,h1,h2,bw (k:=i) (by omega)]
 ·intro _;rw[ae];clear hf ae;simp
def fl:List Int→Int→Int→Int
 |[],_,_=> -1
 |a::r,k,x=>if x<a then k else fl r (k+1) (x-a)
theorem agJ(a:Sl Int)(st x:Int)(hl:(els a).length≤1000)(h:∀x∈els a,0≤x∧x≤5)(hx: -4611686018427387904≤x∧x≤4611686018427387904):
    ∀H,av (call pg) 127 [.p (.agg [af a,.int .i64 st]),.p (.int .i64 x)] H=some (.val (.p (.int .i64 (fl (els a) 0 x))),H):=by
 have ae:=rf (bd IC 0)
 conv at ae=>rhs;reduce
 have hf:=rf IC
 conv at hf=>rhs;reduce
 rw[←ae] at hf;have key:=jd (c:=call pg) (G:=pg.G) (keep:=[1,2,5]) (b:=bd IC 0) (fun i=>[(1,.p (.int .i64 (x-((els a).take i).sum))),(2,.box 0 0),(5,.p (.int .i64 ((i:Nat):Int)))]) (fun _=>⟨[[.p (af a),.p (.int .i64 st)]],[]⟩) (els a).length
  (fun i=>fl ((els a).drop i) i (x-((els a).take i).sum)=fl (els a) 0 x)
  (fun o e H=>H=⟨[[.p (af a),.p (.int .i64 st)]],[]⟩∧((o= .exit 0∧fl (els a) 0 x= -1)∨(o= .ret∧e.get 4= .p (.int .i64 (fl (els a) 0 x))))) (by simp) ?_ ?_
 ·obtain⟨o,e,H,hx,rfl,hq⟩:=bJ key;refine aG (aa:=[_,_]) hf rfl rfl rfl ?_;clear hf ae;simp at hx;rcases hq with⟨rfl,h3⟩ |⟨rfl,h3⟩
  ·simp[hx,h3]
  ·simp[hx,h3]
 ·intro i hi hI;rw[FX hi] at hI;simp only[fl] at hI;have hw:IntKind.i64.wrap (x-((els a).take i).sum-(els a)[i])=x-((els a).take (i+1)).sum:=by
   have:=I8 h (i+1);rw[sM hi] at this⊢;rw[wrap64 (by omega) (by omega)];omega
  rw[ae];clear hf ae;by_cases hc:x-((els a).take i).sum<(els a)[i]
  ·rw[if_pos hc] at hI;simp[aR,cK hi,hi,hc,←hI]
  ·rw[if_neg hc] at hI;have zG:fl ((els a).drop (i+1)) ((i+1 :Nat):Int) (x-((els a).take (i+1)).sum)=fl (els a) 0 x:=by
    rw[←hI,sM hi];congr 1
    omega
   have hI3:fl ((els a).drop (i+1)) ((i:Int)+1) (x-((els a).take (i+1)).sum)=fl (els a) 0 x:=zG;simp[aR,cK hi,hi,hc,hw,hI3,bw (k:=i) (by omega)]
 ·intro hI;rw[Kl (aV _)] at hI;simp only[fl] at hI;rw[ae];clear hf ae;simp[aR,←hI]
def jM(ats:List Int)(n:Int):List Int→Int→Prop
 |[],_=>True
 |s::r,t=>fl ats 0 (t.tmod n)=s∧jM ats n r (t.tdiv n)
def fK(ats:List Int):Int:=if 1<ats.sum then ats.sum else 1
def vC(ats so tu:List Int):Prop:=∀t∈tu,jM ats (fK ats) so.reverse t
theorem Ja{t n:Int}(hn:1≤n)(ht:0≤t∧t≤4611686018427387904):0≤t.tdiv n∧t.tdiv n≤4611686018427387904:=by
 constructor
 ·exact YP ht.1 (by omega)
 ·rw[YQ ht.1];have:=Int.ediv_le_self (b:=n) ht.1;omega
theorem agL{t n:Int}(hn:1≤n)(ht:0≤t∧t≤4611686018427387904): -4611686018427387904≤t.tmod n∧t.tmod n≤4611686018427387904:=by
 rw[Kn ht.1];have h1:=YR t (b:=n) (by omega);have h2:t%n≤t:=by
  have:=Int.emod_add_mul_ediv t n;have h3:0≤n*(t/n):=Int.mul_nonneg (by omega) (Int.ediv_nonneg ht.1 (by omega));omega
 omega
theorem Vm(a so tu:Sl Int)(st ar:Int)(hl:(els a).length≤1000)(h:∀x∈els a,0≤x∧x≤5)(hs:(els so).length≤1000)(ht:∀x∈els tu,0≤x∧x≤4611686018427387904)(kG:(els tu).length<4611686018427387904):
    ∃r:Bool,(∀H,av (call pg) 81 [.p (.agg [af a,.int .i64 st]),.p (af so),.p (.agg [.int .i64 ar,af tu])] H=some (.val (.p (.bool r)),H))∧(r=true↔vC (els a) (els so) (els tu)):=by
 have ai:=rf (bd zd 1)
 conv at ai=>rhs;reduce
 have ae:=rf (bd zd 0)
 conv at ae=>rhs;reduce
 rw[←ai] at ae;have hf:=rf zd
 conv at hf=>rhs;reduce
 rw[←ai] at hf;rw[←ae] at hf;have eX:=I9 a st hl h;have iJ:1≤fK (els a):=by unfold fK;split<;>omega
 have inner:∀(i:Nat) (t:Int),0≤t∧t≤4611686018427387904→post (fun o e H=>H=⟨[[.p (af a),.p (.int .i64 st)],[.p (.int .i64 ar),.p (af tu)]],[]⟩∧((o= .exit 2∧jM (els a) (fK (els a)) (els so).reverse t∧e.get 1= .p (af so)∧e.get 3= .box 0 0∧e.get 5= .box 1 0∧e.get 7= .p (.int .i64 (fK (els a)))∧e.get 8= .p (.int .i64 ((i:Nat):Int)))∨(o= .ret∧e.get 6= .p (.bool false)∧¬jM (els a) (fK (els a)) (els so).reverse t)))
     (eu (call pg) pg.G [1,3,5,7,8,9,10] (bd zd 1) ⟨[(1,.p (af so)),(3,.box 0 0),(5,.box 1 0),(7,.p (.int .i64 (fK (els a)))),(8,.p (.int .i64 ((i:Nat):Int))),(9,.p (.int .i64 t)),(10,.p (.int .i64 (((els so).length:Int)-1)))],⟨[[.p (af a),.p (.int .i64 st)],[.p (.int .i64 ar),.p (af tu)]],[]⟩⟩):=by
  intro i t ht;have key:=eY (c:=call pg) (G:=pg.G) (keep:=[1,3,5,7,8,9,10]) (b:=bd zd 1) (σ:=Nat×Int) (fun s=>[(1,.p (af so)),(3,.box 0 0),(5,.box 1 0),(7,.p (.int .i64 (fK (els a)))),(8,.p (.int .i64 ((i:Nat):Int))),(9,.p (.int .i64 s.2)),(10,.p (.int .i64 ((s.1:Int)-1)))])
   (fun _=>⟨[[.p (af a),.p (.int .i64 st)],[.p (.int .i64 ar),.p (af tu)]],[]⟩) (fun s=>s.1) (fun s=>s.1≤(els so).length∧(0≤s.2∧s.2≤4611686018427387904)∧(jM (els a) (fK (els a)) ((els so).take s.1).reverse s.2↔jM (els a) (fK (els a)) (els so).reverse t))
   (fun o e H=>H=⟨[[.p (af a),.p (.int .i64 st)],[.p (.int .i64 ar),.p (af tu)]],[]⟩∧((o= .exit 2∧jM (els a) (fK (els a)) (els so).reverse t∧e.get 1= .p (af so)∧e.get 3= .box 0 0∧e.get 5= .box 1 0∧e.get 7= .p (.int .i64 (fK (els a)))∧e.get 8= .p (.int .i64 ((i:Nat):Int)))∨(o= .ret∧e.get 6= .p (.bool false)∧¬jM (els a) (fK (els a)) (els so).reverse t)))
   ?_ ((els so).length,t) ⟨aV _,ht,by rw[oo]⟩
  ·exact key
  ·rintro⟨j,u⟩ ⟨hj,hu,hI⟩;dsimp only at hj hu hI⊢;rw[ai];clear hf ae ai;cases j with
   |zero=>
    simp only[vT,List.reverse_nil,jM,true_iff] at hI;simp[hI]
   |succ k=>
    have hk:k<(els so).length:=hj;have e1:((els so).take (k+1)).reverse=(els so)[k]::((els so).take k).reverse:=by
     rw[sW hk];simp
    rw[e1] at hI;simp only[jM] at hI;have c1:(((k+1 :Nat):Int)-1)=(k:Int):=by omega
    have c2:IntKind.i64.wrap ((k:Int)-1)=(k:Int)-1:=wrap64 (by omega) (by omega);have c3:¬fK (els a)=0:=by omega
    have c5:=Ja iJ hu;have c4:IntKind.i64.wrap (u.tdiv (fK (els a)))=u.tdiv (fK (els a)):=wrap64 (by omega) (by omega);have bE:=agJ a st (u.tmod (fK (els a))) hl h (agL iJ hu);by_cases hc:fl (els a) 0 (u.tmod (fK (els a)))=(els so)[k]
    ·have zG:jM (els a) (fK (els a)) ((els so).take k).reverse (u.tdiv (fK (els a)))↔jM (els a) (fK (els a)) (els so).reverse t:=by
      rw[←hI];simp[hc]
     refine aX (Q:=fun o e H=>nx [1,3,5,7,8,9,10] [(1,.p (af so)),(3,.box 0 0),(5,.box 1 0),(7,.p (.int .i64 (fK (els a)))),(8,.p (.int .i64 ((i:Nat):Int))),(9,.p (.int .i64 (u.tdiv (fK (els a))))),(10,.p (.int .i64 ((k:Int)-1)))] ⟨[[.p (af a),.p (.int .i64 st)],[.p (.int .i64 ar),.p (af tu)]],[]⟩ o e H) ?_ fun o e H hh=>.inl ⟨(k,u.tdiv (fK (els a))),⟨by omega,c5,zG⟩,Nat.lt_succ_self k,hh⟩;rw[c1];simp[cK hk,bE,hc,c2,c3,c4]
    ·have zG:¬jM (els a) (fK (els a)) (els so).reverse t:=by
      rw[←hI];simp[hc]
     rw[c1];simp[cK hk,bE,hc,c3,zG]
 have key:=ko (c:=call pg) (G:=pg.G) (keep:=[1,3,5,7,8]) (b:=bd zd 0) (fun i=>[(1,.p (af so)),(3,.box 0 0),(5,.box 1 0),(7,.p (.int .i64 (fK (els a)))),(8,.p (.int .i64 ((i:Nat):Int)))]) ⟨[[.p (af a),.p (.int .i64 st)],[.p (.int .i64 ar),.p (af tu)]],[]⟩ (els tu).length
  (fun i=>∀x,(els tu)[i]? =some x→jM (els a) (fK (els a)) (els so).reverse x) 0 (fun _=>True) (fun e=>e.get 6= .p (.bool false)) ?_ ?_ ?_
 ·have hm:(if(els a).sum>1 then(els a).sum else 1)=fK (els a):=rfl;rcases key with⟨e,hx,-,hp⟩ |⟨e,hx,hr,hp⟩
  ·rw[xb] at hp;refine⟨true,aG (aa:=[_,_,_]) hf rfl rfl rfl ?_,iff_of_true rfl hp⟩;clear hf ae ai;simp at hx hm;simp[eX,hm,hx]
  ·rw[xb] at hp;refine⟨false,aG (aa:=[_,_,_]) hf rfl rfl rfl ?_,iff_of_false (by simp) hp⟩;clear hf ae ai;simp at hx hm;simp[eX,hm,hx,hr]
 ·intro i hi hP;have hP:=hP _ (aA hi);obtain⟨o,e,H,hx,rfl,hq⟩:=bJ (inner i (els tu)[i] (ht _ (bO hi)));rcases hq with⟨rfl,-,g1,g2,g3,g4,g5⟩ |⟨rfl,-,hn⟩
  ·rw[ae];clear hf ae ai;have c1:IntKind.i64.wrap (((els so).length:Int)-1)=((els so).length:Int)-1:=wrap64 (by omega) (by omega);simp[aR,cK hi,hi,c1,hx,g1,g2,g3,g4,g5,bw (k:=i) (by omega)]
  ·exact absurd hP hn
 ·intro i hi hP;have hP:¬jM (els a) (fK (els a)) (els so).reverse (els tu)[i]:=fun hh=>hP fun x hx=>by
   rw[aA hi] at hx;cases hx;exact hh
  obtain⟨o,e,H,hx,rfl,hq⟩:=bJ (inner i (els tu)[i] (ht _ (bO hi)));rcases hq with⟨rfl,hn,-⟩ |⟨rfl,g1,-⟩
  ·exact absurd hn hP
  ·rw[ae];clear hf ae ai;have c1:IntKind.i64.wrap (((els so).length:Int)-1)=((els so).length:Int)-1:=wrap64 (by omega) (by omega);simp[aR,cK hi,hi,c1,hx,g1]
 ·rw[ae];clear hf ae ai;simp[aR]
theorem jA{α:Type}{l:List α}{P:α→Prop}:(∀i,i<l.length→∀x,l[i]? =some x→P x)↔∀x∈l,P x:=by
 constructor
 ·intro h x hx;obtain⟨i,hi,rfl⟩:=p6 hx;exact h i hi _ (aA hi)
 ·intro h i hi x hx;exact h x (bS hx)
theorem tP{α:Type}{l:List α}{P:α→Prop}{i:Nat}(hi:i<l.length)(h:¬∀x,l[i]? =some x→P x):¬P l[i]:=fun hh=>h fun x hx=>by
 rw[aA hi] at hx;cases hx;exact hh
theorem qv{α:Type}{l:List α}{P:α→Prop}{i:Nat}(hi:i<l.length)(h:∀x,l[i]? =some x→P x):P l[i]:=h _ (aA hi)
def mo(n:Nat)(so:List Int):Prop:=(∀s∈so,0≤s∧s<(n:Int))∧1≤so.length∧so.length≤3
theorem Vn{so f2 f3 f4 nm va:PD}{n:Nat}(bE:fg 1 (.p so)=some n)(o1:so.one=true)(o2:f2.one=true)(o3:f3.one=true)(o4:f4.one=true)(o5:nm.one=true)(o6:va.one=true)(a:Sl Int)(hl:(els a).length<4611686018427387904):
    ∃r:Bool,(∀H,av (call pg) 79 [.p (.agg [so,f2,f3,f4]),.p (.agg [nm,af a,va])] H=some (.val (.p (.bool r)),H))∧(r=true↔mo n (els a)):=by
 have ae:=rf (bd Iz 0)
 conv at ae=>rhs;reduce
 have hf:=rf Iz
 conv at hf=>rhs;reduce
 rw[←ae] at hf;have key:=ko (c:=call pg) (G:=pg.G) (keep:=[2,3,5]) (b:=bd Iz 0) (fun i=>[(2,.box 0 0),(3,.box 1 0),(5,.p (.int .i64 ((i:Nat):Int)))]) ⟨[[.p so,.p f2,.p f3,.p f4],[.p nm,.p (af a),.p va]],[]⟩ (els a).length
  (fun i=>∀x,(els a)[i]? =some x→0≤x∧x<(n:Int)) 0 (fun e=>e.get 3= .box 1 0) (fun e=>e.get 4= .p (.bool false)) ?_ ?_ ?_
 ·rcases key with⟨e,hx,hq,hp⟩ |⟨e,hx,hr,hp⟩
  ·rw[jA] at hp;refine⟨decide (1≤(els a).length∧(els a).length≤3),aG (aa:=[_,_]) hf rfl rfl rfl ?_,?_⟩
   ·clear hf ae;simp at hx;by_cases g1:1≤(els a).length
    ·have g2:(1 :Int)≤((els a).length:Int):=by omega
     have g3:((els a).length:Int)≤3↔(els a).length≤3:=by omega
     simp[aR,o1,o2,o3,o4,o5,o6,hx,hq,g1,g2,g3]
    ·have g2:¬(1 :Int)≤((els a).length:Int):=by omega
     simp[aR,o1,o2,o3,o4,o5,o6,hx,hq,g1,g2]
   ·rw[decide_eq_true_eq];exact⟨fun h=>⟨hp,h⟩,fun h=>h.2⟩
  ·rw[jA] at hp;refine⟨false,aG (aa:=[_,_]) hf rfl rfl rfl ?_,iff_of_false (by simp) fun hh=>hp hh.1⟩;clear hf ae;simp at hx;simp[o1,o2,o3,o4,o5,o6,hx,hr]
 ·intro i hi hP;rw[ae];clear hf ae;have hP:=qv hi hP;have g1:¬(els a)[i]<0:=by omega
  have g2:¬(n:Int)≤(els a)[i]:=by omega
  simp[aR,cK hi,hi,bE,g1,g2,bw (k:=i) (by omega)]
 ·intro i hi hP;rw[ae];clear hf ae;have hP:=tP hi hP;by_cases g1:(els a)[i]<0
  ·simp[aR,cK hi,hi,g1]
  ·have g2:(n:Int)≤(els a)[i]:=by omega
   simp[aR,cK hi,hi,bE,g1,g2]
 ·rw[ae];clear hf ae;simp[aR]
theorem NU(a b:Sl Int)(x y:Int)(ha:(els a).length<4611686018427387904):
    ∃r:Bool,(∀H,av (call pg) 38 [.p (.agg [.int .i64 x,af a]),.p (.agg [.int .i64 y,af b])] H=some (.val (.p (.bool r)),H))∧(r=true↔x=y∧els a=els b):=by
 have ae:=rf (bd Im 0)
 conv at ae=>rhs;reduce
 have hf:=rf Im
 conv at hf=>rhs;reduce
 rw[←ae] at hf;by_cases pI:x=y
 ·by_cases hl:(els a).length=(els b).length
  ·have key:=ko (c:=call pg) (G:=pg.G) (keep:=[2,3,5]) (b:=bd Im 0) (fun i=>[(2,.box 0 0),(3,.box 1 0),(5,.p (.int .i64 ((i:Nat):Int)))]) ⟨[[.p (.int .i64 x),.p (af a)],[.p (.int .i64 y),.p (af b)]],[]⟩ (els a).length
    (fun i=>(els a)[i]? =(els b)[i]?) 0 (fun _=>True) (fun e=>e.get 4= .p (.bool false)) ?_ ?_ ?_
   ·rcases key with⟨e,hx,-,hp⟩ |⟨e,hx,hr,hp⟩
    ·refine⟨true,aG (aa:=[_,_]) hf rfl rfl rfl ?_,iff_of_true rfl ⟨pI,?_⟩⟩
     ·clear hf ae;simp at hx;simp[aR,hl,pI] at hx⊢;simp[hx]
     ·refine oh fun i=>?_;rcases iP i (els a).length with h |h
      ·exact hp i h
      ·rw[lU h,lU (hl▸h)]
    ·refine⟨false,aG (aa:=[_,_]) hf rfl rfl rfl ?_,iff_of_false (by simp) fun hh=>hp fun i _=>by rw[hh.2]⟩;clear hf ae;simp[aR,hl,pI] at hx⊢;simp[hx,hr]
   ·intro i hi hP;rw[ae];clear hf ae;have bp:i<(els b).length:=hl▸hi;rw[aA hi,aA bp,bI] at hP;simp[aR,cK hi,cK bp,hi,hP,bw (k:=i) (by omega)]
   ·intro i hi hP;rw[ae];clear hf ae;have bp:i<(els b).length:=hl▸hi;rw[aA hi,aA bp,bI] at hP;simp[aR,cK hi,cK bp,hi,hP]
   ·rw[ae];clear hf ae;simp[aR]
  ·refine⟨false,aG (aa:=[_,_]) hf rfl rfl rfl ?_,iff_of_false (by simp) fun h=>hl (by rw[h.2])⟩;clear hf ae;simp[aR,hl,pI]
 ·refine⟨false,aG (aa:=[_,_]) hf rfl rfl rfl ?_,iff_of_false (by simp) fun h=>pI h.1⟩;clear hf ae;simp[pI]
def pN(n:Int)(ar:Int)(tu:List Int):Prop:=0≤n∧n≤12∧1≤ar∧ar≤3∧
 ∀i,i<tu.length→(∀x,tu[i]? =some x→0≤x∧x<n ^ ar.toNat)∧∀x y,0<i→tu[i]? =some x→tu[i-1]? =some y→y<x
theorem B8(n ar:Int)(a:Sl Int)(ha:(els a).length<4611686018427387904):
    ∃r:Bool,(∀H,av (call pg) 80 [.p (.int .i64 n),.p (.agg [.int .i64 ar,af a])] H=some (.val (.p (.bool r)),H))∧(r=true↔pN n ar (els a)):=by
 have ae:=rf (bd IA 0)
 conv at ae=>rhs;reduce
 have hf:=rf IA
 conv at hf=>rhs;reduce
 rw[←ae] at hf;by_cases h0:0≤n∧n≤12∧1≤ar∧ar≤3
 ·obtain⟨e1,e2,e3,e4⟩:=h0;have oU:=agI (n:=n.toNat) (k:=ar.toNat) (by omega) (by omega);have hn:((n.toNat:Nat):Int)=n:=by omega
  have uK:((ar.toNat:Nat):Int)=ar:=by omega
  have ES:((n.toNat ^ ar.toNat:Nat):Int)=n ^ ar.toNat:=by rw[CT,hn]
  rw[hn,uK,ES] at oU;have key:=ko (c:=call pg) (G:=pg.G) (keep:=[0,3,5]) (b:=bd IA 0) (fun i=>[(0,.p (.int .i64 n)),(3,.box 0 0),(5,.p (.int .i64 ((i:Nat):Int)))]) ⟨[[.p (.int .i64 ar),.p (af a)]],[]⟩ (els a).length
   (fun i=>(∀x,(els a)[i]? =some x→0≤x∧x<n ^ ar.toNat)∧∀x y,0<i→(els a)[i]? =some x→(els a)[i-1]? =some y→y<x) 0 (fun _=>True) (fun e=>e.get 4= .p (.bool false)) ?_ ?_ ?_
  ·rcases key with⟨e,hx,-,hp⟩ |⟨e,hx,hr,hp⟩
   ·refine⟨true,aG (aa:=[_,_]) hf rfl rfl rfl ?_,iff_of_true rfl ⟨e1,e2,e3,e4,hp⟩⟩;clear hf ae;simp at hx;have g1:¬n<0:=by omega
    have g2:¬12<n:=by omega
    have g3:¬ar<1:=by omega
    have g4:¬3<ar:=by omega
    simp[hx,g1,g2,g3,g4]
   ·refine⟨false,aG (aa:=[_,_]) hf rfl rfl rfl ?_,iff_of_false (by simp) fun hh=>hp hh.2.2.2.2⟩;clear hf ae;simp at hx;have g1:¬n<0:=by omega
    have g2:¬12<n:=by omega
    have g3:¬ar<1:=by omega
    have g4:¬3<ar:=by omega
    simp[hx,hr,g1,g2,g3,g4]
  ·intro i hi hP;obtain⟨p1,p2⟩:=hP;have p1:=qv hi p1;have g1:¬(els a)[i]<0:=by omega
   have g2:¬n ^ ar.toNat≤(els a)[i]:=by omega
   rw[ae];clear hf ae;cases i with
   |zero=>
    have c6:=cK hi;simp only[gJ] at c6;simp[aR,c6,hi,oU,g1,g2,wrap64]
   |succ k=>
    have hk:k<(els a).length:=by omega
    have p2:=p2 (els a)[k+1] (els a)[k] (by omega) (aA hi) (aA hk);have c1:IntKind.i64.wrap (((k+1 :Nat):Int)-1)=(k:Int):=by rw[wrap64 (by omega) (by omega)];omega
    have c2:(0 :Int)<((k+1 :Nat):Int):=by omega
    have c3:¬(els a)[k+1]≤(els a)[k]:=by omega
    have c4:=bw (k:=k+1) (by omega);have c5:((k+1 :Nat):Int)<((els a).length:Int):=by omega
    have c6:=cK hi;generalize ((k+1 :Nat):Int)=kk at *;simp[aR,c6,cK hk,oU,g1,g2,c1,c2,c3,c4,c5]
  ·intro i hi hP;rw[ae];clear hf ae;by_cases g1:(els a)[i]<0
   ·simp[aR,cK hi,hi,g1]
   ·by_cases g2:n ^ ar.toNat≤(els a)[i]
    ·simp[aR,cK hi,hi,oU,g1,g2]
    ·cases i with
     |zero=>
      refine absurd ⟨fun x hx=>?_,fun x y h=>absurd h (by omega)⟩ hP;rw[aA hi] at hx;cases hx;omega
     |succ k=>
      have hk:k<(els a).length:=by omega
      have c1:IntKind.i64.wrap (((k+1 :Nat):Int)-1)=(k:Int):=by rw[wrap64 (by omega) (by omega)];omega
      have c2:(0 :Int)<((k+1 :Nat):Int):=by omega
      have c3:(els a)[k+1]≤(els a)[k]:=by
       refine Int.not_lt.1 fun ah=>hP ⟨fun x hx=>?_,fun x y _ hx hy=>?_⟩
       ·rw[aA hi] at hx;cases hx;omega
       ·rw[aA hi] at hx;cases hx;rw[YS,aA hk] at hy;cases hy;exact ah
      have c5:((k+1 :Nat):Int)<((els a).length:Int):=by omega
      have c6:=cK hi;generalize ((k+1 :Nat):Int)=kk at *;simp[aR,c6,cK hk,oU,g1,g2,c1,c2,c3,c5]
  ·rw[ae];clear hf ae;simp[aR]
 ·refine⟨false,aG (aa:=[_,_]) hf rfl rfl rfl ?_,iff_of_false (by simp) fun h=>h0 ⟨h.1,h.2.1,h.2.2.1,h.2.2.2.1⟩⟩;clear hf ae;by_cases g1:n<0
  ·simp[g1]
  ·by_cases g2:12<n
   ·simp[g1,g2]
   ·by_cases g3:ar<1
    ·simp[g1,g2,g3]
    ·have g4:3<ar:=by omega
     simp[g1,g2,g3,g4]
theorem agM{n k:Nat}(hn:n≤12)(hk:k≤3):∀H,av (call pg) 176 [.p (.int .i64 ((n:Nat):Int)),.p (.int .i64 ((k:Nat):Int))] H=some (.val (.p (.int .i64 ((n ^ k:Nat):Int))),H):=by
 have ae:=rf (bd Iv 0)
 conv at ae=>rhs;reduce
 have hf:=rf Iv
 conv at hf=>rhs;reduce
 rw[←ae] at hf;have key:=jd (c:=call pg) (G:=pg.G) (keep:=[0,5,6,7]) (b:=bd Iv 0) (fun i=>[(0,.p (.int .i64 ((n:Nat):Int))),(5,.p (.int .i64 ((n ^ i:Nat):Int))),(6,.p (.int .i64 ((k:Nat):Int))),(7,.p (.int .i64 ((i:Nat):Int)))]) (fun _=>⟨[],[]⟩) k (fun _=>True)
  (fun o e H=>o= .exit 0∧e.get 5= .p (.int .i64 ((n ^ k:Nat):Int))) trivial ?_ ?_
 ·obtain⟨o,e,H,hx,rfl,h3⟩:=bJ key;refine aG (aa:=[_,_]) hf rfl rfl rfl ?_;clear hf ae;simp at hx;simp[hx,h3]
 ·intro i hi _;rw[ae];clear hf ae;have h2:IntKind.i64.wrap ((n:Int) ^ i*(n:Int))=(n:Int) ^ (i+1):=by
   have:=tO hn (i:=i+1) (by omega);rw[show(n:Int) ^ i*(n:Int)=((n ^ (i+1):Nat):Int) by rw[PL];simp,wrap64 (by omega) (by omega)];simp
  simp[hi,h2,bw (k:=i) (by omega)]
 ·intro _;rw[ae];clear hf ae;simp
def pO(l:List Int):Nat→Int
 | 0=> -1
 |i+1=>l.getD i 0
theorem agN(n ar:Int)(a:Sl Int)(ha:(els a).length<4611686018427387904):
    ∃r:Bool,(∀H,av (call pg) 114 [.p (.int .i64 n),.p (.agg [.int .i64 ar,af a])] H=some (.val (.p (.bool r)),H))∧(r=true↔pN n ar (els a)):=by
 have ae:=rf (bd Ir 0)
 conv at ae=>rhs;reduce
 have hf:=rf Ir
 conv at hf=>rhs;reduce
 rw[←ae] at hf;by_cases h0:0≤n∧n≤12∧1≤ar∧ar≤3
 ·obtain⟨e1,e2,e3,e4⟩:=h0;have oU:=agM (n:=n.toNat) (k:=ar.toNat) (by omega) (by omega);have hn:((n.toNat:Nat):Int)=n:=by omega
  have uK:((ar.toNat:Nat):Int)=ar:=by omega
  have ES:((n.toNat ^ ar.toNat:Nat):Int)=n ^ ar.toNat:=by rw[CT,hn]
  rw[hn,uK,ES] at oU;have g1:¬n<0:=by omega
  have g2:¬12<n:=by omega
  have g3:¬ar<1:=by omega
  have g4:¬3<ar:=by omega
  have key:=I7 (c:=call pg) (G:=pg.G) (keep:=[0,3,5,25,26,27]) (b:=bd Ir 0) (fun i=>[(0,.p (.int .i64 n)),(3,.box 0 0),(5,.p (.int .i64 (pO (els a) i))),(25,.p (af a)),(26,.p (.int .i64 (((els a).length:Nat):Int))),(27,.p (.int .i64 ((i:Nat):Int)))]) ⟨[[.p (.int .i64 ar),.p (af a)]],[]⟩ (els a).length
   (fun i=>(∀x,(els a)[i]? =some x→0≤x∧x<n ^ ar.toNat)∧∀x y,0<i→(els a)[i]? =some x→(els a)[i-1]? =some y→y<x) 0 (fun _=>True) (fun e=>e.get 4= .p (.bool false)) ?_ ?_ ?_
  ·rcases key with⟨e,hx,-,hp⟩ |⟨e,hx,hr,hp⟩
   ·refine⟨true,aG (aa:=[_,_]) hf rfl rfl rfl ?_,iff_of_true rfl ⟨e1,e2,e3,e4,hp⟩⟩;clear hf ae;simp[pO] at hx;simp[aR,hx,g1,g2,g3,g4]
   ·refine⟨false,aG (aa:=[_,_]) hf rfl rfl rfl ?_,iff_of_false (by simp) fun hh=>hp hh.2.2.2.2⟩;clear hf ae;simp[pO] at hx;simp[aR,hx,hr,g1,g2,g3,g4]
  ·intro i hi eQ hP;have hx:pO (els a) (i+1)=(els a)[i]:=by simp[pO,fE,aA hi]
   have h1:¬(els a)[i]≤pO (els a) i:=by
    have h3:=hP.1 _ (aA hi);cases i with
    |zero=>simp only[pO];omega
    |succ k=>
     have hk:k<(els a).length:=by omega
     have:=hP.2 _ _ (by omega) (aA hi) (aA hk);simp only[pO,fE,aA hk,kU];omega
   have h2:¬n ^ ar.toNat≤(els a)[i]:=by have:=hP.1 _ (aA hi);omega
   have aM:=cK hi;rw[hx];generalize pO (els a) i=pv at *;generalize (els a)[i]=x at *;rw[ae];clear hf ae;simp[aM,hi,h1,h2,oU,bw (k:=i) (by omega)]
  ·intro i hi eQ hP;have aM:=cK hi;have hor:(els a)[i]≤pO (els a) i∨n ^ ar.toNat≤(els a)[i]:=by
    refine qD fun aq=>hP ⟨fun x hx=>?_,fun x y h hx hy=>?_⟩
    ·rw[aA hi] at hx;cases hx;refine⟨?_,by omega⟩;cases i with
     |zero=>simp only[pO] at aq;omega
     |succ k=>
      have hk:k<(els a).length:=by omega
      have:=(eQ k (by omega)).1 _ (aA hk);simp only[pO,fE,aA hk,kU] at aq;omega
    ·rw[aA hi] at hx;cases hx;cases i with
     |zero=>omega
     |succ k=>
      have hk:k<(els a).length:=by omega
      rw[YS,aA hk] at hy;cases hy;simp only[pO,fE,aA hk,kU] at aq;omega
   clear eQ hP;generalize pO (els a) i=pv at *;generalize (els a)[i]=x at *;rw[ae];clear hf ae;by_cases h1:x≤pv
   ·simp[aM,hi,h1]
   ·have h2:n ^ ar.toNat≤x:=by omega
    simp[aM,hi,h1,h2,oU]
  ·rw[ae];clear hf ae;simp
 ·refine⟨false,aG (aa:=[_,_]) hf rfl rfl rfl ?_,iff_of_false (by simp) fun h=>h0 ⟨h.1,h.2.1,h.2.2.1,h.2.2.2.1⟩⟩;clear hf ae;by_cases g1:n<0
  ·simp[g1]
  ·by_cases g2:12<n
   ·simp[g1,g2]
   ·by_cases g3:ar<1
    ·simp[g1,g2,g3]
    ·have g4:3<ar:=by omega
     simp[g1,g2,g3,g4]
set_option maxHeartbeats 4000000
structure Bt where
 l:List Bool
 h:l.length=64
def Bt.g(b:Bt)(k:Nat):Bool:=b.l.getD k false
def Bt.s(b:Bt)(k:Nat)(v:Bool):Bt:=⟨b.l.set k v,by rw[List.length_set];exact b.h⟩
def Bt.e:Bt:=⟨eB 64 false,by simp⟩
def aj(a:Int)(b:Bt):List PD:=.int .i64 a::b.l.map PD.bool
noncomputable def cE:List PD:=.int .i64 0::(eB 64 false).map PD.bool
noncomputable def oV:List PD:=.str []:: .int .i64 0::(eB 64 false).map PD.bool
theorem cu:cE=aj 0 Bt.e:=rfl
@[simp] theorem apy(a:Int)(b:Bt):(aj a b).length=65:=by simp[aj,b.h]
@[simp] theorem apz(a:Int)(b:Bt):(aj a b)[0]? =some (.int .i64 a):=rfl
@[simp] theorem apA(a:Int)(b:Bt)(h:0<(aj a b).length):(aj a b)[0]'h= .int .i64 a:=rfl
theorem tQ{a:Int}{b:Bt}{k:Nat}(h:k<64):(aj a b)[1+k]? =some (.bool (b.g k)):=by
 rw[Nat.add_comm];simp only[aj,vN,cP,Bt.g,fE];rw[aA (by rw[b.h];exact h)];rfl
theorem dx(a:Int)(b:Bt):rI 65 ((aj a b).map D.p)=(aj a b).map D.p:=jC (by simp)
theorem sO(a:Int)(b:Bt):rI 65 (aj a b)=aj a b:=jC (by simp)
theorem cz(a c:Int)(b d:Bt):aE ((aj a b).map D.p) 0 ((aj c d).map D.p)=(aj c d).map D.p:=by
 unfold aE;rw[vT,jm,Kl (by simp),lA]
theorem B9{a:Int}{b:Bt}{k:Nat}{v:Bool}(h:k<64):aE ((aj a b).map D.p) (1+k) [.p (.bool v)]=(aj a (b.s k v)).map D.p:=by
 unfold aE;refine oh fun i=>?_;rw[Nat.add_comm 1 k];have hl:b.l.length=64:=b.h;rcases i with _ |i
 ·simp[aj]
 ·simp only[aj,dA,YT,jN,vN,xL,List.drop_succ_cons,Bt.s,uf];rcases FZ i k with hi |hi |hi
  ·rw[oc,cH (by simp[hl];omega),o7 hi,cP,cP,dH (by omega)]
  ·subst hi;rw[oc,eL (by simp[hl];omega)];have :i-(rI i (vO (D.p∘PD.bool) b.l)).length=0:=by simp[hl];omega
   rw[this,cP,j9 (by omega)];rfl
  ·rw[eL (by simp[hl];omega),oZ,cP,cP,dH (by omega)];have :k+1+(i-(rI k (vO (D.p∘PD.bool) b.l)++[D.p (PD.bool v)]).length)=i:=by simp[hl];omega
   rw[this]
theorem NV(a:Int)(b:Bt):∀x∈aj a b,x.one=true:=by
 intro x hx;simp only[aj,cN,dz] at hx;rcases hx with rfl |⟨y,-,rfl⟩<;>rfl
theorem cn(a:Int)(b:Bt):(∀x∈aj a b,x.one=true)=True:=eq_true (NV a b)
theorem agO(a:Int)(b:Bt):((aj a b).map D.p).all D.one=true:=by
 rw[gI];intro x hx;obtain⟨y,hy,rfl⟩:=dz.1 hx;exact NV a b y hy
theorem xc(a c:Int)(b:Bt):aO ((aj c b).map D.p) [(0,1,.p (.int .i64 a))]=some ((aj a b).map D.p):=by
 simp[aO,aj,aE,zC]
theorem j5(l:List D):aO l []=some l:=rfl
theorem apB(a:Int):aO [.p (.int .i64 0),.p (.int .i64 0)] [(0,1,.p (.int .i64 a))]=some [.p (.int .i64 a),.p (.int .i64 0)]:=rfl
theorem oW(a b:Int):aO [.p (.int .i64 0),.p (.int .i64 0)] [(0,1,.p (.int .i64 a)),(1,1,.p (.int .i64 b))]=some [.p (.int .i64 a),.p (.int .i64 b)]:=rfl
theorem eZ(x y a b:D):aE [x,y] 0 [a,b]=[a,b]:=rfl
theorem tR(a b c d e f g h:D):aE [a,b,c,d,e,f,g] 6 [h]=[a,b,c,d,e,f,h]:=rfl
abbrev gH(a:Int)(b:Bt):PD:=.agg (aj a b)
theorem Jb(k:Int):∃n:Nat,(∀H,av (call pg) 373 [.p (.int .i64 k)] H=some (.val (.p (.int .i64 ((n:Nat):Int))),H))∧1≤n∧n≤64∧(1≤k→4≤n)∧(n=1∨n=4∨n=16∨n=64):=by
 have hf:=rf Up
 conv at hf=>rhs;reduce
 by_cases h1:k<1
 ·refine⟨1,aG (aa:=[_]) hf rfl rfl rfl ?_,by omega⟩;clear hf;simp[h1]
 ·by_cases h2:k=1
  ·refine⟨4,aG (aa:=[_]) hf rfl rfl rfl ?_,by omega⟩;clear hf;simp[h2]
  ·by_cases h3:k=2
   ·refine⟨16,aG (aa:=[_]) hf rfl rfl rfl ?_,by omega⟩;clear hf;simp[h3]
   ·refine⟨64,aG (aa:=[_]) hf rfl rfl rfl ?_,by omega⟩;clear hf;simp[h1,h2,h3]
theorem Ca(a c:Int)(b d:Bt):∃r:Bt,∀H,av (call pg) 325 [.p (gH a b),.p (gH c d)] H=some (.val (.p (gH a r)),H):=by
 have key:=eY (c:=call pg) (G:=pg.G) (keep:=[2,3,4,5]) (b:=bd Eo 0) (σ:=Nat×Bt) (fun s=>[(2,.box 0 0),(3,.box 1 0),(4,.box 2 0),(5,.p (.int .i64 ((s.1:Nat):Int)))]) (fun s=>⟨[(aj a s.2).map D.p,(aj c d).map D.p,(aj 0 Bt.e).map D.p],[]⟩) (fun s=>64-s.1) (fun s=>s.1≤64)
  (fun o e H=>o= .exit 0∧e.get 2= .box 0 0∧e.get 4= .box 2 0∧∃r,H=⟨[(aj a r).map D.p,(aj c d).map D.p,(aj 0 Bt.e).map D.p],[]⟩)
  (by
   rintro⟨i,x⟩ hi;dsimp only at hi⊢
   conv in bd Eo 0=>reduce
   by_cases h:i<64
   ·have h1:(i:Int)<64:=by omega
    have h2:1+i≤64:=by omega
    have g1:=tQ (a:=a) (b:=x) h;have g2:=tQ (a:=c) (b:=d) h;have g3:=fun v=>B9 (a:=a) (b:=x) (v:=v) h;have k1:=bw (k:=i) (by omega);refine aX (Q:=nx [2,3,4,5] [(2,.box 0 0),(3,.box 1 0),(4,.box 2 0),(5,.p (.int .i64 ((i+1 :Nat):Int)))] ⟨[(aj a (x.s i (x.g i||d.g i))).map D.p,(aj c d).map D.p,(aj 0 Bt.e).map D.p],[]⟩) ?_ fun o e H hh=>.inl ⟨(i+1,_),by dsimp only;omega,by dsimp only;omega,hh⟩;cases hx:x.g i with
    |true=>
     rw[hx] at g1;simp[-aE,jL,h1,h2,g1,g3,k1]
    |false=>
     rw[hx] at g1;simp[-aE,jL,h1,h2,g1,g2,g3,k1]
   ·have :i=64:=by omega
    subst this;refine aX (Q:=fun o e H=>o= .exit 0∧e.get 2= .box 0 0∧e.get 4= .box 2 0∧H=⟨[(aj a x).map D.p,(aj c d).map D.p,(aj 0 Bt.e).map D.p],[]⟩) ?_ ?_
    ·simp
    ·rintro o e H ⟨rfl,q1,q2,rfl⟩;exact .inr ⟨by simp,rfl,q1,q2,x,rfl⟩) (0,b) (b9 _)
 obtain⟨o,e,H,hx,rfl,q1,q2,r,rfl⟩:=bJ key;simp only[gJ] at hx;have ae:=rf (bd Eo 0)
 conv at ae=>rhs;reduce
 have hf:=rf Eo
 conv at hf=>rhs;reduce
 rw[←ae] at hf;have aK:cE=cE:=rfl
 conv at aK=>rhs;reduce
 try rw[←aK] at hf
 try rw[←aK] at ae
 clear aK;refine⟨r,aG (aa:=[_,_]) hf rfl rfl rfl ?_⟩;clear hf ae;simp[-aE,cu,hx,q1,q2,dx,cz,cR,cn]
theorem agP(a c:Int)(b d:Bt):∃r:Bt,∀H,av (call pg) 326 [.p (gH a b),.p (gH c d)] H=some (.val (.p (gH a r)),H):=by
 have key:=eY (c:=call pg) (G:=pg.G) (keep:=[2,3,4,5]) (b:=bd Ep 0) (σ:=Nat×Bt) (fun s=>[(2,.box 0 0),(3,.box 1 0),(4,.box 2 0),(5,.p (.int .i64 ((s.1:Nat):Int)))]) (fun s=>⟨[(aj a s.2).map D.p,(aj c d).map D.p,(aj 0 Bt.e).map D.p],[]⟩) (fun s=>64-s.1) (fun s=>s.1≤64)
  (fun o e H=>o= .exit 0∧e.get 2= .box 0 0∧e.get 4= .box 2 0∧∃r,H=⟨[(aj a r).map D.p,(aj c d).map D.p,(aj 0 Bt.e).map D.p],[]⟩)
  (by
   rintro⟨i,x⟩ hi;dsimp only at hi⊢
   conv in bd Ep 0=>reduce
   by_cases h:i<64
   ·have h1:(i:Int)<64:=by omega
    have h2:1+i≤64:=by omega
    have g1:=tQ (a:=a) (b:=x) h;have g2:=tQ (a:=c) (b:=d) h;have g3:=fun v=>B9 (a:=a) (b:=x) (v:=v) h;have k1:=bw (k:=i) (by omega);refine aX (Q:=nx [2,3,4,5] [(2,.box 0 0),(3,.box 1 0),(4,.box 2 0),(5,.p (.int .i64 ((i+1 :Nat):Int)))] ⟨[(aj a (x.s i (x.g i&&d.g i))).map D.p,(aj c d).map D.p,(aj 0 Bt.e).map D.p],[]⟩) ?_ fun o e H hh=>.inl ⟨(i+1,_),by dsimp only;omega,by dsimp only;omega,hh⟩;cases hx:x.g i with
    |true=>
     rw[hx] at g1;simp[-aE,jL,h1,h2,g1,g2,g3,k1]
    |false=>
     rw[hx] at g1;simp[-aE,jL,h1,h2,g1,g3,k1]
   ·have :i=64:=by omega
    subst this;refine aX (Q:=fun o e H=>o= .exit 0∧e.get 2= .box 0 0∧e.get 4= .box 2 0∧H=⟨[(aj a x).map D.p,(aj c d).map D.p,(aj 0 Bt.e).map D.p],[]⟩) ?_ ?_
    ·simp
    ·rintro o e H ⟨rfl,q1,q2,rfl⟩;exact .inr ⟨by simp,rfl,q1,q2,x,rfl⟩) (0,b) (b9 _)
 obtain⟨o,e,H,hx,rfl,q1,q2,r,rfl⟩:=bJ key;simp only[gJ] at hx;have ae:=rf (bd Ep 0)
 conv at ae=>rhs;reduce
 have hf:=rf Ep
 conv at hf=>rhs;reduce
 rw[←ae] at hf;have aK:cE=cE:=rfl
 conv at aK=>rhs;reduce
 try rw[←aK] at hf
 try rw[←aK] at ae
 clear aK;refine⟨r,aG (aa:=[_,_]) hf rfl rfl rfl ?_⟩;clear hf ae;simp[-aE,cu,hx,q1,q2,dx,cz,cR,cn]
structure Jc (d:D) (n:Nat):Prop where
 len:fg 1 d=some n
 ia:∀k,k<n→∃v,eN none 1 d (k:Int)=some (.ro [.int .i64 v] 0)
 rf:d.refs=[]
 tk:d.cJ=[]
 rn:∀f g,d.ren f g=some d
theorem agQ(s:Sl Int):Jc (.p (af s)) (els s).length:=⟨aR s,fun _ h=>⟨_,cK h⟩,rfl,rfl,fun _ _=>rfl⟩
theorem NW(a:Int):Jc (.cI 3 1 [.int .i64 a]) 1:=⟨rfl,fun k h=>⟨a,by
 have :k=0:=by omega
 subst this;exact Ia (es:=[PD.int .i64 a]) (k:=0) h⟩,rfl,rfl,fun _ _=>rfl⟩
theorem Vo(a b:Int):Jc (.cI 3 1 [.int .i64 a,.int .i64 b]) 2:=⟨rfl,fun k h=>by
 have hk:k=0∨k=1:=by omega
 rcases hk with rfl |rfl
 ·exact⟨a,Ia (es:=[PD.int .i64 a,.int .i64 b]) (k:=0) h⟩
 ·exact⟨b,Ia (es:=[PD.int .i64 a,.int .i64 b]) (k:=1) h⟩,rfl,rfl,fun _ _=>rfl⟩
theorem Cb{d:D}{n:Nat}(hd:Jc d n)(hn:n<4611686018427387904):∃r:Bt,∀H,av (call pg) 243 [d] H=some (.val (.p (gH n r)),H):=by
 have key:=eY (c:=call pg) (G:=pg.G) (keep:=[0,2,3,4,5]) (b:=bd El 0) (σ:=Nat×Int) (fun s=>[(0,d),(2,.box 0 0),(3,.box 1 0),(4,.p (.int .i64 s.2)),(5,.p (.int .i64 ((s.1:Nat):Int)))]) (fun _=>⟨[(aj 0 Bt.e).map D.p,(aj n Bt.e).map D.p],[]⟩) (fun s=>n-s.1) (fun s=>s.1≤n)
  (fun o e H=>H=⟨[(aj 0 Bt.e).map D.p,(aj n Bt.e).map D.p],[]⟩∧o= .exit 0∧e.get 2= .box 0 0∧e.get 3= .box 1 0∧∃x:Int,e.get 4= .p (.int .i64 x))
  (by
   rintro⟨i,x⟩ hi;dsimp only at hi⊢
   conv in bd El 0=>reduce
   by_cases h:i<n
   ·obtain⟨v,hv⟩:=hd.ia i h;have hl:=hd.len;have k1:=bw (k:=i) (by omega);refine aX (Q:=nx [0,2,3,4,5] [(0,d),(2,.box 0 0),(3,.box 1 0),(4,.p (.int .i64 (IntKind.i64.wrap (IntKind.i64.wrap (4*x)+v)))),(5,.p (.int .i64 ((i+1 :Nat):Int)))] ⟨[(aj 0 Bt.e).map D.p,(aj n Bt.e).map D.p],[]⟩) ?_ fun o e H hh=>.inl ⟨(i+1,_),by dsimp only;omega,by dsimp only;omega,hh⟩;simp[-aE,-aO,hl,hv,h,k1]
   ·have :i=n:=by omega
    subst this;have hl:=hd.len;refine aX (Q:=fun o e H=>o= .exit 0∧H=⟨[(aj 0 Bt.e).map D.p,(aj i Bt.e).map D.p],[]⟩∧e.get 2= .box 0 0∧e.get 3= .box 1 0∧e.get 4= .p (.int .i64 x)) ?_ ?_
    ·simp[-aE,-aO,hl]
    ·rintro o e H ⟨rfl,rfl,q1,q2,q3⟩;exact .inr ⟨by simp,rfl,rfl,q1,q2,x,q3⟩) (0,0) (b9 _)
 obtain⟨o,e,H,hx,rfl,rfl,q1,q2,x,q3⟩:=bJ key;simp only[gJ] at hx;have hl:=hd.len;have hr:D.aD [d]=[]:=by simp[D.aD,hd.rf]
 have ht:D.bz [d]=[]:=by simp[D.bz,hd.tk]
 have cO:D.ba (idx []) (idx []) [d]=some [d]:=by simp[D.ba,hd.rn]
 have ae:=rf (bd El 0)
 conv at ae=>rhs;reduce
 have hf:=rf El
 conv at hf=>rhs;reduce
 rw[←ae] at hf;have aK:cE=cE:=rfl
 conv at aK=>rhs;reduce
 try rw[←aK] at hf
 try rw[←aK] at ae
 clear aK;by_cases qY:0≤x∧x<64
 ·obtain⟨k,rfl⟩:∃k:Nat,x=(k:Int):=⟨x.toNat,by omega⟩;have hk:k<64:=by omega
  have h2:1+k≤64:=by omega
  have h3:(k:Int)<64:=by omega
  have g3:=fun v=>B9 (a:=n) (b:=Bt.e) (v:=v) hk;refine⟨Bt.s Bt.e k true,tN hf rfl rfl rfl hr ht cO ?_⟩;clear hf ae;simp[-aE,-aO,cu,dx,cz,cR,cn,xc,jL,hl,hx,q1,q2,q3,h2,h3,g3]
 ·refine⟨Bt.e,tN hf rfl rfl rfl hr ht cO ?_⟩;clear hf ae;by_cases Vp:0≤x
  ·have hx4:¬x<64:=by omega
   simp[-aE,-aO,cu,dx,cz,cR,cn,xc,hl,hx,q1,q2,q3,Vp,hx4]
  ·simp[-aE,-aO,cu,dx,cz,cR,cn,xc,hl,hx,q1,q2,q3,Vp]
theorem agS(a:Int)(b:Bt):∃r:Bt,∀H,av (call pg) 329 [.p (gH a b)] H=some (.val (.p (gH 2 r)),H):=by
 have key:=eY (c:=call pg) (G:=pg.G) (keep:=[1,2,3,4]) (b:=bd Es 0) (σ:=Nat×Bt) (fun s=>[(1,.box 0 0),(2,.box 1 0),(3,.box 2 0),(4,.p (.int .i64 ((s.1:Nat):Int)))]) (fun s=>⟨[(aj a b).map D.p,(aj 0 Bt.e).map D.p,(aj 2 s.2).map D.p],[]⟩) (fun s=>16-s.1) (fun s=>s.1≤16)
  (fun o e H=>o= .exit 0∧e.get 2= .box 1 0∧e.get 3= .box 2 0∧∃r,H=⟨[(aj a b).map D.p,(aj 0 Bt.e).map D.p,(aj 2 r).map D.p],[]⟩)
  (by
   rintro⟨i,x⟩ hi;dsimp only at hi⊢
   conv in bd Es 0=>reduce
   by_cases h:i<16
   ·have h1:(i:Int)<16:=by omega
    have h2:(i:Int)<64:=by omega
    have hk:i%4*4+i/4<64:=by omega
    have h3:1+(i%4*4+i/4)≤64:=by omega
    have g1:=tQ (a:=a) (b:=b) (k:=i) (by omega);have g3:=fun v=>B9 (a:=2) (b:=x) (v:=v) hk;have w1:IntKind.i64.wrap (IntKind.i64.wrap ((i:Int).tmod 4*4)+IntKind.i64.wrap ((i:Int)/4))=((i%4*4+i/4 :Nat):Int):=by
     rw[Kn (by omega),wrap64 (n:=(i:Int)%4*4) (by omega) (by omega),wrap64 (n:=(i:Int)/4) (by omega) (by omega),wrap64 (by omega) (by omega)];omega
    have h4:((i%4*4+i/4 :Nat):Int)<64:=by omega
    have h5:(0 :Int)≤((i%4*4+i/4 :Nat):Int):=by omega
    have k1:=bw (k:=i) (by omega);refine aX (Q:=nx [1,2,3,4] [(1,.box 0 0),(2,.box 1 0),(3,.box 2 0),(4,.p (.int .i64 ((i+1 :Nat):Int)))] ⟨[(aj a b).map D.p,(aj 0 Bt.e).map D.p,(aj 2 (x.s (i%4*4+i/4) (b.g i))).map D.p],[]⟩) ?_ fun o e H hh=>.inl ⟨(i+1,_),by dsimp only;omega,by dsimp only;omega,hh⟩;have ht:(((i%4*4+i/4 :Nat):Int)).toNat=i%4*4+i/4:=by omega
    generalize i%4*4+i/4=K at *;generalize ((K:Nat):Int)=KI at *;simp[-aE,-aO,jL,h1,h2,h3,h4,h5,ht,w1,g1,g3,k1]
   ·have :i=16:=by omega
    subst this;refine aX (Q:=fun o e H=>o= .exit 0∧e.get 2= .box 1 0∧e.get 3= .box 2 0∧H=⟨[(aj a b).map D.p,(aj 0 Bt.e).map D.p,(aj 2 x).map D.p],[]⟩) ?_ ?_
    ·simp[-aE,-aO]
    ·rintro o e H ⟨rfl,q1,q2,rfl⟩;exact .inr ⟨by simp,rfl,q1,q2,x,rfl⟩) (0,Bt.e) (b9 _)
 obtain⟨o,e,H,hx,rfl,q1,q2,r,rfl⟩:=bJ key;simp only[gJ] at hx;have ae:=rf (bd Es 0)
 conv at ae=>rhs;reduce
 have hf:=rf Es
 conv at hf=>rhs;reduce
 rw[←ae] at hf;have aK:cE=cE:=rfl
 conv at aK=>rhs;reduce
 try rw[←aK] at hf
 try rw[←aK] at ae
 clear aK;refine⟨r,aG (aa:=[_]) hf rfl rfl rfl ?_⟩;clear hf ae;simp[-aE,-aO,cu,dx,cz,cR,cn,xc,hx,q1,q2]
theorem Vq(a b:Nat):(a:Int).tmod (b:Int)=((a%b:Nat):Int):=by
 rw[Kn (by omega)];rfl
theorem agT(a c:Int)(b d:Bt):∃r:Bt,∀H,av (call pg) 328 [.p (gH a b),.p (gH c d)] H=some (.val (.p (gH (IntKind.i64.wrap (a+c)) r)),H):=by
 obtain⟨n,sn,n1,n2,-,-⟩:=Jb c;obtain⟨m,sm,m1,m2,-,-⟩:=Jb a;generalize NX:IntKind.i64.wrap (a+c)=ac at *;have inner:=fun(i:Nat) (hi:i<64) (y:Bt)=>eY (c:=call pg) (G:=pg.G) (keep:=[2,3,4,5,6,7,8]) (b:=bd sJ 1) (σ:=Nat×Bt) (fun s=>[(2,.box 0 0),(3,.box 1 0),(4,.box 2 0),(5,.box 3 0),(6,.p (.int .i64 ((n:Nat):Int))),(7,.p (.int .i64 ((i:Nat):Int))),(8,.p (.int .i64 ((s.1:Nat):Int)))]) (fun s=>⟨[(aj a b).map D.p,(aj c d).map D.p,(aj 0 Bt.e).map D.p,(aj ac s.2).map D.p],[]⟩) (fun s=>n-s.1) (fun s=>s.1≤n)
  (fun o e H=>o= .exit 2∧e.get 2= .box 0 0∧e.get 3= .box 1 0∧e.get 4= .box 2 0∧e.get 5= .box 3 0∧e.get 6= .p (.int .i64 ((n:Nat):Int))∧e.get 7= .p (.int .i64 ((i:Nat):Int))∧∃r,H=⟨[(aj a b).map D.p,(aj c d).map D.p,(aj 0 Bt.e).map D.p,(aj ac r).map D.p],[]⟩)
  (by
   rintro⟨k,x⟩ hk;dsimp only at hk⊢
   conv in bd sJ 1=>reduce
   by_cases h:k<n
   ·have h1:(k:Int)<64:=by omega
    have h2:(i:Int)<64:=by omega
    have g1:=tQ (a:=a) (b:=b) hi;have g2:=tQ (a:=c) (b:=d) (k:=k) (by omega);have ei:i*n≤64*64:=ug (by omega) n2;have w1:IntKind.i64.wrap (IntKind.i64.wrap ((i:Int)*(n:Int))+(k:Int))=((i*n+k:Nat):Int):=by
     rw[←Int.natCast_mul,wrap64 (n:=((i*n:Nat):Int)) (by omega) (by omega),wrap64 (by omega) (by omega)];simp
    have k1:=bw (k:=k) (by omega);cases hb:b.g i with
    |false=>
     rw[hb] at g1;refine aX (Q:=nx [2,3,4,5,6,7,8] [(2,.box 0 0),(3,.box 1 0),(4,.box 2 0),(5,.box 3 0),(6,.p (.int .i64 ((n:Nat):Int))),(7,.p (.int .i64 ((i:Nat):Int))),(8,.p (.int .i64 ((k+1 :Nat):Int)))] ⟨[(aj a b).map D.p,(aj c d).map D.p,(aj 0 Bt.e).map D.p,(aj ac x).map D.p],[]⟩) ?_ fun o e H hh=>.inl ⟨(k+1,_),by dsimp only;omega,by dsimp only;omega,hh⟩;simp[-aE,-aO,jL,h,h2,g1,k1]
    |true=>
     rw[hb] at g1;cases hd:d.g k with
     |false=>
      rw[hd] at g2;refine aX (Q:=nx [2,3,4,5,6,7,8] [(2,.box 0 0),(3,.box 1 0),(4,.box 2 0),(5,.box 3 0),(6,.p (.int .i64 ((n:Nat):Int))),(7,.p (.int .i64 ((i:Nat):Int))),(8,.p (.int .i64 ((k+1 :Nat):Int)))] ⟨[(aj a b).map D.p,(aj c d).map D.p,(aj 0 Bt.e).map D.p,(aj ac x).map D.p],[]⟩) ?_ fun o e H hh=>.inl ⟨(k+1,_),by dsimp only;omega,by dsimp only;omega,hh⟩;simp[-aE,-aO,jL,h,h1,h2,g1,g2,k1]
     |true=>
      rw[hd] at g2;by_cases hK:i*n+k<64
      ·have g3:=fun v=>B9 (a:=ac) (b:=x) (v:=v) hK;have h3:1+(i*n+k)≤64:=by omega
       have h4:((i*n+k:Nat):Int)<64:=by omega
       have h5:(0 :Int)≤((i*n+k:Nat):Int):=by omega
       have ht:(((i*n+k:Nat):Int)).toNat=i*n+k:=by omega
       refine aX (Q:=nx [2,3,4,5,6,7,8] [(2,.box 0 0),(3,.box 1 0),(4,.box 2 0),(5,.box 3 0),(6,.p (.int .i64 ((n:Nat):Int))),(7,.p (.int .i64 ((i:Nat):Int))),(8,.p (.int .i64 ((k+1 :Nat):Int)))] ⟨[(aj a b).map D.p,(aj c d).map D.p,(aj 0 Bt.e).map D.p,(aj ac (x.s (i*n+k) true)).map D.p],[]⟩) ?_ fun o e H hh=>.inl ⟨(k+1,_),by dsimp only;omega,by dsimp only;omega,hh⟩;generalize i*n+k=K at *;generalize ((K:Nat):Int)=KI at *;simp[-aE,-aO,jL,h,h1,h2,h3,h4,h5,ht,w1,g1,g2,g3,k1]
      ·have h4:¬((i*n+k:Nat):Int)<64:=by omega
       refine aX (Q:=nx [2,3,4,5,6,7,8] [(2,.box 0 0),(3,.box 1 0),(4,.box 2 0),(5,.box 3 0),(6,.p (.int .i64 ((n:Nat):Int))),(7,.p (.int .i64 ((i:Nat):Int))),(8,.p (.int .i64 ((k+1 :Nat):Int)))] ⟨[(aj a b).map D.p,(aj c d).map D.p,(aj 0 Bt.e).map D.p,(aj ac x).map D.p],[]⟩) ?_ fun o e H hh=>.inl ⟨(k+1,_),by dsimp only;omega,by dsimp only;omega,hh⟩;generalize ((i*n+k:Nat):Int)=KI at *;simp[-aE,-aO,jL,h,h1,h2,h4,w1,g1,g2,k1]
   ·have :k=n:=by omega
    subst this;refine aX (Q:=fun o e H=>o= .exit 2∧e.get 2= .box 0 0∧e.get 3= .box 1 0∧e.get 4= .box 2 0∧e.get 5= .box 3 0∧e.get 6= .p (.int .i64 ((k:Nat):Int))∧e.get 7= .p (.int .i64 ((i:Nat):Int))∧H=⟨[(aj a b).map D.p,(aj c d).map D.p,(aj 0 Bt.e).map D.p,(aj ac x).map D.p],[]⟩) ?_ ?_
    ·simp[-aE,-aO]
    ·rintro o e H ⟨rfl,q1,q2,q3,q4,q5,q6,rfl⟩;exact .inr ⟨by simp,rfl,q1,q2,q3,q4,q5,q6,x,rfl⟩) (0,y) (b9 _)
 have key:=eY (c:=call pg) (G:=pg.G) (keep:=[2,3,4,5,6,7]) (b:=bd sJ 0) (σ:=Nat×Bt) (fun s=>[(2,.box 0 0),(3,.box 1 0),(4,.box 2 0),(5,.box 3 0),(6,.p (.int .i64 ((n:Nat):Int))),(7,.p (.int .i64 ((s.1:Nat):Int)))]) (fun s=>⟨[(aj a b).map D.p,(aj c d).map D.p,(aj 0 Bt.e).map D.p,(aj ac s.2).map D.p],[]⟩) (fun s=>m-s.1) (fun s=>s.1≤m)
  (fun o e H=>o= .exit 0∧e.get 4= .box 2 0∧e.get 5= .box 3 0∧∃r,H=⟨[(aj a b).map D.p,(aj c d).map D.p,(aj 0 Bt.e).map D.p,(aj ac r).map D.p],[]⟩)
  (by
   rintro⟨i,x⟩ hi;dsimp only at hi⊢;by_cases h:i<m
   ·obtain⟨o,e,H,hx,rfl,q2,q3,q4,q5,q6,q7,r,rfl⟩:=bJ (inner i (by omega) x);simp only[gJ] at hx;have k1:=bw (k:=i) (by omega);refine aX (Q:=nx [2,3,4,5,6,7] [(2,.box 0 0),(3,.box 1 0),(4,.box 2 0),(5,.box 3 0),(6,.p (.int .i64 ((n:Nat):Int))),(7,.p (.int .i64 ((i+1 :Nat):Int)))] ⟨[(aj a b).map D.p,(aj c d).map D.p,(aj 0 Bt.e).map D.p,(aj ac r).map D.p],[]⟩) ?_ fun o e H hh=>.inl ⟨(i+1,r),by dsimp only;omega,by dsimp only;omega,hh⟩;have ai:=rf (bd sJ 1)
    conv at ai=>rhs;reduce
    have ae:=rf (bd sJ 0)
    conv at ae=>rhs;reduce
    rw[←ai] at ae;rw[ae];clear ae ai;simp[-aE,-aO,sm,h,hx,q2,q3,q4,q5,q6,q7,k1]
   ·have :i=m:=by omega
    subst this;refine aX (Q:=fun o e H=>o= .exit 0∧e.get 4= .box 2 0∧e.get 5= .box 3 0∧H=⟨[(aj a b).map D.p,(aj c d).map D.p,(aj 0 Bt.e).map D.p,(aj ac x).map D.p],[]⟩) ?_ ?_
    ·have ai:=rf (bd sJ 1)
     conv at ai=>rhs;reduce
     have ae:=rf (bd sJ 0)
     conv at ae=>rhs;reduce
     rw[←ai] at ae;rw[ae];clear ae ai;simp[-aE,-aO,sm]
    ·rintro o e H ⟨rfl,q1,q2,rfl⟩;exact .inr ⟨by simp,rfl,q1,q2,x,rfl⟩) (0,Bt.e) (b9 _)
 obtain⟨o,e,H,hx,rfl,q1,q2,r,rfl⟩:=bJ key;simp only[gJ] at hx;have ai:=rf (bd sJ 1)
 conv at ai=>rhs;reduce
 have ae:=rf (bd sJ 0)
 conv at ae=>rhs;reduce
 rw[←ai] at ae;have hf:=rf sJ
 conv at hf=>rhs;reduce
 rw[←ai] at hf;rw[←ae] at hf;have aK:cE=cE:=rfl
 conv at aK=>rhs;reduce
 try rw[←aK] at hf
 try rw[←aK] at ae
 try rw[←aK] at ai
 clear aK;refine⟨r,aG (aa:=[_,_]) hf rfl rfl rfl ?_⟩;clear hf ae ai;simp[-aE,-aO,cu,dx,cz,cR,cn,xc,NX,sn,hx,q1,q2]
theorem Vt(a c:Int)(b d:Bt)(hc:1≤c):∃r:Bt,∀H,av (call pg) 327 [.p (gH a b),.p (gH c d)] H=some (.val (.p (gH (IntKind.i64.wrap (IntKind.i64.wrap (a+c)-2)) r)),H):=by
 obtain⟨n4,sn,n1,n2,n3,n5⟩:=Jb c;have n3:=n3 hc;obtain⟨m,sm,m1,m2,-,-⟩:=Jb a;generalize NX:IntKind.i64.wrap (IntKind.i64.wrap (a+c)-2)=ac at *;obtain⟨n,hn⟩:∃n,n=n4/4:=⟨_,rfl⟩;have iJ:1≤n:=by omega
 have ic:n≤16:=by omega
 have inner:=fun(i:Nat) (hi:i<64) (y:Bt)=>eY (c:=call pg) (G:=pg.G) (keep:=[2,3,4,5,6,7,8]) (b:=bd sI 1) (σ:=Nat×Bt) (fun s=>[(2,.box 0 0),(3,.box 1 0),(4,.box 2 0),(5,.box 3 0),(6,.p (.int .i64 ((n:Nat):Int))),(7,.p (.int .i64 ((i:Nat):Int))),(8,.p (.int .i64 ((s.1:Nat):Int)))]) (fun s=>⟨[(aj a b).map D.p,(aj c d).map D.p,(aj 0 Bt.e).map D.p,(aj ac s.2).map D.p],[]⟩) (fun s=>n4-s.1) (fun s=>s.1≤n4)
  (fun o e H=>o= .exit 2∧e.get 2= .box 0 0∧e.get 3= .box 1 0∧e.get 4= .box 2 0∧e.get 5= .box 3 0∧e.get 6= .p (.int .i64 ((n:Nat):Int))∧e.get 7= .p (.int .i64 ((i:Nat):Int))∧∃r,H=⟨[(aj a b).map D.p,(aj c d).map D.p,(aj 0 Bt.e).map D.p,(aj ac r).map D.p],[]⟩)
  (by
   rintro⟨k,x⟩ hk;dsimp only at hk⊢
   conv in bd sI 1=>reduce
   by_cases h:k<n4
   ·have h1:(k:Int)<64:=by omega
    have h2:(i:Int)<64:=by omega
    have h6:¬(n:Int)=0:=by omega
    have h7:¬n=0:=by omega
    have g1:=tQ (a:=a) (b:=b) hi;have g2:=tQ (a:=c) (b:=d) (k:=k) (by omega);have ei:i/4*n≤64*16:=ug (by omega) ic;have iA:k%n<n:=Nat.mod_lt _ (by omega);have w1:IntKind.i64.wrap (IntKind.i64.wrap (IntKind.i64.wrap ((i:Int)/4)*(n:Int))+(k:Int).tmod (n:Int))=((i/4*n+k%n:Nat):Int):=by
     rw[Vq,wrap64 (n:=(i:Int)/4) (by omega) (by omega),show(i:Int)/4*(n:Int)=((i/4*n:Nat):Int) by simp,wrap64 (n:=((i/4*n:Nat):Int)) (by omega) (by omega),wrap64 (by omega) (by omega)];simp
    have w2:IntKind.i64.wrap ((k:Int)/(n:Int))=((k/n:Nat):Int):=by
     have hle:k/n≤k:=Nat.div_le_self _ _;rw[←Int.natCast_ediv];generalize k/n=q at *;exact wrap64 (by omega) (by omega)
    have w3:(i:Int).tmod 4=((i%4 :Nat):Int):=Vq i 4;have k1:=bw (k:=k) (by omega);cases hb:b.g i with
    |false=>
     rw[hb] at g1;refine aX (Q:=nx [2,3,4,5,6,7,8] [(2,.box 0 0),(3,.box 1 0),(4,.box 2 0),(5,.box 3 0),(6,.p (.int .i64 ((n:Nat):Int))),(7,.p (.int .i64 ((i:Nat):Int))),(8,.p (.int .i64 ((k+1 :Nat):Int)))] ⟨[(aj a b).map D.p,(aj c d).map D.p,(aj 0 Bt.e).map D.p,(aj ac x).map D.p],[]⟩) ?_ fun o e H hh=>.inl ⟨(k+1,_),by dsimp only;omega,by dsimp only;omega,hh⟩;simp[-aE,-aO,jL,h,h2,h7,sn,g1,k1]
    |true=>
     rw[hb] at g1;cases hd:d.g k with
     |false=>
      rw[hd] at g2;refine aX (Q:=nx [2,3,4,5,6,7,8] [(2,.box 0 0),(3,.box 1 0),(4,.box 2 0),(5,.box 3 0),(6,.p (.int .i64 ((n:Nat):Int))),(7,.p (.int .i64 ((i:Nat):Int))),(8,.p (.int .i64 ((k+1 :Nat):Int)))] ⟨[(aj a b).map D.p,(aj c d).map D.p,(aj 0 Bt.e).map D.p,(aj ac x).map D.p],[]⟩) ?_ fun o e H hh=>.inl ⟨(k+1,_),by dsimp only;omega,by dsimp only;omega,hh⟩;simp[-aE,-aO,jL,h,h1,h2,h7,sn,g1,g2,k1]
     |true=>
      rw[hd] at g2;by_cases hq:i%4=k/n
      ·by_cases hK:i/4*n+k%n<64
       ·have g3:=fun v=>B9 (a:=ac) (b:=x) (v:=v) hK;have h3:1+(i/4*n+k%n)≤64:=by omega
        have h4:((i/4*n+k%n:Nat):Int)<64:=by omega
        have h5:(0 :Int)≤((i/4*n+k%n:Nat):Int):=by omega
        have ht:(((i/4*n+k%n:Nat):Int)).toNat=i/4*n+k%n:=by omega
        refine aX (Q:=nx [2,3,4,5,6,7,8] [(2,.box 0 0),(3,.box 1 0),(4,.box 2 0),(5,.box 3 0),(6,.p (.int .i64 ((n:Nat):Int))),(7,.p (.int .i64 ((i:Nat):Int))),(8,.p (.int .i64 ((k+1 :Nat):Int)))] ⟨[(aj a b).map D.p,(aj c d).map D.p,(aj 0 Bt.e).map D.p,(aj ac (x.s (i/4*n+k%n) true)).map D.p],[]⟩) ?_ fun o e H hh=>.inl ⟨(k+1,_),by dsimp only;omega,by dsimp only;omega,hh⟩;rw[hq] at w3;generalize i/4*n+k%n=K at *;generalize ((K:Nat):Int)=KI at *;generalize ((k/n:Nat):Int)=QI at *;simp[-aE,-aO,jL,h,h1,h2,h3,h4,h5,h7,sn,ht,w1,w2,w3,g1,g2,g3,k1]
       ·have h4:¬((i/4*n+k%n:Nat):Int)<64:=by omega
        refine aX (Q:=nx [2,3,4,5,6,7,8] [(2,.box 0 0),(3,.box 1 0),(4,.box 2 0),(5,.box 3 0),(6,.p (.int .i64 ((n:Nat):Int))),(7,.p (.int .i64 ((i:Nat):Int))),(8,.p (.int .i64 ((k+1 :Nat):Int)))] ⟨[(aj a b).map D.p,(aj c d).map D.p,(aj 0 Bt.e).map D.p,(aj ac x).map D.p],[]⟩) ?_ fun o e H hh=>.inl ⟨(k+1,_),by dsimp only;omega,by dsimp only;omega,hh⟩;rw[hq] at w3;generalize ((i/4*n+k%n:Nat):Int)=KI at *;generalize ((k/n:Nat):Int)=QI at *;simp[-aE,-aO,jL,h,h1,h2,h4,h7,sn,w1,w2,w3,g1,g2,k1]
      ·have jX:¬((i%4 :Nat):Int)=((k/n:Nat):Int):=by omega
       refine aX (Q:=nx [2,3,4,5,6,7,8] [(2,.box 0 0),(3,.box 1 0),(4,.box 2 0),(5,.box 3 0),(6,.p (.int .i64 ((n:Nat):Int))),(7,.p (.int .i64 ((i:Nat):Int))),(8,.p (.int .i64 ((k+1 :Nat):Int)))] ⟨[(aj a b).map D.p,(aj c d).map D.p,(aj 0 Bt.e).map D.p,(aj ac x).map D.p],[]⟩) ?_ fun o e H hh=>.inl ⟨(k+1,_),by dsimp only;omega,by dsimp only;omega,hh⟩;generalize ((i/4*n+k%n:Nat):Int)=KI at *;generalize ((k/n:Nat):Int)=QI at *;generalize ((i%4 :Nat):Int)=RI at *;simp[-aE,-aO,jL,h,h1,h2,h7,sn,w1,w2,w3,jX,g1,g2,k1]
   ·have :k=n4:=by omega
    subst this;refine aX (Q:=fun o e H=>o= .exit 2∧e.get 2= .box 0 0∧e.get 3= .box 1 0∧e.get 4= .box 2 0∧e.get 5= .box 3 0∧e.get 6= .p (.int .i64 ((n:Nat):Int))∧e.get 7= .p (.int .i64 ((i:Nat):Int))∧H=⟨[(aj a b).map D.p,(aj c d).map D.p,(aj 0 Bt.e).map D.p,(aj ac x).map D.p],[]⟩) ?_ ?_
    ·simp[-aE,-aO,sn]
    ·rintro o e H ⟨rfl,q1,q2,q3,q4,q5,q6,rfl⟩;exact .inr ⟨by simp,rfl,q1,q2,q3,q4,q5,q6,x,rfl⟩) (0,y) (b9 _)
 have key:=eY (c:=call pg) (G:=pg.G) (keep:=[2,3,4,5,6,7]) (b:=bd sI 0) (σ:=Nat×Bt) (fun s=>[(2,.box 0 0),(3,.box 1 0),(4,.box 2 0),(5,.box 3 0),(6,.p (.int .i64 ((n:Nat):Int))),(7,.p (.int .i64 ((s.1:Nat):Int)))]) (fun s=>⟨[(aj a b).map D.p,(aj c d).map D.p,(aj 0 Bt.e).map D.p,(aj ac s.2).map D.p],[]⟩) (fun s=>m-s.1) (fun s=>s.1≤m)
  (fun o e H=>o= .exit 0∧e.get 4= .box 2 0∧e.get 5= .box 3 0∧∃r,H=⟨[(aj a b).map D.p,(aj c d).map D.p,(aj 0 Bt.e).map D.p,(aj ac r).map D.p],[]⟩)
  (by
   rintro⟨i,x⟩ hi;dsimp only at hi⊢;by_cases h:i<m
   ·obtain⟨o,e,H,hx,rfl,q2,q3,q4,q5,q6,q7,r,rfl⟩:=bJ (inner i (by omega) x);simp only[gJ] at hx;have k1:=bw (k:=i) (by omega);refine aX (Q:=nx [2,3,4,5,6,7] [(2,.box 0 0),(3,.box 1 0),(4,.box 2 0),(5,.box 3 0),(6,.p (.int .i64 ((n:Nat):Int))),(7,.p (.int .i64 ((i+1 :Nat):Int)))] ⟨[(aj a b).map D.p,(aj c d).map D.p,(aj 0 Bt.e).map D.p,(aj ac r).map D.p],[]⟩) ?_ fun o e H hh=>.inl ⟨(i+1,r),by dsimp only;omega,by dsimp only;omega,hh⟩;have ai:=rf (bd sI 1)
    conv at ai=>rhs;reduce
    have ae:=rf (bd sI 0)
    conv at ae=>rhs;reduce
    rw[←ai] at ae;rw[ae];clear ae ai;simp[-aE,-aO,sm,h,hx,q2,q3,q4,q5,q6,q7,k1]
   ·have :i=m:=by omega
    subst this;refine aX (Q:=fun o e H=>o= .exit 0∧e.get 4= .box 2 0∧e.get 5= .box 3 0∧H=⟨[(aj a b).map D.p,(aj c d).map D.p,(aj 0 Bt.e).map D.p,(aj ac x).map D.p],[]⟩) ?_ ?_
    ·have ai:=rf (bd sI 1)
     conv at ai=>rhs;reduce
     have ae:=rf (bd sI 0)
     conv at ae=>rhs;reduce
     rw[←ai] at ae;rw[ae];clear ae ai;simp[-aE,-aO,sm]
    ·rintro o e H ⟨rfl,q1,q2,rfl⟩;exact .inr ⟨by simp,rfl,q1,q2,x,rfl⟩) (0,Bt.e) (b9 _)
 obtain⟨o,e,H,hx,rfl,q1,q2,r,rfl⟩:=bJ key;simp only[gJ] at hx;have ai:=rf (bd sI 1)
 conv at ai=>rhs;reduce
 have ae:=rf (bd sI 0)
 conv at ae=>rhs;reduce
 rw[←ai] at ae;have hf:=rf sI
 conv at hf=>rhs;reduce
 rw[←ai] at hf;rw[←ae] at hf;have aK:cE=cE:=rfl
 conv at aK=>rhs;reduce
 try rw[←aK] at hf
 try rw[←aK] at ae
 try rw[←aK] at ai
 clear aK;refine⟨r,aG (aa:=[_,_]) hf rfl rfl rfl ?_⟩;clear hf ae ai;have w4:IntKind.i64.wrap ((n4:Int)/4)=(n:Int):=by rw[wrap64 (by omega) (by omega)];omega
 simp[-aE,-aO,cu,dx,cz,cR,cn,xc,NX,sn,w4,hx,q1,q2]
theorem agU(op:Int):∃k:UInt8,(∀H,av (call pg) 242 [.p (.int .i64 op)] H=some (.val (.p (.int .u8 k.toNat)),H))∧(k=101↔1≤op∧op≤15)∧(k=102↔30≤op∧op≤51)∧(k=105↔20≤op∧op≤23):=by
 have hf:=rf Um
 conv at hf=>rhs;reduce
 by_cases h1:1≤op∧op≤15
 ·refine⟨101,aG (aa:=[_]) hf rfl rfl rfl ?_,iff_of_true rfl h1,iff_of_false (by decide) (by omega),iff_of_false (by decide) (by omega)⟩;clear hf;simp[h1.1,h1.2]
 ·by_cases h2:20≤op∧op≤23
  ·refine⟨105,aG (aa:=[_]) hf rfl rfl rfl ?_,iff_of_false (by decide) h1,iff_of_false (by decide) (by omega),iff_of_true rfl h2⟩;clear hf;have g1:1≤op:=by omega
   have g2:¬op≤15:=by omega
   simp[g1,g2,h2.1,h2.2]
  ·by_cases h3:30≤op∧op≤51
   ·refine⟨102,aG (aa:=[_]) hf rfl rfl rfl ?_,iff_of_false (by decide) h1,iff_of_true rfl h3,iff_of_false (by decide) h2⟩;clear hf;have g1:1≤op:=by omega
    have g2:¬op≤15:=by omega
    have g3:20≤op:=by omega
    have g4:¬op≤23:=by omega
    simp[g1,g2,g3,g4,h3.1,h3.2]
   ·refine⟨0,aG (aa:=[_]) hf rfl rfl rfl ?_,iff_of_false (by decide) h1,iff_of_false (by decide) h3,iff_of_false (by decide) h2⟩;clear hf;by_cases g1:1≤op
    ·have g2:¬op≤15:=by omega
     by_cases g3:20≤op
     ·have g4:¬op≤23:=by omega
      by_cases g5:30≤op
      ·have g6:¬op≤51:=by omega
       simp[g1,g2,g3,g4,g5,g6]
      ·simp[g1,g2,g3,g4,g5]
     ·have g5:¬30≤op:=by omega
      simp[g1,g2,g3,g5]
    ·have g3:¬20≤op:=by omega
     have g5:¬30≤op:=by omega
     simp[g1,g3,g5]
def xd(op:Int)(n:Nat)(w:List UInt8):Prop:=
 (op∈[1,2,3,4,20,30,31]∧w=[])∨(op∈[5,11,12,13,21,34,35,36,37]∧w=[101])∨(op∈[6,7,8,9,10,14,32,33]∧w=[101,101])∨(op∈[15,45,46]∧w=[101,102])∨
 (op∈[22,23,38,39]∧w=[105,105])∨(op∈[40,48,49,50]∧w=[102])∨(op∈[41,42,43,44,51]∧w=[102,102])∨(op=47∧w=eB (min n 401) 101)
theorem agV(op:Int)(n:Nat)(hn:n<4611686018427387904):∃w b,(∀H,av (call pg) 241 [.p (.int .i64 op),.p (.int .i64 ((n:Nat):Int))] H=some (.val (.bA [.p (.str w),.p (.bool b)]),H))∧(b=true→xd op n w):=by
 have ae:=rf (bd IJ 0)
 conv at ae=>rhs;reduce
 have hf:=rf IJ
 conv at hf=>rhs;reduce
 rw[←ae] at hf;by_cases h1:op∈[1,2,3,4,20,30,31]
 ·refine⟨[],true,aG (aa:=[_,_]) hf rfl rfl rfl ?_,fun _=>.inl ⟨h1,rfl⟩⟩;clear hf ae;simp at h1;rcases h1 with rfl |rfl |rfl |rfl |rfl |rfl |rfl<;>simp
 ·by_cases h2:op∈[5,11,12,13,21,34,35,36,37]
  ·refine⟨[101],true,aG (aa:=[_,_]) hf rfl rfl rfl ?_,fun _=>.inr (.inl ⟨h2,rfl⟩)⟩;clear hf ae;clear h1;simp at h2;rcases h2 with rfl |rfl |rfl |rfl |rfl |rfl |rfl |rfl |rfl<;>simp
  ·by_cases h3:op∈[6,7,8,9,10,14,32,33]
   ·refine⟨[101,101],true,aG (aa:=[_,_]) hf rfl rfl rfl ?_,fun _=>.inr (.inr (.inl ⟨h3,rfl⟩))⟩;clear hf ae;clear h1 h2;simp at h3;rcases h3 with rfl |rfl |rfl |rfl |rfl |rfl |rfl |rfl<;>simp
   ·by_cases h4:op∈[15,45,46]
    ·refine⟨[101,102],true,aG (aa:=[_,_]) hf rfl rfl rfl ?_,fun _=>.inr (.inr (.inr (.inl ⟨h4,rfl⟩)))⟩;clear hf ae;clear h1 h2 h3;simp at h4;rcases h4 with rfl |rfl |rfl<;>simp
    ·by_cases h5:op∈[22,23,38,39]
     ·refine⟨[105,105],true,aG (aa:=[_,_]) hf rfl rfl rfl ?_,fun _=>.inr (.inr (.inr (.inr (.inl ⟨h5,rfl⟩))))⟩;clear hf ae;clear h1 h2 h3 h4;simp at h5;rcases h5 with rfl |rfl |rfl |rfl<;>simp
     ·by_cases h6:op∈[40,48,49,50]
      ·refine⟨[102],true,aG (aa:=[_,_]) hf rfl rfl rfl ?_,fun _=>.inr (.inr (.inr (.inr (.inr (.inl ⟨h6,rfl⟩)))))⟩;clear hf ae;clear h1 h2 h3 h4 h5;simp at h6;rcases h6 with rfl |rfl |rfl |rfl<;>simp
      ·by_cases h7:op∈[41,42,43,44,51]
       ·refine⟨[102,102],true,aG (aa:=[_,_]) hf rfl rfl rfl ?_,fun _=>.inr (.inr (.inr (.inr (.inr (.inr (.inl ⟨h7,rfl⟩))))))⟩;clear hf ae;clear h1 h2 h3 h4 h5 h6;simp at h7;rcases h7 with rfl |rfl |rfl |rfl |rfl<;>simp
       ·by_cases h8:op=47
        ·subst h8;have key:=jd (c:=call pg) (G:=pg.G) (keep:=[1,6,7]) (b:=bd IJ 0) (fun i=>[(1,.p (.int .i64 ((n:Nat):Int))),(6,.p (.str (eB i 101))),(7,.p (.int .i64 ((i:Nat):Int)))]) (fun _=>⟨[],[]⟩) (min n 401) (fun _=>True)
          (fun o e H=>o= .exit 1∧e.get 6= .p (.str (eB (min n 401) 101))) trivial ?_ ?_
         ·obtain⟨o,e,H,hx,rfl,h6⟩:=bJ key;refine⟨eB (min n 401) 101,true,aG (aa:=[_,_]) hf rfl rfl rfl ?_,fun _=>.inr (.inr (.inr (.inr (.inr (.inr (.inr ⟨rfl,rfl⟩))))))⟩;clear hf ae;generalize eB (min n 401) (101 :UInt8)=L at *;simp at hx;simp[hx,h6]
         ·intro i hi _;rw[ae];clear hf ae;have g1:(i:Int)<(n:Int):=by omega
          have g2:(i:Int)<401:=by omega
          have g3:i<n:=by omega
          have g4:i≤140737488355327:=by omega
          simp[g1,g2,g4,List.replicate_succ',bw (k:=i) (by omega)]
         ·intro _;rw[ae];clear hf ae;generalize hL:eB (min n 401) (101 :UInt8)=L at *;by_cases g:n<401
          ·rw[ue (by omega)];simp
          ·rw[amL (by omega)];by_cases g2:401<n
           ·have g3:(401 :Int)<(n:Int):=by omega
            simp[g3]
           ·have g3:¬(401 :Int)<(n:Int):=by omega
            simp[g3]
        ·refine⟨[],false,aG (aa:=[_,_]) hf rfl rfl rfl ?_,fun h=>by cases h⟩;clear hf ae;simp only[cN,mG,or_false,not_or] at h1 h2 h3 h4 h5 h6 h7;simp[h1,h2,h3,h4,h5,h6,h7,h8]
def xe{α:Type}:Nat→List α→Sl α
 | 0,[]=>.nil
 | 1,[]=>.cV
 |_,l=>.of l
theorem ET{α:Type}(c:Nat)(l:List α):els (xe c l)=l:=by
 unfold xe;split<;>rfl
theorem agW{α β:Type}(f:α→β)(c:Nat)(l:List α):(xe c l).map f=xe c (l.map f):=by
 cases l with
 |nil=>match c with
  | 0=>rfl
  | 1=>rfl
  |c+2=>rfl
 |cons x l=>match c with
  | 0=>rfl
  | 1=>rfl
  |c+2=>rfl
inductive Nd where
 |mk (op:Int) (nm:List UInt8) (n:Int) (c:Nat) (ks:List Nd) (pos:Int)
def Nd.op:Nd→Int | .mk op _ _ _ _ _=>op
def Nd.nm:Nd→List UInt8 | .mk _ nm _ _ _ _=>nm
def Nd.n:Nd→Int | .mk _ _ n _ _ _=>n
def Nd.c:Nd→Nat | .mk _ _ _ c _ _=>c
def Nd.ks:Nd→List Nd | .mk _ _ _ _ ks _=>ks
def Nd.pos:Nd→Int | .mk _ _ _ _ _ pos=>pos
mutual
def Nd.pd:Nd→PD
 | .mk op nm n c ks pos=>.agg [.int .i64 op,.str nm,.int .i64 n,fD 5 (xe c (Nd.Jd ks)),.int .i64 pos]
def Nd.Jd:List Nd→List PD
 |[]=>[]
 |k::ks=>k.pd::Nd.Jd ks
end
theorem Vu:∀ks:List Nd,Nd.Jd ks=ks.map Nd.pd
 |[]=>rfl
 |k::ks=>by simp[Nd.Jd,Vu ks]
def Nd.oX(a:Nd):PD:=fD 5 ((xe a.c a.ks).map Nd.pd)
abbrev Nd.cl(a:Nd):List PD:=[.int .i64 a.op,.str a.nm,.int .i64 a.n,a.oX,.int .i64 a.pos]
theorem Vv(a:Nd):a.pd= .agg a.cl:=by
 cases a with
 |mk op nm n c ks pos=>simp only[Nd.pd,Nd.cl,Nd.op,Nd.nm,Nd.n,Nd.oX,Nd.c,Nd.ks,Nd.pos,Vu,agW]
@[simp] theorem Vw(a:Nd):a.oX.one=true:=rp ..
mutual
def Nd.size:Nd→Nat
 | .mk _ _ _ _ ks _=>1+Nd.gv ks
def Nd.gv:List Nd→Nat
 |[]=>0
 |k::ks=>k.size+Nd.gv ks
end
theorem size_eq(a:Nd):a.size=1+Nd.gv a.ks:=by cases a;rfl
theorem Vx:∀{ks:List Nd} {k:Nd},k∈ks→k.size≤Nd.gv ks
 |x::ks,k,h=>by
  simp only[Nd.gv];rcases cN.1 h with rfl |h
  ·omega
  ·have:=Vx h;omega
theorem Cc{a k:Nd}(h:k∈a.ks):k.size<a.size:=by
 have:=Vx h;rw[size_eq a];omega
theorem size_pos(a:Nd):1≤a.size:=by rw[size_eq];omega
theorem NY:∀(l m:List Nd),Nd.gv (l++m)=Nd.gv l+Nd.gv m
 |[],m=>by simp[Nd.gv]
 |k::l,m=>by simp only[jN,Nd.gv,NY l m];omega
theorem Cd:∀ks:List Nd,ks.length≤Nd.gv ks
 |[]=>aV _
 |k::ks=>by
  have:=Cd ks;have:=size_pos k;simp only[Nd.gv,dZ];omega
theorem kQ(a:Nd):fg 1 (.p a.oX)=some a.ks.length:=by
 unfold Nd.oX;rw[sA,ET]
theorem xf{a:Nd}{k:Nat}(h:k<a.ks.length):eN none 5 (.p a.oX) (k:Int)=some (.ro (a.ks[k]).cl 0):=by
 unfold Nd.oX;rw[sB (by rw[ET];exact h)];have :(els (xe a.c a.ks))[k]'(by rw[ET];exact h)=a.ks[k]:=by simp only[ET]
 rw[this,Vv];rfl
inductive mq:Nd→Prop
 |mk (a:Nd) (h:a.ks.length<4611686018427387904) (hk:∀k∈a.ks,mq k):mq a
theorem mq.len{a:Nd}(h:mq a):a.ks.length<4611686018427387904:=by cases h;assumption
theorem mq.kid{a k:Nd}(h:mq a)(hk:k∈a.ks):mq k:=by cases h;rename_i h;exact h k hk
theorem agY{e0 sz:Nat}{es:List PD}{k:Nat}(h:k<es.length):eN none sz (.cI e0 sz es) (k:Int)=some (.ro (es[k]).cells 0):=Ia h
theorem agZ(s:List UInt8):∃r:Bool,∀H,av (call pg) 290 [.p (.str s)] H=some (.val (.p (.bool r)),H):=by
 have key:=fun(L:List PD) (hL:∀x∈L,∃s,x= .str s) (hl:L.length<4611686018427387904)=>jd (c:=call pg) (G:=pg.G) (keep:=[0,3,4]) (b:=bd Bs 0) (fun i=>[(0,.p (.str s)),(3,.cI 9 1 L),(4,.p (.int .i64 ((i:Nat):Int)))]) (fun _=>⟨[],[]⟩) L.length (fun _=>True)
  (fun o e H=>H=⟨[],[]⟩∧(o= .exit 0∨(o= .ret∧e.get 2= .p (.bool true)))) trivial
  (fun i hi _=>by
   conv in bd Bs 0=>reduce
   obtain⟨w,hw⟩:=hL _ (bO hi);have aM:=agY (e0:=9) (sz:=1) hi;rw[hw] at aM;by_cases hc:w=s
   ·simp[aM,hi,hc]
   ·simp[aM,hi,hc,bw (k:=i) (by omega)])
  (fun _=>by
   conv in bd Bs 0=>reduce
   simp)
 have ae:=rf (bd Bs 0)
 conv at ae=>rhs;reduce
 have hf:=rf Bs
 conv at hf=>rhs;reduce
 rw[←ae] at hf;refine Vi (f:=290) (aa:=[.str s]) (y:=fun r:Bool=>.p (.bool r)) hf rfl rfl rfl ?_
 ·clear hf ae;simp;refine agC (agD (aX (key _ ?_ ?_) ?_))
  ·simp
  ·simp
  ·rintro o e H ⟨rfl,rfl |⟨rfl,h⟩⟩
   ·simp
   ·simp[h]
theorem ag0(s:List UInt8):∃r:Bool,∀H,av (call pg) 240 [.p (.str s)] H=some (.val (.p (.bool r)),H):=by
 obtain⟨kw,hk⟩:=agZ s;have key:=fun(hl:s.length≤16)=>jd (c:=call pg) (G:=pg.G) (keep:=[0,3]) (b:=bd Br 0) (fun i=>[(0,.p (.str s)),(3,.p (.int .i64 ((i:Nat):Int)))]) (fun _=>⟨[],[]⟩) s.length (fun _=>True)
  (fun o e H=>H=⟨[],[]⟩∧(o= .exit 0∨(o= .ret∧e.get 2= .p (.bool false)))) trivial
  (fun i hi _=>by
   conv in bd Br 0=>reduce
   have hc:s[i].toNat<256:=UInt8.toNat_lt _;generalize hn:(s[i].toNat:Int)=n at *;have k1:=bw (k:=i) (by omega);have tA:(0≤n∧n≤47)∨(48≤n∧n≤57)∨(58≤n∧n≤64)∨(65≤n∧n≤90)∨(91≤n∧n≤94)∨(95≤n∧n≤95)∨(96≤n∧n≤96)∨(97≤n∧n≤122)∨(123≤n∧n≤255):=by omega
   have hz:((i:Int)==0)=true∨((i:Int)==0)=false:=by cases ((i:Int)==0)<;>simp
   have yn:0≤n∧n<256:=by omega
   rcases tA with hh |hh |hh |hh |hh |hh |hh |hh |hh
   ·have f1:¬97≤n:=by omega
    have f2:n≤122:=by omega
    have f3:¬65≤n:=by omega
    have f4:n≤90:=by omega
    have f5:¬n=95:=by omega
    have f6:n<48:=by omega
    have f7:¬57<n:=by omega
    rcases hz with hz |hz<;>simp[-pZ,hi,hn,f1,f3,f5,f6,hz]
   ·have f1:¬97≤n:=by omega
    have f2:n≤122:=by omega
    have f3:¬65≤n:=by omega
    have f4:n≤90:=by omega
    have f5:¬n=95:=by omega
    have f6:¬n<48:=by omega
    have f7:¬57<n:=by omega
    rcases hz with hz |hz<;>simp[-pZ,hi,hn,f1,f3,f5,f6,f7,hz,k1]
   ·have f1:¬97≤n:=by omega
    have f2:n≤122:=by omega
    have f3:¬65≤n:=by omega
    have f4:n≤90:=by omega
    have f5:¬n=95:=by omega
    have f6:¬n<48:=by omega
    have f7:57<n:=by omega
    rcases hz with hz |hz<;>simp[-pZ,hi,hn,f1,f3,f5,f6,f7,hz]
   ·have f1:¬97≤n:=by omega
    have f2:n≤122:=by omega
    have f3:65≤n:=by omega
    have f4:n≤90:=by omega
    have f5:¬n=95:=by omega
    have f6:¬n<48:=by omega
    have f7:57<n:=by omega
    rcases hz with hz |hz<;>simp[-pZ,hi,hn,f1,f3,f4,k1]
   ·have f1:¬97≤n:=by omega
    have f2:n≤122:=by omega
    have f3:65≤n:=by omega
    have f4:¬n≤90:=by omega
    have f5:¬n=95:=by omega
    have f6:¬n<48:=by omega
    have f7:57<n:=by omega
    rcases hz with hz |hz<;>simp[-pZ,hi,hn,f1,f3,f4,f5,f6,f7,hz]
   ·have f1:¬97≤n:=by omega
    have f2:n≤122:=by omega
    have f3:65≤n:=by omega
    have f4:¬n≤90:=by omega
    have f5:n=95:=by omega
    have f6:¬n<48:=by omega
    have f7:57<n:=by omega
    rcases hz with hz |hz<;>simp[-pZ,hi,hn,f5,hz,k1]
   ·have f1:¬97≤n:=by omega
    have f2:n≤122:=by omega
    have f3:65≤n:=by omega
    have f4:¬n≤90:=by omega
    have f5:¬n=95:=by omega
    have f6:¬n<48:=by omega
    have f7:57<n:=by omega
    rcases hz with hz |hz<;>simp[-pZ,hi,hn,f1,f3,f4,f5,f6,f7,hz]
   ·have f1:97≤n:=by omega
    have f2:n≤122:=by omega
    have f3:65≤n:=by omega
    have f4:¬n≤90:=by omega
    have f5:¬n=95:=by omega
    have f6:¬n<48:=by omega
    have f7:57<n:=by omega
    rcases hz with hz |hz<;>simp[-pZ,hi,hn,f1,f2,k1]
   ·have f1:97≤n:=by omega
    have f2:¬n≤122:=by omega
    have f3:65≤n:=by omega
    have f4:¬n≤90:=by omega
    have f5:¬n=95:=by omega
    have f6:¬n<48:=by omega
    have f7:57<n:=by omega
    rcases hz with hz |hz<;>simp[-pZ,hi,hn,f1,f2,f3,f4,f5,f6,f7,hz])
  (fun _=>by
   conv in bd Br 0=>reduce
   simp)
 have ae:=rf (bd Br 0)
 conv at ae=>rhs;reduce
 have hf:=rf Br
 conv at hf=>rhs;reduce
 rw[←ae] at hf;refine Vi (f:=240) (aa:=[.str s]) (y:=fun r:Bool=>.p (.bool r)) hf rfl rfl rfl ?_
 ·clear hf ae;by_cases h1:s.length=0
  ·simp[h1]
  ·by_cases h2:16<s.length
   ·have h3:(16 :Int)<(s.length:Int):=by omega
    have h4:¬s=[]:=fun h=>h1 (by rw[h];rfl);simp[h1,h3]
   ·have h3:¬(16 :Int)<(s.length:Int):=by omega
    have h4:¬s=[]:=fun h=>h1 (by rw[h];rfl);cases kw with
    |true=>simp[h1,h3,hk]
    |false=>
     obtain⟨o,e,H,hx,rfl,hq⟩:=bJ (key (by omega));simp at hx;rcases hq with rfl |⟨rfl,h⟩
     ·simp[h1,h3,hk,hx]
     ·simp[h1,h3,hk,hx,h]
theorem ag1(op n pos:Int)(nm:List UInt8)(ks:PD)(hk:ks.one=true):
    ∃r:Bool,(∀H,av (call pg) 182 [.p (.agg [.int .i64 op,.str nm,.int .i64 n,ks,.int .i64 pos])] H=some (.val (.p (.bool r)),H))∧(r=true→op=2→1≤n∧n≤3):=by
 obtain⟨nr,hn⟩:=ag0 nm;have hf:=rf Uk
 conv at hf=>rhs;reduce
 refine zE (f:=182) (aa:=[_]) (y:=fun r:Bool=>.p (.bool r)) hf rfl rfl rfl ?_;clear hf;by_cases h1:op=1
 ·subst h1;cases nr<;>simp[hk,hn]<;>omega
 ·by_cases h2:op=15
  ·subst h2;cases nr<;>simp[hk,hn]<;>omega
  ·by_cases h3:op=45
   ·subst h3;cases nr<;>simp[hk,hn]<;>omega
   ·by_cases h4:op=46
    ·subst h4;cases nr<;>simp[hk,hn]<;>omega
    ·by_cases h5:op=47
     ·subst h5;cases nr<;>simp[hk,hn]<;>omega
     ·cases nr with
      |true=>simp[hk,hn,h1,h2,h3,h4,h5]
      |false=>
       by_cases h6:nm=[]
       ·subst h6;by_cases h7:op=2
        ·subst h7;by_cases h8:1≤n
         ·simp[hk,hn,h8]<;>omega
         ·simp[hk,hn,h8]<;>omega
        ·by_cases h8:op=20
         ·subst h8;by_cases h9: -64≤n
          ·simp[hk,hn,h9]<;>omega
          ·simp[hk,hn,h9]<;>omega
         ·simp[hk,hn,h1,h2,h3,h4,h5,h7,h8]<;>omega
       ·simp[hk,hn,h1,h2,h3,h4,h5,h6]
def Je(op:Int)(c:UInt8):Prop:=(c=101→1≤op∧op≤15)∧(c=102→30≤op∧op≤51)∧(c=105→20≤op∧op≤23)
def NZ(op:Int)(ks:List Nd):Prop:=∃w,xd op ks.length w∧w.length=ks.length∧∀i,i<ks.length→∀k c,ks[i]? =some k→w[i]? =some c→Je k.op c
theorem ag2(op:Int)(a:Nd)(hl:a.ks.length<4611686018427387904):
    ∃r:Bool,(∀H,av (call pg) 183 [.p (.int .i64 op),.p a.oX] H=some (.val (.p (.bool r)),H))∧(r=true→NZ op a.ks):=by
 obtain⟨w,b,c1,d1⟩:=agV op a.ks.length hl;have key:=fun(hw:w.length=a.ks.length)=>tM (c:=call pg) (G:=pg.G) (keep:=[1,5,7]) (b:=bd Bq 0) (fun i=>[(1,.p a.oX),(5,.p (.str w)),(7,.p (.int .i64 ((i:Nat):Int)))]) ⟨[],[]⟩ a.ks.length
  (fun i=>∀k c,a.ks[i]? =some k→w[i]? =some c→Je k.op c) 0 (fun _=>True) (fun e=>e.get 4= .p (.bool false))
  (fun i hi=>by
   obtain⟨k,c2,d2,d3,d4⟩:=agU (a.ks[i]).op;have bp:i<w.length:=by omega
   have aM:=xf hi;have k1:=bw (k:=i) (by omega);have hP:k=w[i]→∀k c,a.ks[i]? =some k→w[i]? =some c→Je k.op c:=by
    rintro h k' c' h1 h2;rw[aA hi] at h1;rw[aA bp] at h2;cases h1;cases h2;rw[←h];exact⟨d2.1,d3.1,d4.1⟩
   generalize (∀k c,a.ks[i]? =some k→w[i]? =some c→Je k.op c)=PP at *
   conv in bd Bq 0=>reduce
   by_cases hk:k=w[i]
   ·have hP:=hP hk;have iA:w[i].toNat=k.toNat:=by rw[hk]
    clear hk;simp[kQ,hi,aM,c2,iA,hP,k1,bp]
   ·have aq:¬k.toNat=w[i].toNat:=fun h=>hk (UInt8.toNat.inj h);simp[kQ,hi,aM,c2,bp,aq])
  (by
   conv in bd Bq 0=>reduce
   simp[kQ])
 have ae:=rf (bd Bq 0)
 conv at ae=>rhs;reduce
 have hf:=rf Bq
 conv at hf=>rhs;reduce
 rw[←ae] at hf;refine zE (f:=183) (aa:=[_,_]) (y:=fun r:Bool=>.p (.bool r)) hf rfl rfl rfl ?_;clear hf ae;cases b with
 |false=>simp[c1,kQ]
 |true=>
  by_cases hw:w.length=a.ks.length
  ·rcases key hw with⟨e,hx,-,hp⟩ |⟨e,hx,hr⟩
   ·simp at hx;have :NZ op a.ks:=⟨w,d1 rfl,hw,hp⟩;simp[c1,kQ,hw,hx,this]
   ·simp at hx;simp[c1,kQ,hw,hx,hr]
  ·simp[c1,kQ,hw]
theorem ag3:∀(m:Nat) (a:Nd) (l:Nat),a.size≤m→mq a→l≤1000→∀H,av (call pg) 128 [.p (.agg a.cl),.p (.int .i64 ((l:Nat):Int))] H=some (.val (.p (.int .i64 ((min a.size (l+1):Nat):Int))),H):=by
 intro m
 induction m with
 |zero=>intro a l h;have:=size_pos a;omega
 |succ m ih=>
  intro a l hm ok hl;have key:=eY (c:=call pg) (G:=pg.G) (keep:=[1,2,5,6]) (b:=bd Ej 0) (σ:=Nat) (fun i=>[(1,.p (.int .i64 ((l:Nat):Int))),(2,.box 0 0),(5,.p (.int .i64 ((min (1+Nd.gv (a.ks.take i)) (l+1):Nat):Int))),(6,.p (.int .i64 ((i:Nat):Int)))]) (fun _=>⟨[a.cl.map .p],[]⟩) (fun i=>a.ks.length-i) (fun i=>i≤a.ks.length∧i≤l+1)
   (fun o e H=>o= .exit 0∧e.get 5= .p (.int .i64 ((min a.size (l+1):Nat):Int))) ?_ 0 ⟨b9 _,b9 _⟩
  ·obtain⟨o,e,H,hx,rfl,h5⟩:=bJ key;have ae:=rf (bd Ej 0)
   conv at ae=>rhs;reduce
   have hf:=rf Ej
   conv at hf=>rhs;reduce
   rw[←ae] at hf;refine aG (aa:=[_,_]) hf rfl rfl rfl ?_;clear hf ae;simp[Nd.gv] at hx;have h1:min 1 (l+1)=1:=by omega
   simp[hx,h5]
  ·rintro i ⟨hi,fC⟩;have hlen:=ok.len
   conv in bd Ej 0=>reduce
   by_cases h1:i<a.ks.length
   ·have hT:=NY (a.ks.take i) [a.ks[i]];rw[←sW h1] at hT;simp only[Nd.gv,oe] at hT;have kZ:i≤Nd.gv (a.ks.take i):=by
     have:=Cd (a.ks.take i);rw[pb] at this;omega
    have aM:=xf h1;by_cases h2:1+Nd.gv (a.ks.take i)≤l
    ·have j1:min (1+Nd.gv (a.ks.take i)) (l+1)=1+Nd.gv (a.ks.take i):=by omega
     have N0:=Cc (bO h1);have hc:=ih (a.ks[i]) (l-(1+Nd.gv (a.ks.take i))) (by omega) (ok.kid (bO h1)) (by omega);have rP:IntKind.i64.wrap ((l:Int)-((1+Nd.gv (a.ks.take i):Nat):Int))=((l-(1+Nd.gv (a.ks.take i)):Nat):Int):=by
      rw[wrap64 (by omega) (by omega)];omega
     have M1:IntKind.i64.wrap (((1+Nd.gv (a.ks.take i):Nat):Int)+((min (a.ks[i]).size (l-(1+Nd.gv (a.ks.take i))+1):Nat):Int))=((min (1+Nd.gv (a.ks.take (i+1))) (l+1):Nat):Int):=by
      rw[wrap64 (by omega) (by omega),hT];omega
     have iK:=bw (k:=i) (by omega);have hle:((1+Nd.gv (a.ks.take i):Nat):Int)≤(l:Int):=by omega
     refine aX (Q:=nx [1,2,5,6] [(1,.p (.int .i64 ((l:Nat):Int))),(2,.box 0 0),(5,.p (.int .i64 ((min (1+Nd.gv (a.ks.take (i+1))) (l+1):Nat):Int))),(6,.p (.int .i64 ((i+1 :Nat):Int)))] ⟨[a.cl.map .p],[]⟩) ?_ fun o e H h=>.inl ⟨i+1,⟨h1,by omega⟩,by omega,h⟩;rw[j1];generalize ((1+Nd.gv (a.ks.take i):Nat):Int)=A at *;generalize ((min (1+Nd.gv (a.ks.take (i+1))) (l+1):Nat):Int)=B at *;generalize ((l-(1+Nd.gv (a.ks.take i)):Nat):Int)=C at *;generalize ((min (a.ks[i]).size (l-(1+Nd.gv (a.ks.take i))+1):Nat):Int)=D0 at *;simp[kQ,h1,aM,hle,rP,hc,M1,iK]
    ·have j1:min (1+Nd.gv (a.ks.take i)) (l+1)=l+1:=by omega
     have hs:min a.size (l+1)=l+1:=by
      have h3:=NY (a.ks.take i) (a.ks.drop i);rw[xH] at h3;have:=size_eq a;omega
     rw[j1,hs];have hle:¬((l+1 :Nat):Int)≤(l:Int):=by omega
     generalize ((l+1 :Nat):Int)=A at *;simp[kQ,h1,hle]
   ·have fk:i=a.ks.length:=by omega
    subst fk;rw[oo,←size_eq];generalize ((min a.size (l+1):Nat):Int)=A at *;simp[kQ]
inductive Wf:Nd→Prop
 |mk (a:Nd) (own:a.op=2→1≤a.n∧a.n≤3) (fits:NZ a.op a.ks) (kids:∀k∈a.ks,Wf k):Wf a
theorem ag4:∀(m:Nat) (a:Nd) (d:Nat),a.size≤m→m≤400→d≤24→
    ∃r:Bool,(∀H,av (call pg) 129 [.p (.agg a.cl),.p (.int .i64 ((d:Nat):Int))] H=some (.val (.p (.bool r)),H))∧(r=true→Wf a):=by
 intro m
 induction m with
 |zero=>intro a l h;have:=size_pos a;omega
 |succ m ih=>
  intro a d hm hm4 hd;have hlen:a.ks.length<4611686018427387904:=by
   have:=Cd a.ks;have:=size_eq a;omega
  obtain⟨b1,c1,d1⟩:=ag1 a.op a.n a.pos a.nm a.oX (Vw a);obtain⟨b2,c2,d2⟩:=ag2 a.op a hlen;have key:=fun(dL:1≤d)=>tM (c:=call pg) (G:=pg.G) (keep:=[1,2,5]) (b:=bd Bo 0) (fun i=>[(1,.p (.int .i64 ((d:Nat):Int))),(2,.box 0 0),(5,.p (.int .i64 ((i:Nat):Int)))]) ⟨[a.cl.map .p],[]⟩ a.ks.length
   (fun i=>∀k,a.ks[i]? =some k→Wf k) 0 (fun _=>True) (fun e=>e.get 4= .p (.bool false))
   (fun i hi=>by
    have N0:=Cc (bO hi);obtain⟨b3,c3,d3⟩:=ih (a.ks[i]) (d-1) (by omega) (by omega) (by omega);have aM:=xf hi;have k1:=bw (k:=i) (by omega);have hw:IntKind.i64.wrap ((d:Int)-1)=((d-1 :Nat):Int):=by rw[wrap64 (by omega) (by omega)];omega
    have hP:b3=true→∀k,a.ks[i]? =some k→Wf k:=by
     intro h k hk;rw[aA hi] at hk;cases hk;exact d3 h
    generalize (∀k,a.ks[i]? =some k→Wf k)=PP at *;generalize ((d-1 :Nat):Int)=D1 at *
    conv in bd Bo 0=>reduce
    cases b3 with
    |true=>
     have hP:=hP rfl;simp[kQ,hi,aM,c3,hw,hP,k1]
    |false=>simp[kQ,hi,aM,c3,hw])
   (by
    conv in bd Bo 0=>reduce
    simp[kQ])
  have ae:=rf (bd Bo 0)
  conv at ae=>rhs;reduce
  have hf:=rf Bo
  conv at hf=>rhs;reduce
  rw[←ae] at hf;refine zE (f:=129) (aa:=[_,_]) (y:=fun r:Bool=>.p (.bool r)) hf rfl rfl rfl ?_;clear hf ae;by_cases dL:1≤d
  ·have g1:¬(d:Int)<1:=by omega
   have g2:¬d=0:=by omega
   cases b1 with
   |false=>simp[g1,c1]
   |true=>
    cases b2 with
    |false=>simp[g1,c1,c2]
    |true=>
     rcases key dL with⟨e,hx,-,hp⟩ |⟨e,hx,hr⟩
     ·have U0:Wf a:=⟨a,d1 rfl,d2 rfl,jA.1 hp⟩;simp at hx;simp[g1,c1,c2,hx,U0]
     ·simp at hx;simp[g1,c1,c2,hx,hr]
  ·have g1:(d:Int)<1:=by omega
   have g2:d=0:=by omega
   subst g2;simp
theorem Vy(a:Nd)(ok:mq a):∃r:Bool,(∀H,av (call pg) 84 [.p (.agg a.cl)] H=some (.val (.p (.bool r)),H))∧(r=true→a.size≤400∧Wf a):=by
 have h1:=ag3 _ a 400 (aV _) ok (by omega);have hf:=rf Ue
 conv at hf=>rhs;reduce
 refine zE (f:=84) (aa:=[_]) (y:=fun r:Bool=>.p (.bool r)) hf rfl rfl rfl ?_;clear hf;by_cases h2:a.size≤400
 ·obtain⟨b,c2,d2⟩:=ag4 400 a 24 h2 (aV _) (aV _);have h3:min a.size (400+1)=a.size:=by omega
  have h4:(a.size:Int)≤400:=by omega
  rw[h3] at h1;cases b with
  |true=>
   have d2:=d2 rfl;simp at h1 c2;simp[h1,h4,c2,h2,d2]
  |false=>
   simp at h1 c2;simp[h1,h4,c2]
 ·have h3:min a.size (400+1)=401:=by omega
  rw[h3] at h1;simp at h1;simp[h1]
structure Sr where
 nm:List UInt8
 od:Bool
def Sr.p(s:Sr):PD:=.agg [.str s.nm,.bool s.od]
def jg(s:Sl Sr):PD:=fD 2 (s.map Sr.p)
theorem gT(s:Sl Sr):fg 1 (.p (jg s))=some (els s).length:=sA 2 _ s
theorem N2{s:Sl Sr}{k:Nat}(h:k<(els s).length):eN none 2 (.p (jg s)) (k:Int)=some (.ro [.str (els s)[k].nm,.bool (els s)[k].od] 0):=sB h
@[simp] theorem apD(a:Sl Sr):(jg a).one=true:=rp 2 _
structure Pm where
 nm:List UInt8
 so:Int
def Pm.p(s:Pm):PD:=.agg [.str s.nm,.int .i64 s.so]
def im(s:Sl Pm):PD:=fD 2 (s.map Pm.p)
theorem lh(s:Sl Pm):fg 1 (.p (im s))=some (els s).length:=sA 2 _ s
theorem EU{s:Sl Pm}{k:Nat}(h:k<(els s).length):eN none 2 (.p (im s)) (k:Int)=some (.ro [.str (els s)[k].nm,.int .i64 (els s)[k].so] 0):=sB h
@[simp] theorem apE(a:Sl Pm):(im a).one=true:=rp 2 _
structure Pr where
 nm:List UInt8
 ps:Sl Pm
 bo:Nd
def Pr.p(s:Pr):PD:=.agg [.str s.nm,im s.ps,.int .i64 s.bo.op,.str s.bo.nm,.int .i64 s.bo.n,s.bo.oX,.int .i64 s.bo.pos]
def jh(s:Sl Pr):PD:=fD 7 (s.map Pr.p)
theorem lj(s:Sl Pr):fg 1 (.p (jh s))=some (els s).length:=sA 7 _ s
theorem EV{s:Sl Pr}{k:Nat}(h:k<(els s).length):eN none 7 (.p (jh s)) (k:Int)=some (.ro [.str (els s)[k].nm,im (els s)[k].ps,.int .i64 (els s)[k].bo.op,.str (els s)[k].bo.nm,.int .i64 (els s)[k].bo.n,(els s)[k].bo.oX,.int .i64 (els s)[k].bo.pos] 0):=sB h
@[simp] theorem apF(a:Sl Pr):(jh a).one=true:=rp 7 _
structure Fa where
 nm:List UInt8
 bo:Nd
def Fa.p(s:Fa):PD:=.agg [.str s.nm,.int .i64 s.bo.op,.str s.bo.nm,.int .i64 s.bo.n,s.bo.oX,.int .i64 s.bo.pos]
def ji(s:Sl Fa):PD:=fD 6 (s.map Fa.p)
theorem qw(s:Sl Fa):fg 1 (.p (ji s))=some (els s).length:=sA 6 _ s
theorem Jf{s:Sl Fa}{k:Nat}(h:k<(els s).length):eN none 6 (.p (ji s)) (k:Int)=some (.ro [.str (els s)[k].nm,.int .i64 (els s)[k].bo.op,.str (els s)[k].bo.nm,.int .i64 (els s)[k].bo.n,(els s)[k].bo.oX,.int .i64 (els s)[k].bo.pos] 0):=sB h
@[simp] theorem apG(a:Sl Fa):(ji a).one=true:=rp 6 _
structure Sp where
 so:Sl Sr
 fi:Sl Fi
 pr:Sl Pr
 fa:Sl Fa
abbrev Sp.cl(s:Sp):List PD:=[jg s.so,bZ s.fi,jh s.pr,ji s.fa]
def Ce(ns:Nat)(l:List Pm):Prop:=l.length≤8∧∀p∈l,0≤p.so∧p.so<(ns:Int)
theorem ag5(sp:Sp)(l:Sl Pm):
    ∃r:Bool,(∀H,av (call pg) 96 [.p (.agg sp.cl),.p (im l)] H=some (.val (.p (.bool r)),H))∧(r=true→Ce (els sp.so).length (els l)):=by
 have key:=fun(hl:(els l).length≤8)=>tM (c:=call pg) (G:=pg.G) (keep:=[1,2,5]) (b:=bd Bm 0) (fun i=>[(1,.p (im l)),(2,.box 0 0),(5,.p (.int .i64 ((i:Nat):Int)))]) ⟨[sp.cl.map .p],[]⟩ (els l).length
  (fun i=>∀p,(els l)[i]? =some p→0≤p.so∧p.so<((els sp.so).length:Int)) 0 (fun _=>True) (fun e=>e.get 4= .p (.bool false))
  (fun i hi=>by
   have k1:=bw (k:=i) (by omega);have aM:=EU hi;have hP:0≤(els l)[i].so∧(els l)[i].so<((els sp.so).length:Int)→∀p,(els l)[i]? =some p→0≤p.so∧p.so<((els sp.so).length:Int):=by
    intro h p hp;rw[aA hi] at hp;cases hp;exact h
   generalize (∀p,(els l)[i]? =some p→0≤p.so∧p.so<((els sp.so).length:Int))=PP at *;generalize (els l)[i]=q at *
   conv in bd Bm 0=>reduce
   by_cases g1:q.so<0
   ·simp[lh,hi,aM,g1]
   ·by_cases g2:((els sp.so).length:Int)≤q.so
    ·simp[lh,gT,hi,aM,g1,g2]
    ·have hP:=hP ⟨by omega,by omega⟩;simp[lh,gT,hi,aM,g1,g2,hP,k1])
  (by
   conv in bd Bm 0=>reduce
   simp[lh])
 have ae:=rf (bd Bm 0)
 conv at ae=>rhs;reduce
 have hf:=rf Bm
 conv at hf=>rhs;reduce
 rw[←ae] at hf;refine zE (f:=96) (aa:=[_,_]) (y:=fun r:Bool=>.p (.bool r)) hf rfl rfl rfl ?_;clear hf ae;by_cases hl:(els l).length≤8
 ·have g1:¬(8 :Int)<((els l).length:Int):=by omega
  rcases key hl with⟨e,hx,-,hp⟩ |⟨e,hx,hr⟩
  ·have bV:Ce (els sp.so).length (els l):=⟨hl,jA.1 hp⟩;simp at hx;simp[lh,g1,hx,bV]
  ·simp at hx;simp[lh,g1,hx,hr]
 ·have g1:(8 :Int)<((els l).length:Int):=by omega
  simp[lh,g1]
def tS(a:Nd):Prop:=a.size≤400∧Wf a
structure nj (sp:Sp):Prop where
 ns:(els sp.so).length≤4
 nf:(els sp.fi).length≤6
 np:(els sp.pr).length≤8
 na:(els sp.fa).length≤16
 fd:∀f∈els sp.fi,mo (els sp.so).length (els f.so)
 pd:∀p∈els sp.pr,Ce (els sp.so).length (els p.ps)∧tS p.bo
 fc:∀p∈els sp.fa,tS p.bo
structure xg (sp:Sp):Prop where
 pr:∀p∈els sp.pr,mq p.bo
 fa:∀p∈els sp.fa,mq p.bo
theorem ag6(sp:Sp)(rB:xg sp):
    ∃r:Bool,(∀H,av (call pg) 46 [.p (.agg sp.cl)] H=some (.val (.p (.bool r)),H))∧(r=true→nj sp):=by
 have qx:=fun(i:Nat) (hi:i<(els sp.fi).length) (hl:(els (els sp.fi)[i].so).length≤3)=>tM (c:=call pg) (G:=pg.G) (keep:=[1,3,4,5]) (b:=bd j3 1) (fun k=>[(1,.box 0 0),(3,.p (.int .i64 ((i:Nat):Int))),(4,.p (af (els sp.fi)[i].so)),(5,.p (.int .i64 ((k:Nat):Int)))]) ⟨[sp.cl.map .p],[]⟩ (els (els sp.fi)[i].so).length
  (fun k=>∀s,(els (els sp.fi)[i].so)[k]? =some s→0≤s∧s<((els sp.so).length:Int)) 2 (fun e=>e.get 1= .box 0 0∧e.get 3= .p (.int .i64 ((i:Nat):Int))) (fun e=>e.get 2= .p (.bool false))
  (fun k hk=>by
   generalize (els sp.fi)[i]=f at *;have k1:=bw (k:=k) (by omega);have aM:=cK hk;have hP:0≤(els f.so)[k]∧(els f.so)[k]<((els sp.so).length:Int)→∀s,(els f.so)[k]? =some s→0≤s∧s<((els sp.so).length:Int):=by
    intro h p hp;rw[aA hk] at hp;cases hp;exact h
   generalize (∀s,(els f.so)[k]? =some s→0≤s∧s<((els sp.so).length:Int))=PP at *;generalize (els f.so)[k]=q at *
   conv in bd j3 1=>reduce
   by_cases g1:q<0
   ·simp[aR,hk,aM,g1]
   ·by_cases g2:((els sp.so).length:Int)≤q
    ·simp[aR,gT,hk,aM,g1,g2]
    ·have hP:=hP ⟨by omega,by omega⟩;simp[aR,gT,hk,aM,g1,g2,hP,k1])
  (by
   conv in bd j3 1=>reduce
   simp[aR])
 have N3:=fun(hl:(els sp.fi).length≤6)=>tM (c:=call pg) (G:=pg.G) (keep:=[1,3]) (b:=bd j3 0) (fun k=>[(1,.box 0 0),(3,.p (.int .i64 ((k:Nat):Int)))]) ⟨[sp.cl.map .p],[]⟩ (els sp.fi).length
  (fun i=>∀f,(els sp.fi)[i]? =some f→mo (els sp.so).length (els f.so)) 0 (fun e=>e.get 1= .box 0 0) (fun e=>e.get 2= .p (.bool false))
  (fun i hi=>by
   have k1:=bw (k:=i) (by omega);have aM:=lR hi;have hP:mo (els sp.so).length (els (els sp.fi)[i].so)→∀f,(els sp.fi)[i]? =some f→mo (els sp.so).length (els f.so):=by
    intro h p hp;rw[aA hi] at hp;cases hp;exact h
   generalize (∀f,(els sp.fi)[i]? =some f→mo (els sp.so).length (els f.so))=PP at *;have dW:=rf (bd j3 3)
   conv at dW=>rhs;reduce
   have aC:=rf (bd j3 2)
   conv at aC=>rhs;reduce
   have ai:=rf (bd j3 1)
   conv at ai=>rhs;reduce
   have ae:=rf (bd j3 0)
   conv at ae=>rhs;reduce
   rw[←ai] at ae;have hf:=rf j3
   conv at hf=>rhs;reduce
   rw[←dW] at hf;rw[←aC] at hf;rw[←ai] at hf;rw[←ae] at hf;by_cases g1:(els (els sp.fi)[i].so).length<1
   ·rw[ae];clear hf ae ai aC dW;have g0:(els (els sp.fi)[i].so)=[]:=Kb.1 (by omega);simp[aR,dg,hi,aM,g0]
   ·have sN:¬((els (els sp.fi)[i].so).length:Int)<1:=by omega
    have apH:(1 :Int)≤((els (els sp.fi)[i].so).length:Int):=by omega
    have g0:¬(els (els sp.fi)[i].so)=[]:=fun h=>g1 (by rw[h];simp);by_cases g2:3<(els (els sp.fi)[i].so).length
    ·have Cg:(3 :Int)<((els (els sp.fi)[i].so).length:Int):=by omega
     rw[ae];clear hf ae ai aC dW;simp[aR,dg,hi,aM,sN,Cg]
    ·have Cg:¬(3 :Int)<((els (els sp.fi)[i].so).length:Int):=by omega
     rcases qx i hi (by omega) with⟨e,hx,⟨q1,q3⟩,hp⟩ |⟨e,hx,hr⟩
     ·rw[jA] at hp;have hP:=hP ⟨hp,by omega,by omega⟩;simp at hx;rw[ae];clear hf ae ai aC dW;simp[aR,dg,hi,aM,sN,Cg,hx,q1,q3,hP,k1]
     ·simp at hx;rw[ae];clear hf ae ai aC dW;simp[aR,dg,hi,aM,sN,Cg,hx,hr])
  (by
   have ai:=rf (bd j3 1)
   conv at ai=>rhs;reduce
   have ae:=rf (bd j3 0)
   conv at ae=>rhs;reduce
   rw[←ai] at ae;rw[ae];clear ae ai;simp[dg])
 have vD:=fun(hl:(els sp.pr).length≤8)=>tM (c:=call pg) (G:=pg.G) (keep:=[1,6]) (b:=bd j3 2) (fun k=>[(1,.box 0 0),(6,.p (.int .i64 ((k:Nat):Int)))]) ⟨[sp.cl.map .p],[]⟩ (els sp.pr).length
  (fun i=>∀p,(els sp.pr)[i]? =some p→Ce (els sp.so).length (els p.ps)∧tS p.bo) 4 (fun e=>e.get 1= .box 0 0) (fun e=>e.get 2= .p (.bool false))
  (fun i hi=>by
   have k1:=bw (k:=i) (by omega);have aM:=EV hi;obtain⟨b1,c1,d1⟩:=ag5 sp (els sp.pr)[i].ps;obtain⟨b2,c2,d2⟩:=Vy (els sp.pr)[i].bo (rB.pr _ (bO hi));have hP:b1=true→b2=true→∀p,(els sp.pr)[i]? =some p→Ce (els sp.so).length (els p.ps)∧tS p.bo:=by
    intro h h' p hp;rw[aA hi] at hp;cases hp;exact⟨d1 h,d2 h'⟩
   generalize (∀p,(els sp.pr)[i]? =some p→Ce (els sp.so).length (els p.ps)∧tS p.bo)=PP at *
   conv in bd j3 2=>reduce
   cases b1 with
   |false=>simp[lj,hi,aM,c1]
   |true=>
    cases b2 with
    |false=>simp[lj,hi,aM,c1,c2]
    |true=>
     have hP:=hP rfl rfl;simp[lj,hi,aM,c1,c2,hP,k1])
  (by
   conv in bd j3 2=>reduce
   simp[lj])
 have ag7:=fun(hl:(els sp.fa).length≤16)=>tM (c:=call pg) (G:=pg.G) (keep:=[1,7]) (b:=bd j3 3) (fun k=>[(1,.box 0 0),(7,.p (.int .i64 ((k:Nat):Int)))]) ⟨[sp.cl.map .p],[]⟩ (els sp.fa).length
  (fun i=>∀p,(els sp.fa)[i]? =some p→tS p.bo) 6 (fun _=>True) (fun e=>e.get 2= .p (.bool false))
  (fun i hi=>by
   have k1:=bw (k:=i) (by omega);have aM:=Jf hi;obtain⟨b2,c2,d2⟩:=Vy (els sp.fa)[i].bo (rB.fa _ (bO hi));have hP:b2=true→∀p,(els sp.fa)[i]? =some p→tS p.bo:=by
    intro h p hp;rw[aA hi] at hp;cases hp;exact d2 h
   generalize (∀p,(els sp.fa)[i]? =some p→tS p.bo)=PP at *
   conv in bd j3 3=>reduce
   cases b2 with
   |false=>simp[qw,hi,aM,c2]
   |true=>
    have hP:=hP rfl;simp[qw,hi,aM,c2,hP,k1])
  (by
   conv in bd j3 3=>reduce
   simp[qw])
 have dW:=rf (bd j3 3)
 conv at dW=>rhs;reduce
 have aC:=rf (bd j3 2)
 conv at aC=>rhs;reduce
 have ai:=rf (bd j3 1)
 conv at ai=>rhs;reduce
 have ae:=rf (bd j3 0)
 conv at ae=>rhs;reduce
 rw[←ai] at ae;have hf:=rf j3
 conv at hf=>rhs;reduce
 rw[←dW] at hf;rw[←aC] at hf;rw[←ai] at hf;rw[←ae] at hf;refine zE (f:=46) (aa:=[_]) (y:=fun r:Bool=>.p (.bool r)) hf rfl rfl rfl ?_;clear hf ae ai aC dW;by_cases h1:(els sp.so).length≤4
 ·have k1:¬(4 :Int)<((els sp.so).length:Int):=by omega
  by_cases h2:(els sp.fi).length≤6
  ·have k2:¬(6 :Int)<((els sp.fi).length:Int):=by omega
   by_cases h3:(els sp.pr).length≤8
   ·have k3:¬(8 :Int)<((els sp.pr).length:Int):=by omega
    by_cases h4:(els sp.fa).length≤16
    ·have k4:¬(16 :Int)<((els sp.fa).length:Int):=by omega
     rcases N3 h2 with⟨e,hx,q1,hp⟩ |⟨e,hx,hr⟩
     ·rcases vD h3 with⟨e',dB,EL,xZ⟩ |⟨e',dB,tq⟩
      ·rcases ag7 h4 with⟨e'',EW,-,ag9⟩ |⟨e'',EW,aha⟩
       ·have bV:nj sp:=⟨h1,h2,h3,h4,jA.1 hp,jA.1 xZ,jA.1 ag9⟩;simp at hx dB EW;simp[gT,dg,lj,qw,k1,k2,k3,k4,hx,q1,dB,EL,EW,bV]
       ·simp at hx dB EW;simp[gT,dg,lj,qw,k1,k2,k3,k4,hx,q1,dB,EL,EW,aha]
      ·simp at hx dB;simp[gT,dg,lj,qw,k1,k2,k3,k4,hx,q1,dB,tq]
     ·simp at hx;simp[gT,dg,lj,qw,k1,k2,k3,k4,hx,hr]
    ·have k4:(16 :Int)<((els sp.fa).length:Int):=by omega
     simp[gT,dg,lj,qw,k1,k2,k3,k4]
   ·have k3:(8 :Int)<((els sp.pr).length:Int):=by omega
    simp[gT,dg,lj,k1,k2,k3]
  ·have k2:(6 :Int)<((els sp.fi).length:Int):=by omega
   simp[gT,dg,k1,k2]
 ·have k1:(4 :Int)<((els sp.so).length:Int):=by omega
  simp[gT,k1]
inductive SF where
 |pl (x:PD)
 |tk (es:List PD)
def SF.d(e sz:Nat):SF→Nat→D
 | .pl x,_=>.p x
 | .tk es,t=>.bk t e sz es
def SF.k:SF→List Nat
 | .pl _=>[]
 | .tk es=>[es.length]
def SF.at(e sz:Nat)(s:SF)(d:D)(H:Hp):Prop:=match s with
 | .pl x=>d= .p x
 | .tk es=>∃t,d= .bk t e sz es∧H.tk[t]? =some es.length
structure N4 (y:D):Prop where
 rn:∀f g,y.ren f g=some y
 fz:∀n H k,y.aH n H k=y
theorem EX(x:PD):N4 (.p x):=⟨fun _ _=>rfl,fun n H k=>lQ n H k x⟩
theorem Jg(xs:List PD):N4 (.bA (xs.map .p)):=⟨fun f g=>by simp[D.ren],fun n H k=>by
 cases k with
 |zero=>unfold D.aH;rfl
 |succ k=>unfold D.aH;simp[lQ]⟩
def di(res:List ou)(k:List Nat)(y:D):Out→Env→Hp→Prop:=fun o e H=>(o= .ret∨o= .norm)∧lX pg.G e H res=some y∧H.tk.take k.length=k
theorem Jh:∀a b:List D,D.aD (a++b)=D.aD a++D.aD b
 |[],b=>rfl
 |x::a,b=>by simp[D.aD,Jh a b]
theorem Ji:∀a b:List D,D.bz (a++b)=D.bz a++D.bz b
 |[],b=>rfl
 |x::a,b=>by simp[D.bz,Ji a b]
theorem Vz{f g:Nat→Option Nat}:∀{a b a' b':List D},D.ba f g a=some a'→D.ba f g b=some b'→D.ba f g (a++b)=some (a'++b')
 |[],b,a',b',ha,hb=>by
  simp[D.ba] at ha;subst ha;exact hb
 |x::a,b,a',b',ha,hb=>by
  simp only[D.ba] at ha;cases hx:x.ren f g with
  |none=>rw[hx] at ha;cases ha
  |some y=>
   rw[hx] at ha;obtain⟨a'',h1,rfl⟩:=au.1 ha;simp only[jN,D.ba,hx,Vz h1 hb,eA]
theorem vE{f:Nat}{fc:FC}{e sz:Nat}{pre suf:List PD}{s:SF}{y:D}(hy:N4 y)(hF:pg.F f=some fc)(kP:∀k,pg.lib f (pre.map .p++s.d e sz 0::suf.map .p) ⟨[],k⟩=none)(hn:(pre.map D.p++s.d e sz 0::suf.map .p).length=fc.np)(hd:fc.iu=none)
    (h:post (di fc.res s.k y) (ay (call pg) pg.G bf fc.body ⟨entry 0 (pre.map .p++s.d e sz 0::suf.map .p),⟨[],s.k⟩⟩)):
    ∀d H,s.at e sz d H→av (call pg) f (pre.map .p++d::suf.map .p) H=some (.val y,H):=by
 intro d H hs;obtain⟨o,e1,H1,hx,ho,hr,ht⟩:=bJ h;have dY:finish pg.G fc.res (some (o,⟨e1,H1⟩))=some (.val y,H1):=by
  rcases ho with rfl |rfl
  ·simp only[finish,hr]
  ·simp only[finish,hr]
 have hc:∃bl,call pg f (pre.map .p++s.d e sz 0::suf.map .p) ⟨[],s.k⟩=some (.val y,⟨bl,H1.tk⟩):=by
  cases hz:fc.aH with
  |false=>exact⟨H1.bx,tF (kP _) hF hn (by simp only[hz,mO,iT,hd,hx,dY];rfl)⟩
  |true=>
   exact⟨[],tF (kP _) hF hn (by
    simp only[hz,mO,iT,hd,hx,dY,if_true,eA,rM,fW,vT,aP,bt.aH,bt.ren,hy.rn,hy.fz,b9])⟩
 obtain⟨bl,hc⟩:=hc;have yx:∀n,reach H n []=[]:=by
  intro n;cases n<;>simp[reach,ef]
 cases s with
 |pl x=>
  have hs:d= .p x:=hs;subst hs;have e0:pre.map D.p++D.p x::suf.map .p=(pre++x::suf).map .p:=by simp
  have kX:call pg f ((pre++x::suf).map .p) ⟨[],[]⟩=some (.val y,⟨bl,H1.tk⟩):=by rw[←e0];exact hc
  rw[e0];exact HX kX (oO _) (sC _) (iM _ _ _) (hy.rn _ _)
 |tk es=>
  obtain⟨t,rfl,cw⟩:=hs;have a1:D.aD (pre.map D.p++D.bk t e sz es::suf.map .p)=[]:=by
   rw[Jh,oO];simp[D.aD,D.refs]
  have a2:D.bz (pre.map D.p++D.bk t e sz es::suf.map .p)=[t]:=by
   rw[Ji,sC];simp[D.bz,D.cJ]
  have a3:D.ba (idx []) (idx [t]) (pre.map D.p++D.bk t e sz es::suf.map .p)=some (pre.map D.p++D.bk 0 e sz es::suf.map .p):=by
   refine Vz (iM _ _ _) ?_;simp[D.ba,D.ren,idx]
  have a4:ins [] [t]=[t]:=by simp[ins]
  have a5:nodupB [t]=true:=by simp[Vs.nodupB]
  have a6:aP (fun t=>H.tk[t]?) [t]=some [es.length]:=by simp[aP,cw]
  have kX:call pg f (pre.map .p++D.bk 0 e sz es::suf.map .p) ⟨[],[es.length]⟩=some (.val y,⟨bl,H1.tk⟩):=hc;have uW:H1.tk.take 1=[es.length]:=ht;have vA:1≤H1.tk.length:=by
   cases hh:H1.tk with
   |nil=>rw[hh] at uW;cases uW
   |cons=>simp
  unfold av;simp only[a1,a2,ins,yx,fX,lA,a4,a5,Vs.nodupB,YG,if_true,a3,aP,a6,kX];unfold back;have hC:H.tk.set t es.length=H.tk:=by
   obtain⟨h1,h2⟩:=az.1 cw;rw[←h2,List.set_getElem_self]
  simp[gM,vA,uW,aP,bt.ren,hy.rn,cq,hC]
structure xh (e sz:Nat) (s:SF) (es:List PD):Prop where
 len:∀t,fg 1 (s.d e sz t)=some es.length
 ia:∀t k (h:k<es.length),eN none sz (s.d e sz t) (k:Int)=some (.ro (es[k]).cells 0)
 src:∀t,eF sz (s.d e sz t)=some es
theorem VA{e sz:Nat}{es:List PD}:xh e sz (.tk es) es:=⟨fun _=>rfl,fun _ _ h=>Tp h,fun _=>by simp[SF.d,eF,D.iR]⟩
theorem VB(a:Int)(b:Bt)(ha:1≤a):∃r:Bt,∀H,av (call pg) 330 [.p (gH a b)] H=some (.val (.p (gH a r)),H):=by
 have key:=eY (c:=call pg) (G:=pg.G) (keep:=[1,2,3]) (b:=bd Et 0) (σ:=Nat×Bt) (fun s=>[(1,.box 0 0),(2,.box 1 0),(3,.p (.int .i64 ((s.1:Nat):Int)))]) (fun s=>⟨[(aj a s.2).map D.p,(aj 0 Bt.e).map D.p],[]⟩) (fun s=>4-s.1) (fun s=>s.1≤4)
  (fun o e H=>o= .exit 0∧e.get 1= .box 0 0∧e.get 2= .box 1 0∧∃r,H=⟨[(aj a r).map D.p,(aj 0 Bt.e).map D.p],[]⟩)
  (by
   rintro⟨i,x⟩ hi;dsimp only at hi⊢
   conv in bd Et 0=>reduce
   by_cases h:i<4
   ·have h1:(i:Int)<4:=by omega
    obtain⟨j,hj⟩:=Vt a a x x ha;obtain⟨u,hu⟩:=Ca a (IntKind.i64.wrap (IntKind.i64.wrap (a+a)-2)) x j;have k1:=bw (k:=i) (by omega);refine aX (Q:=nx [1,2,3] [(1,.box 0 0),(2,.box 1 0),(3,.p (.int .i64 ((i+1 :Nat):Int)))] ⟨[(aj a u).map D.p,(aj 0 Bt.e).map D.p],[]⟩) ?_ fun o e H hh=>.inl ⟨(i+1,u),by dsimp only;omega,by dsimp only;omega,hh⟩;simp[-aE,-aO,dx,cz,cR,cn,h1,hj,hu,k1]
   ·have :i=4:=by omega
    subst this;refine aX (Q:=fun o e H=>o= .exit 0∧e.get 1= .box 0 0∧e.get 2= .box 1 0∧H=⟨[(aj a x).map D.p,(aj 0 Bt.e).map D.p],[]⟩) ?_ ?_
    ·simp[-aE,-aO]
    ·rintro o e H ⟨rfl,q1,q2,rfl⟩;exact .inr ⟨by simp,rfl,q1,q2,x,rfl⟩) (0,b) (b9 _)
 obtain⟨o,e,H,hx,rfl,q1,q2,r,rfl⟩:=bJ key;simp only[gJ] at hx;have ae:=rf (bd Et 0)
 conv at ae=>rhs;reduce
 have hf:=rf Et
 conv at hf=>rhs;reduce
 rw[←ae] at hf;have aK:cE=cE:=rfl
 conv at aK=>rhs;reduce
 try rw[←aK] at hf
 try rw[←aK] at ae
 clear aK;refine⟨r,aG (aa:=[_]) hf rfl rfl rfl ?_⟩;clear hf ae;simp[-aE,-aO,cu,dx,cz,cR,cn,hx,q1,q2]
theorem VC(sp:Sp)(k:Int)(hk:k=1∨k=2)(hs:(els sp.so).length<4611686018427387904):∃r:Bt,∀H,av (call pg) 324 [.p (.agg sp.cl),.p (.int .i64 k)] H=some (.val (.p (gH k r)),H):=by
 have key:=eY (c:=call pg) (G:=pg.G) (keep:=[1,2,4,5,6]) (b:=bd Em 0) (σ:=Nat×Bt) (fun s=>[(1,.p (.int .i64 k)),(2,.box 0 0),(4,.box 1 0),(5,.box 2 0),(6,.p (.int .i64 ((s.1:Nat):Int)))]) (fun s=>⟨[sp.cl.map .p,(aj 0 Bt.e).map D.p,(aj k s.2).map D.p],[]⟩) (fun s=>(els sp.so).length-s.1) (fun s=>s.1≤(els sp.so).length)
  (fun o e H=>o= .exit 0∧e.get 4= .box 1 0∧e.get 5= .box 2 0∧∃r,H=⟨[sp.cl.map .p,(aj 0 Bt.e).map D.p,(aj k r).map D.p],[]⟩)
  (by
   rintro⟨i,x⟩ hi;dsimp only at hi⊢
   conv in bd Em 0=>reduce
   by_cases h:i<(els sp.so).length
   ·have k1:=bw (k:=i) (by omega);rcases hk with rfl |rfl
    ·obtain⟨j,hj⟩:=Cb (NW (i:Int)) (by omega);obtain⟨u,hu⟩:=Ca 1 1 x j;simp only[uh] at hj;refine aX (Q:=nx [1,2,4,5,6] [(1,.p (.int .i64 1)),(2,.box 0 0),(4,.box 1 0),(5,.box 2 0),(6,.p (.int .i64 ((i+1 :Nat):Int)))] ⟨[sp.cl.map .p,(aj 0 Bt.e).map D.p,(aj 1 u).map D.p],[]⟩) ?_ fun o e H hh=>.inl ⟨(i+1,u),by dsimp only;omega,by dsimp only;omega,hh⟩;simp[-aE,-aO,dx,cz,cR,cn,gT,h,hj,hu,k1]
    ·obtain⟨j,hj⟩:=Cb (Vo (i:Int) (i:Int)) (by omega);obtain⟨u,hu⟩:=Ca 2 2 x j;simp at hj;refine aX (Q:=nx [1,2,4,5,6] [(1,.p (.int .i64 2)),(2,.box 0 0),(4,.box 1 0),(5,.box 2 0),(6,.p (.int .i64 ((i+1 :Nat):Int)))] ⟨[sp.cl.map .p,(aj 0 Bt.e).map D.p,(aj 2 u).map D.p],[]⟩) ?_ fun o e H hh=>.inl ⟨(i+1,u),by dsimp only;omega,by dsimp only;omega,hh⟩;simp[-aE,-aO,dx,cz,cR,cn,gT,h,hj,hu,k1]
   ·have :i=(els sp.so).length:=by omega
    subst this;refine aX (Q:=fun o e H=>o= .exit 0∧e.get 4= .box 1 0∧e.get 5= .box 2 0∧H=⟨[sp.cl.map .p,(aj 0 Bt.e).map D.p,(aj k x).map D.p],[]⟩) ?_ ?_
    ·simp[-aE,-aO,gT]
    ·rintro o e H ⟨rfl,q1,q2,rfl⟩;exact .inr ⟨by simp,rfl,q1,q2,x,rfl⟩) (0,Bt.e) (b9 _)
 obtain⟨o,e,H,hx,rfl,q1,q2,r,rfl⟩:=bJ key;simp only[gJ,dA,mF] at hx;have ae:=rf (bd Em 0)
 conv at ae=>rhs;reduce
 have hf:=rf Em
 conv at hf=>rhs;reduce
 rw[←ae] at hf;have aK:cE=cE:=rfl
 conv at aK=>rhs;reduce
 try rw[←aK] at hf
 try rw[←aK] at ae
 clear aK;refine⟨r,aG (aa:=[_,_]) hf rfl rfl rfl ?_⟩;clear hf ae;simp[-aE,-aO,cu,dx,cz,cR,cn,xc,hx,q1,q2]
theorem VD{so f2 f3 f4:PD}{n:Nat}(bE:fg 1 (.p so)=some n)(_:so.one=true)(x:Int):
    av (call pg) 175 [.p (.int .i64 x),.box 0 0] ⟨[[.p so,.p f2,.p f3,.p f4]],[]⟩=some (.val (.p (.bool (decide (¬(0≤x∧x<(n:Int)))))),⟨[[.p so,.p f2,.p f3,.p f4]],[]⟩):=by
 have h:call pg 175 [.p (.int .i64 x),.box 0 0] ⟨[[.p so,.p f2,.p f3,.p f4]],[]⟩=some (.val (.p (.bool (decide (¬(0≤x∧x<(n:Int)))))),⟨[[.p so,.p f2,.p f3,.p f4]],[]⟩):=by
  have hf:=rf T5
  conv at hf=>rhs;reduce
  refine Gl rfl hf rfl rfl ?_;clear hf;by_cases h1:x<0
  ·have h2:¬0≤x:=by omega
   simp[h1,h2]
  ·have h2:0≤x:=by omega
   by_cases h3:(n:Int)≤x
   ·have h4:¬x<(n:Int):=by omega
    simp[bE,h1,h2,h3,h4]
   ·have h4:x<(n:Int):=by omega
    simp[bE,h1,h2,h3,h4]
 simp[av,reach,ef,fX,ins,Vs.nodupB,idx,D.aD,D.bz,D.refs,D.cJ,D.ba,D.ren,aP,h,back,gM,bt.ren,cq]
theorem zH{f:Nat}{fc:FC}{aa:List D}{cs:List PD}{y:PD}(hF:pg.F f=some fc)(kP:pg.lib f aa ⟨[cs.map .p],[]⟩=none)(hn:aa.length=fc.np)(hd:fc.iu=none)
    (h:post (fun o e H=>(o= .ret∨o= .norm)∧lX pg.G e H fc.res=some (.p y)∧H=⟨[cs.map .p],[]⟩) (ay (call pg) pg.G bf fc.body ⟨entry 0 aa,⟨[cs.map .p],[]⟩⟩)):
    call pg f aa ⟨[cs.map .p],[]⟩=some (.val (.p y),⟨[cs.map .p],[]⟩):=by
 obtain⟨o,e,H1,hx,ho,hr,rfl⟩:=bJ h;have dY:finish pg.G fc.res (some (o,⟨e,⟨[cs.map .p],[]⟩⟩))=some (.val (.p y),⟨[cs.map .p],[]⟩):=by
  rcases ho with rfl |rfl
  ·simp only[finish,hr]
  ·simp only[finish,hr]
 cases hz:fc.aH with
 |false=>exact tF kP hF hn (by simp only[hz,mO,iT,hd,hx,dY];rfl)
 |true=>
  have h1:∀H,pk 1 H (cs.map D.p)=cs.map .p:=fun H=>by simp[pk,oO]
  exact tF kP hF hn (by
   simp only[hz,mO,iT,hd,hx,dY,if_true,eA];simp[rM,aP,bt.aH,bt.ren,h1,iM,lQ,D.ren])
theorem ahb{so f2 f3 f4:PD}{n:Nat}(bE:fg 1 (.p so)=some n)(o1:so.one=true)(a:Sl Int)(hl:(els a).length<4611686018427387904):
    ∃k:Int,call pg 232 [.p (af a),.fn 175 [] [.box 0 0]] ⟨[[.p so,.p f2,.p f3,.p f4]],[]⟩=some (.val (.p (.int .i64 k)),⟨[[.p so,.p f2,.p f3,.p f4]],[]⟩)∧(k<0↔∀x∈els a,0≤x∧x<(n:Int)):=by
 have key:=ko (c:=call pg) (G:=pg.G) (keep:=[0,1,7,8]) (b:=bd y0 0) (fun i=>[(0,.p (af a)),(1,.fn 175 [] [.box 0 0]),(7,.p (.int .i64 (((els a).length:Nat):Int))),(8,.p (.int .i64 ((i:Nat):Int)))]) ⟨[[.p so,.p f2,.p f3,.p f4]],[]⟩ (els a).length
  (fun i=>∀x,(els a)[i]? =some x→0≤x∧x<(n:Int)) 0 (fun _=>True) (fun e=>∃j:Nat,e.get 4= .p (.int .i64 ((j:Nat):Int))) ?_ ?_ ?_
 ·skip
  have ae:=rf (bd y0 0)
  conv at ae=>rhs;reduce
  have hf:=rf y0
  conv at hf=>rhs;reduce
  rw[←ae] at hf;rcases key with⟨e,hx,-,hp⟩ |⟨e,hx,⟨j,h4⟩,hp⟩
  ·rw[xb] at hp;refine⟨-1,zH (cs:=[so,f2,f3,f4]) hf rfl rfl rfl ?_,iff_of_true (by omega) hp⟩;clear hf ae;simp at hx;simp[aR,hx]
  ·rw[xb] at hp;refine⟨(j:Int),zH (cs:=[so,f2,f3,f4]) hf rfl rfl rfl ?_,iff_of_false (by omega) hp⟩;clear hf ae;simp at hx;simp[aR,hx,h4]
 ·intro i hi hP;have hP:=hP _ (aA hi);have hc:=VD (f2:=f2) (f3:=f3) (f4:=f4) bE o1 (els a)[i];rw[decide_eq_false (by simpa using hP)] at hc;have aM:=cK hi
  conv in bd y0 0=>reduce
  simp[aM,hi,hc,bw (k:=i) (by omega)]
 ·intro i hi hP;have hP:¬(0≤(els a)[i]∧(els a)[i]<(n:Int)):=fun h=>hP fun x hx=>by
   rw[aA hi] at hx;cases hx;exact h
  have hc:=VD (f2:=f2) (f3:=f3) (f4:=f4) bE o1 (els a)[i];rw[decide_eq_true hP] at hc;have aM:=cK hi;refine aX (Q:=fun o e H=>o= .ret∧H=⟨[[.p so,.p f2,.p f3,.p f4]],[]⟩∧e.get 4= .p (.int .i64 ((i:Nat):Int))) ?_ fun o e H h=>⟨h.1,h.2.1,i,h.2.2⟩
  conv in bd y0 0=>reduce
  simp[aM,hi,hc]
 ·skip
  conv in bd y0 0=>reduce
  simp
theorem ahc{so f2 f3 f4 nm va:PD}{n:Nat}(bE:fg 1 (.p so)=some n)(o1:so.one=true)(o2:f2.one=true)(o3:f3.one=true)(o4:f4.one=true)(o5:nm.one=true)(o6:va.one=true)(a:Sl Int)(hl:(els a).length<4611686018427387904):
    ∃r:Bool,(∀H,av (call pg) 113 [.p (.agg [so,f2,f3,f4]),.p (.agg [nm,af a,va])] H=some (.val (.p (.bool r)),H))∧(r=true↔mo n (els a)):=by
 obtain⟨k,c1,d1⟩:=ahb (f2:=f2) (f3:=f3) (f4:=f4) bE o1 a hl;have c2:av (call pg) 232 [.p (af a),.fn 175 [] [.box 0 0]] ⟨[[.p so,.p f2,.p f3,.p f4]],[]⟩=some (.val (.p (.int .i64 k)),⟨[[.p so,.p f2,.p f3,.p f4]],[]⟩):=by
  simp[av,reach,ef,fX,ins,Vs.nodupB,idx,D.aD,D.bz,D.refs,D.cJ,D.ba,D.ren,aP,c1,back,gM,bt.ren,cq]
 have c3:call pg 174 [.p (af a),.fn 175 [] [.box 0 0]] ⟨[[.p so,.p f2,.p f3,.p f4]],[]⟩=some (.val (.p (.bool (decide (0≤k)))),⟨[[.p so,.p f2,.p f3,.p f4]],[]⟩):=by
  have hf:=rf T4
  conv at hf=>rhs;reduce
  refine zH (cs:=[so,f2,f3,f4]) hf rfl rfl rfl ?_;clear hf;simp[c2]
 have c4:∀x,av (call pg) 174 [.p (af a),.fn 175 [] [.box 0 0]] ⟨[[.p so,.p f2,.p f3,.p f4],x],[]⟩=some (.val (.p (.bool (decide (0≤k)))),⟨[[.p so,.p f2,.p f3,.p f4],x],[]⟩):=fun x=>by
  simp[av,reach,ef,fX,ins,Vs.nodupB,idx,D.aD,D.bz,D.refs,D.cJ,D.ba,D.ren,aP,c3,back,gM,bt.ren,cq]
 have hf:=rf TT
 conv at hf=>rhs;reduce
 by_cases h1:1≤(els a).length
 ·have g1:¬((els a).length:Int)<1:=by omega
  have sN:¬(els a).length<1:=by omega
  by_cases h2:(els a).length≤3
  ·have g2:¬(3 :Int)<((els a).length:Int):=by omega
   have Cg:¬3<(els a).length:=by omega
   refine⟨decide (k<0),aG (aa:=[_,_]) hf rfl rfl rfl ?_,?_⟩
   ·clear hf;simp[aR,o1,o2,o3,o4,o5,o6,g1,g2,c4];by_cases hk:k<0
    ·have :¬0≤k:=by omega
     simp[hk,this]
    ·have :0≤k:=by omega
     simp[hk,this]
   ·rw[decide_eq_true_eq,d1];exact⟨fun h=>⟨h,h1,h2⟩,fun h=>h.1⟩
  ·have g2:(3 :Int)<((els a).length:Int):=by omega
   have Cg:3<(els a).length:=by omega
   refine⟨false,aG (aa:=[_,_]) hf rfl rfl rfl ?_,iff_of_false (by simp) fun h=>h2 h.2.2⟩;clear hf;simp[aR,o1,o2,o3,o4,o5,o6,g1,g2]
 ·have g1:((els a).length:Int)<1:=by omega
  have sN:(els a).length<1:=by omega
  have g0:(els a).length=0:=by omega
  refine⟨false,aG (aa:=[_,_]) hf rfl rfl rfl ?_,iff_of_false (by simp) fun h=>h1 h.2.1⟩;clear hf;simp[aR,o1,o2,o3,o4,o5,o6,g0]
abbrev dw(l:List Int):Prop:=l.Pairwise (· < ·)
theorem ahd(l:Sl Int)(ar x:Int)(hl:(els l).length<4611686018427387904)(hs:dw (els l)):
    ∃r:Bool,(∀H,av (call pg) 70 [.p (.agg [.int .i64 ar,af l]),.p (.int .i64 x)] H=some (.val (.p (.bool r)),H))∧(r=true↔x∈els l):=by
 have ae:=rf (bd Iy 0)
 conv at ae=>rhs;reduce
 have hf:=rf Iy
 conv at hf=>rhs;reduce
 rw[←ae] at hf;have l8:=F0.1 hs;have key:=eY (c:=call pg) (G:=pg.G) (keep:=[1,2,5,6]) (b:=bd Iy 0) (σ:=Nat×Nat) (fun s=>[(1,.p (.int .i64 x)),(2,.box 0 0),(5,.p (.int .i64 ((s.1:Nat):Int))),(6,.p (.int .i64 ((s.2:Nat):Int)))]) (fun _=>⟨[[.p (.int .i64 ar),.p (af l)]],[]⟩) (fun s=>s.2-s.1)
  (fun s=>s.1≤s.2∧s.2≤(els l).length∧(∀i (h:i<(els l).length),i<s.1→(els l)[i]<x)∧∀i (h:i<(els l).length),s.2≤i→x≤(els l)[i])
  (fun o e H=>H=⟨[[.p (.int .i64 ar),.p (af l)]],[]⟩∧o= .exit 0∧e.get 1= .p (.int .i64 x)∧e.get 2= .box 0 0∧∃k:Nat,e.get 5= .p (.int .i64 ((k:Nat):Int))∧k≤(els l).length∧(∀i (h:i<(els l).length),i<k→(els l)[i]<x)∧∀i (h:i<(els l).length),k≤i→x≤(els l)[i])
  ?_ (0,(els l).length) ⟨b9 _,aV _,fun i _ h=>absurd h (Ai _),fun i h h'=>absurd h (Nat.not_lt.2 h')⟩
 ·obtain⟨o,e,H,hx,rfl,rfl,g1,g2,k,g5,hk,p1,p2⟩:=bJ key;simp at hx;by_cases ah:k<(els l).length
  ·by_cases hq:(els l)[k]=x
   ·refine⟨true,aG (aa:=[_,_]) hf rfl rfl rfl ?_,iff_of_true rfl (hq▸bO ah)⟩;clear hf ae;simp[aR,hx,g1,g2,g5,ah,cK ah,hq]
   ·refine⟨false,aG (aa:=[_,_]) hf rfl rfl rfl ?_,iff_of_false (by simp) fun hm=>?_⟩
    ·clear hf ae;simp[aR,hx,g1,g2,g5,ah,cK ah,hq]
    ·obtain⟨i,hi,rfl⟩:=p6 hm;rcases FZ i k with h |h |h
     ·have:=p1 i hi h;omega
     ·subst h;exact hq rfl
     ·have:=p2 k ah (aV _);have:=l8 k i ah hi h;omega
  ·refine⟨false,aG (aa:=[_,_]) hf rfl rfl rfl ?_,iff_of_false (by simp) fun hm=>?_⟩
   ·clear hf ae;simp[aR,hx,g2,g5,ah]
   ·obtain⟨i,hi,rfl⟩:=p6 hm;have:=p1 i hi (by omega);omega
 ·rintro⟨lo,hi⟩ ⟨h1,h2,h3,h4⟩;dsimp only at h1 h2 h3 h4⊢;by_cases ah:lo<hi
  ·have hm:(lo+hi)/2<(els l).length:=by omega
   have c1:IntKind.i64.wrap ((lo:Int)+(hi:Int))=((lo+hi:Nat):Int):=by rw[wrap64 (by omega) (by omega)];simp
   have c2:IntKind.i64.wrap (((lo+hi:Nat):Int).tdiv 2)=(((lo+hi)/2 :Nat):Int):=by
    rw[YQ (by omega),wrap64 (by omega) (by omega)];omega
   have c3:=bw (k:=(lo+hi)/2) (by omega);have aM:=cK hm;by_cases hc:(els l)[(lo+hi)/2]<x
   ·refine aX (Q:=fun o e H=>nx [1,2,5,6] [(1,.p (.int .i64 x)),(2,.box 0 0),(5,.p (.int .i64 (((lo+hi)/2+1 :Nat):Int))),(6,.p (.int .i64 ((hi:Nat):Int)))] ⟨[[.p (.int .i64 ar),.p (af l)]],[]⟩ o e H) ?_ fun o e H hh=>.inl ⟨((lo+hi)/2+1,hi),⟨by dsimp only;omega,h2,fun i h h'=>?_,h4⟩,by dsimp only;omega,hh⟩
    ·rw[ae];clear hf ae;generalize (((lo+hi)/2 :Nat):Int)=m at *;generalize ((((lo+hi)/2+1 :Nat)):Int)=m1 at *;generalize ((lo+hi:Nat):Int)=m2 at *;simp[ah,c1,c2,c3,aM,hc]
    ·dsimp only at h';rcases iP i ((lo+hi)/2) with nk |nk
     ·have:=l8 i _ h hm nk;omega
     ·have :i=(lo+hi)/2:=by omega
      subst this;exact hc
   ·refine aX (Q:=fun o e H=>nx [1,2,5,6] [(1,.p (.int .i64 x)),(2,.box 0 0),(5,.p (.int .i64 ((lo:Nat):Int))),(6,.p (.int .i64 (((lo+hi)/2 :Nat):Int)))] ⟨[[.p (.int .i64 ar),.p (af l)]],[]⟩ o e H) ?_ fun o e H hh=>.inl ⟨(lo,(lo+hi)/2),⟨by dsimp only;omega,by dsimp only;omega,h3,fun i h h'=>?_⟩,by dsimp only;omega,hh⟩
    ·rw[ae];clear hf ae;generalize (((lo+hi)/2 :Nat):Int)=m at *;generalize ((lo+hi:Nat):Int)=m2 at *;simp[ah,c1,c2,aM,hc]
    ·dsimp only at h';rcases iP ((lo+hi)/2) i with nk |nk
     ·have:=l8 _ i hm h nk;omega
     ·have :i=(lo+hi)/2:=by omega
      subst this;omega
  ·have :lo=hi:=by omega
   subst this;refine aX (Q:=fun o e H=>o= .exit 0∧H=⟨[[.p (.int .i64 ar),.p (af l)]],[]⟩∧e.get 1= .p (.int .i64 x)∧e.get 2= .box 0 0∧e.get 5= .p (.int .i64 ((lo:Nat):Int))) ?_ fun o e H hh=>.inr ?_
   ·rw[ae];clear hf ae;simp
   ·obtain⟨rfl,rfl,q1,q2,q3⟩:=hh;exact⟨by simp,rfl,rfl,q1,q2,lo,q3,h2,h3,h4⟩
def nW(e sz:Nat)(es:List PD):D:=match es with |[]=>.p .aI |_::_=>.bk 0 e sz es
def xj(es:List PD):List Nat:=match es with |[]=>[] |_::_=>[es.length]
theorem N5{e sz by':Nat}{es:List PD}{x:PD}{bx:List (List D)}(h:es.length<1000000000)(hb:by'≤1000):fj e sz by' (nW e sz es) [x] ⟨bx,xj es⟩=some (nW e sz (es++[x]),⟨bx,xj (es++[x])⟩):=by
 have hr:roomy (es.length+1) by'=true:=by
  have :(es.length+1)*by'≤1000000000*1000:=ug (by omega) hb;simp only[roomy,bQ,decide_eq_true_eq];omega
 cases es with
 |nil=>
  simp only[fW,eS] at hr;simp[nW,xj,fj,hr]
 |cons a r=>
  simp only[dZ] at hr;simp[nW,xj,fj,hr]
@[simp] theorem apJ(e sz:Nat)(es:List PD):(nW e sz es).one=true:=by cases es<;>rfl
@[simp] theorem apK(e sz:Nat):nW e sz []= .p .aI:=rfl
@[simp] theorem apL:xj []=[]:=rfl
theorem VE(e sz:Nat)(es:List PD):(nW e sz es).cells=[nW e sz es]:=by cases es<;>rfl
def N6(d:D)(ar:Int)(tu:Sl Int):Prop:=d= .p (.agg [.int .i64 ar,af tu])∨d= .agg [.p (.int .i64 ar),.p (af tu)]
def ll(l:List Int):Sl Int:=match l with |[]=>.nil |_::_=>.of l
theorem tT(l:List Int):els (ll l)=l:=by cases l<;>rfl
theorem N7(l:List Int)(e:Nat):(l=[]∧nW e 1 (l.map (PD.int .i64))= .p (af (ll l)))∨(∃t,nW e 1 (l.map (PD.int .i64))= .bk t e 1 (l.map (PD.int .i64))∧af (ll l)= .slice 1 (l.map (PD.int .i64))):=by
 cases l with
 |nil=>exact .inl ⟨rfl,rfl⟩
 |cons a r=>exact .inr ⟨0,rfl,rfl⟩
theorem ahe(a b:Sl Int)(x y:Int)(ha:(els a).length<1000000000)(hb:(els b).length<4611686018427387904)(hs:dw (els b)):
    ∃d,(∀H,av (call pg) 155 [.p (.agg [.int .i64 x,af a]),.p (.agg [.int .i64 y,af b])] H=some (.val d,H))∧N6 d x (ll ((els a).filter fun t=>!(els b).contains t)):=by
 have ae:=rf (bd IF 0)
 conv at ae=>rhs;reduce
 have hf:=rf IF
 conv at hf=>rhs;reduce
 rw[←ae] at hf;have key:=jd (c:=call pg) (G:=pg.G) (keep:=[2,3,4,5,6]) (b:=bd IF 0) (fun i=>[(2,.box 0 0),(3,.box 1 0),(4,.box 2 0),(5,.box 3 0),(6,.p (.int .i64 ((i:Nat):Int)))])
  (fun i=>⟨[[.p (.int .i64 x),.p (af a)],[.p (.int .i64 y),.p (af b)],[.p (.int .i64 0),.p .aI],[.p (.int .i64 x),nW 3 1 ((((els a).take i).filter fun t=>!(els b).contains t).map (PD.int .i64))]],xj ((((els a).take i).filter fun t=>!(els b).contains t).map (PD.int .i64))⟩) (els a).length (fun _=>True)
  (fun o e H=>o= .exit 0∧e.get 4= .box 2 0∧e.get 5= .box 3 0∧∃tk,H=⟨[[.p (.int .i64 x),.p (af a)],[.p (.int .i64 y),.p (af b)],[.p (.int .i64 0),.p .aI],[.p (.int .i64 x),nW 3 1 (((els a).filter fun t=>!(els b).contains t).map (PD.int .i64))]],tk⟩) trivial ?_ ?_
 ·obtain⟨o,e,H,hx,rfl,g4,g5,tk,rfl⟩:=bJ key;generalize (els a).filter (fun t=>!(els b).contains t)=L at *;simp at hx;rcases N7 L 3 with⟨-,hg⟩ |⟨t,hg,hk⟩
  ·refine⟨.p (.agg [.int .i64 x,af (ll L)]),aG (aa:=[_,_]) hf rfl rfl rfl ?_,.inl rfl⟩;clear hf ae;rw[hg] at hx;simp[hx,g4,g5]
  ·refine⟨.agg [.p (.int .i64 x),.p (af (ll L))],aG (aa:=[_,_]) hf rfl rfl rfl ?_,.inr rfl⟩;clear hf ae;rw[hg] at hx;simp[hx,g4,g5,hk]
 ·intro i hi _;obtain⟨r,c1,d1⟩:=ahd b y (els a)[i] hb hs;rw[sW hi,YU,vW];have hlen:((((els a).take i).filter fun t=>!(els b).contains t).map (PD.int .i64)).length<1000000000:=by
   rw[cx];have h1:=F5 (fun t=>!(els b).contains t) ((els a).take i);have h2:((els a).take i).length≤(els a).length:=amM ..;omega
  have cG:=fun bx=>N5 (e:=3) (sz:=1) (by':=8) (x:=.int .i64 (els a)[i]) (bx:=bx) hlen (by omega);generalize hL:(((els a).take i).filter fun t=>!(els b).contains t).map (PD.int .i64)=L at *;rw[ae];clear hf ae;cases r with
  |true=>
   have hm:els b |>.contains (els a)[i]:=by simpa using d1.1 rfl
   simp only[xK,hm,Pw,ob,if_false,FY,mF,lA];simp[aR,cK hi,hi,c1,bw (k:=i) (by omega)]
  |false=>
   have hm:(els b).contains (els a)[i]=false:=by
    rw[FR];intro h;have:=d1.2 (by simpa using h);cases this
   simp only[xK,hm,Bool.not_false,if_true,FY,dA,mF];simp[-fj,aR,cK hi,hi,c1,cG,VE,bw (k:=i) (by omega)]
 ·intro _;rw[oo];rw[ae];clear hf ae;simp[aR]
def nX:List PD→List PD→Int→PD
 |a::r,v::w,t=>if fO (.int .i64 t) a then v else nX r w t
 |_,_,_=>.int .i64 0
theorem VF(t:Int):∀(ks vs:List PD),vs.length=ks.length→(match eO (.int .i64 t) ks with |some j=>vs[j]? |none=>some (.int .i64 0))=some (nX ks vs t)
 |[],vs,_=>by cases vs<;>rfl
 |a::r,[],h=>by cases h
 |a::r,v::w,h=>by
  have ih:=VF t r w (by simpa using h);simp only[eO,nX];by_cases g:fO (.int .i64 t) a=true
  ·simp[g]
  ·simp only[g,ob,if_false];cases hf:eO (.int .i64 t) r with
   |none=>rw[hf] at ih;simpa using ih
   |some j=>rw[hf] at ih;simpa using ih
theorem VG(t u:Int):fO (.int .i64 t) (.int .i64 u)=(t==u):=rfl
theorem VH{t:Int}{v:PD}(u:Int):∀(n:Nat) (ks vs:List PD),vs.length=ks.length→eO (.int .i64 t) ks=none→nX (dI n (.int .i64 t) ks) (dI n v vs) u=if u=t then v else nX ks vs u
 | 0,ks,vs,_,_=>by simp[dI,nX,VG]
 |n+1,[],vs,h,_=>by
  have :vs=[]:=tY (by simpa using h);subst this;simp[dI,nX,VG]
 |n+1,a::r,[],h,_=>by cases h
 |n+1,a::r,b::w,h,hn=>by
  have hk:fO (.int .i64 t) a=false:=by
   rw[FR];intro g;simp[eO,g] at hn
  have hr:eO (.int .i64 t) r=none:=by simpa[eO,hk] using hn
  have ih:=VH (v:=v) u n r w (by simpa using h) hr;simp only[dI,nX,ih];by_cases g:u=t
  ·subst g;simp[hk]
  ·simp[g]
theorem ahf{t u:Int}{a:PD}(h:fO (.int .i64 t) a=true):fO (.int .i64 u) a=(u==t):=by
 cases a<;>simp_all[fO]
theorem VI{t:Int}{v:PD}(u:Int):∀(ks vs:List PD) (j:Nat),vs.length=ks.length→eO (.int .i64 t) ks=some j→nX ks (vs.set j v) u=if u=t then v else nX ks vs u
 |[],vs,j,_,hj=>by cases hj
 |a::r,[],j,h,_=>by cases h
 |a::r,b::w,j,h,hj=>by
  by_cases g:fO (.int .i64 t) a=true
  ·simp[eO,g] at hj;subst hj;simp only[PJ,nX,ahf g];by_cases gu:u=t<;>simp[gu]
  ·have g':fO (.int .i64 t) a=false:=by simpa using g
   simp only[eO,g',ob,if_false] at hj;cases hf:eO (.int .i64 t) r with
   |none=>rw[hf] at hj;cases hj
   |some i=>
    rw[hf] at hj;cases hj;have ih:=VI (v:=v) u r w i (by simpa using h) hf;simp only[PI,nX,ih];by_cases gu:u=t
    ·subst gu;simp[g']
    ·simp[gu]
theorem VJ{α β:Type}(f:α→β)(x:α):∀(n:Nat) (l:List α),dI n (f x) (l.map f)=(dI n x l).map f
 | 0,_=>rfl
 |_+1,[]=>rfl
 |n+1,a::r=>by simp[dI,VJ f x n r]
theorem qi{α:Type}(x:α):∀(n:Nat) (l:List α),(dI n x l).length=l.length+1
 | 0,_=>rfl
 |_+1,[]=>rfl
 |n+1,a::r=>by simp[dI,qi x n r]
theorem VK{i:Nat}{H:Hp}{ks vs:List PD}(hb:H.bx[i]? =some [.bB 13 ks (vs.map .p)])(hl:vs.length=ks.length)(t:Int):v8 13 (.int .i64 0) false (.bU i) (.p (.int .i64 t)) H=some (.p (nX ks vs t)):=by
 have h:=VF t ks vs hl;simp only[v8,hb,dD,mL];cases hf:eO (.int .i64 t) ks with
 |none=>rw[hf] at h;simp at h;simp[h]
 |some j=>rw[hf] at h;simp at h;simp[h]
theorem ahg{i:Nat}{H:Hp}{ks vs:List PD}(hb:H.bx[i]? =some [.bB 13 ks (vs.map .p)])(hl:vs.length=ks.length)(t:Int)(v:PD):
    ∃oG cv,CX 13 (.bU i) (.p (.int .i64 t)) (.p v) H=some (.undef,{H with bx:=H.bx.set i [.bB 13 oG (cv.map .p)]})∧cv.length=oG.length∧∀u,nX oG cv u=if u=t then v else nX ks vs u:=by
 cases hf:eO (.int .i64 t) ks with
 |none=>
  refine⟨_,_,?_,?_,fun u=>VH u (iv (cX (.int .i64 t)) ks) ks vs hl hf⟩
  ·simp only[CX,qK,hb,dD,mL,hf,←VJ];simp[hl]
  ·rw[qi,qi,hl]
 |some j=>
  refine⟨ks,vs.set j v,?_,by simpa using hl,fun u=>VI u ks vs j hl hf⟩;simp only[CX,hb,dD,mL,hf];simp[List.map_set]
structure xk (l:List Int) (ks vs:List PD):Prop where
 len:vs.length=ks.length
 val:∀t,∃c:Int,nX ks vs t= .int .i64 c∧0≤c∧c≤l.length∧(0<c↔t∈l)
theorem xk.nil:xk [] [] []:=⟨rfl,fun t=>⟨0,rfl,by omega,by simp,by simp⟩⟩
theorem ahh(x:Int):∀H,av (call pg) 234 [.p (.int .i64 x)] H=some (.val (.p (.int .i64 x)),H):=by
 have hf:=rf T9
 conv at hf=>rhs;reduce
 refine aG (aa:=[_]) hf rfl rfl rfl ?_;clear hf;simp
theorem ahi(b:Sl Int)(y:Int)(hb:(els b).length<4611686018427387904):
    ∃ks vs,call pg 233 [.p (.agg [.int .i64 y,af b]),.fn 234 [] []] ⟨[],[]⟩=some (.val (.bU 1),⟨[[.p (.int .i64 y),.p (af b)],[.bB 13 ks (vs.map .p)]],[]⟩)∧xk (els b) ks vs:=by
 have key:=eY (c:=call pg) (G:=pg.G) (σ:=Nat×List PD×List PD) (keep:=[1,5,10,11,12]) (b:=bd Bk 0)
  (fun s=>[(1,.fn 234 [] []),(5,.bU 1),(10,.p (af b)),(11,.p (.int .i64 (((els b).length:Nat):Int))),(12,.p (.int .i64 ((s.1:Nat):Int)))]) (fun s=>⟨[[.p (.int .i64 y),.p (af b)],[.bB 13 s.2.1 (s.2.2.map .p)]],[]⟩)
  (fun s=>(els b).length-s.1) (fun s=>s.1≤(els b).length∧xk ((els b).take s.1) s.2.1 s.2.2)
  (fun o e H=>o= .exit 0∧e.get 5= .bU 1∧∃ks vs,H=⟨[[.p (.int .i64 y),.p (af b)],[.bB 13 ks (vs.map .p)]],[]⟩∧xk (els b) ks vs) ?_ (0,[],[]) ⟨b9 _,xk.nil⟩
 ·obtain⟨o,e,H,hx,rfl,g5,ks,vs,rfl,hc⟩:=bJ key;refine⟨ks,vs,?_,hc⟩;have ae:=rf (bd Bk 0)
  conv at ae=>rhs;reduce
  have hf:=rf Bk
  conv at hf=>rhs;reduce
  rw[←ae] at hf;refine Kw rfl hf rfl rfl (r:=(.val (.bU 1),⟨[[.p (.int .i64 y),.p (af b)],[.bB 13 ks (vs.map .p)]],[]⟩)) ?_ (by simp[rM,aP,bt.aH,D.aH,bt.ren,D.ren,below]);clear hf ae;simp at hx;simp[aR,hx,g5]
 ·rintro⟨i,ks,vs⟩ ⟨hi,hc⟩;dsimp only at hi hc⊢;rcases iP i (els b).length with ah |kZ
  ·obtain⟨c,e1,e2,e3,e4⟩:=hc.val (els b)[i];have VL:c≤(i:Int):=by
    rw[pb,ue hi] at e3;exact e3
   have hw:IntKind.i64.wrap (c+1)=c+1:=wrap64 (by omega) (by omega);obtain⟨oG,cv,m1,m2,m3⟩:=ahg (i:=1) (H:=⟨[[.p (.int .i64 y),.p (af b)],[.bB 13 ks (vs.map .p)]],[]⟩) rfl hc.len (els b)[i] (.int .i64 (c+1));have m0:=VK (i:=1) (H:=⟨[[.p (.int .i64 y),.p (af b)],[.bB 13 ks (vs.map .p)]],[]⟩) rfl hc.len (els b)[i];rw[e1] at m0;simp only[PI,PJ] at m1;have aM:=cK ah;refine aX (Q:=nx [1,5,10,11,12] [(1,.fn 234 [] []),(5,.bU 1),(10,.p (af b)),(11,.p (.int .i64 (((els b).length:Nat):Int))),(12,.p (.int .i64 ((i+1 :Nat):Int)))] ⟨[[.p (.int .i64 y),.p (af b)],[.bB 13 oG (cv.map .p)]],[]⟩) ?_ fun o e H hh=>.inl ⟨(i+1,oG,cv),⟨ah,m2,fun t=>?_⟩,by dsimp only;omega,hh⟩
   ·generalize (els b)[i]=x at *
    conv in bd Bk 0=>reduce
    simp[aM,ah,ahh,m0,m1,hw,iM,bw (k:=i) (by omega)]
   ·dsimp only;have hL:((els b).take i).length=i:=by rw[pb,ue hi]
    rw[m3,sW ah];obtain⟨d,f1,f2,f3,f4⟩:=hc.val t;generalize (els b).take i=L at *;rw[iq,cW,mH,xL];by_cases ht:t=(els b)[i]
    ·rw[if_pos ht];exact⟨c+1,rfl,by omega,by omega,iff_of_true (by omega) (.inr ht)⟩
    ·rw[if_neg ht];exact⟨d,f1,f2,by omega,f4.trans ⟨.inl,fun h=>h.elim id fun h=>absurd h ht⟩⟩
  ·have fk:i=(els b).length:=by omega
   subst fk;rw[oo] at hc;refine aX (Q:=fun o e H=>o= .exit 0∧e.get 5= .bU 1∧H=⟨[[.p (.int .i64 y),.p (af b)],[.bB 13 ks (vs.map .p)]],[]⟩) ?_ fun o e H hh=>.inr ?_
   ·skip
    conv in bd Bk 0=>reduce
    simp[iM]
   ·obtain⟨rfl,h2,rfl⟩:=hh;exact⟨by simp,rfl,h2,ks,vs,rfl,hc⟩
theorem ahj{b:List Int}{ks vs:List PD}(hc:xk b ks vs)(x:Int)(tk:List Nat):
    av (call pg) 236 [.p (.int .i64 x),.box 0 0] ⟨[[.bU 1],[.bB 13 ks (vs.map .p)]],tk⟩=some (.val (.p (.bool (!b.contains x))),⟨[[.bU 1],[.bB 13 ks (vs.map .p)]],tk⟩):=by
 obtain⟨c,e1,e2,e3,e4⟩:=hc.val x;have m0:=VK (i:=1) (H:=⟨[[.bU 1],[.bB 13 ks (vs.map .p)]],[]⟩) rfl hc.len x;rw[e1] at m0;have h:call pg 236 [.p (.int .i64 x),.box 0 0] ⟨[[.bU 1],[.bB 13 ks (vs.map .p)]],[]⟩=some (.val (.p (.bool (!b.contains x))),⟨[[.bU 1],[.bB 13 ks (vs.map .p)]],[]⟩):=by
  have hf:=rf Ua
  conv at hf=>rhs;reduce
  refine Gl rfl hf rfl rfl ?_;clear hf;by_cases hx:x∈b
  ·have h1:b.contains x=true:=by simpa using hx
   have h2:0<c:=e4.2 hx;have h3:¬c=0:=by omega
   simp[m0,hx,h3]
  ·have h1:b.contains x=false:=by simpa using hx
   have h2:¬0<c:=fun h=>hx (e4.1 h);have h3:c=0:=by omega
   simp[m0,hx,h3]
 have hr:∀f g,D.ba f g (vs.map D.p)=some (vs.map .p):=fun f g=>iM f g vs;simp[av,reach,ef,fX,ins,Vs.nodupB,idx,D.aD,D.bz,D.refs,D.cJ,D.ba,D.ren,oO,sC,hr,aP,h,back,gM,bt.ren,cq]
@[simp] theorem apM:PD.qI.one=true:=rfl
@[simp] theorem ad0(i:Nat):(D.bU i).one=true:=rfl
abbrev lS(a b:List Int):List Int:=a.filter fun t=>!b.contains t
theorem ahk{b:List Int}{ks vs:List PD}(hc:xk b ks vs)(a:Sl Int)(ha:(els a).length<1000000000):
    ∃d tk,call pg 235 [.p (af a),.fn 236 [] [.box 0 0]] ⟨[[.bU 1],[.bB 13 ks (vs.map .p)]],[]⟩=some (.val d,⟨[[.bU 1],[.bB 13 ks (vs.map .p)]],tk⟩)∧((d= .p (af (ll (lS (els a) b))))∨∃t,d= .bk t 3 1 ((lS (els a) b).map (PD.int .i64))∧af (ll (lS (els a) b))= .slice 1 ((lS (els a) b).map (PD.int .i64))):=by
 have EY:∀f g,D.ba f g (vs.map D.p)=some (vs.map .p):=fun f g=>iM f g vs;have key:=jd (c:=call pg) (G:=pg.G) (keep:=[1,5,8,9,10]) (b:=bd wT 0)
  (fun i=>[(1,.fn 236 [] [.box 0 0]),(5,nW 3 1 ((lS ((els a).take i) b).map (PD.int .i64))),(8,.p (af a)),(9,.p (.int .i64 (((els a).length:Nat):Int))),(10,.p (.int .i64 ((i:Nat):Int)))])
  (fun i=>⟨[[.bU 1],[.bB 13 ks (vs.map .p)]],xj ((lS ((els a).take i) b).map (PD.int .i64))⟩) (els a).length (fun _=>True)
  (fun o e H=>o= .exit 0∧e.get 5=nW 3 1 ((lS (els a) b).map (PD.int .i64))∧∃tk,H=⟨[[.bU 1],[.bB 13 ks (vs.map .p)]],tk⟩) trivial ?_ ?_
 ·obtain⟨o,e,H,hx,rfl,g5,tk,rfl⟩:=bJ key;have hs:∀r:D,r.aH 2 ⟨[[.bU 1],[.bB 13 ks (vs.map .p)]],tk⟩ 8=r→r.ren (below 2) some=some r→rM 2 (.val r,⟨[[.bU 1],[.bB 13 ks (vs.map .p)]],tk⟩)=(.val r,⟨[[.bU 1],[.bB 13 ks (vs.map .p)]],tk⟩):=by
   intro r h1 h2;simp[rM,aP,pk,D.aD,D.refs,oO,D.ba,D.ren,EY,below,bt.aH,bt.ren,h1,h2]
  simp at hx;rcases N7 (lS (els a) b) 3 with⟨-,hg⟩ |⟨t,hg,hk⟩
  ·refine⟨_,tk,?_,.inl rfl⟩;rw[hg] at g5;have ae:=rf (bd wT 0)
   conv at ae=>rhs;reduce
   have hf:=rf wT
   conv at hf=>rhs;reduce
   rw[←ae] at hf;refine Kw rfl hf rfl rfl (r:=(.val (.p (af (ll (lS (els a) b)))),⟨[[.bU 1],[.bB 13 ks (vs.map .p)]],tk⟩)) ?_ (hs _ (lQ ..) rfl);clear hf ae;simp[aR,hx,g5]
  ·refine⟨_,tk,?_,.inr ⟨t,rfl,hk⟩⟩;rw[hg] at g5;have ae:=rf (bd wT 0)
   conv at ae=>rhs;reduce
   have hf:=rf wT
   conv at hf=>rhs;reduce
   rw[←ae] at hf;refine Kw rfl hf rfl rfl (r:=(.val (.bk t 3 1 ((lS (els a) b).map (PD.int .i64))),⟨[[.bU 1],[.bB 13 ks (vs.map .p)]],tk⟩)) ?_ (hs _ (Vh ..) rfl);clear hf ae;simp[aR,hx,g5]
 ·intro i hi _;have c1:=fun tk=>ahj hc (els a)[i] tk;rw[sW hi];unfold lS;rw[YU,vW];have hlen:((((els a).take i).filter fun t=>!b.contains t).map (PD.int .i64)).length<1000000000:=by
   rw[cx];have h1:=F5 (fun t=>!b.contains t) ((els a).take i);have h2:((els a).take i).length≤(els a).length:=amM ..;omega
  have cG:=fun bx=>N5 (e:=3) (sz:=1) (by':=8) (x:=.int .i64 (els a)[i]) (bx:=bx) hlen (by omega);generalize hL:(((els a).take i).filter fun t=>!b.contains t).map (PD.int .i64)=L at *
  conv in bd wT 0=>reduce
  cases hm:b.contains (els a)[i] with
  |true=>
   rw[hm] at c1;simp only[xK,hm,Pw,ob,if_false,FY,mF,lA];simp[cK hi,hi,c1,bw (k:=i) (by omega)]
  |false=>
   rw[hm] at c1;simp only[xK,hm,Bool.not_false,if_true,FY,dA,mF];simp[-fj,cK hi,hi,c1,cG,bw (k:=i) (by omega)]
 ·intro _;rw[oo]
  conv in bd wT 0=>reduce
  simp[]
theorem ahl(a b:Sl Int)(x y:Int)(ha:(els a).length<1000000000)(hb:(els b).length<4611686018427387904):
    ∀H,av (call pg) 177 [.p (.agg [.int .i64 x,af a]),.p (.agg [.int .i64 y,af b])] H=some (.val (.p (.agg [.int .i64 x,af (ll (lS (els a) (els b)))])),H):=by
 obtain⟨ks,vs,c1,hc⟩:=ahi b y hb;obtain⟨d,tk,c2,hd⟩:=ahk hc a ha;have EY:∀f g,D.ba f g (vs.map D.p)=some (vs.map .p):=fun f g=>iM f g vs;have e1:∀u v w,av (call pg) 233 [.p (.agg [.int .i64 y,af b]),.fn 234 [] []] ⟨[u,v,w],[]⟩=some (.val (.bU 4),⟨[u,v,w,[.p (.int .i64 y),.p (af b)],[.bB 13 ks (vs.map .p)]],[]⟩):=fun u v w=>by
  simp[av,reach,ef,fX,ins,Vs.nodupB,idx,D.aD,D.bz,D.refs,D.cJ,D.ba,D.ren,EY,aP,c1,back,gM,bt.ren,cq]
 have e2:∀u v w z,av (call pg) 235 [.p (af a),.fn 236 [] [.box 5 0]] ⟨[u,v,w,z,[.bB 13 ks (vs.map .p)],[.bU 4]],[]⟩=some (.val (.p (af (ll (lS (els a) (els b))))),⟨[u,v,w,z,[.bB 13 ks (vs.map .p)],[.bU 4]],[]⟩):=fun u v w z=>by
  rcases hd with rfl |⟨t,rfl,hk⟩
  ·simp[av,reach,ef,fX,ins,Vs.nodupB,idx,D.aD,D.bz,D.refs,D.cJ,D.ba,D.ren,oO,sC,EY,aP,c2,back,gM,bt.ren,cq]
  ·simp[av,reach,ef,fX,ins,Vs.nodupB,idx,D.aD,D.bz,D.refs,D.cJ,D.ba,D.ren,oO,sC,EY,aP,c2,back,gM,bt.ren,cq,hk]
 have hf:=rf T6
 conv at hf=>rhs;reduce
 refine aG (aa:=[_,_]) hf rfl rfl rfl ?_;clear hf;simp[e1,e2,jO,reach,ef,ins,D.aD,D.refs,oO]
theorem N8(a b:Sl Int)(x y:Int)(ha:(els a).length<1000000000)(hb:(els b).length<4611686018427387904):
    ∃r:Bool,(∀H,av (call pg) 115 [.p (.agg [.int .i64 x,af a]),.p (.agg [.int .i64 y,af b])] H=some (.val (.p (.bool r)),H))∧(r=true↔∀t∈els a,t∈els b):=by
 have c1:=ahl a b x y ha hb;refine⟨decide ((lS (els a) (els b)).length=0),?_,?_⟩
 ·skip
  have hf:=rf TU
  conv at hf=>rhs;reduce
  refine aG (aa:=[_,_]) hf rfl rfl rfl ?_;clear hf;generalize lS (els a) (els b)=L at *;cases L<;>simp[aR,c1,tT];omega
 ·rw[decide_eq_true_eq,Kb,List.filter_eq_nil_iff];simp
def mr{α:Type}(l:List α):Sl α:=match l with |[]=>.nil |_::_=>.of l
theorem ahm{α:Type}(l:List α):els (mr l)=l:=by cases l<;>rfl
def kR(p:Int×Int):PD:=.agg [.int .i64 p.1,.int .i64 p.2]
def Ch(s:Sl (Int×Int)):PD:=fD 2 (s.map kR)
@[simp] theorem apN(a:Sl (Int×Int)):(Ch a).one=true:=rp 2 _
def vF(i:Nat)(b:Bn)(ts:List Int):List (Int×Int):=(ts.filter fun t=>!(els b.lo.tu).contains t).map fun t=>((i:Int),t)
def cB:Nat→List Bn→List (Int×Int)
 |_,[]=>[]
 |i,b::r=>vF i b (els b.up.tu)++cB (i+1) r
theorem VM:∀(l:List Bn) (i:Nat) (b:Bn),cB i (l++[b])=cB i l++vF (i+l.length) b (els b.up.tu)
 |[],i,b=>by simp[cB]
 |a::l,i,b=>by
  simp only[jN,cB,VM l (i+1) b,oc,dZ];rw[show i+1+l.length=i+(l.length+1) by omega]
theorem ahn(i:Nat)(b:Bn)(ts:List Int):(vF i b ts).length≤ts.length:=by
 unfold vF;rw[cx];exact F5 _ _
theorem Ci:∀(l:List Bn) (i m:Nat),(∀b∈l,(els b.up.tu).length≤m)→(cB i l).length≤l.length*m
 |[],_,_,_=>by simp[cB]
 |b::l,i,m,h=>by
  have h1:=ahn i b (els b.up.tu);have h2:=h b (by simp);have h3:=Ci l (i+1) m fun x hx=>h x (by simp[hx]);simp only[cB,iq,dZ,fM,og];omega
def dy(s:Sl Bool):PD:=fD 1 (s.map PD.bool)
theorem pP(s:Sl Bool):fg 1 (.p (dy s))=some (els s).length:=sA 1 _ s
theorem zJ{s:Sl Bool}{k:Nat}(h:k<(els s).length):eN none 1 (.p (dy s)) (k:Int)=some (.ro [.bool (els s)[k]] 0):=sB h
@[simp] theorem apO(a:Sl Bool):(dy a).one=true:=rp 1 _
theorem Jj{ea eb:St→Option (Out×St)}{env:Env}{ps:List Nat}{kb:Hp→Bool}(I:Nat→Hp→Prop):
    ∀(xs:List (List D)) (n:Nat) (H:Hp),I n H→
    (∀i x H,xs[i]? =some x→I (n+i) H→x.length=ps.length∧post (fun o e H1=>o= .norm∧post (fun o _ H2=>o= .norm∧kb H2=true∧I (n+i+1) H2) (eb ⟨e,H1⟩)) (ea ⟨mN env ps x,H⟩))→
    ∃H',kV ea eb env ps kb xs H=some (.norm,⟨env,H'⟩)∧I (n+xs.length) H'
 |[],n,H,h0,_=>⟨H,rfl,h0⟩
 |x::xs,n,H,h0,h=>by
  obtain⟨hl,h1⟩:=h 0 x H rfl h0;obtain⟨o,e,H1,hx,rfl,h2⟩:=bJ h1;obtain⟨o,e2,H2,qY,rfl,hk,h3⟩:=bJ h2;obtain⟨H',h4,h5⟩:=Jj I xs (n+1) H2 h3 fun i y H hy hI=>by
   have:=h (i+1) y H hy (by rw[show n+(i+1)=n+1+i by omega];exact hI);rw[show n+(i+1)+1=n+1+i+1 by omega] at this;exact this
  refine⟨H',?_,by rw[dZ,show n+(xs.length+1)=n+1+xs.length by omega];exact h5⟩;simp only[kV,hl,ne_eq,not_true_eq_false,if_false,hx,qY,hk,if_true,h4]
theorem Jk{c:bC}{G:Nat→Option (List PD)}{Q:Out→Env→Hp→Prop}{xs:List (List D)}{ft b rest:SC}{env:Env}{ps:List Nat}{kb:Hp→Bool}{H:Hp}{kk:Nat}(I:Nat→Hp→Prop)(h0:I 0 H)
    (h:∀i x H,xs[i]? =some x→I i H→x.length=ps.length∧post (fun o e H1=>o= .norm∧post (fun o _ H2=>o= .norm∧kb H2=true∧I (i+1) H2) (ay c G bf b ⟨e,H1⟩)) (ay c G bf ft ⟨mN env ps x,H⟩))
    (hq:∀H',I xs.length H'→post Q (sw c G (some (.norm,⟨env,H'⟩)) rest)):post Q (sw c G (sy kk (yM c G (some xs) ft b env ps kb H)) rest):=by
 obtain⟨H',h1,h2⟩:=Jj (kb:=kb) I xs 0 H h0 fun i x H hx hI=>by simpa using h i x H hx (by simpa using hI)
 rw[eS] at h2;have h3:yM c G (some xs) ft b env ps kb H=some (.norm,⟨env,H'⟩):=h1;rw[h3];exact hq H' h2
theorem qX(H:Hp)(n:Nat):reach H n []=[]:=by cases n<;>simp[reach,ef]
theorem xl(H H':Hp):Gd [] H H'=true:=rfl
def pQ(sz:Nat)(x:PD):Prop:=(sz=1∧x.cells=[x])∨(sz≠1∧∃cs,x= .agg cs∧cs.length=sz)
theorem pQ.len{sz:Nat}{x:PD}(h:pQ sz x):x.cells.length=sz:=by
 rcases h with⟨rfl,h⟩ |⟨_,cs,rfl,h⟩
 ·rw[h];rfl
 ·exact h
theorem N9{sz:Nat}{es:List PD}(h:∀x∈es,pQ sz x):(es.flatMap PD.cells).length=es.length*sz:=by
 induction es with
 |nil=>simp
 |cons a r ih=>rw[ub,iq,ih fun x hx=>h x (jD _ hx),(h a pa).len,dZ,fM];omega
theorem Cj{sz:Nat}:∀{es:List PD},(∀x∈es,pQ sz x)→chunks sz es.length (es.flatMap PD.cells)=es
 |[],_=>rfl
 |a::r,h=>by
  have ih:=Cj (es:=r) fun x hx=>h x (jD _ hx);rcases h a pa with⟨rfl,h1⟩ |⟨hs,cs,rfl,h1⟩
  ·rw[ub,h1,dZ];simp[chunks,ih]
  ·rw[ub,dZ];show chunks sz (r.length+1) (cs++r.flatMap PD.cells)=_;simp only[chunks];rw[YM (by omega),Km (by omega),jm,ih,PK (by omega),jC (by omega)];congr 1
   split
   ·exact absurd rfl hs
   ·rfl
def rowP(sz:Nat)(es:List PD):PD:=match es with |[]=>.aI |_::_=>.slice sz es
def Gr(e sz base:Nat)(es:List PD)(d:D)(rest:List (List D)):Prop:=
 (∀cs∈rest,∃ys:List PD,cs=ys.map D.p)∧(∀x∈es,pQ sz x)∧((d= .p .aI∧es=[])∨∃i,d= .aB (base+i) e es.length sz∧rest[i]? =some ((es.flatMap PD.cells).map D.p)∧es≠[])
theorem Gr.nil(e sz base:Nat):Gr e sz base [] (.p .aI) []:=⟨by simp,by simp,.inl ⟨rfl,rfl⟩⟩
theorem Gr.app{e sz base by':Nat}{es:List PD}{d:D}{rest:List (List D)}(h:Gr e sz base es d rest)(hn:es.length<1000000)(hb:by'≤1000)(hs:0<sz)(bs:List (List D))(eg:bs.length=base)(k:List Nat){x:PD}(hx:pQ sz x):
    ∃d' gw,gL e sz by' d 1 (x.cells.map .p) ⟨bs++rest,k⟩=some (d',⟨bs++gw,k⟩)∧Gr e sz base (es++[x]) d' gw:=by
 have hr:roomy (es.length+1) by'=true:=by
  have :(es.length+1)*by'≤1000000*1000:=ug (by omega) hb;simp only[roomy,bQ,decide_eq_true_eq];omega
 obtain⟨cg,hE,h⟩:=h;have VN:∀y∈es++[x],pQ sz y:=fun y hy=>by
  rcases cW.1 hy with h |h
  ·exact hE y h
  ·rw[mH.1 h];exact hx
 have oP:(x.cells.map D.p).length=sz:=by rw[cx];exact hx.len
 have EZ:∀ys:List PD,∀r:List (List D),(∀cs∈r,∃ys:List PD,cs=ys.map D.p)→∀cs∈r++[ys.map D.p],∃ys:List PD,cs=ys.map D.p:=fun ys r hr cs ak=>by
  rcases cW.1 ak with h |h
  ·exact hr cs h
  ·exact⟨ys,mH.1 h⟩
 rcases h with⟨rfl,rfl⟩ |⟨i,rfl,hi,aq⟩
 ·refine⟨.aB (base+rest.length) e 1 sz,rest++[x.cells.map .p],?_,EZ _ _ cg,VN,.inr ⟨rest.length,rfl,by simp,by simp⟩⟩;have iC:roomy 1 by'=true:=by simpa using hr
  simp[gL,mK,iC,eg]
 ·have fC:i<rest.length:=(az.1 hi).1;refine⟨.aB (base+rest.length) e (es.length+1) sz,rest.set i []++[((es++[x]).flatMap PD.cells).map D.p],?_,EZ _ _ fun cs ak=>?_,VN,.inr ⟨rest.length,by simp,by simp,by simp⟩⟩
  ·have dr:=N9 hE;have lJ:0<es.length*sz:=Nat.mul_pos (xG.2 aq) hs;have h1:(bs++rest)[base+i]? =some ((es.flatMap PD.cells).map D.p):=by
    rw[eL (by omega),eg,vU];exact hi
   have h2:¬(es.length+1)*sz≤es.length*sz:=by rw[fM];omega
   have h3:(es.flatMap PD.cells).map D.p≠[]:=fun h=>by
    have:=congrArg oq h;rw[cx,dr] at this;simp at this;omega
   have h4:rI (es.length*sz) ((es.flatMap PD.cells).map D.p)=(es.flatMap PD.cells).map D.p:=jC (by rw[cx,dr];exact aV _);have h5:(bs++rest).set (base+i) []=bs++rest.set i []:=by
    rw[F6 _ _ (by omega),eg,vU]
   have h6:((es.flatMap PD.cells).map D.p).length=es.length*sz:=by rw[cx,dr]
   simp only[gL,h1,h3,h4,h5,h6,hr,yP,and_self,if_true,if_false,aV,ne_eq,not_false_eq_true,h2,Nat.succ_ne_zero];simp[eg]
  ·rcases Kd ak with h |rfl
   ·exact cg cs h
   ·exact⟨[],rfl⟩
def nY(sp:Sp):Prop:=∀s∈els sp.so,s.nm.length≤140737488355000
theorem aho(sp:Sp)(ok:nj sp)(hn:nY sp)(nm:List UInt8):
    ∃(ar:Int) (r:Bt) (k:Nat),(∀H,av (call pg) 186 [.p (.agg sp.cl),.p (.str nm)] H=some (.val (.bA [.p (gH ar r),.p (.int .i64 ((k:Nat):Int))]),H))∧(1≤k→1≤ar∧ar≤3):=by
 have N3:=eY (c:=call pg) (G:=pg.G) (keep:=[1,2,4,6,7,8]) (b:=bd wV 0) (σ:=Nat×Int×Bt×Nat) (fun s=>[(1,.p (.str nm)),(2,.box 0 0),(4,.box 1 0),(6,.box 2 0),(7,.p (.int .i64 ((s.2.2.2:Nat):Int))),(8,.p (.int .i64 ((s.1:Nat):Int)))]) (fun s=>⟨[sp.cl.map .p,(aj 0 Bt.e).map D.p,(aj s.2.1 s.2.2.1).map D.p],[]⟩) (fun s=>(els sp.fi).length-s.1) (fun s=>s.1≤(els sp.fi).length∧s.2.2.2≤s.1∧(1≤s.2.2.2→1≤s.2.1∧s.2.1≤3))
  (fun o e H=>o= .exit 0∧e.get 1= .p (.str nm)∧e.get 2= .box 0 0∧e.get 4= .box 1 0∧e.get 6= .box 2 0∧∃(ar:Int) (r:Bt) (k:Nat),e.get 7= .p (.int .i64 ((k:Nat):Int))∧k≤6∧(1≤k→1≤ar∧ar≤3)∧H=⟨[sp.cl.map .p,(aj 0 Bt.e).map D.p,(aj ar r).map D.p],[]⟩)
  (by
   rintro⟨i,ar,x,k⟩ ⟨hi,hk,ig⟩;dsimp only at hi hk ig⊢;have hf6:=ok.nf
   conv in bd wV 0=>reduce
   by_cases h:i<(els sp.fi).length
   ·have aM:=lR h;have fo:=ok.fd _ (bO h);obtain⟨u,hu⟩:=Cb (agQ (els sp.fi)[i].so) (by have:=fo.2.2;omega);have k1:=bw (k:=i) (by omega);have k2:=bw (k:=k) (by omega);by_cases hc:(els sp.fi)[i].nm=nm
    ·refine aX (Q:=nx [1,2,4,6,7,8] [(1,.p (.str nm)),(2,.box 0 0),(4,.box 1 0),(6,.box 2 0),(7,.p (.int .i64 ((k+1 :Nat):Int))),(8,.p (.int .i64 ((i+1 :Nat):Int)))] ⟨[sp.cl.map .p,(aj 0 Bt.e).map D.p,(aj ((els (els sp.fi)[i].so).length:Int) u).map D.p],[]⟩) ?_ fun o e H hh=>.inl ⟨(i+1,((els (els sp.fi)[i].so).length:Int),u,k+1),⟨by dsimp only;omega,by dsimp only;omega,fun _=>⟨amN.2 fo.2.1,amN.2 fo.2.2⟩⟩,by dsimp only;omega,hh⟩;simp[-aE,-aO,cz,cn,dg,h,aM,hc,hu,k1,k2]
    ·refine aX (Q:=nx [1,2,4,6,7,8] [(1,.p (.str nm)),(2,.box 0 0),(4,.box 1 0),(6,.box 2 0),(7,.p (.int .i64 ((k:Nat):Int))),(8,.p (.int .i64 ((i+1 :Nat):Int)))] ⟨[sp.cl.map .p,(aj 0 Bt.e).map D.p,(aj ar x).map D.p],[]⟩) ?_ fun o e H hh=>.inl ⟨(i+1,ar,x,k),⟨by dsimp only;omega,by dsimp only;omega,ig⟩,by dsimp only;omega,hh⟩;simp[-aE,-aO,dg,h,aM,hc,k1]
   ·have :i=(els sp.fi).length:=by omega
    subst this;refine aX (Q:=fun o e H=>o= .exit 0∧e.get 1= .p (.str nm)∧e.get 2= .box 0 0∧e.get 4= .box 1 0∧e.get 6= .box 2 0∧e.get 7= .p (.int .i64 ((k:Nat):Int))∧H=⟨[sp.cl.map .p,(aj 0 Bt.e).map D.p,(aj ar x).map D.p],[]⟩) ?_ ?_
    ·simp[-aE,-aO,dg]
    ·rintro o e H ⟨rfl,q1,q2,q3,q4,q5,rfl⟩;exact .inr ⟨by simp,rfl,q1,q2,q3,q4,ar,x,k,q5,by omega,ig,rfl⟩) (0,0,Bt.e,0) ⟨b9 _,aV _,fun h=>by dsimp only at h;omega⟩
 have qx:=fun(Oa:Int) (r0:Bt) (k0:Nat) (h60:k0≤6) (rC:1≤k0→1≤Oa∧Oa≤3)=>eY (c:=call pg) (G:=pg.G) (keep:=[1,2,4,6,7,9]) (b:=bd wV 1) (σ:=Nat×Int×Bt×Nat) (fun s=>[(1,.p (.str nm)),(2,.box 0 0),(4,.box 1 0),(6,.box 2 0),(7,.p (.int .i64 ((s.2.2.2:Nat):Int))),(9,.p (.int .i64 ((s.1:Nat):Int)))]) (fun s=>⟨[sp.cl.map .p,(aj 0 Bt.e).map D.p,(aj s.2.1 s.2.2.1).map D.p],[]⟩) (fun s=>(els sp.so).length-s.1) (fun s=>s.1≤(els sp.so).length∧s.2.2.2≤6+3*s.1∧(1≤s.2.2.2→1≤s.2.1∧s.2.1≤3))
  (fun o e H=>o= .exit 2∧e.get 4= .box 1 0∧e.get 6= .box 2 0∧∃(ar:Int) (r:Bt) (k:Nat),e.get 7= .p (.int .i64 ((k:Nat):Int))∧(1≤k→1≤ar∧ar≤3)∧H=⟨[sp.cl.map .p,(aj 0 Bt.e).map D.p,(aj ar r).map D.p],[]⟩)
  (by
   rintro⟨i,ar,x,k⟩ ⟨hi,hk,ig⟩;dsimp only at hi hk ig⊢;have hf6:=ok.ns
   conv in bd wV 1=>reduce
   by_cases h:i<(els sp.so).length
   ·have aM:=N2 h;have tv:=hn _ (bO h);obtain⟨u,hu⟩:=Cb (NW (i:Int)) (by omega);obtain⟨v,hv⟩:=Cb (Vo (i:Int) (i:Int)) (by omega);simp at hu hv;have k1:=bw (k:=i) (by omega);have k2:=bw (k:=k) (by omega);have k3:=bw (k:=k+1) (by omega);have k4:=bw (k:=k+1+1) (by omega);have g1:(els sp.so)[i].nm.length+6≤140737488355328:=by omega
    have g2:(els sp.so)[i].nm.length+5≤140737488355328:=by omega
    generalize (els sp.so)[i]=q at *;have fin:∀(zK:Int) (x':Bt) (k':Nat),k'≤k+3→(1≤k'→1≤zK∧zK≤3)→∀X,post (nx [1,2,4,6,7,9] [(1,.p (.str nm)),(2,.box 0 0),(4,.box 1 0),(6,.box 2 0),(7,.p (.int .i64 ((k':Nat):Int))),(9,.p (.int .i64 ((i+1 :Nat):Int)))] ⟨[sp.cl.map .p,(aj 0 Bt.e).map D.p,(aj zK x').map D.p],[]⟩) X→
        post (fun o e H=>(∃s':Nat×Int×Bt×Nat,(s'.1≤(els sp.so).length∧s'.2.2.2≤6+3*s'.1∧(1≤s'.2.2.2→1≤s'.2.1∧s'.2.1≤3))∧(els sp.so).length-s'.1<(els sp.so).length-i∧nx [1,2,4,6,7,9] [(1,.p (.str nm)),(2,.box 0 0),(4,.box 1 0),(6,.box 2 0),(7,.p (.int .i64 ((s'.2.2.2:Nat):Int))),(9,.p (.int .i64 ((s'.1:Nat):Int)))] ⟨[sp.cl.map .p,(aj 0 Bt.e).map D.p,(aj s'.2.1 s'.2.2.1).map D.p],[]⟩ o e H)∨o≠.norm∧o= .exit 2∧e.get 4= .box 1 0∧e.get 6= .box 2 0∧∃(ar:Int) (r:Bt) (k:Nat),e.get 7= .p (.int .i64 ((k:Nat):Int))∧(1≤k→1≤ar∧ar≤3)∧H=⟨[sp.cl.map .p,(aj 0 Bt.e).map D.p,(aj ar r).map D.p],[]⟩) X:=by
     intro zK x' k' h1 h2 X hX;exact aX hX fun o e H hh=>.inl ⟨(i+1,zK,x',k'),⟨by dsimp only;omega,by dsimp only;omega,h2⟩,by dsimp only;omega,hh⟩
    by_cases c1:q.nm=nm
    ·cases pC:q.od with
     |false=>
      refine fin 1 u (k+1) (by omega) (fun _=>by omega) _ ?_;simp[-aE,-aO,cz,cn,gT,h,aM,c1,pC,hu,k1,k2]
     |true=>
      by_cases c2:q.nm++[95,102,105,114,115,116]=nm
      ·by_cases c3:q.nm++[95,110,101,120,116]=nm
       ·exfalso;have:=congrArg oq (c2.trans c3.symm);simp at this
       ·exfalso;have:=congrArg oq (c1.trans c2.symm);simp at this
      ·by_cases c3:q.nm++[95,110,101,120,116]=nm
       ·exfalso;have:=congrArg oq (c1.trans c3.symm);simp at this
       ·refine fin 1 u (k+1) (by omega) (fun _=>by omega) _ ?_;rw[c1] at c2 c3 g1 g2;simp[-aE,-aO,cz,cn,gT,h,aM,c1,pC,hu,k1,k2,c2,c3,g1,g2]
    ·cases pC:q.od with
     |false=>
      refine fin ar x k (by omega) ig _ ?_;simp[-aE,-aO,gT,h,aM,c1,pC,k1]
     |true=>
      by_cases c2:q.nm++[95,102,105,114,115,116]=nm
      ·by_cases c3:q.nm++[95,110,101,120,116]=nm
       ·exfalso;have:=congrArg oq (c2.trans c3.symm);simp at this
       ·refine fin 1 u (k+1) (by omega) (fun _=>by omega) _ ?_;simp[-aE,-aO,cz,cn,gT,h,aM,c1,pC,hu,k1,k2,c2,c3,g1,g2]
      ·by_cases c3:q.nm++[95,110,101,120,116]=nm
       ·refine fin 2 v (k+1) (by omega) (fun _=>by omega) _ ?_;simp[-aE,-aO,cz,cn,gT,h,aM,c1,pC,hv,k1,k2,c2,c3,g1,g2]
       ·refine fin ar x k (by omega) ig _ ?_;simp[-aE,-aO,gT,h,aM,c1,pC,k1,c2,c3,g1,g2]
   ·have :i=(els sp.so).length:=by omega
    subst this;refine aX (Q:=fun o e H=>o= .exit 2∧e.get 4= .box 1 0∧e.get 6= .box 2 0∧e.get 7= .p (.int .i64 ((k:Nat):Int))∧H=⟨[sp.cl.map .p,(aj 0 Bt.e).map D.p,(aj ar x).map D.p],[]⟩) ?_ ?_
    ·simp[-aE,-aO,gT]
    ·rintro o e H ⟨rfl,q3,q4,q5,rfl⟩;exact .inr ⟨by simp,rfl,q3,q4,ar,x,k,q5,ig,rfl⟩) (0,Oa,r0,k0) ⟨b9 _,by dsimp only;omega,rC⟩
 obtain⟨o,e,H,hx,rfl,q1,q2,q4,q6,ar,r,k,q7,hk6,ig,rfl⟩:=bJ N3;obtain⟨o,e',H,dB,rfl,Ob,q6',zK,r',k',q7',aht,rfl⟩:=bJ (qx ar r k hk6 ig);simp only[gJ,dA,mF] at hx dB;have ai:=rf (bd wV 1)
 conv at ai=>rhs;reduce
 have ae:=rf (bd wV 0)
 conv at ae=>rhs;reduce
 have hf:=rf wV
 conv at hf=>rhs;reduce
 rw[←ai] at hf;rw[←ae] at hf;have aK:cE=cE:=rfl
 conv at aK=>rhs;reduce
 try rw[←aK] at hf
 try rw[←aK] at ae
 try rw[←aK] at ai
 clear aK;refine⟨zK,r',k',aG (aa:=[_,_]) hf rfl rfl rfl ?_,aht⟩;clear hf ae ai;simp[-aE,-aO,cu,dx,cz,cR,cn,j5,hx,q1,q2,q4,q6,q7,dB,Ob,q6',q7']
theorem Jl(sp:Sp)(hp:(els sp.pr).length<4611686018427387904)(calls:Nat)(nm:List UInt8):
    ∃p:Int,(∀H,av (call pg) 152 [.p (.agg sp.cl),.p (.int .i64 ((calls:Nat):Int)),.p (.str nm)] H=some (.val (.p (.int .i64 p)),H))∧(0≤p→∃i:Nat,p=(i:Int)∧i<(els sp.pr).length∧i<calls):=by
 have key:=jd (c:=call pg) (G:=pg.G) (keep:=[1,2,3,7]) (b:=bd Bp 0) (fun i=>[(1,.p (.int .i64 ((calls:Nat):Int))),(2,.p (.str nm)),(3,.box 0 0),(7,.p (.int .i64 ((i:Nat):Int)))]) (fun _=>⟨[sp.cl.map .p],[]⟩) (min calls (els sp.pr).length) (fun _=>True)
  (fun o e H=>o= .exit 0∨(o= .ret∧∃i:Nat,e.get 6= .p (.int .i64 ((i:Nat):Int))∧i<(els sp.pr).length∧i<calls)) trivial
  (fun i hi _=>by
   have h1:i<calls:=by omega
   have h2:i<(els sp.pr).length:=by omega
   have aM:=EV h2;have k1:=bw (k:=i) (by omega)
   conv in bd Bp 0=>reduce
   by_cases hc:(els sp.pr)[i].nm=nm
   ·refine aX (Q:=fun o e H=>o= .ret∧e.get 6= .p (.int .i64 ((i:Nat):Int))) ?_ ?_
    ·simp[lj,h1,h2,aM,hc]
    ·rintro o e H ⟨rfl,q⟩;exact .inr ⟨by simp,.inr ⟨rfl,i,q,h2,h1⟩⟩
   ·simp[lj,h1,h2,aM,hc,k1])
  (fun _=>by
   conv in bd Bp 0=>reduce
   by_cases h1:calls≤(els sp.pr).length
   ·rw[ue h1];simp
   ·rw[amL (by omega)];have h2:(els sp.pr).length<calls:=by omega
    simp[lj,h2])
 obtain⟨o,e,H,hx,hq⟩:=bJ key;simp only[gJ,dA,mF] at hx;have ae:=rf (bd Bp 0)
 conv at ae=>rhs;reduce
 have hf:=rf Bp
 conv at hf=>rhs;reduce
 rw[←ae] at hf;rcases hq with rfl |⟨rfl,i,q,h1,h2⟩
 ·refine⟨-1,aG (aa:=[_,_,_]) hf rfl rfl rfl ?_,fun h=>by omega⟩;clear hf ae;simp[hx]
 ·refine⟨(i:Int),aG (aa:=[_,_,_]) hf rfl rfl rfl ?_,fun _=>⟨i,rfl,h1,h2⟩⟩;clear hf ae;simp[hx,q]
theorem VO(op:Int):∃r:Bool,∀H,av (call pg) 282 [.p (.int .i64 op)] H=some (.val (.p (.bool r)),H):=by
 have hf:=rf Un
 conv at hf=>rhs;reduce
 by_cases h1:op=5
 ·refine⟨true,aG (aa:=[_]) hf rfl rfl rfl ?_⟩;clear hf;simp[h1]
 ·by_cases h2:48≤op
  ·refine⟨decide (op≤51),aG (aa:=[_]) hf rfl rfl rfl ?_⟩;clear hf;simp[h1,h2]
  ·refine⟨false,aG (aa:=[_]) hf rfl rfl rfl ?_⟩;clear hf;simp[h1,h2]
def Oc(s:SF)(L:List Bool):Prop:=xh 4 1 s (L.map PD.bool)
theorem zM(e sz:Nat)(s:SF)(bx:List (List D)):s.at e sz (s.d e sz 0) ⟨bx,s.k⟩:=by
 cases s with
 |pl x=>rfl
 |tk es=>exact⟨0,rfl,rfl⟩
theorem VP(sp:Sp)(hp:(els sp.pr).length<4611686018427387904){s:SF}{L:List Bool}(hs:Oc s L)(calls:Nat)(nm:List UInt8):
    ∃r:Bool,∀d H,s.at 4 1 d H→av (call pg) 283 [.p (.agg sp.cl),d,.p (.int .i64 ((calls:Nat):Int)),.p (.str nm)] H=some (.val (.p (.bool r)),H):=by
 obtain⟨p,hc,ES⟩:=Jl sp hp calls nm;have hlen:=hs.len 0;rw[cx] at hlen;have hf:=rf Uo
 conv at hf=>rhs;reduce
 by_cases h1:0≤p
 ·obtain⟨i,rfl,-,-⟩:=ES h1;by_cases h2:i<L.length
  ·have aM:=hs.ia 0 i (by simpa using h2);have hg:((L.map PD.bool)[i]'(by simpa using h2)).cells=[PD.bool L[i]]:=by simp[wZ]
   rw[hg] at aM;refine⟨L[i],vE (e:=4) (sz:=1) (pre:=[.agg sp.cl]) (suf:=[.int .i64 calls,.str nm]) (s:=s) (EX _) hf (fun _=>by cases s<;>rfl) (by cases s<;>rfl) rfl ?_⟩;clear hf;cases s<;>(simp only[SF.d,SF.k] at *;simp[di,hc,hlen,aM,h2])
  ·refine⟨false,vE (e:=4) (sz:=1) (pre:=[.agg sp.cl]) (suf:=[.int .i64 calls,.str nm]) (s:=s) (EX _) hf (fun _=>by cases s<;>rfl) (by cases s<;>rfl) rfl ?_⟩;clear hf;cases s<;>(simp only[SF.d,SF.k] at *;simp[di,hc,hlen,h2])
 ·refine⟨false,vE (e:=4) (sz:=1) (pre:=[.agg sp.cl]) (suf:=[.int .i64 calls,.str nm]) (s:=s) (EX _) hf (fun _=>by cases s<;>rfl) (by cases s<;>rfl) rfl ?_⟩;clear hf;cases s<;>(simp only[SF.d,SF.k] at *;simp[di,hc,h1])
theorem ahu(sp:Sp)(hp:(els sp.pr).length<4611686018427387904){s:SF}{L:List Bool}(hs:Oc s L):∀(m:Nat) (a:Nd),a.size≤m→m<4611686018427387904→
    ∃r:Bool,∀d H,s.at 4 1 d H→av (call pg) 288 [.p (.agg sp.cl),d,.p (.agg a.cl)] H=some (.val (.p (.bool r)),H):=by
 intro m
 induction m with
 |zero=>intro a h;have:=size_pos a;omega
 |succ m ih=>
  intro a hm hB;have hlen:=hs.len 0;rw[cx] at hlen;obtain⟨b1,c1⟩:=VO a.op;obtain⟨b2,c2⟩:=VP sp hp hs L.length a.nm;have c2:=fun bx=>c2 (s.d 4 1 0) ⟨bx,s.k⟩ (zM 4 1 s bx);have jG:a.ks.length<4611686018427387904:=by
   have:=Cd a.ks;have:=size_eq a;omega
  have key:=tM (c:=call pg) (G:=pg.G) (keep:=[1,3,5,7]) (b:=bd vt 0) (fun i=>[(1,s.d 4 1 0),(3,.box 0 0),(5,.box 1 0),(7,.p (.int .i64 ((i:Nat):Int)))]) ⟨[sp.cl.map .p,a.cl.map .p],s.k⟩ a.ks.length (fun _=>True) 0 (fun _=>True) (fun e=>e.get 6= .p (.bool true))
   (fun i hi=>by
    obtain⟨b3,c3⟩:=ih (a.ks[i]) (by have:=Cc (bO hi);omega) (by omega);have c3:=fun bx=>c3 (s.d 4 1 0) ⟨bx,s.k⟩ (zM 4 1 s bx);have aM:=xf hi;have k1:=bw (k:=i) (by omega)
    conv in bd vt 0=>reduce
    clear hs ih;cases s<;>cases b3<;>(simp only[SF.d,SF.k] at *;simp[kQ,hi,aM,c3,k1,jO]))
   (by
    conv in bd vt 0=>reduce
    clear hs ih;cases s<;>(simp only[SF.d,SF.k] at *;simp[kQ]))
  have fin:∀r:Bool,post (di [.t 6] s.k (.p (.bool r))) (ay (call pg) pg.G bf ((vt.map fun f=>f.body).getD .skip) ⟨entry 0 ([PD.agg sp.cl].map .p++s.d 4 1 0::[PD.agg a.cl].map .p),⟨[],s.k⟩⟩)→
      ∃r:Bool,∀d H,s.at 4 1 d H→av (call pg) 288 [.p (.agg sp.cl),d,.p (.agg a.cl)] H=some (.val (.p (.bool r)),H):=by
   intro r hr;have ae:=rf (bd vt 0)
   conv at ae=>rhs;reduce
   have hf:=rf vt
   conv at hf=>rhs;reduce
   rw[←ae] at hf;rw[hf] at hr;exact⟨r,vE (e:=4) (sz:=1) (pre:=[.agg sp.cl]) (suf:=[.agg a.cl]) (s:=s) (EX _) hf (fun _=>by cases s<;>rfl) (by cases s<;>rfl) rfl hr⟩
  have ae:=rf (bd vt 0)
  conv at ae=>rhs;reduce
  have hf:=rf vt
  conv at hf=>rhs;reduce
  rw[←ae] at hf;rw[hf] at fin;simp only[eA,kU] at fin;clear hf ae;clear hs ih;rcases key with⟨e,hx,-,-⟩ |⟨e,hx,h6⟩
  ·simp at hx;cases b1 with
   |true=>
    refine fin true ?_;clear fin;cases s<;>(simp only[SF.d,SF.k] at *;simp[di,c1])
   |false=>
    by_cases nu:a.op=47
    ·refine fin b2 ?_;clear fin;rw[nu] at c1 hx;cases s<;>cases b2<;>(simp only[SF.d,SF.k] at *;simp[di,c1,nu,c2,hlen,hx])
    ·refine fin false ?_;clear fin;cases s<;>(simp only[SF.d,SF.k] at *;simp[di,c1,nu,hx])
  ·simp at hx;refine fin true ?_;clear fin;cases b1 with
   |true=>cases s<;>(simp only[SF.d,SF.k] at *;simp[di,c1])
   |false=>
    by_cases nu:a.op=47
    ·rw[nu] at c1 hx;cases s<;>cases b2<;>(simp only[SF.d,SF.k] at *;simp[di,c1,nu,c2,hlen,hx,h6])
    ·cases s<;>(simp only[SF.d,SF.k] at *;simp[di,c1,nu,hx,h6])
def Jm{α:Type}(l:List α):Sl α:=match l with |[]=>.cV |_::_=>.of l
theorem ahv{α:Type}(sz:Nat)(f:α→PD)(l:List α):fD sz ((Jm l).map f)= .slice sz (l.map f):=by cases l<;>rfl
theorem Od{e sz by':Nat}{es:List PD}{x:PD}{bx:List (List D)}(h:es.length<1000000000)(hb:by'≤1000):fj e sz by' (.bk 0 e sz es) [x] ⟨bx,[es.length]⟩=some (.bk 0 e sz (es++[x]),⟨bx,[es.length+1]⟩):=by
 have hr:roomy (es.length+1) by'=true:=by
  have :(es.length+1)*by'≤1000000000*1000:=ug (by omega) hb;simp only[roomy,bQ,decide_eq_true_eq];omega
 simp[fj,hr]
theorem ahw(sp:Sp)(ok:nj sp):∃L:List Bool,∀H,av (call pg) 223 [.p (.agg sp.cl)] H=some (.val (.p (dy (Jm L))),H):=by
 have hp:=ok.np;have key:=eY (c:=call pg) (G:=pg.G) (keep:=[1,3,4]) (b:=bd Ek 0) (σ:=Nat×List Bool) (fun s=>[(1,.box 0 0),(3,.bk 0 4 1 (s.2.map PD.bool)),(4,.p (.int .i64 ((s.1:Nat):Int)))]) (fun s=>⟨[sp.cl.map .p],[(s.2.map PD.bool).length]⟩) (fun s=>(els sp.pr).length-s.1) (fun s=>s.1≤(els sp.pr).length∧s.2.length=s.1)
  (fun o e H=>o= .exit 0∧∃L:List Bool,e.get 3= .bk 0 4 1 (L.map PD.bool))
  (by
   rintro⟨i,L⟩ ⟨hi,hL⟩;dsimp only at hi hL⊢
   conv in bd Ek 0=>reduce
   by_cases h:i<(els sp.pr).length
   ·have aM:=EV h;have E4:=(ok.pd _ (bO h)).2;obtain⟨r,hr⟩:=ahu sp (by omega) (s:=.tk (L.map PD.bool)) (L:=L) VA 400 (els sp.pr)[i].bo E4.1 (by omega);have hr:=fun bx=>hr (.bk 0 4 1 (L.map PD.bool)) ⟨bx,[(L.map PD.bool).length]⟩ ⟨0,rfl,rfl⟩;have k1:=bw (k:=i) (by omega);have cG:=fun bx=>Od (e:=4) (sz:=1) (by':=1) (es:=L.map PD.bool) (x:=.bool r) (bx:=bx) (by rw[cx];omega) (by omega);refine aX (Q:=nx [1,3,4] [(1,.box 0 0),(3,.bk 0 4 1 (L.map PD.bool++[PD.bool r])),(4,.p (.int .i64 ((i+1 :Nat):Int)))] ⟨[sp.cl.map .p],[(L.map PD.bool).length+1]⟩) ?_ ?_
    ·generalize L.map PD.bool=M at *;simp[-fj,lj,h,aM,hr,cG,k1,jO]
    ·intro o e H hh;refine .inl ⟨(i+1,L++[r]),⟨by dsimp only;omega,by simp[hL]⟩,by dsimp only;omega,?_⟩;simpa using hh
   ·have :i=(els sp.pr).length:=by omega
    subst this;refine aX (Q:=fun o e H=>o= .exit 0∧e.get 3= .bk 0 4 1 (L.map PD.bool)) ?_ ?_
    ·simp[lj]
    ·rintro o e H ⟨rfl,q⟩;exact .inr ⟨by simp,rfl,L,q⟩) (0,[]) ⟨b9 _,rfl⟩
 obtain⟨o,e,H,hx,rfl,L,h3⟩:=bJ key;simp only[gJ,dA,mF,fW] at hx;have ae:=rf (bd Ek 0)
 conv at ae=>rhs;reduce
 have hf:=rf Ek
 conv at hf=>rhs;reduce
 rw[←ae] at hf;refine⟨L,aG (aa:=[_]) hf rfl rfl rfl ?_⟩;clear hf ae;simp[qa,hx,h3,dy,ahv]
structure eK where
 ar:Int
 b:Bt
def eK.p(s:eK):PD:=gH s.ar s.b
theorem lq{L:List eK}{t k:Nat}(h:k<L.length):eN none 65 (.bk t 253 65 (L.map eK.p)) (k:Int)=some (.ro (aj (L[k]).ar (L[k]).b) 0):=by
 have:=Tp (t:=t) (e:=253) (sz:=65) (es:=L.map eK.p) (k:=k) (by simpa using h);rw[this];simp[eK.p,tL]
def Sets(op n:Int)(L:List eK):Prop:=
 (op=2→1≤n∧n≤3)∧(op∈[5,11,12,13]→∃a l,L=a::l∧1≤a.ar∧a.ar≤3)∧
 (op∈[6,7,8,9,10,14,32,33]→∃a c l,L=a::c::l∧(1≤a.ar∧a.ar≤3)∧1≤c.ar∧c.ar≤3)∧op≠1∧op≠15
theorem ahx(sp:Sp)(hs:(els sp.so).length<4611686018427387904)(op n pos:Int)(nm:List UInt8)(ks:PD)(hk:ks.one=true)(L:List eK)(hL:Sets op n L):
    ∃(ar:Int) (r:Bt) (ok:Bool),(∀d H,(SF.tk (L.map eK.p)).at 253 65 d H→av (call pg) 287 [.p (.agg sp.cl),.p (.agg [.int .i64 op,.str nm,.int .i64 n,ks,.int .i64 pos]),d] H=some (.val (.bA [.p (gH ar r),.p (.bool ok)]),H))∧(ok=true→1≤op→op≤15→1≤ar∧ar≤3):=by
 obtain⟨l2,l1,lb,ln1,apR⟩:=hL;obtain⟨u1,hu1⟩:=VC sp 1 (.inl rfl) hs;obtain⟨u2,VQ⟩:=VC sp 2 (.inr rfl) hs;have hf:=rf Nh
 conv at hf=>rhs;reduce
 have aK:cE=cE:=rfl
 conv at aK=>rhs;reduce
 try rw[←aK] at hf
 clear aK;have fin:∀(ar:Int) (r:Bt) (ok:Bool),(ok=true→1≤op→op≤15→1≤ar∧ar≤3)→post (di [.cell 6 (some 65),.t 7] (SF.tk (L.map eK.p)).k (.bA [.p (gH ar r),.p (.bool ok)])) (ay (call pg) pg.G bf (((Nh.map fun f=>f.body)).getD .skip) ⟨entry 0 [.p (.agg sp.cl),.p (.agg [.int .i64 op,.str nm,.int .i64 n,ks,.int .i64 pos]),.bk 0 253 65 (L.map eK.p)],⟨[],[(L.map eK.p).length]⟩⟩)→
     ∃(ar:Int) (r:Bt) (ok:Bool),(∀d H,(SF.tk (L.map eK.p)).at 253 65 d H→av (call pg) 287 [.p (.agg sp.cl),.p (.agg [.int .i64 op,.str nm,.int .i64 n,ks,.int .i64 pos]),d] H=some (.val (.bA [.p (gH ar r),.p (.bool ok)]),H))∧(ok=true→1≤op→op≤15→1≤ar∧ar≤3):=by
  intro ar r ok h1 h2;rw[hf] at h2;exact⟨ar,r,ok,vE (e:=253) (sz:=65) (pre:=[.agg sp.cl,.agg [.int .i64 op,.str nm,.int .i64 n,ks,.int .i64 pos]]) (suf:=[]) (s:=.tk (L.map eK.p)) (Jg [_,_]) hf (fun _=>rfl) rfl rfl h2,h1⟩
 rw[hf] at fin;clear hf;simp only[eA,kU] at fin;by_cases h2:op=2
 ·subst h2;have l2:=l2 rfl;refine fin n Bt.e true (fun _ _ _=>l2) ?_;simp[-aE,-aO,cu,dx,cz,cR,cn,xc,di,SF.k,hk]
 ·by_cases h3:op=3
  ·subst h3;refine fin 1 u1 true (fun _ _ _=>by omega) ?_;simp[-aE,-aO,cu,dx,cz,cR,cn,di,SF.k,hk,hu1]
  ·by_cases h4:op=4
   ·subst h4;refine fin 2 u2 true (fun _ _ _=>by omega) ?_;simp[-aE,-aO,cu,dx,cz,cR,cn,di,SF.k,hk,VQ]
   ·by_cases h5:op=5
    ·subst h5;obtain⟨a,l,rfl,j4,my⟩:=l1 (by simp);have i0:=lq (L:=a::l) (t:=0) (k:=0) (by simp);simp only[gJ,p7,dA] at i0;refine fin a.ar a.b true (fun _ _ _=>⟨j4,my⟩) ?_;simp[-aE,-aO,cu,dx,sO,cz,cR,cn,di,SF.k,hk,i0]
    ·by_cases h6:op=6
     ·subst h6;obtain⟨a,c,l,rfl,⟨j4,my⟩,kJ,kg⟩:=lb (by simp);have i0:=lq (L:=a::c::l) (t:=0) (k:=0) (by simp);have i1:=lq (L:=a::c::l) (t:=0) (k:=1) (by simp);simp only[gJ,uh,p7,xS,dA] at i0 i1;obtain⟨u,hu⟩:=Ca a.ar c.ar a.b c.b;refine fin a.ar u (a.ar==c.ar) (fun _ _ _=>⟨j4,my⟩) ?_;simp[-aE,-aO,cu,dx,sO,cz,cR,cn,di,SF.k,hk,i0,i1,hu]
     ·by_cases VR:op=14
      ·subst VR;obtain⟨a,c,l,rfl,⟨j4,my⟩,kJ,kg⟩:=lb (by simp);have i0:=lq (L:=a::c::l) (t:=0) (k:=0) (by simp);have i1:=lq (L:=a::c::l) (t:=0) (k:=1) (by simp);simp only[gJ,uh,p7,xS,dA] at i0 i1;obtain⟨u,hu⟩:=Ca a.ar c.ar a.b c.b;refine fin a.ar u (a.ar==c.ar) (fun _ _ _=>⟨j4,my⟩) ?_;simp[-aE,-aO,cu,dx,sO,cz,cR,cn,di,SF.k,hk,i0,i1,hu]
      ·by_cases h7:op=7
       ·subst h7;obtain⟨a,c,l,rfl,⟨j4,my⟩,kJ,kg⟩:=lb (by simp);have i0:=lq (L:=a::c::l) (t:=0) (k:=0) (by simp);have i1:=lq (L:=a::c::l) (t:=0) (k:=1) (by simp);simp only[gJ,uh,p7,xS,dA] at i0 i1;obtain⟨u,hu⟩:=agP a.ar c.ar a.b c.b;refine fin a.ar u (a.ar==c.ar) (fun _ _ _=>⟨j4,my⟩) ?_;simp[-aE,-aO,cu,dx,sO,cz,cR,cn,di,SF.k,hk,i0,i1,hu]
       ·by_cases h8:op=8
        ·subst h8;obtain⟨a,c,l,rfl,⟨j4,my⟩,kJ,kg⟩:=lb (by simp);have i0:=lq (L:=a::c::l) (t:=0) (k:=0) (by simp);have i1:=lq (L:=a::c::l) (t:=0) (k:=1) (by simp);simp only[gJ,uh,p7,xS,dA] at i0 i1;refine fin a.ar a.b (a.ar==c.ar) (fun _ _ _=>⟨j4,my⟩) ?_;simp[-aE,-aO,cu,dx,sO,cz,cR,cn,di,SF.k,hk,i0,i1]
        ·by_cases VS:op=32
         ·subst VS;obtain⟨a,c,l,rfl,⟨j4,my⟩,kJ,kg⟩:=lb (by simp);have i0:=lq (L:=a::c::l) (t:=0) (k:=0) (by simp);have i1:=lq (L:=a::c::l) (t:=0) (k:=1) (by simp);simp only[gJ,uh,p7,xS,dA] at i0 i1;refine fin 0 Bt.e (a.ar==c.ar) (fun _ _ h=>by omega) ?_;simp[-aE,-aO,cu,dx,cz,cR,cn,j5,di,SF.k,hk,i0,i1]
         ·by_cases VT:op=33
          ·subst VT;obtain⟨a,c,l,rfl,⟨j4,my⟩,kJ,kg⟩:=lb (by simp);have i0:=lq (L:=a::c::l) (t:=0) (k:=0) (by simp);have i1:=lq (L:=a::c::l) (t:=0) (k:=1) (by simp);simp only[gJ,uh,p7,xS,dA] at i0 i1;refine fin 0 Bt.e (a.ar==c.ar) (fun _ _ h=>by omega) ?_;simp[-aE,-aO,cu,dx,cz,cR,cn,j5,di,SF.k,hk,i0,i1]
          ·by_cases h9:op=9
           ·subst h9;obtain⟨a,c,l,rfl,⟨j4,my⟩,kJ,kg⟩:=lb (by simp);have i0:=lq (L:=a::c::l) (t:=0) (k:=0) (by simp);have i1:=lq (L:=a::c::l) (t:=0) (k:=1) (by simp);simp only[gJ,uh,p7,xS,dA] at i0 i1;obtain⟨u,hu⟩:=Vt a.ar c.ar a.b c.b kJ;have w:IntKind.i64.wrap (IntKind.i64.wrap (a.ar+c.ar)-2)=a.ar+c.ar-2:=by rw[wrap64 (n:=a.ar+c.ar) (by omega) (by omega),wrap64 (by omega) (by omega)]
            rw[w] at hu;by_cases g:1≤a.ar+c.ar-2
            ·refine fin (a.ar+c.ar-2) u (decide (a.ar+c.ar-2≤3)) (fun h _ _=>by simp at h;omega) ?_;simp[-aE,-aO,cu,dx,sO,cz,cR,cn,di,SF.k,hk,i0,i1,hu,w,g]
            ·refine fin (a.ar+c.ar-2) u false (fun h=>by cases h) ?_;simp[-aE,-aO,cu,dx,sO,cz,cR,cn,di,SF.k,hk,i0,i1,hu,w,g]
           ·by_cases Jn:op=10
            ·subst Jn;obtain⟨a,c,l,rfl,⟨j4,my⟩,kJ,kg⟩:=lb (by simp);have i0:=lq (L:=a::c::l) (t:=0) (k:=0) (by simp);have i1:=lq (L:=a::c::l) (t:=0) (k:=1) (by simp);simp only[gJ,uh,p7,xS,dA] at i0 i1;obtain⟨u,hu⟩:=agT a.ar c.ar a.b c.b;have w:IntKind.i64.wrap (a.ar+c.ar)=a.ar+c.ar:=wrap64 (by omega) (by omega);rw[w] at hu;refine fin (a.ar+c.ar) u (decide (a.ar+c.ar≤3)) (fun h _ _=>by simp at h;omega) ?_;simp[-aE,-aO,cu,dx,sO,cz,cR,cn,di,SF.k,hk,i0,i1,hu,w]
            ·by_cases VU:op=11
             ·subst VU;obtain⟨a,l,rfl,j4,my⟩:=l1 (by simp);have i0:=lq (L:=a::l) (t:=0) (k:=0) (by simp);simp only[gJ,p7,dA] at i0;obtain⟨u,hu⟩:=agS a.ar a.b;refine fin 2 u (a.ar==2) (fun _ _ _=>by omega) ?_;simp[-aE,-aO,cu,dx,sO,cz,cR,cn,di,SF.k,hk,i0,hu]
             ·by_cases E5:op=12
              ·subst E5;obtain⟨a,l,rfl,j4,my⟩:=l1 (by simp);have i0:=lq (L:=a::l) (t:=0) (k:=0) (by simp);simp only[gJ,p7,dA] at i0;obtain⟨u,hu⟩:=VB a.ar a.b j4;refine fin a.ar u (a.ar==2) (fun _ _ _=>⟨j4,my⟩) ?_;simp[-aE,-aO,cu,dx,sO,cz,cR,cn,di,SF.k,hk,i0,hu]
              ·by_cases E6:op=13
               ·subst E6;obtain⟨a,l,rfl,j4,my⟩:=l1 (by simp);have i0:=lq (L:=a::l) (t:=0) (k:=0) (by simp);simp only[gJ,p7,dA] at i0;obtain⟨u,hu⟩:=VB a.ar a.b j4;obtain⟨v,hv⟩:=Ca a.ar 2 u u2;refine fin a.ar v (a.ar==2) (fun _ _ _=>⟨j4,my⟩) ?_;simp[-aE,-aO,cu,dx,sO,cz,cR,cn,di,SF.k,hk,i0,hu,VQ,hv]
               ·refine fin 0 Bt.e true (fun _ _ h=>by omega) ?_;simp[-aE,-aO,cu,dx,cz,cR,cn,j5,di,SF.k,hk,h2,h3,h4,h5,h6,VR,h7,h8,VS,VT,h9,Jn,VU,E5,E6]
structure Vr where
 nm:List UInt8
 b:Bt
def kS(v:Vr):List PD:=.str v.nm::aj 1 v.b
def Vr.p(v:Vr):PD:=.agg (kS v)
@[simp] theorem apS(v:Vr):(kS v).length=66:=by simp[kS]
@[simp] theorem apT(v:Vr):(kS v)[0]? =some (.str v.nm):=rfl
@[simp] theorem apU(v:Vr)(h:0<(kS v).length):(kS v)[0]'h= .str v.nm:=rfl
theorem apV(v:Vr):List.drop 1 (rI 66 (kS v))=aj 1 v.b:=by
 rw[jC (by simp)];rfl
theorem ahz(v:Vr):(kS v).tail=aj 1 v.b:=rfl
theorem ahA(v:Vr):rI 66 (kS v)=kS v:=jC (by simp)
abbrev vP(sp:Sp)(T:Sl Bool)(calls:Nat)(ins:Bool):PD:=.agg [jg sp.so,bZ sp.fi,jh sp.pr,ji sp.fa,dy T,.int .i64 calls,.bool ins]
theorem ahB{s:SF}{L:List Vr}(hs:xh 361 66 s (L.map Vr.p)){k:Nat}(h:k<L.length)(t:Nat):eN none 66 (s.d 361 66 t) (k:Int)=some (.ro (kS L[k]) 0):=by
 have:=hs.ia t k (by simpa using h);rw[this];simp[Vr.p,tL]
def vG(sp:Sp)(f:Nat)(a:Nd)(rel:Prop):Prop:=
 ∀(T:Sl Bool) (calls:Nat) (ins:Bool) (s:SF) (L:List Vr),xh 361 66 s (L.map Vr.p)→L.length+a.size≤1000→
  ∃(ar:Int) (r:Bt) (er pos:Int),(∀d H,s.at 361 66 d H→av (call pg) f [.p (vP sp T calls ins),d,.p (.agg a.cl)] H=some (.val (.bA [.p (gH ar r),.p (.agg [.int .i64 er,.int .i64 pos])]),H))∧
   (er=0→rel→1≤ar∧ar≤3)
theorem ahC(sp:Sp)(ok:nj sp)(hn:nY sp)(a:Nd):vG sp 284 a True:=by
 intro T calls ins s L hs hb;obtain⟨ar,r,k,hk,ig⟩:=aho sp ok hn a.nm;have hlen:=hs.len 0;rw[cx] at hlen;have key:=eY (c:=call pg) (G:=pg.G) (keep:=[1,3,5,6,7,8]) (b:=bd vq 0) (σ:=Nat) (fun i=>[(1,s.d 361 66 0),(3,.box 0 0),(5,.box 1 0),(6,.box 2 0),(7,.box 3 0),(8,.p (.int .i64 ((i:Int)-1)))])
  (fun _=>⟨[[.p (jg sp.so),.p (bZ sp.fi),.p (jh sp.pr),.p (ji sp.fa),.p (dy T),.p (.int .i64 ((calls:Nat):Int)),.p (.bool ins)],a.cl.map .p,(aj 0 Bt.e).map .p,[.p (.int .i64 0),.p (.int .i64 0)]],s.k⟩) (fun i=>i) (fun i=>i≤L.length)
  (fun o e H=>(o= .exit 0∧e.get 5= .box 1 0∧e.get 3= .box 0 0∧e.get 6= .box 2 0∧e.get 7= .box 3 0∧H=⟨[[.p (jg sp.so),.p (bZ sp.fi),.p (jh sp.pr),.p (ji sp.fa),.p (dy T),.p (.int .i64 ((calls:Nat):Int)),.p (.bool ins)],a.cl.map .p,(aj 0 Bt.e).map .p,[.p (.int .i64 0),.p (.int .i64 0)]],s.k⟩)∨
   (o= .ret∧e.get 6= .box 2 0∧e.get 7= .box 3 0∧∃u:Bt,H=⟨[[.p (jg sp.so),.p (bZ sp.fi),.p (jh sp.pr),.p (ji sp.fa),.p (dy T),.p (.int .i64 ((calls:Nat):Int)),.p (.bool ins)],a.cl.map .p,(aj 1 u).map .p,[.p (.int .i64 0),.p (.int .i64 0)]],s.k⟩))
  (by
   intro i hi;have ae:=rf (bd vq 0)
   conv at ae=>rhs;reduce
   have hf:=rf vq
   conv at hf=>rhs;reduce
   rw[←ae] at hf;have aK:cE=cE:=rfl
   conv at aK=>rhs;reduce
   try rw[←aK] at hf
   try rw[←aK] at ae
   clear aK;rw[ae];clear hf ae;cases i with
   |zero=>
    clear hs hk;refine aX (Q:=fun o e H=>o= .exit 0∧e.get 5= .box 1 0∧e.get 3= .box 0 0∧e.get 6= .box 2 0∧e.get 7= .box 3 0∧H=⟨[[.p (jg sp.so),.p (bZ sp.fi),.p (jh sp.pr),.p (ji sp.fa),.p (dy T),.p (.int .i64 ((calls:Nat):Int)),.p (.bool ins)],a.cl.map .p,(aj 0 Bt.e).map .p,[.p (.int .i64 0),.p (.int .i64 0)]],s.k⟩) ?_ fun o e H h=>.inr ⟨by obtain⟨rfl,-⟩:=h;simp,.inl h⟩;cases s<;>(simp only[SF.d,SF.k] at *;simp[-aE,-aO])
   |succ j=>
    have hj:j<L.length:=hi;have aM:=ahB hs hj 0;have w0:((j+1 :Nat):Int)-1=(j:Int):=by omega
    have w1:IntKind.i64.wrap ((j:Int)-1)=(j:Int)-1:=wrap64 (by omega) (by omega);rw[w0];clear hs hk;generalize L[j]=v at *;by_cases hc:v.nm=a.nm
    ·refine aX (Q:=fun o e H=>o= .ret∧e.get 6= .box 2 0∧e.get 7= .box 3 0∧H=⟨[[.p (jg sp.so),.p (bZ sp.fi),.p (jh sp.pr),.p (ji sp.fa),.p (dy T),.p (.int .i64 ((calls:Nat):Int)),.p (.bool ins)],a.cl.map .p,(aj 1 v.b).map .p,[.p (.int .i64 0),.p (.int .i64 0)]],s.k⟩) ?_ ?_
     ·cases s<;>(simp only[SF.d,SF.k] at *;simp[-aE,-aO,cz,eZ,cn,j5,aM,hc,ahz,ahA])
     ·rintro o e H ⟨rfl,q1,q2,rfl⟩;exact .inr ⟨by simp,.inr ⟨rfl,q1,q2,v.b,rfl⟩⟩
    ·refine aX (Q:=nx [1,3,5,6,7,8] [(1,s.d 361 66 0),(3,.box 0 0),(5,.box 1 0),(6,.box 2 0),(7,.box 3 0),(8,.p (.int .i64 ((j:Int)-1)))] ⟨[[.p (jg sp.so),.p (bZ sp.fi),.p (jh sp.pr),.p (ji sp.fa),.p (dy T),.p (.int .i64 ((calls:Nat):Int)),.p (.bool ins)],a.cl.map .p,(aj 0 Bt.e).map .p,[.p (.int .i64 0),.p (.int .i64 0)]],s.k⟩) ?_ fun o e H h=>.inl ⟨j,by omega,by omega,h⟩;cases s<;>(simp only[SF.d,SF.k] at *;simp[-aE,-aO,aM,hc,w1])) L.length (aV _)
 obtain⟨o,e,H,hx,hq⟩:=bJ key;have hw:IntKind.i64.wrap ((L.length:Int)-1)=(L.length:Int)-1:=wrap64 (by omega) (by omega);have fin:∀(ar:Int) (r:Bt) (er pos:Int),(er=0→1≤ar∧ar≤3)→post (di [.cell 6 (some 65),.cell 7 (some 2)] s.k (.bA [.p (gH ar r),.p (.agg [.int .i64 er,.int .i64 pos])])) (ay (call pg) pg.G bf ((vq.map fun f=>f.body).getD .skip) ⟨entry 0 ([vP sp T calls ins].map .p++s.d 361 66 0::[PD.agg a.cl].map .p),⟨[],s.k⟩⟩)→
     ∃(ar:Int) (r:Bt) (er pos:Int),(∀d H,s.at 361 66 d H→av (call pg) 284 [.p (vP sp T calls ins),d,.p (.agg a.cl)] H=some (.val (.bA [.p (gH ar r),.p (.agg [.int .i64 er,.int .i64 pos])]),H))∧(er=0→True→1≤ar∧ar≤3):=by
  intro ar r er pos h1 hr;have ae:=rf (bd vq 0)
  conv at ae=>rhs;reduce
  have hf:=rf vq
  conv at hf=>rhs;reduce
  rw[←ae] at hf;rw[hf] at hr;exact⟨ar,r,er,pos,vE (e:=361) (sz:=66) (pre:=[vP sp T calls ins]) (suf:=[.agg a.cl]) (s:=s) (Jg [_,_]) hf (fun _=>by cases s<;>rfl) (by cases s<;>rfl) rfl hr,fun h _=>h1 h⟩
 have ae:=rf (bd vq 0)
 conv at ae=>rhs;reduce
 have hf:=rf vq
 conv at hf=>rhs;reduce
 rw[←ae] at hf;have aK:cE=cE:=rfl
 conv at aK=>rhs;reduce
 try rw[←aK] at hf
 try rw[←aK] at ae
 clear aK;rw[hf] at fin;simp only[eA,kU] at fin;clear hf ae;clear hs key;simp at hx;rcases hq with⟨rfl,q5,q3,q6,q7,rfl⟩ |⟨rfl,q6,q7,u,rfl⟩
 ·by_cases k0:k=0
  ·refine fin 0 Bt.e 40 a.pos (fun h=>by omega) ?_;clear fin;cases s<;>(simp only[SF.d,SF.k] at *;simp[-aE,-aO,cu,dx,cz,eZ,cR,cn,j5,oW,di,hlen,hw,hx,q5,q3,q6,q7,hk,k0])
  ·by_cases k1:1<k
   ·refine fin 0 Bt.e 44 a.pos (fun h=>by omega) ?_;clear fin;have k2:(1 :Int)<(k:Int):=by omega
    cases s<;>(simp only[SF.d,SF.k] at *;simp[-aE,-aO,cu,dx,cz,eZ,cR,cn,j5,oW,di,hlen,hw,hx,q5,q3,q6,q7,hk,k0,k2])
   ·refine fin ar r 0 0 (fun _=>ig (by omega)) ?_;clear fin;have k2:¬(1 :Int)<(k:Int):=by omega
    cases s<;>(simp only[SF.d,SF.k] at *;simp[-aE,-aO,cu,dx,cz,eZ,cR,cn,j5,di,hlen,hw,hx,q5,q3,q6,q7,hk,k0,k2])
 ·refine fin 1 u 0 0 (fun _=>by omega) ?_;clear fin;cases s<;>(simp only[SF.d,SF.k] at *;simp[-aE,-aO,cu,dx,cR,cn,di,hlen,hw,hx,q6,q7])
abbrev vB(sp:Sp)(T:Sl Bool)(calls:Nat)(ins:Bool):List D:=[.p (jg sp.so),.p (bZ sp.fi),.p (jh sp.pr),.p (ji sp.fa),.p (dy T),.p (.int .i64 ((calls:Nat):Int)),.p (.bool ins)]
theorem ahD(sp:Sp)(a:Nd)(T:Sl Bool)(calls:Nat)(ps:Sl Pm)(d0:D)(k0:List Nat)(i:Nat)(hi:i<(els ps).length)(ar er pos:Int)(r:Bt):
    post (fun o e H=>e.get 6= .box 2 0∧((o= .exit 2∧e.get 1=d0∧e.get 3= .box 0 0∧e.get 5= .box 1 0∧e.get 8= .p (im ps)∧e.get 9= .p (.int .i64 ((i:Nat):Int))∧H=⟨[vB sp T calls true,a.cl.map .p,[.p (.int .i64 0),.p (.int .i64 0)],(aj ar r).map .p,[.p (.int .i64 er),.p (.int .i64 pos)]],k0⟩)∨(o= .ret∧H=⟨[vB sp T calls true,a.cl.map .p,[.p (.int .i64 43),.p (.int .i64 a.pos)],(aj ar r).map .p,[.p (.int .i64 er),.p (.int .i64 pos)]],k0⟩)))
     (eu (call pg) pg.G [1,3,5,6,8,9,10,12] (bd jz 1) ⟨[(1,d0),(3,.box 0 0),(5,.box 1 0),(6,.box 2 0),(8,.p (im ps)),(9,.p (.int .i64 ((i:Nat):Int))),(10,.box 3 0),(12,.p (.int .i64 0))],⟨[vB sp T calls true,a.cl.map .p,[.p (.int .i64 0),.p (.int .i64 0)],(aj ar r).map .p,[.p (.int .i64 er),.p (.int .i64 pos)]],k0⟩⟩):=by
 refine jd (c:=call pg) (G:=pg.G) (keep:=[1,3,5,6,8,9,10,12]) (b:=bd jz 1) (fun k=>[(1,d0),(3,.box 0 0),(5,.box 1 0),(6,.box 2 0),(8,.p (im ps)),(9,.p (.int .i64 ((i:Nat):Int))),(10,.box 3 0),(12,.p (.int .i64 ((k:Nat):Int)))]) (fun _=>⟨[vB sp T calls true,a.cl.map .p,[.p (.int .i64 0),.p (.int .i64 0)],(aj ar r).map .p,[.p (.int .i64 er),.p (.int .i64 pos)]],k0⟩) 4 (fun _=>True) _ trivial ?_ ?_
 ·intro k hk _
  conv in bd jz 1=>reduce
  have h1:(k:Int)<4:=by omega
  have h2:(k:Int)<64:=by omega
  have g1:=tQ (a:=ar) (b:=r) (k:=k) (by omega);have aM:=EU hi;have k1:=bw (k:=k) (by omega);generalize (els ps)[i]=q at *;cases hb:r.g k with
  |false=>
   rw[hb] at g1;simp[-aE,-aO,jL,h1,h2,g1,k1]
  |true=>
   rw[hb] at g1;by_cases hc:(k:Int)=q.so
   ·rw[←hc] at aM;simp[-aE,-aO,jL,h1,h2,g1,aM,k1]
   ·simp[-aE,-aO,eZ,oW,jL,h1,h2,g1,aM,hc]
 ·intro _
  conv in bd jz 1=>reduce
  simp[-aE,-aO]
theorem ahE(sp:Sp)(ok:nj sp)(a:Nd)(hs4:a.size≤400)(ih:∀k∈a.ks,vG sp 222 k (1≤k.op∧k.op≤15)):
    ∀(T:Sl Bool) (calls:Nat) (ins:Bool) (s:SF) (L:List Vr),xh 361 66 s (L.map Vr.p)→L.length+a.size≤1000→
    ∃(er pos:Int),∀d H,s.at 361 66 d H→av (call pg) 285 [.p (vP sp T calls ins),d,.p (.agg a.cl)] H=some (.val (.p (.agg [.int .i64 er,.int .i64 pos])),H):=by
 intro T calls ins s L hs hb;have cg:(els sp.pr).length<4611686018427387904:=by have:=ok.np;omega
 obtain⟨p1,c1,d1⟩:=Jl sp cg calls a.nm;obtain⟨p2,c2,d2⟩:=Jl sp cg (els sp.pr).length a.nm;have fin:∀(er pos:Int),post (di [.cell 6 (some 2)] s.k (.p (.agg [.int .i64 er,.int .i64 pos]))) (ay (call pg) pg.G bf ((jz.map fun f=>f.body).getD .skip) ⟨entry 0 ([vP sp T calls ins].map .p++s.d 361 66 0::[PD.agg a.cl].map .p),⟨[],s.k⟩⟩)→
     ∃(er pos:Int),∀d H,s.at 361 66 d H→av (call pg) 285 [.p (vP sp T calls ins),d,.p (.agg a.cl)] H=some (.val (.p (.agg [.int .i64 er,.int .i64 pos])),H):=by
  intro er pos hr;have ai:=rf (bd jz 1)
  conv at ai=>rhs;reduce
  have ae:=rf (bd jz 0)
  conv at ae=>rhs;reduce
  rw[←ai] at ae;have hf:=rf jz
  conv at hf=>rhs;reduce
  rw[←ai] at hf;rw[←ae] at hf;rw[hf] at hr;exact⟨er,pos,vE (e:=361) (sz:=66) (pre:=[vP sp T calls ins]) (suf:=[.agg a.cl]) (s:=s) (EX _) hf (fun _=>by cases s<;>rfl) (by cases s<;>rfl) rfl hr⟩
 have nI:a.ks.length≤400:=by
  have:=Cd a.ks;have:=size_eq a;omega
 by_cases g1:p1<0
 ·skip
  have ai:=rf (bd jz 1)
  conv at ai=>rhs;reduce
  have ae:=rf (bd jz 0)
  conv at ae=>rhs;reduce
  rw[←ai] at ae;have hf:=rf jz
  conv at hf=>rhs;reduce
  rw[←ai] at hf;rw[←ae] at hf;have aK:cE=cE:=rfl
  conv at aK=>rhs;reduce
  try rw[←aK] at hf
  try rw[←aK] at ae
  try rw[←aK] at ai
  clear aK;rw[hf] at fin;simp only[eA,kU] at fin;clear hf ae ai;clear hs ih;by_cases g2:p2<0
  ·refine fin 40 a.pos ?_;clear fin;cases s<;>(simp only[SF.d,SF.k] at *;simp[-aE,-aO,eZ,oW,di,c1,c2,g1,g2,lj])
  ·refine fin 45 a.pos ?_;clear fin;cases s<;>(simp only[SF.d,SF.k] at *;simp[-aE,-aO,eZ,oW,di,c1,c2,g1,g2,lj])
 ·obtain⟨p,rfl,hp,-⟩:=d1 (by omega);have aM:=EV hp;have hpm:=(ok.pd _ (bO hp)).1.1;generalize (els sp.pr)[p]=q at *;by_cases g3:a.ks.length=(els q.ps).length
  ·have key:=jd (c:=call pg) (G:=pg.G) (keep:=[1,3,5,6,8,9]) (b:=bd jz 0) (fun i=>[(1,s.d 361 66 0),(3,.box 0 0),(5,.box 1 0),(6,.box 2 0),(8,.p (im q.ps)),(9,.p (.int .i64 ((i:Nat):Int)))]) (fun _=>⟨[vB sp T calls true,a.cl.map .p,[.p (.int .i64 0),.p (.int .i64 0)]],s.k⟩) (els q.ps).length (fun _=>True)
    (fun o e H=>e.get 6= .box 2 0∧((o= .exit 0∧H=⟨[vB sp T calls true,a.cl.map .p,[.p (.int .i64 0),.p (.int .i64 0)]],s.k⟩)∨(o= .ret∧∃er pos:Int,H=⟨[vB sp T calls true,a.cl.map .p,[.p (.int .i64 er),.p (.int .i64 pos)]],s.k⟩))) trivial
    (fun i hi _=>by
     have bp:i<a.ks.length:=by omega
     have N0:=Cc (bO bp);obtain⟨ar,r,er,pos,he,-⟩:=ih _ (bO bp) T calls true s L hs (by omega);have he:=fun bx=>he (s.d 361 66 0) ⟨bx,s.k⟩ (zM 361 66 s bx);have Jo:=xf bp;have k1:=bw (k:=i) (by omega);have ei:=ahD sp a T calls q.ps (s.d 361 66 0) s.k i hi ar 0 pos r;clear hs ih c1 c2 d1 d2 aM;generalize a.ks[i]=kk at *;have ai:=rf (bd jz 1)
     conv at ai=>rhs;reduce
     have ae:=rf (bd jz 0)
     conv at ae=>rhs;reduce
     rw[←ai] at ae;have hf:=rf jz
     conv at hf=>rhs;reduce
     rw[←ai] at hf;rw[←ae] at hf;have aK:cE=cE:=rfl
     conv at aK=>rhs;reduce
     try rw[←aK] at hf
     try rw[←aK] at ae
     try rw[←aK] at ai
     clear aK;rw[ae];clear hf ae ai;by_cases e0:er=0
     ·subst e0;by_cases e1:ar=1
      ·subst e1;obtain⟨o,e,H,hx,h6,hq⟩:=bJ ei;simp at hx;rcases hq with⟨rfl,q1,q3,q5,q8,q9,rfl⟩ |⟨rfl,rfl⟩
       ·cases s<;>(simp only[SF.d,SF.k] at *;simp[-aE,-aO,cu,cz,eZ,cn,lh,hi,Jo,he,k1,jO,hx,h6,q1,q3,q5,q8,q9])
       ·refine aX (Q:=fun o e H=>o= .ret∧e.get 6= .box 2 0∧H=⟨[vB sp T calls true,a.cl.map .p,[.p (.int .i64 43),.p (.int .i64 a.pos)]],s.k⟩) ?_ ?_
        ·cases s<;>(simp only[SF.d,SF.k] at *;simp[-aE,-aO,cu,cz,eZ,cn,lh,hi,Jo,he,jO,hx,h6])
        ·rintro o e H ⟨rfl,q,rfl⟩;exact .inr ⟨by simp,q,.inr ⟨rfl,_,_,rfl⟩⟩
      ·refine aX (Q:=fun o e H=>o= .ret∧e.get 6= .box 2 0∧H=⟨[vB sp T calls true,a.cl.map .p,[.p (.int .i64 42),.p (.int .i64 a.pos)]],s.k⟩) ?_ ?_
       ·clear ei;cases s<;>(simp only[SF.d,SF.k] at *;simp[-aE,-aO,cu,cz,eZ,cn,oW,lh,hi,Jo,he,jO,e1])
       ·rintro o e H ⟨rfl,q,rfl⟩;exact .inr ⟨by simp,q,.inr ⟨rfl,_,_,rfl⟩⟩
     ·refine aX (Q:=fun o e H=>o= .ret∧e.get 6= .box 2 0∧H=⟨[vB sp T calls true,a.cl.map .p,[.p (.int .i64 er),.p (.int .i64 pos)]],s.k⟩) ?_ ?_
      ·clear ei;cases s<;>(simp only[SF.d,SF.k] at *;simp[-aE,-aO,cu,cz,eZ,cn,lh,hi,Jo,he,jO,e0])
      ·rintro o e H ⟨rfl,q,rfl⟩;exact .inr ⟨by simp,q,.inr ⟨rfl,_,_,rfl⟩⟩)
    (fun _=>by
     have ai:=rf (bd jz 1)
     conv at ai=>rhs;reduce
     have ae:=rf (bd jz 0)
     conv at ae=>rhs;reduce
     rw[←ai] at ae;have hf:=rf jz
     conv at hf=>rhs;reduce
     rw[←ai] at hf;rw[←ae] at hf;have aK:cE=cE:=rfl
     conv at aK=>rhs;reduce
     try rw[←aK] at hf
     try rw[←aK] at ae
     try rw[←aK] at ai
     clear aK;rw[ae];clear hf ae ai;clear hs ih;cases s<;>(simp only[SF.d,SF.k] at *;simp[-aE,-aO,cu,lh]))
   obtain⟨o,e,H,hx,h6,hq⟩:=bJ key;simp at hx;have ai:=rf (bd jz 1)
   conv at ai=>rhs;reduce
   have ae:=rf (bd jz 0)
   conv at ae=>rhs;reduce
   rw[←ai] at ae;have hf:=rf jz
   conv at hf=>rhs;reduce
   rw[←ai] at hf;rw[←ae] at hf;have aK:cE=cE:=rfl
   conv at aK=>rhs;reduce
   try rw[←aK] at hf
   try rw[←aK] at ae
   try rw[←aK] at ai
   clear aK;rw[hf] at fin;simp only[eA,kU] at fin;clear hf ae ai;clear hs ih key;rcases hq with⟨rfl,rfl⟩ |⟨rfl,er,pos,rfl⟩
   ·refine fin 0 0 ?_;clear fin;cases s<;>(simp only[SF.d,SF.k] at *;simp[-aE,-aO,eZ,tR,j5,di,c1,lh,kQ,aM,g1,g3,hx,h6])
   ·refine fin er pos ?_;clear fin;cases s<;>(simp only[SF.d,SF.k] at *;simp[-aE,-aO,tR,di,c1,lh,kQ,aM,g1,g3,hx,h6])
  ·skip
   have ai:=rf (bd jz 1)
   conv at ai=>rhs;reduce
   have ae:=rf (bd jz 0)
   conv at ae=>rhs;reduce
   rw[←ai] at ae;have hf:=rf jz
   conv at hf=>rhs;reduce
   rw[←ai] at hf;rw[←ae] at hf;have aK:cE=cE:=rfl
   conv at aK=>rhs;reduce
   try rw[←aK] at hf
   try rw[←aK] at ae
   try rw[←aK] at ai
   clear aK;rw[hf] at fin;simp only[eA,kU] at fin;clear hf ae ai;clear hs ih;refine fin 45 a.pos ?_;clear fin;cases s<;>(simp only[SF.d,SF.k] at *;simp[-aE,-aO,eZ,oW,di,c1,lh,kQ,aM,g1,g3])
theorem E7:oV.length=66:=by simp[oV]
theorem ahF:∀x∈oV,x.one=true:=by
 intro x hx;simp only[oV,cN] at hx;rcases hx with rfl |rfl |hx
 ·rfl
 ·rfl
 ·obtain⟨y,-,rfl⟩:=dz.1 hx;rfl
theorem E8:(∀x∈oV,x.one=true)=True:=eq_true ahF
theorem ahG(v:Vr):∀x∈kS v,x.one=true:=by
 intro x hx;simp only[kS,cN] at hx;rcases hx with rfl |hx
 ·rfl
 ·exact NV _ _ x hx
theorem E9(v:Vr):(∀x∈kS v,x.one=true)=True:=eq_true (ahG v)
theorem Fb(nm:List UInt8)(b:Bt):aO (oV.map D.p) [(0,1,.p (.str nm)),(1,65,.p (.agg (aj 1 b)))]=some ((kS ⟨nm,b⟩).map D.p):=by
 have h:oV= .str []::aj 0 Bt.e:=rfl;rw[h];simp only[aO,dA];have h2:(D.p (PD.agg (aj 1 b))).cells=(aj 1 b).map D.p:=by simp[D.cells]
 have h1:(D.p (PD.str nm)).cells=[D.p (PD.str nm)]:=rfl;have h3:((aj 1 b).map D.p).length=65:=by simp
 have h4:((aj 1 b).map D.p).all D.one=true:=agO 1 b;have h5:(PD.str nm).one=true:=rfl;simp[h1,h2,h5,aE,kS,zz,cn,Kl]
theorem zN{e sz:Nat}{es:List PD}:eF sz (.cI e sz es)=some es:=by simp[eF,D.iR]
theorem Ck{t e sz:Nat}{es:List PD}:eF sz (.bk t e sz es)=some es:=by simp[eF,D.iR]
theorem VV{n:Nat}(h:n≤1001):roomy n 88=true:=by
 have :n*88≤1001*88:=kz _ h;simp only[roomy,bQ,decide_eq_true_eq];omega
theorem ahH(sp:Sp)(a k0 k1:Nd)(nI:a.ks=[k0,k1]){r0 r1:Prop}(VW:vG sp 222 k0 r0)(VX:vG sp 222 k1 r1):vG sp 286 a True:=by
 intro T calls ins s L hs hb;have aS:a.size=1+(k0.size+(k1.size+0)):=by rw[size_eq,nI];rfl
 have i0:=xf (a:=a) (k:=0) (by rw[nI];simp);have i1:=xf (a:=a) (k:=1) (by rw[nI];simp);simp only[nI,p7,xS,gJ,uh] at i0 i1;obtain⟨xm,jJ⟩:∃xm,xm=if a.op=15 then true else ins:=⟨_,rfl⟩
 obtain⟨ar,b,er,pos,kf,-⟩:=VW T calls xm s L hs (by omega);have kf:=fun bx=>kf (s.d 361 66 0) ⟨bx,s.k⟩ (zM 361 66 s bx);obtain⟨ar1,b1,er1,ahJ,yk,-⟩:=VX T calls xm (.tk ((L++[Vr.mk a.nm b]).map Vr.p)) (L++[Vr.mk a.nm b]) VA (by simp;omega);simp only[vW,dA,mF] at yk;have hp:Vr.p ⟨a.nm,b⟩= .agg (kS ⟨a.nm,b⟩):=rfl;rw[hp] at yk;have hl:(L.map Vr.p).length≤1000:=by simp;omega
 have q0:=fun bx=>yk (.bk 0 361 66 (L.map Vr.p++[.agg (kS ⟨a.nm,b⟩)])) ⟨bx,[(L.map Vr.p).length+1]⟩ ⟨0,rfl,by simp⟩;have q1:=fun bx=>yk (.bk 1 361 66 (L.map Vr.p++[.agg (kS ⟨a.nm,b⟩)])) ⟨bx,[(L.map Vr.p).length,(L.map Vr.p).length+1]⟩ ⟨1,rfl,by simp⟩;have rD:=hs.src 0;have v1:=VV (n:=(L.map Vr.p).length) (by omega);have v2:=VV (n:=(L.map Vr.p).length+1) (by omega);clear yk hs hb VW VX;generalize L.map Vr.p=M at *;have fin:∀(ar:Int) (r:Bt) (er pos:Int),(er=0→1≤ar∧ar≤3)→post (di [.cell 6 (some 65),.cell 7 (some 2)] s.k (.bA [.p (gH ar r),.p (.agg [.int .i64 er,.int .i64 pos])])) (ay (call pg) pg.G bf ((IK.map fun f=>f.body).getD .skip) ⟨entry 0 ([vP sp T calls ins].map .p++s.d 361 66 0::[PD.agg a.cl].map .p),⟨[],s.k⟩⟩)→
     ∃(ar:Int) (r:Bt) (er pos:Int),(∀d H,s.at 361 66 d H→av (call pg) 286 [.p (vP sp T calls ins),d,.p (.agg a.cl)] H=some (.val (.bA [.p (gH ar r),.p (.agg [.int .i64 er,.int .i64 pos])]),H))∧(er=0→True→1≤ar∧ar≤3):=by
  intro ar r er pos h1 hr;have hf:=rf IK
  conv at hf=>rhs;reduce
  rw[hf] at hr;exact⟨ar,r,er,pos,vE (e:=361) (sz:=66) (pre:=[vP sp T calls ins]) (suf:=[.agg a.cl]) (s:=s) (Jg [_,_]) hf (fun _=>by cases s<;>rfl) (by cases s<;>rfl) rfl hr,fun h _=>h1 h⟩
 have hf:=rf IK
 conv at hf=>rhs;reduce
 have mz:oV=oV:=rfl
 conv at mz=>rhs;reduce
 try rw[←mz] at hf
 clear mz;have aK:cE=cE:=rfl
 conv at aK=>rhs;reduce
 try rw[←aK] at hf
 clear aK;rw[hf] at fin;simp only[eA,kU] at fin;clear hf;by_cases e0:er=0
 ·by_cases e1:ar=1
  ·subst e0 e1;refine fin 1 b er1 ahJ (fun _=>by omega) ?_;clear fin;by_cases jk:a.op=15
   ·rw[if_pos jk] at jJ;subst jJ;cases s with
    |pl x=>simp only[SF.d,SF.k] at *;simp[-eF,-aE,-aO,cu,dx,cz,eZ,tR,cR,cn,di,jk,kf,i0,i1,rD,v1,v2,q0,jO,E7,E8,E9,Fb,zN]
    |tk es=>
     have hM:es=M:=by simpa[SF.d,Ck] using rD
     subst hM;simp only[SF.d,SF.k] at *;simp[-eF,-aE,-aO,cu,dx,cz,eZ,tR,cR,cn,di,jk,kf,i0,i1,rD,v1,v2,q1,jO,E7,E8,E9,Fb,zN]
   ·rw[if_neg jk] at jJ;subst jJ;cases s with
    |pl x=>simp only[SF.d,SF.k] at *;simp[-eF,-aE,-aO,cu,dx,cz,eZ,cR,cn,di,jk,kf,i0,i1,rD,v1,v2,q0,jO,E7,E8,E9,Fb,zN]
    |tk es=>
     have hM:es=M:=by simpa[SF.d,Ck] using rD
     subst hM;simp only[SF.d,SF.k] at *;simp[-eF,-aE,-aO,cu,dx,cz,eZ,cR,cn,di,jk,kf,i0,i1,rD,v1,v2,q1,jO,E7,E8,E9,Fb,zN]
  ·subst e0;refine fin 0 Bt.e 42 a.pos (fun h=>by omega) ?_;clear fin;by_cases jk:a.op=15
   ·rw[if_pos jk] at jJ;subst jJ;cases s with
    |pl x=>simp only[SF.d,SF.k] at *;simp[-eF,-aE,-aO,cu,dx,cz,eZ,tR,cR,cn,j5,oW,di,jk,kf,i0,e1]
    |tk es=>
     have hM:es=M:=by simpa[SF.d,Ck] using rD
     subst hM;simp only[SF.d,SF.k] at *;simp[-eF,-aE,-aO,cu,dx,cz,eZ,tR,cR,cn,j5,oW,di,jk,kf,i0,jO,e1]
   ·rw[if_neg jk] at jJ;subst jJ;cases s with
    |pl x=>simp only[SF.d,SF.k] at *;simp[-eF,-aE,-aO,cu,dx,cz,eZ,cR,cn,j5,oW,di,jk,kf,i0,e1]
    |tk es=>
     have hM:es=M:=by simpa[SF.d,Ck] using rD
     subst hM;simp only[SF.d,SF.k] at *;simp[-eF,-aE,-aO,cu,dx,cz,eZ,cR,cn,j5,oW,di,jk,kf,i0,jO,e1]
 ·refine fin 0 Bt.e er pos (fun h=>absurd h e0) ?_;clear fin;by_cases jk:a.op=15
  ·rw[if_pos jk] at jJ;subst jJ;cases s with
   |pl x=>simp only[SF.d,SF.k] at *;simp[-eF,-aE,-aO,cu,dx,cz,eZ,tR,cR,cn,j5,di,jk,kf,i0,e0]
   |tk es=>
    have hM:es=M:=by simpa[SF.d,Ck] using rD
    subst hM;simp only[SF.d,SF.k] at *;simp[-eF,-aE,-aO,cu,dx,cz,eZ,tR,cR,cn,j5,di,jk,kf,i0,jO,e0]
  ·rw[if_neg jk] at jJ;subst jJ;cases s with
   |pl x=>simp only[SF.d,SF.k] at *;simp[-eF,-aE,-aO,cu,dx,cz,eZ,cR,cn,j5,di,jk,kf,i0,e0]
   |tk es=>
    have hM:es=M:=by simpa[SF.d,Ck] using rD
    subst hM;simp only[SF.d,SF.k] at *;simp[-eF,-aE,-aO,cu,dx,cz,eZ,cR,cn,j5,di,jk,kf,i0,jO,e0]
def Oe:Nat→SC→SC
 | 0,x=>x
 |n+1,.seq _ b=>Oe n b
 |_+1,x=>x
def sqL:SC→SC
 | .seq a _=>a
 |x=>x
noncomputable def pt (x:Option FC) (n:Nat):SC:=sqL (Oe n ((x.map fun f=>f.body).getD .skip))
noncomputable def Cl (x:Option FC) (n:Nat):SC:=Oe n ((x.map fun f=>f.body).getD .skip)
theorem ahL(T:Sl Bool):Oc (.pl (dy T)) (els T):=by
 refine⟨fun _=>by simp only[SF.d,pP,cx],fun _ k h=>?_,fun _=>?_⟩
 ·have h':k<(els T).length:=by simpa using h
  simp only[SF.d,zJ h',List.getElem_map,wZ]
 ·cases T with
  |of l=>cases l<;>simp[SF.d,dy,fD,Sl.map,eF,D.iR,els]
  |_=>simp[SF.d,dy,fD,Sl.map,eF,D.iR,els]
theorem ahM(sp:Sp)(ok:nj sp)(T:Sl Bool)(calls:Nat)(ins:Bool)(a:Nd)(d0:D)(k0:List Nat):∃z:Bool,
    (z=true→post (fun o e H=>o= .ret∧e.get 6= .box 2 0∧e.get 7= .box 3 0∧H=⟨[vB sp T calls ins,a.cl.map .p,(aj 0 Bt.e).map .p,[.p (.int .i64 46),.p (.int .i64 a.pos)]],k0⟩)
     (ay (call pg) pg.G bf (pt ez 1) ⟨[(1,d0),(3,.box 0 0),(5,.box 1 0),(6,.box 2 0),(7,.box 3 0)],⟨[vB sp T calls ins,a.cl.map .p,(aj 0 Bt.e).map .p,[.p (.int .i64 0),.p (.int .i64 0)]],k0⟩⟩))∧
    (z=false→ay (call pg) pg.G bf (pt ez 1) ⟨[(1,d0),(3,.box 0 0),(5,.box 1 0),(6,.box 2 0),(7,.box 3 0)],⟨[vB sp T calls ins,a.cl.map .p,(aj 0 Bt.e).map .p,[.p (.int .i64 0),.p (.int .i64 0)]],k0⟩⟩=
     some (.norm,⟨[(1,d0),(3,.box 0 0),(5,.box 1 0),(6,.box 2 0),(7,.box 3 0),(36,.p (.bool false))],⟨[vB sp T calls ins,a.cl.map .p,(aj 0 Bt.e).map .p,[.p (.int .i64 0),.p (.int .i64 0)]],k0⟩⟩)):=by
 obtain⟨b1,c1⟩:=VO a.op;have cg:(els sp.pr).length<4611686018427387904:=by have:=ok.np;omega
 obtain⟨b2,c2⟩:=VP sp cg (ahL T) calls a.nm;have c2:=fun H=>c2 _ H rfl;have eo:pt ez 1=pt ez 1:=rfl
 conv at eo=>rhs;reduce
 have aK:cE=cE:=rfl
 conv at aK=>rhs;reduce
 rw[←aK] at eo;clear aK;rw[eo];clear eo;cases ins with
 |false=>
  refine⟨false,fun h=>(by cases h),fun _=>?_⟩;simp[-aE,-aO,cu]
 |true=>
  cases b1 with
  |true=>
   refine⟨true,fun _=>?_,fun h=>(by cases h)⟩;simp[-aE,-aO,cu,cz,eZ,cR,cn,j5,oW,c1]
  |false=>
   by_cases nu:a.op=47
   ·rw[nu] at c1;cases b2 with
    |true=>
     refine⟨true,fun _=>?_,fun h=>(by cases h)⟩;simp[-aE,-aO,cu,cz,eZ,cR,cn,j5,oW,nu,c1,c2]
    |false=>
     refine⟨false,fun h=>(by cases h),fun _=>?_⟩;simp[-aE,-aO,cu,nu,c1,c2]
   ·refine⟨false,fun h=>(by cases h),fun _=>?_⟩;simp[-aE,-aO,cu,nu,c1]
abbrev Jp(d0:D):Env:=[(1,d0),(3,.box 0 0),(5,.box 1 0),(6,.box 2 0),(7,.box 3 0),(36,.p (.bool false))]
theorem ahN(sp:Sp)(T:Sl Bool)(calls:Nat)(ins:Bool)(a:Nd)(d0:D)(k0:List Nat)(dF:a.op=1)(ar:Int)(r:Bt)(er pos:Int)
    (h:∀bx,av (call pg) 284 [.p (vP sp T calls ins),d0,.p (.agg a.cl)] ⟨bx,k0⟩=some (.val (.bA [.p (gH ar r),.p (.agg [.int .i64 er,.int .i64 pos])]),⟨bx,k0⟩)):
    post (fun o e H=>o= .ret∧e.get 6= .box 2 0∧e.get 7= .box 3 0∧H=⟨[vB sp T calls ins,a.cl.map .p,(aj ar r).map .p,[.p (.int .i64 er),.p (.int .i64 pos)]],k0⟩)
     (ay (call pg) pg.G bf (pt ez 2) ⟨Jp d0,⟨[vB sp T calls ins,a.cl.map .p,(aj 0 Bt.e).map .p,[.p (.int .i64 0),.p (.int .i64 0)]],k0⟩⟩):=by
 have eo:pt ez 2=pt ez 2:=rfl
 conv at eo=>rhs;reduce
 rw[eo];clear eo;simp only[Nd.cl,dF] at h;simp[-aE,-aO,cz,eZ,cn,dF,h]
theorem ahO(sp:Sp)(T:Sl Bool)(calls:Nat)(ins:Bool)(a:Nd)(d0:D)(k0:List Nat)(dF:a.op=47)(er pos:Int)
    (h:∀bx,av (call pg) 285 [.p (vP sp T calls ins),d0,.p (.agg a.cl)] ⟨bx,k0⟩=some (.val (.p (.agg [.int .i64 er,.int .i64 pos])),⟨bx,k0⟩)):
    post (fun o e H=>o= .ret∧e.get 6= .box 2 0∧e.get 7= .box 3 0∧H=⟨[vB sp T calls ins,a.cl.map .p,(aj 0 Bt.e).map .p,[.p (.int .i64 er),.p (.int .i64 pos)]],k0⟩)
     (ay (call pg) pg.G bf (pt ez 2) ⟨Jp d0,⟨[vB sp T calls ins,a.cl.map .p,(aj 0 Bt.e).map .p,[.p (.int .i64 0),.p (.int .i64 0)]],k0⟩⟩):=by
 have eo:pt ez 2=pt ez 2:=rfl
 conv at eo=>rhs;reduce
 have aK:cE=cE:=rfl
 conv at aK=>rhs;reduce
 rw[←aK] at eo;clear aK;rw[eo];clear eo;simp only[Nd.cl,dF] at h;simp[-aE,-aO,cu,cz,eZ,cR,cn,j5,dF,h]
theorem ahP(sp:Sp)(T:Sl Bool)(calls:Nat)(ins:Bool)(a:Nd)(d0:D)(k0:List Nat)(dF:a.op∈[15,45,46])(ar:Int)(r:Bt)(er pos:Int)
    (h:∀bx,av (call pg) 286 [.p (vP sp T calls ins),d0,.p (.agg a.cl)] ⟨bx,k0⟩=some (.val (.bA [.p (gH ar r),.p (.agg [.int .i64 er,.int .i64 pos])]),⟨bx,k0⟩)):
    post (fun o e H=>o= .ret∧e.get 6= .box 2 0∧e.get 7= .box 3 0∧H=⟨[vB sp T calls ins,a.cl.map .p,(aj ar r).map .p,[.p (.int .i64 er),.p (.int .i64 pos)]],k0⟩)
     (ay (call pg) pg.G bf (pt ez 2) ⟨Jp d0,⟨[vB sp T calls ins,a.cl.map .p,(aj 0 Bt.e).map .p,[.p (.int .i64 0),.p (.int .i64 0)]],k0⟩⟩):=by
 have eo:pt ez 2=pt ez 2:=rfl
 conv at eo=>rhs;reduce
 have aK:cE=cE:=rfl
 conv at aK=>rhs;reduce
 try rw[←aK] at eo
 clear aK;rw[eo];clear eo;simp at dF;rcases dF with dF |dF |dF<;>simp only[Nd.cl,dF] at h<;>simp[-aE,-aO,cu,cz,eZ,cn,dF,h]
theorem ahQ(sp:Sp)(T:Sl Bool)(calls:Nat)(ins:Bool)(a:Nd)(d0:D)(k0:List Nat)(dF:a.op∉[1,47,15,45,46]):∃xm:Bool,
    post (fun o e H=>o= .norm∧e.get 1=d0∧e.get 3= .box 0 0∧e.get 5= .box 1 0∧e.get 6= .box 2 0∧e.get 7= .box 3 0∧H=⟨[vB sp T calls xm,a.cl.map .p,(aj 0 Bt.e).map .p,[.p (.int .i64 0),.p (.int .i64 0)]],k0⟩)
     (ay (call pg) pg.G bf (pt ez 2) ⟨Jp d0,⟨[vB sp T calls ins,a.cl.map .p,(aj 0 Bt.e).map .p,[.p (.int .i64 0),.p (.int .i64 0)]],k0⟩⟩):=by
 have eo:pt ez 2=pt ez 2:=rfl
 conv at eo=>rhs;reduce
 have aK:cE=cE:=rfl
 conv at aK=>rhs;reduce
 try rw[←aK] at eo
 clear aK;rw[eo];clear eo;simp only[cN,mG,or_false,not_or] at dF;obtain⟨h1,nu,jk,h45,h46⟩:=dF;by_cases E5:a.op=12
 ·refine⟨true,?_⟩;simp[-aE,-aO,cu,tR,E5]
 ·by_cases E6:a.op=13
  ·refine⟨true,?_⟩;simp[-aE,-aO,cu,tR,E6]
  ·refine⟨ins,?_⟩;simp[-aE,-aO,cu,h1,nu,jk,h45,h46,E5,E6]
theorem ahT(e sz:Nat)(s:SF)(bx:List (List D))(l:List Nat):s.at e sz (s.d e sz 0) ⟨bx,s.k++l⟩:=by
 cases s with
 |pl x=>rfl
 |tk es=>exact⟨0,rfl,rfl⟩
theorem ahU{e sz by' m:Nat}{es:List PD}{x:PD}{bx:List (List D)}(h:es.length<1000000000)(hb:by'≤1000):fj e sz by' (.bk 1 e sz es) [x] ⟨bx,[m,es.length]⟩=some (.bk 1 e sz (es++[x]),⟨bx,[m,es.length+1]⟩):=by
 have hr:roomy (es.length+1) by'=true:=by
  have :(es.length+1)*by'≤1000000000*1000:=ug (by omega) hb;simp only[roomy,bQ,decide_eq_true_eq];omega
 simp[fj,hr]
def Jq(ks:List Nd)(Ls:List eK):Prop:=∀(i:Nat) (k:Nd) (l:eK),ks[i]? =some k→Ls[i]? =some l→1≤k.op→k.op≤15→1≤l.ar∧l.ar≤3
theorem ahV(sp:Sp)(a:Nd)(ha:a.size≤400)(ih:∀k∈a.ks,vG sp 222 k (1≤k.op∧k.op≤15))(T:Sl Bool)(calls:Nat)(ins:Bool)(s:SF)(L:List Vr)(hs:xh 361 66 s (L.map Vr.p))(hb:L.length+a.size≤1000):
    post (fun o e H=>e.get 6= .box 2 0∧e.get 7= .box 3 0∧((o= .exit 1∧e.get 3= .box 0 0∧e.get 5= .box 1 0∧∃Ls:List eK,Ls.length=a.ks.length∧Jq a.ks Ls∧e.get 8= .bk s.k.length 253 65 (Ls.map eK.p)∧H=⟨[vB sp T calls ins,a.cl.map .p,(aj 0 Bt.e).map .p,[.p (.int .i64 0),.p (.int .i64 0)]],s.k++[(Ls.map eK.p).length]⟩)∨
        (o= .ret∧∃(er pos:Int) (n:Nat),er≠0∧H=⟨[vB sp T calls ins,a.cl.map .p,(aj 0 Bt.e).map .p,[.p (.int .i64 er),.p (.int .i64 pos)]],s.k++[n]⟩)))
     (eu (call pg) pg.G [1,3,5,6,7,8,9] (bd ez 0) ⟨[(1,s.d 361 66 0),(3,.box 0 0),(5,.box 1 0),(6,.box 2 0),(7,.box 3 0),(8,.bk s.k.length 253 65 []),(9,.p (.int .i64 0))],⟨[vB sp T calls ins,a.cl.map .p,(aj 0 Bt.e).map .p,[.p (.int .i64 0),.p (.int .i64 0)]],s.k++[0]⟩⟩):=by
 have nI:a.ks.length≤400:=by
  have:=Cd a.ks;have:=size_eq a;omega
 refine eY (c:=call pg) (G:=pg.G) (keep:=[1,3,5,6,7,8,9]) (b:=bd ez 0) (σ:=Nat×List eK) (fun x=>[(1,s.d 361 66 0),(3,.box 0 0),(5,.box 1 0),(6,.box 2 0),(7,.box 3 0),(8,.bk s.k.length 253 65 (x.2.map eK.p)),(9,.p (.int .i64 ((x.1:Nat):Int)))])
  (fun x=>⟨[vB sp T calls ins,a.cl.map .p,(aj 0 Bt.e).map .p,[.p (.int .i64 0),.p (.int .i64 0)]],s.k++[(x.2.map eK.p).length]⟩) (fun x=>a.ks.length-x.1) (fun x=>x.1≤a.ks.length∧x.2.length=x.1∧Jq a.ks x.2) _ ?_ (0,[]) ⟨b9 _,rfl,fun i k l _ h=>by simp at h⟩
 rintro⟨i,Ls⟩ ⟨hi,hL,hK⟩;dsimp only at hi hL hK⊢;by_cases h:i<a.ks.length
 ·have N0:=Cc (bO h);obtain⟨ar,r,er,pos,he,hrel⟩:=ih _ (bO h) T calls ins s L hs (by omega);have he:=fun bx l=>he (s.d 361 66 0) ⟨bx,s.k++l⟩ (ahT 361 66 s bx l);have aM:=xf h;have k1:=bw (k:=i) (by omega);have VY:(Ls.map eK.p).length<1000000000:=by rw[cx];omega
  by_cases e0:er=0
  ·subst e0;have hx:Jq a.ks (Ls++[⟨ar,r⟩]):=by
    intro j k l hk hl g1 g2;by_cases hj:j<Ls.length
    ·rw[cH hj] at hl;exact hK j k l hk hl g1 g2
    ·rw[eL (by omega)] at hl;have oE:j=i:=by
      have:=(az.1 hl).1;simp at this;omega
     subst oE;rw[hL,xE] at hl;simp at hl;subst hl;rw[aA h] at hk;cases hk;exact hrel rfl ⟨g1,g2⟩
   refine aX (Q:=nx [1,3,5,6,7,8,9] [(1,s.d 361 66 0),(3,.box 0 0),(5,.box 1 0),(6,.box 2 0),(7,.box 3 0),(8,.bk s.k.length 253 65 (Ls.map eK.p++[.agg (aj ar r)])),(9,.p (.int .i64 ((i+1 :Nat):Int)))] ⟨[vB sp T calls ins,a.cl.map .p,(aj 0 Bt.e).map .p,[.p (.int .i64 0),.p (.int .i64 0)]],s.k++[(Ls.map eK.p).length+1]⟩) ?_ ?_
   ·have p0:=fun bx=>Od (e:=253) (sz:=65) (by':=72) (es:=Ls.map eK.p) (x:=.agg (aj ar r)) (bx:=bx) VY (by omega);have p1:=fun bx m=>ahU (e:=253) (sz:=65) (by':=72) (m:=m) (es:=Ls.map eK.p) (x:=.agg (aj ar r)) (bx:=bx) VY (by omega);have ae:=rf (bd ez 0)
    conv at ae=>rhs;reduce
    have hf:=rf ez
    conv at hf=>rhs;reduce
    rw[←ae] at hf;have aK:cE=cE:=rfl
    conv at aK=>rhs;reduce
    try rw[←aK] at hf
    try rw[←aK] at ae
    clear aK;rw[ae];clear hf ae;clear hs hb ih hL hK hx hrel;generalize Ls.map eK.p=M at *;generalize a.ks[i]=kk at *;cases s<;>(simp only[SF.d,SF.k,jm,jN] at *;simp[-eF,-fj,-aE,-aO,cu,dx,cz,eZ,cR,cn,kQ,h,aM,he,k1,jO,zN,p0,p1])
   ·intro o e H hh;refine .inl ⟨(i+1,Ls++[⟨ar,r⟩]),⟨by dsimp only;omega,by simp[hL],hx⟩,by dsimp only;omega,?_⟩;simpa[eK.p] using hh
  ·refine aX (Q:=fun o e H=>o= .ret∧e.get 6= .box 2 0∧e.get 7= .box 3 0∧H=⟨[vB sp T calls ins,a.cl.map .p,(aj 0 Bt.e).map .p,[.p (.int .i64 er),.p (.int .i64 pos)]],s.k++[(Ls.map eK.p).length]⟩) ?_ ?_
   ·skip
    have ae:=rf (bd ez 0)
    conv at ae=>rhs;reduce
    have hf:=rf ez
    conv at hf=>rhs;reduce
    rw[←ae] at hf;have aK:cE=cE:=rfl
    conv at aK=>rhs;reduce
    try rw[←aK] at hf
    try rw[←aK] at ae
    clear aK;rw[ae];clear hf ae;clear hs hb ih hL hK hrel;generalize Ls.map eK.p=M at *;generalize a.ks[i]=kk at *;cases s<;>(simp only[SF.d,SF.k,jm,jN] at *;simp[-eF,-fj,-aE,-aO,cu,cz,eZ,cR,cn,j5,kQ,h,aM,he,jO,e0])
   ·rintro o e H ⟨rfl,q6,q7,rfl⟩;exact .inr ⟨by simp,q6,q7,.inr ⟨rfl,er,pos,_,e0,rfl⟩⟩
 ·have fk:i=a.ks.length:=by omega
  subst fk;refine aX (Q:=fun o e H=>o= .exit 1∧e.get 3= .box 0 0∧e.get 5= .box 1 0∧e.get 6= .box 2 0∧e.get 7= .box 3 0∧e.get 8= .bk s.k.length 253 65 (Ls.map eK.p)∧H=⟨[vB sp T calls ins,a.cl.map .p,(aj 0 Bt.e).map .p,[.p (.int .i64 0),.p (.int .i64 0)]],s.k++[(Ls.map eK.p).length]⟩) ?_ ?_
  ·skip
   have ae:=rf (bd ez 0)
   conv at ae=>rhs;reduce
   have hf:=rf ez
   conv at hf=>rhs;reduce
   rw[←ae] at hf;have aK:cE=cE:=rfl
   conv at aK=>rhs;reduce
   try rw[←aK] at hf
   try rw[←aK] at ae
   clear aK;rw[ae];clear hf ae;clear hs hb ih hL hK;generalize Ls.map eK.p=M at *;cases s<;>(simp only[SF.d,SF.k,jm,jN] at *;simp[-aE,-aO,cu,kQ])
  ·rintro o e H ⟨rfl,q3,q5,q6,q7,q8,rfl⟩;exact .inr ⟨by simp,q6,q7,.inl ⟨rfl,q3,q5,Ls,hL,hK,q8,rfl⟩⟩
theorem ahW{op:Int}{n:Nat}{w:List UInt8}(h:op∈[5,11,12,13])(hs:xd op n w):w=[101]:=by
 simp at h;rcases h with rfl |rfl |rfl |rfl<;>simpa[xd] using hs
theorem ahX{op:Int}{n:Nat}{w:List UInt8}(h:op∈[6,7,8,9,10,14,32,33])(hs:xd op n w):w=[101,101]:=by
 simp at h;rcases h with rfl |rfl |rfl |rfl |rfl |rfl |rfl |rfl<;>simpa[xd] using hs
theorem ahY{op:Int}{n:Nat}{w:List UInt8}(h:op∈[15,45,46])(hs:xd op n w):w=[101,102]:=by
 simp at h;rcases h with rfl |rfl |rfl<;>simpa[xd] using hs
theorem ahZ{a:Nd}(hw:Wf a){Ls:List eK}(hl:Ls.length=a.ks.length)(hk:Jq a.ks Ls)(h1:a.op≠1)(jk:a.op≠15):Sets a.op a.n Ls:=by
 obtain⟨_,own,⟨w,hs,Fc,yo⟩,_⟩:=hw;have bd:∀i (h:i<Ls.length),w[i]? =some 101→1≤Ls[i].ar∧Ls[i].ar≤3:=fun i h hw=>by
  have h':i<a.ks.length:=by omega
  have:=(yo i h' _ _ (aA h') hw).1 rfl;exact hk i _ _ (aA h') (aA h) this.1 this.2
 refine⟨own,fun h=>?_,fun h=>?_,h1,jk⟩
 ·have:=ahW h hs;subst this
  match Ls,hl,bd with
  |[],hl,_=>simp at Fc hl;omega
  |a::l,_,bd=>exact⟨a,l,rfl,bd 0 (by simp) rfl⟩
 ·have:=ahX h hs;subst this
  match Ls,hl,bd with
  |[],hl,_=>simp at Fc hl;omega
  |[_],hl,_=>simp at Fc hl;omega
  |a::c::l,_,bd=>exact⟨a,c,l,rfl,bd 0 (by simp) rfl,bd 1 (by simp) rfl⟩
theorem ah0(sp:Sp)(ok:nj sp)(a:Nd)(hw:Wf a)(ha:a.size≤400)(h1:a.op≠1)(jk:a.op≠15)(ih:∀k∈a.ks,vG sp 222 k (1≤k.op∧k.op≤15))(T:Sl Bool)(calls:Nat)(ins:Bool)(s:SF)(L:List Vr)(hs:xh 361 66 s (L.map Vr.p))(hb:L.length+a.size≤1000)(e0:Env)
    (q1:e0.get 1=s.d 361 66 0) (q3:e0.get 3= .box 0 0) (q5:e0.get 5= .box 1 0) (q6:e0.get 6= .box 2 0) (q7:e0.get 7= .box 3 0):
    ∃(ar:Int) (r:Bt) (er pos:Int),(er=0→1≤a.op→a.op≤15→1≤ar∧ar≤3)∧post (fun o e H=>o= .ret∧e.get 6= .box 2 0∧e.get 7= .box 3 0∧∃x y z n,H=⟨x::y::(aj ar r).map .p::[.p (.int .i64 er),.p (.int .i64 pos)]::z,s.k++[n]⟩)
     (ay (call pg) pg.G bf (Cl ez 3) ⟨e0,⟨[vB sp T calls ins,a.cl.map .p,(aj 0 Bt.e).map .p,[.p (.int .i64 0),.p (.int .i64 0)]],s.k⟩⟩):=by
 have key:=ahV sp a ha ih T calls ins s L hs hb;obtain⟨o,e,H,hx,h6,h7,hq⟩:=bJ key;clear key;have Jr:=ok.ns;have ae:=rf (bd ez 0)
 conv at ae=>rhs;reduce
 have hf:=rf ez
 conv at hf=>rhs;reduce
 rw[←ae] at hf;clear hf;have eo:Cl ez 3=Cl ez 3:=rfl
 conv at eo=>rhs;reduce
 rw[←ae] at eo;clear ae;have aK:cE=cE:=rfl
 conv at aK=>rhs;reduce
 rw[←aK] at eo;clear aK;rcases hq with⟨rfl,Ih,VZ,Ls,hl,hk,q8,rfl⟩ |⟨rfl,er,pos,n,he,rfl⟩
 ·obtain⟨ar,r,okk,cG,hrel⟩:=ahx sp (by omega) a.op a.n a.pos a.nm a.oX (Vw a) Ls (ahZ hw hl hk h1 jk);have cG:=fun bx=>cG (.bk s.k.length 253 65 (Ls.map eK.p)) ⟨bx,s.k++[(Ls.map eK.p).length]⟩ ⟨s.k.length,rfl,by simp⟩;cases okk with
  |true=>
   refine⟨ar,r,0,0,fun _=>hrel rfl,?_⟩;rw[eo];clear eo ih hs hb hw hl hk hrel;generalize Ls.map eK.p=M at *;refine aX (Q:=fun o e H=>o= .ret∧e.get 6= .box 2 0∧e.get 7= .box 3 0∧H=⟨[vB sp T calls ins,a.cl.map .p,(aj ar r).map .p,[.p (.int .i64 0),.p (.int .i64 0)],(aj ar r).map .p],s.k++[M.length]⟩) ?_ fun o e H h=>⟨h.1,h.2.1,h.2.2.1,_,_,_,_,h.2.2.2⟩;cases s<;>(simp only[SF.d,SF.k,jm,jN,fW,dZ] at *;simp at hx;simp[-aE,-aO,cu,dx,cz,eZ,cR,cn,j5,qa,q1,q3,q5,q6,q7,hx,h6,h7,Ih,VZ,q8,cG])
  |false=>
   refine⟨0,Bt.e,42,a.pos,fun h=>by omega,?_⟩;rw[eo];clear eo ih hs hb hw hl hk hrel;generalize Ls.map eK.p=M at *;refine aX (Q:=fun o e H=>o= .ret∧e.get 6= .box 2 0∧e.get 7= .box 3 0∧H=⟨[vB sp T calls ins,a.cl.map .p,(aj 0 Bt.e).map .p,[.p (.int .i64 42),.p (.int .i64 a.pos)],(aj ar r).map .p],s.k++[M.length]⟩) ?_ fun o e H h=>⟨h.1,h.2.1,h.2.2.1,_,_,_,_,h.2.2.2⟩;cases s<;>(simp only[SF.d,SF.k,jm,jN,fW,dZ] at *;simp at hx;simp[-aE,-aO,cu,cz,eZ,cR,cn,j5,oW,qa,q1,q3,q5,q6,q7,hx,h6,h7,Ih,VZ,q8,cG])
 ·refine⟨0,Bt.e,er,pos,fun h=>absurd h he,?_⟩;rw[eo];clear eo ih hs hb hw;refine aX (Q:=fun o e H=>o= .ret∧e.get 6= .box 2 0∧e.get 7= .box 3 0∧H=⟨[vB sp T calls ins,a.cl.map .p,(aj 0 Bt.e).map .p,[.p (.int .i64 er),.p (.int .i64 pos)]],s.k++[n]⟩) ?_ fun o e H h=>⟨h.1,h.2.1,h.2.2.1,_,_,_,_,h.2.2.2⟩;cases s<;>(simp only[SF.d,SF.k,jm,jN,fW,dZ] at *;simp at hx;simp[-aE,-aO,cu,qa,q1,q3,q5,q6,q7,hx,h6,h7])
theorem Fe(sp:Sp)(T:Sl Bool)(calls:Nat)(ins:Bool)(a:Nd)(s:SF)(ar:Int)(r:Bt)(er pos:Int)
    (h:post (fun o e H=>o= .ret∧e.get 6= .box 2 0∧e.get 7= .box 3 0∧∃x y z l,H=⟨x::y::(aj ar r).map .p::[.p (.int .i64 er),.p (.int .i64 pos)]::z,s.k++l⟩)
     (ay (call pg) pg.G bf (.seq (pt ez 1) (.seq (pt ez 2) (Cl ez 3))) ⟨[(1,s.d 361 66 0),(3,.box 0 0),(5,.box 1 0),(6,.box 2 0),(7,.box 3 0)],⟨[vB sp T calls ins,a.cl.map .p,(aj 0 Bt.e).map .p,[.p (.int .i64 0),.p (.int .i64 0)]],s.k⟩⟩)):
    ∀d H,s.at 361 66 d H→av (call pg) 222 [.p (vP sp T calls ins),d,.p (.agg a.cl)] H=some (.val (.bA [.p (gH ar r),.p (.agg [.int .i64 er,.int .i64 pos])]),H):=by
 obtain⟨o,e,H,hx,rfl,h6,h7,x,y,z,l,rfl⟩:=bJ h;clear h;have ae:=rf (bd ez 0)
 conv at ae=>rhs;reduce
 have hf:=rf ez
 conv at hf=>rhs;reduce
 rw[←ae] at hf;have AT:Cl ez 3=Cl ez 3:=rfl
 conv at AT=>rhs;reduce
 rw[←ae] at AT;rw[←AT] at hf;have yB:pt ez 2=pt ez 2:=rfl
 conv at yB=>rhs;reduce
 rw[←yB] at hf;have eo:pt ez 1=pt ez 1:=rfl
 conv at eo=>rhs;reduce
 rw[←eo] at hf;have aK:cE=cE:=rfl
 conv at aK=>rhs;reduce
 rw[←aK] at hf;clear aK eo yB AT ae;refine vE (e:=361) (sz:=66) (pre:=[vP sp T calls ins]) (suf:=[.agg a.cl]) (s:=s) (Jg [_,_]) hf (fun _=>by cases s<;>rfl) (by cases s<;>rfl) rfl ?_;clear hf;cases s<;>(simp only[SF.d,SF.k,jm,jN] at *;simp at hx;simp[-aE,-aO,cu,dx,cR,cn,di,hx,h6,h7])
theorem Ff{c:bC}{G:Nat→Option (List PD)}{a b:SC}{st:St}{Q:Out→Env→Hp→Prop}{e:Env}{H:Hp}(h:ay c G bf a st=some (.norm,⟨e,H⟩))(hb:post Q (ay c G bf b ⟨e,H⟩)):post Q (ay c G bf (.seq a b) st):=by
 rw[Ta,h];exact hb
theorem Js{c:bC}{G:Nat→Option (List PD)}{a b:SC}{st:St}{Q:Out→Env→Hp→Prop}(h:post (fun o e H=>o= .ret∧Q o e H) (ay c G bf a st)):post Q (ay c G bf (.seq a b) st):=by
 obtain⟨o,e,H,hx,rfl,hq⟩:=bJ h;rw[Ta,hx];exact hq
theorem ah2(sp:Sp)(ok:nj sp)(hn:nY sp):∀(m:Nat) (a:Nd),a.size≤m→m≤400→Wf a→vG sp 222 a (1≤a.op∧a.op≤15):=by
 intro m
 induction m with
 |zero=>intro a h;have:=size_pos a;omega
 |succ m ih=>
  intro a hm apZ hw T calls ins s L hs hb;have Jt:∀k∈a.ks,vG sp 222 k (1≤k.op∧k.op≤15):=fun k hk=>by
   have h1:=Cc hk;have hwk:Wf k:=by obtain⟨_,_,_,h⟩:=hw;exact h k hk
   exact ih k (by omega) (by omega) hwk
  obtain⟨z,g1,g2⟩:=ahM sp ok T calls ins a (s.d 361 66 0) s.k;cases z with
  |true=>
   refine⟨0,Bt.e,46,a.pos,Fe sp T calls ins a s 0 Bt.e 46 a.pos (Js (aX (g1 rfl) ?_)),fun h=>by omega⟩;rintro o e H ⟨rfl,q6,q7,rfl⟩;exact⟨rfl,rfl,q6,q7,_,_,[],[],by rw[lA]⟩
  |false=>
   have g2:=g2 rfl;by_cases h1:a.op=1
   ·obtain⟨ar,r,er,pos,he,hrel⟩:=ahC sp ok hn a T calls ins s L hs hb;refine⟨ar,r,er,pos,Fe sp T calls ins a s ar r er pos (Ff g2 (Js (aX (ahN sp T calls ins a (s.d 361 66 0) s.k h1 ar r er pos fun bx=>he _ _ (zM 361 66 s bx)) ?_))),fun h _=>hrel h trivial⟩;rintro o e H ⟨rfl,q6,q7,rfl⟩;exact⟨rfl,rfl,q6,q7,_,_,[],[],by rw[lA]⟩
   ·by_cases nu:a.op=47
    ·obtain⟨er,pos,he⟩:=ahE sp ok a (by omega) Jt T calls ins s L hs hb;refine⟨0,Bt.e,er,pos,Fe sp T calls ins a s 0 Bt.e er pos (Ff g2 (Js (aX (ahO sp T calls ins a (s.d 361 66 0) s.k nu er pos fun bx=>he _ _ (zM 361 66 s bx)) ?_))),fun _ h=>by omega⟩;rintro o e H ⟨rfl,q6,q7,rfl⟩;exact⟨rfl,rfl,q6,q7,_,_,[],[],by rw[lA]⟩
    ·by_cases nN:a.op∈[15,45,46]
     ·obtain⟨_,_,⟨w,hsw,Fc,_⟩,_⟩:=id hw;have:=ahY nN hsw;subst this;obtain⟨k0,k1,nI⟩:∃k0 k1,a.ks=[k0,k1]:=by
       match hk:a.ks,Fc with
       |[k0,k1],_=>exact⟨k0,k1,rfl⟩
      obtain⟨ar,r,er,pos,he,hrel⟩:=ahH sp a k0 k1 nI (Jt k0 (by rw[nI];simp)) (Jt k1 (by rw[nI];simp)) T calls ins s L hs hb;refine⟨ar,r,er,pos,Fe sp T calls ins a s ar r er pos (Ff g2 (Js (aX (ahP sp T calls ins a (s.d 361 66 0) s.k nN ar r er pos fun bx=>he _ _ (zM 361 66 s bx)) ?_))),fun h _=>hrel h trivial⟩;rintro o e H ⟨rfl,q6,q7,rfl⟩;exact⟨rfl,rfl,q6,q7,_,_,[],[],by rw[lA]⟩
     ·have eU:a.op∉[1,47,15,45,46]:=by
       simp only[cN,mG,or_false,not_or] at nN⊢;exact⟨h1,nu,nN⟩
      obtain⟨xm,hp⟩:=ahQ sp T calls ins a (s.d 361 66 0) s.k eU;obtain⟨o,e,H,hx,rfl,q1,q3,q5,q6,q7,rfl⟩:=bJ hp;obtain⟨ar,r,er,pos,hrel,ht⟩:=ah0 sp ok a hw (by omega) h1 (fun h=>nN (by simp[h])) Jt T calls xm s L hs hb e q1 q3 q5 q6 q7;refine⟨ar,r,er,pos,Fe sp T calls ins a s ar r er pos (Ff g2 (Ff hx (aX ht ?_))),fun h h2=>hrel h h2.1 h2.2⟩;rintro o e H ⟨rfl,q6,q7,x,y,z,n,rfl⟩;exact⟨rfl,q6,q7,_,_,_,[n],rfl⟩
end Go.Proofs.YtgplgbonlnodeaaGreatDoor
end
