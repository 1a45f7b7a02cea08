/-
  A value-level evaluator for Go functions; the functions of this cut by it; plain laws. Text G6.
-/
import Derived.Test.YtgplgbonlnodeaaGreatDoorG5
section
open Go.Vs Go.Proofs.YtgplgbonlnodeaaGreatDoor
attribute [local simp] evKC evK evGuard put Env.get Env.keep entry Opd.ev loadD storeD splice cutAt indexD D.asInt? D.asNat? u8 binD strBin unD boundsD sub minmaxD eqvL PD.eqv clsP cls clsR isCl isW apartRW offB apartWW clash insOk finish evRes evRes1 mapO D.refsL D.refs D.toksL D.toks mkAgg pures fillD fillE appendD srcD D.elems? D.asPD Int.toNat_natCast srcH srcBH eqD D.asPDL isMapC lenD_str lenD_nils lenD_sl lenD_fsl lenD_tsl iaddr_box iaddr_ro gives nx condK_if opsG_if drG_if Int.natCast_inj one_p locD below Out.ren D.ren D.renL get_ren fin_agg2 cells_of_one pcells_of_one cells_pagg pcells_agg cells_dagg cells_box cells_tsl cells_fsl cells_gsl cells_msl cells_fn cells_mapr cells_pint cells_pbool cells_pstr cells_pslice cells_pnils pcells_int pcells_bool pcells_str
namespace Go.Proofs.YtgplgbonlnodeaaGreatDoor
open Go.Vs
set_option maxRecDepth 100000
theorem sum_take{l:List Int}{i:Nat}(h:i<l.length):(l.take (i+1)).sum=(l.take i).sum+l[i]:=by
 rw[List.take_succ_eq_append_getElem h,List.sum_append];simp
theorem sum_bd:∀{l:List Int} {m:Int},(∀x∈l,0≤x∧x≤m)→0≤l.sum∧l.sum≤l.length*m
 |[],m,_=>by simp
 |a::l,m,h=>by
  have h1:=h a (by simp)
  have h2:=sum_bd (l:=l) (m:=m) fun x hx=>h x (by simp[hx])
  simp only[List.sum_cons,List.length_cons]
  have :((l.length+1 :Nat):Int)*m=l.length*m+m:=by
   rw[Int.natCast_add,Int.add_mul];simp
  omega
theorem sum_take_bd{l:List Int}{m:Int}(h:∀x∈l,0≤x∧x≤m)(i:Nat):0≤(l.take i).sum∧(l.take i).sum≤l.length*m:=by
 have h1:=sum_bd (l:=l.take i) (m:=m) fun x hx=>h x (List.mem_of_mem_take hx)
 have h2:=sum_bd (l:=l.drop i) (m:=m) fun x hx=>h x (List.mem_of_mem_drop hx)
 have h3:=sum_bd h
 have :l.sum=(l.take i).sum+(l.drop i).sum:=by rw[←List.sum_append,List.take_append_drop]
 omega
theorem atoms_call(a:Sl Int)(st:Int)(hl:(els a).length≤1000)(h:∀x∈els a,0≤x∧x≤5):
    ∀H,callD (call pg) 48 [.p (.agg [intsP a,.int .i64 st])] H=some (.val (.p (.int .i64 ((els a).sum))),H):=by
 have hb0:bd a48 0=bd a48 0:=rfl
 conv at hb0=>rhs;reduce
 have hf:a48=a48:=rfl
 conv at hf=>rhs;reduce
 rw[←hb0] at hf
 have key:=loopN (c:=call pg) (G:=pg.G) (keep:=[1,3,4]) (b:=bd a48 0) (fun i=>[(1,.box 0 0),(3,.p (.int .i64 (((els a).take i).sum))),(4,.p (.int .i64 (i)))]) (fun _=>⟨[[.p (intsP a),.p (.int .i64 (st))]],[]⟩) (els a).length (fun _=>True)
  (fun o e H=>o= .exit 0∧e.get 3= .p (.int .i64 ((els a).sum))) trivial ?_ ?_
 ·obtain⟨o,e,H,hx,rfl,h3⟩:=post_get key
  refine callP (aa:=[_]) hf rfl rfl rfl ?_
  clear hf hb0
  simp at hx
  simp[hx,h3]
 ·intro i hi _
  have hw:IntKind.i64.wrap (((els a).take i).sum+(els a)[i])=((els a).take i).sum+(els a)[i]:=by
   have:=sum_take_bd h (i+1)
   rw[sum_take hi] at this
   exact wrap64 (by omega) (by omega)
  rw[hb0];clear hf hb0
  simp[len_ints,ia_ints hi,hi,inc64 (k:=i) (by omega),sum_take hi,hw]
 ·intro _
  rw[hb0];clear hf hb0
  simp[len_ints]
def ScOk(n:Nat)(a:Sl Int)(st:Int):Prop:=(els a).length=n∧n≤4∧1≤st∧st≤4∧(∀x∈els a,1≤x∧x≤5)∧(els a).sum≤12
theorem all_idx{l:List Int}{P:Int→Prop}:(∀i,i<l.length→∀x,l[i]? =some x→P x)↔∀x∈l,P x:=by
 constructor
 ·intro h x hx
  obtain⟨i,hi,rfl⟩:=List.getElem_of_mem hx
  exact h i hi _ (List.getElem?_eq_getElem hi)
 ·intro h i hi x hx
  exact h x (List.mem_of_getElem? hx)
theorem scope_call{so f2 f3 f4:PD}{n:Nat}(hso:lenD 1 (.p so)=some n)(o1:so.one=true)(o2:f2.one=true)(o3:f3.one=true)(o4:f4.one=true)(a:Sl Int)(st:Int)(hn:n<4611686018427387904)(_hl:(els a).length<4611686018427387904):
    ∃r:Bool,(∀H,callD (call pg) 47 [.p (.agg [so,f2,f3,f4]),.p (.agg [intsP a,.int .i64 st])] H=some (.val (.p (.bool r)),H))∧(r=true↔ScOk n a st):=by
 have hb0:bd a47 0=bd a47 0:=rfl
 conv at hb0=>rhs;reduce
 have hf:a47=a47:=rfl
 conv at hf=>rhs;reduce
 rw[←hb0] at hf
 by_cases h0:(els a).length=n∧n≤4∧1≤st∧st≤4
 ·obtain⟨e1,e2,e3,e4⟩:=h0
  have key:=loopA (c:=call pg) (G:=pg.G) (keep:=[3,5]) (b:=bd a47 0) (fun i=>[(3,.box 1 0),(5,.p (.int .i64 (i)))]) ⟨[[.p (so),.p (f2),.p (f3),.p (f4)],[.p (intsP a),.p (.int .i64 (st))]],[]⟩ (els a).length
   (fun i=>∀x,(els a)[i]? =some x→1≤x∧x≤5) 0 (fun e=>e.get 3= .box 1 0) (fun e=>e.get 4= .p (.bool false)) ?_ ?_ ?_
  ·rcases key with⟨e,hx,hq,hp⟩ |⟨e,hx,hr,hp⟩
   ·rw[all_idx] at hp
    have hat:=atoms_call a st (by omega) fun x hx=>by have:=hp x hx;omega
    refine⟨decide ((els a).sum≤12),callP (aa:=[_,_]) hf rfl rfl rfl ?_,?_⟩
    ·clear hf hb0
     simp at hx
     have g1:¬4<n:=by omega
     have g2:¬st<1:=by omega
     have g3:¬4<st:=by omega
     have g4:¬((4 :Int)<(n:Int)):=by omega
     simp[len_ints,hso,o1,o2,o3,o4,e1,g2,g3,g4,hx,hq,hat]
    ·rw[decide_eq_true_eq]
     exact⟨fun h=>⟨e1,e2,e3,e4,hp,h⟩,fun h=>h.2.2.2.2.2⟩
   ·rw[all_idx] at hp
    refine⟨false,callP (aa:=[_,_]) hf rfl rfl rfl ?_,iff_of_false (by simp) fun hh=>hp hh.2.2.2.2.1⟩
    clear hf hb0
    simp at hx
    have g1:¬4<n:=by omega
    have g2:¬st<1:=by omega
    have g3:¬4<st:=by omega
    have g4:¬((4 :Int)<(n:Int)):=by omega
    simp[len_ints,hso,o1,o2,o3,o4,e1,g2,g3,g4,hx,hr]
  ·intro i hi hP
   rw[hb0];clear hf hb0
   have hP:=hP _ (List.getElem?_eq_getElem hi)
   have g1:¬(els a)[i]<1:=by omega
   have g2:¬5<(els a)[i]:=by omega
   simp[len_ints,ia_ints hi,hi,g1,g2,inc64 (k:=i) (by omega)]
  ·intro i hi hP
   rw[hb0];clear hf hb0
   have hP:¬(1≤(els a)[i]∧(els a)[i]≤5):=fun h=>hP fun x hx=>by
    rw[List.getElem?_eq_getElem hi] at hx;cases hx;exact h
   by_cases g1:(els a)[i]<1
   ·simp[len_ints,ia_ints hi,hi,g1]
   ·have g2:5<(els a)[i]:=by omega
    simp[len_ints,ia_ints hi,hi,g1,g2]
  ·rw[hb0];clear hf hb0
   simp[len_ints]
 ·refine⟨false,callP (aa:=[_,_]) hf rfl rfl rfl ?_,iff_of_false (by simp) fun h=>h0 ⟨h.1,h.2.1,h.2.2.1,h.2.2.2.1⟩⟩
  clear hf hb0
  by_cases g1:(els a).length=n
  ·by_cases g2:4<n
   ·have g4:((4 :Int)<(n:Int)):=by omega
    simp[len_ints,hso,o1,o2,o3,o4,g1,g4]
   ·have g4:¬((4 :Int)<(n:Int)):=by omega
    by_cases g3:st<1
    ·simp[len_ints,hso,o1,o2,o3,o4,g1,g3,g4]
    ·have g5:4<st:=by omega
     simp[len_ints,hso,o1,o2,o3,o4,g1,g3,g4,g5]
  ·simp[len_ints,hso,o1,o2,o3,o4,g1]
end Go.Proofs.YtgplgbonlnodeaaGreatDoor
namespace Go.Proofs.YtgplgbonlnodeaaGreatDoor
open Go.Vs
set_option maxRecDepth 100000
theorem eqp_call(a b:Sl Int)(ha:(els a).length<4611686018427387904):
    ∃r:Bool,(∀H,callD (call pg) 65 [.p (intsP a),.p (intsP b)] H=some (.val (.p (.bool r)),H))∧(r=true↔els a=els b):=by
 have hb0:bd a65 0=bd a65 0:=rfl
 conv at hb0=>rhs;reduce
 have hf:a65=a65:=rfl
 conv at hf=>rhs;reduce
 rw[←hb0] at hf
 by_cases hl:(els a).length=(els b).length
 ·have key:=loopA (c:=call pg) (G:=pg.G) (keep:=[0,1,12,13]) (b:=bd a65 0) (fun i=>[(0,.p (intsP a)),(1,.p (intsP b)),(12,.p (.int .i64 (((els a).length:Nat):Int))),(13,.p (.int .i64 ((i:Nat):Int)))]) ⟨[],[]⟩ (els a).length
   (fun i=>(els a)[i]? =(els b)[i]?) 0 (fun _=>True) (fun e=>e.get 4= .p (.bool false)) ?_ ?_ ?_
  ·rcases key with⟨e,hx,-,hp⟩ |⟨e,hx,hr,hp⟩
   ·refine⟨true,callP (aa:=[_,_]) hf rfl rfl rfl ?_,iff_of_true rfl ?_⟩
    ·clear hf hb0
     simp[len_ints,hl] at hx⊢
     simp[hx]
    ·refine List.ext_getElem? fun i=>?_
     rcases Nat.lt_or_ge i (els a).length with h |h
     ·exact hp i h
     ·rw[List.getElem?_eq_none h,List.getElem?_eq_none (hl▸h)]
   ·refine⟨false,callP (aa:=[_,_]) hf rfl rfl rfl ?_,iff_of_false (by simp) fun hh=>hp fun i _=>by rw[hh]⟩
    clear hf hb0
    simp[len_ints,hl] at hx⊢
    simp[hx,hr]
  ·intro i hi hP
   rw[hb0];clear hf hb0
   have hi2:i<(els b).length:=hl▸hi
   rw[List.getElem?_eq_getElem hi,List.getElem?_eq_getElem hi2,Option.some.injEq] at hP
   simp[ia_ints hi,ia_ints hi2,hi,hP,inc64 (k:=i) (by omega)]
  ·intro i hi hP
   rw[hb0];clear hf hb0
   have hi2:i<(els b).length:=hl▸hi
   rw[List.getElem?_eq_getElem hi,List.getElem?_eq_getElem hi2,Option.some.injEq] at hP
   simp[ia_ints hi,ia_ints hi2,hi,hP]
  ·rw[hb0];clear hf hb0
   simp[]
 ·refine⟨false,callP (aa:=[_,_]) hf rfl rfl rfl ?_,iff_of_false (by simp) fun h=>hl (by rw[h])⟩
  clear hf hb0
  simp[len_ints,hl]
theorem withinP_call(x lo hi:Int):∀H,callD (call pg) 172 [.p (.int .i64 (x)),.p (.int .i64 (lo)),.p (.int .i64 (hi))] H=some (.val (.p (.bool (decide (lo≤x∧x≤hi)))),H):=by
 have hf:a172=a172:=rfl
 conv at hf=>rhs;reduce
 refine callP (aa:=[_,_,_]) hf rfl rfl rfl ?_
 clear hf
 by_cases h1:lo≤x
 ·simp[h1]
 ·simp[h1]
theorem sumP_call(a:Sl Int)(hl:(els a).length≤1000)(h:∀x∈els a,0≤x∧x≤5):
    ∀H,callD (call pg) 173 [.p (intsP a)] H=some (.val (.p (.int .i64 ((els a).sum))),H):=by
 have hb0:bd a173 0=bd a173 0:=rfl
 conv at hb0=>rhs;reduce
 have hf:a173=a173:=rfl
 conv at hf=>rhs;reduce
 rw[←hb0] at hf
 have key:=loopN (c:=call pg) (G:=pg.G) (keep:=[3,6,7,8]) (b:=bd a173 0) (fun i=>[(3,.p (.int .i64 (((els a).take i).sum))),(6,.p (intsP a)),(7,.p (.int .i64 (((els a).length:Nat):Int))),(8,.p (.int .i64 ((i:Nat):Int)))]) (fun _=>⟨[],[]⟩) (els a).length (fun _=>True)
  (fun o e H=>o= .exit 0∧e.get 3= .p (.int .i64 ((els a).sum))) trivial ?_ ?_
 ·obtain⟨o,e,H,hx,rfl,h3⟩:=post_get key
  refine callP (aa:=[_]) hf rfl rfl rfl ?_
  clear hf hb0
  simp at hx
  simp[len_ints,hx,h3]
 ·intro i hi _
  have hw:IntKind.i64.wrap (((els a).take i).sum+(els a)[i])=((els a).take i).sum+(els a)[i]:=by
   have:=sum_take_bd h (i+1)
   rw[sum_take hi] at this
   exact wrap64 (by omega) (by omega)
  rw[hb0];clear hf hb0
  simp[ia_ints hi,hi,inc64 (k:=i) (by omega),sum_take hi,hw]
 ·intro _
  rw[hb0];clear hf hb0
  simp
theorem atomsP_call(a:Sl Int)(st:Int)(hl:(els a).length≤1000)(h:∀x∈els a,0≤x∧x≤5):
    ∀H,callD (call pg) 112 [.p (.agg [intsP a,.int .i64 st])] H=some (.val (.p (.int .i64 ((els a).sum))),H):=by
 have hf:a112=a112:=rfl
 conv at hf=>rhs;reduce
 refine callP (aa:=[_]) hf rfl rfl rfl ?_
 clear hf
 simp[sumP_call a hl h]
theorem requalP_call(x y:Int)(a b:Sl Int)(ha:(els a).length<4611686018427387904):
    ∃r:Bool,(∀H,callD (call pg) 117 [.p (.agg [.int .i64 x,intsP a]),.p (.agg [.int .i64 y,intsP b])] H=some (.val (.p (.bool r)),H))∧(r=true↔x=y∧els a=els b):=by
 obtain⟨r,c1,d1⟩:=eqp_call a b ha
 have hf:a117=a117:=rfl
 conv at hf=>rhs;reduce
 by_cases h:x=y
 ·refine⟨r,callP (aa:=[_,_]) hf rfl rfl rfl ?_,by rw[d1];exact⟨fun q=>⟨h,q⟩,fun q=>q.2⟩⟩
  clear hf
  simp[h,c1]
 ·refine⟨false,callP (aa:=[_,_]) hf rfl rfl rfl ?_,iff_of_false (by simp) fun q=>h q.1⟩
  clear hf
  simp[h]
end Go.Proofs.YtgplgbonlnodeaaGreatDoor
namespace Go.Proofs.YtgplgbonlnodeaaGreatDoor
open Go.Vs
set_option maxRecDepth 100000
theorem uvalid_call{so f2 f3 f4:PD}{n:Nat}(hso:lenD 1 (.p so)=some n)(o1:so.one=true)(o2:f2.one=true)(o3:f3.one=true)(o4:f4.one=true)(a:Sl Int)(st:Int)(hn:n<4611686018427387904)(_hl:(els a).length<4611686018427387904):
    ∃r:Bool,(∀H,callD (call pg) 111 [.p (.agg [so,f2,f3,f4]),.p (.agg [intsP a,.int .i64 st])] H=some (.val (.p (.bool r)),H))∧(r=true↔ScOk n a st):=by
 have w1:=withinP_call st 1 4
 have hb0:bd a111 0=bd a111 0:=rfl
 conv at hb0=>rhs;reduce
 have hf:a111=a111:=rfl
 conv at hf=>rhs;reduce
 rw[←hb0] at hf
 by_cases h0:(els a).length=n∧n≤4∧1≤st∧st≤4
 ·obtain⟨e1,e2,e3,e4⟩:=h0
  rw[decide_eq_true (⟨e3,e4⟩:1≤st∧st≤4)] at w1
  have g4:¬((4 :Int)<(n:Int)):=by omega
  have g1:¬4<n:=by omega
  have key:=loopA (c:=call pg) (G:=pg.G) (keep:=[3,27,28,29]) (b:=bd a111 0) (fun i=>[(3,.box 1 0),(27,.p (intsP a)),(28,.p (.int .i64 (((els a).length:Nat):Int))),(29,.p (.int .i64 ((i:Nat):Int)))]) ⟨[[.p (so),.p (f2),.p (f3),.p (f4)],[.p (intsP a),.p (.int .i64 (st))]],[]⟩ (els a).length
   (fun i=>∀x,(els a)[i]? =some x→1≤x∧x≤5) 0 (fun e=>e.get 3= .box 1 0) (fun e=>e.get 4= .p (.bool false)) ?_ ?_ ?_
  ·rcases key with⟨e,hx,hq,hp⟩ |⟨e,hx,hr,hp⟩
   ·rw[all_idx] at hp
    have hat:=atomsP_call a st (by omega) fun x hx=>by have:=hp x hx;omega
    refine⟨decide ((els a).sum≤12),callP (aa:=[_,_]) hf rfl rfl rfl ?_,?_⟩
    ·clear hf hb0
     simp[e1] at hx
     simp[len_ints,hso,o1,o2,o3,o4,e1,g4,w1,hx,hq,hat]
    ·rw[decide_eq_true_eq]
     exact⟨fun h=>⟨e1,e2,e3,e4,hp,h⟩,fun h=>h.2.2.2.2.2⟩
   ·rw[all_idx] at hp
    refine⟨false,callP (aa:=[_,_]) hf rfl rfl rfl ?_,iff_of_false (by simp) fun hh=>hp hh.2.2.2.2.1⟩
    clear hf hb0
    simp[e1] at hx
    simp[len_ints,hso,o1,o2,o3,o4,e1,g4,w1,hx,hr]
  ·intro i hi hP
   have hP:=hP _ (List.getElem?_eq_getElem hi)
   have w:=withinP_call (els a)[i] 1 5
   rw[decide_eq_true hP] at w
   rw[hb0];clear hf hb0
   simp[ia_ints hi,hi,w,inc64 (k:=i) (by omega)]
  ·intro i hi hP
   have hP:¬(1≤(els a)[i]∧(els a)[i]≤5):=fun h=>hP fun x hx=>by
    rw[List.getElem?_eq_getElem hi] at hx;cases hx;exact h
   have w:=withinP_call (els a)[i] 1 5
   rw[decide_eq_false hP] at w
   rw[hb0];clear hf hb0
   simp[ia_ints hi,hi,w]
  ·rw[hb0];clear hf hb0
   simp
 ·refine⟨false,callP (aa:=[_,_]) hf rfl rfl rfl ?_,iff_of_false (by simp) fun h=>h0 ⟨h.1,h.2.1,h.2.2.1,h.2.2.2.1⟩⟩
  clear hf hb0
  by_cases g2:4<n
  ·have g4:((4 :Int)<(n:Int)):=by omega
   simp[hso,o1,o2,o3,o4,g4]
  ·have g4:¬((4 :Int)<(n:Int)):=by omega
   by_cases g1:(els a).length=n
   ·have g3:¬(1≤st∧st≤4):=fun h=>h0 ⟨g1,by omega,h.1,h.2⟩
    rw[decide_eq_false g3] at w1
    simp[len_ints,hso,o1,o2,o3,o4,g1,g4,w1]
   ·have g1':¬((els a).length:Int)=(n:Int):=by omega
    simp[len_ints,hso,o1,o2,o3,o4,g1',g4]
end Go.Proofs.YtgplgbonlnodeaaGreatDoor
namespace Go.Proofs.YtgplgbonlnodeaaGreatDoor
open Go.Vs
set_option maxRecDepth 100000
theorem pow_bd{n i:Nat}(hn:n≤12)(hi:i≤3):n ^ i≤1728:=by
 have h1:n ^ i≤12 ^ i:=Nat.pow_le_pow_left hn i
 have h2:(12 :Nat) ^ i≤12 ^ 3:=Nat.pow_le_pow_right (by omega) hi
 omega
theorem power_call{n k:Nat}(hn:n≤12)(hk:k≤3):∀H,callD (call pg) 126 [.p (.int .i64 ((n:Nat):Int)),.p (.int .i64 ((k:Nat):Int))] H=some (.val (.p (.int .i64 ((n ^ k:Nat):Int))),H):=by
 have hb0:bd a126 0=bd a126 0:=rfl
 conv at hb0=>rhs;reduce
 have hf:a126=a126:=rfl
 conv at hf=>rhs;reduce
 rw[←hb0] at hf
 have key:=loopN (c:=call pg) (G:=pg.G) (keep:=[0,1,5,6]) (b:=bd a126 0) (fun i=>[(0,.p (.int .i64 ((n:Nat):Int))),(1,.p (.int .i64 ((k:Nat):Int))),(5,.p (.int .i64 ((n ^ i:Nat):Int))),(6,.p (.int .i64 ((i:Nat):Int)))]) (fun _=>⟨[],[]⟩) k (fun _=>True)
  (fun o e H=>o= .exit 0∧e.get 5= .p (.int .i64 ((n ^ k:Nat):Int))) trivial ?_ ?_
 ·obtain⟨o,e,H,hx,rfl,h3⟩:=post_get key
  refine callP (aa:=[_,_]) hf rfl rfl rfl ?_
  clear hf hb0
  simp at hx
  simp[hx,h3]
 ·intro i hi _
  rw[hb0];clear hf hb0
  have h1:(i:Int)<3:=by omega
  have h2:IntKind.i64.wrap ((n:Int) ^ i*(n:Int))=(n:Int) ^ (i+1):=by
   have:=pow_bd hn (i:=i+1) (by omega)
   rw[show(n:Int) ^ i*(n:Int)=((n ^ (i+1):Nat):Int) by rw[Nat.pow_succ];simp,wrap64 (by omega) (by omega)]
   simp
  simp[hi,h1,h2,inc64 (k:=i) (by omega)]
 ·intro _
  rw[hb0];clear hf hb0
  simp
def sortI:List Int→Int→Int→Int
 |[],_,_=> -1
 |a::r,k,x=>if x<a then k else sortI r (k+1) (x-a)
theorem sort_call(a:Sl Int)(st x:Int)(hl:(els a).length≤1000)(h:∀x∈els a,0≤x∧x≤5)(hx: -4611686018427387904≤x∧x≤4611686018427387904):
    ∀H,callD (call pg) 127 [.p (.agg [intsP a,.int .i64 st]),.p (.int .i64 (x))] H=some (.val (.p (.int .i64 (sortI (els a) 0 x))),H):=by
 have hb0:bd a127 0=bd a127 0:=rfl
 conv at hb0=>rhs;reduce
 have hf:a127=a127:=rfl
 conv at hf=>rhs;reduce
 rw[←hb0] at hf
 have key:=loopN (c:=call pg) (G:=pg.G) (keep:=[1,2,5]) (b:=bd a127 0) (fun i=>[(1,.p (.int .i64 (x-((els a).take i).sum))),(2,.box 0 0),(5,.p (.int .i64 ((i:Nat):Int)))]) (fun _=>⟨[[.p (intsP a),.p (.int .i64 (st))]],[]⟩) (els a).length
  (fun i=>sortI ((els a).drop i) i (x-((els a).take i).sum)=sortI (els a) 0 x)
  (fun o e H=>H=⟨[[.p (intsP a),.p (.int .i64 (st))]],[]⟩∧((o= .exit 0∧sortI (els a) 0 x= -1)∨(o= .ret∧e.get 4= .p (.int .i64 (sortI (els a) 0 x))))) (by simp) ?_ ?_
 ·obtain⟨o,e,H,hx,rfl,hq⟩:=post_get key
  refine callP (aa:=[_,_]) hf rfl rfl rfl ?_
  clear hf hb0
  simp at hx
  rcases hq with⟨rfl,h3⟩ |⟨rfl,h3⟩
  ·simp[hx,h3]
  ·simp[hx,h3]
 ·intro i hi hI
  rw[List.drop_eq_getElem_cons hi] at hI
  simp only[sortI] at hI
  have hw:IntKind.i64.wrap (x-((els a).take i).sum-(els a)[i])=x-((els a).take (i+1)).sum:=by
   have:=sum_take_bd h (i+1)
   rw[sum_take hi] at this⊢
   rw[wrap64 (by omega) (by omega)]
   omega
  rw[hb0];clear hf hb0
  by_cases hc:x-((els a).take i).sum<(els a)[i]
  ·rw[if_pos hc] at hI
   simp[len_ints,ia_ints hi,hi,hc,←hI]
  ·rw[if_neg hc] at hI
   have hI2:sortI ((els a).drop (i+1)) ((i+1 :Nat):Int) (x-((els a).take (i+1)).sum)=sortI (els a) 0 x:=by
    rw[←hI,sum_take hi]
    congr 1
    omega
   have hI3:sortI ((els a).drop (i+1)) ((i:Int)+1) (x-((els a).take (i+1)).sum)=sortI (els a) 0 x:=hI2
   simp[len_ints,ia_ints hi,hi,hc,hw,hI3,inc64 (k:=i) (by omega)]
 ·intro hI
  rw[List.drop_eq_nil_of_le (Nat.le_refl _)] at hI
  simp only[sortI] at hI
  rw[hb0];clear hf hb0
  simp[len_ints,←hI]
def colsR(ats:List Int)(n:Int):List Int→Int→Prop
 |[],_=>True
 |s::r,t=>sortI ats 0 (t.tmod n)=s∧colsR ats n r (t.tdiv n)
def nOf(ats:List Int):Int:=if 1<ats.sum then ats.sum else 1
def WithinP(ats so tu:List Int):Prop:=∀t∈tu,colsR ats (nOf ats) so.reverse t
theorem quo_bd{t n:Int}(hn:1≤n)(ht:0≤t∧t≤4611686018427387904):0≤t.tdiv n∧t.tdiv n≤4611686018427387904:=by
 constructor
 ·exact Int.tdiv_nonneg ht.1 (by omega)
 ·rw[Int.tdiv_eq_ediv_of_nonneg ht.1]
  have:=Int.ediv_le_self (b:=n) ht.1
  omega
theorem rem_bd{t n:Int}(hn:1≤n)(ht:0≤t∧t≤4611686018427387904): -4611686018427387904≤t.tmod n∧t.tmod n≤4611686018427387904:=by
 rw[Int.tmod_eq_emod_of_nonneg ht.1]
 have h1:=Int.emod_nonneg t (b:=n) (by omega)
 have h2:t%n≤t:=by
  have:=Int.emod_add_mul_ediv t n
  have h3:0≤n*(t/n):=Int.mul_nonneg (by omega) (Int.ediv_nonneg ht.1 (by omega))
  omega
 omega
theorem within_call(a so tu:Sl Int)(st ar:Int)(hl:(els a).length≤1000)(h:∀x∈els a,0≤x∧x≤5)(hs:(els so).length≤1000)(ht:∀x∈els tu,0≤x∧x≤4611686018427387904)(htl:(els tu).length<4611686018427387904):
    ∃r:Bool,(∀H,callD (call pg) 81 [.p (.agg [intsP a,.int .i64 st]),.p (intsP so),.p (.agg [.int .i64 ar,intsP tu])] H=some (.val (.p (.bool r)),H))∧(r=true↔WithinP (els a) (els so) (els tu)):=by
 have hb1:bd a81 1=bd a81 1:=rfl
 conv at hb1=>rhs;reduce
 have hb0:bd a81 0=bd a81 0:=rfl
 conv at hb0=>rhs;reduce
 rw[←hb1] at hb0
 have hf:a81=a81:=rfl
 conv at hf=>rhs;reduce
 rw[←hb1] at hf
 rw[←hb0] at hf
 have hat:=atoms_call a st hl h
 have hn1:1≤nOf (els a):=by unfold nOf;split<;>omega
 have inner:∀(i:Nat) (t:Int),0≤t∧t≤4611686018427387904→post (fun o e H=>H=⟨[[.p (intsP a),.p (.int .i64 (st))],[.p (.int .i64 (ar)),.p (intsP tu)]],[]⟩∧((o= .exit 2∧colsR (els a) (nOf (els a)) (els so).reverse t∧e.get 1= .p (intsP so)∧e.get 3= .box 0 0∧e.get 5= .box 1 0∧e.get 7= .p (.int .i64 (nOf (els a)))∧e.get 8= .p (.int .i64 ((i:Nat):Int)))∨(o= .ret∧e.get 6= .p (.bool false)∧¬colsR (els a) (nOf (els a)) (els so).reverse t)))
     (loopK (call pg) pg.G [1,3,5,7,8,9,10] (bd a81 1) ⟨[(1,.p (intsP so)),(3,.box 0 0),(5,.box 1 0),(7,.p (.int .i64 (nOf (els a)))),(8,.p (.int .i64 ((i:Nat):Int))),(9,.p (.int .i64 (t))),(10,.p (.int .i64 (((els so).length:Int)-1)))],⟨[[.p (intsP a),.p (.int .i64 (st))],[.p (.int .i64 (ar)),.p (intsP tu)]],[]⟩⟩):=by
  intro i t ht
  have key:=loopW (c:=call pg) (G:=pg.G) (keep:=[1,3,5,7,8,9,10]) (b:=bd a81 1) (σ:=Nat×Int) (fun s=>[(1,.p (intsP so)),(3,.box 0 0),(5,.box 1 0),(7,.p (.int .i64 (nOf (els a)))),(8,.p (.int .i64 ((i:Nat):Int))),(9,.p (.int .i64 (s.2))),(10,.p (.int .i64 ((s.1:Int)-1)))])
   (fun _=>⟨[[.p (intsP a),.p (.int .i64 (st))],[.p (.int .i64 (ar)),.p (intsP tu)]],[]⟩) (fun s=>s.1) (fun s=>s.1≤(els so).length∧(0≤s.2∧s.2≤4611686018427387904)∧(colsR (els a) (nOf (els a)) ((els so).take s.1).reverse s.2↔colsR (els a) (nOf (els a)) (els so).reverse t))
   (fun o e H=>H=⟨[[.p (intsP a),.p (.int .i64 (st))],[.p (.int .i64 (ar)),.p (intsP tu)]],[]⟩∧((o= .exit 2∧colsR (els a) (nOf (els a)) (els so).reverse t∧e.get 1= .p (intsP so)∧e.get 3= .box 0 0∧e.get 5= .box 1 0∧e.get 7= .p (.int .i64 (nOf (els a)))∧e.get 8= .p (.int .i64 ((i:Nat):Int)))∨(o= .ret∧e.get 6= .p (.bool false)∧¬colsR (els a) (nOf (els a)) (els so).reverse t)))
   ?_ ((els so).length,t) ⟨Nat.le_refl _,ht,by rw[List.take_length]⟩
  ·exact key
  ·rintro⟨j,u⟩ ⟨hj,hu,hI⟩
   dsimp only at hj hu hI⊢
   rw[hb1];clear hf hb0 hb1
   cases j with
   |zero=>
    simp only[List.take_zero,List.reverse_nil,colsR,true_iff] at hI
    simp[hI]
   |succ k=>
    have hk:k<(els so).length:=hj
    have e1:((els so).take (k+1)).reverse=(els so)[k]::((els so).take k).reverse:=by
     rw[List.take_succ_eq_append_getElem hk];simp
    rw[e1] at hI
    simp only[colsR] at hI
    have c1:(((k+1 :Nat):Int)-1)=(k:Int):=by omega
    have c2:IntKind.i64.wrap ((k:Int)-1)=(k:Int)-1:=wrap64 (by omega) (by omega)
    have c3:¬nOf (els a)=0:=by omega
    have c5:=quo_bd hn1 hu
    have c4:IntKind.i64.wrap (u.tdiv (nOf (els a)))=u.tdiv (nOf (els a)):=wrap64 (by omega) (by omega)
    have hso:=sort_call a st (u.tmod (nOf (els a))) hl h (rem_bd hn1 hu)
    by_cases hc:sortI (els a) 0 (u.tmod (nOf (els a)))=(els so)[k]
    ·have hI2:colsR (els a) (nOf (els a)) ((els so).take k).reverse (u.tdiv (nOf (els a)))↔colsR (els a) (nOf (els a)) (els so).reverse t:=by
      rw[←hI];simp[hc]
     refine post_mono (Q:=fun o e H=>nx [1,3,5,7,8,9,10] [(1,.p (intsP so)),(3,.box 0 0),(5,.box 1 0),(7,.p (.int .i64 (nOf (els a)))),(8,.p (.int .i64 ((i:Nat):Int))),(9,.p (.int .i64 (u.tdiv (nOf (els a))))),(10,.p (.int .i64 ((k:Int)-1)))] ⟨[[.p (intsP a),.p (.int .i64 (st))],[.p (.int .i64 (ar)),.p (intsP tu)]],[]⟩ o e H) ?_ fun o e H hh=>.inl ⟨(k,u.tdiv (nOf (els a))),⟨by omega,c5,hI2⟩,Nat.lt_succ_self k,hh⟩
     rw[c1]
     simp[ia_ints hk,hso,hc,c2,c3,c4]
    ·have hI2:¬colsR (els a) (nOf (els a)) (els so).reverse t:=by
      rw[←hI];simp[hc]
     rw[c1]
     simp[ia_ints hk,hso,hc,c3,hI2]
 have key:=loopA (c:=call pg) (G:=pg.G) (keep:=[1,3,5,7,8]) (b:=bd a81 0) (fun i=>[(1,.p (intsP so)),(3,.box 0 0),(5,.box 1 0),(7,.p (.int .i64 (nOf (els a)))),(8,.p (.int .i64 ((i:Nat):Int)))]) ⟨[[.p (intsP a),.p (.int .i64 (st))],[.p (.int .i64 (ar)),.p (intsP tu)]],[]⟩ (els tu).length
  (fun i=>∀x,(els tu)[i]? =some x→colsR (els a) (nOf (els a)) (els so).reverse x) 0 (fun _=>True) (fun e=>e.get 6= .p (.bool false)) ?_ ?_ ?_
 ·have hm:(if(els a).sum>1 then(els a).sum else 1)=nOf (els a):=rfl
  rcases key with⟨e,hx,-,hp⟩ |⟨e,hx,hr,hp⟩
  ·rw[all_idx] at hp
   refine⟨true,callP (aa:=[_,_,_]) hf rfl rfl rfl ?_,iff_of_true rfl hp⟩
   clear hf hb0 hb1
   simp at hx hm
   simp[hat,hm,hx]
  ·rw[all_idx] at hp
   refine⟨false,callP (aa:=[_,_,_]) hf rfl rfl rfl ?_,iff_of_false (by simp) hp⟩
   clear hf hb0 hb1
   simp at hx hm
   simp[hat,hm,hx,hr]
 ·intro i hi hP
  have hP:=hP _ (List.getElem?_eq_getElem hi)
  obtain⟨o,e,H,hx,rfl,hq⟩:=post_get (inner i (els tu)[i] (ht _ (List.getElem_mem hi)))
  rcases hq with⟨rfl,-,g1,g2,g3,g4,g5⟩ |⟨rfl,-,hn⟩
  ·rw[hb0];clear hf hb0 hb1
   have c1:IntKind.i64.wrap (((els so).length:Int)-1)=((els so).length:Int)-1:=wrap64 (by omega) (by omega)
   simp[len_ints,ia_ints hi,hi,c1,hx,g1,g2,g3,g4,g5,inc64 (k:=i) (by omega)]
  ·exact absurd hP hn
 ·intro i hi hP
  have hP:¬colsR (els a) (nOf (els a)) (els so).reverse (els tu)[i]:=fun hh=>hP fun x hx=>by
   rw[List.getElem?_eq_getElem hi] at hx;cases hx;exact hh
  obtain⟨o,e,H,hx,rfl,hq⟩:=post_get (inner i (els tu)[i] (ht _ (List.getElem_mem hi)))
  rcases hq with⟨rfl,hn,-⟩ |⟨rfl,g1,-⟩
  ·exact absurd hn hP
  ·rw[hb0];clear hf hb0 hb1
   have c1:IntKind.i64.wrap (((els so).length:Int)-1)=((els so).length:Int)-1:=wrap64 (by omega) (by omega)
   simp[len_ints,ia_ints hi,hi,c1,hx,g1]
 ·rw[hb0];clear hf hb0 hb1
  simp[len_ints]
end Go.Proofs.YtgplgbonlnodeaaGreatDoor
namespace Go.Proofs.YtgplgbonlnodeaaGreatDoor
open Go.Vs
set_option maxRecDepth 100000
theorem all_ix{α:Type}{l:List α}{P:α→Prop}:(∀i,i<l.length→∀x,l[i]? =some x→P x)↔∀x∈l,P x:=by
 constructor
 ·intro h x hx
  obtain⟨i,hi,rfl⟩:=List.getElem_of_mem hx
  exact h i hi _ (List.getElem?_eq_getElem hi)
 ·intro h i hi x hx
  exact h x (List.mem_of_getElem? hx)
theorem not_ix{α:Type}{l:List α}{P:α→Prop}{i:Nat}(hi:i<l.length)(h:¬∀x,l[i]? =some x→P x):¬P l[i]:=fun hh=>h fun x hx=>by
 rw[List.getElem?_eq_getElem hi] at hx;cases hx;exact hh
theorem at_ix{α:Type}{l:List α}{P:α→Prop}{i:Nat}(hi:i<l.length)(h:∀x,l[i]? =some x→P x):P l[i]:=h _ (List.getElem?_eq_getElem hi)
def FieldOk(n:Nat)(so:List Int):Prop:=(∀s∈so,0≤s∧s<(n:Int))∧1≤so.length∧so.length≤3
theorem field_call{so f2 f3 f4 nm va:PD}{n:Nat}(hso:lenD 1 (.p so)=some n)(o1:so.one=true)(o2:f2.one=true)(o3:f3.one=true)(o4:f4.one=true)(o5:nm.one=true)(o6:va.one=true)(a:Sl Int)(hl:(els a).length<4611686018427387904):
    ∃r:Bool,(∀H,callD (call pg) 79 [.p (.agg [so,f2,f3,f4]),.p (.agg [nm,intsP a,va])] H=some (.val (.p (.bool r)),H))∧(r=true↔FieldOk n (els a)):=by
 have hb0:bd a79 0=bd a79 0:=rfl
 conv at hb0=>rhs;reduce
 have hf:a79=a79:=rfl
 conv at hf=>rhs;reduce
 rw[←hb0] at hf
 have key:=loopA (c:=call pg) (G:=pg.G) (keep:=[2,3,5]) (b:=bd a79 0) (fun i=>[(2,.box 0 0),(3,.box 1 0),(5,.p (.int .i64 ((i:Nat):Int)))]) ⟨[[.p (so),.p (f2),.p (f3),.p (f4)],[.p (nm),.p (intsP a),.p (va)]],[]⟩ (els a).length
  (fun i=>∀x,(els a)[i]? =some x→0≤x∧x<(n:Int)) 0 (fun e=>e.get 3= .box 1 0) (fun e=>e.get 4= .p (.bool false)) ?_ ?_ ?_
 ·rcases key with⟨e,hx,hq,hp⟩ |⟨e,hx,hr,hp⟩
  ·rw[all_ix] at hp
   refine⟨decide (1≤(els a).length∧(els a).length≤3),callP (aa:=[_,_]) hf rfl rfl rfl ?_,?_⟩
   ·clear hf hb0
    simp at hx
    by_cases g1:1≤(els a).length
    ·have g2:(1 :Int)≤((els a).length:Int):=by omega
     have g3:((els a).length:Int)≤3↔(els a).length≤3:=by omega
     simp[len_ints,o1,o2,o3,o4,o5,o6,hx,hq,g1,g2,g3]
    ·have g2:¬(1 :Int)≤((els a).length:Int):=by omega
     simp[len_ints,o1,o2,o3,o4,o5,o6,hx,hq,g1,g2]
   ·rw[decide_eq_true_eq]
    exact⟨fun h=>⟨hp,h⟩,fun h=>h.2⟩
  ·rw[all_ix] at hp
   refine⟨false,callP (aa:=[_,_]) hf rfl rfl rfl ?_,iff_of_false (by simp) fun hh=>hp hh.1⟩
   clear hf hb0
   simp at hx
   simp[o1,o2,o3,o4,o5,o6,hx,hr]
 ·intro i hi hP
  rw[hb0];clear hf hb0
  have hP:=at_ix hi hP
  have g1:¬(els a)[i]<0:=by omega
  have g2:¬(n:Int)≤(els a)[i]:=by omega
  simp[len_ints,ia_ints hi,hi,hso,g1,g2,inc64 (k:=i) (by omega)]
 ·intro i hi hP
  rw[hb0];clear hf hb0
  have hP:=not_ix hi hP
  by_cases g1:(els a)[i]<0
  ·simp[len_ints,ia_ints hi,hi,g1]
  ·have g2:(n:Int)≤(els a)[i]:=by omega
   simp[len_ints,ia_ints hi,hi,hso,g1,g2]
 ·rw[hb0];clear hf hb0
  simp[len_ints]
theorem requal_call(a b:Sl Int)(x y:Int)(ha:(els a).length<4611686018427387904):
    ∃r:Bool,(∀H,callD (call pg) 38 [.p (.agg [.int .i64 x,intsP a]),.p (.agg [.int .i64 y,intsP b])] H=some (.val (.p (.bool r)),H))∧(r=true↔x=y∧els a=els b):=by
 have hb0:bd a38 0=bd a38 0:=rfl
 conv at hb0=>rhs;reduce
 have hf:a38=a38:=rfl
 conv at hf=>rhs;reduce
 rw[←hb0] at hf
 by_cases hxy:x=y
 ·by_cases hl:(els a).length=(els b).length
  ·have key:=loopA (c:=call pg) (G:=pg.G) (keep:=[2,3,5]) (b:=bd a38 0) (fun i=>[(2,.box 0 0),(3,.box 1 0),(5,.p (.int .i64 ((i:Nat):Int)))]) ⟨[[.p (.int .i64 (x)),.p (intsP a)],[.p (.int .i64 (y)),.p (intsP b)]],[]⟩ (els a).length
    (fun i=>(els a)[i]? =(els b)[i]?) 0 (fun _=>True) (fun e=>e.get 4= .p (.bool false)) ?_ ?_ ?_
   ·rcases key with⟨e,hx,-,hp⟩ |⟨e,hx,hr,hp⟩
    ·refine⟨true,callP (aa:=[_,_]) hf rfl rfl rfl ?_,iff_of_true rfl ⟨hxy,?_⟩⟩
     ·clear hf hb0
      simp at hx
      simp[len_ints,hl,hxy] at hx⊢
      simp[hx]
     ·refine List.ext_getElem? fun i=>?_
      rcases Nat.lt_or_ge i (els a).length with h |h
      ·exact hp i h
      ·rw[List.getElem?_eq_none h,List.getElem?_eq_none (hl▸h)]
    ·refine⟨false,callP (aa:=[_,_]) hf rfl rfl rfl ?_,iff_of_false (by simp) fun hh=>hp fun i _=>by rw[hh.2]⟩
     clear hf hb0
     simp[len_ints,hl,hxy] at hx⊢
     simp[hx,hr]
   ·intro i hi hP
    rw[hb0];clear hf hb0
    have hi2:i<(els b).length:=hl▸hi
    rw[List.getElem?_eq_getElem hi,List.getElem?_eq_getElem hi2,Option.some.injEq] at hP
    simp[len_ints,ia_ints hi,ia_ints hi2,hi,hP,inc64 (k:=i) (by omega)]
   ·intro i hi hP
    rw[hb0];clear hf hb0
    have hi2:i<(els b).length:=hl▸hi
    rw[List.getElem?_eq_getElem hi,List.getElem?_eq_getElem hi2,Option.some.injEq] at hP
    simp[len_ints,ia_ints hi,ia_ints hi2,hi,hP]
   ·rw[hb0];clear hf hb0
    simp[len_ints]
  ·refine⟨false,callP (aa:=[_,_]) hf rfl rfl rfl ?_,iff_of_false (by simp) fun h=>hl (by rw[h.2])⟩
   clear hf hb0
   simp[len_ints,hl,hxy]
 ·refine⟨false,callP (aa:=[_,_]) hf rfl rfl rfl ?_,iff_of_false (by simp) fun h=>hxy h.1⟩
  clear hf hb0
  simp[hxy]
def RelOk(n:Int)(ar:Int)(tu:List Int):Prop:=0≤n∧n≤12∧1≤ar∧ar≤3∧
 ∀i,i<tu.length→(∀x,tu[i]? =some x→0≤x∧x<n ^ ar.toNat)∧∀x y,0<i→tu[i]? =some x→tu[i-1]? =some y→y<x
theorem rvalid_call(n ar:Int)(a:Sl Int)(ha:(els a).length<4611686018427387904):
    ∃r:Bool,(∀H,callD (call pg) 80 [.p (.int .i64 (n)),.p (.agg [.int .i64 ar,intsP a])] H=some (.val (.p (.bool r)),H))∧(r=true↔RelOk n ar (els a)):=by
 have hb0:bd a80 0=bd a80 0:=rfl
 conv at hb0=>rhs;reduce
 have hf:a80=a80:=rfl
 conv at hf=>rhs;reduce
 rw[←hb0] at hf
 by_cases h0:0≤n∧n≤12∧1≤ar∧ar≤3
 ·obtain⟨e1,e2,e3,e4⟩:=h0
  have hpw:=power_call (n:=n.toNat) (k:=ar.toNat) (by omega) (by omega)
  have hn:((n.toNat:Nat):Int)=n:=by omega
  have har:((ar.toNat:Nat):Int)=ar:=by omega
  have hpp:((n.toNat ^ ar.toNat:Nat):Int)=n ^ ar.toNat:=by rw[Int.natCast_pow,hn]
  rw[hn,har,hpp] at hpw
  have key:=loopA (c:=call pg) (G:=pg.G) (keep:=[0,3,5]) (b:=bd a80 0) (fun i=>[(0,.p (.int .i64 (n))),(3,.box 0 0),(5,.p (.int .i64 ((i:Nat):Int)))]) ⟨[[.p (.int .i64 (ar)),.p (intsP a)]],[]⟩ (els a).length
   (fun i=>(∀x,(els a)[i]? =some x→0≤x∧x<n ^ ar.toNat)∧∀x y,0<i→(els a)[i]? =some x→(els a)[i-1]? =some y→y<x) 0 (fun _=>True) (fun e=>e.get 4= .p (.bool false)) ?_ ?_ ?_
  ·rcases key with⟨e,hx,-,hp⟩ |⟨e,hx,hr,hp⟩
   ·refine⟨true,callP (aa:=[_,_]) hf rfl rfl rfl ?_,iff_of_true rfl ⟨e1,e2,e3,e4,hp⟩⟩
    clear hf hb0
    simp at hx
    have g1:¬n<0:=by omega
    have g2:¬12<n:=by omega
    have g3:¬ar<1:=by omega
    have g4:¬3<ar:=by omega
    simp[hx,g1,g2,g3,g4]
   ·refine⟨false,callP (aa:=[_,_]) hf rfl rfl rfl ?_,iff_of_false (by simp) fun hh=>hp hh.2.2.2.2⟩
    clear hf hb0
    simp at hx
    have g1:¬n<0:=by omega
    have g2:¬12<n:=by omega
    have g3:¬ar<1:=by omega
    have g4:¬3<ar:=by omega
    simp[hx,hr,g1,g2,g3,g4]
  ·intro i hi hP
   obtain⟨p1,p2⟩:=hP
   have p1:=at_ix hi p1
   have g1:¬(els a)[i]<0:=by omega
   have g2:¬n ^ ar.toNat≤(els a)[i]:=by omega
   rw[hb0];clear hf hb0
   cases i with
   |zero=>
    have c6:=ia_ints hi
    simp only[Int.natCast_zero] at c6
    simp[len_ints,c6,hi,hpw,g1,g2,wrap64]
   |succ k=>
    have hk:k<(els a).length:=by omega
    have p2:=p2 (els a)[k+1] (els a)[k] (by omega) (List.getElem?_eq_getElem hi) (List.getElem?_eq_getElem hk)
    have c1:IntKind.i64.wrap (((k+1 :Nat):Int)-1)=(k:Int):=by rw[wrap64 (by omega) (by omega)];omega
    have c2:(0 :Int)<((k+1 :Nat):Int):=by omega
    have c3:¬(els a)[k+1]≤(els a)[k]:=by omega
    have c4:=inc64 (k:=k+1) (by omega)
    have c5:((k+1 :Nat):Int)<((els a).length:Int):=by omega
    have c6:=ia_ints hi
    generalize ((k+1 :Nat):Int)=kk at *
    simp[len_ints,c6,ia_ints hk,hpw,g1,g2,c1,c2,c3,c4,c5]
  ·intro i hi hP
   rw[hb0];clear hf hb0
   by_cases g1:(els a)[i]<0
   ·simp[len_ints,ia_ints hi,hi,g1]
   ·by_cases g2:n ^ ar.toNat≤(els a)[i]
    ·simp[len_ints,ia_ints hi,hi,hpw,g1,g2]
    ·cases i with
     |zero=>
      refine absurd ⟨fun x hx=>?_,fun x y h=>absurd h (by omega)⟩ hP
      rw[List.getElem?_eq_getElem hi] at hx;cases hx;omega
     |succ k=>
      have hk:k<(els a).length:=by omega
      have c1:IntKind.i64.wrap (((k+1 :Nat):Int)-1)=(k:Int):=by rw[wrap64 (by omega) (by omega)];omega
      have c2:(0 :Int)<((k+1 :Nat):Int):=by omega
      have c3:(els a)[k+1]≤(els a)[k]:=by
       refine Int.not_lt.1 fun hlt=>hP ⟨fun x hx=>?_,fun x y _ hx hy=>?_⟩
       ·rw[List.getElem?_eq_getElem hi] at hx;cases hx;omega
       ·rw[List.getElem?_eq_getElem hi] at hx;cases hx
        rw[Nat.add_sub_cancel,List.getElem?_eq_getElem hk] at hy;cases hy
        exact hlt
      have c5:((k+1 :Nat):Int)<((els a).length:Int):=by omega
      have c6:=ia_ints hi
      generalize ((k+1 :Nat):Int)=kk at *
      simp[len_ints,c6,ia_ints hk,hpw,g1,g2,c1,c2,c3,c5]
  ·rw[hb0];clear hf hb0
   simp[len_ints]
 ·refine⟨false,callP (aa:=[_,_]) hf rfl rfl rfl ?_,iff_of_false (by simp) fun h=>h0 ⟨h.1,h.2.1,h.2.2.1,h.2.2.2.1⟩⟩
  clear hf hb0
  by_cases g1:n<0
  ·simp[g1]
  ·by_cases g2:12<n
   ·simp[g1,g2]
   ·by_cases g3:ar<1
    ·simp[g1,g2,g3]
    ·have g4:3<ar:=by omega
     simp[g1,g2,g3,g4]
end Go.Proofs.YtgplgbonlnodeaaGreatDoor
namespace Go.Proofs.YtgplgbonlnodeaaGreatDoor
open Go.Vs
set_option maxRecDepth 100000
theorem powerP_call{n k:Nat}(hn:n≤12)(hk:k≤3):∀H,callD (call pg) 176 [.p (.int .i64 ((n:Nat):Int)),.p (.int .i64 ((k:Nat):Int))] H=some (.val (.p (.int .i64 ((n ^ k:Nat):Int))),H):=by
 have hb0:bd a176 0=bd a176 0:=rfl
 conv at hb0=>rhs;reduce
 have hf:a176=a176:=rfl
 conv at hf=>rhs;reduce
 rw[←hb0] at hf
 have key:=loopN (c:=call pg) (G:=pg.G) (keep:=[0,5,6,7]) (b:=bd a176 0) (fun i=>[(0,.p (.int .i64 ((n:Nat):Int))),(5,.p (.int .i64 ((n ^ i:Nat):Int))),(6,.p (.int .i64 ((k:Nat):Int))),(7,.p (.int .i64 ((i:Nat):Int)))]) (fun _=>⟨[],[]⟩) k (fun _=>True)
  (fun o e H=>o= .exit 0∧e.get 5= .p (.int .i64 ((n ^ k:Nat):Int))) trivial ?_ ?_
 ·obtain⟨o,e,H,hx,rfl,h3⟩:=post_get key
  refine callP (aa:=[_,_]) hf rfl rfl rfl ?_
  clear hf hb0
  simp at hx
  simp[hx,h3]
 ·intro i hi _
  rw[hb0];clear hf hb0
  have h2:IntKind.i64.wrap ((n:Int) ^ i*(n:Int))=(n:Int) ^ (i+1):=by
   have:=pow_bd hn (i:=i+1) (by omega)
   rw[show(n:Int) ^ i*(n:Int)=((n ^ (i+1):Nat):Int) by rw[Nat.pow_succ];simp,wrap64 (by omega) (by omega)]
   simp
  simp[hi,h2,inc64 (k:=i) (by omega)]
 ·intro _
  rw[hb0];clear hf hb0
  simp
def prevI(l:List Int):Nat→Int
 | 0=> -1
 |i+1=>l.getD i 0
theorem rvalidP_call(n ar:Int)(a:Sl Int)(ha:(els a).length<4611686018427387904):
    ∃r:Bool,(∀H,callD (call pg) 114 [.p (.int .i64 (n)),.p (.agg [.int .i64 ar,intsP a])] H=some (.val (.p (.bool r)),H))∧(r=true↔RelOk n ar (els a)):=by
 have hb0:bd a114 0=bd a114 0:=rfl
 conv at hb0=>rhs;reduce
 have hf:a114=a114:=rfl
 conv at hf=>rhs;reduce
 rw[←hb0] at hf
 by_cases h0:0≤n∧n≤12∧1≤ar∧ar≤3
 ·obtain⟨e1,e2,e3,e4⟩:=h0
  have hpw:=powerP_call (n:=n.toNat) (k:=ar.toNat) (by omega) (by omega)
  have hn:((n.toNat:Nat):Int)=n:=by omega
  have har:((ar.toNat:Nat):Int)=ar:=by omega
  have hpp:((n.toNat ^ ar.toNat:Nat):Int)=n ^ ar.toNat:=by rw[Int.natCast_pow,hn]
  rw[hn,har,hpp] at hpw
  have g1:¬n<0:=by omega
  have g2:¬12<n:=by omega
  have g3:¬ar<1:=by omega
  have g4:¬3<ar:=by omega
  have key:=loopB (c:=call pg) (G:=pg.G) (keep:=[0,3,5,25,26,27]) (b:=bd a114 0) (fun i=>[(0,.p (.int .i64 (n))),(3,.box 0 0),(5,.p (.int .i64 (prevI (els a) i))),(25,.p (intsP a)),(26,.p (.int .i64 (((els a).length:Nat):Int))),(27,.p (.int .i64 ((i:Nat):Int)))]) ⟨[[.p (.int .i64 (ar)),.p (intsP a)]],[]⟩ (els a).length
   (fun i=>(∀x,(els a)[i]? =some x→0≤x∧x<n ^ ar.toNat)∧∀x y,0<i→(els a)[i]? =some x→(els a)[i-1]? =some y→y<x) 0 (fun _=>True) (fun e=>e.get 4= .p (.bool false)) ?_ ?_ ?_
  ·rcases key with⟨e,hx,-,hp⟩ |⟨e,hx,hr,hp⟩
   ·refine⟨true,callP (aa:=[_,_]) hf rfl rfl rfl ?_,iff_of_true rfl ⟨e1,e2,e3,e4,hp⟩⟩
    clear hf hb0
    simp[prevI] at hx
    simp[len_ints,hx,g1,g2,g3,g4]
   ·refine⟨false,callP (aa:=[_,_]) hf rfl rfl rfl ?_,iff_of_false (by simp) fun hh=>hp hh.2.2.2.2⟩
    clear hf hb0
    simp[prevI] at hx
    simp[len_ints,hx,hr,g1,g2,g3,g4]
  ·intro i hi hall hP
   have hx:prevI (els a) (i+1)=(els a)[i]:=by simp[prevI,List.getD_eq_getElem?_getD,List.getElem?_eq_getElem hi]
   have h1:¬(els a)[i]≤prevI (els a) i:=by
    have h3:=hP.1 _ (List.getElem?_eq_getElem hi)
    cases i with
    |zero=>simp only[prevI];omega
    |succ k=>
     have hk:k<(els a).length:=by omega
     have:=hP.2 _ _ (by omega) (List.getElem?_eq_getElem hi) (List.getElem?_eq_getElem hk)
     simp only[prevI,List.getD_eq_getElem?_getD,List.getElem?_eq_getElem hk,Option.getD_some]
     omega
   have h2:¬n ^ ar.toNat≤(els a)[i]:=by have:=hP.1 _ (List.getElem?_eq_getElem hi);omega
   have hia:=ia_ints hi
   rw[hx]
   generalize prevI (els a) i=pv at *
   generalize (els a)[i]=x at *
   rw[hb0];clear hf hb0
   simp[hia,hi,h1,h2,hpw,inc64 (k:=i) (by omega)]
  ·intro i hi hall hP
   have hia:=ia_ints hi
   have hor:(els a)[i]≤prevI (els a) i∨n ^ ar.toNat≤(els a)[i]:=by
    refine Classical.byContradiction fun hne=>hP ⟨fun x hx=>?_,fun x y h hx hy=>?_⟩
    ·rw[List.getElem?_eq_getElem hi] at hx
     cases hx
     refine⟨?_,by omega⟩
     cases i with
     |zero=>simp only[prevI] at hne;omega
     |succ k=>
      have hk:k<(els a).length:=by omega
      have:=(hall k (by omega)).1 _ (List.getElem?_eq_getElem hk)
      simp only[prevI,List.getD_eq_getElem?_getD,List.getElem?_eq_getElem hk,Option.getD_some] at hne
      omega
    ·rw[List.getElem?_eq_getElem hi] at hx
     cases hx
     cases i with
     |zero=>omega
     |succ k=>
      have hk:k<(els a).length:=by omega
      rw[Nat.add_sub_cancel,List.getElem?_eq_getElem hk] at hy
      cases hy
      simp only[prevI,List.getD_eq_getElem?_getD,List.getElem?_eq_getElem hk,Option.getD_some] at hne
      omega
   clear hall hP
   generalize prevI (els a) i=pv at *
   generalize (els a)[i]=x at *
   rw[hb0];clear hf hb0
   by_cases h1:x≤pv
   ·simp[hia,hi,h1]
   ·have h2:n ^ ar.toNat≤x:=by omega
    simp[hia,hi,h1,h2,hpw]
  ·rw[hb0];clear hf hb0
   simp
 ·refine⟨false,callP (aa:=[_,_]) hf rfl rfl rfl ?_,iff_of_false (by simp) fun h=>h0 ⟨h.1,h.2.1,h.2.2.1,h.2.2.2.1⟩⟩
  clear hf hb0
  by_cases g1:n<0
  ·simp[g1]
  ·by_cases g2:12<n
   ·simp[g1,g2]
   ·by_cases g3:ar<1
    ·simp[g1,g2,g3]
    ·have g4:3<ar:=by omega
     simp[g1,g2,g3,g4]
end Go.Proofs.YtgplgbonlnodeaaGreatDoor
namespace Go.Proofs.YtgplgbonlnodeaaGreatDoor
open Go.Vs
set_option maxRecDepth 100000
set_option maxHeartbeats 4000000
structure Bt where
 l:List Bool
 h:l.length=64
def Bt.g(b:Bt)(k:Nat):Bool:=b.l.getD k false
def Bt.s(b:Bt)(k:Nat)(v:Bool):Bt:=⟨b.l.set k v,by rw[List.length_set];exact b.h⟩
def Bt.e:Bt:=⟨List.replicate 64 false,by simp⟩
def setL(a:Int)(b:Bt):List PD:=.int .i64 a::b.l.map PD.bool
noncomputable def z65:List PD:=.int .i64 0::(List.replicate 64 false).map PD.bool
noncomputable def z66:List PD:=.str []:: .int .i64 0::(List.replicate 64 false).map PD.bool
theorem z65_eq:z65=setL 0 Bt.e:=rfl
@[simp] theorem set_len(a:Int)(b:Bt):(setL a b).length=65:=by simp[setL,b.h]
@[simp] theorem set_ar(a:Int)(b:Bt):(setL a b)[0]? =some (.int .i64 a):=rfl
@[simp] theorem set_ar'(a:Int)(b:Bt)(h:0<(setL a b).length):(setL a b)[0]'h= .int .i64 a:=rfl
theorem set_bit{a:Int}{b:Bt}{k:Nat}(h:k<64):(setL a b)[1+k]? =some (.bool (b.g k)):=by
 rw[Nat.add_comm]
 simp only[setL,List.getElem?_cons_succ,List.getElem?_map,Bt.g,List.getD_eq_getElem?_getD]
 rw[List.getElem?_eq_getElem (by rw[b.h];exact h)]
 rfl
theorem set_take(a:Int)(b:Bt):List.take 65 ((setL a b).map D.p)=(setL a b).map D.p:=List.take_of_length_le (by simp)
theorem set_take'(a:Int)(b:Bt):List.take 65 (setL a b)=setL a b:=List.take_of_length_le (by simp)
theorem set_splice(a c:Int)(b d:Bt):splice ((setL a b).map D.p) 0 ((setL c d).map D.p)=(setL c d).map D.p:=by
 unfold splice
 rw[List.take_zero,List.nil_append,List.drop_eq_nil_of_le (by simp),List.append_nil]
theorem set_splice1{a:Int}{b:Bt}{k:Nat}{v:Bool}(h:k<64):splice ((setL a b).map D.p) (1+k) [.p (.bool v)]=(setL a (b.s k v)).map D.p:=by
 unfold splice
 refine List.ext_getElem? fun i=>?_
 rw[Nat.add_comm 1 k]
 have hl:b.l.length=64:=b.h
 rcases i with _ |i
 ·simp[setL]
 ·simp only[setL,List.map_cons,List.take_succ_cons,List.cons_append,List.getElem?_cons_succ,List.length_singleton,List.drop_succ_cons,Bt.s,List.map_map]
  rcases Nat.lt_trichotomy i k with hi |hi |hi
  ·rw[List.append_assoc,List.getElem?_append_left (by simp[hl];omega),List.getElem?_take_of_lt hi,List.getElem?_map,List.getElem?_map,List.getElem?_set_ne (by omega)]
  ·subst hi
   rw[List.append_assoc,List.getElem?_append_right (by simp[hl];omega)]
   have :i-(List.take i (List.map (D.p∘PD.bool) b.l)).length=0:=by simp[hl];omega
   rw[this,List.getElem?_map,List.getElem?_set_self (by omega)]
   rfl
  ·rw[List.getElem?_append_right (by simp[hl];omega),List.getElem?_drop,List.getElem?_map,List.getElem?_map,List.getElem?_set_ne (by omega)]
   have :k+1+(i-(List.take k (List.map (D.p∘PD.bool) b.l)++[D.p (PD.bool v)]).length)=i:=by simp[hl];omega
   rw[this]
theorem set_ones(a:Int)(b:Bt):∀x∈setL a b,x.one=true:=by
 intro x hx
 simp only[setL,List.mem_cons,List.mem_map] at hx
 rcases hx with rfl |⟨y,-,rfl⟩<;>rfl
theorem set_onesT(a:Int)(b:Bt):(∀x∈setL a b,x.one=true)=True:=eq_true (set_ones a b)
theorem set_allone(a:Int)(b:Bt):((setL a b).map D.p).all D.one=true:=by
 rw[List.all_eq_true]
 intro x hx
 obtain⟨y,hy,rfl⟩:=List.mem_map.1 hx
 exact set_ones a b y hy
theorem set_fill(a c:Int)(b:Bt):fillD ((setL c b).map D.p) [(0,1,.p (.int .i64 a))]=some ((setL a b).map D.p):=by
 simp[fillD,setL,splice,cells_pint]
theorem fill0(l:List D):fillD l []=some l:=rfl
theorem fill1(a:Int):fillD [.p (.int .i64 0),.p (.int .i64 0)] [(0,1,.p (.int .i64 a))]=some [.p (.int .i64 a),.p (.int .i64 0)]:=rfl
theorem fill2(a b:Int):fillD [.p (.int .i64 0),.p (.int .i64 0)] [(0,1,.p (.int .i64 a)),(1,1,.p (.int .i64 b))]=some [.p (.int .i64 a),.p (.int .i64 b)]:=rfl
theorem splice2(x y a b:D):splice [x,y] 0 [a,b]=[a,b]:=rfl
theorem splice7(a b c d e f g h:D):splice [a,b,c,d,e,f,g] 6 [h]=[a,b,c,d,e,f,h]:=rfl
abbrev setP(a:Int)(b:Bt):PD:=.agg (setL a b)
theorem size_call(k:Int):∃n:Nat,(∀H,callD (call pg) 373 [.p (.int .i64 (k))] H=some (.val (.p (.int .i64 ((n:Nat):Int))),H))∧1≤n∧n≤64∧(1≤k→4≤n)∧(n=1∨n=4∨n=16∨n=64):=by
 have hf:a373=a373:=rfl
 conv at hf=>rhs;reduce
 by_cases h1:k<1
 ·refine⟨1,callP (aa:=[_]) hf rfl rfl rfl ?_,by omega⟩
  clear hf
  simp[h1]
 ·by_cases h2:k=1
  ·refine⟨4,callP (aa:=[_]) hf rfl rfl rfl ?_,by omega⟩
   clear hf
   simp[h2]
  ·by_cases h3:k=2
   ·refine⟨16,callP (aa:=[_]) hf rfl rfl rfl ?_,by omega⟩
    clear hf
    simp[h3]
   ·refine⟨64,callP (aa:=[_]) hf rfl rfl rfl ?_,by omega⟩
    clear hf
    simp[h1,h2,h3]
theorem union_call(a c:Int)(b d:Bt):∃r:Bt,∀H,callD (call pg) 325 [.p (setP a b),.p (setP c d)] H=some (.val (.p (setP a r)),H):=by
 have key:=loopW (c:=call pg) (G:=pg.G) (keep:=[2,3,4,5]) (b:=bd a325 0) (σ:=Nat×Bt) (fun s=>[(2,.box 0 0),(3,.box 1 0),(4,.box 2 0),(5,.p (.int .i64 ((s.1:Nat):Int)))]) (fun s=>⟨[(setL a s.2).map D.p,(setL c d).map D.p,(setL 0 Bt.e).map D.p],[]⟩) (fun s=>64-s.1) (fun s=>s.1≤64)
  (fun o e H=>o= .exit 0∧e.get 2= .box 0 0∧e.get 4= .box 2 0∧∃r,H=⟨[(setL a r).map D.p,(setL c d).map D.p,(setL 0 Bt.e).map D.p],[]⟩)
  (by
   rintro⟨i,x⟩ hi
   dsimp only at hi⊢
   have hb0:bd a325 0=bd a325 0:=rfl
   conv at hb0=>rhs;reduce
   have hf:a325=a325:=rfl
   conv at hf=>rhs;reduce
   rw[←hb0] at hf
   rw[hb0];clear hf hb0
   by_cases h:i<64
   ·have h1:(i:Int)<64:=by omega
    have h2:1+i≤64:=by omega
    have g1:=set_bit (a:=a) (b:=x) h
    have g2:=set_bit (a:=c) (b:=d) h
    have g3:=fun v=>set_splice1 (a:=a) (b:=x) (v:=v) h
    have k1:=inc64 (k:=i) (by omega)
    refine post_mono (Q:=nx [2,3,4,5] [(2,.box 0 0),(3,.box 1 0),(4,.box 2 0),(5,.p (.int .i64 ((i+1 :Nat):Int)))] ⟨[(setL a (x.s i (x.g i||d.g i))).map D.p,(setL c d).map D.p,(setL 0 Bt.e).map D.p],[]⟩) ?_ fun o e H hh=>.inl ⟨(i+1,_),by dsimp only;omega,by dsimp only;omega,hh⟩
    cases hx:x.g i with
    |true=>
     rw[hx] at g1
     simp[-splice,iaddr_box,h1,h2,g1,g3,k1]
    |false=>
     rw[hx] at g1
     simp[-splice,iaddr_box,h1,h2,g1,g2,g3,k1]
   ·have :i=64:=by omega
    subst this
    refine post_mono (Q:=fun o e H=>o= .exit 0∧e.get 2= .box 0 0∧e.get 4= .box 2 0∧H=⟨[(setL a x).map D.p,(setL c d).map D.p,(setL 0 Bt.e).map D.p],[]⟩) ?_ ?_
    ·simp
    ·rintro o e H ⟨rfl,q1,q2,rfl⟩
     exact .inr ⟨by simp,rfl,q1,q2,x,rfl⟩) (0,b) (Nat.zero_le _)
 obtain⟨o,e,H,hx,rfl,q1,q2,r,rfl⟩:=post_get key
 simp only[Int.natCast_zero] at hx
 have hb0:bd a325 0=bd a325 0:=rfl
 conv at hb0=>rhs;reduce
 have hf:a325=a325:=rfl
 conv at hf=>rhs;reduce
 rw[←hb0] at hf
 have hz65:z65=z65:=rfl
 conv at hz65=>rhs;reduce
 try rw[←hz65] at hf
 try rw[←hz65] at hb0
 clear hz65
 refine⟨r,callP (aa:=[_,_]) hf rfl rfl rfl ?_⟩
 clear hf hb0
 simp[-splice,z65_eq,hx,q1,q2,set_take,set_splice,pures_p,set_onesT]
theorem inter_call(a c:Int)(b d:Bt):∃r:Bt,∀H,callD (call pg) 326 [.p (setP a b),.p (setP c d)] H=some (.val (.p (setP a r)),H):=by
 have key:=loopW (c:=call pg) (G:=pg.G) (keep:=[2,3,4,5]) (b:=bd a326 0) (σ:=Nat×Bt) (fun s=>[(2,.box 0 0),(3,.box 1 0),(4,.box 2 0),(5,.p (.int .i64 ((s.1:Nat):Int)))]) (fun s=>⟨[(setL a s.2).map D.p,(setL c d).map D.p,(setL 0 Bt.e).map D.p],[]⟩) (fun s=>64-s.1) (fun s=>s.1≤64)
  (fun o e H=>o= .exit 0∧e.get 2= .box 0 0∧e.get 4= .box 2 0∧∃r,H=⟨[(setL a r).map D.p,(setL c d).map D.p,(setL 0 Bt.e).map D.p],[]⟩)
  (by
   rintro⟨i,x⟩ hi
   dsimp only at hi⊢
   have hb0:bd a326 0=bd a326 0:=rfl
   conv at hb0=>rhs;reduce
   have hf:a326=a326:=rfl
   conv at hf=>rhs;reduce
   rw[←hb0] at hf
   rw[hb0];clear hf hb0
   by_cases h:i<64
   ·have h1:(i:Int)<64:=by omega
    have h2:1+i≤64:=by omega
    have g1:=set_bit (a:=a) (b:=x) h
    have g2:=set_bit (a:=c) (b:=d) h
    have g3:=fun v=>set_splice1 (a:=a) (b:=x) (v:=v) h
    have k1:=inc64 (k:=i) (by omega)
    refine post_mono (Q:=nx [2,3,4,5] [(2,.box 0 0),(3,.box 1 0),(4,.box 2 0),(5,.p (.int .i64 ((i+1 :Nat):Int)))] ⟨[(setL a (x.s i (x.g i&&d.g i))).map D.p,(setL c d).map D.p,(setL 0 Bt.e).map D.p],[]⟩) ?_ fun o e H hh=>.inl ⟨(i+1,_),by dsimp only;omega,by dsimp only;omega,hh⟩
    cases hx:x.g i with
    |true=>
     rw[hx] at g1
     simp[-splice,iaddr_box,h1,h2,g1,g2,g3,k1]
    |false=>
     rw[hx] at g1
     simp[-splice,iaddr_box,h1,h2,g1,g3,k1]
   ·have :i=64:=by omega
    subst this
    refine post_mono (Q:=fun o e H=>o= .exit 0∧e.get 2= .box 0 0∧e.get 4= .box 2 0∧H=⟨[(setL a x).map D.p,(setL c d).map D.p,(setL 0 Bt.e).map D.p],[]⟩) ?_ ?_
    ·simp
    ·rintro o e H ⟨rfl,q1,q2,rfl⟩
     exact .inr ⟨by simp,rfl,q1,q2,x,rfl⟩) (0,b) (Nat.zero_le _)
 obtain⟨o,e,H,hx,rfl,q1,q2,r,rfl⟩:=post_get key
 simp only[Int.natCast_zero] at hx
 have hb0:bd a326 0=bd a326 0:=rfl
 conv at hb0=>rhs;reduce
 have hf:a326=a326:=rfl
 conv at hf=>rhs;reduce
 rw[←hb0] at hf
 have hz65:z65=z65:=rfl
 conv at hz65=>rhs;reduce
 try rw[←hz65] at hf
 try rw[←hz65] at hb0
 clear hz65
 refine⟨r,callP (aa:=[_,_]) hf rfl rfl rfl ?_⟩
 clear hf hb0
 simp[-splice,z65_eq,hx,q1,q2,set_take,set_splice,pures_p,set_onesT]
end Go.Proofs.YtgplgbonlnodeaaGreatDoor
namespace Go.Proofs.YtgplgbonlnodeaaGreatDoor
open Go.Vs
set_option maxRecDepth 100000
set_option maxHeartbeats 4000000
structure IntsD (d:D) (n:Nat):Prop where
 len:lenD 1 d=some n
 ia:∀k,k<n→∃v,iaddrD none 1 d (k:Int)=some (.ro [.int .i64 v] 0)
 rf:d.refs=[]
 tk:d.toks=[]
 rn:∀f g,d.ren f g=some d
theorem intsD_p(s:Sl Int):IntsD (.p (intsP s)) (els s).length:=⟨len_ints s,fun _k h=>⟨_,ia_ints h⟩,rfl,rfl,fun _ _=>rfl⟩
theorem intsD_1(a:Int):IntsD (.fsl 3 1 [.int .i64 a]) 1:=⟨rfl,fun k h=>⟨a,by
 have :k=0:=by omega
 subst this
 exact iaddr_fsl (es:=[PD.int .i64 a]) (k:=0) h⟩,rfl,rfl,fun _ _=>rfl⟩
theorem intsD_2(a b:Int):IntsD (.fsl 3 1 [.int .i64 a,.int .i64 b]) 2:=⟨rfl,fun k h=>by
 have hk:k=0∨k=1:=by omega
 rcases hk with rfl |rfl
 ·exact⟨a,iaddr_fsl (es:=[PD.int .i64 a,.int .i64 b]) (k:=0) h⟩
 ·exact⟨b,iaddr_fsl (es:=[PD.int .i64 a,.int .i64 b]) (k:=1) h⟩,rfl,rfl,fun _ _=>rfl⟩
theorem one_call{d:D}{n:Nat}(hd:IntsD d n)(hn:n<4611686018427387904):∃r:Bt,∀H,callD (call pg) 243 [d] H=some (.val (.p (setP n r)),H):=by
 have key:=loopW (c:=call pg) (G:=pg.G) (keep:=[0,2,3,4,5]) (b:=bd a243 0) (σ:=Nat×Int) (fun s=>[(0,d),(2,.box 0 0),(3,.box 1 0),(4,.p (.int .i64 (s.2))),(5,.p (.int .i64 ((s.1:Nat):Int)))]) (fun _=>⟨[(setL 0 Bt.e).map D.p,(setL n Bt.e).map D.p],[]⟩) (fun s=>n-s.1) (fun s=>s.1≤n)
  (fun o e H=>H=⟨[(setL 0 Bt.e).map D.p,(setL n Bt.e).map D.p],[]⟩∧o= .exit 0∧e.get 2= .box 0 0∧e.get 3= .box 1 0∧∃x:Int,e.get 4= .p (.int .i64 (x)))
  (by
   rintro⟨i,x⟩ hi
   dsimp only at hi⊢
   have hb0:bd a243 0=bd a243 0:=rfl
   conv at hb0=>rhs;reduce
   have hf:a243=a243:=rfl
   conv at hf=>rhs;reduce
   rw[←hb0] at hf
   rw[hb0];clear hf hb0
   by_cases h:i<n
   ·obtain⟨v,hv⟩:=hd.ia i h
    have hl:=hd.len
    have k1:=inc64 (k:=i) (by omega)
    refine post_mono (Q:=nx [0,2,3,4,5] [(0,d),(2,.box 0 0),(3,.box 1 0),(4,.p (.int .i64 (IntKind.i64.wrap (IntKind.i64.wrap (4*x)+v)))),(5,.p (.int .i64 ((i+1 :Nat):Int)))] ⟨[(setL 0 Bt.e).map D.p,(setL n Bt.e).map D.p],[]⟩) ?_ fun o e H hh=>.inl ⟨(i+1,_),by dsimp only;omega,by dsimp only;omega,hh⟩
    simp[-splice,-fillD,hl,hv,h,k1]
   ·have :i=n:=by omega
    subst this
    have hl:=hd.len
    refine post_mono (Q:=fun o e H=>o= .exit 0∧H=⟨[(setL 0 Bt.e).map D.p,(setL i Bt.e).map D.p],[]⟩∧e.get 2= .box 0 0∧e.get 3= .box 1 0∧e.get 4= .p (.int .i64 (x))) ?_ ?_
    ·simp[-splice,-fillD,hl]
    ·rintro o e H ⟨rfl,rfl,q1,q2,q3⟩
     exact .inr ⟨by simp,rfl,rfl,q1,q2,x,q3⟩) (0,0) (Nat.zero_le _)
 obtain⟨o,e,H,hx,rfl,rfl,q1,q2,x,q3⟩:=post_get key
 simp only[Int.natCast_zero] at hx
 have hl:=hd.len
 have hr:D.refsL [d]=[]:=by simp[D.refsL,hd.rf]
 have ht:D.toksL [d]=[]:=by simp[D.toksL,hd.tk]
 have hn':D.renL (idx []) (idx []) [d]=some [d]:=by simp[D.renL,hd.rn]
 have hb0:bd a243 0=bd a243 0:=rfl
 conv at hb0=>rhs;reduce
 have hf:a243=a243:=rfl
 conv at hf=>rhs;reduce
 rw[←hb0] at hf
 have hz65:z65=z65:=rfl
 conv at hz65=>rhs;reduce
 try rw[←hz65] at hf
 try rw[←hz65] at hb0
 clear hz65
 by_cases hx2:0≤x∧x<64
 ·obtain⟨k,rfl⟩:∃k:Nat,x=(k:Int):=⟨x.toNat,by omega⟩
  have hk:k<64:=by omega
  have h2:1+k≤64:=by omega
  have h3:(k:Int)<64:=by omega
  have g3:=fun v=>set_splice1 (a:=n) (b:=Bt.e) (v:=v) hk
  refine⟨Bt.s Bt.e k true,callQ hf rfl rfl rfl hr ht hn' ?_⟩
  clear hf hb0
  simp[-splice,-fillD,z65_eq,set_take,set_splice,pures_p,set_onesT,set_fill,iaddr_box,hl,hx,q1,q2,q3,h2,h3,g3]
 ·refine⟨Bt.e,callQ hf rfl rfl rfl hr ht hn' ?_⟩
  clear hf hb0
  by_cases hx3:0≤x
  ·have hx4:¬x<64:=by omega
   simp[-splice,-fillD,z65_eq,set_take,set_splice,pures_p,set_onesT,set_fill,hl,hx,q1,q2,q3,hx3,hx4]
  ·simp[-splice,-fillD,z65_eq,set_take,set_splice,pures_p,set_onesT,set_fill,hl,hx,q1,q2,q3,hx3]
theorem transpose_call(a:Int)(b:Bt):∃r:Bt,∀H,callD (call pg) 329 [.p (setP a b)] H=some (.val (.p (setP 2 r)),H):=by
 have key:=loopW (c:=call pg) (G:=pg.G) (keep:=[1,2,3,4]) (b:=bd a329 0) (σ:=Nat×Bt) (fun s=>[(1,.box 0 0),(2,.box 1 0),(3,.box 2 0),(4,.p (.int .i64 ((s.1:Nat):Int)))]) (fun s=>⟨[(setL a b).map D.p,(setL 0 Bt.e).map D.p,(setL 2 s.2).map D.p],[]⟩) (fun s=>16-s.1) (fun s=>s.1≤16)
  (fun o e H=>o= .exit 0∧e.get 2= .box 1 0∧e.get 3= .box 2 0∧∃r,H=⟨[(setL a b).map D.p,(setL 0 Bt.e).map D.p,(setL 2 r).map D.p],[]⟩)
  (by
   rintro⟨i,x⟩ hi
   dsimp only at hi⊢
   have hb0:bd a329 0=bd a329 0:=rfl
   conv at hb0=>rhs;reduce
   have hf:a329=a329:=rfl
   conv at hf=>rhs;reduce
   rw[←hb0] at hf
   rw[hb0];clear hf hb0
   by_cases h:i<16
   ·have h1:(i:Int)<16:=by omega
    have h2:(i:Int)<64:=by omega
    have hk:i%4*4+i/4<64:=by omega
    have h3:1+(i%4*4+i/4)≤64:=by omega
    have g1:=set_bit (a:=a) (b:=b) (k:=i) (by omega)
    have g3:=fun v=>set_splice1 (a:=2) (b:=x) (v:=v) hk
    have w1:IntKind.i64.wrap (IntKind.i64.wrap ((i:Int).tmod 4*4)+IntKind.i64.wrap ((i:Int)/4))=((i%4*4+i/4 :Nat):Int):=by
     rw[Int.tmod_eq_emod_of_nonneg (by omega),wrap64 (n:=(i:Int)%4*4) (by omega) (by omega),wrap64 (n:=(i:Int)/4) (by omega) (by omega),wrap64 (by omega) (by omega)]
     omega
    have h4:((i%4*4+i/4 :Nat):Int)<64:=by omega
    have h5:(0 :Int)≤((i%4*4+i/4 :Nat):Int):=by omega
    have k1:=inc64 (k:=i) (by omega)
    refine post_mono (Q:=nx [1,2,3,4] [(1,.box 0 0),(2,.box 1 0),(3,.box 2 0),(4,.p (.int .i64 ((i+1 :Nat):Int)))] ⟨[(setL a b).map D.p,(setL 0 Bt.e).map D.p,(setL 2 (x.s (i%4*4+i/4) (b.g i))).map D.p],[]⟩) ?_ fun o e H hh=>.inl ⟨(i+1,_),by dsimp only;omega,by dsimp only;omega,hh⟩
    have ht:(((i%4*4+i/4 :Nat):Int)).toNat=i%4*4+i/4:=by omega
    generalize i%4*4+i/4=K at *
    generalize ((K:Nat):Int)=KI at *
    simp[-splice,-fillD,iaddr_box,h1,h2,h3,h4,h5,ht,w1,g1,g3,k1]
   ·have :i=16:=by omega
    subst this
    refine post_mono (Q:=fun o e H=>o= .exit 0∧e.get 2= .box 1 0∧e.get 3= .box 2 0∧H=⟨[(setL a b).map D.p,(setL 0 Bt.e).map D.p,(setL 2 x).map D.p],[]⟩) ?_ ?_
    ·simp[-splice,-fillD]
    ·rintro o e H ⟨rfl,q1,q2,rfl⟩
     exact .inr ⟨by simp,rfl,q1,q2,x,rfl⟩) (0,Bt.e) (Nat.zero_le _)
 obtain⟨o,e,H,hx,rfl,q1,q2,r,rfl⟩:=post_get key
 simp only[Int.natCast_zero] at hx
 have hb0:bd a329 0=bd a329 0:=rfl
 conv at hb0=>rhs;reduce
 have hf:a329=a329:=rfl
 conv at hf=>rhs;reduce
 rw[←hb0] at hf
 have hz65:z65=z65:=rfl
 conv at hz65=>rhs;reduce
 try rw[←hz65] at hf
 try rw[←hz65] at hb0
 clear hz65
 refine⟨r,callP (aa:=[_]) hf rfl rfl rfl ?_⟩
 clear hf hb0
 simp[-splice,-fillD,z65_eq,set_take,set_splice,pures_p,set_onesT,set_fill,hx,q1,q2]
end Go.Proofs.YtgplgbonlnodeaaGreatDoor
namespace Go.Proofs.YtgplgbonlnodeaaGreatDoor
open Go.Vs
set_option maxRecDepth 100000
set_option maxHeartbeats 4000000
theorem tmod_nat(a b:Nat):(a:Int).tmod (b:Int)=((a%b:Nat):Int):=by
 rw[Int.tmod_eq_emod_of_nonneg (by omega)];rfl
theorem product_call(a c:Int)(b d:Bt):∃r:Bt,∀H,callD (call pg) 328 [.p (setP a b),.p (setP c d)] H=some (.val (.p (setP (IntKind.i64.wrap (a+c)) r)),H):=by
 obtain⟨n,sn,n1,n2,-,-⟩:=size_call c
 obtain⟨m,sm,m1,m2,-,-⟩:=size_call a
 generalize hac:IntKind.i64.wrap (a+c)=ac at *
 have inner:=fun(i:Nat) (hi:i<64) (y:Bt)=>loopW (c:=call pg) (G:=pg.G) (keep:=[2,3,4,5,6,7,8]) (b:=bd a328 1) (σ:=Nat×Bt) (fun s=>[(2,.box 0 0),(3,.box 1 0),(4,.box 2 0),(5,.box 3 0),(6,.p (.int .i64 ((n:Nat):Int))),(7,.p (.int .i64 ((i:Nat):Int))),(8,.p (.int .i64 ((s.1:Nat):Int)))]) (fun s=>⟨[(setL a b).map D.p,(setL c d).map D.p,(setL 0 Bt.e).map D.p,(setL ac s.2).map D.p],[]⟩) (fun s=>n-s.1) (fun s=>s.1≤n)
  (fun o e H=>o= .exit 2∧e.get 2= .box 0 0∧e.get 3= .box 1 0∧e.get 4= .box 2 0∧e.get 5= .box 3 0∧e.get 6= .p (.int .i64 ((n:Nat):Int))∧e.get 7= .p (.int .i64 ((i:Nat):Int))∧∃r,H=⟨[(setL a b).map D.p,(setL c d).map D.p,(setL 0 Bt.e).map D.p,(setL ac r).map D.p],[]⟩)
  (by
   rintro⟨k,x⟩ hk
   dsimp only at hk⊢
   have hb1:bd a328 1=bd a328 1:=rfl
   conv at hb1=>rhs;reduce
   have hb0:bd a328 0=bd a328 0:=rfl
   conv at hb0=>rhs;reduce
   rw[←hb1] at hb0
   have hf:a328=a328:=rfl
   conv at hf=>rhs;reduce
   rw[←hb1] at hf
   rw[←hb0] at hf
   rw[hb1];clear hf hb0 hb1
   by_cases h:k<n
   ·have h1:(k:Int)<64:=by omega
    have h2:(i:Int)<64:=by omega
    have g1:=set_bit (a:=a) (b:=b) hi
    have g2:=set_bit (a:=c) (b:=d) (k:=k) (by omega)
    have hin:i*n≤64*64:=Nat.mul_le_mul (by omega) n2
    have w1:IntKind.i64.wrap (IntKind.i64.wrap ((i:Int)*(n:Int))+(k:Int))=((i*n+k:Nat):Int):=by
     rw[←Int.natCast_mul,wrap64 (n:=((i*n:Nat):Int)) (by omega) (by omega),wrap64 (by omega) (by omega)]
     simp
    have k1:=inc64 (k:=k) (by omega)
    cases hb:b.g i with
    |false=>
     rw[hb] at g1
     refine post_mono (Q:=nx [2,3,4,5,6,7,8] [(2,.box 0 0),(3,.box 1 0),(4,.box 2 0),(5,.box 3 0),(6,.p (.int .i64 ((n:Nat):Int))),(7,.p (.int .i64 ((i:Nat):Int))),(8,.p (.int .i64 ((k+1 :Nat):Int)))] ⟨[(setL a b).map D.p,(setL c d).map D.p,(setL 0 Bt.e).map D.p,(setL ac x).map D.p],[]⟩) ?_ fun o e H hh=>.inl ⟨(k+1,_),by dsimp only;omega,by dsimp only;omega,hh⟩
     simp[-splice,-fillD,iaddr_box,h,h2,g1,k1]
    |true=>
     rw[hb] at g1
     cases hd:d.g k with
     |false=>
      rw[hd] at g2
      refine post_mono (Q:=nx [2,3,4,5,6,7,8] [(2,.box 0 0),(3,.box 1 0),(4,.box 2 0),(5,.box 3 0),(6,.p (.int .i64 ((n:Nat):Int))),(7,.p (.int .i64 ((i:Nat):Int))),(8,.p (.int .i64 ((k+1 :Nat):Int)))] ⟨[(setL a b).map D.p,(setL c d).map D.p,(setL 0 Bt.e).map D.p,(setL ac x).map D.p],[]⟩) ?_ fun o e H hh=>.inl ⟨(k+1,_),by dsimp only;omega,by dsimp only;omega,hh⟩
      simp[-splice,-fillD,iaddr_box,h,h1,h2,g1,g2,k1]
     |true=>
      rw[hd] at g2
      by_cases hK:i*n+k<64
      ·have g3:=fun v=>set_splice1 (a:=ac) (b:=x) (v:=v) hK
       have h3:1+(i*n+k)≤64:=by omega
       have h4:((i*n+k:Nat):Int)<64:=by omega
       have h5:(0 :Int)≤((i*n+k:Nat):Int):=by omega
       have ht:(((i*n+k:Nat):Int)).toNat=i*n+k:=by omega
       refine post_mono (Q:=nx [2,3,4,5,6,7,8] [(2,.box 0 0),(3,.box 1 0),(4,.box 2 0),(5,.box 3 0),(6,.p (.int .i64 ((n:Nat):Int))),(7,.p (.int .i64 ((i:Nat):Int))),(8,.p (.int .i64 ((k+1 :Nat):Int)))] ⟨[(setL a b).map D.p,(setL c d).map D.p,(setL 0 Bt.e).map D.p,(setL ac (x.s (i*n+k) true)).map D.p],[]⟩) ?_ fun o e H hh=>.inl ⟨(k+1,_),by dsimp only;omega,by dsimp only;omega,hh⟩
       generalize i*n+k=K at *
       generalize ((K:Nat):Int)=KI at *
       simp[-splice,-fillD,iaddr_box,h,h1,h2,h3,h4,h5,ht,w1,g1,g2,g3,k1]
      ·have h4:¬((i*n+k:Nat):Int)<64:=by omega
       refine post_mono (Q:=nx [2,3,4,5,6,7,8] [(2,.box 0 0),(3,.box 1 0),(4,.box 2 0),(5,.box 3 0),(6,.p (.int .i64 ((n:Nat):Int))),(7,.p (.int .i64 ((i:Nat):Int))),(8,.p (.int .i64 ((k+1 :Nat):Int)))] ⟨[(setL a b).map D.p,(setL c d).map D.p,(setL 0 Bt.e).map D.p,(setL ac x).map D.p],[]⟩) ?_ fun o e H hh=>.inl ⟨(k+1,_),by dsimp only;omega,by dsimp only;omega,hh⟩
       generalize ((i*n+k:Nat):Int)=KI at *
       simp[-splice,-fillD,iaddr_box,h,h1,h2,h4,w1,g1,g2,k1]
   ·have :k=n:=by omega
    subst this
    refine post_mono (Q:=fun o e H=>o= .exit 2∧e.get 2= .box 0 0∧e.get 3= .box 1 0∧e.get 4= .box 2 0∧e.get 5= .box 3 0∧e.get 6= .p (.int .i64 ((k:Nat):Int))∧e.get 7= .p (.int .i64 ((i:Nat):Int))∧H=⟨[(setL a b).map D.p,(setL c d).map D.p,(setL 0 Bt.e).map D.p,(setL ac x).map D.p],[]⟩) ?_ ?_
    ·simp[-splice,-fillD]
    ·rintro o e H ⟨rfl,q1,q2,q3,q4,q5,q6,rfl⟩
     exact .inr ⟨by simp,rfl,q1,q2,q3,q4,q5,q6,x,rfl⟩) (0,y) (Nat.zero_le _)
 have key:=loopW (c:=call pg) (G:=pg.G) (keep:=[2,3,4,5,6,7]) (b:=bd a328 0) (σ:=Nat×Bt) (fun s=>[(2,.box 0 0),(3,.box 1 0),(4,.box 2 0),(5,.box 3 0),(6,.p (.int .i64 ((n:Nat):Int))),(7,.p (.int .i64 ((s.1:Nat):Int)))]) (fun s=>⟨[(setL a b).map D.p,(setL c d).map D.p,(setL 0 Bt.e).map D.p,(setL ac s.2).map D.p],[]⟩) (fun s=>m-s.1) (fun s=>s.1≤m)
  (fun o e H=>o= .exit 0∧e.get 4= .box 2 0∧e.get 5= .box 3 0∧∃r,H=⟨[(setL a b).map D.p,(setL c d).map D.p,(setL 0 Bt.e).map D.p,(setL ac r).map D.p],[]⟩)
  (by
   rintro⟨i,x⟩ hi
   dsimp only at hi⊢
   by_cases h:i<m
   ·obtain⟨o,e,H,hx,rfl,q2,q3,q4,q5,q6,q7,r,rfl⟩:=post_get (inner i (by omega) x)
    simp only[Int.natCast_zero] at hx
    have k1:=inc64 (k:=i) (by omega)
    refine post_mono (Q:=nx [2,3,4,5,6,7] [(2,.box 0 0),(3,.box 1 0),(4,.box 2 0),(5,.box 3 0),(6,.p (.int .i64 ((n:Nat):Int))),(7,.p (.int .i64 ((i+1 :Nat):Int)))] ⟨[(setL a b).map D.p,(setL c d).map D.p,(setL 0 Bt.e).map D.p,(setL ac r).map D.p],[]⟩) ?_ fun o e H hh=>.inl ⟨(i+1,r),by dsimp only;omega,by dsimp only;omega,hh⟩
    have hb1:bd a328 1=bd a328 1:=rfl
    conv at hb1=>rhs;reduce
    have hb0:bd a328 0=bd a328 0:=rfl
    conv at hb0=>rhs;reduce
    rw[←hb1] at hb0
    have hf:a328=a328:=rfl
    conv at hf=>rhs;reduce
    rw[←hb1] at hf
    rw[←hb0] at hf
    rw[hb0];clear hf hb0 hb1
    simp[-splice,-fillD,sm,h,hx,q2,q3,q4,q5,q6,q7,k1]
   ·have :i=m:=by omega
    subst this
    refine post_mono (Q:=fun o e H=>o= .exit 0∧e.get 4= .box 2 0∧e.get 5= .box 3 0∧H=⟨[(setL a b).map D.p,(setL c d).map D.p,(setL 0 Bt.e).map D.p,(setL ac x).map D.p],[]⟩) ?_ ?_
    ·skip
     have hb1:bd a328 1=bd a328 1:=rfl
     conv at hb1=>rhs;reduce
     have hb0:bd a328 0=bd a328 0:=rfl
     conv at hb0=>rhs;reduce
     rw[←hb1] at hb0
     have hf:a328=a328:=rfl
     conv at hf=>rhs;reduce
     rw[←hb1] at hf
     rw[←hb0] at hf
     rw[hb0];clear hf hb0 hb1
     simp[-splice,-fillD,sm]
    ·rintro o e H ⟨rfl,q1,q2,rfl⟩
     exact .inr ⟨by simp,rfl,q1,q2,x,rfl⟩) (0,Bt.e) (Nat.zero_le _)
 obtain⟨o,e,H,hx,rfl,q1,q2,r,rfl⟩:=post_get key
 simp only[Int.natCast_zero] at hx
 have hb1:bd a328 1=bd a328 1:=rfl
 conv at hb1=>rhs;reduce
 have hb0:bd a328 0=bd a328 0:=rfl
 conv at hb0=>rhs;reduce
 rw[←hb1] at hb0
 have hf:a328=a328:=rfl
 conv at hf=>rhs;reduce
 rw[←hb1] at hf
 rw[←hb0] at hf
 have hz65:z65=z65:=rfl
 conv at hz65=>rhs;reduce
 try rw[←hz65] at hf
 try rw[←hz65] at hb0
 try rw[←hz65] at hb1
 clear hz65
 refine⟨r,callP (aa:=[_,_]) hf rfl rfl rfl ?_⟩
 clear hf hb0 hb1
 simp[-splice,-fillD,z65_eq,set_take,set_splice,pures_p,set_onesT,set_fill,hac,sn,hx,q1,q2]
theorem join_call(a c:Int)(b d:Bt)(hc:1≤c):∃r:Bt,∀H,callD (call pg) 327 [.p (setP a b),.p (setP c d)] H=some (.val (.p (setP (IntKind.i64.wrap (IntKind.i64.wrap (a+c)-2)) r)),H):=by
 obtain⟨n4,sn,n1,n2,n3,n5⟩:=size_call c
 have n3:=n3 hc
 obtain⟨m,sm,m1,m2,-,-⟩:=size_call a
 generalize hac:IntKind.i64.wrap (IntKind.i64.wrap (a+c)-2)=ac at *
 obtain⟨n,hn⟩:∃n,n=n4/4:=⟨_,rfl⟩
 have hn1:1≤n:=by omega
 have hn2:n≤16:=by omega
 have inner:=fun(i:Nat) (hi:i<64) (y:Bt)=>loopW (c:=call pg) (G:=pg.G) (keep:=[2,3,4,5,6,7,8]) (b:=bd a327 1) (σ:=Nat×Bt) (fun s=>[(2,.box 0 0),(3,.box 1 0),(4,.box 2 0),(5,.box 3 0),(6,.p (.int .i64 ((n:Nat):Int))),(7,.p (.int .i64 ((i:Nat):Int))),(8,.p (.int .i64 ((s.1:Nat):Int)))]) (fun s=>⟨[(setL a b).map D.p,(setL c d).map D.p,(setL 0 Bt.e).map D.p,(setL ac s.2).map D.p],[]⟩) (fun s=>n4-s.1) (fun s=>s.1≤n4)
  (fun o e H=>o= .exit 2∧e.get 2= .box 0 0∧e.get 3= .box 1 0∧e.get 4= .box 2 0∧e.get 5= .box 3 0∧e.get 6= .p (.int .i64 ((n:Nat):Int))∧e.get 7= .p (.int .i64 ((i:Nat):Int))∧∃r,H=⟨[(setL a b).map D.p,(setL c d).map D.p,(setL 0 Bt.e).map D.p,(setL ac r).map D.p],[]⟩)
  (by
   rintro⟨k,x⟩ hk
   dsimp only at hk⊢
   have hb1:bd a327 1=bd a327 1:=rfl
   conv at hb1=>rhs;reduce
   have hb0:bd a327 0=bd a327 0:=rfl
   conv at hb0=>rhs;reduce
   rw[←hb1] at hb0
   have hf:a327=a327:=rfl
   conv at hf=>rhs;reduce
   rw[←hb1] at hf
   rw[←hb0] at hf
   rw[hb1];clear hf hb0 hb1
   by_cases h:k<n4
   ·have h1:(k:Int)<64:=by omega
    have h2:(i:Int)<64:=by omega
    have h6:¬(n:Int)=0:=by omega
    have h7:¬n=0:=by omega
    have g1:=set_bit (a:=a) (b:=b) hi
    have g2:=set_bit (a:=c) (b:=d) (k:=k) (by omega)
    have hin:i/4*n≤64*16:=Nat.mul_le_mul (by omega) hn2
    have hkn:k%n<n:=Nat.mod_lt _ (by omega)
    have w1:IntKind.i64.wrap (IntKind.i64.wrap (IntKind.i64.wrap ((i:Int)/4)*(n:Int))+(k:Int).tmod (n:Int))=((i/4*n+k%n:Nat):Int):=by
     rw[tmod_nat,wrap64 (n:=(i:Int)/4) (by omega) (by omega),show(i:Int)/4*(n:Int)=((i/4*n:Nat):Int) by simp,wrap64 (n:=((i/4*n:Nat):Int)) (by omega) (by omega),wrap64 (by omega) (by omega)]
     simp
    have w2:IntKind.i64.wrap ((k:Int)/(n:Int))=((k/n:Nat):Int):=by
     have hle:k/n≤k:=Nat.div_le_self _ _
     rw[←Int.natCast_ediv]
     generalize k/n=q at *
     exact wrap64 (by omega) (by omega)
    have w3:(i:Int).tmod 4=((i%4 :Nat):Int):=tmod_nat i 4
    have k1:=inc64 (k:=k) (by omega)
    cases hb:b.g i with
    |false=>
     rw[hb] at g1
     refine post_mono (Q:=nx [2,3,4,5,6,7,8] [(2,.box 0 0),(3,.box 1 0),(4,.box 2 0),(5,.box 3 0),(6,.p (.int .i64 ((n:Nat):Int))),(7,.p (.int .i64 ((i:Nat):Int))),(8,.p (.int .i64 ((k+1 :Nat):Int)))] ⟨[(setL a b).map D.p,(setL c d).map D.p,(setL 0 Bt.e).map D.p,(setL ac x).map D.p],[]⟩) ?_ fun o e H hh=>.inl ⟨(k+1,_),by dsimp only;omega,by dsimp only;omega,hh⟩
     simp[-splice,-fillD,iaddr_box,h,h2,h7,sn,g1,k1]
    |true=>
     rw[hb] at g1
     cases hd:d.g k with
     |false=>
      rw[hd] at g2
      refine post_mono (Q:=nx [2,3,4,5,6,7,8] [(2,.box 0 0),(3,.box 1 0),(4,.box 2 0),(5,.box 3 0),(6,.p (.int .i64 ((n:Nat):Int))),(7,.p (.int .i64 ((i:Nat):Int))),(8,.p (.int .i64 ((k+1 :Nat):Int)))] ⟨[(setL a b).map D.p,(setL c d).map D.p,(setL 0 Bt.e).map D.p,(setL ac x).map D.p],[]⟩) ?_ fun o e H hh=>.inl ⟨(k+1,_),by dsimp only;omega,by dsimp only;omega,hh⟩
      simp[-splice,-fillD,iaddr_box,h,h1,h2,h7,sn,g1,g2,k1]
     |true=>
      rw[hd] at g2
      by_cases hq:i%4=k/n
      ·by_cases hK:i/4*n+k%n<64
       ·have g3:=fun v=>set_splice1 (a:=ac) (b:=x) (v:=v) hK
        have h3:1+(i/4*n+k%n)≤64:=by omega
        have h4:((i/4*n+k%n:Nat):Int)<64:=by omega
        have h5:(0 :Int)≤((i/4*n+k%n:Nat):Int):=by omega
        have ht:(((i/4*n+k%n:Nat):Int)).toNat=i/4*n+k%n:=by omega
        refine post_mono (Q:=nx [2,3,4,5,6,7,8] [(2,.box 0 0),(3,.box 1 0),(4,.box 2 0),(5,.box 3 0),(6,.p (.int .i64 ((n:Nat):Int))),(7,.p (.int .i64 ((i:Nat):Int))),(8,.p (.int .i64 ((k+1 :Nat):Int)))] ⟨[(setL a b).map D.p,(setL c d).map D.p,(setL 0 Bt.e).map D.p,(setL ac (x.s (i/4*n+k%n) true)).map D.p],[]⟩) ?_ fun o e H hh=>.inl ⟨(k+1,_),by dsimp only;omega,by dsimp only;omega,hh⟩
        rw[hq] at w3
        generalize i/4*n+k%n=K at *
        generalize ((K:Nat):Int)=KI at *
        generalize ((k/n:Nat):Int)=QI at *
        simp[-splice,-fillD,iaddr_box,h,h1,h2,h3,h4,h5,h7,sn,ht,w1,w2,w3,g1,g2,g3,k1]
       ·have h4:¬((i/4*n+k%n:Nat):Int)<64:=by omega
        refine post_mono (Q:=nx [2,3,4,5,6,7,8] [(2,.box 0 0),(3,.box 1 0),(4,.box 2 0),(5,.box 3 0),(6,.p (.int .i64 ((n:Nat):Int))),(7,.p (.int .i64 ((i:Nat):Int))),(8,.p (.int .i64 ((k+1 :Nat):Int)))] ⟨[(setL a b).map D.p,(setL c d).map D.p,(setL 0 Bt.e).map D.p,(setL ac x).map D.p],[]⟩) ?_ fun o e H hh=>.inl ⟨(k+1,_),by dsimp only;omega,by dsimp only;omega,hh⟩
        rw[hq] at w3
        generalize ((i/4*n+k%n:Nat):Int)=KI at *
        generalize ((k/n:Nat):Int)=QI at *
        simp[-splice,-fillD,iaddr_box,h,h1,h2,h4,h7,sn,w1,w2,w3,g1,g2,k1]
      ·have hq':¬((i%4 :Nat):Int)=((k/n:Nat):Int):=by omega
       refine post_mono (Q:=nx [2,3,4,5,6,7,8] [(2,.box 0 0),(3,.box 1 0),(4,.box 2 0),(5,.box 3 0),(6,.p (.int .i64 ((n:Nat):Int))),(7,.p (.int .i64 ((i:Nat):Int))),(8,.p (.int .i64 ((k+1 :Nat):Int)))] ⟨[(setL a b).map D.p,(setL c d).map D.p,(setL 0 Bt.e).map D.p,(setL ac x).map D.p],[]⟩) ?_ fun o e H hh=>.inl ⟨(k+1,_),by dsimp only;omega,by dsimp only;omega,hh⟩
       generalize ((i/4*n+k%n:Nat):Int)=KI at *
       generalize ((k/n:Nat):Int)=QI at *
       generalize ((i%4 :Nat):Int)=RI at *
       simp[-splice,-fillD,iaddr_box,h,h1,h2,h7,sn,w1,w2,w3,hq',g1,g2,k1]
   ·have :k=n4:=by omega
    subst this
    refine post_mono (Q:=fun o e H=>o= .exit 2∧e.get 2= .box 0 0∧e.get 3= .box 1 0∧e.get 4= .box 2 0∧e.get 5= .box 3 0∧e.get 6= .p (.int .i64 ((n:Nat):Int))∧e.get 7= .p (.int .i64 ((i:Nat):Int))∧H=⟨[(setL a b).map D.p,(setL c d).map D.p,(setL 0 Bt.e).map D.p,(setL ac x).map D.p],[]⟩) ?_ ?_
    ·simp[-splice,-fillD,sn]
    ·rintro o e H ⟨rfl,q1,q2,q3,q4,q5,q6,rfl⟩
     exact .inr ⟨by simp,rfl,q1,q2,q3,q4,q5,q6,x,rfl⟩) (0,y) (Nat.zero_le _)
 have key:=loopW (c:=call pg) (G:=pg.G) (keep:=[2,3,4,5,6,7]) (b:=bd a327 0) (σ:=Nat×Bt) (fun s=>[(2,.box 0 0),(3,.box 1 0),(4,.box 2 0),(5,.box 3 0),(6,.p (.int .i64 ((n:Nat):Int))),(7,.p (.int .i64 ((s.1:Nat):Int)))]) (fun s=>⟨[(setL a b).map D.p,(setL c d).map D.p,(setL 0 Bt.e).map D.p,(setL ac s.2).map D.p],[]⟩) (fun s=>m-s.1) (fun s=>s.1≤m)
  (fun o e H=>o= .exit 0∧e.get 4= .box 2 0∧e.get 5= .box 3 0∧∃r,H=⟨[(setL a b).map D.p,(setL c d).map D.p,(setL 0 Bt.e).map D.p,(setL ac r).map D.p],[]⟩)
  (by
   rintro⟨i,x⟩ hi
   dsimp only at hi⊢
   by_cases h:i<m
   ·obtain⟨o,e,H,hx,rfl,q2,q3,q4,q5,q6,q7,r,rfl⟩:=post_get (inner i (by omega) x)
    simp only[Int.natCast_zero] at hx
    have k1:=inc64 (k:=i) (by omega)
    refine post_mono (Q:=nx [2,3,4,5,6,7] [(2,.box 0 0),(3,.box 1 0),(4,.box 2 0),(5,.box 3 0),(6,.p (.int .i64 ((n:Nat):Int))),(7,.p (.int .i64 ((i+1 :Nat):Int)))] ⟨[(setL a b).map D.p,(setL c d).map D.p,(setL 0 Bt.e).map D.p,(setL ac r).map D.p],[]⟩) ?_ fun o e H hh=>.inl ⟨(i+1,r),by dsimp only;omega,by dsimp only;omega,hh⟩
    have hb1:bd a327 1=bd a327 1:=rfl
    conv at hb1=>rhs;reduce
    have hb0:bd a327 0=bd a327 0:=rfl
    conv at hb0=>rhs;reduce
    rw[←hb1] at hb0
    have hf:a327=a327:=rfl
    conv at hf=>rhs;reduce
    rw[←hb1] at hf
    rw[←hb0] at hf
    rw[hb0];clear hf hb0 hb1
    simp[-splice,-fillD,sm,h,hx,q2,q3,q4,q5,q6,q7,k1]
   ·have :i=m:=by omega
    subst this
    refine post_mono (Q:=fun o e H=>o= .exit 0∧e.get 4= .box 2 0∧e.get 5= .box 3 0∧H=⟨[(setL a b).map D.p,(setL c d).map D.p,(setL 0 Bt.e).map D.p,(setL ac x).map D.p],[]⟩) ?_ ?_
    ·skip
     have hb1:bd a327 1=bd a327 1:=rfl
     conv at hb1=>rhs;reduce
     have hb0:bd a327 0=bd a327 0:=rfl
     conv at hb0=>rhs;reduce
     rw[←hb1] at hb0
     have hf:a327=a327:=rfl
     conv at hf=>rhs;reduce
     rw[←hb1] at hf
     rw[←hb0] at hf
     rw[hb0];clear hf hb0 hb1
     simp[-splice,-fillD,sm]
    ·rintro o e H ⟨rfl,q1,q2,rfl⟩
     exact .inr ⟨by simp,rfl,q1,q2,x,rfl⟩) (0,Bt.e) (Nat.zero_le _)
 obtain⟨o,e,H,hx,rfl,q1,q2,r,rfl⟩:=post_get key
 simp only[Int.natCast_zero] at hx
 have hb1:bd a327 1=bd a327 1:=rfl
 conv at hb1=>rhs;reduce
 have hb0:bd a327 0=bd a327 0:=rfl
 conv at hb0=>rhs;reduce
 rw[←hb1] at hb0
 have hf:a327=a327:=rfl
 conv at hf=>rhs;reduce
 rw[←hb1] at hf
 rw[←hb0] at hf
 have hz65:z65=z65:=rfl
 conv at hz65=>rhs;reduce
 try rw[←hz65] at hf
 try rw[←hz65] at hb0
 try rw[←hz65] at hb1
 clear hz65
 refine⟨r,callP (aa:=[_,_]) hf rfl rfl rfl ?_⟩
 clear hf hb0 hb1
 have w4:IntKind.i64.wrap ((n4:Int)/4)=(n:Int):=by rw[wrap64 (by omega) (by omega)];omega
 simp[-splice,-fillD,z65_eq,set_take,set_splice,pures_p,set_onesT,set_fill,hac,sn,w4,hx,q1,q2]
end Go.Proofs.YtgplgbonlnodeaaGreatDoor
namespace Go.Proofs.YtgplgbonlnodeaaGreatDoor
open Go.Vs
set_option maxRecDepth 100000
set_option maxHeartbeats 4000000
theorem kind_call(op:Int):∃k:UInt8,(∀H,callD (call pg) 242 [.p (.int .i64 (op))] H=some (.val (.p (.int .u8 k.toNat)),H))∧(k=101↔1≤op∧op≤15)∧(k=102↔30≤op∧op≤51)∧(k=105↔20≤op∧op≤23):=by
 have hf:a242=a242:=rfl
 conv at hf=>rhs;reduce
 by_cases h1:1≤op∧op≤15
 ·refine⟨101,callP (aa:=[_]) hf rfl rfl rfl ?_,iff_of_true rfl h1,iff_of_false (by decide) (by omega),iff_of_false (by decide) (by omega)⟩
  clear hf
  simp[h1.1,h1.2]
 ·by_cases h2:20≤op∧op≤23
  ·refine⟨105,callP (aa:=[_]) hf rfl rfl rfl ?_,iff_of_false (by decide) h1,iff_of_false (by decide) (by omega),iff_of_true rfl h2⟩
   clear hf
   have g1:1≤op:=by omega
   have g2:¬op≤15:=by omega
   simp[g1,g2,h2.1,h2.2]
  ·by_cases h3:30≤op∧op≤51
   ·refine⟨102,callP (aa:=[_]) hf rfl rfl rfl ?_,iff_of_false (by decide) h1,iff_of_true rfl h3,iff_of_false (by decide) h2⟩
    clear hf
    have g1:1≤op:=by omega
    have g2:¬op≤15:=by omega
    have g3:20≤op:=by omega
    have g4:¬op≤23:=by omega
    simp[g1,g2,g3,g4,h3.1,h3.2]
   ·refine⟨0,callP (aa:=[_]) hf rfl rfl rfl ?_,iff_of_false (by decide) h1,iff_of_false (by decide) h3,iff_of_false (by decide) h2⟩
    clear hf
    by_cases g1:1≤op
    ·have g2:¬op≤15:=by omega
     by_cases g3:20≤op
     ·have g4:¬op≤23:=by omega
      by_cases g5:30≤op
      ·have g6:¬op≤51:=by omega
       simp[g1,g2,g3,g4,g5,g6]
      ·simp[g1,g2,g3,g4,g5]
     ·have g5:¬30≤op:=by omega
      simp[g1,g2,g3,g5]
    ·have g3:¬20≤op:=by omega
     have g5:¬30≤op:=by omega
     simp[g1,g3,g5]
def Shp(op:Int)(n:Nat)(w:List UInt8):Prop:=
 (op∈[1,2,3,4,20,30,31]∧w=[])∨(op∈[5,11,12,13,21,34,35,36,37]∧w=[101])∨(op∈[6,7,8,9,10,14,32,33]∧w=[101,101])∨(op∈[15,45,46]∧w=[101,102])∨
 (op∈[22,23,38,39]∧w=[105,105])∨(op∈[40,48,49,50]∧w=[102])∨(op∈[41,42,43,44,51]∧w=[102,102])∨(op=47∧w=List.replicate (min n 401) 101)
theorem shape_call(op:Int)(n:Nat)(hn:n<4611686018427387904):∃w b,(∀H,callD (call pg) 241 [.p (.int .i64 (op)),.p (.int .i64 ((n:Nat):Int))] H=some (.val (.tup [.p (.str w),.p (.bool b)]),H))∧(b=true→Shp op n w):=by
 have hb0:bd a241 0=bd a241 0:=rfl
 conv at hb0=>rhs;reduce
 have hf:a241=a241:=rfl
 conv at hf=>rhs;reduce
 rw[←hb0] at hf
 by_cases h1:op∈[1,2,3,4,20,30,31]
 ·refine⟨[],true,callP (aa:=[_,_]) hf rfl rfl rfl ?_,fun _=>.inl ⟨h1,rfl⟩⟩
  clear hf hb0
  simp at h1
  rcases h1 with rfl |rfl |rfl |rfl |rfl |rfl |rfl<;>simp
 ·by_cases h2:op∈[5,11,12,13,21,34,35,36,37]
  ·refine⟨[101],true,callP (aa:=[_,_]) hf rfl rfl rfl ?_,fun _=>.inr (.inl ⟨h2,rfl⟩)⟩
   clear hf hb0
   clear h1
   simp at h2
   rcases h2 with rfl |rfl |rfl |rfl |rfl |rfl |rfl |rfl |rfl<;>simp
  ·by_cases h3:op∈[6,7,8,9,10,14,32,33]
   ·refine⟨[101,101],true,callP (aa:=[_,_]) hf rfl rfl rfl ?_,fun _=>.inr (.inr (.inl ⟨h3,rfl⟩))⟩
    clear hf hb0
    clear h1 h2
    simp at h3
    rcases h3 with rfl |rfl |rfl |rfl |rfl |rfl |rfl |rfl<;>simp
   ·by_cases h4:op∈[15,45,46]
    ·refine⟨[101,102],true,callP (aa:=[_,_]) hf rfl rfl rfl ?_,fun _=>.inr (.inr (.inr (.inl ⟨h4,rfl⟩)))⟩
     clear hf hb0
     clear h1 h2 h3
     simp at h4
     rcases h4 with rfl |rfl |rfl<;>simp
    ·by_cases h5:op∈[22,23,38,39]
     ·refine⟨[105,105],true,callP (aa:=[_,_]) hf rfl rfl rfl ?_,fun _=>.inr (.inr (.inr (.inr (.inl ⟨h5,rfl⟩))))⟩
      clear hf hb0
      clear h1 h2 h3 h4
      simp at h5
      rcases h5 with rfl |rfl |rfl |rfl<;>simp
     ·by_cases h6:op∈[40,48,49,50]
      ·refine⟨[102],true,callP (aa:=[_,_]) hf rfl rfl rfl ?_,fun _=>.inr (.inr (.inr (.inr (.inr (.inl ⟨h6,rfl⟩)))))⟩
       clear hf hb0
       clear h1 h2 h3 h4 h5
       simp at h6
       rcases h6 with rfl |rfl |rfl |rfl<;>simp
      ·by_cases h7:op∈[41,42,43,44,51]
       ·refine⟨[102,102],true,callP (aa:=[_,_]) hf rfl rfl rfl ?_,fun _=>.inr (.inr (.inr (.inr (.inr (.inr (.inl ⟨h7,rfl⟩))))))⟩
        clear hf hb0
        clear h1 h2 h3 h4 h5 h6
        simp at h7
        rcases h7 with rfl |rfl |rfl |rfl |rfl<;>simp
       ·by_cases h8:op=47
        ·subst h8
         have key:=loopN (c:=call pg) (G:=pg.G) (keep:=[1,6,7]) (b:=bd a241 0) (fun i=>[(1,.p (.int .i64 ((n:Nat):Int))),(6,.p (.str (List.replicate i 101))),(7,.p (.int .i64 ((i:Nat):Int)))]) (fun _=>⟨[],[]⟩) (min n 401) (fun _=>True)
          (fun o e H=>o= .exit 1∧e.get 6= .p (.str (List.replicate (min n 401) 101))) trivial ?_ ?_
         ·obtain⟨o,e,H,hx,rfl,h6⟩:=post_get key
          refine⟨List.replicate (min n 401) 101,true,callP (aa:=[_,_]) hf rfl rfl rfl ?_,fun _=>.inr (.inr (.inr (.inr (.inr (.inr (.inr ⟨rfl,rfl⟩))))))⟩
          clear hf hb0
          generalize List.replicate (min n 401) (101 :UInt8)=L at *
          simp at hx
          simp[hx,h6]
         ·intro i hi _
          rw[hb0];clear hf hb0
          have g1:(i:Int)<(n:Int):=by omega
          have g2:(i:Int)<401:=by omega
          have g3:i<n:=by omega
          have g4:i≤140737488355327:=by omega
          simp[g1,g2,g4,List.replicate_succ',inc64 (k:=i) (by omega)]
         ·intro _
          rw[hb0];clear hf hb0
          generalize hL:List.replicate (min n 401) (101 :UInt8)=L at *
          by_cases g:n<401
          ·rw[Nat.min_eq_left (by omega)]
           simp
          ·rw[Nat.min_eq_right (by omega)]
           by_cases g2:401<n
           ·have g3:(401 :Int)<(n:Int):=by omega
            simp[g3]
           ·have g3:¬(401 :Int)<(n:Int):=by omega
            simp[g3]
        ·refine⟨[],false,callP (aa:=[_,_]) hf rfl rfl rfl ?_,fun h=>by cases h⟩
         clear hf hb0
         simp only[List.mem_cons,List.not_mem_nil,or_false,not_or] at h1 h2 h3 h4 h5 h6 h7
         simp[h1,h2,h3,h4,h5,h6,h7,h8]
end Go.Proofs.YtgplgbonlnodeaaGreatDoor
namespace Go.Proofs.YtgplgbonlnodeaaGreatDoor
open Go.Vs
set_option maxRecDepth 100000
set_option maxHeartbeats 4000000
def ndSl{α:Type}:Nat→List α→Sl α
 | 0,[]=>.nil
 | 1,[]=>.amb
 |_,l=>.of l
theorem els_ndSl{α:Type}(c:Nat)(l:List α):els (ndSl c l)=l:=by
 unfold ndSl;split<;>rfl
theorem map_ndSl{α β:Type}(f:α→β)(c:Nat)(l:List α):(ndSl c l).map f=ndSl c (l.map f):=by
 cases l with
 |nil=>match c with
  | 0=>rfl
  | 1=>rfl
  |c+2=>rfl
 |cons x l=>match c with
  | 0=>rfl
  | 1=>rfl
  |c+2=>rfl
inductive Nd where
 |mk (op:Int) (nm:List UInt8) (n:Int) (c:Nat) (ks:List Nd) (pos:Int)
def Nd.op:Nd→Int | .mk op _ _ _ _ _=>op
def Nd.nm:Nd→List UInt8 | .mk _ nm _ _ _ _=>nm
def Nd.n:Nd→Int | .mk _ _ n _ _ _=>n
def Nd.c:Nd→Nat | .mk _ _ _ c _ _=>c
def Nd.ks:Nd→List Nd | .mk _ _ _ _ ks _=>ks
def Nd.pos:Nd→Int | .mk _ _ _ _ _ pos=>pos
mutual
def Nd.pd:Nd→PD
 | .mk op nm n c ks pos=>.agg [.int .i64 op,.str nm,.int .i64 n,slP 5 (ndSl c (Nd.pdL ks)),.int .i64 pos]
def Nd.pdL:List Nd→List PD
 |[]=>[]
 |k::ks=>k.pd::Nd.pdL ks
end
theorem pdL_map:∀ks:List Nd,Nd.pdL ks=ks.map Nd.pd
 |[]=>rfl
 |k::ks=>by simp[Nd.pdL,pdL_map ks]
def Nd.kidsP(a:Nd):PD:=slP 5 ((ndSl a.c a.ks).map Nd.pd)
abbrev Nd.cl(a:Nd):List PD:=[.int .i64 a.op,.str a.nm,.int .i64 a.n,a.kidsP,.int .i64 a.pos]
theorem pd_cells(a:Nd):a.pd= .agg a.cl:=by
 cases a with
 |mk op nm n c ks pos=>simp only[Nd.pd,Nd.cl,Nd.op,Nd.nm,Nd.n,Nd.kidsP,Nd.c,Nd.ks,Nd.pos,pdL_map,map_ndSl]
@[simp] theorem pone_kids(a:Nd):a.kidsP.one=true:=pone_slP ..
mutual
def Nd.size:Nd→Nat
 | .mk _ _ _ _ ks _=>1+Nd.sizeL ks
def Nd.sizeL:List Nd→Nat
 |[]=>0
 |k::ks=>k.size+Nd.sizeL ks
end
theorem size_eq(a:Nd):a.size=1+Nd.sizeL a.ks:=by cases a;rfl
theorem size_mem:∀{ks:List Nd} {k:Nd},k∈ks→k.size≤Nd.sizeL ks
 |x::ks,k,h=>by
  simp only[Nd.sizeL]
  rcases List.mem_cons.1 h with rfl |h
  ·omega
  ·have:=size_mem h;omega
theorem size_kid{a k:Nd}(h:k∈a.ks):k.size<a.size:=by
 have:=size_mem h
 rw[size_eq a];omega
theorem size_pos(a:Nd):1≤a.size:=by rw[size_eq];omega
theorem sizeL_app:∀(l m:List Nd),Nd.sizeL (l++m)=Nd.sizeL l+Nd.sizeL m
 |[],m=>by simp[Nd.sizeL]
 |k::l,m=>by simp only[List.cons_append,Nd.sizeL,sizeL_app l m];omega
theorem len_sizeL:∀ks:List Nd,ks.length≤Nd.sizeL ks
 |[]=>Nat.le_refl _
 |k::ks=>by
  have:=len_sizeL ks
  have:=size_pos k
  simp only[Nd.sizeL,List.length_cons];omega
theorem len_kids(a:Nd):lenD 1 (.p a.kidsP)=some a.ks.length:=by
 unfold Nd.kidsP;rw[len_map,els_ndSl]
theorem ia_kids{a:Nd}{k:Nat}(h:k<a.ks.length):iaddrD none 5 (.p a.kidsP) (k:Int)=some (.ro (a.ks[k]).cl 0):=by
 unfold Nd.kidsP
 rw[ia_map (by rw[els_ndSl];exact h)]
 have :(els (ndSl a.c a.ks))[k]'(by rw[els_ndSl];exact h)=a.ks[k]:=by simp only[els_ndSl]
 rw[this,pd_cells]
 rfl
inductive Ok64:Nd→Prop
 |mk (a:Nd) (h:a.ks.length<4611686018427387904) (hk:∀k∈a.ks,Ok64 k):Ok64 a
theorem Ok64.len{a:Nd}(h:Ok64 a):a.ks.length<4611686018427387904:=by cases h;assumption
theorem Ok64.kid{a k:Nd}(h:Ok64 a)(hk:k∈a.ks):Ok64 k:=by cases h;rename_i h;exact h k hk
theorem iaddr_fs{e0 sz:Nat}{es:List PD}{k:Nat}(h:k<es.length):iaddrD none sz (.fsl e0 sz es) (k:Int)=some (.ro (es[k]).cells 0):=iaddr_fsl h
theorem keyword_call(s:List UInt8):∃r:Bool,∀H,callD (call pg) 290 [.p (.str s)] H=some (.val (.p (.bool r)),H):=by
 have key:=fun(L:List PD) (hL:∀x∈L,∃s,x= .str s) (hl:L.length<4611686018427387904)=>loopN (c:=call pg) (G:=pg.G) (keep:=[0,3,4]) (b:=bd a290 0) (fun i=>[(0,.p (.str s)),(3,.fsl 9 1 L),(4,.p (.int .i64 ((i:Nat):Int)))]) (fun _=>⟨[],[]⟩) L.length (fun _=>True)
  (fun o e H=>H=⟨[],[]⟩∧(o= .exit 0∨(o= .ret∧e.get 2= .p (.bool true)))) trivial
  (fun i hi _=>by
   have hb0:bd a290 0=bd a290 0:=rfl
   conv at hb0=>rhs;reduce
   have hf:a290=a290:=rfl
   conv at hf=>rhs;reduce
   rw[←hb0] at hf
   rw[hb0];clear hf hb0
   obtain⟨w,hw⟩:=hL _ (List.getElem_mem hi)
   have hia:=iaddr_fs (e0:=9) (sz:=1) hi
   rw[hw] at hia
   by_cases hc:w=s
   ·simp[hia,hi,hc]
   ·simp[hia,hi,hc,inc64 (k:=i) (by omega)])
  (fun _=>by
   have hb0:bd a290 0=bd a290 0:=rfl
   conv at hb0=>rhs;reduce
   have hf:a290=a290:=rfl
   conv at hf=>rhs;reduce
   rw[←hb0] at hf
   rw[hb0];clear hf hb0
   simp)
 have hb0:bd a290 0=bd a290 0:=rfl
 conv at hb0=>rhs;reduce
 have hf:a290=a290:=rfl
 conv at hf=>rhs;reduce
 rw[←hb0] at hf
 refine callE1 (f:=290) (aa:=[.str s]) (y:=fun r:Bool=>.p (.bool r)) hf rfl rfl rfl ?_
 ·clear hf hb0
  simp
  refine post_seq (post_block (post_mono (key _ ?_ ?_) ?_))
  ·simp
  ·simp
  ·rintro o e H ⟨rfl,rfl |⟨rfl,h⟩⟩
   ·simp
   ·simp[h]
end Go.Proofs.YtgplgbonlnodeaaGreatDoor
namespace Go.Proofs.YtgplgbonlnodeaaGreatDoor
open Go.Vs
set_option maxRecDepth 100000
set_option maxHeartbeats 4000000
theorem name_call(s:List UInt8):∃r:Bool,∀H,callD (call pg) 240 [.p (.str s)] H=some (.val (.p (.bool r)),H):=by
 obtain⟨kw,hk⟩:=keyword_call s
 have key:=fun(hl:s.length≤16)=>loopN (c:=call pg) (G:=pg.G) (keep:=[0,3]) (b:=bd a240 0) (fun i=>[(0,.p (.str s)),(3,.p (.int .i64 ((i:Nat):Int)))]) (fun _=>⟨[],[]⟩) s.length (fun _=>True)
  (fun o e H=>H=⟨[],[]⟩∧(o= .exit 0∨(o= .ret∧e.get 2= .p (.bool false)))) trivial
  (fun i hi _=>by
   have hb0:bd a240 0=bd a240 0:=rfl
   conv at hb0=>rhs;reduce
   have hf:a240=a240:=rfl
   conv at hf=>rhs;reduce
   rw[←hb0] at hf
   rw[hb0];clear hf hb0
   have hc:s[i].toNat<256:=UInt8.toNat_lt _
   generalize hn:(s[i].toNat:Int)=n at *
   have k1:=inc64 (k:=i) (by omega)
   have hcase:(0≤n∧n≤47)∨(48≤n∧n≤57)∨(58≤n∧n≤64)∨(65≤n∧n≤90)∨(91≤n∧n≤94)∨(95≤n∧n≤95)∨(96≤n∧n≤96)∨(97≤n∧n≤122)∨(123≤n∧n≤255):=by omega
   have hz:((i:Int)==0)=true∨((i:Int)==0)=false:=by cases ((i:Int)==0)<;>simp
   have hcn:0≤n∧n<256:=by omega
   rcases hcase with hh |hh |hh |hh |hh |hh |hh |hh |hh
   ·have f1:¬97≤n:=by omega
    have f2:n≤122:=by omega
    have f3:¬65≤n:=by omega
    have f4:n≤90:=by omega
    have f5:¬n=95:=by omega
    have f6:n<48:=by omega
    have f7:¬57<n:=by omega
    rcases hz with hz |hz<;>simp[-Int.natCast_inj,hi,hn,f1,f3,f5,f6,hz]
   ·have f1:¬97≤n:=by omega
    have f2:n≤122:=by omega
    have f3:¬65≤n:=by omega
    have f4:n≤90:=by omega
    have f5:¬n=95:=by omega
    have f6:¬n<48:=by omega
    have f7:¬57<n:=by omega
    rcases hz with hz |hz<;>simp[-Int.natCast_inj,hi,hn,f1,f3,f5,f6,f7,hz,k1]
   ·have f1:¬97≤n:=by omega
    have f2:n≤122:=by omega
    have f3:¬65≤n:=by omega
    have f4:n≤90:=by omega
    have f5:¬n=95:=by omega
    have f6:¬n<48:=by omega
    have f7:57<n:=by omega
    rcases hz with hz |hz<;>simp[-Int.natCast_inj,hi,hn,f1,f3,f5,f6,f7,hz]
   ·have f1:¬97≤n:=by omega
    have f2:n≤122:=by omega
    have f3:65≤n:=by omega
    have f4:n≤90:=by omega
    have f5:¬n=95:=by omega
    have f6:¬n<48:=by omega
    have f7:57<n:=by omega
    rcases hz with hz |hz<;>simp[-Int.natCast_inj,hi,hn,f1,f3,f4,k1]
   ·have f1:¬97≤n:=by omega
    have f2:n≤122:=by omega
    have f3:65≤n:=by omega
    have f4:¬n≤90:=by omega
    have f5:¬n=95:=by omega
    have f6:¬n<48:=by omega
    have f7:57<n:=by omega
    rcases hz with hz |hz<;>simp[-Int.natCast_inj,hi,hn,f1,f3,f4,f5,f6,f7,hz]
   ·have f1:¬97≤n:=by omega
    have f2:n≤122:=by omega
    have f3:65≤n:=by omega
    have f4:¬n≤90:=by omega
    have f5:n=95:=by omega
    have f6:¬n<48:=by omega
    have f7:57<n:=by omega
    rcases hz with hz |hz<;>simp[-Int.natCast_inj,hi,hn,f5,hz,k1]
   ·have f1:¬97≤n:=by omega
    have f2:n≤122:=by omega
    have f3:65≤n:=by omega
    have f4:¬n≤90:=by omega
    have f5:¬n=95:=by omega
    have f6:¬n<48:=by omega
    have f7:57<n:=by omega
    rcases hz with hz |hz<;>simp[-Int.natCast_inj,hi,hn,f1,f3,f4,f5,f6,f7,hz]
   ·have f1:97≤n:=by omega
    have f2:n≤122:=by omega
    have f3:65≤n:=by omega
    have f4:¬n≤90:=by omega
    have f5:¬n=95:=by omega
    have f6:¬n<48:=by omega
    have f7:57<n:=by omega
    rcases hz with hz |hz<;>simp[-Int.natCast_inj,hi,hn,f1,f2,k1]
   ·have f1:97≤n:=by omega
    have f2:¬n≤122:=by omega
    have f3:65≤n:=by omega
    have f4:¬n≤90:=by omega
    have f5:¬n=95:=by omega
    have f6:¬n<48:=by omega
    have f7:57<n:=by omega
    rcases hz with hz |hz<;>simp[-Int.natCast_inj,hi,hn,f1,f2,f3,f4,f5,f6,f7,hz])
  (fun _=>by
   have hb0:bd a240 0=bd a240 0:=rfl
   conv at hb0=>rhs;reduce
   have hf:a240=a240:=rfl
   conv at hf=>rhs;reduce
   rw[←hb0] at hf
   rw[hb0];clear hf hb0
   simp)
 have hb0:bd a240 0=bd a240 0:=rfl
 conv at hb0=>rhs;reduce
 have hf:a240=a240:=rfl
 conv at hf=>rhs;reduce
 rw[←hb0] at hf
 refine callE1 (f:=240) (aa:=[.str s]) (y:=fun r:Bool=>.p (.bool r)) hf rfl rfl rfl ?_
 ·clear hf hb0
  by_cases h1:s.length=0
  ·simp[h1]
  ·by_cases h2:16<s.length
   ·have h3:(16 :Int)<(s.length:Int):=by omega
    have h4:¬s=[]:=fun h=>h1 (by rw[h];rfl)
    simp[h1,h3]
   ·have h3:¬(16 :Int)<(s.length:Int):=by omega
    have h4:¬s=[]:=fun h=>h1 (by rw[h];rfl)
    cases kw with
    |true=>simp[h1,h3,hk]
    |false=>
     obtain⟨o,e,H,hx,rfl,hq⟩:=post_get (key (by omega))
     simp at hx
     rcases hq with rfl |⟨rfl,h⟩
     ·simp[h1,h3,hk,hx]
     ·simp[h1,h3,hk,hx,h]
end Go.Proofs.YtgplgbonlnodeaaGreatDoor
namespace Go.Proofs.YtgplgbonlnodeaaGreatDoor
open Go.Vs
set_option maxRecDepth 100000
set_option maxHeartbeats 4000000
theorem own_call(op n pos:Int)(nm:List UInt8)(ks:PD)(hk:ks.one=true):
    ∃r:Bool,(∀H,callD (call pg) 182 [.p (.agg [.int .i64 op,.str nm,.int .i64 n,ks,.int .i64 pos])] H=some (.val (.p (.bool r)),H))∧(r=true→op=2→1≤n∧n≤3):=by
 obtain⟨nr,hn⟩:=name_call nm
 have hf:a182=a182:=rfl
 conv at hf=>rhs;reduce
 refine callE (f:=182) (aa:=[_]) (y:=fun r:Bool=>.p (.bool r)) hf rfl rfl rfl ?_
 clear hf
 by_cases h1:op=1
 ·subst h1
  cases nr<;>simp[hk,hn]<;>omega
 ·by_cases h2:op=15
  ·subst h2
   cases nr<;>simp[hk,hn]<;>omega
  ·by_cases h3:op=45
   ·subst h3
    cases nr<;>simp[hk,hn]<;>omega
   ·by_cases h4:op=46
    ·subst h4
     cases nr<;>simp[hk,hn]<;>omega
    ·by_cases h5:op=47
     ·subst h5
      cases nr<;>simp[hk,hn]<;>omega
     ·cases nr with
      |true=>simp[hk,hn,h1,h2,h3,h4,h5]
      |false=>
       by_cases h6:nm=[]
       ·subst h6
        by_cases h7:op=2
        ·subst h7
         by_cases h8:1≤n
         ·simp[hk,hn,h8]<;>omega
         ·simp[hk,hn,h8]<;>omega
        ·by_cases h8:op=20
         ·subst h8
          by_cases h9: -64≤n
          ·simp[hk,hn,h9]<;>omega
          ·simp[hk,hn,h9]<;>omega
         ·simp[hk,hn,h1,h2,h3,h4,h5,h7,h8]<;>omega
       ·simp[hk,hn,h1,h2,h3,h4,h5,h6]
def KindOf(op:Int)(c:UInt8):Prop:=(c=101→1≤op∧op≤15)∧(c=102→30≤op∧op≤51)∧(c=105→20≤op∧op≤23)
def FitsP(op:Int)(ks:List Nd):Prop:=∃w,Shp op ks.length w∧w.length=ks.length∧∀i,i<ks.length→∀k c,ks[i]? =some k→w[i]? =some c→KindOf k.op c
theorem fits02_call(op:Int)(a:Nd)(hl:a.ks.length<4611686018427387904):
    ∃r:Bool,(∀H,callD (call pg) 183 [.p (.int .i64 (op)),.p (a.kidsP)] H=some (.val (.p (.bool r)),H))∧(r=true→FitsP op a.ks):=by
 obtain⟨w,b,c1,d1⟩:=shape_call op a.ks.length hl
 have key:=fun(hw:w.length=a.ks.length)=>loopC (c:=call pg) (G:=pg.G) (keep:=[1,5,7]) (b:=bd a183 0) (fun i=>[(1,.p (a.kidsP)),(5,.p (.str w)),(7,.p (.int .i64 ((i:Nat):Int)))]) ⟨[],[]⟩ a.ks.length
  (fun i=>∀k c,a.ks[i]? =some k→w[i]? =some c→KindOf k.op c) 0 (fun _=>True) (fun e=>e.get 4= .p (.bool false))
  (fun i hi=>by
   obtain⟨k,c2,d2,d3,d4⟩:=kind_call (a.ks[i]).op
   have hi2:i<w.length:=by omega
   have hia:=ia_kids hi
   have k1:=inc64 (k:=i) (by omega)
   have hP:k=w[i]→∀k c,a.ks[i]? =some k→w[i]? =some c→KindOf k.op c:=by
    rintro h k' c' h1 h2
    rw[List.getElem?_eq_getElem hi] at h1
    rw[List.getElem?_eq_getElem hi2] at h2
    cases h1
    cases h2
    rw[←h]
    exact⟨d2.1,d3.1,d4.1⟩
   generalize (∀k c,a.ks[i]? =some k→w[i]? =some c→KindOf k.op c)=PP at *
   have hb0:bd a183 0=bd a183 0:=rfl
   conv at hb0=>rhs;reduce
   have hf:a183=a183:=rfl
   conv at hf=>rhs;reduce
   rw[←hb0] at hf
   rw[hb0];clear hf hb0
   by_cases hk:k=w[i]
   ·have hP:=hP hk
    have hkn:w[i].toNat=k.toNat:=by rw[hk]
    clear hk
    simp[len_kids,hi,hia,c2,hkn,hP,k1,hi2]
   ·have hne:¬k.toNat=w[i].toNat:=fun h=>hk (UInt8.toNat.inj h)
    simp[len_kids,hi,hia,c2,hi2,hne])
  (by
   have hb0:bd a183 0=bd a183 0:=rfl
   conv at hb0=>rhs;reduce
   have hf:a183=a183:=rfl
   conv at hf=>rhs;reduce
   rw[←hb0] at hf
   rw[hb0];clear hf hb0
   simp[len_kids])
 have hb0:bd a183 0=bd a183 0:=rfl
 conv at hb0=>rhs;reduce
 have hf:a183=a183:=rfl
 conv at hf=>rhs;reduce
 rw[←hb0] at hf
 refine callE (f:=183) (aa:=[_,_]) (y:=fun r:Bool=>.p (.bool r)) hf rfl rfl rfl ?_
 clear hf hb0
 cases b with
 |false=>simp[c1,len_kids]
 |true=>
  by_cases hw:w.length=a.ks.length
  ·rcases key hw with⟨e,hx,-,hp⟩ |⟨e,hx,hr⟩
   ·simp at hx
    have :FitsP op a.ks:=⟨w,d1 rfl,hw,hp⟩
    simp[c1,len_kids,hw,hx,this]
   ·simp at hx
    simp[c1,len_kids,hw,hx,hr]
  ·simp[c1,len_kids,hw]
theorem count_call:∀(m:Nat) (a:Nd) (l:Nat),a.size≤m→Ok64 a→l≤1000→∀H,callD (call pg) 128 [.p (.agg a.cl),.p (.int .i64 ((l:Nat):Int))] H=some (.val (.p (.int .i64 ((min a.size (l+1):Nat):Int))),H):=by
 intro m
 induction m with
 |zero=>intro a l h;have:=size_pos a;omega
 |succ m ih=>
  intro a l hm ok hl
  have key:=loopW (c:=call pg) (G:=pg.G) (keep:=[1,2,5,6]) (b:=bd a128 0) (σ:=Nat) (fun i=>[(1,.p (.int .i64 ((l:Nat):Int))),(2,.box 0 0),(5,.p (.int .i64 ((min (1+Nd.sizeL (a.ks.take i)) (l+1):Nat):Int))),(6,.p (.int .i64 ((i:Nat):Int)))]) (fun _=>⟨[a.cl.map .p],[]⟩) (fun i=>a.ks.length-i) (fun i=>i≤a.ks.length∧i≤l+1)
   (fun o e H=>o= .exit 0∧e.get 5= .p (.int .i64 ((min a.size (l+1):Nat):Int))) ?_ 0 ⟨Nat.zero_le _,Nat.zero_le _⟩
  ·obtain⟨o,e,H,hx,rfl,h5⟩:=post_get key
   have hb0:bd a128 0=bd a128 0:=rfl
   conv at hb0=>rhs;reduce
   have hf:a128=a128:=rfl
   conv at hf=>rhs;reduce
   rw[←hb0] at hf
   refine callP (aa:=[_,_]) hf rfl rfl rfl ?_
   clear hf hb0
   simp[Nd.sizeL] at hx
   have h1:min 1 (l+1)=1:=by omega
   simp[hx,h5]
  ·rintro i ⟨hi,hil⟩
   have hlen:=ok.len
   have hb0:bd a128 0=bd a128 0:=rfl
   conv at hb0=>rhs;reduce
   have hf:a128=a128:=rfl
   conv at hf=>rhs;reduce
   rw[←hb0] at hf
   rw[hb0];clear hf hb0
   by_cases h1:i<a.ks.length
   ·have hT:=sizeL_app (a.ks.take i) [a.ks[i]]
    rw[←List.take_succ_eq_append_getElem h1] at hT
    simp only[Nd.sizeL,Nat.add_zero] at hT
    have hge:i≤Nd.sizeL (a.ks.take i):=by
     have:=len_sizeL (a.ks.take i)
     rw[List.length_take] at this
     omega
    have hia:=ia_kids h1
    by_cases h2:1+Nd.sizeL (a.ks.take i)≤l
    ·have hm1:min (1+Nd.sizeL (a.ks.take i)) (l+1)=1+Nd.sizeL (a.ks.take i):=by omega
     have hkid:=size_kid (List.getElem_mem h1)
     have hc:=ih (a.ks[i]) (l-(1+Nd.sizeL (a.ks.take i))) (by omega) (ok.kid (List.getElem_mem h1)) (by omega)
     have hw1:IntKind.i64.wrap ((l:Int)-((1+Nd.sizeL (a.ks.take i):Nat):Int))=((l-(1+Nd.sizeL (a.ks.take i)):Nat):Int):=by
      rw[wrap64 (by omega) (by omega)];omega
     have hw2:IntKind.i64.wrap (((1+Nd.sizeL (a.ks.take i):Nat):Int)+((min (a.ks[i]).size (l-(1+Nd.sizeL (a.ks.take i))+1):Nat):Int))=((min (1+Nd.sizeL (a.ks.take (i+1))) (l+1):Nat):Int):=by
      rw[wrap64 (by omega) (by omega),hT];omega
     have hk1:=inc64 (k:=i) (by omega)
     have hle:((1+Nd.sizeL (a.ks.take i):Nat):Int)≤(l:Int):=by omega
     refine post_mono (Q:=nx [1,2,5,6] [(1,.p (.int .i64 ((l:Nat):Int))),(2,.box 0 0),(5,.p (.int .i64 ((min (1+Nd.sizeL (a.ks.take (i+1))) (l+1):Nat):Int))),(6,.p (.int .i64 ((i+1 :Nat):Int)))] ⟨[a.cl.map .p],[]⟩) ?_ fun o e H h=>.inl ⟨i+1,⟨h1,by omega⟩,by omega,h⟩
     rw[hm1]
     generalize ((1+Nd.sizeL (a.ks.take i):Nat):Int)=A at *
     generalize ((min (1+Nd.sizeL (a.ks.take (i+1))) (l+1):Nat):Int)=B at *
     generalize ((l-(1+Nd.sizeL (a.ks.take i)):Nat):Int)=C at *
     generalize ((min (a.ks[i]).size (l-(1+Nd.sizeL (a.ks.take i))+1):Nat):Int)=D0 at *
     simp[len_kids,h1,hia,hle,hw1,hc,hw2,hk1]
    ·have hm1:min (1+Nd.sizeL (a.ks.take i)) (l+1)=l+1:=by omega
     have hs:min a.size (l+1)=l+1:=by
      have h3:=sizeL_app (a.ks.take i) (a.ks.drop i)
      rw[List.take_append_drop] at h3
      have:=size_eq a
      omega
     rw[hm1,hs]
     have hle:¬((l+1 :Nat):Int)≤(l:Int):=by omega
     generalize ((l+1 :Nat):Int)=A at *
     simp[len_kids,h1,hle]
   ·have hi':i=a.ks.length:=by omega
    subst hi'
    rw[List.take_length,←size_eq]
    generalize ((min a.size (l+1):Nat):Int)=A at *
    simp[len_kids]
inductive Wf:Nd→Prop
 |mk (a:Nd) (own:a.op=2→1≤a.n∧a.n≤3) (fits:FitsP a.op a.ks) (kids:∀k∈a.ks,Wf k):Wf a
theorem formed_call:∀(m:Nat) (a:Nd) (d:Nat),a.size≤m→m≤400→d≤24→
    ∃r:Bool,(∀H,callD (call pg) 129 [.p (.agg a.cl),.p (.int .i64 ((d:Nat):Int))] H=some (.val (.p (.bool r)),H))∧(r=true→Wf a):=by
 intro m
 induction m with
 |zero=>intro a l h;have:=size_pos a;omega
 |succ m ih=>
  intro a d hm hm4 hd
  have hlen:a.ks.length<4611686018427387904:=by
   have:=len_sizeL a.ks
   have:=size_eq a
   omega
  obtain⟨b1,c1,d1⟩:=own_call a.op a.n a.pos a.nm a.kidsP (pone_kids a)
  obtain⟨b2,c2,d2⟩:=fits02_call a.op a hlen
  have key:=fun(hd1:1≤d)=>loopC (c:=call pg) (G:=pg.G) (keep:=[1,2,5]) (b:=bd a129 0) (fun i=>[(1,.p (.int .i64 ((d:Nat):Int))),(2,.box 0 0),(5,.p (.int .i64 ((i:Nat):Int)))]) ⟨[a.cl.map .p],[]⟩ a.ks.length
   (fun i=>∀k,a.ks[i]? =some k→Wf k) 0 (fun _=>True) (fun e=>e.get 4= .p (.bool false))
   (fun i hi=>by
    have hkid:=size_kid (List.getElem_mem hi)
    obtain⟨b3,c3,d3⟩:=ih (a.ks[i]) (d-1) (by omega) (by omega) (by omega)
    have hia:=ia_kids hi
    have k1:=inc64 (k:=i) (by omega)
    have hw:IntKind.i64.wrap ((d:Int)-1)=((d-1 :Nat):Int):=by rw[wrap64 (by omega) (by omega)];omega
    have hP:b3=true→∀k,a.ks[i]? =some k→Wf k:=by
     intro h k hk
     rw[List.getElem?_eq_getElem hi] at hk
     cases hk
     exact d3 h
    generalize (∀k,a.ks[i]? =some k→Wf k)=PP at *
    generalize ((d-1 :Nat):Int)=D1 at *
    have hb0:bd a129 0=bd a129 0:=rfl
    conv at hb0=>rhs;reduce
    have hf:a129=a129:=rfl
    conv at hf=>rhs;reduce
    rw[←hb0] at hf
    rw[hb0];clear hf hb0
    cases b3 with
    |true=>
     have hP:=hP rfl
     simp[len_kids,hi,hia,c3,hw,hP,k1]
    |false=>simp[len_kids,hi,hia,c3,hw])
   (by
    have hb0:bd a129 0=bd a129 0:=rfl
    conv at hb0=>rhs;reduce
    have hf:a129=a129:=rfl
    conv at hf=>rhs;reduce
    rw[←hb0] at hf
    rw[hb0];clear hf hb0
    simp[len_kids])
  have hb0:bd a129 0=bd a129 0:=rfl
  conv at hb0=>rhs;reduce
  have hf:a129=a129:=rfl
  conv at hf=>rhs;reduce
  rw[←hb0] at hf
  refine callE (f:=129) (aa:=[_,_]) (y:=fun r:Bool=>.p (.bool r)) hf rfl rfl rfl ?_
  clear hf hb0
  by_cases hd1:1≤d
  ·have g1:¬(d:Int)<1:=by omega
   have g2:¬d=0:=by omega
   cases b1 with
   |false=>simp[g1,c1]
   |true=>
    cases b2 with
    |false=>simp[g1,c1,c2]
    |true=>
     rcases key hd1 with⟨e,hx,-,hp⟩ |⟨e,hx,hr⟩
     ·have hwf:Wf a:=⟨a,d1 rfl,d2 rfl,all_ix.1 hp⟩
      simp at hx
      simp[g1,c1,c2,hx,hwf]
     ·simp at hx
      simp[g1,c1,c2,hx,hr]
  ·have g1:(d:Int)<1:=by omega
   have g2:d=0:=by omega
   subst g2
   simp
theorem validNode_call(a:Nd)(ok:Ok64 a):∃r:Bool,(∀H,callD (call pg) 84 [.p (.agg a.cl)] H=some (.val (.p (.bool r)),H))∧(r=true→a.size≤400∧Wf a):=by
 have h1:=count_call _ a 400 (Nat.le_refl _) ok (by omega)
 have hf:a84=a84:=rfl
 conv at hf=>rhs;reduce
 refine callE (f:=84) (aa:=[_]) (y:=fun r:Bool=>.p (.bool r)) hf rfl rfl rfl ?_
 clear hf
 by_cases h2:a.size≤400
 ·obtain⟨b,c2,d2⟩:=formed_call 400 a 24 h2 (Nat.le_refl _) (Nat.le_refl _)
  have h3:min a.size (400+1)=a.size:=by omega
  have h4:(a.size:Int)≤400:=by omega
  rw[h3] at h1
  cases b with
  |true=>
   have d2:=d2 rfl
   simp at h1 c2
   simp[h1,h4,c2,h2,d2]
  |false=>
   simp at h1 c2
   simp[h1,h4,c2]
 ·have h3:min a.size (400+1)=401:=by omega
  rw[h3] at h1
  simp at h1
  simp[h1]
end Go.Proofs.YtgplgbonlnodeaaGreatDoor
namespace Go.Proofs.YtgplgbonlnodeaaGreatDoor
open Go.Vs
set_option maxRecDepth 100000
set_option maxHeartbeats 4000000
structure Sr where
 nm:List UInt8
 od:Bool
def Sr.p(s:Sr):PD:=.agg [.str s.nm,.bool s.od]
def sortsP(s:Sl Sr):PD:=slP 2 (s.map Sr.p)
theorem len_sorts(s:Sl Sr):lenD 1 (.p (sortsP s))=some (els s).length:=len_map 2 _ s
theorem ia_sorts{s:Sl Sr}{k:Nat}(h:k<(els s).length):iaddrD none 2 (.p (sortsP s)) (k:Int)=some (.ro [.str (els s)[k].nm,.bool (els s)[k].od] 0):=ia_map h
@[simp] theorem pone_sorts(a:Sl Sr):(sortsP a).one=true:=pone_slP 2 _
structure Pm where
 nm:List UInt8
 so:Int
def Pm.p(s:Pm):PD:=.agg [.str s.nm,.int .i64 s.so]
def paramsP(s:Sl Pm):PD:=slP 2 (s.map Pm.p)
theorem len_params(s:Sl Pm):lenD 1 (.p (paramsP s))=some (els s).length:=len_map 2 _ s
theorem ia_params{s:Sl Pm}{k:Nat}(h:k<(els s).length):iaddrD none 2 (.p (paramsP s)) (k:Int)=some (.ro [.str (els s)[k].nm,.int .i64 (els s)[k].so] 0):=ia_map h
@[simp] theorem pone_params(a:Sl Pm):(paramsP a).one=true:=pone_slP 2 _
structure Pr where
 nm:List UInt8
 ps:Sl Pm
 bo:Nd
def Pr.p(s:Pr):PD:=.agg [.str s.nm,paramsP s.ps,.int .i64 s.bo.op,.str s.bo.nm,.int .i64 s.bo.n,s.bo.kidsP,.int .i64 s.bo.pos]
def predsP(s:Sl Pr):PD:=slP 7 (s.map Pr.p)
theorem len_preds(s:Sl Pr):lenD 1 (.p (predsP s))=some (els s).length:=len_map 7 _ s
theorem ia_preds{s:Sl Pr}{k:Nat}(h:k<(els s).length):iaddrD none 7 (.p (predsP s)) (k:Int)=some (.ro [.str (els s)[k].nm,paramsP (els s)[k].ps,.int .i64 (els s)[k].bo.op,.str (els s)[k].bo.nm,.int .i64 (els s)[k].bo.n,(els s)[k].bo.kidsP,.int .i64 (els s)[k].bo.pos] 0):=ia_map h
@[simp] theorem pone_preds(a:Sl Pr):(predsP a).one=true:=pone_slP 7 _
structure Fa where
 nm:List UInt8
 bo:Nd
def Fa.p(s:Fa):PD:=.agg [.str s.nm,.int .i64 s.bo.op,.str s.bo.nm,.int .i64 s.bo.n,s.bo.kidsP,.int .i64 s.bo.pos]
def factsP(s:Sl Fa):PD:=slP 6 (s.map Fa.p)
theorem len_facts(s:Sl Fa):lenD 1 (.p (factsP s))=some (els s).length:=len_map 6 _ s
theorem ia_facts{s:Sl Fa}{k:Nat}(h:k<(els s).length):iaddrD none 6 (.p (factsP s)) (k:Int)=some (.ro [.str (els s)[k].nm,.int .i64 (els s)[k].bo.op,.str (els s)[k].bo.nm,.int .i64 (els s)[k].bo.n,(els s)[k].bo.kidsP,.int .i64 (els s)[k].bo.pos] 0):=ia_map h
@[simp] theorem pone_facts(a:Sl Fa):(factsP a).one=true:=pone_slP 6 _
structure Sp where
 so:Sl Sr
 fi:Sl Fi
 pr:Sl Pr
 fa:Sl Fa
abbrev Sp.cl(s:Sp):List PD:=[sortsP s.so,fieldsP s.fi,predsP s.pr,factsP s.fa]
def PmsOk(ns:Nat)(l:List Pm):Prop:=l.length≤8∧∀p∈l,0≤p.so∧p.so<(ns:Int)
theorem params_call(sp:Sp)(l:Sl Pm):
    ∃r:Bool,(∀H,callD (call pg) 96 [.p (.agg sp.cl),.p (paramsP l)] H=some (.val (.p (.bool r)),H))∧(r=true→PmsOk (els sp.so).length (els l)):=by
 have key:=fun(hl:(els l).length≤8)=>loopC (c:=call pg) (G:=pg.G) (keep:=[1,2,5]) (b:=bd a96 0) (fun i=>[(1,.p (paramsP l)),(2,.box 0 0),(5,.p (.int .i64 ((i:Nat):Int)))]) ⟨[sp.cl.map .p],[]⟩ (els l).length
  (fun i=>∀p,(els l)[i]? =some p→0≤p.so∧p.so<((els sp.so).length:Int)) 0 (fun _=>True) (fun e=>e.get 4= .p (.bool false))
  (fun i hi=>by
   have k1:=inc64 (k:=i) (by omega)
   have hia:=ia_params hi
   have hP:0≤(els l)[i].so∧(els l)[i].so<((els sp.so).length:Int)→∀p,(els l)[i]? =some p→0≤p.so∧p.so<((els sp.so).length:Int):=by
    intro h p hp
    rw[List.getElem?_eq_getElem hi] at hp
    cases hp
    exact h
   generalize (∀p,(els l)[i]? =some p→0≤p.so∧p.so<((els sp.so).length:Int))=PP at *
   generalize (els l)[i]=q at *
   have hb0:bd a96 0=bd a96 0:=rfl
   conv at hb0=>rhs;reduce
   have hf:a96=a96:=rfl
   conv at hf=>rhs;reduce
   rw[←hb0] at hf
   rw[hb0];clear hf hb0
   by_cases g1:q.so<0
   ·simp[len_params,hi,hia,g1]
   ·by_cases g2:((els sp.so).length:Int)≤q.so
    ·simp[len_params,len_sorts,hi,hia,g1,g2]
    ·have hP:=hP ⟨by omega,by omega⟩
     simp[len_params,len_sorts,hi,hia,g1,g2,hP,k1])
  (by
   have hb0:bd a96 0=bd a96 0:=rfl
   conv at hb0=>rhs;reduce
   have hf:a96=a96:=rfl
   conv at hf=>rhs;reduce
   rw[←hb0] at hf
   rw[hb0];clear hf hb0
   simp[len_params])
 have hb0:bd a96 0=bd a96 0:=rfl
 conv at hb0=>rhs;reduce
 have hf:a96=a96:=rfl
 conv at hf=>rhs;reduce
 rw[←hb0] at hf
 refine callE (f:=96) (aa:=[_,_]) (y:=fun r:Bool=>.p (.bool r)) hf rfl rfl rfl ?_
 clear hf hb0
 by_cases hl:(els l).length≤8
 ·have g1:¬(8 :Int)<((els l).length:Int):=by omega
  rcases key hl with⟨e,hx,-,hp⟩ |⟨e,hx,hr⟩
  ·have hok:PmsOk (els sp.so).length (els l):=⟨hl,all_ix.1 hp⟩
   simp at hx
   simp[len_params,g1,hx,hok]
  ·simp at hx
   simp[len_params,g1,hx,hr]
 ·have g1:(8 :Int)<((els l).length:Int):=by omega
  simp[len_params,g1]
def BoOk(a:Nd):Prop:=a.size≤400∧Wf a
structure SpOk (sp:Sp):Prop where
 ns:(els sp.so).length≤4
 nf:(els sp.fi).length≤6
 np:(els sp.pr).length≤8
 na:(els sp.fa).length≤16
 fd:∀f∈els sp.fi,FieldOk (els sp.so).length (els f.so)
 pd:∀p∈els sp.pr,PmsOk (els sp.so).length (els p.ps)∧BoOk p.bo
 fc:∀p∈els sp.fa,BoOk p.bo
structure Sp64 (sp:Sp):Prop where
 pr:∀p∈els sp.pr,Ok64 p.bo
 fa:∀p∈els sp.fa,Ok64 p.bo
theorem fits04_call(sp:Sp)(h64:Sp64 sp):
    ∃r:Bool,(∀H,callD (call pg) 46 [.p (.agg sp.cl)] H=some (.val (.p (.bool r)),H))∧(r=true→SpOk sp):=by
 have key1:=fun(i:Nat) (hi:i<(els sp.fi).length) (hl:(els (els sp.fi)[i].so).length≤3)=>loopC (c:=call pg) (G:=pg.G) (keep:=[1,3,4,5]) (b:=bd a46 1) (fun k=>[(1,.box 0 0),(3,.p (.int .i64 ((i:Nat):Int))),(4,.p (intsP (els sp.fi)[i].so)),(5,.p (.int .i64 ((k:Nat):Int)))]) ⟨[sp.cl.map .p],[]⟩ (els (els sp.fi)[i].so).length
  (fun k=>∀s,(els (els sp.fi)[i].so)[k]? =some s→0≤s∧s<((els sp.so).length:Int)) 2 (fun e=>e.get 1= .box 0 0∧e.get 3= .p (.int .i64 ((i:Nat):Int))) (fun e=>e.get 2= .p (.bool false))
  (fun k hk=>by
   generalize (els sp.fi)[i]=f at *
   have k1:=inc64 (k:=k) (by omega)
   have hia:=ia_ints hk
   have hP:0≤(els f.so)[k]∧(els f.so)[k]<((els sp.so).length:Int)→∀s,(els f.so)[k]? =some s→0≤s∧s<((els sp.so).length:Int):=by
    intro h p hp
    rw[List.getElem?_eq_getElem hk] at hp
    cases hp
    exact h
   generalize (∀s,(els f.so)[k]? =some s→0≤s∧s<((els sp.so).length:Int))=PP at *
   generalize (els f.so)[k]=q at *
   have hb3:bd a46 3=bd a46 3:=rfl
   conv at hb3=>rhs;reduce
   have hb2:bd a46 2=bd a46 2:=rfl
   conv at hb2=>rhs;reduce
   have hb1:bd a46 1=bd a46 1:=rfl
   conv at hb1=>rhs;reduce
   have hb0:bd a46 0=bd a46 0:=rfl
   conv at hb0=>rhs;reduce
   rw[←hb1] at hb0
   have hf:a46=a46:=rfl
   conv at hf=>rhs;reduce
   rw[←hb3] at hf
   rw[←hb2] at hf
   rw[←hb1] at hf
   rw[←hb0] at hf
   rw[hb1];clear hf hb0 hb1 hb2 hb3
   by_cases g1:q<0
   ·simp[len_ints,hk,hia,g1]
   ·by_cases g2:((els sp.so).length:Int)≤q
    ·simp[len_ints,len_sorts,hk,hia,g1,g2]
    ·have hP:=hP ⟨by omega,by omega⟩
     simp[len_ints,len_sorts,hk,hia,g1,g2,hP,k1])
  (by
   have hb3:bd a46 3=bd a46 3:=rfl
   conv at hb3=>rhs;reduce
   have hb2:bd a46 2=bd a46 2:=rfl
   conv at hb2=>rhs;reduce
   have hb1:bd a46 1=bd a46 1:=rfl
   conv at hb1=>rhs;reduce
   have hb0:bd a46 0=bd a46 0:=rfl
   conv at hb0=>rhs;reduce
   rw[←hb1] at hb0
   have hf:a46=a46:=rfl
   conv at hf=>rhs;reduce
   rw[←hb3] at hf
   rw[←hb2] at hf
   rw[←hb1] at hf
   rw[←hb0] at hf
   rw[hb1];clear hf hb0 hb1 hb2 hb3
   simp[len_ints])
 have key0:=fun(hl:(els sp.fi).length≤6)=>loopC (c:=call pg) (G:=pg.G) (keep:=[1,3]) (b:=bd a46 0) (fun k=>[(1,.box 0 0),(3,.p (.int .i64 ((k:Nat):Int)))]) ⟨[sp.cl.map .p],[]⟩ (els sp.fi).length
  (fun i=>∀f,(els sp.fi)[i]? =some f→FieldOk (els sp.so).length (els f.so)) 0 (fun e=>e.get 1= .box 0 0) (fun e=>e.get 2= .p (.bool false))
  (fun i hi=>by
   have k1:=inc64 (k:=i) (by omega)
   have hia:=ia_fields hi
   have hP:FieldOk (els sp.so).length (els (els sp.fi)[i].so)→∀f,(els sp.fi)[i]? =some f→FieldOk (els sp.so).length (els f.so):=by
    intro h p hp
    rw[List.getElem?_eq_getElem hi] at hp
    cases hp
    exact h
   generalize (∀f,(els sp.fi)[i]? =some f→FieldOk (els sp.so).length (els f.so))=PP at *
   have hb3:bd a46 3=bd a46 3:=rfl
   conv at hb3=>rhs;reduce
   have hb2:bd a46 2=bd a46 2:=rfl
   conv at hb2=>rhs;reduce
   have hb1:bd a46 1=bd a46 1:=rfl
   conv at hb1=>rhs;reduce
   have hb0:bd a46 0=bd a46 0:=rfl
   conv at hb0=>rhs;reduce
   rw[←hb1] at hb0
   have hf:a46=a46:=rfl
   conv at hf=>rhs;reduce
   rw[←hb3] at hf
   rw[←hb2] at hf
   rw[←hb1] at hf
   rw[←hb0] at hf
   by_cases g1:(els (els sp.fi)[i].so).length<1
   ·rw[hb0];clear hf hb0 hb1 hb2 hb3
    have g0:(els (els sp.fi)[i].so)=[]:=List.length_eq_zero_iff.1 (by omega)
    simp[len_ints,len_fields,hi,hia,g0]
   ·have g1':¬((els (els sp.fi)[i].so).length:Int)<1:=by omega
    have g1'':(1 :Int)≤((els (els sp.fi)[i].so).length:Int):=by omega
    have g0:¬(els (els sp.fi)[i].so)=[]:=fun h=>g1 (by rw[h];simp)
    by_cases g2:3<(els (els sp.fi)[i].so).length
    ·have g2':(3 :Int)<((els (els sp.fi)[i].so).length:Int):=by omega
     rw[hb0];clear hf hb0 hb1 hb2 hb3
     simp[len_ints,len_fields,hi,hia,g1',g2']
    ·have g2':¬(3 :Int)<((els (els sp.fi)[i].so).length:Int):=by omega
     rcases key1 i hi (by omega) with⟨e,hx,⟨q1,q3⟩,hp⟩ |⟨e,hx,hr⟩
     ·rw[all_ix] at hp
      have hP:=hP ⟨hp,by omega,by omega⟩
      simp at hx
      rw[hb0];clear hf hb0 hb1 hb2 hb3
      simp[len_ints,len_fields,hi,hia,g1',g2',hx,q1,q3,hP,k1]
     ·simp at hx
      rw[hb0];clear hf hb0 hb1 hb2 hb3
      simp[len_ints,len_fields,hi,hia,g1',g2',hx,hr])
  (by
   have hb3:bd a46 3=bd a46 3:=rfl
   conv at hb3=>rhs;reduce
   have hb2:bd a46 2=bd a46 2:=rfl
   conv at hb2=>rhs;reduce
   have hb1:bd a46 1=bd a46 1:=rfl
   conv at hb1=>rhs;reduce
   have hb0:bd a46 0=bd a46 0:=rfl
   conv at hb0=>rhs;reduce
   rw[←hb1] at hb0
   have hf:a46=a46:=rfl
   conv at hf=>rhs;reduce
   rw[←hb3] at hf
   rw[←hb2] at hf
   rw[←hb1] at hf
   rw[←hb0] at hf
   rw[hb0];clear hf hb0 hb1 hb2 hb3
   simp[len_fields])
 have key2:=fun(hl:(els sp.pr).length≤8)=>loopC (c:=call pg) (G:=pg.G) (keep:=[1,6]) (b:=bd a46 2) (fun k=>[(1,.box 0 0),(6,.p (.int .i64 ((k:Nat):Int)))]) ⟨[sp.cl.map .p],[]⟩ (els sp.pr).length
  (fun i=>∀p,(els sp.pr)[i]? =some p→PmsOk (els sp.so).length (els p.ps)∧BoOk p.bo) 4 (fun e=>e.get 1= .box 0 0) (fun e=>e.get 2= .p (.bool false))
  (fun i hi=>by
   have k1:=inc64 (k:=i) (by omega)
   have hia:=ia_preds hi
   obtain⟨b1,c1,d1⟩:=params_call sp (els sp.pr)[i].ps
   obtain⟨b2,c2,d2⟩:=validNode_call (els sp.pr)[i].bo (h64.pr _ (List.getElem_mem hi))
   have hP:b1=true→b2=true→∀p,(els sp.pr)[i]? =some p→PmsOk (els sp.so).length (els p.ps)∧BoOk p.bo:=by
    intro h h' p hp
    rw[List.getElem?_eq_getElem hi] at hp
    cases hp
    exact⟨d1 h,d2 h'⟩
   generalize (∀p,(els sp.pr)[i]? =some p→PmsOk (els sp.so).length (els p.ps)∧BoOk p.bo)=PP at *
   have hb3:bd a46 3=bd a46 3:=rfl
   conv at hb3=>rhs;reduce
   have hb2:bd a46 2=bd a46 2:=rfl
   conv at hb2=>rhs;reduce
   have hb1:bd a46 1=bd a46 1:=rfl
   conv at hb1=>rhs;reduce
   have hb0:bd a46 0=bd a46 0:=rfl
   conv at hb0=>rhs;reduce
   rw[←hb1] at hb0
   have hf:a46=a46:=rfl
   conv at hf=>rhs;reduce
   rw[←hb3] at hf
   rw[←hb2] at hf
   rw[←hb1] at hf
   rw[←hb0] at hf
   rw[hb2];clear hf hb0 hb1 hb2 hb3
   cases b1 with
   |false=>simp[len_preds,hi,hia,c1]
   |true=>
    cases b2 with
    |false=>simp[len_preds,hi,hia,c1,c2]
    |true=>
     have hP:=hP rfl rfl
     simp[len_preds,hi,hia,c1,c2,hP,k1])
  (by
   have hb3:bd a46 3=bd a46 3:=rfl
   conv at hb3=>rhs;reduce
   have hb2:bd a46 2=bd a46 2:=rfl
   conv at hb2=>rhs;reduce
   have hb1:bd a46 1=bd a46 1:=rfl
   conv at hb1=>rhs;reduce
   have hb0:bd a46 0=bd a46 0:=rfl
   conv at hb0=>rhs;reduce
   rw[←hb1] at hb0
   have hf:a46=a46:=rfl
   conv at hf=>rhs;reduce
   rw[←hb3] at hf
   rw[←hb2] at hf
   rw[←hb1] at hf
   rw[←hb0] at hf
   rw[hb2];clear hf hb0 hb1 hb2 hb3
   simp[len_preds])
 have key3:=fun(hl:(els sp.fa).length≤16)=>loopC (c:=call pg) (G:=pg.G) (keep:=[1,7]) (b:=bd a46 3) (fun k=>[(1,.box 0 0),(7,.p (.int .i64 ((k:Nat):Int)))]) ⟨[sp.cl.map .p],[]⟩ (els sp.fa).length
  (fun i=>∀p,(els sp.fa)[i]? =some p→BoOk p.bo) 6 (fun _=>True) (fun e=>e.get 2= .p (.bool false))
  (fun i hi=>by
   have k1:=inc64 (k:=i) (by omega)
   have hia:=ia_facts hi
   obtain⟨b2,c2,d2⟩:=validNode_call (els sp.fa)[i].bo (h64.fa _ (List.getElem_mem hi))
   have hP:b2=true→∀p,(els sp.fa)[i]? =some p→BoOk p.bo:=by
    intro h p hp
    rw[List.getElem?_eq_getElem hi] at hp
    cases hp
    exact d2 h
   generalize (∀p,(els sp.fa)[i]? =some p→BoOk p.bo)=PP at *
   have hb3:bd a46 3=bd a46 3:=rfl
   conv at hb3=>rhs;reduce
   have hb2:bd a46 2=bd a46 2:=rfl
   conv at hb2=>rhs;reduce
   have hb1:bd a46 1=bd a46 1:=rfl
   conv at hb1=>rhs;reduce
   have hb0:bd a46 0=bd a46 0:=rfl
   conv at hb0=>rhs;reduce
   rw[←hb1] at hb0
   have hf:a46=a46:=rfl
   conv at hf=>rhs;reduce
   rw[←hb3] at hf
   rw[←hb2] at hf
   rw[←hb1] at hf
   rw[←hb0] at hf
   rw[hb3];clear hf hb0 hb1 hb2 hb3
   cases b2 with
   |false=>simp[len_facts,hi,hia,c2]
   |true=>
    have hP:=hP rfl
    simp[len_facts,hi,hia,c2,hP,k1])
  (by
   have hb3:bd a46 3=bd a46 3:=rfl
   conv at hb3=>rhs;reduce
   have hb2:bd a46 2=bd a46 2:=rfl
   conv at hb2=>rhs;reduce
   have hb1:bd a46 1=bd a46 1:=rfl
   conv at hb1=>rhs;reduce
   have hb0:bd a46 0=bd a46 0:=rfl
   conv at hb0=>rhs;reduce
   rw[←hb1] at hb0
   have hf:a46=a46:=rfl
   conv at hf=>rhs;reduce
   rw[←hb3] at hf
   rw[←hb2] at hf
   rw[←hb1] at hf
   rw[←hb0] at hf
   rw[hb3];clear hf hb0 hb1 hb2 hb3
   simp[len_facts])
 have hb3:bd a46 3=bd a46 3:=rfl
 conv at hb3=>rhs;reduce
 have hb2:bd a46 2=bd a46 2:=rfl
 conv at hb2=>rhs;reduce
 have hb1:bd a46 1=bd a46 1:=rfl
 conv at hb1=>rhs;reduce
 have hb0:bd a46 0=bd a46 0:=rfl
 conv at hb0=>rhs;reduce
 rw[←hb1] at hb0
 have hf:a46=a46:=rfl
 conv at hf=>rhs;reduce
 rw[←hb3] at hf
 rw[←hb2] at hf
 rw[←hb1] at hf
 rw[←hb0] at hf
 refine callE (f:=46) (aa:=[_]) (y:=fun r:Bool=>.p (.bool r)) hf rfl rfl rfl ?_
 clear hf hb0 hb1 hb2 hb3
 by_cases h1:(els sp.so).length≤4
 ·have k1:¬(4 :Int)<((els sp.so).length:Int):=by omega
  by_cases h2:(els sp.fi).length≤6
  ·have k2:¬(6 :Int)<((els sp.fi).length:Int):=by omega
   by_cases h3:(els sp.pr).length≤8
   ·have k3:¬(8 :Int)<((els sp.pr).length:Int):=by omega
    by_cases h4:(els sp.fa).length≤16
    ·have k4:¬(16 :Int)<((els sp.fa).length:Int):=by omega
     rcases key0 h2 with⟨e,hx,q1,hp⟩ |⟨e,hx,hr⟩
     ·rcases key2 h3 with⟨e',hx',q1',hp'⟩ |⟨e',hx',hr'⟩
      ·rcases key3 h4 with⟨e'',hx'',-,hp''⟩ |⟨e'',hx'',hr''⟩
       ·have hok:SpOk sp:=⟨h1,h2,h3,h4,all_ix.1 hp,all_ix.1 hp',all_ix.1 hp''⟩
        simp at hx hx' hx''
        simp[len_sorts,len_fields,len_preds,len_facts,k1,k2,k3,k4,hx,q1,hx',q1',hx'',hok]
       ·simp at hx hx' hx''
        simp[len_sorts,len_fields,len_preds,len_facts,k1,k2,k3,k4,hx,q1,hx',q1',hx'',hr'']
      ·simp at hx hx'
       simp[len_sorts,len_fields,len_preds,len_facts,k1,k2,k3,k4,hx,q1,hx',hr']
     ·simp at hx
      simp[len_sorts,len_fields,len_preds,len_facts,k1,k2,k3,k4,hx,hr]
    ·have k4:(16 :Int)<((els sp.fa).length:Int):=by omega
     simp[len_sorts,len_fields,len_preds,len_facts,k1,k2,k3,k4]
   ·have k3:(8 :Int)<((els sp.pr).length:Int):=by omega
    simp[len_sorts,len_fields,len_preds,k1,k2,k3]
  ·have k2:(6 :Int)<((els sp.fi).length:Int):=by omega
   simp[len_sorts,len_fields,k1,k2]
 ·have k1:(4 :Int)<((els sp.so).length:Int):=by omega
  simp[len_sorts,k1]
end Go.Proofs.YtgplgbonlnodeaaGreatDoor
namespace Go.Proofs.YtgplgbonlnodeaaGreatDoor
open Go.Vs
set_option maxRecDepth 100000
set_option maxHeartbeats 4000000
inductive SF where
 |pl (x:PD)
 |tk (es:List PD)
def SF.d(e sz:Nat):SF→Nat→D
 | .pl x,_=>.p x
 | .tk es,t=>.tsl t e sz es
def SF.k:SF→List Nat
 | .pl _=>[]
 | .tk es=>[es.length]
def SF.at(e sz:Nat)(s:SF)(d:D)(H:Hp):Prop:=match s with
 | .pl x=>d= .p x
 | .tk es=>∃t,d= .tsl t e sz es∧H.tk[t]? =some es.length
structure Pln (y:D):Prop where
 rn:∀f g,y.ren f g=some y
 fz:∀n H k,y.frz n H k=y
theorem pln_p(x:PD):Pln (.p x):=⟨fun _ _=>rfl,fun n H k=>frz_p n H k x⟩
theorem pln_t(xs:List PD):Pln (.tup (xs.map .p)):=⟨fun f g=>by simp[D.ren],fun n H k=>by
 cases k with
 |zero=>unfold D.frz;rfl
 |succ k=>unfold D.frz;simp[frz_p]⟩
def givesT(res:List SRes)(k:List Nat)(y:D):Out→Env→Hp→Prop:=fun o e H=>(o= .ret∨o= .norm)∧evRes pg.G e H res=some y∧H.tk.take k.length=k
theorem refsL_app:∀a b:List D,D.refsL (a++b)=D.refsL a++D.refsL b
 |[],b=>rfl
 |x::a,b=>by simp[D.refsL,refsL_app a b]
theorem toksL_app:∀a b:List D,D.toksL (a++b)=D.toksL a++D.toksL b
 |[],b=>rfl
 |x::a,b=>by simp[D.toksL,toksL_app a b]
theorem renL_app{f g:Nat→Option Nat}:∀{a b a' b':List D},D.renL f g a=some a'→D.renL f g b=some b'→D.renL f g (a++b)=some (a'++b')
 |[],b,a',b',ha,hb=>by
  simp[D.renL] at ha
  subst ha
  exact hb
 |x::a,b,a',b',ha,hb=>by
  simp only[D.renL] at ha
  cases hx:x.ren f g with
  |none=>rw[hx] at ha;cases ha
  |some y=>
   rw[hx] at ha
   obtain⟨a'',h1,rfl⟩:=Option.map_eq_some_iff.1 ha
   simp only[List.cons_append,D.renL,hx,renL_app h1 hb,Option.map_some]
theorem callF{f:Nat}{fc:FC}{e sz:Nat}{pre suf:List PD}{s:SF}{y:D}(hy:Pln y)(hF:pg.F f=some fc)(hlib:∀k,pg.lib f (pre.map .p++s.d e sz 0::suf.map .p) ⟨[],k⟩=none)(hn:(pre.map D.p++s.d e sz 0::suf.map .p).length=fc.np)(hd:fc.dfr=none)
    (h:post (givesT fc.res s.k y) (evS (call pg) pg.G iterX fc.body ⟨entry 0 (pre.map .p++s.d e sz 0::suf.map .p),⟨[],s.k⟩⟩)):
    ∀d H,s.at e sz d H→callD (call pg) f (pre.map .p++d::suf.map .p) H=some (.val y,H):=by
 intro d H hs
 obtain⟨o,e1,H1,hx,ho,hr,ht⟩:=post_get h
 have hfin:finish pg.G fc.res (some (o,⟨e1,H1⟩))=some (.val y,H1):=by
  rcases ho with rfl |rfl
  ·simp only[finish,hr]
  ·simp only[finish,hr]
 have hc:∃bl,call pg f (pre.map .p++s.d e sz 0::suf.map .p) ⟨[],s.k⟩=some (.val y,⟨bl,H1.tk⟩):=by
  cases hz:fc.frz with
  |false=>exact⟨H1.bx,call_runF (hlib _) hF hn (by simp only[hz,closeF,runF,hd,hx,hfin];rfl)⟩
  |true=>
   exact⟨[],call_runF (hlib _) hF hn (by
    simp only[hz,closeF,runF,hd,hx,hfin,if_true,Option.map_some,sealF,List.length_nil,List.take_zero,mapO,Res.frz,Res.ren,hy.rn,hy.fz,Nat.zero_le])⟩
 obtain⟨bl,hc⟩:=hc
 have hreach:∀n,reach H n []=[]:=by
  intro n
  cases n<;>simp[reach,boxRefs]
 cases s with
 |pl x=>
  have hs:d= .p x:=hs
  subst hs
  have e0:pre.map D.p++D.p x::suf.map .p=(pre++x::suf).map .p:=by simp
  have hc':call pg f ((pre++x::suf).map .p) ⟨[],[]⟩=some (.val y,⟨bl,H1.tk⟩):=by rw[←e0];exact hc
  rw[e0]
  exact callD_pure hc' (refsL_p _) (toksL_p _) (renL_p _ _ _) (hy.rn _ _)
 |tk es=>
  obtain⟨t,rfl,htk⟩:=hs
  have a1:D.refsL (pre.map D.p++D.tsl t e sz es::suf.map .p)=[]:=by
   rw[refsL_app,refsL_p];simp[D.refsL,D.refs]
  have a2:D.toksL (pre.map D.p++D.tsl t e sz es::suf.map .p)=[t]:=by
   rw[toksL_app,toksL_p];simp[D.toksL,D.toks]
  have a3:D.renL (idx []) (idx [t]) (pre.map D.p++D.tsl t e sz es::suf.map .p)=some (pre.map D.p++D.tsl 0 e sz es::suf.map .p):=by
   refine renL_app (renL_p _ _ _) ?_
   simp[D.renL,D.ren,idx]
  have a4:ins [] [t]=[t]:=by simp[ins]
  have a5:nodupB [t]=true:=by simp[Vs.nodupB]
  have a6:mapO (fun t=>H.tk[t]?) [t]=some [es.length]:=by simp[mapO,htk]
  have hc':call pg f (pre.map .p++D.tsl 0 e sz es::suf.map .p) ⟨[],[es.length]⟩=some (.val y,⟨bl,H1.tk⟩):=hc
  have ht':H1.tk.take 1=[es.length]:=ht
  have ht2:1≤H1.tk.length:=by
   cases hh:H1.tk with
   |nil=>rw[hh] at ht';cases ht'
   |cons=>simp
  unfold callD
  simp only[a1,a2,ins,hreach,boxToks,List.append_nil,a4,a5,Vs.nodupB,Bool.true_and,if_true,a3,mapO,a6,hc']
  unfold back
  have hset:H.tk.set t es.length=H.tk:=by
   obtain⟨h1,h2⟩:=List.getElem?_eq_some_iff.1 htk
   rw[←h2,List.set_getElem_self]
  simp[firstN,ht2,ht',mapO,Res.ren,hy.rn,putAll,hset]
structure SFOk (e sz:Nat) (s:SF) (es:List PD):Prop where
 len:∀t,lenD 1 (s.d e sz t)=some es.length
 ia:∀t k (h:k<es.length),iaddrD none sz (s.d e sz t) (k:Int)=some (.ro (es[k]).cells 0)
 src:∀t,srcD sz (s.d e sz t)=some es
theorem sfok_tk{e sz:Nat}{es:List PD}:SFOk e sz (.tk es) es:=⟨fun _=>rfl,fun _ _ h=>iaddr_tsl h,fun _=>by simp[SF.d,srcD,D.elems?]⟩
theorem closure_call(a:Int)(b:Bt)(ha:1≤a):∃r:Bt,∀H,callD (call pg) 330 [.p (setP a b)] H=some (.val (.p (setP a r)),H):=by
 have key:=loopW (c:=call pg) (G:=pg.G) (keep:=[1,2,3]) (b:=bd a330 0) (σ:=Nat×Bt) (fun s=>[(1,.box 0 0),(2,.box 1 0),(3,.p (.int .i64 ((s.1:Nat):Int)))]) (fun s=>⟨[(setL a s.2).map D.p,(setL 0 Bt.e).map D.p],[]⟩) (fun s=>4-s.1) (fun s=>s.1≤4)
  (fun o e H=>o= .exit 0∧e.get 1= .box 0 0∧e.get 2= .box 1 0∧∃r,H=⟨[(setL a r).map D.p,(setL 0 Bt.e).map D.p],[]⟩)
  (by
   rintro⟨i,x⟩ hi
   dsimp only at hi⊢
   have hb0:bd a330 0=bd a330 0:=rfl
   conv at hb0=>rhs;reduce
   have hf:a330=a330:=rfl
   conv at hf=>rhs;reduce
   rw[←hb0] at hf
   rw[hb0];clear hf hb0
   by_cases h:i<4
   ·have h1:(i:Int)<4:=by omega
    obtain⟨j,hj⟩:=join_call a a x x ha
    obtain⟨u,hu⟩:=union_call a (IntKind.i64.wrap (IntKind.i64.wrap (a+a)-2)) x j
    have k1:=inc64 (k:=i) (by omega)
    refine post_mono (Q:=nx [1,2,3] [(1,.box 0 0),(2,.box 1 0),(3,.p (.int .i64 ((i+1 :Nat):Int)))] ⟨[(setL a u).map D.p,(setL 0 Bt.e).map D.p],[]⟩) ?_ fun o e H hh=>.inl ⟨(i+1,u),by dsimp only;omega,by dsimp only;omega,hh⟩
    simp[-splice,-fillD,set_take,set_splice,pures_p,set_onesT,h1,hj,hu,k1]
   ·have :i=4:=by omega
    subst this
    refine post_mono (Q:=fun o e H=>o= .exit 0∧e.get 1= .box 0 0∧e.get 2= .box 1 0∧H=⟨[(setL a x).map D.p,(setL 0 Bt.e).map D.p],[]⟩) ?_ ?_
    ·simp[-splice,-fillD]
    ·rintro o e H ⟨rfl,q1,q2,rfl⟩
     exact .inr ⟨by simp,rfl,q1,q2,x,rfl⟩) (0,b) (Nat.zero_le _)
 obtain⟨o,e,H,hx,rfl,q1,q2,r,rfl⟩:=post_get key
 simp only[Int.natCast_zero] at hx
 have hb0:bd a330 0=bd a330 0:=rfl
 conv at hb0=>rhs;reduce
 have hf:a330=a330:=rfl
 conv at hf=>rhs;reduce
 rw[←hb0] at hf
 have hz65:z65=z65:=rfl
 conv at hz65=>rhs;reduce
 try rw[←hz65] at hf
 try rw[←hz65] at hb0
 clear hz65
 refine⟨r,callP (aa:=[_]) hf rfl rfl rfl ?_⟩
 clear hf hb0
 simp[-splice,-fillD,z65_eq,set_take,set_splice,pures_p,set_onesT,hx,q1,q2]
theorem all_call(sp:Sp)(k:Int)(hk:k=1∨k=2)(hs:(els sp.so).length<4611686018427387904):∃r:Bt,∀H,callD (call pg) 324 [.p (.agg sp.cl),.p (.int .i64 (k))] H=some (.val (.p (setP k r)),H):=by
 have key:=loopW (c:=call pg) (G:=pg.G) (keep:=[1,2,4,5,6]) (b:=bd a324 0) (σ:=Nat×Bt) (fun s=>[(1,.p (.int .i64 (k))),(2,.box 0 0),(4,.box 1 0),(5,.box 2 0),(6,.p (.int .i64 ((s.1:Nat):Int)))]) (fun s=>⟨[sp.cl.map .p,(setL 0 Bt.e).map D.p,(setL k s.2).map D.p],[]⟩) (fun s=>(els sp.so).length-s.1) (fun s=>s.1≤(els sp.so).length)
  (fun o e H=>o= .exit 0∧e.get 4= .box 1 0∧e.get 5= .box 2 0∧∃r,H=⟨[sp.cl.map .p,(setL 0 Bt.e).map D.p,(setL k r).map D.p],[]⟩)
  (by
   rintro⟨i,x⟩ hi
   dsimp only at hi⊢
   have hb0:bd a324 0=bd a324 0:=rfl
   conv at hb0=>rhs;reduce
   have hf:a324=a324:=rfl
   conv at hf=>rhs;reduce
   rw[←hb0] at hf
   rw[hb0];clear hf hb0
   by_cases h:i<(els sp.so).length
   ·have k1:=inc64 (k:=i) (by omega)
    rcases hk with rfl |rfl
    ·obtain⟨j,hj⟩:=one_call (intsD_1 (i:Int)) (by omega)
     obtain⟨u,hu⟩:=union_call 1 1 x j
     simp only[Int.natCast_one] at hj
     refine post_mono (Q:=nx [1,2,4,5,6] [(1,.p (.int .i64 (1))),(2,.box 0 0),(4,.box 1 0),(5,.box 2 0),(6,.p (.int .i64 ((i+1 :Nat):Int)))] ⟨[sp.cl.map .p,(setL 0 Bt.e).map D.p,(setL 1 u).map D.p],[]⟩) ?_ fun o e H hh=>.inl ⟨(i+1,u),by dsimp only;omega,by dsimp only;omega,hh⟩
     simp[-splice,-fillD,set_take,set_splice,pures_p,set_onesT,len_sorts,h,hj,hu,k1]
    ·obtain⟨j,hj⟩:=one_call (intsD_2 (i:Int) (i:Int)) (by omega)
     obtain⟨u,hu⟩:=union_call 2 2 x j
     simp at hj
     refine post_mono (Q:=nx [1,2,4,5,6] [(1,.p (.int .i64 (2))),(2,.box 0 0),(4,.box 1 0),(5,.box 2 0),(6,.p (.int .i64 ((i+1 :Nat):Int)))] ⟨[sp.cl.map .p,(setL 0 Bt.e).map D.p,(setL 2 u).map D.p],[]⟩) ?_ fun o e H hh=>.inl ⟨(i+1,u),by dsimp only;omega,by dsimp only;omega,hh⟩
     simp[-splice,-fillD,set_take,set_splice,pures_p,set_onesT,len_sorts,h,hj,hu,k1]
   ·have :i=(els sp.so).length:=by omega
    subst this
    refine post_mono (Q:=fun o e H=>o= .exit 0∧e.get 4= .box 1 0∧e.get 5= .box 2 0∧H=⟨[sp.cl.map .p,(setL 0 Bt.e).map D.p,(setL k x).map D.p],[]⟩) ?_ ?_
    ·simp[-splice,-fillD,len_sorts]
    ·rintro o e H ⟨rfl,q1,q2,rfl⟩
     exact .inr ⟨by simp,rfl,q1,q2,x,rfl⟩) (0,Bt.e) (Nat.zero_le _)
 obtain⟨o,e,H,hx,rfl,q1,q2,r,rfl⟩:=post_get key
 simp only[Int.natCast_zero,List.map_cons,List.map_nil] at hx
 have hb0:bd a324 0=bd a324 0:=rfl
 conv at hb0=>rhs;reduce
 have hf:a324=a324:=rfl
 conv at hf=>rhs;reduce
 rw[←hb0] at hf
 have hz65:z65=z65:=rfl
 conv at hz65=>rhs;reduce
 try rw[←hz65] at hf
 try rw[←hz65] at hb0
 clear hz65
 refine⟨r,callP (aa:=[_,_]) hf rfl rfl rfl ?_⟩
 clear hf hb0
 simp[-splice,-fillD,z65_eq,set_take,set_splice,pures_p,set_onesT,set_fill,hx,q1,q2]
end Go.Proofs.YtgplgbonlnodeaaGreatDoor
namespace Go.Proofs.YtgplgbonlnodeaaGreatDoor
open Go.Vs
set_option maxRecDepth 100000
theorem outP_call{so f2 f3 f4:PD}{n:Nat}(hso:lenD 1 (.p so)=some n)(_o1:so.one=true)(x:Int):
    callD (call pg) 175 [.p (.int .i64 (x)),.box 0 0] ⟨[[.p (so),.p (f2),.p (f3),.p (f4)]],[]⟩=some (.val (.p (.bool (decide (¬(0≤x∧x<(n:Int)))))),⟨[[.p (so),.p (f2),.p (f3),.p (f4)]],[]⟩):=by
 have h:call pg 175 [.p (.int .i64 (x)),.box 0 0] ⟨[[.p (so),.p (f2),.p (f3),.p (f4)]],[]⟩=some (.val (.p (.bool (decide (¬(0≤x∧x<(n:Int)))))),⟨[[.p (so),.p (f2),.p (f3),.p (f4)]],[]⟩):=by
  have hf:a175=a175:=rfl
  conv at hf=>rhs;reduce
  refine call_body rfl hf rfl rfl ?_
  clear hf
  by_cases h1:x<0
  ·have h2:¬0≤x:=by omega
   simp[h1,h2]
  ·have h2:0≤x:=by omega
   by_cases h3:(n:Int)≤x
   ·have h4:¬x<(n:Int):=by omega
    simp[hso,h1,h2,h3,h4]
   ·have h4:x<(n:Int):=by omega
    simp[hso,h1,h2,h3,h4]
 simp[callD,reach,boxRefs,boxToks,ins,Vs.nodupB,idx,D.refsL,D.toksL,D.refs,D.toks,D.renL,D.ren,mapO,h,back,firstN,Res.ren,putAll]
theorem callB{f:Nat}{fc:FC}{aa:List D}{cs:List PD}{y:PD}(hF:pg.F f=some fc)(hlib:pg.lib f aa ⟨[cs.map .p],[]⟩=none)(hn:aa.length=fc.np)(hd:fc.dfr=none)
    (h:post (fun o e H=>(o= .ret∨o= .norm)∧evRes pg.G e H fc.res=some (.p y)∧H=⟨[cs.map .p],[]⟩) (evS (call pg) pg.G iterX fc.body ⟨entry 0 aa,⟨[cs.map .p],[]⟩⟩)):
    call pg f aa ⟨[cs.map .p],[]⟩=some (.val (.p y),⟨[cs.map .p],[]⟩):=by
 obtain⟨o,e,H1,hx,ho,hr,rfl⟩:=post_get h
 have hfin:finish pg.G fc.res (some (o,⟨e,⟨[cs.map .p],[]⟩⟩))=some (.val (.p y),⟨[cs.map .p],[]⟩):=by
  rcases ho with rfl |rfl
  ·simp only[finish,hr]
  ·simp only[finish,hr]
 cases hz:fc.frz with
 |false=>exact call_runF hlib hF hn (by simp only[hz,closeF,runF,hd,hx,hfin];rfl)
 |true=>
  have h1:∀H,frzC 1 H (cs.map D.p)=cs.map .p:=fun H=>by simp[frzC,refsL_p]
  exact call_runF hlib hF hn (by
   simp only[hz,closeF,runF,hd,hx,hfin,if_true,Option.map_some]
   simp[sealF,mapO,Res.frz,Res.ren,h1,renL_p,frz_p,D.ren])
theorem indexP_call{so f2 f3 f4:PD}{n:Nat}(hso:lenD 1 (.p so)=some n)(o1:so.one=true)(a:Sl Int)(hl:(els a).length<4611686018427387904):
    ∃k:Int,call pg 232 [.p (intsP a),.fn 175 [] [.box 0 0]] ⟨[[.p (so),.p (f2),.p (f3),.p (f4)]],[]⟩=some (.val (.p (.int .i64 (k))),⟨[[.p (so),.p (f2),.p (f3),.p (f4)]],[]⟩)∧(k<0↔∀x∈els a,0≤x∧x<(n:Int)):=by
 have key:=loopA (c:=call pg) (G:=pg.G) (keep:=[0,1,7,8]) (b:=bd a232 0) (fun i=>[(0,.p (intsP a)),(1,.fn 175 [] [.box 0 0]),(7,.p (.int .i64 (((els a).length:Nat):Int))),(8,.p (.int .i64 ((i:Nat):Int)))]) ⟨[[.p (so),.p (f2),.p (f3),.p (f4)]],[]⟩ (els a).length
  (fun i=>∀x,(els a)[i]? =some x→0≤x∧x<(n:Int)) 0 (fun _=>True) (fun e=>∃j:Nat,e.get 4= .p (.int .i64 ((j:Nat):Int))) ?_ ?_ ?_
 ·skip
  have hb0:bd a232 0=bd a232 0:=rfl
  conv at hb0=>rhs;reduce
  have hf:a232=a232:=rfl
  conv at hf=>rhs;reduce
  rw[←hb0] at hf
  rcases key with⟨e,hx,-,hp⟩ |⟨e,hx,⟨j,h4⟩,hp⟩
  ·rw[all_idx] at hp
   refine⟨-1,callB (cs:=[so,f2,f3,f4]) hf rfl rfl rfl ?_,iff_of_true (by omega) hp⟩
   clear hf hb0
   simp at hx
   simp[len_ints,hx]
  ·rw[all_idx] at hp
   refine⟨(j:Int),callB (cs:=[so,f2,f3,f4]) hf rfl rfl rfl ?_,iff_of_false (by omega) hp⟩
   clear hf hb0
   simp at hx
   simp[len_ints,hx,h4]
 ·intro i hi hP
  have hP:=hP _ (List.getElem?_eq_getElem hi)
  have hc:=outP_call (f2:=f2) (f3:=f3) (f4:=f4) hso o1 (els a)[i]
  rw[decide_eq_false (by simpa using hP)] at hc
  have hia:=ia_ints hi
  have hb0:bd a232 0=bd a232 0:=rfl
  conv at hb0=>rhs;reduce
  have hf:a232=a232:=rfl
  conv at hf=>rhs;reduce
  rw[←hb0] at hf
  rw[hb0];clear hf hb0
  simp[hia,hi,hc,inc64 (k:=i) (by omega)]
 ·intro i hi hP
  have hP:¬(0≤(els a)[i]∧(els a)[i]<(n:Int)):=fun h=>hP fun x hx=>by
   rw[List.getElem?_eq_getElem hi] at hx;cases hx;exact h
  have hc:=outP_call (f2:=f2) (f3:=f3) (f4:=f4) hso o1 (els a)[i]
  rw[decide_eq_true hP] at hc
  have hia:=ia_ints hi
  refine post_mono (Q:=fun o e H=>o= .ret∧H=⟨[[.p (so),.p (f2),.p (f3),.p (f4)]],[]⟩∧e.get 4= .p (.int .i64 ((i:Nat):Int))) ?_ fun o e H h=>⟨h.1,h.2.1,i,h.2.2⟩
  have hb0:bd a232 0=bd a232 0:=rfl
  conv at hb0=>rhs;reduce
  have hf:a232=a232:=rfl
  conv at hf=>rhs;reduce
  rw[←hb0] at hf
  rw[hb0];clear hf hb0
  simp[hia,hi,hc]
 ·skip
  have hb0:bd a232 0=bd a232 0:=rfl
  conv at hb0=>rhs;reduce
  have hf:a232=a232:=rfl
  conv at hf=>rhs;reduce
  rw[←hb0] at hf
  rw[hb0];clear hf hb0
  simp
end Go.Proofs.YtgplgbonlnodeaaGreatDoor
namespace Go.Proofs.YtgplgbonlnodeaaGreatDoor
open Go.Vs
set_option maxRecDepth 100000
theorem columnsP_call{so f2 f3 f4 nm va:PD}{n:Nat}(hso:lenD 1 (.p so)=some n)(o1:so.one=true)(o2:f2.one=true)(o3:f3.one=true)(o4:f4.one=true)(o5:nm.one=true)(o6:va.one=true)(a:Sl Int)(hl:(els a).length<4611686018427387904):
    ∃r:Bool,(∀H,callD (call pg) 113 [.p (.agg [so,f2,f3,f4]),.p (.agg [nm,intsP a,va])] H=some (.val (.p (.bool r)),H))∧(r=true↔FieldOk n (els a)):=by
 obtain⟨k,c1,d1⟩:=indexP_call (f2:=f2) (f3:=f3) (f4:=f4) hso o1 a hl
 have c2:callD (call pg) 232 [.p (intsP a),.fn 175 [] [.box 0 0]] ⟨[[.p (so),.p (f2),.p (f3),.p (f4)]],[]⟩=some (.val (.p (.int .i64 (k))),⟨[[.p (so),.p (f2),.p (f3),.p (f4)]],[]⟩):=by
  simp[callD,reach,boxRefs,boxToks,ins,Vs.nodupB,idx,D.refsL,D.toksL,D.refs,D.toks,D.renL,D.ren,mapO,c1,back,firstN,Res.ren,putAll]
 have c3:call pg 174 [.p (intsP a),.fn 175 [] [.box 0 0]] ⟨[[.p (so),.p (f2),.p (f3),.p (f4)]],[]⟩=some (.val (.p (.bool (decide (0≤k)))),⟨[[.p (so),.p (f2),.p (f3),.p (f4)]],[]⟩):=by
  have hf:a174=a174:=rfl
  conv at hf=>rhs;reduce
  refine callB (cs:=[so,f2,f3,f4]) hf rfl rfl rfl ?_
  clear hf
  simp[c2]
 have c4:∀x,callD (call pg) 174 [.p (intsP a),.fn 175 [] [.box 0 0]] ⟨[[.p (so),.p (f2),.p (f3),.p (f4)],x],[]⟩=some (.val (.p (.bool (decide (0≤k)))),⟨[[.p (so),.p (f2),.p (f3),.p (f4)],x],[]⟩):=fun x=>by
  simp[callD,reach,boxRefs,boxToks,ins,Vs.nodupB,idx,D.refsL,D.toksL,D.refs,D.toks,D.renL,D.ren,mapO,c3,back,firstN,Res.ren,putAll]
 have hf:a113=a113:=rfl
 conv at hf=>rhs;reduce
 by_cases h1:1≤(els a).length
 ·have g1:¬((els a).length:Int)<1:=by omega
  have g1':¬(els a).length<1:=by omega
  by_cases h2:(els a).length≤3
  ·have g2:¬(3 :Int)<((els a).length:Int):=by omega
   have g2':¬3<(els a).length:=by omega
   refine⟨decide (k<0),callP (aa:=[_,_]) hf rfl rfl rfl ?_,?_⟩
   ·clear hf
    simp[len_ints,o1,o2,o3,o4,o5,o6,g1,g2,c4]
    by_cases hk:k<0
    ·have :¬0≤k:=by omega
     simp[hk,this]
    ·have :0≤k:=by omega
     simp[hk,this]
   ·rw[decide_eq_true_eq,d1]
    exact⟨fun h=>⟨h,h1,h2⟩,fun h=>h.1⟩
  ·have g2:(3 :Int)<((els a).length:Int):=by omega
   have g2':3<(els a).length:=by omega
   refine⟨false,callP (aa:=[_,_]) hf rfl rfl rfl ?_,iff_of_false (by simp) fun h=>h2 h.2.2⟩
   clear hf
   simp[len_ints,o1,o2,o3,o4,o5,o6,g1,g2]
 ·have g1:((els a).length:Int)<1:=by omega
  have g1':(els a).length<1:=by omega
  have g0:(els a).length=0:=by omega
  refine⟨false,callP (aa:=[_,_]) hf rfl rfl rfl ?_,iff_of_false (by simp) fun h=>h1 h.2.1⟩
  clear hf
  simp[len_ints,o1,o2,o3,o4,o5,o6,g0]
end Go.Proofs.YtgplgbonlnodeaaGreatDoor
namespace Go.Proofs.YtgplgbonlnodeaaGreatDoor
open Go.Vs
set_option maxRecDepth 100000
abbrev Srt(l:List Int):Prop:=l.Pairwise (· < ·)
theorem has_call(l:Sl Int)(ar x:Int)(hl:(els l).length<4611686018427387904)(hs:Srt (els l)):
    ∃r:Bool,(∀H,callD (call pg) 70 [.p (.agg [.int .i64 ar,intsP l]),.p (.int .i64 (x))] H=some (.val (.p (.bool r)),H))∧(r=true↔x∈els l):=by
 have hb0:bd a70 0=bd a70 0:=rfl
 conv at hb0=>rhs;reduce
 have hf:a70=a70:=rfl
 conv at hf=>rhs;reduce
 rw[←hb0] at hf
 have hs':=List.pairwise_iff_getElem.1 hs
 have key:=loopW (c:=call pg) (G:=pg.G) (keep:=[1,2,5,6]) (b:=bd a70 0) (σ:=Nat×Nat) (fun s=>[(1,.p (.int .i64 (x))),(2,.box 0 0),(5,.p (.int .i64 ((s.1:Nat):Int))),(6,.p (.int .i64 ((s.2:Nat):Int)))]) (fun _=>⟨[[.p (.int .i64 (ar)),.p (intsP l)]],[]⟩) (fun s=>s.2-s.1)
  (fun s=>s.1≤s.2∧s.2≤(els l).length∧(∀i (h:i<(els l).length),i<s.1→(els l)[i]<x)∧∀i (h:i<(els l).length),s.2≤i→x≤(els l)[i])
  (fun o e H=>H=⟨[[.p (.int .i64 (ar)),.p (intsP l)]],[]⟩∧o= .exit 0∧e.get 1= .p (.int .i64 (x))∧e.get 2= .box 0 0∧∃k:Nat,e.get 5= .p (.int .i64 ((k:Nat):Int))∧k≤(els l).length∧(∀i (h:i<(els l).length),i<k→(els l)[i]<x)∧∀i (h:i<(els l).length),k≤i→x≤(els l)[i])
  ?_ (0,(els l).length) ⟨Nat.zero_le _,Nat.le_refl _,fun i _ h=>absurd h (Nat.not_lt_zero _),fun i h h'=>absurd h (Nat.not_lt.2 h')⟩
 ·obtain⟨o,e,H,hx,rfl,rfl,g1,g2,k,g5,hk,p1,p2⟩:=post_get key
  simp at hx
  by_cases hlt:k<(els l).length
  ·by_cases hq:(els l)[k]=x
   ·refine⟨true,callP (aa:=[_,_]) hf rfl rfl rfl ?_,iff_of_true rfl (hq▸List.getElem_mem hlt)⟩
    clear hf hb0
    simp[len_ints,hx,g1,g2,g5,hlt,ia_ints hlt,hq]
   ·refine⟨false,callP (aa:=[_,_]) hf rfl rfl rfl ?_,iff_of_false (by simp) fun hm=>?_⟩
    ·clear hf hb0
     simp[len_ints,hx,g1,g2,g5,hlt,ia_ints hlt,hq]
    ·obtain⟨i,hi,rfl⟩:=List.getElem_of_mem hm
     rcases Nat.lt_trichotomy i k with h |h |h
     ·have:=p1 i hi h;omega
     ·subst h;exact hq rfl
     ·have:=p2 k hlt (Nat.le_refl _)
      have:=hs' k i hlt hi h
      omega
  ·refine⟨false,callP (aa:=[_,_]) hf rfl rfl rfl ?_,iff_of_false (by simp) fun hm=>?_⟩
   ·clear hf hb0
    simp[len_ints,hx,g2,g5,hlt]
   ·obtain⟨i,hi,rfl⟩:=List.getElem_of_mem hm
    have:=p1 i hi (by omega)
    omega
 ·rintro⟨lo,hi⟩ ⟨h1,h2,h3,h4⟩
  dsimp only at h1 h2 h3 h4⊢
  by_cases hlt:lo<hi
  ·have hm:(lo+hi)/2<(els l).length:=by omega
   have c1:IntKind.i64.wrap ((lo:Int)+(hi:Int))=((lo+hi:Nat):Int):=by rw[wrap64 (by omega) (by omega)];simp
   have c2:IntKind.i64.wrap (((lo+hi:Nat):Int).tdiv 2)=(((lo+hi)/2 :Nat):Int):=by
    rw[Int.tdiv_eq_ediv_of_nonneg (by omega),wrap64 (by omega) (by omega)];omega
   have c3:=inc64 (k:=(lo+hi)/2) (by omega)
   have hia:=ia_ints hm
   by_cases hc:(els l)[(lo+hi)/2]<x
   ·refine post_mono (Q:=fun o e H=>nx [1,2,5,6] [(1,.p (.int .i64 (x))),(2,.box 0 0),(5,.p (.int .i64 (((lo+hi)/2+1 :Nat):Int))),(6,.p (.int .i64 ((hi:Nat):Int)))] ⟨[[.p (.int .i64 (ar)),.p (intsP l)]],[]⟩ o e H) ?_ fun o e H hh=>.inl ⟨((lo+hi)/2+1,hi),⟨by dsimp only;omega,h2,fun i h h'=>?_,h4⟩,by dsimp only;omega,hh⟩
    ·rw[hb0];clear hf hb0
     generalize (((lo+hi)/2 :Nat):Int)=m at *
     generalize ((((lo+hi)/2+1 :Nat)):Int)=m1 at *
     generalize ((lo+hi:Nat):Int)=m2 at *
     simp[hlt,c1,c2,c3,hia,hc]
    ·dsimp only at h'
     rcases Nat.lt_or_ge i ((lo+hi)/2) with h'' |h''
     ·have:=hs' i _ h hm h'';omega
     ·have :i=(lo+hi)/2:=by omega
      subst this;exact hc
   ·refine post_mono (Q:=fun o e H=>nx [1,2,5,6] [(1,.p (.int .i64 (x))),(2,.box 0 0),(5,.p (.int .i64 ((lo:Nat):Int))),(6,.p (.int .i64 (((lo+hi)/2 :Nat):Int)))] ⟨[[.p (.int .i64 (ar)),.p (intsP l)]],[]⟩ o e H) ?_ fun o e H hh=>.inl ⟨(lo,(lo+hi)/2),⟨by dsimp only;omega,by dsimp only;omega,h3,fun i h h'=>?_⟩,by dsimp only;omega,hh⟩
    ·rw[hb0];clear hf hb0
     generalize (((lo+hi)/2 :Nat):Int)=m at *
     generalize ((lo+hi:Nat):Int)=m2 at *
     simp[hlt,c1,c2,hia,hc]
    ·dsimp only at h'
     rcases Nat.lt_or_ge ((lo+hi)/2) i with h'' |h''
     ·have:=hs' _ i hm h h'';omega
     ·have :i=(lo+hi)/2:=by omega
      subst this;omega
  ·have :lo=hi:=by omega
   subst this
   refine post_mono (Q:=fun o e H=>o= .exit 0∧H=⟨[[.p (.int .i64 (ar)),.p (intsP l)]],[]⟩∧e.get 1= .p (.int .i64 (x))∧e.get 2= .box 0 0∧e.get 5= .p (.int .i64 ((lo:Nat):Int))) ?_ fun o e H hh=>.inr ?_
   ·rw[hb0];clear hf hb0
    simp
   ·obtain⟨rfl,rfl,q1,q2,q3⟩:=hh
    exact⟨by simp,rfl,rfl,q1,q2,lo,q3,h2,h3,h4⟩
theorem has09_call(l:Sl Int)(x:Int)(hl:(els l).length<4611686018427387904):
    ∀H,callD (call pg) 103 [.p (intsP l),.p (.int .i64 (x))] H=some (.val (.p (.bool (decide (x∈els l)))),H):=by
 have hb0:bd a103 0=bd a103 0:=rfl
 conv at hb0=>rhs;reduce
 have hf:a103=a103:=rfl
 conv at hf=>rhs;reduce
 rw[←hb0] at hf
 have key:=loopA (c:=call pg) (G:=pg.G) (keep:=[0,1,5]) (b:=bd a103 0) (fun i=>[(0,.p (intsP l)),(1,.p (.int .i64 (x))),(5,.p (.int .i64 ((i:Nat):Int)))]) ⟨[],[]⟩ (els l).length
  (fun i=>∀y,(els l)[i]? =some y→y≠x) 0 (fun _=>True) (fun e=>e.get 4= .p (.bool true)) ?_ ?_ ?_
 ·rcases key with⟨e,hx,-,hp⟩ |⟨e,hx,hr,hp⟩
  ·rw[all_ix] at hp
   have hm:¬x∈els l:=fun h=>hp x h rfl
   refine callP (aa:=[_,_]) hf rfl rfl rfl ?_
   clear hf hb0
   simp at hx
   simp[hx,hm]
  ·rw[all_ix] at hp
   have hm:x∈els l:=Classical.byContradiction fun h=>hp fun y hy he=>h (he▸hy)
   refine callP (aa:=[_,_]) hf rfl rfl rfl ?_
   clear hf hb0
   simp at hx
   simp[hx,hr,hm]
 ·intro i hi hP
  rw[hb0];clear hf hb0
  simp[len_ints,ia_ints hi,hi,at_ix hi hP,inc64 (k:=i) (by omega)]
 ·intro i hi hP
  have hP:=Classical.not_not.1 (not_ix hi hP)
  rw[hb0];clear hf hb0
  simp[len_ints,ia_ints hi,hi,hP]
 ·rw[hb0];clear hf hb0
  simp[len_ints]
def grD(e sz:Nat)(es:List PD):D:=match es with |[]=>.p .nils |_::_=>.tsl 0 e sz es
def grT(es:List PD):List Nat:=match es with |[]=>[] |_::_=>[es.length]
theorem gr_app{e sz by':Nat}{es:List PD}{x:PD}{bx:List (List D)}(h:es.length<1000000000)(hb:by'≤1000):appendD e sz by' (grD e sz es) [x] ⟨bx,grT es⟩=some (grD e sz (es++[x]),⟨bx,grT (es++[x])⟩):=by
 have hr:roomy (es.length+1) by'=true:=by
  have :(es.length+1)*by'≤1000000000*1000:=Nat.mul_le_mul (by omega) hb
  simp only[roomy,Bool.and_eq_true,decide_eq_true_eq];omega
 cases es with
 |nil=>
  simp only[List.length_nil,Nat.zero_add] at hr
  simp[grD,grT,appendD,hr]
 |cons a r=>
  simp only[List.length_cons] at hr
  simp[grD,grT,appendD,hr]
@[simp] theorem one_gr(e sz:Nat)(es:List PD):(grD e sz es).one=true:=by cases es<;>rfl
@[simp] theorem gr_nil(e sz:Nat):grD e sz []= .p .nils:=rfl
@[simp] theorem gt_nil:grT []=[]:=rfl
theorem cells_gr(e sz:Nat)(es:List PD):(grD e sz es).cells=[grD e sz es]:=by cases es<;>rfl
def IsRel(d:D)(ar:Int)(tu:Sl Int):Prop:=d= .p (.agg [.int .i64 ar,intsP tu])∨d= .agg [.p (.int .i64 (ar)),.p (intsP tu)]
def keptS(l:List Int):Sl Int:=match l with |[]=>.nil |_::_=>.of l
theorem kept_els(l:List Int):els (keptS l)=l:=by cases l<;>rfl
theorem gr_kept(l:List Int)(e:Nat):(l=[]∧grD e 1 (l.map (PD.int .i64))= .p (intsP (keptS l)))∨(∃t,grD e 1 (l.map (PD.int .i64))= .tsl t e 1 (l.map (PD.int .i64))∧intsP (keptS l)= .slice 1 (l.map (PD.int .i64))):=by
 cases l with
 |nil=>exact .inl ⟨rfl,rfl⟩
 |cons a r=>exact .inr ⟨0,rfl,rfl⟩
theorem diff_call(a b:Sl Int)(x y:Int)(ha:(els a).length<1000000000)(hb:(els b).length<4611686018427387904)(hs:Srt (els b)):
    ∃d,(∀H,callD (call pg) 155 [.p (.agg [.int .i64 x,intsP a]),.p (.agg [.int .i64 y,intsP b])] H=some (.val d,H))∧IsRel d x (keptS ((els a).filter fun t=>!(els b).contains t)):=by
 have hb0:bd a155 0=bd a155 0:=rfl
 conv at hb0=>rhs;reduce
 have hf:a155=a155:=rfl
 conv at hf=>rhs;reduce
 rw[←hb0] at hf
 have key:=loopN (c:=call pg) (G:=pg.G) (keep:=[2,3,4,5,6]) (b:=bd a155 0) (fun i=>[(2,.box 0 0),(3,.box 1 0),(4,.box 2 0),(5,.box 3 0),(6,.p (.int .i64 ((i:Nat):Int)))])
  (fun i=>⟨[[.p (.int .i64 (x)),.p (intsP a)],[.p (.int .i64 (y)),.p (intsP b)],[.p (.int .i64 (0)),.p (.nils)],[.p (.int .i64 (x)),grD 3 1 ((((els a).take i).filter fun t=>!(els b).contains t).map (PD.int .i64))]],grT ((((els a).take i).filter fun t=>!(els b).contains t).map (PD.int .i64))⟩) (els a).length (fun _=>True)
  (fun o e H=>o= .exit 0∧e.get 4= .box 2 0∧e.get 5= .box 3 0∧∃tk,H=⟨[[.p (.int .i64 (x)),.p (intsP a)],[.p (.int .i64 (y)),.p (intsP b)],[.p (.int .i64 (0)),.p (.nils)],[.p (.int .i64 (x)),grD 3 1 (((els a).filter fun t=>!(els b).contains t).map (PD.int .i64))]],tk⟩) trivial ?_ ?_
 ·obtain⟨o,e,H,hx,rfl,g4,g5,tk,rfl⟩:=post_get key
  generalize (els a).filter (fun t=>!(els b).contains t)=L at *
  simp at hx
  rcases gr_kept L 3 with⟨-,hg⟩ |⟨t,hg,hk⟩
  ·refine⟨.p (.agg [.int .i64 x,intsP (keptS L)]),callP (aa:=[_,_]) hf rfl rfl rfl ?_,.inl rfl⟩
   clear hf hb0
   rw[hg] at hx
   simp[hx,g4,g5]
  ·refine⟨.agg [.p (.int .i64 (x)),.p (intsP (keptS L))],callP (aa:=[_,_]) hf rfl rfl rfl ?_,.inr rfl⟩
   clear hf hb0
   rw[hg] at hx
   simp[hx,g4,g5,hk]
 ·intro i hi _
  obtain⟨r,c1,d1⟩:=has_call b y (els a)[i] hb hs
  rw[List.take_succ_eq_append_getElem hi,List.filter_append,List.map_append]
  have hlen:((((els a).take i).filter fun t=>!(els b).contains t).map (PD.int .i64)).length<1000000000:=by
   rw[List.length_map]
   have h1:=List.length_filter_le (fun t=>!(els b).contains t) ((els a).take i)
   have h2:((els a).take i).length≤(els a).length:=List.length_take_le' ..
   omega
  have hap:=fun bx=>gr_app (e:=3) (sz:=1) (by':=8) (x:=.int .i64 (els a)[i]) (bx:=bx) hlen (by omega)
  generalize hL:(((els a).take i).filter fun t=>!(els b).contains t).map (PD.int .i64)=L at *
  rw[hb0];clear hf hb0
  cases r with
  |true=>
   have hm:els b |>.contains (els a)[i]:=by simpa using d1.1 rfl
   simp only[List.filter_cons,hm,Bool.not_true,Bool.false_eq_true,if_false,List.filter_nil,List.map_nil,List.append_nil]
   simp[len_ints,ia_ints hi,hi,c1,inc64 (k:=i) (by omega)]
  |false=>
   have hm:(els b).contains (els a)[i]=false:=by
    rw[Bool.eq_false_iff]
    intro h
    have:=d1.2 (by simpa using h)
    cases this
   simp only[List.filter_cons,hm,Bool.not_false,if_true,List.filter_nil,List.map_cons,List.map_nil]
   simp[-appendD,len_ints,ia_ints hi,hi,c1,hap,cells_gr,inc64 (k:=i) (by omega)]
 ·intro _
  rw[List.take_length]
  rw[hb0];clear hf hb0
  simp[len_ints]
end Go.Proofs.YtgplgbonlnodeaaGreatDoor
namespace Go.Proofs.YtgplgbonlnodeaaGreatDoor
open Go.Vs
set_option maxRecDepth 100000
def valM:List PD→List PD→Int→PD
 |a::r,v::w,t=>if keyEq (.int .i64 t) a then v else valM r w t
 |_,_,_=>.int .i64 0
theorem valM_find(t:Int):∀(ks vs:List PD),vs.length=ks.length→(match findK (.int .i64 t) ks with |some j=>vs[j]? |none=>some (.int .i64 0))=some (valM ks vs t)
 |[],vs,_=>by cases vs<;>rfl
 |a::r,[],h=>by cases h
 |a::r,v::w,h=>by
  have ih:=valM_find t r w (by simpa using h)
  simp only[findK,valM]
  by_cases g:keyEq (.int .i64 t) a=true
  ·simp[g]
  ·simp only[g,Bool.false_eq_true,if_false]
   cases hf:findK (.int .i64 t) r with
   |none=>rw[hf] at ih;simpa using ih
   |some j=>rw[hf] at ih;simpa using ih
theorem keyEq_int(t u:Int):keyEq (.int .i64 t) (.int .i64 u)=(t==u):=rfl
theorem valM_ins{t:Int}{v:PD}(u:Int):∀(n:Nat) (ks vs:List PD),vs.length=ks.length→findK (.int .i64 t) ks=none→valM (insAt n (.int .i64 t) ks) (insAt n v vs) u=if u=t then v else valM ks vs u
 | 0,ks,vs,_,_=>by simp[insAt,valM,keyEq_int]
 |n+1,[],vs,h,_=>by
  have :vs=[]:=List.eq_nil_of_length_eq_zero (by simpa using h)
  subst this
  simp[insAt,valM,keyEq_int]
 |n+1,a::r,[],h,_=>by cases h
 |n+1,a::r,b::w,h,hn=>by
  have hk:keyEq (.int .i64 t) a=false:=by
   rw[Bool.eq_false_iff];intro g;simp[findK,g] at hn
  have hr:findK (.int .i64 t) r=none:=by simpa[findK,hk] using hn
  have ih:=valM_ins (v:=v) u n r w (by simpa using h) hr
  simp only[insAt,valM,ih]
  by_cases g:u=t
  ·subst g;simp[hk]
  ·simp[g]
theorem keyEq_trans{t u:Int}{a:PD}(h:keyEq (.int .i64 t) a=true):keyEq (.int .i64 u) a=(u==t):=by
 cases a<;>simp_all[keyEq]
theorem valM_set{t:Int}{v:PD}(u:Int):∀(ks vs:List PD) (j:Nat),vs.length=ks.length→findK (.int .i64 t) ks=some j→valM ks (vs.set j v) u=if u=t then v else valM ks vs u
 |[],vs,j,_,hj=>by cases hj
 |a::r,[],j,h,_=>by cases h
 |a::r,b::w,j,h,hj=>by
  by_cases g:keyEq (.int .i64 t) a=true
  ·simp[findK,g] at hj
   subst hj
   simp only[List.set_cons_zero,valM,keyEq_trans g]
   by_cases gu:u=t<;>simp[gu]
  ·have g':keyEq (.int .i64 t) a=false:=by simpa using g
   simp only[findK,g',Bool.false_eq_true,if_false] at hj
   cases hf:findK (.int .i64 t) r with
   |none=>rw[hf] at hj;cases hj
   |some i=>
    rw[hf] at hj
    cases hj
    have ih:=valM_set (v:=v) u r w i (by simpa using h) hf
    simp only[List.set_cons_succ,valM,ih]
    by_cases gu:u=t
    ·subst gu;simp[g']
    ·simp[gu]
theorem insAt_map{α β:Type}(f:α→β)(x:α):∀(n:Nat) (l:List α),insAt n (f x) (l.map f)=(insAt n x l).map f
 | 0,_=>rfl
 |_+1,[]=>rfl
 |n+1,a::r=>by simp[insAt,insAt_map f x n r]
theorem insAt_len{α:Type}(x:α):∀(n:Nat) (l:List α),(insAt n x l).length=l.length+1
 | 0,_=>rfl
 |_+1,[]=>rfl
 |n+1,a::r=>by simp[insAt,insAt_len x n r]
theorem mget{i:Nat}{H:Hp}{ks vs:List PD}(hb:H.bx[i]? =some [.mapc 13 ks (vs.map .p)])(hl:vs.length=ks.length)(t:Int):mapgetD 13 (.int .i64 0) false (.mapr i) (.p (.int .i64 (t))) H=some (.p (valM ks vs t)):=by
 have h:=valM_find t ks vs hl
 simp only[mapgetD,hb,keyKind,kindI]
 cases hf:findK (.int .i64 t) ks with
 |none=>rw[hf] at h;simp at h;simp[h]
 |some j=>rw[hf] at h;simp at h;simp[h]
theorem mset{i:Nat}{H:Hp}{ks vs:List PD}(hb:H.bx[i]? =some [.mapc 13 ks (vs.map .p)])(hl:vs.length=ks.length)(t:Int)(v:PD):
    ∃ks' vs',mapsetD 13 (.mapr i) (.p (.int .i64 (t))) (.p v) H=some (.undef,{H with bx:=H.bx.set i [.mapc 13 ks' (vs'.map .p)]})∧vs'.length=ks'.length∧∀u,valM ks' vs' u=if u=t then v else valM ks vs u:=by
 cases hf:findK (.int .i64 t) ks with
 |none=>
  refine⟨_,_,?_,?_,fun u=>valM_ins u (posK (keyCode (.int .i64 t)) ks) ks vs hl hf⟩
  ·simp only[mapsetD,mapinsD,hb,keyKind,kindI,hf,←insAt_map]
   simp[hl]
  ·rw[insAt_len,insAt_len,hl]
 |some j=>
  refine⟨ks,vs.set j v,?_,by simpa using hl,fun u=>valM_set u ks vs j hl hf⟩
  simp only[mapsetD,hb,keyKind,kindI,hf]
  simp[List.map_set]
structure Cnt (l:List Int) (ks vs:List PD):Prop where
 len:vs.length=ks.length
 val:∀t,∃c:Int,valM ks vs t= .int .i64 c∧0≤c∧c≤l.length∧(0<c↔t∈l)
theorem Cnt.nil:Cnt [] [] []:=⟨rfl,fun t=>⟨0,rfl,by omega,by simp,by simp⟩⟩
theorem sameP_call(x:Int):∀H,callD (call pg) 234 [.p (.int .i64 (x))] H=some (.val (.p (.int .i64 (x))),H):=by
 have hf:a234=a234:=rfl
 conv at hf=>rhs;reduce
 refine callP (aa:=[_]) hf rfl rfl rfl ?_
 clear hf
 simp
theorem setP_call(b:Sl Int)(y:Int)(hb:(els b).length<4611686018427387904):
    ∃ks vs,call pg 233 [.p (.agg [.int .i64 y,intsP b]),.fn 234 [] []] ⟨[],[]⟩=some (.val (.mapr 1),⟨[[.p (.int .i64 (y)),.p (intsP b)],[.mapc 13 ks (vs.map .p)]],[]⟩)∧Cnt (els b) ks vs:=by
 have key:=loopW (c:=call pg) (G:=pg.G) (σ:=Nat×List PD×List PD) (keep:=[1,5,10,11,12]) (b:=bd a233 0)
  (fun s=>[(1,.fn 234 [] []),(5,.mapr 1),(10,.p (intsP b)),(11,.p (.int .i64 (((els b).length:Nat):Int))),(12,.p (.int .i64 ((s.1:Nat):Int)))]) (fun s=>⟨[[.p (.int .i64 (y)),.p (intsP b)],[.mapc 13 s.2.1 (s.2.2.map .p)]],[]⟩)
  (fun s=>(els b).length-s.1) (fun s=>s.1≤(els b).length∧Cnt ((els b).take s.1) s.2.1 s.2.2)
  (fun o e H=>o= .exit 0∧e.get 5= .mapr 1∧∃ks vs,H=⟨[[.p (.int .i64 (y)),.p (intsP b)],[.mapc 13 ks (vs.map .p)]],[]⟩∧Cnt (els b) ks vs) ?_ (0,[],[]) ⟨Nat.zero_le _,Cnt.nil⟩
 ·obtain⟨o,e,H,hx,rfl,g5,ks,vs,rfl,hc⟩:=post_get key
  refine⟨ks,vs,?_,hc⟩
  have hb0:bd a233 0=bd a233 0:=rfl
  conv at hb0=>rhs;reduce
  have hf:a233=a233:=rfl
  conv at hf=>rhs;reduce
  rw[←hb0] at hf
  refine call_frz rfl hf rfl rfl (r:=(.val (.mapr 1),⟨[[.p (.int .i64 (y)),.p (intsP b)],[.mapc 13 ks (vs.map .p)]],[]⟩)) ?_ (by simp[sealF,mapO,Res.frz,D.frz,Res.ren,D.ren,below])
  clear hf hb0
  simp at hx
  simp[len_ints,hx,g5]
 ·rintro⟨i,ks,vs⟩ ⟨hi,hc⟩
  dsimp only at hi hc⊢
  rcases Nat.lt_or_ge i (els b).length with hlt |hge
  ·obtain⟨c,e1,e2,e3,e4⟩:=hc.val (els b)[i]
   have e3':c≤(i:Int):=by
    rw[List.length_take,Nat.min_eq_left hi] at e3;exact e3
   have hw:IntKind.i64.wrap (c+1)=c+1:=wrap64 (by omega) (by omega)
   obtain⟨ks',vs',m1,m2,m3⟩:=mset (i:=1) (H:=⟨[[.p (.int .i64 (y)),.p (intsP b)],[.mapc 13 ks (vs.map .p)]],[]⟩) rfl hc.len (els b)[i] (.int .i64 (c+1))
   have m0:=mget (i:=1) (H:=⟨[[.p (.int .i64 (y)),.p (intsP b)],[.mapc 13 ks (vs.map .p)]],[]⟩) rfl hc.len (els b)[i]
   rw[e1] at m0
   simp only[List.set_cons_succ,List.set_cons_zero] at m1
   have hia:=ia_ints hlt
   refine post_mono (Q:=nx [1,5,10,11,12] [(1,.fn 234 [] []),(5,.mapr 1),(10,.p (intsP b)),(11,.p (.int .i64 (((els b).length:Nat):Int))),(12,.p (.int .i64 ((i+1 :Nat):Int)))] ⟨[[.p (.int .i64 (y)),.p (intsP b)],[.mapc 13 ks' (vs'.map .p)]],[]⟩) ?_ fun o e H hh=>.inl ⟨(i+1,ks',vs'),⟨hlt,m2,fun t=>?_⟩,by dsimp only;omega,hh⟩
   ·generalize (els b)[i]=x at *
    have hb0:bd a233 0=bd a233 0:=rfl
    conv at hb0=>rhs;reduce
    have hf:a233=a233:=rfl
    conv at hf=>rhs;reduce
    rw[←hb0] at hf
    rw[hb0];clear hf hb0
    simp[hia,hlt,sameP_call,m0,m1,hw,renL_p,inc64 (k:=i) (by omega)]
   ·dsimp only
    have hL:((els b).take i).length=i:=by rw[List.length_take,Nat.min_eq_left hi]
    rw[m3,List.take_succ_eq_append_getElem hlt]
    obtain⟨d,f1,f2,f3,f4⟩:=hc.val t
    generalize (els b).take i=L at *
    rw[List.length_append,List.mem_append,List.mem_singleton,List.length_singleton]
    by_cases ht:t=(els b)[i]
    ·rw[if_pos ht]
     exact⟨c+1,rfl,by omega,by omega,iff_of_true (by omega) (.inr ht)⟩
    ·rw[if_neg ht]
     exact⟨d,f1,f2,by omega,f4.trans ⟨.inl,fun h=>h.elim id fun h=>absurd h ht⟩⟩
  ·have hi':i=(els b).length:=by omega
   subst hi'
   rw[List.take_length] at hc
   refine post_mono (Q:=fun o e H=>o= .exit 0∧e.get 5= .mapr 1∧H=⟨[[.p (.int .i64 (y)),.p (intsP b)],[.mapc 13 ks (vs.map .p)]],[]⟩) ?_ fun o e H hh=>.inr ?_
   ·skip
    have hb0:bd a233 0=bd a233 0:=rfl
    conv at hb0=>rhs;reduce
    have hf:a233=a233:=rfl
    conv at hf=>rhs;reduce
    rw[←hb0] at hf
    rw[hb0];clear hf hb0
    simp[renL_p]
   ·obtain⟨rfl,h2,rfl⟩:=hh
    exact⟨by simp,rfl,h2,ks,vs,rfl,hc⟩
end Go.Proofs.YtgplgbonlnodeaaGreatDoor
namespace Go.Proofs.YtgplgbonlnodeaaGreatDoor
open Go.Vs
set_option maxRecDepth 100000
theorem notin_call{b:List Int}{ks vs:List PD}(hc:Cnt b ks vs)(x:Int)(tk:List Nat):
    callD (call pg) 236 [.p (.int .i64 (x)),.box 0 0] ⟨[[.mapr 1],[.mapc 13 ks (vs.map .p)]],tk⟩=some (.val (.p (.bool (!b.contains x))),⟨[[.mapr 1],[.mapc 13 ks (vs.map .p)]],tk⟩):=by
 obtain⟨c,e1,e2,e3,e4⟩:=hc.val x
 have m0:=mget (i:=1) (H:=⟨[[.mapr 1],[.mapc 13 ks (vs.map .p)]],[]⟩) rfl hc.len x
 rw[e1] at m0
 have h:call pg 236 [.p (.int .i64 (x)),.box 0 0] ⟨[[.mapr 1],[.mapc 13 ks (vs.map .p)]],[]⟩=some (.val (.p (.bool (!b.contains x))),⟨[[.mapr 1],[.mapc 13 ks (vs.map .p)]],[]⟩):=by
  have hf:a236=a236:=rfl
  conv at hf=>rhs;reduce
  refine call_body rfl hf rfl rfl ?_
  clear hf
  by_cases hx:x∈b
  ·have h1:b.contains x=true:=by simpa using hx
   have h2:0<c:=e4.2 hx
   have h3:¬c=0:=by omega
   simp[m0,hx,h3]
  ·have h1:b.contains x=false:=by simpa using hx
   have h2:¬0<c:=fun h=>hx (e4.1 h)
   have h3:c=0:=by omega
   simp[m0,hx,h3]
 have hr:∀f g,D.renL f g (vs.map D.p)=some (vs.map .p):=fun f g=>renL_p f g vs
 simp[callD,reach,boxRefs,boxToks,ins,Vs.nodupB,idx,D.refsL,D.toksL,D.refs,D.toks,D.renL,D.ren,refsL_p,toksL_p,hr,mapO,h,back,firstN,Res.ren,putAll]
@[simp] theorem pone_nilm:PD.nilm.one=true:=rfl
@[simp] theorem one_mapr(i:Nat):(D.mapr i).one=true:=rfl
abbrev outL(a b:List Int):List Int:=a.filter fun t=>!b.contains t
theorem keepP_call{b:List Int}{ks vs:List PD}(hc:Cnt b ks vs)(a:Sl Int)(ha:(els a).length<1000000000):
    ∃d tk,call pg 235 [.p (intsP a),.fn 236 [] [.box 0 0]] ⟨[[.mapr 1],[.mapc 13 ks (vs.map .p)]],[]⟩=some (.val d,⟨[[.mapr 1],[.mapc 13 ks (vs.map .p)]],tk⟩)∧((d= .p (intsP (keptS (outL (els a) b))))∨∃t,d= .tsl t 3 1 ((outL (els a) b).map (PD.int .i64))∧intsP (keptS (outL (els a) b))= .slice 1 ((outL (els a) b).map (PD.int .i64))):=by
 have hrp:∀f g,D.renL f g (vs.map D.p)=some (vs.map .p):=fun f g=>renL_p f g vs
 have key:=loopN (c:=call pg) (G:=pg.G) (keep:=[1,5,8,9,10]) (b:=bd a235 0)
  (fun i=>[(1,.fn 236 [] [.box 0 0]),(5,grD 3 1 ((outL ((els a).take i) b).map (PD.int .i64))),(8,.p (intsP a)),(9,.p (.int .i64 (((els a).length:Nat):Int))),(10,.p (.int .i64 ((i:Nat):Int)))])
  (fun i=>⟨[[.mapr 1],[.mapc 13 ks (vs.map .p)]],grT ((outL ((els a).take i) b).map (PD.int .i64))⟩) (els a).length (fun _=>True)
  (fun o e H=>o= .exit 0∧e.get 5=grD 3 1 ((outL (els a) b).map (PD.int .i64))∧∃tk,H=⟨[[.mapr 1],[.mapc 13 ks (vs.map .p)]],tk⟩) trivial ?_ ?_
 ·obtain⟨o,e,H,hx,rfl,g5,tk,rfl⟩:=post_get key
  have hs:∀r:D,r.frz 2 ⟨[[.mapr 1],[.mapc 13 ks (vs.map .p)]],tk⟩ 8=r→r.ren (below 2) some=some r→sealF 2 (.val r,⟨[[.mapr 1],[.mapc 13 ks (vs.map .p)]],tk⟩)=(.val r,⟨[[.mapr 1],[.mapc 13 ks (vs.map .p)]],tk⟩):=by
   intro r h1 h2
   simp[sealF,mapO,frzC,D.refsL,D.refs,refsL_p,D.renL,D.ren,hrp,below,Res.frz,Res.ren,h1,h2]
  simp at hx
  rcases gr_kept (outL (els a) b) 3 with⟨-,hg⟩ |⟨t,hg,hk⟩
  ·refine⟨_,tk,?_,.inl rfl⟩
   rw[hg] at g5
   have hb0:bd a235 0=bd a235 0:=rfl
   conv at hb0=>rhs;reduce
   have hf:a235=a235:=rfl
   conv at hf=>rhs;reduce
   rw[←hb0] at hf
   refine call_frz rfl hf rfl rfl (r:=(.val (.p (intsP (keptS (outL (els a) b)))),⟨[[.mapr 1],[.mapc 13 ks (vs.map .p)]],tk⟩)) ?_ (hs _ (frz_p ..) rfl)
   clear hf hb0
   simp[len_ints,hx,g5]
  ·refine⟨_,tk,?_,.inr ⟨t,rfl,hk⟩⟩
   rw[hg] at g5
   have hb0:bd a235 0=bd a235 0:=rfl
   conv at hb0=>rhs;reduce
   have hf:a235=a235:=rfl
   conv at hf=>rhs;reduce
   rw[←hb0] at hf
   refine call_frz rfl hf rfl rfl (r:=(.val (.tsl t 3 1 ((outL (els a) b).map (PD.int .i64))),⟨[[.mapr 1],[.mapc 13 ks (vs.map .p)]],tk⟩)) ?_ (hs _ (frz_tsl ..) rfl)
   clear hf hb0
   simp[len_ints,hx,g5]
 ·intro i hi _
  have c1:=fun tk=>notin_call hc (els a)[i] tk
  rw[List.take_succ_eq_append_getElem hi]
  unfold outL
  rw[List.filter_append,List.map_append]
  have hlen:((((els a).take i).filter fun t=>!b.contains t).map (PD.int .i64)).length<1000000000:=by
   rw[List.length_map]
   have h1:=List.length_filter_le (fun t=>!b.contains t) ((els a).take i)
   have h2:((els a).take i).length≤(els a).length:=List.length_take_le' ..
   omega
  have hap:=fun bx=>gr_app (e:=3) (sz:=1) (by':=8) (x:=.int .i64 (els a)[i]) (bx:=bx) hlen (by omega)
  generalize hL:(((els a).take i).filter fun t=>!b.contains t).map (PD.int .i64)=L at *
  have hb0:bd a235 0=bd a235 0:=rfl
  conv at hb0=>rhs;reduce
  have hf:a235=a235:=rfl
  conv at hf=>rhs;reduce
  rw[←hb0] at hf
  rw[hb0];clear hf hb0
  cases hm:b.contains (els a)[i] with
  |true=>
   rw[hm] at c1
   simp only[List.filter_cons,hm,Bool.not_true,Bool.false_eq_true,if_false,List.filter_nil,List.map_nil,List.append_nil]
   simp[ia_ints hi,hi,c1,inc64 (k:=i) (by omega)]
  |false=>
   rw[hm] at c1
   simp only[List.filter_cons,hm,Bool.not_false,if_true,List.filter_nil,List.map_cons,List.map_nil]
   simp[-appendD,ia_ints hi,hi,c1,hap,inc64 (k:=i) (by omega)]
 ·intro _
  rw[List.take_length]
  have hb0:bd a235 0=bd a235 0:=rfl
  conv at hb0=>rhs;reduce
  have hf:a235=a235:=rfl
  conv at hf=>rhs;reduce
  rw[←hb0] at hf
  rw[hb0];clear hf hb0
  simp[]
theorem diffP_call(a b:Sl Int)(x y:Int)(ha:(els a).length<1000000000)(hb:(els b).length<4611686018427387904):
    ∀H,callD (call pg) 177 [.p (.agg [.int .i64 x,intsP a]),.p (.agg [.int .i64 y,intsP b])] H=some (.val (.p (.agg [.int .i64 x,intsP (keptS (outL (els a) (els b)))])),H):=by
 obtain⟨ks,vs,c1,hc⟩:=setP_call b y hb
 obtain⟨d,tk,c2,hd⟩:=keepP_call hc a ha
 have hrp:∀f g,D.renL f g (vs.map D.p)=some (vs.map .p):=fun f g=>renL_p f g vs
 have e1:∀u v w,callD (call pg) 233 [.p (.agg [.int .i64 y,intsP b]),.fn 234 [] []] ⟨[u,v,w],[]⟩=some (.val (.mapr 4),⟨[u,v,w,[.p (.int .i64 (y)),.p (intsP b)],[.mapc 13 ks (vs.map .p)]],[]⟩):=fun u v w=>by
  simp[callD,reach,boxRefs,boxToks,ins,Vs.nodupB,idx,D.refsL,D.toksL,D.refs,D.toks,D.renL,D.ren,hrp,mapO,c1,back,firstN,Res.ren,putAll]
 have e2:∀u v w z,callD (call pg) 235 [.p (intsP a),.fn 236 [] [.box 5 0]] ⟨[u,v,w,z,[.mapc 13 ks (vs.map .p)],[.mapr 4]],[]⟩=some (.val (.p (intsP (keptS (outL (els a) (els b))))),⟨[u,v,w,z,[.mapc 13 ks (vs.map .p)],[.mapr 4]],[]⟩):=fun u v w z=>by
  rcases hd with rfl |⟨t,rfl,hk⟩
  ·simp[callD,reach,boxRefs,boxToks,ins,Vs.nodupB,idx,D.refsL,D.toksL,D.refs,D.toks,D.renL,D.ren,refsL_p,toksL_p,hrp,mapO,c2,back,firstN,Res.ren,putAll]
  ·simp[callD,reach,boxRefs,boxToks,ins,Vs.nodupB,idx,D.refsL,D.toksL,D.refs,D.toks,D.renL,D.ren,refsL_p,toksL_p,hrp,mapO,c2,back,firstN,Res.ren,putAll,hk]
 have hf:a177=a177:=rfl
 conv at hf=>rhs;reduce
 refine callP (aa:=[_,_]) hf rfl rfl rfl ?_
 clear hf
 simp[e1,e2,callOne,reach,boxRefs,ins,D.refsL,D.refs,refsL_p]
theorem inP_call(a b:Sl Int)(x y:Int)(ha:(els a).length<1000000000)(hb:(els b).length<4611686018427387904):
    ∃r:Bool,(∀H,callD (call pg) 115 [.p (.agg [.int .i64 x,intsP a]),.p (.agg [.int .i64 y,intsP b])] H=some (.val (.p (.bool r)),H))∧(r=true↔∀t∈els a,t∈els b):=by
 have c1:=diffP_call a b x y ha hb
 refine⟨decide ((outL (els a) (els b)).length=0),?_,?_⟩
 ·skip
  have hf:a115=a115:=rfl
  conv at hf=>rhs;reduce
  refine callP (aa:=[_,_]) hf rfl rfl rfl ?_
  clear hf
  generalize outL (els a) (els b)=L at *
  cases L<;>simp[len_ints,c1,kept_els]
  omega
 ·rw[decide_eq_true_eq,List.length_eq_zero_iff,List.filter_eq_nil_iff]
  simp
end Go.Proofs.YtgplgbonlnodeaaGreatDoor
namespace Go.Proofs.YtgplgbonlnodeaaGreatDoor
open Go.Vs
set_option maxRecDepth 100000
def kepS{α:Type}(l:List α):Sl α:=match l with |[]=>.nil |_::_=>.of l
theorem kepS_els{α:Type}(l:List α):els (kepS l)=l:=by cases l<;>rfl
def pairP(p:Int×Int):PD:=.agg [.int .i64 p.1,.int .i64 p.2]
def pairsP(s:Sl (Int×Int)):PD:=slP 2 (s.map pairP)
theorem len_pairs(s:Sl (Int×Int)):lenD 1 (.p (pairsP s))=some (els s).length:=len_map 2 _ s
theorem ia_pairs{s:Sl (Int×Int)}{k:Nat}(h:k<(els s).length):iaddrD none 2 (.p (pairsP s)) (k:Int)=some (.ro [.int .i64 (els s)[k].1,.int .i64 (els s)[k].2] 0):=ia_map h
@[simp] theorem pone_pairs(a:Sl (Int×Int)):(pairsP a).one=true:=pone_slP 2 _
theorem gr_kep{α:Type}(f:α→PD)(l:List α)(e sz:Nat):(l=[]∧grD e sz (l.map f)= .p (slP sz ((kepS l).map f)))∨(∃t,grD e sz (l.map f)= .tsl t e sz (l.map f)∧slP sz ((kepS l).map f)= .slice sz (l.map f)):=by
 cases l with
 |nil=>exact .inl ⟨rfl,rfl⟩
 |cons a r=>exact .inr ⟨0,rfl,rfl⟩
def free1(i:Nat)(b:Bn)(ts:List Int):List (Int×Int):=(ts.filter fun t=>!(els b.lo.tu).contains t).map fun t=>((i:Int),t)
def freeA:Nat→List Bn→List (Int×Int)
 |_,[]=>[]
 |i,b::r=>free1 i b (els b.up.tu)++freeA (i+1) r
theorem freeA_app:∀(l:List Bn) (i:Nat) (b:Bn),freeA i (l++[b])=freeA i l++free1 (i+l.length) b (els b.up.tu)
 |[],i,b=>by simp[freeA]
 |a::l,i,b=>by
  simp only[List.cons_append,freeA,freeA_app l (i+1) b,List.append_assoc,List.length_cons]
  rw[show i+1+l.length=i+(l.length+1) by omega]
theorem free1_len(i:Nat)(b:Bn)(ts:List Int):(free1 i b ts).length≤ts.length:=by
 unfold free1
 rw[List.length_map]
 exact List.length_filter_le _ _
theorem freeA_len:∀(l:List Bn) (i m:Nat),(∀b∈l,(els b.up.tu).length≤m)→(freeA i l).length≤l.length*m
 |[],_,_,_=>by simp[freeA]
 |b::l,i,m,h=>by
  have h1:=free1_len i b (els b.up.tu)
  have h2:=h b (by simp)
  have h3:=freeA_len l (i+1) m fun x hx=>h x (by simp[hx])
  simp only[freeA,List.length_append,List.length_cons,Nat.add_mul,Nat.one_mul]
  omega
theorem free09_call(bs:Sl Bn)(hl:(els bs).length≤1000)(hu:∀b∈els bs,(els b.up.tu).length≤1000∧(els b.lo.tu).length≤1000):
    ∀H,callD (call pg) 53 [.p (boundsP bs)] H=some (.val (.p (pairsP (kepS (freeA 0 (els bs))))),H):=by
 have inner:=fun(i:Nat) (hi:i<(els bs).length)=>loopN (c:=call pg) (G:=pg.G) (keep:=[0,3,4,5]) (b:=bd a53 1) (fun k=>[(0,.p (boundsP bs)),(3,grD 112 2 ((freeA 0 ((els bs).take i)++free1 i (els bs)[i] ((els (els bs)[i].up.tu).take k)).map pairP)),(4,.p (.int .i64 ((i:Nat):Int))),(5,.p (.int .i64 ((k:Nat):Int)))])
  (fun k=>⟨[],grT ((freeA 0 ((els bs).take i)++free1 i (els bs)[i] ((els (els bs)[i].up.tu).take k)).map pairP)⟩) (els (els bs)[i].up.tu).length (fun _=>True)
  (fun o e H=>o= .exit 2∧e.get 0= .p (boundsP bs)∧e.get 3=grD 112 2 ((freeA 0 ((els bs).take (i+1))).map pairP)∧e.get 4= .p (.int .i64 ((i:Nat):Int))∧H=⟨[],grT ((freeA 0 ((els bs).take (i+1))).map pairP)⟩) trivial
  (fun k hk _=>by
   have hb1:bd a53 1=bd a53 1:=rfl
   conv at hb1=>rhs;reduce
   have hb0:bd a53 0=bd a53 0:=rfl
   conv at hb0=>rhs;reduce
   rw[←hb1] at hb0
   have hf:a53=a53:=rfl
   conv at hf=>rhs;reduce
   rw[←hb1] at hf
   rw[←hb0] at hf
   rw[hb1];clear hf hb0 hb1
   have hm:=hu _ (List.getElem_mem hi)
   have c1:=has09_call (els bs)[i].lo.tu (els (els bs)[i].up.tu)[k] (by omega)
   have hlen:((freeA 0 ((els bs).take i)++free1 i (els bs)[i] ((els (els bs)[i].up.tu).take k)).map pairP).length<1000000000:=by
    rw[List.length_map,List.length_append]
    have h1:=freeA_len ((els bs).take i) 0 1000 fun b hb=>(hu b (List.mem_of_mem_take hb)).1
    have h2:=free1_len i (els bs)[i] ((els (els bs)[i].up.tu).take k)
    have h3:((els bs).take i).length≤(els bs).length:=List.length_take_le' ..
    have h4:((els (els bs)[i].up.tu).take k).length≤(els (els bs)[i].up.tu).length:=List.length_take_le' ..
    have h5:=Nat.mul_le_mul_right 1000 (Nat.le_trans h3 hl)
    omega
   have hap:=fun bx=>gr_app (e:=112) (sz:=2) (by':=16) (x:=.agg [.int .i64 i,.int .i64 (els (els bs)[i].up.tu)[k]]) (bx:=bx) hlen (by omega)
   have hfl:free1 i (els bs)[i] ((els (els bs)[i].up.tu).take (k+1))=free1 i (els bs)[i] ((els (els bs)[i].up.tu).take k)++if(els (els bs)[i].up.tu)[k]∈els (els bs)[i].lo.tu then[] else[((i:Int),(els (els bs)[i].up.tu)[k])]:=by
    unfold free1
    rw[List.take_succ_eq_append_getElem hk,List.filter_append,List.map_append]
    congr 1
    by_cases hc:(els (els bs)[i].up.tu)[k]∈els (els bs)[i].lo.tu<;>simp[hc]
   rw[hfl,←List.append_assoc,List.map_append]
   generalize hL:(freeA 0 ((els bs).take i)++free1 i (els bs)[i] ((els (els bs)[i].up.tu).take k)).map pairP=L at *
   by_cases hc:(els (els bs)[i].up.tu)[k]∈els (els bs)[i].lo.tu
   ·rw[if_pos hc]
    simp[-appendD,len_ints,ia_bounds hi,ia_ints hk,hk,c1,hc,inc64 (k:=k) (by omega)]
   ·rw[if_neg hc]
    simp[-appendD,len_ints,ia_bounds hi,ia_ints hk,hk,c1,hc,hap,pairP,inc64 (k:=k) (by omega)])
  (fun _=>by
   have hb1:bd a53 1=bd a53 1:=rfl
   conv at hb1=>rhs;reduce
   have hb0:bd a53 0=bd a53 0:=rfl
   conv at hb0=>rhs;reduce
   rw[←hb1] at hb0
   have hf:a53=a53:=rfl
   conv at hf=>rhs;reduce
   rw[←hb1] at hf
   rw[←hb0] at hf
   rw[hb1];clear hf hb0 hb1
   rw[List.take_length,List.take_succ_eq_append_getElem hi,freeA_app,List.length_take,Nat.min_eq_left (by omega),Nat.zero_add]
   simp[len_ints,ia_bounds hi])
 have key:=loopN (c:=call pg) (G:=pg.G) (keep:=[0,3,4]) (b:=bd a53 0) (fun i=>[(0,.p (boundsP bs)),(3,grD 112 2 ((freeA 0 ((els bs).take i)).map pairP)),(4,.p (.int .i64 ((i:Nat):Int)))])
  (fun i=>⟨[],grT ((freeA 0 ((els bs).take i)).map pairP)⟩) (els bs).length (fun _=>True)
  (fun o e H=>o= .exit 0∧e.get 3=grD 112 2 ((freeA 0 (els bs)).map pairP)) trivial
  (fun i hi _=>by
   have hin:=inner i hi
   have h0:free1 i (els bs)[i] ((els (els bs)[i].up.tu).take 0)=[]:=rfl
   rw[h0,List.append_nil] at hin
   obtain⟨o,e,H,hx,rfl,g0,g3,g4,rfl⟩:=post_get hin
   simp at hx
   have hb1:bd a53 1=bd a53 1:=rfl
   conv at hb1=>rhs;reduce
   have hb0:bd a53 0=bd a53 0:=rfl
   conv at hb0=>rhs;reduce
   rw[←hb1] at hb0
   have hf:a53=a53:=rfl
   conv at hf=>rhs;reduce
   rw[←hb1] at hf
   rw[←hb0] at hf
   rw[hb0];clear hf hb0 hb1
   simp[len_bounds,hi,hx,g0,g3,g4,inc64 (k:=i) (by omega)])
  (fun _=>by
   have hb1:bd a53 1=bd a53 1:=rfl
   conv at hb1=>rhs;reduce
   have hb0:bd a53 0=bd a53 0:=rfl
   conv at hb0=>rhs;reduce
   rw[←hb1] at hb0
   have hf:a53=a53:=rfl
   conv at hf=>rhs;reduce
   rw[←hb1] at hf
   rw[←hb0] at hf
   rw[hb0];clear hf hb0 hb1
   rw[List.take_length]
   simp[len_bounds])
 obtain⟨o,e,H,hx,rfl,g3⟩:=post_get key
 have h0:freeA 0 ((els bs).take 0)=[]:=by simp[freeA]
 rw[h0] at hx
 simp at hx
 have hb1:bd a53 1=bd a53 1:=rfl
 conv at hb1=>rhs;reduce
 have hb0:bd a53 0=bd a53 0:=rfl
 conv at hb0=>rhs;reduce
 rw[←hb1] at hb0
 have hf:a53=a53:=rfl
 conv at hf=>rhs;reduce
 rw[←hb1] at hf
 rw[←hb0] at hf
 refine callP (aa:=[_]) hf rfl rfl rfl ?_
 clear hf hb0 hb1
 generalize freeA 0 (els bs)=L at *
 rcases gr_kep pairP L 112 2 with⟨-,hg⟩ |⟨t,hg,hk⟩
 ·rw[hg] at g3
  simp[hx,g3,pairsP]
 ·rw[hg] at g3
  simp[hx,g3,pairsP,hk]
def lexB:List Bool→List Bool→Int
 |a::p,b::q=>if a=b then lexB p q else if b then -1 else 1
 |_,_=>0
def boolsP(s:Sl Bool):PD:=slP 1 (s.map PD.bool)
theorem len_bools(s:Sl Bool):lenD 1 (.p (boolsP s))=some (els s).length:=len_map 1 _ s
theorem ia_bools{s:Sl Bool}{k:Nat}(h:k<(els s).length):iaddrD none 1 (.p (boolsP s)) (k:Int)=some (.ro [.bool (els s)[k]] 0):=ia_map h
@[simp] theorem pone_bools(a:Sl Bool):(boolsP a).one=true:=pone_slP 1 _
theorem lexical_call(p q:Sl Bool)(hp:(els p).length<4611686018427387904)(hlen:(els p).length=(els q).length):
    ∀H,callD (call pg) 30 [.p (boolsP p),.p (boolsP q)] H=some (.val (.p (.int .i64 (lexB (els p) (els q)))),H):=by
 have key:=loopN (c:=call pg) (G:=pg.G) (keep:=[0,1,5]) (b:=bd a30 0) (fun i=>[(0,.p (boolsP p)),(1,.p (boolsP q)),(5,.p (.int .i64 ((i:Nat):Int)))]) (fun _=>⟨[],[]⟩) (els p).length
  (fun i=>lexB ((els p).drop i) ((els q).drop i)=lexB (els p) (els q))
  (fun o e H=>H=⟨[],[]⟩∧((o= .exit 0∧lexB (els p) (els q)=0)∨(o= .ret∧e.get 4= .p (.int .i64 (lexB (els p) (els q)))))) (by simp)
  (fun i hi hI=>by
   have hi2:i<(els q).length:=by omega
   rw[List.drop_eq_getElem_cons hi,List.drop_eq_getElem_cons hi2] at hI
   simp only[lexB] at hI
   have hb0:bd a30 0=bd a30 0:=rfl
   conv at hb0=>rhs;reduce
   have hf:a30=a30:=rfl
   conv at hf=>rhs;reduce
   rw[←hb0] at hf
   rw[hb0];clear hf hb0
   by_cases hc:(els p)[i]=(els q)[i]
   ·rw[if_pos hc] at hI
    simp[len_bools,ia_bools hi,ia_bools hi2,hi,hi2,hc,hI,inc64 (k:=i) (by omega)]
   ·rw[if_neg hc] at hI
    cases hb:(els q)[i] with
    |true=>
     rw[hb,if_pos rfl] at hI
     have hb2:(els p)[i]=false:=by
      cases h:(els p)[i]
      ·rfl
      ·rw[h,hb] at hc;exact absurd rfl hc
     simp[len_bools,ia_bools hi,ia_bools hi2,hi,hi2,hb,hb2,←hI]
    |false=>
     rw[hb] at hI
     have hb2:(els p)[i]=true:=by
      cases h:(els p)[i]
      ·rw[h,hb] at hc;exact absurd rfl hc
      ·rfl
     simp at hI
     simp[len_bools,ia_bools hi,ia_bools hi2,hi,hi2,hb,hb2,←hI])
  (fun hI=>by
   rw[List.drop_eq_nil_of_le (Nat.le_refl _)] at hI
   simp only[lexB] at hI
   have hb0:bd a30 0=bd a30 0:=rfl
   conv at hb0=>rhs;reduce
   have hf:a30=a30:=rfl
   conv at hf=>rhs;reduce
   rw[←hb0] at hf
   rw[hb0];clear hf hb0
   simp[len_bools,←hI])
 obtain⟨o,e,H,hx,rfl,hq⟩:=post_get key
 simp at hx
 have hb0:bd a30 0=bd a30 0:=rfl
 conv at hb0=>rhs;reduce
 have hf:a30=a30:=rfl
 conv at hf=>rhs;reduce
 rw[←hb0] at hf
 refine callP (aa:=[_,_]) hf rfl rfl rfl ?_
 clear hf hb0
 rcases hq with⟨rfl,h⟩ |⟨rfl,h⟩
 ·simp[hx,h]
 ·simp[hx,h]
end Go.Proofs.YtgplgbonlnodeaaGreatDoor
namespace Go.Proofs.YtgplgbonlnodeaaGreatDoor
open Go.Vs
set_option maxRecDepth 100000
theorem rounds_ind{ea eb:St→Option (Out×St)}{env:Env}{ps:List Nat}{kb:Hp→Bool}(I:Nat→Hp→Prop):
    ∀(xs:List (List D)) (n:Nat) (H:Hp),I n H→
    (∀i x H,xs[i]? =some x→I (n+i) H→x.length=ps.length∧post (fun o e H1=>o= .norm∧post (fun o _ H2=>o= .norm∧kb H2=true∧I (n+i+1) H2) (eb ⟨e,H1⟩)) (ea ⟨setPs env ps x,H⟩))→
    ∃H',evRounds ea eb env ps kb xs H=some (.norm,⟨env,H'⟩)∧I (n+xs.length) H'
 |[],n,H,h0,_=>⟨H,rfl,h0⟩
 |x::xs,n,H,h0,h=>by
  obtain⟨hl,h1⟩:=h 0 x H rfl h0
  obtain⟨o,e,H1,hx,rfl,h2⟩:=post_get h1
  obtain⟨o,e2,H2,hx2,rfl,hk,h3⟩:=post_get h2
  obtain⟨H',h4,h5⟩:=rounds_ind I xs (n+1) H2 h3 fun i y H hy hI=>by
   have:=h (i+1) y H hy (by rw[show n+(i+1)=n+1+i by omega];exact hI)
   rw[show n+(i+1)+1=n+1+i+1 by omega] at this
   exact this
  refine⟨H',?_,by rw[List.length_cons,show n+(xs.length+1)=n+1+xs.length by omega];exact h5⟩
  simp only[evRounds,hl,ne_eq,not_true_eq_false,if_false,hx,hx2,hk,if_true,h4]
theorem post_range{c:CallR}{G:Nat→Option (List PD)}{Q:Out→Env→Hp→Prop}{xs:List (List D)}{asg b rest:SC}{env:Env}{ps:List Nat}{kb:Hp→Bool}{H:Hp}{kk:Nat}(I:Nat→Hp→Prop)(h0:I 0 H)
    (h:∀i x H,xs[i]? =some x→I i H→x.length=ps.length∧post (fun o e H1=>o= .norm∧post (fun o _ H2=>o= .norm∧kb H2=true∧I (i+1) H2) (evS c G iterX b ⟨e,H1⟩)) (evS c G iterX asg ⟨setPs env ps x,H⟩))
    (hq:∀H',I xs.length H'→post Q (seqK c G (some (.norm,⟨env,H'⟩)) rest)):post Q (seqK c G (blockK kk (rangeK c G (some xs) asg b env ps kb H)) rest):=by
 obtain⟨H',h1,h2⟩:=rounds_ind (kb:=kb) I xs 0 H h0 fun i x H hx hI=>by simpa using h i x H hx (by simpa using hI)
 rw[Nat.zero_add] at h2
 have h3:rangeK c G (some xs) asg b env ps kb H=some (.norm,⟨env,H'⟩):=h1
 rw[h3]
 exact hq H' h2
theorem reach_nil(H:Hp)(n:Nat):reach H n []=[]:=by cases n<;>simp[reach,boxRefs]
theorem keepB_nil(H H':Hp):keepB [] H H'=true:=rfl
def ElOk(sz:Nat)(x:PD):Prop:=(sz=1∧x.cells=[x])∨(sz≠1∧∃cs,x= .agg cs∧cs.length=sz)
theorem ElOk.len{sz:Nat}{x:PD}(h:ElOk sz x):x.cells.length=sz:=by
 rcases h with⟨rfl,h⟩ |⟨_,cs,rfl,h⟩
 ·rw[h];rfl
 ·exact h
theorem cells_len{sz:Nat}{es:List PD}(h:∀x∈es,ElOk sz x):(es.flatMap PD.cells).length=es.length*sz:=by
 induction es with
 |nil=>simp
 |cons a r ih=>rw[List.flatMap_cons,List.length_append,ih fun x hx=>h x (List.mem_cons_of_mem _ hx),(h a List.mem_cons_self).len,List.length_cons,Nat.add_mul];omega
theorem chunks_els{sz:Nat}:∀{es:List PD},(∀x∈es,ElOk sz x)→chunks sz es.length (es.flatMap PD.cells)=es
 |[],_=>rfl
 |a::r,h=>by
  have ih:=chunks_els (es:=r) fun x hx=>h x (List.mem_cons_of_mem _ hx)
  rcases h a List.mem_cons_self with⟨rfl,h1⟩ |⟨hs,cs,rfl,h1⟩
  ·rw[List.flatMap_cons,h1,List.length_cons]
   simp[chunks,ih]
  ·rw[List.flatMap_cons,List.length_cons]
   show chunks sz (r.length+1) (cs++r.flatMap PD.cells)=_
   simp only[chunks]
   rw[List.drop_append_of_le_length (by omega),List.drop_of_length_le (by omega),List.nil_append,ih,List.take_append_of_le_length (by omega),List.take_of_length_le (by omega)]
   congr 1
   split
   ·exact absurd rfl hs
   ·rfl
def rowP(sz:Nat)(es:List PD):PD:=match es with |[]=>.nils |_::_=>.slice sz es
def Gr(e sz base:Nat)(es:List PD)(d:D)(rest:List (List D)):Prop:=
 (∀cs∈rest,∃ys:List PD,cs=ys.map D.p)∧(∀x∈es,ElOk sz x)∧((d= .p (.nils)∧es=[])∨∃i,d= .gsl (base+i) e es.length sz∧rest[i]? =some ((es.flatMap PD.cells).map D.p)∧es≠[])
theorem Gr.nil(e sz base:Nat):Gr e sz base [] (.p (.nils)) []:=⟨by simp,by simp,.inl ⟨rfl,rfl⟩⟩
theorem Gr.app{e sz base by':Nat}{es:List PD}{d:D}{rest:List (List D)}(h:Gr e sz base es d rest)(hn:es.length<1000000)(hb:by'≤1000)(hs:0<sz)(bs:List (List D))(hbs:bs.length=base)(k:List Nat){x:PD}(hx:ElOk sz x):
    ∃d' rest',appendgD e sz by' d 1 (x.cells.map .p) ⟨bs++rest,k⟩=some (d',⟨bs++rest',k⟩)∧Gr e sz base (es++[x]) d' rest':=by
 have hr:roomy (es.length+1) by'=true:=by
  have :(es.length+1)*by'≤1000000*1000:=Nat.mul_le_mul (by omega) hb
  simp only[roomy,Bool.and_eq_true,decide_eq_true_eq];omega
 obtain⟨hpl,hE,h⟩:=h
 have hE':∀y∈es++[x],ElOk sz y:=fun y hy=>by
  rcases List.mem_append.1 hy with h |h
  ·exact hE y h
  ·rw[List.mem_singleton.1 h];exact hx
 have hxl:(x.cells.map D.p).length=sz:=by rw[List.length_map];exact hx.len
 have hpl':∀ys:List PD,∀r:List (List D),(∀cs∈r,∃ys:List PD,cs=ys.map D.p)→∀cs∈r++[ys.map D.p],∃ys:List PD,cs=ys.map D.p:=fun ys r hr cs hcs=>by
  rcases List.mem_append.1 hcs with h |h
  ·exact hr cs h
  ·exact⟨ys,List.mem_singleton.1 h⟩
 rcases h with⟨rfl,rfl⟩ |⟨i,rfl,hi,hne⟩
 ·refine⟨.gsl (base+rest.length) e 1 sz,rest++[x.cells.map .p],?_,hpl' _ _ hpl,hE',.inr ⟨rest.length,rfl,by simp,by simp⟩⟩
  have hr1:roomy 1 by'=true:=by simpa using hr
  simp[appendgD,fullD,hr1,hbs]
 ·have hil:i<rest.length:=(List.getElem?_eq_some_iff.1 hi).1
  refine⟨.gsl (base+rest.length) e (es.length+1) sz,rest.set i []++[((es++[x]).flatMap PD.cells).map D.p],?_,hpl' _ _ fun cs hcs=>?_,hE',.inr ⟨rest.length,by simp,by simp,by simp⟩⟩
  ·have hcl:=cells_len hE
   have hpos:0<es.length*sz:=Nat.mul_pos (List.length_pos_iff.2 hne) hs
   have h1:(bs++rest)[base+i]? =some ((es.flatMap PD.cells).map D.p):=by
    rw[List.getElem?_append_right (by omega),hbs,Nat.add_sub_cancel_left];exact hi
   have h2:¬(es.length+1)*sz≤es.length*sz:=by rw[Nat.add_mul];omega
   have h3:(es.flatMap PD.cells).map D.p≠[]:=fun h=>by
    have:=congrArg List.length h
    rw[List.length_map,hcl] at this
    simp at this
    omega
   have h4:List.take (es.length*sz) ((es.flatMap PD.cells).map D.p)=(es.flatMap PD.cells).map D.p:=List.take_of_length_le (by rw[List.length_map,hcl];exact Nat.le_refl _)
   have h5:(bs++rest).set (base+i) []=bs++rest.set i []:=by
    rw[List.set_append_right _ _ (by omega),hbs,Nat.add_sub_cancel_left]
   have h6:((es.flatMap PD.cells).map D.p).length=es.length*sz:=by rw[List.length_map,hcl]
   simp only[appendgD,h1,h3,h4,h5,h6,hr,isMapC_p,and_self,if_true,if_false,Nat.le_refl,ne_eq,not_false_eq_true,h2,Nat.succ_ne_zero]
   simp[hbs]
  ·rcases List.mem_or_eq_of_mem_set hcs with h |rfl
   ·exact hpl cs h
   ·exact⟨[],rfl⟩
end Go.Proofs.YtgplgbonlnodeaaGreatDoor
namespace Go.Proofs.YtgplgbonlnodeaaGreatDoor
open Go.Vs
set_option maxRecDepth 100000
set_option maxHeartbeats 4000000
def NmOk(sp:Sp):Prop:=∀s∈els sp.so,s.nm.length≤140737488355000
theorem named_call(sp:Sp)(ok:SpOk sp)(hn:NmOk sp)(nm:List UInt8):
    ∃(ar:Int) (r:Bt) (k:Nat),(∀H,callD (call pg) 186 [.p (.agg sp.cl),.p (.str nm)] H=some (.val (.tup [.p (setP ar r),.p (.int .i64 ((k:Nat):Int))]),H))∧(1≤k→1≤ar∧ar≤3):=by
 have key0:=loopW (c:=call pg) (G:=pg.G) (keep:=[1,2,4,6,7,8]) (b:=bd a186 0) (σ:=Nat×Int×Bt×Nat) (fun s=>[(1,.p (.str nm)),(2,.box 0 0),(4,.box 1 0),(6,.box 2 0),(7,.p (.int .i64 ((s.2.2.2:Nat):Int))),(8,.p (.int .i64 ((s.1:Nat):Int)))]) (fun s=>⟨[sp.cl.map .p,(setL 0 Bt.e).map D.p,(setL s.2.1 s.2.2.1).map D.p],[]⟩) (fun s=>(els sp.fi).length-s.1) (fun s=>s.1≤(els sp.fi).length∧s.2.2.2≤s.1∧(1≤s.2.2.2→1≤s.2.1∧s.2.1≤3))
  (fun o e H=>o= .exit 0∧e.get 1= .p (.str nm)∧e.get 2= .box 0 0∧e.get 4= .box 1 0∧e.get 6= .box 2 0∧∃(ar:Int) (r:Bt) (k:Nat),e.get 7= .p (.int .i64 ((k:Nat):Int))∧k≤6∧(1≤k→1≤ar∧ar≤3)∧H=⟨[sp.cl.map .p,(setL 0 Bt.e).map D.p,(setL ar r).map D.p],[]⟩)
  (by
   rintro⟨i,ar,x,k⟩ ⟨hi,hk,hkk⟩
   dsimp only at hi hk hkk⊢
   have hf6:=ok.nf
   have hb1:bd a186 1=bd a186 1:=rfl
   conv at hb1=>rhs;reduce
   have hb0:bd a186 0=bd a186 0:=rfl
   conv at hb0=>rhs;reduce
   have hf:a186=a186:=rfl
   conv at hf=>rhs;reduce
   rw[←hb1] at hf
   rw[←hb0] at hf
   rw[hb0];clear hf hb0 hb1
   by_cases h:i<(els sp.fi).length
   ·have hia:=ia_fields h
    have fo:=ok.fd _ (List.getElem_mem h)
    obtain⟨u,hu⟩:=one_call (intsD_p (els sp.fi)[i].so) (by have:=fo.2.2;omega)
    have k1:=inc64 (k:=i) (by omega)
    have k2:=inc64 (k:=k) (by omega)
    by_cases hc:(els sp.fi)[i].nm=nm
    ·refine post_mono (Q:=nx [1,2,4,6,7,8] [(1,.p (.str nm)),(2,.box 0 0),(4,.box 1 0),(6,.box 2 0),(7,.p (.int .i64 ((k+1 :Nat):Int))),(8,.p (.int .i64 ((i+1 :Nat):Int)))] ⟨[sp.cl.map .p,(setL 0 Bt.e).map D.p,(setL ((els (els sp.fi)[i].so).length:Int) u).map D.p],[]⟩) ?_ fun o e H hh=>.inl ⟨(i+1,((els (els sp.fi)[i].so).length:Int),u,k+1),⟨by dsimp only;omega,by dsimp only;omega,fun _=>⟨Int.ofNat_le.2 fo.2.1,Int.ofNat_le.2 fo.2.2⟩⟩,by dsimp only;omega,hh⟩
     simp[-splice,-fillD,set_splice,set_onesT,len_fields,h,hia,hc,hu,k1,k2]
    ·refine post_mono (Q:=nx [1,2,4,6,7,8] [(1,.p (.str nm)),(2,.box 0 0),(4,.box 1 0),(6,.box 2 0),(7,.p (.int .i64 ((k:Nat):Int))),(8,.p (.int .i64 ((i+1 :Nat):Int)))] ⟨[sp.cl.map .p,(setL 0 Bt.e).map D.p,(setL ar x).map D.p],[]⟩) ?_ fun o e H hh=>.inl ⟨(i+1,ar,x,k),⟨by dsimp only;omega,by dsimp only;omega,hkk⟩,by dsimp only;omega,hh⟩
     simp[-splice,-fillD,len_fields,h,hia,hc,k1]
   ·have :i=(els sp.fi).length:=by omega
    subst this
    refine post_mono (Q:=fun o e H=>o= .exit 0∧e.get 1= .p (.str nm)∧e.get 2= .box 0 0∧e.get 4= .box 1 0∧e.get 6= .box 2 0∧e.get 7= .p (.int .i64 ((k:Nat):Int))∧H=⟨[sp.cl.map .p,(setL 0 Bt.e).map D.p,(setL ar x).map D.p],[]⟩) ?_ ?_
    ·simp[-splice,-fillD,len_fields]
    ·rintro o e H ⟨rfl,q1,q2,q3,q4,q5,rfl⟩
     exact .inr ⟨by simp,rfl,q1,q2,q3,q4,ar,x,k,q5,by omega,hkk,rfl⟩) (0,0,Bt.e,0) ⟨Nat.zero_le _,Nat.le_refl _,fun h=>by dsimp only at h;omega⟩
 have key1:=fun(ar0:Int) (r0:Bt) (k0:Nat) (h60:k0≤6) (h00:1≤k0→1≤ar0∧ar0≤3)=>loopW (c:=call pg) (G:=pg.G) (keep:=[1,2,4,6,7,9]) (b:=bd a186 1) (σ:=Nat×Int×Bt×Nat) (fun s=>[(1,.p (.str nm)),(2,.box 0 0),(4,.box 1 0),(6,.box 2 0),(7,.p (.int .i64 ((s.2.2.2:Nat):Int))),(9,.p (.int .i64 ((s.1:Nat):Int)))]) (fun s=>⟨[sp.cl.map .p,(setL 0 Bt.e).map D.p,(setL s.2.1 s.2.2.1).map D.p],[]⟩) (fun s=>(els sp.so).length-s.1) (fun s=>s.1≤(els sp.so).length∧s.2.2.2≤6+3*s.1∧(1≤s.2.2.2→1≤s.2.1∧s.2.1≤3))
  (fun o e H=>o= .exit 2∧e.get 4= .box 1 0∧e.get 6= .box 2 0∧∃(ar:Int) (r:Bt) (k:Nat),e.get 7= .p (.int .i64 ((k:Nat):Int))∧(1≤k→1≤ar∧ar≤3)∧H=⟨[sp.cl.map .p,(setL 0 Bt.e).map D.p,(setL ar r).map D.p],[]⟩)
  (by
   rintro⟨i,ar,x,k⟩ ⟨hi,hk,hkk⟩
   dsimp only at hi hk hkk⊢
   have hf6:=ok.ns
   have hb1:bd a186 1=bd a186 1:=rfl
   conv at hb1=>rhs;reduce
   have hb0:bd a186 0=bd a186 0:=rfl
   conv at hb0=>rhs;reduce
   have hf:a186=a186:=rfl
   conv at hf=>rhs;reduce
   rw[←hb1] at hf
   rw[←hb0] at hf
   rw[hb1];clear hf hb0 hb1
   by_cases h:i<(els sp.so).length
   ·have hia:=ia_sorts h
    have hnm:=hn _ (List.getElem_mem h)
    obtain⟨u,hu⟩:=one_call (intsD_1 (i:Int)) (by omega)
    obtain⟨v,hv⟩:=one_call (intsD_2 (i:Int) (i:Int)) (by omega)
    simp at hu hv
    have k1:=inc64 (k:=i) (by omega)
    have k2:=inc64 (k:=k) (by omega)
    have k3:=inc64 (k:=k+1) (by omega)
    have k4:=inc64 (k:=k+1+1) (by omega)
    have g1:(els sp.so)[i].nm.length+6≤140737488355328:=by omega
    have g2:(els sp.so)[i].nm.length+5≤140737488355328:=by omega
    generalize (els sp.so)[i]=q at *
    have fin:∀(ar':Int) (x':Bt) (k':Nat),k'≤k+3→(1≤k'→1≤ar'∧ar'≤3)→∀X,post (nx [1,2,4,6,7,9] [(1,.p (.str nm)),(2,.box 0 0),(4,.box 1 0),(6,.box 2 0),(7,.p (.int .i64 ((k':Nat):Int))),(9,.p (.int .i64 ((i+1 :Nat):Int)))] ⟨[sp.cl.map .p,(setL 0 Bt.e).map D.p,(setL ar' x').map D.p],[]⟩) X→
        post (fun o e H=>(∃s':Nat×Int×Bt×Nat,(s'.1≤(els sp.so).length∧s'.2.2.2≤6+3*s'.1∧(1≤s'.2.2.2→1≤s'.2.1∧s'.2.1≤3))∧(els sp.so).length-s'.1<(els sp.so).length-i∧nx [1,2,4,6,7,9] [(1,.p (.str nm)),(2,.box 0 0),(4,.box 1 0),(6,.box 2 0),(7,.p (.int .i64 ((s'.2.2.2:Nat):Int))),(9,.p (.int .i64 ((s'.1:Nat):Int)))] ⟨[sp.cl.map .p,(setL 0 Bt.e).map D.p,(setL s'.2.1 s'.2.2.1).map D.p],[]⟩ o e H)∨o≠.norm∧o= .exit 2∧e.get 4= .box 1 0∧e.get 6= .box 2 0∧∃(ar:Int) (r:Bt) (k:Nat),e.get 7= .p (.int .i64 ((k:Nat):Int))∧(1≤k→1≤ar∧ar≤3)∧H=⟨[sp.cl.map .p,(setL 0 Bt.e).map D.p,(setL ar r).map D.p],[]⟩) X:=by
     intro ar' x' k' h1 h2 X hX
     exact post_mono hX fun o e H hh=>.inl ⟨(i+1,ar',x',k'),⟨by dsimp only;omega,by dsimp only;omega,h2⟩,by dsimp only;omega,hh⟩
    by_cases c1:q.nm=nm
    ·cases hod:q.od with
     |false=>
      refine fin 1 u (k+1) (by omega) (fun _=>by omega) _ ?_
      simp[-splice,-fillD,set_splice,set_onesT,len_sorts,h,hia,c1,hod,hu,k1,k2]
     |true=>
      by_cases c2:q.nm++[95,102,105,114,115,116]=nm
      ·by_cases c3:q.nm++[95,110,101,120,116]=nm
       ·exfalso
        have:=congrArg List.length (c2.trans c3.symm)
        simp at this
       ·exfalso
        have:=congrArg List.length (c1.trans c2.symm)
        simp at this
      ·by_cases c3:q.nm++[95,110,101,120,116]=nm
       ·exfalso
        have:=congrArg List.length (c1.trans c3.symm)
        simp at this
       ·refine fin 1 u (k+1) (by omega) (fun _=>by omega) _ ?_
        rw[c1] at c2 c3 g1 g2
        simp[-splice,-fillD,set_splice,set_onesT,len_sorts,h,hia,c1,hod,hu,k1,k2,c2,c3,g1,g2]
    ·cases hod:q.od with
     |false=>
      refine fin ar x k (by omega) hkk _ ?_
      simp[-splice,-fillD,len_sorts,h,hia,c1,hod,k1]
     |true=>
      by_cases c2:q.nm++[95,102,105,114,115,116]=nm
      ·by_cases c3:q.nm++[95,110,101,120,116]=nm
       ·exfalso
        have:=congrArg List.length (c2.trans c3.symm)
        simp at this
       ·refine fin 1 u (k+1) (by omega) (fun _=>by omega) _ ?_
        simp[-splice,-fillD,set_splice,set_onesT,len_sorts,h,hia,c1,hod,hu,k1,k2,c2,c3,g1,g2]
      ·by_cases c3:q.nm++[95,110,101,120,116]=nm
       ·refine fin 2 v (k+1) (by omega) (fun _=>by omega) _ ?_
        simp[-splice,-fillD,set_splice,set_onesT,len_sorts,h,hia,c1,hod,hv,k1,k2,c2,c3,g1,g2]
       ·refine fin ar x k (by omega) hkk _ ?_
        simp[-splice,-fillD,len_sorts,h,hia,c1,hod,k1,c2,c3,g1,g2]
   ·have :i=(els sp.so).length:=by omega
    subst this
    refine post_mono (Q:=fun o e H=>o= .exit 2∧e.get 4= .box 1 0∧e.get 6= .box 2 0∧e.get 7= .p (.int .i64 ((k:Nat):Int))∧H=⟨[sp.cl.map .p,(setL 0 Bt.e).map D.p,(setL ar x).map D.p],[]⟩) ?_ ?_
    ·simp[-splice,-fillD,len_sorts]
    ·rintro o e H ⟨rfl,q3,q4,q5,rfl⟩
     exact .inr ⟨by simp,rfl,q3,q4,ar,x,k,q5,hkk,rfl⟩) (0,ar0,r0,k0) ⟨Nat.zero_le _,by dsimp only;omega,h00⟩
 obtain⟨o,e,H,hx,rfl,q1,q2,q4,q6,ar,r,k,q7,hk6,hkk,rfl⟩:=post_get key0
 obtain⟨o,e',H,hx',rfl,q4',q6',ar',r',k',q7',hkk',rfl⟩:=post_get (key1 ar r k hk6 hkk)
 simp only[Int.natCast_zero,List.map_cons,List.map_nil] at hx hx'
 have hb1:bd a186 1=bd a186 1:=rfl
 conv at hb1=>rhs;reduce
 have hb0:bd a186 0=bd a186 0:=rfl
 conv at hb0=>rhs;reduce
 have hf:a186=a186:=rfl
 conv at hf=>rhs;reduce
 rw[←hb1] at hf
 rw[←hb0] at hf
 have hz65:z65=z65:=rfl
 conv at hz65=>rhs;reduce
 try rw[←hz65] at hf
 try rw[←hz65] at hb0
 try rw[←hz65] at hb1
 clear hz65
 refine⟨ar',r',k',callP (aa:=[_,_]) hf rfl rfl rfl ?_,hkk'⟩
 clear hf hb0 hb1
 simp[-splice,-fillD,z65_eq,set_take,set_splice,pures_p,set_onesT,fill0,hx,q1,q2,q4,q6,q7,hx',q4',q6',q7']
end Go.Proofs.YtgplgbonlnodeaaGreatDoor
namespace Go.Proofs.YtgplgbonlnodeaaGreatDoor
open Go.Vs
set_option maxRecDepth 100000
set_option maxHeartbeats 4000000
theorem pred_call(sp:Sp)(hp:(els sp.pr).length<4611686018427387904)(calls:Nat)(nm:List UInt8):
    ∃p:Int,(∀H,callD (call pg) 152 [.p (.agg sp.cl),.p (.int .i64 ((calls:Nat):Int)),.p (.str nm)] H=some (.val (.p (.int .i64 (p))),H))∧(0≤p→∃i:Nat,p=(i:Int)∧i<(els sp.pr).length∧i<calls):=by
 have key:=loopN (c:=call pg) (G:=pg.G) (keep:=[1,2,3,7]) (b:=bd a152 0) (fun i=>[(1,.p (.int .i64 ((calls:Nat):Int))),(2,.p (.str nm)),(3,.box 0 0),(7,.p (.int .i64 ((i:Nat):Int)))]) (fun _=>⟨[sp.cl.map .p],[]⟩) (min calls (els sp.pr).length) (fun _=>True)
  (fun o e H=>o= .exit 0∨(o= .ret∧∃i:Nat,e.get 6= .p (.int .i64 ((i:Nat):Int))∧i<(els sp.pr).length∧i<calls)) trivial
  (fun i hi _=>by
   have h1:i<calls:=by omega
   have h2:i<(els sp.pr).length:=by omega
   have hia:=ia_preds h2
   have k1:=inc64 (k:=i) (by omega)
   have hb0:bd a152 0=bd a152 0:=rfl
   conv at hb0=>rhs;reduce
   have hf:a152=a152:=rfl
   conv at hf=>rhs;reduce
   rw[←hb0] at hf
   rw[hb0];clear hf hb0
   by_cases hc:(els sp.pr)[i].nm=nm
   ·refine post_mono (Q:=fun o e H=>o= .ret∧e.get 6= .p (.int .i64 ((i:Nat):Int))) ?_ ?_
    ·simp[len_preds,h1,h2,hia,hc]
    ·rintro o e H ⟨rfl,q⟩
     exact .inr ⟨by simp,.inr ⟨rfl,i,q,h2,h1⟩⟩
   ·simp[len_preds,h1,h2,hia,hc,k1])
  (fun _=>by
   have hb0:bd a152 0=bd a152 0:=rfl
   conv at hb0=>rhs;reduce
   have hf:a152=a152:=rfl
   conv at hf=>rhs;reduce
   rw[←hb0] at hf
   rw[hb0];clear hf hb0
   by_cases h1:calls≤(els sp.pr).length
   ·rw[Nat.min_eq_left h1]
    simp
   ·rw[Nat.min_eq_right (by omega)]
    have h2:(els sp.pr).length<calls:=by omega
    simp[len_preds,h2])
 obtain⟨o,e,H,hx,hq⟩:=post_get key
 simp only[Int.natCast_zero,List.map_cons,List.map_nil] at hx
 have hb0:bd a152 0=bd a152 0:=rfl
 conv at hb0=>rhs;reduce
 have hf:a152=a152:=rfl
 conv at hf=>rhs;reduce
 rw[←hb0] at hf
 rcases hq with rfl |⟨rfl,i,q,h1,h2⟩
 ·refine⟨-1,callP (aa:=[_,_,_]) hf rfl rfl rfl ?_,fun h=>by omega⟩
  clear hf hb0
  simp[hx]
 ·refine⟨(i:Int),callP (aa:=[_,_,_]) hf rfl rfl rfl ?_,fun _=>⟨i,rfl,h1,h2⟩⟩
  clear hf hb0
  simp[hx,q]
theorem timed_call(op:Int):∃r:Bool,∀H,callD (call pg) 282 [.p (.int .i64 (op))] H=some (.val (.p (.bool r)),H):=by
 have hf:a282=a282:=rfl
 conv at hf=>rhs;reduce
 by_cases h1:op=5
 ·refine⟨true,callP (aa:=[_]) hf rfl rfl rfl ?_⟩
  clear hf
  simp[h1]
 ·by_cases h2:48≤op
  ·refine⟨decide (op≤51),callP (aa:=[_]) hf rfl rfl rfl ?_⟩
   clear hf
   simp[h1,h2]
  ·refine⟨false,callP (aa:=[_]) hf rfl rfl rfl ?_⟩
   clear hf
   simp[h1,h2]
def Bts(s:SF)(L:List Bool):Prop:=SFOk 4 1 s (L.map PD.bool)
theorem at_self(e sz:Nat)(s:SF)(bx:List (List D)):s.at e sz (s.d e sz 0) ⟨bx,s.k⟩:=by
 cases s with
 |pl x=>rfl
 |tk es=>exact⟨0,rfl,rfl⟩
theorem tempPred_call(sp:Sp)(hp:(els sp.pr).length<4611686018427387904){s:SF}{L:List Bool}(hs:Bts s L)(calls:Nat)(nm:List UInt8):
    ∃r:Bool,∀d H,s.at 4 1 d H→callD (call pg) 283 [.p (.agg sp.cl),d,.p (.int .i64 ((calls:Nat):Int)),.p (.str nm)] H=some (.val (.p (.bool r)),H):=by
 obtain⟨p,hc,hpp⟩:=pred_call sp hp calls nm
 have hlen:=hs.len 0
 rw[List.length_map] at hlen
 have hf:a283=a283:=rfl
 conv at hf=>rhs;reduce
 by_cases h1:0≤p
 ·obtain⟨i,rfl,-,-⟩:=hpp h1
  by_cases h2:i<L.length
  ·have hia:=hs.ia 0 i (by simpa using h2)
   have hg:((L.map PD.bool)[i]'(by simpa using h2)).cells=[PD.bool L[i]]:=by simp[pcells_bool]
   rw[hg] at hia
   refine⟨L[i],callF (e:=4) (sz:=1) (pre:=[.agg sp.cl]) (suf:=[.int .i64 calls,.str nm]) (s:=s) (pln_p _) hf (fun _=>by cases s<;>rfl) (by cases s<;>rfl) rfl ?_⟩
   clear hf
   cases s<;>(simp only[SF.d,SF.k] at *;simp[givesT,hc,hlen,hia,h2])
  ·refine⟨false,callF (e:=4) (sz:=1) (pre:=[.agg sp.cl]) (suf:=[.int .i64 calls,.str nm]) (s:=s) (pln_p _) hf (fun _=>by cases s<;>rfl) (by cases s<;>rfl) rfl ?_⟩
   clear hf
   cases s<;>(simp only[SF.d,SF.k] at *;simp[givesT,hc,hlen,h2])
 ·refine⟨false,callF (e:=4) (sz:=1) (pre:=[.agg sp.cl]) (suf:=[.int .i64 calls,.str nm]) (s:=s) (pln_p _) hf (fun _=>by cases s<;>rfl) (by cases s<;>rfl) rfl ?_⟩
  clear hf
  cases s<;>(simp only[SF.d,SF.k] at *;simp[givesT,hc,h1])
theorem temporal_call(sp:Sp)(hp:(els sp.pr).length<4611686018427387904){s:SF}{L:List Bool}(hs:Bts s L):∀(m:Nat) (a:Nd),a.size≤m→m<4611686018427387904→
    ∃r:Bool,∀d H,s.at 4 1 d H→callD (call pg) 288 [.p (.agg sp.cl),d,.p (.agg a.cl)] H=some (.val (.p (.bool r)),H):=by
 intro m
 induction m with
 |zero=>intro a h;have:=size_pos a;omega
 |succ m ih=>
  intro a hm hB
  have hlen:=hs.len 0
  rw[List.length_map] at hlen
  obtain⟨b1,c1⟩:=timed_call a.op
  obtain⟨b2,c2⟩:=tempPred_call sp hp hs L.length a.nm
  have c2:=fun bx=>c2 (s.d 4 1 0) ⟨bx,s.k⟩ (at_self 4 1 s bx)
  have hkl:a.ks.length<4611686018427387904:=by
   have:=len_sizeL a.ks
   have:=size_eq a
   omega
  have key:=loopC (c:=call pg) (G:=pg.G) (keep:=[1,3,5,7]) (b:=bd a288 0) (fun i=>[(1,s.d 4 1 0),(3,.box 0 0),(5,.box 1 0),(7,.p (.int .i64 ((i:Nat):Int)))]) ⟨[sp.cl.map .p,a.cl.map .p],s.k⟩ a.ks.length (fun _=>True) 0 (fun _=>True) (fun e=>e.get 6= .p (.bool true))
   (fun i hi=>by
    obtain⟨b3,c3⟩:=ih (a.ks[i]) (by have:=size_kid (List.getElem_mem hi);omega) (by omega)
    have c3:=fun bx=>c3 (s.d 4 1 0) ⟨bx,s.k⟩ (at_self 4 1 s bx)
    have hia:=ia_kids hi
    have k1:=inc64 (k:=i) (by omega)
    have hb0:bd a288 0=bd a288 0:=rfl
    conv at hb0=>rhs;reduce
    have hf:a288=a288:=rfl
    conv at hf=>rhs;reduce
    rw[←hb0] at hf
    rw[hb0];clear hf hb0
    clear hs ih
    cases s<;>cases b3<;>(simp only[SF.d,SF.k] at *;simp[len_kids,hi,hia,c3,k1,callOne]))
   (by
    have hb0:bd a288 0=bd a288 0:=rfl
    conv at hb0=>rhs;reduce
    have hf:a288=a288:=rfl
    conv at hf=>rhs;reduce
    rw[←hb0] at hf
    rw[hb0];clear hf hb0
    clear hs ih
    cases s<;>(simp only[SF.d,SF.k] at *;simp[len_kids]))
  have fin:∀r:Bool,post (givesT [.t 6] s.k (.p (.bool r))) (evS (call pg) pg.G iterX ((a288.map fun f=>f.body).getD .skip) ⟨entry 0 ([PD.agg sp.cl].map .p++s.d 4 1 0::[PD.agg a.cl].map .p),⟨[],s.k⟩⟩)→
      ∃r:Bool,∀d H,s.at 4 1 d H→callD (call pg) 288 [.p (.agg sp.cl),d,.p (.agg a.cl)] H=some (.val (.p (.bool r)),H):=by
   intro r hr
   have hb0:bd a288 0=bd a288 0:=rfl
   conv at hb0=>rhs;reduce
   have hf:a288=a288:=rfl
   conv at hf=>rhs;reduce
   rw[←hb0] at hf
   rw[hf] at hr
   exact⟨r,callF (e:=4) (sz:=1) (pre:=[.agg sp.cl]) (suf:=[.agg a.cl]) (s:=s) (pln_p _) hf (fun _=>by cases s<;>rfl) (by cases s<;>rfl) rfl hr⟩
  have hb0:bd a288 0=bd a288 0:=rfl
  conv at hb0=>rhs;reduce
  have hf:a288=a288:=rfl
  conv at hf=>rhs;reduce
  rw[←hb0] at hf
  rw[hf] at fin
  simp only[Option.map_some,Option.getD_some] at fin
  clear hf hb0
  clear hs ih
  rcases key with⟨e,hx,-,-⟩ |⟨e,hx,h6⟩
  ·simp at hx
   cases b1 with
   |true=>
    refine fin true ?_
    clear fin
    cases s<;>(simp only[SF.d,SF.k] at *;simp[givesT,c1])
   |false=>
    by_cases h47:a.op=47
    ·refine fin b2 ?_
     clear fin
     rw[h47] at c1 hx
     cases s<;>cases b2<;>(simp only[SF.d,SF.k] at *;simp[givesT,c1,h47,c2,hlen,hx])
    ·refine fin false ?_
     clear fin
     cases s<;>(simp only[SF.d,SF.k] at *;simp[givesT,c1,h47,hx])
  ·simp at hx
   refine fin true ?_
   clear fin
   cases b1 with
   |true=>cases s<;>(simp only[SF.d,SF.k] at *;simp[givesT,c1])
   |false=>
    by_cases h47:a.op=47
    ·rw[h47] at c1 hx
     cases s<;>cases b2<;>(simp only[SF.d,SF.k] at *;simp[givesT,c1,h47,c2,hlen,hx,h6])
    ·cases s<;>(simp only[SF.d,SF.k] at *;simp[givesT,c1,h47,hx,h6])
def ofL{α:Type}(l:List α):Sl α:=match l with |[]=>.amb |_::_=>.of l
theorem ofL_p{α:Type}(sz:Nat)(f:α→PD)(l:List α):slP sz ((ofL l).map f)= .slice sz (l.map f):=by cases l<;>rfl
theorem tk_app{e sz by':Nat}{es:List PD}{x:PD}{bx:List (List D)}(h:es.length<1000000000)(hb:by'≤1000):appendD e sz by' (.tsl 0 e sz es) [x] ⟨bx,[es.length]⟩=some (.tsl 0 e sz (es++[x]),⟨bx,[es.length+1]⟩):=by
 have hr:roomy (es.length+1) by'=true:=by
  have :(es.length+1)*by'≤1000000000*1000:=Nat.mul_le_mul (by omega) hb
  simp only[roomy,Bool.and_eq_true,decide_eq_true_eq];omega
 simp[appendD,hr]
theorem temporalL_call(sp:Sp)(ok:SpOk sp):∃L:List Bool,∀H,callD (call pg) 223 [.p (.agg sp.cl)] H=some (.val (.p (boolsP (ofL L))),H):=by
 have hp:=ok.np
 have key:=loopW (c:=call pg) (G:=pg.G) (keep:=[1,3,4]) (b:=bd a223 0) (σ:=Nat×List Bool) (fun s=>[(1,.box 0 0),(3,.tsl 0 4 1 (s.2.map PD.bool)),(4,.p (.int .i64 ((s.1:Nat):Int)))]) (fun s=>⟨[sp.cl.map .p],[(s.2.map PD.bool).length]⟩) (fun s=>(els sp.pr).length-s.1) (fun s=>s.1≤(els sp.pr).length∧s.2.length=s.1)
  (fun o e H=>o= .exit 0∧∃L:List Bool,e.get 3= .tsl 0 4 1 (L.map PD.bool))
  (by
   rintro⟨i,L⟩ ⟨hi,hL⟩
   dsimp only at hi hL⊢
   have hb0:bd a223 0=bd a223 0:=rfl
   conv at hb0=>rhs;reduce
   have hf:a223=a223:=rfl
   conv at hf=>rhs;reduce
   rw[←hb0] at hf
   rw[hb0];clear hf hb0
   by_cases h:i<(els sp.pr).length
   ·have hia:=ia_preds h
    have hbo:=(ok.pd _ (List.getElem_mem h)).2
    obtain⟨r,hr⟩:=temporal_call sp (by omega) (s:=.tk (L.map PD.bool)) (L:=L) sfok_tk 400 (els sp.pr)[i].bo hbo.1 (by omega)
    have hr:=fun bx=>hr (.tsl 0 4 1 (L.map PD.bool)) ⟨bx,[(L.map PD.bool).length]⟩ ⟨0,rfl,rfl⟩
    have k1:=inc64 (k:=i) (by omega)
    have hap:=fun bx=>tk_app (e:=4) (sz:=1) (by':=1) (es:=L.map PD.bool) (x:=.bool r) (bx:=bx) (by rw[List.length_map];omega) (by omega)
    refine post_mono (Q:=nx [1,3,4] [(1,.box 0 0),(3,.tsl 0 4 1 (L.map PD.bool++[PD.bool r])),(4,.p (.int .i64 ((i+1 :Nat):Int)))] ⟨[sp.cl.map .p],[(L.map PD.bool).length+1]⟩) ?_ ?_
    ·generalize L.map PD.bool=M at *
     simp[-appendD,len_preds,h,hia,hr,hap,k1,callOne]
    ·intro o e H hh
     refine .inl ⟨(i+1,L++[r]),⟨by dsimp only;omega,by simp[hL]⟩,by dsimp only;omega,?_⟩
     simpa using hh
   ·have :i=(els sp.pr).length:=by omega
    subst this
    refine post_mono (Q:=fun o e H=>o= .exit 0∧e.get 3= .tsl 0 4 1 (L.map PD.bool)) ?_ ?_
    ·simp[len_preds]
    ·rintro o e H ⟨rfl,q⟩
     exact .inr ⟨by simp,rfl,L,q⟩) (0,[]) ⟨Nat.zero_le _,rfl⟩
 obtain⟨o,e,H,hx,rfl,L,h3⟩:=post_get key
 simp only[Int.natCast_zero,List.map_cons,List.map_nil,List.length_nil] at hx
 have hb0:bd a223 0=bd a223 0:=rfl
 conv at hb0=>rhs;reduce
 have hf:a223=a223:=rfl
 conv at hf=>rhs;reduce
 rw[←hb0] at hf
 refine⟨L,callP (aa:=[_]) hf rfl rfl rfl ?_⟩
 clear hf hb0
 simp[tokD,hx,h3,boolsP,ofL_p]
end Go.Proofs.YtgplgbonlnodeaaGreatDoor
namespace Go.Proofs.YtgplgbonlnodeaaGreatDoor
open Go.Vs
set_option maxRecDepth 100000
set_option maxHeartbeats 4000000
structure St1 where
 ar:Int
 b:Bt
def St1.p(s:St1):PD:=setP s.ar s.b
theorem ia_sets{L:List St1}{t k:Nat}(h:k<L.length):iaddrD none 65 (.tsl t 253 65 (L.map St1.p)) (k:Int)=some (.ro (setL (L[k]).ar (L[k]).b) 0):=by
 have:=iaddr_tsl (t:=t) (e:=253) (sz:=65) (es:=L.map St1.p) (k:=k) (by simpa using h)
 rw[this]
 simp[St1.p,pcells_agg]
def Sets(op n:Int)(L:List St1):Prop:=
 (op=2→1≤n∧n≤3)∧(op∈[5,11,12,13]→∃a l,L=a::l∧1≤a.ar∧a.ar≤3)∧
 (op∈[6,7,8,9,10,14,32,33]→∃a c l,L=a::c::l∧(1≤a.ar∧a.ar≤3)∧1≤c.ar∧c.ar≤3)∧op≠1∧op≠15
theorem apply_call(sp:Sp)(hs:(els sp.so).length<4611686018427387904)(op n pos:Int)(nm:List UInt8)(ks:PD)(hk:ks.one=true)(L:List St1)(hL:Sets op n L):
    ∃(ar:Int) (r:Bt) (ok:Bool),(∀d H,(SF.tk (L.map St1.p)).at 253 65 d H→callD (call pg) 287 [.p (.agg sp.cl),.p (.agg [.int .i64 op,.str nm,.int .i64 n,ks,.int .i64 pos]),d] H=some (.val (.tup [.p (setP ar r),.p (.bool ok)]),H))∧(ok=true→1≤op→op≤15→1≤ar∧ar≤3):=by
 obtain⟨l2,l1,lb,ln1,ln15⟩:=hL
 obtain⟨u1,hu1⟩:=all_call sp 1 (.inl rfl) hs
 obtain⟨u2,hu2⟩:=all_call sp 2 (.inr rfl) hs
 have hf:a287=a287:=rfl
 conv at hf=>rhs;reduce
 have hz65:z65=z65:=rfl
 conv at hz65=>rhs;reduce
 try rw[←hz65] at hf
 clear hz65
 have fin:∀(ar:Int) (r:Bt) (ok:Bool),(ok=true→1≤op→op≤15→1≤ar∧ar≤3)→post (givesT [.cell 6 (some 65),.t 7] (SF.tk (L.map St1.p)).k (.tup [.p (setP ar r),.p (.bool ok)])) (evS (call pg) pg.G iterX (((a287.map fun f=>f.body)).getD .skip) ⟨entry 0 [.p (.agg sp.cl),.p (.agg [.int .i64 op,.str nm,.int .i64 n,ks,.int .i64 pos]),.tsl 0 253 65 (L.map St1.p)],⟨[],[(L.map St1.p).length]⟩⟩)→
     ∃(ar:Int) (r:Bt) (ok:Bool),(∀d H,(SF.tk (L.map St1.p)).at 253 65 d H→callD (call pg) 287 [.p (.agg sp.cl),.p (.agg [.int .i64 op,.str nm,.int .i64 n,ks,.int .i64 pos]),d] H=some (.val (.tup [.p (setP ar r),.p (.bool ok)]),H))∧(ok=true→1≤op→op≤15→1≤ar∧ar≤3):=by
  intro ar r ok h1 h2
  rw[hf] at h2
  exact⟨ar,r,ok,callF (e:=253) (sz:=65) (pre:=[.agg sp.cl,.agg [.int .i64 op,.str nm,.int .i64 n,ks,.int .i64 pos]]) (suf:=[]) (s:=.tk (L.map St1.p)) (pln_t [_,_]) hf (fun _=>rfl) rfl rfl h2,h1⟩
 rw[hf] at fin
 clear hf
 simp only[Option.map_some,Option.getD_some] at fin
 by_cases h2:op=2
 ·subst h2
  have l2:=l2 rfl
  refine fin n Bt.e true (fun _ _ _=>l2) ?_
  simp[-splice,-fillD,z65_eq,set_take,set_splice,pures_p,set_onesT,set_fill,givesT,SF.k,hk]
 ·by_cases h3:op=3
  ·subst h3
   refine fin 1 u1 true (fun _ _ _=>by omega) ?_
   simp[-splice,-fillD,z65_eq,set_take,set_splice,pures_p,set_onesT,givesT,SF.k,hk,hu1]
  ·by_cases h4:op=4
   ·subst h4
    refine fin 2 u2 true (fun _ _ _=>by omega) ?_
    simp[-splice,-fillD,z65_eq,set_take,set_splice,pures_p,set_onesT,givesT,SF.k,hk,hu2]
   ·by_cases h5:op=5
    ·subst h5
     obtain⟨a,l,rfl,ha1,ha2⟩:=l1 (by simp)
     have i0:=ia_sets (L:=a::l) (t:=0) (k:=0) (by simp)
     simp only[Int.natCast_zero,List.getElem_cons_zero,List.map_cons] at i0
     refine fin a.ar a.b true (fun _ _ _=>⟨ha1,ha2⟩) ?_
     simp[-splice,-fillD,z65_eq,set_take,set_take',set_splice,pures_p,set_onesT,givesT,SF.k,hk,i0]
    ·by_cases h6:op=6
     ·subst h6
      obtain⟨a,c,l,rfl,⟨ha1,ha2⟩,hc1,hc2⟩:=lb (by simp)
      have i0:=ia_sets (L:=a::c::l) (t:=0) (k:=0) (by simp)
      have i1:=ia_sets (L:=a::c::l) (t:=0) (k:=1) (by simp)
      simp only[Int.natCast_zero,Int.natCast_one,List.getElem_cons_zero,List.getElem_cons_succ,List.map_cons] at i0 i1
      obtain⟨u,hu⟩:=union_call a.ar c.ar a.b c.b
      refine fin a.ar u (a.ar==c.ar) (fun _ _ _=>⟨ha1,ha2⟩) ?_
      simp[-splice,-fillD,z65_eq,set_take,set_take',set_splice,pures_p,set_onesT,givesT,SF.k,hk,i0,i1,hu]
     ·by_cases h14:op=14
      ·subst h14
       obtain⟨a,c,l,rfl,⟨ha1,ha2⟩,hc1,hc2⟩:=lb (by simp)
       have i0:=ia_sets (L:=a::c::l) (t:=0) (k:=0) (by simp)
       have i1:=ia_sets (L:=a::c::l) (t:=0) (k:=1) (by simp)
       simp only[Int.natCast_zero,Int.natCast_one,List.getElem_cons_zero,List.getElem_cons_succ,List.map_cons] at i0 i1
       obtain⟨u,hu⟩:=union_call a.ar c.ar a.b c.b
       refine fin a.ar u (a.ar==c.ar) (fun _ _ _=>⟨ha1,ha2⟩) ?_
       simp[-splice,-fillD,z65_eq,set_take,set_take',set_splice,pures_p,set_onesT,givesT,SF.k,hk,i0,i1,hu]
      ·by_cases h7:op=7
       ·subst h7
        obtain⟨a,c,l,rfl,⟨ha1,ha2⟩,hc1,hc2⟩:=lb (by simp)
        have i0:=ia_sets (L:=a::c::l) (t:=0) (k:=0) (by simp)
        have i1:=ia_sets (L:=a::c::l) (t:=0) (k:=1) (by simp)
        simp only[Int.natCast_zero,Int.natCast_one,List.getElem_cons_zero,List.getElem_cons_succ,List.map_cons] at i0 i1
        obtain⟨u,hu⟩:=inter_call a.ar c.ar a.b c.b
        refine fin a.ar u (a.ar==c.ar) (fun _ _ _=>⟨ha1,ha2⟩) ?_
        simp[-splice,-fillD,z65_eq,set_take,set_take',set_splice,pures_p,set_onesT,givesT,SF.k,hk,i0,i1,hu]
       ·by_cases h8:op=8
        ·subst h8
         obtain⟨a,c,l,rfl,⟨ha1,ha2⟩,hc1,hc2⟩:=lb (by simp)
         have i0:=ia_sets (L:=a::c::l) (t:=0) (k:=0) (by simp)
         have i1:=ia_sets (L:=a::c::l) (t:=0) (k:=1) (by simp)
         simp only[Int.natCast_zero,Int.natCast_one,List.getElem_cons_zero,List.getElem_cons_succ,List.map_cons] at i0 i1
         refine fin a.ar a.b (a.ar==c.ar) (fun _ _ _=>⟨ha1,ha2⟩) ?_
         simp[-splice,-fillD,z65_eq,set_take,set_take',set_splice,pures_p,set_onesT,givesT,SF.k,hk,i0,i1]
        ·by_cases h32:op=32
         ·subst h32
          obtain⟨a,c,l,rfl,⟨ha1,ha2⟩,hc1,hc2⟩:=lb (by simp)
          have i0:=ia_sets (L:=a::c::l) (t:=0) (k:=0) (by simp)
          have i1:=ia_sets (L:=a::c::l) (t:=0) (k:=1) (by simp)
          simp only[Int.natCast_zero,Int.natCast_one,List.getElem_cons_zero,List.getElem_cons_succ,List.map_cons] at i0 i1
          refine fin 0 Bt.e (a.ar==c.ar) (fun _ _ h=>by omega) ?_
          simp[-splice,-fillD,z65_eq,set_take,set_splice,pures_p,set_onesT,fill0,givesT,SF.k,hk,i0,i1]
         ·by_cases h33:op=33
          ·subst h33
           obtain⟨a,c,l,rfl,⟨ha1,ha2⟩,hc1,hc2⟩:=lb (by simp)
           have i0:=ia_sets (L:=a::c::l) (t:=0) (k:=0) (by simp)
           have i1:=ia_sets (L:=a::c::l) (t:=0) (k:=1) (by simp)
           simp only[Int.natCast_zero,Int.natCast_one,List.getElem_cons_zero,List.getElem_cons_succ,List.map_cons] at i0 i1
           refine fin 0 Bt.e (a.ar==c.ar) (fun _ _ h=>by omega) ?_
           simp[-splice,-fillD,z65_eq,set_take,set_splice,pures_p,set_onesT,fill0,givesT,SF.k,hk,i0,i1]
          ·by_cases h9:op=9
           ·subst h9
            obtain⟨a,c,l,rfl,⟨ha1,ha2⟩,hc1,hc2⟩:=lb (by simp)
            have i0:=ia_sets (L:=a::c::l) (t:=0) (k:=0) (by simp)
            have i1:=ia_sets (L:=a::c::l) (t:=0) (k:=1) (by simp)
            simp only[Int.natCast_zero,Int.natCast_one,List.getElem_cons_zero,List.getElem_cons_succ,List.map_cons] at i0 i1
            obtain⟨u,hu⟩:=join_call a.ar c.ar a.b c.b hc1
            have w:IntKind.i64.wrap (IntKind.i64.wrap (a.ar+c.ar)-2)=a.ar+c.ar-2:=by rw[wrap64 (n:=a.ar+c.ar) (by omega) (by omega),wrap64 (by omega) (by omega)]
            rw[w] at hu
            by_cases g:1≤a.ar+c.ar-2
            ·refine fin (a.ar+c.ar-2) u (decide (a.ar+c.ar-2≤3)) (fun h _ _=>by simp at h;omega) ?_
             simp[-splice,-fillD,z65_eq,set_take,set_take',set_splice,pures_p,set_onesT,givesT,SF.k,hk,i0,i1,hu,w,g]
            ·refine fin (a.ar+c.ar-2) u false (fun h=>by cases h) ?_
             simp[-splice,-fillD,z65_eq,set_take,set_take',set_splice,pures_p,set_onesT,givesT,SF.k,hk,i0,i1,hu,w,g]
           ·by_cases h10:op=10
            ·subst h10
             obtain⟨a,c,l,rfl,⟨ha1,ha2⟩,hc1,hc2⟩:=lb (by simp)
             have i0:=ia_sets (L:=a::c::l) (t:=0) (k:=0) (by simp)
             have i1:=ia_sets (L:=a::c::l) (t:=0) (k:=1) (by simp)
             simp only[Int.natCast_zero,Int.natCast_one,List.getElem_cons_zero,List.getElem_cons_succ,List.map_cons] at i0 i1
             obtain⟨u,hu⟩:=product_call a.ar c.ar a.b c.b
             have w:IntKind.i64.wrap (a.ar+c.ar)=a.ar+c.ar:=wrap64 (by omega) (by omega)
             rw[w] at hu
             refine fin (a.ar+c.ar) u (decide (a.ar+c.ar≤3)) (fun h _ _=>by simp at h;omega) ?_
             simp[-splice,-fillD,z65_eq,set_take,set_take',set_splice,pures_p,set_onesT,givesT,SF.k,hk,i0,i1,hu,w]
            ·by_cases h11:op=11
             ·subst h11
              obtain⟨a,l,rfl,ha1,ha2⟩:=l1 (by simp)
              have i0:=ia_sets (L:=a::l) (t:=0) (k:=0) (by simp)
              simp only[Int.natCast_zero,List.getElem_cons_zero,List.map_cons] at i0
              obtain⟨u,hu⟩:=transpose_call a.ar a.b
              refine fin 2 u (a.ar==2) (fun _ _ _=>by omega) ?_
              simp[-splice,-fillD,z65_eq,set_take,set_take',set_splice,pures_p,set_onesT,givesT,SF.k,hk,i0,hu]
             ·by_cases h12:op=12
              ·subst h12
               obtain⟨a,l,rfl,ha1,ha2⟩:=l1 (by simp)
               have i0:=ia_sets (L:=a::l) (t:=0) (k:=0) (by simp)
               simp only[Int.natCast_zero,List.getElem_cons_zero,List.map_cons] at i0
               obtain⟨u,hu⟩:=closure_call a.ar a.b ha1
               refine fin a.ar u (a.ar==2) (fun _ _ _=>⟨ha1,ha2⟩) ?_
               simp[-splice,-fillD,z65_eq,set_take,set_take',set_splice,pures_p,set_onesT,givesT,SF.k,hk,i0,hu]
              ·by_cases h13:op=13
               ·subst h13
                obtain⟨a,l,rfl,ha1,ha2⟩:=l1 (by simp)
                have i0:=ia_sets (L:=a::l) (t:=0) (k:=0) (by simp)
                simp only[Int.natCast_zero,List.getElem_cons_zero,List.map_cons] at i0
                obtain⟨u,hu⟩:=closure_call a.ar a.b ha1
                obtain⟨v,hv⟩:=union_call a.ar 2 u u2
                refine fin a.ar v (a.ar==2) (fun _ _ _=>⟨ha1,ha2⟩) ?_
                simp[-splice,-fillD,z65_eq,set_take,set_take',set_splice,pures_p,set_onesT,givesT,SF.k,hk,i0,hu,hu2,hv]
               ·refine fin 0 Bt.e true (fun _ _ h=>by omega) ?_
                simp[-splice,-fillD,z65_eq,set_take,set_splice,pures_p,set_onesT,fill0,givesT,SF.k,hk,h2,h3,h4,h5,h6,h14,h7,h8,h32,h33,h9,h10,h11,h12,h13]
end Go.Proofs.YtgplgbonlnodeaaGreatDoor
namespace Go.Proofs.YtgplgbonlnodeaaGreatDoor
open Go.Vs
set_option maxRecDepth 100000
set_option maxHeartbeats 4000000
structure Vr where
 nm:List UInt8
 b:Bt
def varL(v:Vr):List PD:=.str v.nm::setL 1 v.b
def Vr.p(v:Vr):PD:=.agg (varL v)
@[simp] theorem var_len(v:Vr):(varL v).length=66:=by simp[varL]
@[simp] theorem var_nm(v:Vr):(varL v)[0]? =some (.str v.nm):=rfl
@[simp] theorem var_nm'(v:Vr)(h:0<(varL v).length):(varL v)[0]'h= .str v.nm:=rfl
theorem var_set(v:Vr):List.drop 1 (List.take 66 (varL v))=setL 1 v.b:=by
 rw[List.take_of_length_le (by simp)];rfl
theorem var_tail(v:Vr):(varL v).tail=setL 1 v.b:=rfl
theorem var_take(v:Vr):List.take 66 (varL v)=varL v:=List.take_of_length_le (by simp)
abbrev vP(sp:Sp)(T:Sl Bool)(calls:Nat)(ins:Bool):PD:=.agg [sortsP sp.so,fieldsP sp.fi,predsP sp.pr,factsP sp.fa,boolsP T,.int .i64 calls,.bool ins]
theorem ia_env{s:SF}{L:List Vr}(hs:SFOk 361 66 s (L.map Vr.p)){k:Nat}(h:k<L.length)(t:Nat):iaddrD none 66 (s.d 361 66 t) (k:Int)=some (.ro (varL L[k]) 0):=by
 have:=hs.ia t k (by simpa using h)
 rw[this]
 simp[Vr.p,pcells_agg]
def ExSpec(sp:Sp)(f:Nat)(a:Nd)(rel:Prop):Prop:=
 ∀(T:Sl Bool) (calls:Nat) (ins:Bool) (s:SF) (L:List Vr),SFOk 361 66 s (L.map Vr.p)→L.length+a.size≤1000→
  ∃(ar:Int) (r:Bt) (er pos:Int),(∀d H,s.at 361 66 d H→callD (call pg) f [.p (vP sp T calls ins),d,.p (.agg a.cl)] H=some (.val (.tup [.p (setP ar r),.p (.agg [.int .i64 er,.int .i64 pos])]),H))∧
   (er=0→rel→1≤ar∧ar≤3)
theorem nameR_call(sp:Sp)(ok:SpOk sp)(hn:NmOk sp)(a:Nd):ExSpec sp 284 a True:=by
 intro T calls ins s L hs hb
 obtain⟨ar,r,k,hk,hkk⟩:=named_call sp ok hn a.nm
 have hlen:=hs.len 0
 rw[List.length_map] at hlen
 have key:=loopW (c:=call pg) (G:=pg.G) (keep:=[1,3,5,6,7,8]) (b:=bd a284 0) (σ:=Nat) (fun i=>[(1,s.d 361 66 0),(3,.box 0 0),(5,.box 1 0),(6,.box 2 0),(7,.box 3 0),(8,.p (.int .i64 ((i:Int)-1)))])
  (fun _=>⟨[[.p (sortsP sp.so),.p (fieldsP sp.fi),.p (predsP sp.pr),.p (factsP sp.fa),.p (boolsP T),.p (.int .i64 ((calls:Nat):Int)),.p (.bool ins)],a.cl.map .p,(setL 0 Bt.e).map .p,[.p (.int .i64 (0)),.p (.int .i64 (0))]],s.k⟩) (fun i=>i) (fun i=>i≤L.length)
  (fun o e H=>(o= .exit 0∧e.get 5= .box 1 0∧e.get 3= .box 0 0∧e.get 6= .box 2 0∧e.get 7= .box 3 0∧H=⟨[[.p (sortsP sp.so),.p (fieldsP sp.fi),.p (predsP sp.pr),.p (factsP sp.fa),.p (boolsP T),.p (.int .i64 ((calls:Nat):Int)),.p (.bool ins)],a.cl.map .p,(setL 0 Bt.e).map .p,[.p (.int .i64 (0)),.p (.int .i64 (0))]],s.k⟩)∨
   (o= .ret∧e.get 6= .box 2 0∧e.get 7= .box 3 0∧∃u:Bt,H=⟨[[.p (sortsP sp.so),.p (fieldsP sp.fi),.p (predsP sp.pr),.p (factsP sp.fa),.p (boolsP T),.p (.int .i64 ((calls:Nat):Int)),.p (.bool ins)],a.cl.map .p,(setL 1 u).map .p,[.p (.int .i64 (0)),.p (.int .i64 (0))]],s.k⟩))
  (by
   intro i hi
   have hb0:bd a284 0=bd a284 0:=rfl
   conv at hb0=>rhs;reduce
   have hf:a284=a284:=rfl
   conv at hf=>rhs;reduce
   rw[←hb0] at hf
   have hz65:z65=z65:=rfl
   conv at hz65=>rhs;reduce
   try rw[←hz65] at hf
   try rw[←hz65] at hb0
   clear hz65
   rw[hb0];clear hf hb0
   cases i with
   |zero=>
    clear hs hk
    refine post_mono (Q:=fun o e H=>o= .exit 0∧e.get 5= .box 1 0∧e.get 3= .box 0 0∧e.get 6= .box 2 0∧e.get 7= .box 3 0∧H=⟨[[.p (sortsP sp.so),.p (fieldsP sp.fi),.p (predsP sp.pr),.p (factsP sp.fa),.p (boolsP T),.p (.int .i64 ((calls:Nat):Int)),.p (.bool ins)],a.cl.map .p,(setL 0 Bt.e).map .p,[.p (.int .i64 (0)),.p (.int .i64 (0))]],s.k⟩) ?_ fun o e H h=>.inr ⟨by obtain⟨rfl,-⟩:=h;simp,.inl h⟩
    cases s<;>(simp only[SF.d,SF.k] at *;simp[-splice,-fillD])
   |succ j=>
    have hj:j<L.length:=hi
    have hia:=ia_env hs hj 0
    have w0:((j+1 :Nat):Int)-1=(j:Int):=by omega
    have w1:IntKind.i64.wrap ((j:Int)-1)=(j:Int)-1:=wrap64 (by omega) (by omega)
    rw[w0]
    clear hs hk
    generalize L[j]=v at *
    by_cases hc:v.nm=a.nm
    ·refine post_mono (Q:=fun o e H=>o= .ret∧e.get 6= .box 2 0∧e.get 7= .box 3 0∧H=⟨[[.p (sortsP sp.so),.p (fieldsP sp.fi),.p (predsP sp.pr),.p (factsP sp.fa),.p (boolsP T),.p (.int .i64 ((calls:Nat):Int)),.p (.bool ins)],a.cl.map .p,(setL 1 v.b).map .p,[.p (.int .i64 (0)),.p (.int .i64 (0))]],s.k⟩) ?_ ?_
     ·cases s<;>(simp only[SF.d,SF.k] at *;simp[-splice,-fillD,set_splice,splice2,set_onesT,fill0,hia,hc,var_tail,var_take])
     ·rintro o e H ⟨rfl,q1,q2,rfl⟩
      exact .inr ⟨by simp,.inr ⟨rfl,q1,q2,v.b,rfl⟩⟩
    ·refine post_mono (Q:=nx [1,3,5,6,7,8] [(1,s.d 361 66 0),(3,.box 0 0),(5,.box 1 0),(6,.box 2 0),(7,.box 3 0),(8,.p (.int .i64 ((j:Int)-1)))] ⟨[[.p (sortsP sp.so),.p (fieldsP sp.fi),.p (predsP sp.pr),.p (factsP sp.fa),.p (boolsP T),.p (.int .i64 ((calls:Nat):Int)),.p (.bool ins)],a.cl.map .p,(setL 0 Bt.e).map .p,[.p (.int .i64 (0)),.p (.int .i64 (0))]],s.k⟩) ?_ fun o e H h=>.inl ⟨j,by omega,by omega,h⟩
     cases s<;>(simp only[SF.d,SF.k] at *;simp[-splice,-fillD,hia,hc,w1])) L.length (Nat.le_refl _)
 obtain⟨o,e,H,hx,hq⟩:=post_get key
 have hw:IntKind.i64.wrap ((L.length:Int)-1)=(L.length:Int)-1:=wrap64 (by omega) (by omega)
 have fin:∀(ar:Int) (r:Bt) (er pos:Int),(er=0→1≤ar∧ar≤3)→post (givesT [.cell 6 (some 65),.cell 7 (some 2)] s.k (.tup [.p (setP ar r),.p (.agg [.int .i64 er,.int .i64 pos])])) (evS (call pg) pg.G iterX ((a284.map fun f=>f.body).getD .skip) ⟨entry 0 ([vP sp T calls ins].map .p++s.d 361 66 0::[PD.agg a.cl].map .p),⟨[],s.k⟩⟩)→
     ∃(ar:Int) (r:Bt) (er pos:Int),(∀d H,s.at 361 66 d H→callD (call pg) 284 [.p (vP sp T calls ins),d,.p (.agg a.cl)] H=some (.val (.tup [.p (setP ar r),.p (.agg [.int .i64 er,.int .i64 pos])]),H))∧(er=0→True→1≤ar∧ar≤3):=by
  intro ar r er pos h1 hr
  have hb0:bd a284 0=bd a284 0:=rfl
  conv at hb0=>rhs;reduce
  have hf:a284=a284:=rfl
  conv at hf=>rhs;reduce
  rw[←hb0] at hf
  rw[hf] at hr
  exact⟨ar,r,er,pos,callF (e:=361) (sz:=66) (pre:=[vP sp T calls ins]) (suf:=[.agg a.cl]) (s:=s) (pln_t [_,_]) hf (fun _=>by cases s<;>rfl) (by cases s<;>rfl) rfl hr,fun h _=>h1 h⟩
 have hb0:bd a284 0=bd a284 0:=rfl
 conv at hb0=>rhs;reduce
 have hf:a284=a284:=rfl
 conv at hf=>rhs;reduce
 rw[←hb0] at hf
 have hz65:z65=z65:=rfl
 conv at hz65=>rhs;reduce
 try rw[←hz65] at hf
 try rw[←hz65] at hb0
 clear hz65
 rw[hf] at fin
 simp only[Option.map_some,Option.getD_some] at fin
 clear hf hb0
 clear hs key
 simp at hx
 rcases hq with⟨rfl,q5,q3,q6,q7,rfl⟩ |⟨rfl,q6,q7,u,rfl⟩
 ·by_cases k0:k=0
  ·refine fin 0 Bt.e 40 a.pos (fun h=>by omega) ?_
   clear fin
   cases s<;>(simp only[SF.d,SF.k] at *;simp[-splice,-fillD,z65_eq,set_take,set_splice,splice2,pures_p,set_onesT,fill0,fill2,givesT,hlen,hw,hx,q5,q3,q6,q7,hk,k0])
  ·by_cases k1:1<k
   ·refine fin 0 Bt.e 44 a.pos (fun h=>by omega) ?_
    clear fin
    have k2:(1 :Int)<(k:Int):=by omega
    cases s<;>(simp only[SF.d,SF.k] at *;simp[-splice,-fillD,z65_eq,set_take,set_splice,splice2,pures_p,set_onesT,fill0,fill2,givesT,hlen,hw,hx,q5,q3,q6,q7,hk,k0,k2])
   ·refine fin ar r 0 0 (fun _=>hkk (by omega)) ?_
    clear fin
    have k2:¬(1 :Int)<(k:Int):=by omega
    cases s<;>(simp only[SF.d,SF.k] at *;simp[-splice,-fillD,z65_eq,set_take,set_splice,splice2,pures_p,set_onesT,fill0,givesT,hlen,hw,hx,q5,q3,q6,q7,hk,k0,k2])
 ·refine fin 1 u 0 0 (fun _=>by omega) ?_
  clear fin
  cases s<;>(simp only[SF.d,SF.k] at *;simp[-splice,-fillD,z65_eq,set_take,pures_p,set_onesT,givesT,hlen,hw,hx,q6,q7])
end Go.Proofs.YtgplgbonlnodeaaGreatDoor
namespace Go.Proofs.YtgplgbonlnodeaaGreatDoor
open Go.Vs
set_option maxRecDepth 100000
set_option maxHeartbeats 4000000
abbrev vB(sp:Sp)(T:Sl Bool)(calls:Nat)(ins:Bool):List D:=[.p (sortsP sp.so),.p (fieldsP sp.fi),.p (predsP sp.pr),.p (factsP sp.fa),.p (boolsP T),.p (.int .i64 ((calls:Nat):Int)),.p (.bool ins)]
theorem callR_inner(sp:Sp)(a:Nd)(T:Sl Bool)(calls:Nat)(ps:Sl Pm)(d0:D)(k0:List Nat)(i:Nat)(hi:i<(els ps).length)(ar er pos:Int)(r:Bt):
    post (fun o e H=>e.get 6= .box 2 0∧((o= .exit 2∧e.get 1=d0∧e.get 3= .box 0 0∧e.get 5= .box 1 0∧e.get 8= .p (paramsP ps)∧e.get 9= .p (.int .i64 ((i:Nat):Int))∧H=⟨[vB sp T calls true,a.cl.map .p,[.p (.int .i64 (0)),.p (.int .i64 (0))],(setL ar r).map .p,[.p (.int .i64 (er)),.p (.int .i64 (pos))]],k0⟩)∨(o= .ret∧H=⟨[vB sp T calls true,a.cl.map .p,[.p (.int .i64 (43)),.p (.int .i64 (a.pos))],(setL ar r).map .p,[.p (.int .i64 (er)),.p (.int .i64 (pos))]],k0⟩)))
     (loopK (call pg) pg.G [1,3,5,6,8,9,10,12] (bd a285 1) ⟨[(1,d0),(3,.box 0 0),(5,.box 1 0),(6,.box 2 0),(8,.p (paramsP ps)),(9,.p (.int .i64 ((i:Nat):Int))),(10,.box 3 0),(12,.p (.int .i64 (0)))],⟨[vB sp T calls true,a.cl.map .p,[.p (.int .i64 (0)),.p (.int .i64 (0))],(setL ar r).map .p,[.p (.int .i64 (er)),.p (.int .i64 (pos))]],k0⟩⟩):=by
 refine loopN (c:=call pg) (G:=pg.G) (keep:=[1,3,5,6,8,9,10,12]) (b:=bd a285 1) (fun k=>[(1,d0),(3,.box 0 0),(5,.box 1 0),(6,.box 2 0),(8,.p (paramsP ps)),(9,.p (.int .i64 ((i:Nat):Int))),(10,.box 3 0),(12,.p (.int .i64 ((k:Nat):Int)))]) (fun _=>⟨[vB sp T calls true,a.cl.map .p,[.p (.int .i64 (0)),.p (.int .i64 (0))],(setL ar r).map .p,[.p (.int .i64 (er)),.p (.int .i64 (pos))]],k0⟩) 4 (fun _=>True) _ trivial ?_ ?_
 ·intro k hk _
  have hb1:bd a285 1=bd a285 1:=rfl
  conv at hb1=>rhs;reduce
  have hb0:bd a285 0=bd a285 0:=rfl
  conv at hb0=>rhs;reduce
  rw[←hb1] at hb0
  have hf:a285=a285:=rfl
  conv at hf=>rhs;reduce
  rw[←hb1] at hf
  rw[←hb0] at hf
  rw[hb1];clear hf hb0 hb1
  have h1:(k:Int)<4:=by omega
  have h2:(k:Int)<64:=by omega
  have g1:=set_bit (a:=ar) (b:=r) (k:=k) (by omega)
  have hia:=ia_params hi
  have k1:=inc64 (k:=k) (by omega)
  generalize (els ps)[i]=q at *
  cases hb:r.g k with
  |false=>
   rw[hb] at g1
   simp[-splice,-fillD,iaddr_box,h1,h2,g1,k1]
  |true=>
   rw[hb] at g1
   by_cases hc:(k:Int)=q.so
   ·rw[←hc] at hia
    simp[-splice,-fillD,iaddr_box,h1,h2,g1,hia,k1]
   ·simp[-splice,-fillD,splice2,fill2,iaddr_box,h1,h2,g1,hia,hc]
 ·intro _
  have hb1:bd a285 1=bd a285 1:=rfl
  conv at hb1=>rhs;reduce
  have hb0:bd a285 0=bd a285 0:=rfl
  conv at hb0=>rhs;reduce
  rw[←hb1] at hb0
  have hf:a285=a285:=rfl
  conv at hf=>rhs;reduce
  rw[←hb1] at hf
  rw[←hb0] at hf
  rw[hb1];clear hf hb0 hb1
  simp[-splice,-fillD]
theorem callR_call(sp:Sp)(ok:SpOk sp)(a:Nd)(hs4:a.size≤400)(ih:∀k∈a.ks,ExSpec sp 222 k (1≤k.op∧k.op≤15)):
    ∀(T:Sl Bool) (calls:Nat) (ins:Bool) (s:SF) (L:List Vr),SFOk 361 66 s (L.map Vr.p)→L.length+a.size≤1000→
    ∃(er pos:Int),∀d H,s.at 361 66 d H→callD (call pg) 285 [.p (vP sp T calls ins),d,.p (.agg a.cl)] H=some (.val (.p (.agg [.int .i64 er,.int .i64 pos])),H):=by
 intro T calls ins s L hs hb
 have hpl:(els sp.pr).length<4611686018427387904:=by have:=ok.np;omega
 obtain⟨p1,c1,d1⟩:=pred_call sp hpl calls a.nm
 obtain⟨p2,c2,d2⟩:=pred_call sp hpl (els sp.pr).length a.nm
 have fin:∀(er pos:Int),post (givesT [.cell 6 (some 2)] s.k (.p (.agg [.int .i64 er,.int .i64 pos]))) (evS (call pg) pg.G iterX ((a285.map fun f=>f.body).getD .skip) ⟨entry 0 ([vP sp T calls ins].map .p++s.d 361 66 0::[PD.agg a.cl].map .p),⟨[],s.k⟩⟩)→
     ∃(er pos:Int),∀d H,s.at 361 66 d H→callD (call pg) 285 [.p (vP sp T calls ins),d,.p (.agg a.cl)] H=some (.val (.p (.agg [.int .i64 er,.int .i64 pos])),H):=by
  intro er pos hr
  have hb1:bd a285 1=bd a285 1:=rfl
  conv at hb1=>rhs;reduce
  have hb0:bd a285 0=bd a285 0:=rfl
  conv at hb0=>rhs;reduce
  rw[←hb1] at hb0
  have hf:a285=a285:=rfl
  conv at hf=>rhs;reduce
  rw[←hb1] at hf
  rw[←hb0] at hf
  rw[hf] at hr
  exact⟨er,pos,callF (e:=361) (sz:=66) (pre:=[vP sp T calls ins]) (suf:=[.agg a.cl]) (s:=s) (pln_p _) hf (fun _=>by cases s<;>rfl) (by cases s<;>rfl) rfl hr⟩
 have hks:a.ks.length≤400:=by
  have:=len_sizeL a.ks
  have:=size_eq a
  omega
 by_cases g1:p1<0
 ·skip
  have hb1:bd a285 1=bd a285 1:=rfl
  conv at hb1=>rhs;reduce
  have hb0:bd a285 0=bd a285 0:=rfl
  conv at hb0=>rhs;reduce
  rw[←hb1] at hb0
  have hf:a285=a285:=rfl
  conv at hf=>rhs;reduce
  rw[←hb1] at hf
  rw[←hb0] at hf
  have hz65:z65=z65:=rfl
  conv at hz65=>rhs;reduce
  try rw[←hz65] at hf
  try rw[←hz65] at hb0
  try rw[←hz65] at hb1
  clear hz65
  rw[hf] at fin
  simp only[Option.map_some,Option.getD_some] at fin
  clear hf hb0 hb1
  clear hs ih
  by_cases g2:p2<0
  ·refine fin 40 a.pos ?_
   clear fin
   cases s<;>(simp only[SF.d,SF.k] at *;simp[-splice,-fillD,splice2,fill2,givesT,c1,c2,g1,g2,len_preds])
  ·refine fin 45 a.pos ?_
   clear fin
   cases s<;>(simp only[SF.d,SF.k] at *;simp[-splice,-fillD,splice2,fill2,givesT,c1,c2,g1,g2,len_preds])
 ·obtain⟨p,rfl,hp,-⟩:=d1 (by omega)
  have hia:=ia_preds hp
  have hpm:=(ok.pd _ (List.getElem_mem hp)).1.1
  generalize (els sp.pr)[p]=q at *
  by_cases g3:a.ks.length=(els q.ps).length
  ·have key:=loopN (c:=call pg) (G:=pg.G) (keep:=[1,3,5,6,8,9]) (b:=bd a285 0) (fun i=>[(1,s.d 361 66 0),(3,.box 0 0),(5,.box 1 0),(6,.box 2 0),(8,.p (paramsP q.ps)),(9,.p (.int .i64 ((i:Nat):Int)))]) (fun _=>⟨[vB sp T calls true,a.cl.map .p,[.p (.int .i64 (0)),.p (.int .i64 (0))]],s.k⟩) (els q.ps).length (fun _=>True)
    (fun o e H=>e.get 6= .box 2 0∧((o= .exit 0∧H=⟨[vB sp T calls true,a.cl.map .p,[.p (.int .i64 (0)),.p (.int .i64 (0))]],s.k⟩)∨(o= .ret∧∃er pos:Int,H=⟨[vB sp T calls true,a.cl.map .p,[.p (.int .i64 (er)),.p (.int .i64 (pos))]],s.k⟩))) trivial
    (fun i hi _=>by
     have hi2:i<a.ks.length:=by omega
     have hkid:=size_kid (List.getElem_mem hi2)
     obtain⟨ar,r,er,pos,he,-⟩:=ih _ (List.getElem_mem hi2) T calls true s L hs (by omega)
     have he:=fun bx=>he (s.d 361 66 0) ⟨bx,s.k⟩ (at_self 361 66 s bx)
     have hia2:=ia_kids hi2
     have k1:=inc64 (k:=i) (by omega)
     have hin:=callR_inner sp a T calls q.ps (s.d 361 66 0) s.k i hi ar 0 pos r
     clear hs ih c1 c2 d1 d2 hia
     generalize a.ks[i]=kk at *
     have hb1:bd a285 1=bd a285 1:=rfl
     conv at hb1=>rhs;reduce
     have hb0:bd a285 0=bd a285 0:=rfl
     conv at hb0=>rhs;reduce
     rw[←hb1] at hb0
     have hf:a285=a285:=rfl
     conv at hf=>rhs;reduce
     rw[←hb1] at hf
     rw[←hb0] at hf
     have hz65:z65=z65:=rfl
     conv at hz65=>rhs;reduce
     try rw[←hz65] at hf
     try rw[←hz65] at hb0
     try rw[←hz65] at hb1
     clear hz65
     rw[hb0];clear hf hb0 hb1
     by_cases e0:er=0
     ·subst e0
      by_cases e1:ar=1
      ·subst e1
       obtain⟨o,e,H,hx,h6,hq⟩:=post_get hin
       simp at hx
       rcases hq with⟨rfl,q1,q3,q5,q8,q9,rfl⟩ |⟨rfl,rfl⟩
       ·cases s<;>(simp only[SF.d,SF.k] at *;simp[-splice,-fillD,z65_eq,set_splice,splice2,set_onesT,len_params,hi,hia2,he,k1,callOne,hx,h6,q1,q3,q5,q8,q9])
       ·refine post_mono (Q:=fun o e H=>o= .ret∧e.get 6= .box 2 0∧H=⟨[vB sp T calls true,a.cl.map .p,[.p (.int .i64 (43)),.p (.int .i64 (a.pos))]],s.k⟩) ?_ ?_
        ·cases s<;>(simp only[SF.d,SF.k] at *;simp[-splice,-fillD,z65_eq,set_splice,splice2,set_onesT,len_params,hi,hia2,he,callOne,hx,h6])
        ·rintro o e H ⟨rfl,q,rfl⟩
         exact .inr ⟨by simp,q,.inr ⟨rfl,_,_,rfl⟩⟩
      ·refine post_mono (Q:=fun o e H=>o= .ret∧e.get 6= .box 2 0∧H=⟨[vB sp T calls true,a.cl.map .p,[.p (.int .i64 (42)),.p (.int .i64 (a.pos))]],s.k⟩) ?_ ?_
       ·clear hin
        cases s<;>(simp only[SF.d,SF.k] at *;simp[-splice,-fillD,z65_eq,set_splice,splice2,set_onesT,fill2,len_params,hi,hia2,he,callOne,e1])
       ·rintro o e H ⟨rfl,q,rfl⟩
        exact .inr ⟨by simp,q,.inr ⟨rfl,_,_,rfl⟩⟩
     ·refine post_mono (Q:=fun o e H=>o= .ret∧e.get 6= .box 2 0∧H=⟨[vB sp T calls true,a.cl.map .p,[.p (.int .i64 (er)),.p (.int .i64 (pos))]],s.k⟩) ?_ ?_
      ·clear hin
       cases s<;>(simp only[SF.d,SF.k] at *;simp[-splice,-fillD,z65_eq,set_splice,splice2,set_onesT,len_params,hi,hia2,he,callOne,e0])
      ·rintro o e H ⟨rfl,q,rfl⟩
       exact .inr ⟨by simp,q,.inr ⟨rfl,_,_,rfl⟩⟩)
    (fun _=>by
     have hb1:bd a285 1=bd a285 1:=rfl
     conv at hb1=>rhs;reduce
     have hb0:bd a285 0=bd a285 0:=rfl
     conv at hb0=>rhs;reduce
     rw[←hb1] at hb0
     have hf:a285=a285:=rfl
     conv at hf=>rhs;reduce
     rw[←hb1] at hf
     rw[←hb0] at hf
     have hz65:z65=z65:=rfl
     conv at hz65=>rhs;reduce
     try rw[←hz65] at hf
     try rw[←hz65] at hb0
     try rw[←hz65] at hb1
     clear hz65
     rw[hb0];clear hf hb0 hb1
     clear hs ih
     cases s<;>(simp only[SF.d,SF.k] at *;simp[-splice,-fillD,z65_eq,len_params]))
   obtain⟨o,e,H,hx,h6,hq⟩:=post_get key
   simp at hx
   have hb1:bd a285 1=bd a285 1:=rfl
   conv at hb1=>rhs;reduce
   have hb0:bd a285 0=bd a285 0:=rfl
   conv at hb0=>rhs;reduce
   rw[←hb1] at hb0
   have hf:a285=a285:=rfl
   conv at hf=>rhs;reduce
   rw[←hb1] at hf
   rw[←hb0] at hf
   have hz65:z65=z65:=rfl
   conv at hz65=>rhs;reduce
   try rw[←hz65] at hf
   try rw[←hz65] at hb0
   try rw[←hz65] at hb1
   clear hz65
   rw[hf] at fin
   simp only[Option.map_some,Option.getD_some] at fin
   clear hf hb0 hb1
   clear hs ih key
   rcases hq with⟨rfl,rfl⟩ |⟨rfl,er,pos,rfl⟩
   ·refine fin 0 0 ?_
    clear fin
    cases s<;>(simp only[SF.d,SF.k] at *;simp[-splice,-fillD,splice2,splice7,fill0,givesT,c1,len_params,len_kids,hia,g1,g3,hx,h6])
   ·refine fin er pos ?_
    clear fin
    cases s<;>(simp only[SF.d,SF.k] at *;simp[-splice,-fillD,splice7,givesT,c1,len_params,len_kids,hia,g1,g3,hx,h6])
  ·skip
   have hb1:bd a285 1=bd a285 1:=rfl
   conv at hb1=>rhs;reduce
   have hb0:bd a285 0=bd a285 0:=rfl
   conv at hb0=>rhs;reduce
   rw[←hb1] at hb0
   have hf:a285=a285:=rfl
   conv at hf=>rhs;reduce
   rw[←hb1] at hf
   rw[←hb0] at hf
   have hz65:z65=z65:=rfl
   conv at hz65=>rhs;reduce
   try rw[←hz65] at hf
   try rw[←hz65] at hb0
   try rw[←hz65] at hb1
   clear hz65
   rw[hf] at fin
   simp only[Option.map_some,Option.getD_some] at fin
   clear hf hb0 hb1
   clear hs ih
   refine fin 45 a.pos ?_
   clear fin
   cases s<;>(simp only[SF.d,SF.k] at *;simp[-splice,-fillD,splice2,fill2,givesT,c1,len_params,len_kids,hia,g1,g3])
end Go.Proofs.YtgplgbonlnodeaaGreatDoor
namespace Go.Proofs.YtgplgbonlnodeaaGreatDoor
open Go.Vs
set_option maxRecDepth 100000
set_option maxHeartbeats 4000000
theorem z66_len:z66.length=66:=by simp[z66]
theorem z66_ones:∀x∈z66,x.one=true:=by
 intro x hx
 simp only[z66,List.mem_cons] at hx
 rcases hx with rfl |rfl |hx
 ·rfl
 ·rfl
 ·obtain⟨y,-,rfl⟩:=List.mem_map.1 hx;rfl
theorem z66_onesT:(∀x∈z66,x.one=true)=True:=eq_true z66_ones
theorem var_ones(v:Vr):∀x∈varL v,x.one=true:=by
 intro x hx
 simp only[varL,List.mem_cons] at hx
 rcases hx with rfl |hx
 ·rfl
 ·exact set_ones _ _ x hx
theorem var_onesT(v:Vr):(∀x∈varL v,x.one=true)=True:=eq_true (var_ones v)
theorem var_fill(nm:List UInt8)(b:Bt):fillD (z66.map D.p) [(0,1,.p (.str nm)),(1,65,.p (.agg (setL 1 b)))]=some ((varL ⟨nm,b⟩).map D.p):=by
 have h:z66= .str []::setL 0 Bt.e:=rfl
 rw[h]
 simp only[fillD,List.map_cons]
 have h2:(D.p (PD.agg (setL 1 b))).cells=(setL 1 b).map D.p:=by simp[D.cells]
 have h1:(D.p (PD.str nm)).cells=[D.p (PD.str nm)]:=rfl
 have h3:((setL 1 b).map D.p).length=65:=by simp
 have h4:((setL 1 b).map D.p).all D.one=true:=set_allone 1 b
 have h5:(PD.str nm).one=true:=rfl
 simp[h1,h2,h5,splice,varL,one_p,set_onesT,List.drop_eq_nil_of_le]
theorem src_fsl{e sz:Nat}{es:List PD}:srcD sz (.fsl e sz es)=some es:=by simp[srcD,D.elems?]
theorem src_tsl{t e sz:Nat}{es:List PD}:srcD sz (.tsl t e sz es)=some es:=by simp[srcD,D.elems?]
theorem room88{n:Nat}(h:n≤1001):roomy n 88=true:=by
 have :n*88≤1001*88:=Nat.mul_le_mul_right _ h
 simp only[roomy,Bool.and_eq_true,decide_eq_true_eq];omega
theorem binder_call(sp:Sp)(a k0 k1:Nd)(hks:a.ks=[k0,k1]){r0 r1:Prop}(ih0:ExSpec sp 222 k0 r0)(ih1:ExSpec sp 222 k1 r1):ExSpec sp 286 a True:=by
 intro T calls ins s L hs hb
 have hsz:a.size=1+(k0.size+(k1.size+0)):=by rw[size_eq,hks];rfl
 have i0:=ia_kids (a:=a) (k:=0) (by rw[hks];simp)
 have i1:=ia_kids (a:=a) (k:=1) (by rw[hks];simp)
 simp only[hks,List.getElem_cons_zero,List.getElem_cons_succ,Int.natCast_zero,Int.natCast_one] at i0 i1
 obtain⟨ins',hins⟩:∃ins',ins'=if a.op=15 then true else ins:=⟨_,rfl⟩
 obtain⟨ar,b,er,pos,he0,-⟩:=ih0 T calls ins' s L hs (by omega)
 have he0:=fun bx=>he0 (s.d 361 66 0) ⟨bx,s.k⟩ (at_self 361 66 s bx)
 obtain⟨ar1,b1,er1,pos1,he1,-⟩:=ih1 T calls ins' (.tk ((L++[Vr.mk a.nm b]).map Vr.p)) (L++[Vr.mk a.nm b]) sfok_tk (by simp;omega)
 simp only[List.map_append,List.map_cons,List.map_nil] at he1
 have hp:Vr.p ⟨a.nm,b⟩= .agg (varL ⟨a.nm,b⟩):=rfl
 rw[hp] at he1
 have hl:(L.map Vr.p).length≤1000:=by simp;omega
 have q0:=fun bx=>he1 (.tsl 0 361 66 (L.map Vr.p++[.agg (varL ⟨a.nm,b⟩)])) ⟨bx,[(L.map Vr.p).length+1]⟩ ⟨0,rfl,by simp⟩
 have q1:=fun bx=>he1 (.tsl 1 361 66 (L.map Vr.p++[.agg (varL ⟨a.nm,b⟩)])) ⟨bx,[(L.map Vr.p).length,(L.map Vr.p).length+1]⟩ ⟨1,rfl,by simp⟩
 have hsrc:=hs.src 0
 have v1:=room88 (n:=(L.map Vr.p).length) (by omega)
 have v2:=room88 (n:=(L.map Vr.p).length+1) (by omega)
 clear he1 hs hb ih0 ih1
 generalize L.map Vr.p=M at *
 have fin:∀(ar:Int) (r:Bt) (er pos:Int),(er=0→1≤ar∧ar≤3)→post (givesT [.cell 6 (some 65),.cell 7 (some 2)] s.k (.tup [.p (setP ar r),.p (.agg [.int .i64 er,.int .i64 pos])])) (evS (call pg) pg.G iterX ((a286.map fun f=>f.body).getD .skip) ⟨entry 0 ([vP sp T calls ins].map .p++s.d 361 66 0::[PD.agg a.cl].map .p),⟨[],s.k⟩⟩)→
     ∃(ar:Int) (r:Bt) (er pos:Int),(∀d H,s.at 361 66 d H→callD (call pg) 286 [.p (vP sp T calls ins),d,.p (.agg a.cl)] H=some (.val (.tup [.p (setP ar r),.p (.agg [.int .i64 er,.int .i64 pos])]),H))∧(er=0→True→1≤ar∧ar≤3):=by
  intro ar r er pos h1 hr
  have hf:a286=a286:=rfl
  conv at hf=>rhs;reduce
  rw[hf] at hr
  exact⟨ar,r,er,pos,callF (e:=361) (sz:=66) (pre:=[vP sp T calls ins]) (suf:=[.agg a.cl]) (s:=s) (pln_t [_,_]) hf (fun _=>by cases s<;>rfl) (by cases s<;>rfl) rfl hr,fun h _=>h1 h⟩
 have hf:a286=a286:=rfl
 conv at hf=>rhs;reduce
 have hz66:z66=z66:=rfl
 conv at hz66=>rhs;reduce
 try rw[←hz66] at hf
 clear hz66
 have hz65:z65=z65:=rfl
 conv at hz65=>rhs;reduce
 try rw[←hz65] at hf
 clear hz65
 rw[hf] at fin
 simp only[Option.map_some,Option.getD_some] at fin
 clear hf
 by_cases e0:er=0
 ·by_cases e1:ar=1
  ·subst e0 e1
   refine fin 1 b er1 pos1 (fun _=>by omega) ?_
   clear fin
   by_cases h15:a.op=15
   ·rw[if_pos h15] at hins
    subst hins
    cases s with
    |pl x=>simp only[SF.d,SF.k] at *;simp[-srcD,-splice,-fillD,z65_eq,set_take,set_splice,splice2,splice7,pures_p,set_onesT,givesT,h15,he0,i0,i1,hsrc,v1,v2,q0,callOne,z66_len,z66_onesT,var_onesT,var_fill,src_fsl]
    |tk es=>
     have hM:es=M:=by simpa[SF.d,src_tsl] using hsrc
     subst hM
     simp only[SF.d,SF.k] at *
     simp[-srcD,-splice,-fillD,z65_eq,set_take,set_splice,splice2,splice7,pures_p,set_onesT,givesT,h15,he0,i0,i1,hsrc,v1,v2,q1,callOne,z66_len,z66_onesT,var_onesT,var_fill,src_fsl]
   ·rw[if_neg h15] at hins
    subst hins
    cases s with
    |pl x=>simp only[SF.d,SF.k] at *;simp[-srcD,-splice,-fillD,z65_eq,set_take,set_splice,splice2,pures_p,set_onesT,givesT,h15,he0,i0,i1,hsrc,v1,v2,q0,callOne,z66_len,z66_onesT,var_onesT,var_fill,src_fsl]
    |tk es=>
     have hM:es=M:=by simpa[SF.d,src_tsl] using hsrc
     subst hM
     simp only[SF.d,SF.k] at *
     simp[-srcD,-splice,-fillD,z65_eq,set_take,set_splice,splice2,pures_p,set_onesT,givesT,h15,he0,i0,i1,hsrc,v1,v2,q1,callOne,z66_len,z66_onesT,var_onesT,var_fill,src_fsl]
  ·subst e0
   refine fin 0 Bt.e 42 a.pos (fun h=>by omega) ?_
   clear fin
   by_cases h15:a.op=15
   ·rw[if_pos h15] at hins
    subst hins
    cases s with
    |pl x=>simp only[SF.d,SF.k] at *;simp[-srcD,-splice,-fillD,z65_eq,set_take,set_splice,splice2,splice7,pures_p,set_onesT,fill0,fill2,givesT,h15,he0,i0,e1]
    |tk es=>
     have hM:es=M:=by simpa[SF.d,src_tsl] using hsrc
     subst hM
     simp only[SF.d,SF.k] at *
     simp[-srcD,-splice,-fillD,z65_eq,set_take,set_splice,splice2,splice7,pures_p,set_onesT,fill0,fill2,givesT,h15,he0,i0,callOne,e1]
   ·rw[if_neg h15] at hins
    subst hins
    cases s with
    |pl x=>simp only[SF.d,SF.k] at *;simp[-srcD,-splice,-fillD,z65_eq,set_take,set_splice,splice2,pures_p,set_onesT,fill0,fill2,givesT,h15,he0,i0,e1]
    |tk es=>
     have hM:es=M:=by simpa[SF.d,src_tsl] using hsrc
     subst hM
     simp only[SF.d,SF.k] at *
     simp[-srcD,-splice,-fillD,z65_eq,set_take,set_splice,splice2,pures_p,set_onesT,fill0,fill2,givesT,h15,he0,i0,callOne,e1]
 ·refine fin 0 Bt.e er pos (fun h=>absurd h e0) ?_
  clear fin
  by_cases h15:a.op=15
  ·rw[if_pos h15] at hins
   subst hins
   cases s with
   |pl x=>simp only[SF.d,SF.k] at *;simp[-srcD,-splice,-fillD,z65_eq,set_take,set_splice,splice2,splice7,pures_p,set_onesT,fill0,givesT,h15,he0,i0,e0]
   |tk es=>
    have hM:es=M:=by simpa[SF.d,src_tsl] using hsrc
    subst hM
    simp only[SF.d,SF.k] at *
    simp[-srcD,-splice,-fillD,z65_eq,set_take,set_splice,splice2,splice7,pures_p,set_onesT,fill0,givesT,h15,he0,i0,callOne,e0]
  ·rw[if_neg h15] at hins
   subst hins
   cases s with
   |pl x=>simp only[SF.d,SF.k] at *;simp[-srcD,-splice,-fillD,z65_eq,set_take,set_splice,splice2,pures_p,set_onesT,fill0,givesT,h15,he0,i0,e0]
   |tk es=>
    have hM:es=M:=by simpa[SF.d,src_tsl] using hsrc
    subst hM
    simp only[SF.d,SF.k] at *
    simp[-srcD,-splice,-fillD,z65_eq,set_take,set_splice,splice2,pures_p,set_onesT,fill0,givesT,h15,he0,i0,callOne,e0]
end Go.Proofs.YtgplgbonlnodeaaGreatDoor
namespace Go.Proofs.YtgplgbonlnodeaaGreatDoor
open Go.Vs
set_option maxRecDepth 100000
set_option maxHeartbeats 4000000
def sqR:Nat→SC→SC
 | 0,x=>x
 |n+1,.seq _ b=>sqR n b
 |_+1,x=>x
def sqL:SC→SC
 | .seq a _=>a
 |x=>x
noncomputable def pt (x:Option FC) (n:Nat):SC:=sqL (sqR n ((x.map fun f=>f.body).getD .skip))
noncomputable def pts (x:Option FC) (n:Nat):SC:=sqR n ((x.map fun f=>f.body).getD .skip)
theorem bts_pl(T:Sl Bool):Bts (.pl (boolsP T)) (els T):=by
 refine⟨fun _=>by simp only[SF.d,len_bools,List.length_map],fun _ k h=>?_,fun _=>?_⟩
 ·have h':k<(els T).length:=by simpa using h
  simp only[SF.d,ia_bools h',List.getElem_map,pcells_bool]
 ·cases T with
  |of l=>cases l<;>simp[SF.d,boolsP,slP,Sl.map,srcD,D.elems?,els]
  |_=>simp[SF.d,boolsP,slP,Sl.map,srcD,D.elems?,els]
theorem exam_gate(sp:Sp)(ok:SpOk sp)(T:Sl Bool)(calls:Nat)(ins:Bool)(a:Nd)(d0:D)(k0:List Nat):∃z:Bool,
    (z=true→post (fun o e H=>o= .ret∧e.get 6= .box 2 0∧e.get 7= .box 3 0∧H=⟨[vB sp T calls ins,a.cl.map .p,(setL 0 Bt.e).map .p,[.p (.int .i64 (46)),.p (.int .i64 (a.pos))]],k0⟩)
     (evS (call pg) pg.G iterX (pt a222 1) ⟨[(1,d0),(3,.box 0 0),(5,.box 1 0),(6,.box 2 0),(7,.box 3 0)],⟨[vB sp T calls ins,a.cl.map .p,(setL 0 Bt.e).map .p,[.p (.int .i64 (0)),.p (.int .i64 (0))]],k0⟩⟩))∧
    (z=false→evS (call pg) pg.G iterX (pt a222 1) ⟨[(1,d0),(3,.box 0 0),(5,.box 1 0),(6,.box 2 0),(7,.box 3 0)],⟨[vB sp T calls ins,a.cl.map .p,(setL 0 Bt.e).map .p,[.p (.int .i64 (0)),.p (.int .i64 (0))]],k0⟩⟩=
     some (.norm,⟨[(1,d0),(3,.box 0 0),(5,.box 1 0),(6,.box 2 0),(7,.box 3 0),(36,.p (.bool false))],⟨[vB sp T calls ins,a.cl.map .p,(setL 0 Bt.e).map .p,[.p (.int .i64 (0)),.p (.int .i64 (0))]],k0⟩⟩)):=by
 obtain⟨b1,c1⟩:=timed_call a.op
 have hpl:(els sp.pr).length<4611686018427387904:=by have:=ok.np;omega
 obtain⟨b2,c2⟩:=tempPred_call sp hpl (bts_pl T) calls a.nm
 have c2:=fun H=>c2 _ H rfl
 have hp1:pt a222 1=pt a222 1:=rfl
 conv at hp1=>rhs;reduce
 have hz65:z65=z65:=rfl
 conv at hz65=>rhs;reduce
 rw[←hz65] at hp1
 clear hz65
 rw[hp1]
 clear hp1
 cases ins with
 |false=>
  refine⟨false,fun h=>(by cases h),fun _=>?_⟩
  simp[-splice,-fillD,z65_eq]
 |true=>
  cases b1 with
  |true=>
   refine⟨true,fun _=>?_,fun h=>(by cases h)⟩
   simp[-splice,-fillD,z65_eq,set_splice,splice2,pures_p,set_onesT,fill0,fill2,c1]
  |false=>
   by_cases h47:a.op=47
   ·rw[h47] at c1
    cases b2 with
    |true=>
     refine⟨true,fun _=>?_,fun h=>(by cases h)⟩
     simp[-splice,-fillD,z65_eq,set_splice,splice2,pures_p,set_onesT,fill0,fill2,h47,c1,c2]
    |false=>
     refine⟨false,fun h=>(by cases h),fun _=>?_⟩
     simp[-splice,-fillD,z65_eq,h47,c1,c2]
   ·refine⟨false,fun h=>(by cases h),fun _=>?_⟩
    simp[-splice,-fillD,z65_eq,h47,c1]
end Go.Proofs.YtgplgbonlnodeaaGreatDoor
namespace Go.Proofs.YtgplgbonlnodeaaGreatDoor
open Go.Vs
set_option maxRecDepth 100000
set_option maxHeartbeats 4000000
abbrev envX(d0:D):Env:=[(1,d0),(3,.box 0 0),(5,.box 1 0),(6,.box 2 0),(7,.box 3 0),(36,.p (.bool false))]
theorem exam_name(sp:Sp)(T:Sl Bool)(calls:Nat)(ins:Bool)(a:Nd)(d0:D)(k0:List Nat)(hop:a.op=1)(ar:Int)(r:Bt)(er pos:Int)
    (h:∀bx,callD (call pg) 284 [.p (vP sp T calls ins),d0,.p (.agg a.cl)] ⟨bx,k0⟩=some (.val (.tup [.p (setP ar r),.p (.agg [.int .i64 er,.int .i64 pos])]),⟨bx,k0⟩)):
    post (fun o e H=>o= .ret∧e.get 6= .box 2 0∧e.get 7= .box 3 0∧H=⟨[vB sp T calls ins,a.cl.map .p,(setL ar r).map .p,[.p (.int .i64 (er)),.p (.int .i64 (pos))]],k0⟩)
     (evS (call pg) pg.G iterX (pt a222 2) ⟨envX d0,⟨[vB sp T calls ins,a.cl.map .p,(setL 0 Bt.e).map .p,[.p (.int .i64 (0)),.p (.int .i64 (0))]],k0⟩⟩):=by
 have hp1:pt a222 2=pt a222 2:=rfl
 conv at hp1=>rhs;reduce
 rw[hp1]
 clear hp1
 simp only[Nd.cl,hop] at h
 simp[-splice,-fillD,set_splice,splice2,set_onesT,hop,h]
theorem exam_call(sp:Sp)(T:Sl Bool)(calls:Nat)(ins:Bool)(a:Nd)(d0:D)(k0:List Nat)(hop:a.op=47)(er pos:Int)
    (h:∀bx,callD (call pg) 285 [.p (vP sp T calls ins),d0,.p (.agg a.cl)] ⟨bx,k0⟩=some (.val (.p (.agg [.int .i64 er,.int .i64 pos])),⟨bx,k0⟩)):
    post (fun o e H=>o= .ret∧e.get 6= .box 2 0∧e.get 7= .box 3 0∧H=⟨[vB sp T calls ins,a.cl.map .p,(setL 0 Bt.e).map .p,[.p (.int .i64 (er)),.p (.int .i64 (pos))]],k0⟩)
     (evS (call pg) pg.G iterX (pt a222 2) ⟨envX d0,⟨[vB sp T calls ins,a.cl.map .p,(setL 0 Bt.e).map .p,[.p (.int .i64 (0)),.p (.int .i64 (0))]],k0⟩⟩):=by
 have hp1:pt a222 2=pt a222 2:=rfl
 conv at hp1=>rhs;reduce
 have hz65:z65=z65:=rfl
 conv at hz65=>rhs;reduce
 rw[←hz65] at hp1
 clear hz65
 rw[hp1]
 clear hp1
 simp only[Nd.cl,hop] at h
 simp[-splice,-fillD,z65_eq,set_splice,splice2,pures_p,set_onesT,fill0,hop,h]
theorem exam_binder(sp:Sp)(T:Sl Bool)(calls:Nat)(ins:Bool)(a:Nd)(d0:D)(k0:List Nat)(hop:a.op∈[15,45,46])(ar:Int)(r:Bt)(er pos:Int)
    (h:∀bx,callD (call pg) 286 [.p (vP sp T calls ins),d0,.p (.agg a.cl)] ⟨bx,k0⟩=some (.val (.tup [.p (setP ar r),.p (.agg [.int .i64 er,.int .i64 pos])]),⟨bx,k0⟩)):
    post (fun o e H=>o= .ret∧e.get 6= .box 2 0∧e.get 7= .box 3 0∧H=⟨[vB sp T calls ins,a.cl.map .p,(setL ar r).map .p,[.p (.int .i64 (er)),.p (.int .i64 (pos))]],k0⟩)
     (evS (call pg) pg.G iterX (pt a222 2) ⟨envX d0,⟨[vB sp T calls ins,a.cl.map .p,(setL 0 Bt.e).map .p,[.p (.int .i64 (0)),.p (.int .i64 (0))]],k0⟩⟩):=by
 have hp1:pt a222 2=pt a222 2:=rfl
 conv at hp1=>rhs;reduce
 have hz65:z65=z65:=rfl
 conv at hz65=>rhs;reduce
 try rw[←hz65] at hp1
 clear hz65
 rw[hp1]
 clear hp1
 simp at hop
 rcases hop with hop |hop |hop<;>simp only[Nd.cl,hop] at h<;>simp[-splice,-fillD,z65_eq,set_splice,splice2,set_onesT,hop,h]
theorem exam_other(sp:Sp)(T:Sl Bool)(calls:Nat)(ins:Bool)(a:Nd)(d0:D)(k0:List Nat)(hop:a.op∉[1,47,15,45,46]):∃ins':Bool,
    post (fun o e H=>o= .norm∧e.get 1=d0∧e.get 3= .box 0 0∧e.get 5= .box 1 0∧e.get 6= .box 2 0∧e.get 7= .box 3 0∧H=⟨[vB sp T calls ins',a.cl.map .p,(setL 0 Bt.e).map .p,[.p (.int .i64 (0)),.p (.int .i64 (0))]],k0⟩)
     (evS (call pg) pg.G iterX (pt a222 2) ⟨envX d0,⟨[vB sp T calls ins,a.cl.map .p,(setL 0 Bt.e).map .p,[.p (.int .i64 (0)),.p (.int .i64 (0))]],k0⟩⟩):=by
 have hp1:pt a222 2=pt a222 2:=rfl
 conv at hp1=>rhs;reduce
 have hz65:z65=z65:=rfl
 conv at hz65=>rhs;reduce
 try rw[←hz65] at hp1
 clear hz65
 rw[hp1]
 clear hp1
 simp only[List.mem_cons,List.not_mem_nil,or_false,not_or] at hop
 obtain⟨h1,h47,h15,h45,h46⟩:=hop
 by_cases h12:a.op=12
 ·refine⟨true,?_⟩
  simp[-splice,-fillD,z65_eq,splice7,h12]
 ·by_cases h13:a.op=13
  ·refine⟨true,?_⟩
   simp[-splice,-fillD,z65_eq,splice7,h13]
  ·refine⟨ins,?_⟩
   simp[-splice,-fillD,z65_eq,h1,h47,h15,h45,h46,h12,h13]
end Go.Proofs.YtgplgbonlnodeaaGreatDoor
end
