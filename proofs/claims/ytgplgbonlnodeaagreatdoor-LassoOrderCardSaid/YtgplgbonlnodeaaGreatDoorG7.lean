/-
  A value-level evaluator for Go functions; the functions of this cut by it; plain laws. Text G7.
-/
import Derived.Test.YtgplgbonlnodeaaGreatDoorG6
section
open Go.Vs Go.Proofs.YtgplgbonlnodeaaGreatDoor
attribute [local simp] evKC evK evGuard put Env.get Env.keep entry Opd.ev loadD storeD splice cutAt indexD D.asInt? D.asNat? u8 binD strBin unD boundsD sub minmaxD eqvL PD.eqv clsP cls clsR isCl isW apartRW offB apartWW clash insOk finish evRes evRes1 mapO D.refsL D.refs D.toksL D.toks mkAgg pures fillD fillE appendD srcD D.elems? D.asPD Int.toNat_natCast srcH srcBH eqD D.asPDL isMapC lenD_str lenD_nils lenD_sl lenD_fsl lenD_tsl iaddr_box iaddr_ro gives nx condK_if opsG_if drG_if Int.natCast_inj one_p locD below Out.ren D.ren D.renL get_ren fin_agg2 cells_of_one pcells_of_one cells_pagg pcells_agg cells_dagg cells_box cells_tsl cells_fsl cells_gsl cells_msl cells_fn cells_mapr cells_pint cells_pbool cells_pstr cells_pslice cells_pnils pcells_int pcells_bool pcells_str
namespace Go.Proofs.YtgplgbonlnodeaaGreatDoor
open Go.Vs
set_option maxRecDepth 100000
set_option maxHeartbeats 4000000
theorem at_app(e sz:Nat)(s:SF)(bx:List (List D))(l:List Nat):s.at e sz (s.d e sz 0) ⟨bx,s.k++l⟩:=by
 cases s with
 |pl x=>rfl
 |tk es=>exact⟨0,rfl,rfl⟩
theorem tk_app1{e sz by' m:Nat}{es:List PD}{x:PD}{bx:List (List D)}(h:es.length<1000000000)(hb:by'≤1000):appendD e sz by' (.tsl 1 e sz es) [x] ⟨bx,[m,es.length]⟩=some (.tsl 1 e sz (es++[x]),⟨bx,[m,es.length+1]⟩):=by
 have hr:roomy (es.length+1) by'=true:=by
  have :(es.length+1)*by'≤1000000000*1000:=Nat.mul_le_mul (by omega) hb
  simp only[roomy,Bool.and_eq_true,decide_eq_true_eq];omega
 simp[appendD,hr]
def KidsOk(ks:List Nd)(Ls:List St1):Prop:=∀(i:Nat) (k:Nd) (l:St1),ks[i]? =some k→Ls[i]? =some l→1≤k.op→k.op≤15→1≤l.ar∧l.ar≤3
theorem exam_loop(sp:Sp)(a:Nd)(ha:a.size≤400)(ih:∀k∈a.ks,ExSpec sp 222 k (1≤k.op∧k.op≤15))(T:Sl Bool)(calls:Nat)(ins:Bool)(s:SF)(L:List Vr)(hs:SFOk 361 66 s (L.map Vr.p))(hb:L.length+a.size≤1000):
    post (fun o e H=>e.get 6= .box 2 0∧e.get 7= .box 3 0∧((o= .exit 1∧e.get 3= .box 0 0∧e.get 5= .box 1 0∧∃Ls:List St1,Ls.length=a.ks.length∧KidsOk a.ks Ls∧e.get 8= .tsl s.k.length 253 65 (Ls.map St1.p)∧H=⟨[vB sp T calls ins,a.cl.map .p,(setL 0 Bt.e).map .p,[.p (.int .i64 (0)),.p (.int .i64 (0))]],s.k++[(Ls.map St1.p).length]⟩)∨
        (o= .ret∧∃(er pos:Int) (n:Nat),er≠0∧H=⟨[vB sp T calls ins,a.cl.map .p,(setL 0 Bt.e).map .p,[.p (.int .i64 (er)),.p (.int .i64 (pos))]],s.k++[n]⟩)))
     (loopK (call pg) pg.G [1,3,5,6,7,8,9] (bd a222 0) ⟨[(1,s.d 361 66 0),(3,.box 0 0),(5,.box 1 0),(6,.box 2 0),(7,.box 3 0),(8,.tsl s.k.length 253 65 []),(9,.p (.int .i64 (0)))],⟨[vB sp T calls ins,a.cl.map .p,(setL 0 Bt.e).map .p,[.p (.int .i64 (0)),.p (.int .i64 (0))]],s.k++[0]⟩⟩):=by
 have hks:a.ks.length≤400:=by
  have:=len_sizeL a.ks
  have:=size_eq a
  omega
 refine loopW (c:=call pg) (G:=pg.G) (keep:=[1,3,5,6,7,8,9]) (b:=bd a222 0) (σ:=Nat×List St1) (fun x=>[(1,s.d 361 66 0),(3,.box 0 0),(5,.box 1 0),(6,.box 2 0),(7,.box 3 0),(8,.tsl s.k.length 253 65 (x.2.map St1.p)),(9,.p (.int .i64 ((x.1:Nat):Int)))])
  (fun x=>⟨[vB sp T calls ins,a.cl.map .p,(setL 0 Bt.e).map .p,[.p (.int .i64 (0)),.p (.int .i64 (0))]],s.k++[(x.2.map St1.p).length]⟩) (fun x=>a.ks.length-x.1) (fun x=>x.1≤a.ks.length∧x.2.length=x.1∧KidsOk a.ks x.2) _ ?_ (0,[]) ⟨Nat.zero_le _,rfl,fun i k l _ h=>by simp at h⟩
 rintro⟨i,Ls⟩ ⟨hi,hL,hK⟩
 dsimp only at hi hL hK⊢
 by_cases h:i<a.ks.length
 ·have hkid:=size_kid (List.getElem_mem h)
  obtain⟨ar,r,er,pos,he,hrel⟩:=ih _ (List.getElem_mem h) T calls ins s L hs (by omega)
  have he:=fun bx l=>he (s.d 361 66 0) ⟨bx,s.k++l⟩ (at_app 361 66 s bx l)
  have hia:=ia_kids h
  have k1:=inc64 (k:=i) (by omega)
  have hMl:(Ls.map St1.p).length<1000000000:=by rw[List.length_map];omega
  by_cases e0:er=0
  ·subst e0
   have hx:KidsOk a.ks (Ls++[⟨ar,r⟩]):=by
    intro j k l hk hl g1 g2
    by_cases hj:j<Ls.length
    ·rw[List.getElem?_append_left hj] at hl
     exact hK j k l hk hl g1 g2
    ·rw[List.getElem?_append_right (by omega)] at hl
     have hj2:j=i:=by
      have:=(List.getElem?_eq_some_iff.1 hl).1
      simp at this;omega
     subst hj2
     rw[hL,Nat.sub_self] at hl
     simp at hl
     subst hl
     rw[List.getElem?_eq_getElem h] at hk
     cases hk
     exact hrel rfl ⟨g1,g2⟩
   refine post_mono (Q:=nx [1,3,5,6,7,8,9] [(1,s.d 361 66 0),(3,.box 0 0),(5,.box 1 0),(6,.box 2 0),(7,.box 3 0),(8,.tsl s.k.length 253 65 (Ls.map St1.p++[.agg (setL ar r)])),(9,.p (.int .i64 ((i+1 :Nat):Int)))] ⟨[vB sp T calls ins,a.cl.map .p,(setL 0 Bt.e).map .p,[.p (.int .i64 (0)),.p (.int .i64 (0))]],s.k++[(Ls.map St1.p).length+1]⟩) ?_ ?_
   ·have p0:=fun bx=>tk_app (e:=253) (sz:=65) (by':=72) (es:=Ls.map St1.p) (x:=.agg (setL ar r)) (bx:=bx) hMl (by omega)
    have p1:=fun bx m=>tk_app1 (e:=253) (sz:=65) (by':=72) (m:=m) (es:=Ls.map St1.p) (x:=.agg (setL ar r)) (bx:=bx) hMl (by omega)
    have hb0:bd a222 0=bd a222 0:=rfl
    conv at hb0=>rhs;reduce
    have hf:a222=a222:=rfl
    conv at hf=>rhs;reduce
    rw[←hb0] at hf
    have hz65:z65=z65:=rfl
    conv at hz65=>rhs;reduce
    try rw[←hz65] at hf
    try rw[←hz65] at hb0
    clear hz65
    rw[hb0];clear hf hb0
    clear hs hb ih hL hK hx hrel
    generalize Ls.map St1.p=M at *
    generalize a.ks[i]=kk at *
    cases s<;>(simp only[SF.d,SF.k,List.nil_append,List.cons_append] at *;simp[-srcD,-appendD,-splice,-fillD,z65_eq,set_take,set_splice,splice2,pures_p,set_onesT,len_kids,h,hia,he,k1,callOne,src_fsl,p0,p1])
   ·intro o e H hh
    refine .inl ⟨(i+1,Ls++[⟨ar,r⟩]),⟨by dsimp only;omega,by simp[hL],hx⟩,by dsimp only;omega,?_⟩
    simpa[St1.p] using hh
  ·refine post_mono (Q:=fun o e H=>o= .ret∧e.get 6= .box 2 0∧e.get 7= .box 3 0∧H=⟨[vB sp T calls ins,a.cl.map .p,(setL 0 Bt.e).map .p,[.p (.int .i64 (er)),.p (.int .i64 (pos))]],s.k++[(Ls.map St1.p).length]⟩) ?_ ?_
   ·skip
    have hb0:bd a222 0=bd a222 0:=rfl
    conv at hb0=>rhs;reduce
    have hf:a222=a222:=rfl
    conv at hf=>rhs;reduce
    rw[←hb0] at hf
    have hz65:z65=z65:=rfl
    conv at hz65=>rhs;reduce
    try rw[←hz65] at hf
    try rw[←hz65] at hb0
    clear hz65
    rw[hb0];clear hf hb0
    clear hs hb ih hL hK hrel
    generalize Ls.map St1.p=M at *
    generalize a.ks[i]=kk at *
    cases s<;>(simp only[SF.d,SF.k,List.nil_append,List.cons_append] at *;simp[-srcD,-appendD,-splice,-fillD,z65_eq,set_splice,splice2,pures_p,set_onesT,fill0,len_kids,h,hia,he,callOne,e0])
   ·rintro o e H ⟨rfl,q6,q7,rfl⟩
    exact .inr ⟨by simp,q6,q7,.inr ⟨rfl,er,pos,_,e0,rfl⟩⟩
 ·have hi':i=a.ks.length:=by omega
  subst hi'
  refine post_mono (Q:=fun o e H=>o= .exit 1∧e.get 3= .box 0 0∧e.get 5= .box 1 0∧e.get 6= .box 2 0∧e.get 7= .box 3 0∧e.get 8= .tsl s.k.length 253 65 (Ls.map St1.p)∧H=⟨[vB sp T calls ins,a.cl.map .p,(setL 0 Bt.e).map .p,[.p (.int .i64 (0)),.p (.int .i64 (0))]],s.k++[(Ls.map St1.p).length]⟩) ?_ ?_
  ·skip
   have hb0:bd a222 0=bd a222 0:=rfl
   conv at hb0=>rhs;reduce
   have hf:a222=a222:=rfl
   conv at hf=>rhs;reduce
   rw[←hb0] at hf
   have hz65:z65=z65:=rfl
   conv at hz65=>rhs;reduce
   try rw[←hz65] at hf
   try rw[←hz65] at hb0
   clear hz65
   rw[hb0];clear hf hb0
   clear hs hb ih hL hK
   generalize Ls.map St1.p=M at *
   cases s<;>(simp only[SF.d,SF.k,List.nil_append,List.cons_append] at *;simp[-splice,-fillD,z65_eq,len_kids])
  ·rintro o e H ⟨rfl,q3,q5,q6,q7,q8,rfl⟩
   exact .inr ⟨by simp,q6,q7,.inl ⟨rfl,q3,q5,Ls,hL,hK,q8,rfl⟩⟩
end Go.Proofs.YtgplgbonlnodeaaGreatDoor
namespace Go.Proofs.YtgplgbonlnodeaaGreatDoor
open Go.Vs
set_option maxRecDepth 100000
set_option maxHeartbeats 4000000
theorem shp1{op:Int}{n:Nat}{w:List UInt8}(h:op∈[5,11,12,13])(hs:Shp op n w):w=[101]:=by
 simp at h
 rcases h with rfl |rfl |rfl |rfl<;>simpa[Shp] using hs
theorem shp2{op:Int}{n:Nat}{w:List UInt8}(h:op∈[6,7,8,9,10,14,32,33])(hs:Shp op n w):w=[101,101]:=by
 simp at h
 rcases h with rfl |rfl |rfl |rfl |rfl |rfl |rfl |rfl<;>simpa[Shp] using hs
theorem shp3{op:Int}{n:Nat}{w:List UInt8}(h:op∈[15,45,46])(hs:Shp op n w):w=[101,102]:=by
 simp at h
 rcases h with rfl |rfl |rfl<;>simpa[Shp] using hs
theorem sets_of{a:Nd}(hw:Wf a){Ls:List St1}(hl:Ls.length=a.ks.length)(hk:KidsOk a.ks Ls)(h1:a.op≠1)(h15:a.op≠15):Sets a.op a.n Ls:=by
 obtain⟨_,own,⟨w,hs,hwl,hkd⟩,_⟩:=hw
 have bd:∀i (h:i<Ls.length),w[i]? =some 101→1≤Ls[i].ar∧Ls[i].ar≤3:=fun i h hw=>by
  have h':i<a.ks.length:=by omega
  have:=(hkd i h' _ _ (List.getElem?_eq_getElem h') hw).1 rfl
  exact hk i _ _ (List.getElem?_eq_getElem h') (List.getElem?_eq_getElem h) this.1 this.2
 refine⟨own,fun h=>?_,fun h=>?_,h1,h15⟩
 ·have:=shp1 h hs
  subst this
  match Ls,hl,bd with
  |[],hl,_=>simp at hwl hl;omega
  |a::l,_,bd=>exact⟨a,l,rfl,bd 0 (by simp) rfl⟩
 ·have:=shp2 h hs
  subst this
  match Ls,hl,bd with
  |[],hl,_=>simp at hwl hl;omega
  |[_],hl,_=>simp at hwl hl;omega
  |a::c::l,_,bd=>exact⟨a,c,l,rfl,bd 0 (by simp) rfl,bd 1 (by simp) rfl⟩
theorem exam_tail(sp:Sp)(ok:SpOk sp)(a:Nd)(hw:Wf a)(ha:a.size≤400)(h1:a.op≠1)(h15:a.op≠15)(ih:∀k∈a.ks,ExSpec sp 222 k (1≤k.op∧k.op≤15))(T:Sl Bool)(calls:Nat)(ins:Bool)(s:SF)(L:List Vr)(hs:SFOk 361 66 s (L.map Vr.p))(hb:L.length+a.size≤1000)(e0:Env)
    (q1:e0.get 1=s.d 361 66 0) (q3:e0.get 3= .box 0 0) (q5:e0.get 5= .box 1 0) (q6:e0.get 6= .box 2 0) (q7:e0.get 7= .box 3 0):
    ∃(ar:Int) (r:Bt) (er pos:Int),(er=0→1≤a.op→a.op≤15→1≤ar∧ar≤3)∧post (fun o e H=>o= .ret∧e.get 6= .box 2 0∧e.get 7= .box 3 0∧∃x y z n,H=⟨x::y::(setL ar r).map .p::[.p (.int .i64 (er)),.p (.int .i64 (pos))]::z,s.k++[n]⟩)
     (evS (call pg) pg.G iterX (pts a222 3) ⟨e0,⟨[vB sp T calls ins,a.cl.map .p,(setL 0 Bt.e).map .p,[.p (.int .i64 (0)),.p (.int .i64 (0))]],s.k⟩⟩):=by
 have key:=exam_loop sp a ha ih T calls ins s L hs hb
 obtain⟨o,e,H,hx,h6,h7,hq⟩:=post_get key
 clear key
 have ok1:=ok.ns
 have hb0:bd a222 0=bd a222 0:=rfl
 conv at hb0=>rhs;reduce
 have hf:a222=a222:=rfl
 conv at hf=>rhs;reduce
 rw[←hb0] at hf
 clear hf
 have hp1:pts a222 3=pts a222 3:=rfl
 conv at hp1=>rhs;reduce
 rw[←hb0] at hp1
 clear hb0
 have hz65:z65=z65:=rfl
 conv at hz65=>rhs;reduce
 rw[←hz65] at hp1
 clear hz65
 rcases hq with⟨rfl,q3',q5',Ls,hl,hk,q8,rfl⟩ |⟨rfl,er,pos,n,he,rfl⟩
 ·obtain⟨ar,r,okk,hap,hrel⟩:=apply_call sp (by omega) a.op a.n a.pos a.nm a.kidsP (pone_kids a) Ls (sets_of hw hl hk h1 h15)
  have hap:=fun bx=>hap (.tsl s.k.length 253 65 (Ls.map St1.p)) ⟨bx,s.k++[(Ls.map St1.p).length]⟩ ⟨s.k.length,rfl,by simp⟩
  cases okk with
  |true=>
   refine⟨ar,r,0,0,fun _=>hrel rfl,?_⟩
   rw[hp1]
   clear hp1 ih hs hb hw hl hk hrel
   generalize Ls.map St1.p=M at *
   refine post_mono (Q:=fun o e H=>o= .ret∧e.get 6= .box 2 0∧e.get 7= .box 3 0∧H=⟨[vB sp T calls ins,a.cl.map .p,(setL ar r).map .p,[.p (.int .i64 (0)),.p (.int .i64 (0))],(setL ar r).map .p],s.k++[M.length]⟩) ?_ fun o e H h=>⟨h.1,h.2.1,h.2.2.1,_,_,_,_,h.2.2.2⟩
   cases s<;>(simp only[SF.d,SF.k,List.nil_append,List.cons_append,List.length_nil,List.length_cons] at *;simp at hx;simp[-splice,-fillD,z65_eq,set_take,set_splice,splice2,pures_p,set_onesT,fill0,tokD,q1,q3,q5,q6,q7,hx,h6,h7,q3',q5',q8,hap])
  |false=>
   refine⟨0,Bt.e,42,a.pos,fun h=>by omega,?_⟩
   rw[hp1]
   clear hp1 ih hs hb hw hl hk hrel
   generalize Ls.map St1.p=M at *
   refine post_mono (Q:=fun o e H=>o= .ret∧e.get 6= .box 2 0∧e.get 7= .box 3 0∧H=⟨[vB sp T calls ins,a.cl.map .p,(setL 0 Bt.e).map .p,[.p (.int .i64 (42)),.p (.int .i64 (a.pos))],(setL ar r).map .p],s.k++[M.length]⟩) ?_ fun o e H h=>⟨h.1,h.2.1,h.2.2.1,_,_,_,_,h.2.2.2⟩
   cases s<;>(simp only[SF.d,SF.k,List.nil_append,List.cons_append,List.length_nil,List.length_cons] at *;simp at hx;simp[-splice,-fillD,z65_eq,set_splice,splice2,pures_p,set_onesT,fill0,fill2,tokD,q1,q3,q5,q6,q7,hx,h6,h7,q3',q5',q8,hap])
 ·refine⟨0,Bt.e,er,pos,fun h=>absurd h he,?_⟩
  rw[hp1]
  clear hp1 ih hs hb hw
  refine post_mono (Q:=fun o e H=>o= .ret∧e.get 6= .box 2 0∧e.get 7= .box 3 0∧H=⟨[vB sp T calls ins,a.cl.map .p,(setL 0 Bt.e).map .p,[.p (.int .i64 (er)),.p (.int .i64 (pos))]],s.k++[n]⟩) ?_ fun o e H h=>⟨h.1,h.2.1,h.2.2.1,_,_,_,_,h.2.2.2⟩
  cases s<;>(simp only[SF.d,SF.k,List.nil_append,List.cons_append,List.length_nil,List.length_cons] at *;simp at hx;simp[-splice,-fillD,z65_eq,tokD,q1,q3,q5,q6,q7,hx,h6,h7])
end Go.Proofs.YtgplgbonlnodeaaGreatDoor
namespace Go.Proofs.YtgplgbonlnodeaaGreatDoor
open Go.Vs
set_option maxRecDepth 100000
set_option maxHeartbeats 4000000
theorem exam_body(sp:Sp)(T:Sl Bool)(calls:Nat)(ins:Bool)(a:Nd)(s:SF)(ar:Int)(r:Bt)(er pos:Int)
    (h:post (fun o e H=>o= .ret∧e.get 6= .box 2 0∧e.get 7= .box 3 0∧∃x y z l,H=⟨x::y::(setL ar r).map .p::[.p (.int .i64 (er)),.p (.int .i64 (pos))]::z,s.k++l⟩)
     (evS (call pg) pg.G iterX (.seq (pt a222 1) (.seq (pt a222 2) (pts a222 3))) ⟨[(1,s.d 361 66 0),(3,.box 0 0),(5,.box 1 0),(6,.box 2 0),(7,.box 3 0)],⟨[vB sp T calls ins,a.cl.map .p,(setL 0 Bt.e).map .p,[.p (.int .i64 (0)),.p (.int .i64 (0))]],s.k⟩⟩)):
    ∀d H,s.at 361 66 d H→callD (call pg) 222 [.p (vP sp T calls ins),d,.p (.agg a.cl)] H=some (.val (.tup [.p (setP ar r),.p (.agg [.int .i64 er,.int .i64 pos])]),H):=by
 obtain⟨o,e,H,hx,rfl,h6,h7,x,y,z,l,rfl⟩:=post_get h
 clear h
 have hb0:bd a222 0=bd a222 0:=rfl
 conv at hb0=>rhs;reduce
 have hf:a222=a222:=rfl
 conv at hf=>rhs;reduce
 rw[←hb0] at hf
 have hp3:pts a222 3=pts a222 3:=rfl
 conv at hp3=>rhs;reduce
 rw[←hb0] at hp3
 rw[←hp3] at hf
 have hp2:pt a222 2=pt a222 2:=rfl
 conv at hp2=>rhs;reduce
 rw[←hp2] at hf
 have hp1:pt a222 1=pt a222 1:=rfl
 conv at hp1=>rhs;reduce
 rw[←hp1] at hf
 have hz65:z65=z65:=rfl
 conv at hz65=>rhs;reduce
 rw[←hz65] at hf
 clear hz65 hp1 hp2 hp3 hb0
 refine callF (e:=361) (sz:=66) (pre:=[vP sp T calls ins]) (suf:=[.agg a.cl]) (s:=s) (pln_t [_,_]) hf (fun _=>by cases s<;>rfl) (by cases s<;>rfl) rfl ?_
 clear hf
 cases s<;>(simp only[SF.d,SF.k,List.nil_append,List.cons_append] at *;simp at hx;simp[-splice,-fillD,z65_eq,set_take,pures_p,set_onesT,givesT,hx,h6,h7])
theorem post_sq{c:CallR}{G:Nat→Option (List PD)}{a b:SC}{st:St}{Q:Out→Env→Hp→Prop}{e:Env}{H:Hp}(h:evS c G iterX a st=some (.norm,⟨e,H⟩))(hb:post Q (evS c G iterX b ⟨e,H⟩)):post Q (evS c G iterX (.seq a b) st):=by
 rw[evS_seq,h];exact hb
theorem post_sqR{c:CallR}{G:Nat→Option (List PD)}{a b:SC}{st:St}{Q:Out→Env→Hp→Prop}(h:post (fun o e H=>o= .ret∧Q o e H) (evS c G iterX a st)):post Q (evS c G iterX (.seq a b) st):=by
 obtain⟨o,e,H,hx,rfl,hq⟩:=post_get h
 rw[evS_seq,hx];exact hq
theorem examine_call(sp:Sp)(ok:SpOk sp)(hn:NmOk sp):∀(m:Nat) (a:Nd),a.size≤m→m≤400→Wf a→ExSpec sp 222 a (1≤a.op∧a.op≤15):=by
 intro m
 induction m with
 |zero=>intro a h;have:=size_pos a;omega
 |succ m ih=>
  intro a hm h400 hw T calls ins s L hs hb
  have ihk:∀k∈a.ks,ExSpec sp 222 k (1≤k.op∧k.op≤15):=fun k hk=>by
   have h1:=size_kid hk
   have hwk:Wf k:=by obtain⟨_,_,_,h⟩:=hw;exact h k hk
   exact ih k (by omega) (by omega) hwk
  obtain⟨z,g1,g2⟩:=exam_gate sp ok T calls ins a (s.d 361 66 0) s.k
  cases z with
  |true=>
   refine⟨0,Bt.e,46,a.pos,exam_body sp T calls ins a s 0 Bt.e 46 a.pos (post_sqR (post_mono (g1 rfl) ?_)),fun h=>by omega⟩
   rintro o e H ⟨rfl,q6,q7,rfl⟩
   exact⟨rfl,rfl,q6,q7,_,_,[],[],by rw[List.append_nil]⟩
  |false=>
   have g2:=g2 rfl
   by_cases h1:a.op=1
   ·obtain⟨ar,r,er,pos,he,hrel⟩:=nameR_call sp ok hn a T calls ins s L hs hb
    refine⟨ar,r,er,pos,exam_body sp T calls ins a s ar r er pos (post_sq g2 (post_sqR (post_mono (exam_name sp T calls ins a (s.d 361 66 0) s.k h1 ar r er pos fun bx=>he _ _ (at_self 361 66 s bx)) ?_))),fun h _=>hrel h trivial⟩
    rintro o e H ⟨rfl,q6,q7,rfl⟩
    exact⟨rfl,rfl,q6,q7,_,_,[],[],by rw[List.append_nil]⟩
   ·by_cases h47:a.op=47
    ·obtain⟨er,pos,he⟩:=callR_call sp ok a (by omega) ihk T calls ins s L hs hb
     refine⟨0,Bt.e,er,pos,exam_body sp T calls ins a s 0 Bt.e er pos (post_sq g2 (post_sqR (post_mono (exam_call sp T calls ins a (s.d 361 66 0) s.k h47 er pos fun bx=>he _ _ (at_self 361 66 s bx)) ?_))),fun _ h=>by omega⟩
     rintro o e H ⟨rfl,q6,q7,rfl⟩
     exact⟨rfl,rfl,q6,q7,_,_,[],[],by rw[List.append_nil]⟩
    ·by_cases hbd:a.op∈[15,45,46]
     ·obtain⟨_,_,⟨w,hsw,hwl,_⟩,_⟩:=id hw
      have:=shp3 hbd hsw
      subst this
      obtain⟨k0,k1,hks⟩:∃k0 k1,a.ks=[k0,k1]:=by
       match hk:a.ks,hwl with
       |[k0,k1],_=>exact⟨k0,k1,rfl⟩
      obtain⟨ar,r,er,pos,he,hrel⟩:=binder_call sp a k0 k1 hks (ihk k0 (by rw[hks];simp)) (ihk k1 (by rw[hks];simp)) T calls ins s L hs hb
      refine⟨ar,r,er,pos,exam_body sp T calls ins a s ar r er pos (post_sq g2 (post_sqR (post_mono (exam_binder sp T calls ins a (s.d 361 66 0) s.k hbd ar r er pos fun bx=>he _ _ (at_self 361 66 s bx)) ?_))),fun h _=>hrel h trivial⟩
      rintro o e H ⟨rfl,q6,q7,rfl⟩
      exact⟨rfl,rfl,q6,q7,_,_,[],[],by rw[List.append_nil]⟩
     ·have hno:a.op∉[1,47,15,45,46]:=by
       simp only[List.mem_cons,List.not_mem_nil,or_false,not_or] at hbd⊢
       exact⟨h1,h47,hbd⟩
      obtain⟨ins',hp⟩:=exam_other sp T calls ins a (s.d 361 66 0) s.k hno
      obtain⟨o,e,H,hx,rfl,q1,q3,q5,q6,q7,rfl⟩:=post_get hp
      obtain⟨ar,r,er,pos,hrel,ht⟩:=exam_tail sp ok a hw (by omega) h1 (fun h=>hbd (by simp[h])) ihk T calls ins' s L hs hb e q1 q3 q5 q6 q7
      refine⟨ar,r,er,pos,exam_body sp T calls ins a s ar r er pos (post_sq g2 (post_sq hx (post_mono ht ?_))),fun h h2=>hrel h h2.1 h2.2⟩
      rintro o e H ⟨rfl,q6,q7,x,y,z,n,rfl⟩
      exact⟨rfl,q6,q7,_,_,_,[n],rfl⟩
end Go.Proofs.YtgplgbonlnodeaaGreatDoor
namespace Go.Proofs.YtgplgbonlnodeaaGreatDoor
open Go.Vs
set_option maxRecDepth 100000
set_option maxHeartbeats 4000000
theorem formula_call(a:Nd):∃r:Bool,∀H,callD (call pg) 221 [.p (.agg a.cl)] H=some (.val (.p (.bool r)),H):=by
 have hf:a221=a221:=rfl
 conv at hf=>rhs;reduce
 refine⟨decide (30≤a.op),callP (aa:=[_]) hf rfl rfl rfl ?_⟩
 clear hf
 simp
theorem env_call(ps:Sl Pm)(hp:(els ps).length≤500):∃L:List Vr,L.length=(els ps).length∧∀H,callD (call pg) 224 [.p (paramsP ps)] H=some (.val (.p (.slice 66 (L.map Vr.p))),H):=by
 have key:=loopW (c:=call pg) (G:=pg.G) (keep:=[0,3,4]) (b:=bd a224 0) (σ:=Nat×List Vr) (fun s=>[(0,.p (paramsP ps)),(3,.tsl 0 361 66 (s.2.map Vr.p)),(4,.p (.int .i64 ((s.1:Nat):Int)))]) (fun s=>⟨[],[(s.2.map Vr.p).length]⟩) (fun s=>(els ps).length-s.1) (fun s=>s.1≤(els ps).length∧s.2.length=s.1)
  (fun o e H=>o= .exit 0∧∃L:List Vr,L.length=(els ps).length∧e.get 3= .tsl 0 361 66 (L.map Vr.p))
  (by
   rintro⟨i,L⟩ ⟨hi,hL⟩
   dsimp only at hi hL⊢
   by_cases h:i<(els ps).length
   ·have hia:=ia_params h
    generalize (els ps)[i]=q at *
    obtain⟨b,hb⟩:=one_call (intsD_1 q.so) (by omega)
    simp only[Int.natCast_one] at hb
    have k1:=inc64 (k:=i) (by omega)
    have hap:=fun bx=>tk_app (e:=361) (sz:=66) (by':=88) (es:=L.map Vr.p) (x:=.agg (varL ⟨q.nm,b⟩)) (bx:=bx) (by rw[List.length_map];omega) (by omega)
    refine post_mono (Q:=nx [0,3,4] [(0,.p (paramsP ps)),(3,.tsl 0 361 66 (L.map Vr.p++[.agg (varL ⟨q.nm,b⟩)])),(4,.p (.int .i64 ((i+1 :Nat):Int)))] ⟨[],[(L.map Vr.p).length+1]⟩) ?_ ?_
    ·generalize L.map Vr.p=M at *
     have hb0:bd a224 0=bd a224 0:=rfl
     conv at hb0=>rhs;reduce
     have hf:a224=a224:=rfl
     conv at hf=>rhs;reduce
     rw[←hb0] at hf
     have hz66:z66=z66:=rfl
     conv at hz66=>rhs;reduce
     try rw[←hz66] at hf
     try rw[←hz66] at hb0
     clear hz66
     have hz65:z65=z65:=rfl
     conv at hz65=>rhs;reduce
     try rw[←hz65] at hf
     try rw[←hz65] at hb0
     clear hz65
     rw[hb0];clear hf hb0
     simp[-appendD,-srcD,-splice,-fillD,pures_p,len_params,h,hia,hb,hap,k1,z66_len,z66_onesT,var_onesT,var_fill,src_fsl,fillE]
    ·intro o e H hh
     refine .inl ⟨(i+1,L++[⟨q.nm,b⟩]),⟨by dsimp only;omega,by simp[hL]⟩,by dsimp only;omega,?_⟩
     simpa[Vr.p] using hh
   ·have :i=(els ps).length:=by omega
    subst this
    refine post_mono (Q:=fun o e H=>o= .exit 0∧e.get 3= .tsl 0 361 66 (L.map Vr.p)) ?_ ?_
    ·generalize L.map Vr.p=M at *
     have hb0:bd a224 0=bd a224 0:=rfl
     conv at hb0=>rhs;reduce
     have hf:a224=a224:=rfl
     conv at hf=>rhs;reduce
     rw[←hb0] at hf
     have hz66:z66=z66:=rfl
     conv at hz66=>rhs;reduce
     try rw[←hz66] at hf
     try rw[←hz66] at hb0
     clear hz66
     have hz65:z65=z65:=rfl
     conv at hz65=>rhs;reduce
     try rw[←hz65] at hf
     try rw[←hz65] at hb0
     clear hz65
     rw[hb0];clear hf hb0
     simp[-splice,-fillD,len_params]
    ·rintro o e H ⟨rfl,q⟩
     exact .inr ⟨by simp,rfl,L,hL,q⟩) (0,[]) ⟨Nat.zero_le _,rfl⟩
 obtain⟨o,e,H,hx,rfl,L,hL,h3⟩:=post_get key
 simp only[Int.natCast_zero,List.map_nil,List.length_nil] at hx
 clear key
 refine⟨L,hL,?_⟩
 generalize L.map Vr.p=M at *
 have hb0:bd a224 0=bd a224 0:=rfl
 conv at hb0=>rhs;reduce
 have hf:a224=a224:=rfl
 conv at hf=>rhs;reduce
 rw[←hb0] at hf
 have hz66:z66=z66:=rfl
 conv at hz66=>rhs;reduce
 try rw[←hz66] at hf
 try rw[←hz66] at hb0
 clear hz66
 have hz65:z65=z65:=rfl
 conv at hz65=>rhs;reduce
 try rw[←hz65] at hf
 try rw[←hz65] at hb0
 clear hz65
 refine callP (aa:=[_]) hf rfl rfl rfl ?_
 clear hf hb0
 simp[tokD,hx,h3]
theorem fill7(sp:Sp)(T:Sl Bool)(calls:Nat):fillD [.p (.nils),.p (.nils),.p (.nils),.p (.nils),.p (.nils),.p (.int .i64 (0)),.p (.bool false)] [(0,4,.p (.agg [sortsP sp.so,fieldsP sp.fi,predsP sp.pr,factsP sp.fa])),(4,1,.p (boolsP T)),(5,1,.p (.int .i64 ((calls:Nat):Int)))]=some (vB sp T calls false):=by
 simp
theorem sfok_sl{e sz:Nat}{es:List PD}:SFOk e sz (.pl (.slice sz es)) es:=⟨fun _=>by simp only[SF.d,lenD_sl],fun _ k h=>iaddr_sl h,fun _=>by simp[SF.d,srcD,D.elems?]⟩
theorem check_call(sp:Sp)(ok:SpOk sp)(hn:NmOk sp)(calls:Nat)(ps:Sl Pm)(hps:(els ps).length≤500)(a:Nd)(hb:BoOk a):
    ∃er pos:Int,∀H,callD (call pg) 153 [.p (.agg sp.cl),.p (.int .i64 ((calls:Nat):Int)),.p (paramsP ps),.p (.agg a.cl)] H=some (.val (.p (.agg [.int .i64 er,.int .i64 pos])),H):=by
 obtain⟨r,h1⟩:=formula_call a
 obtain⟨T,h2⟩:=temporalL_call sp ok
 obtain⟨L,hL,h3⟩:=env_call ps hps
 obtain⟨ar,b,er,pos,h4,-⟩:=examine_call sp ok hn 400 a hb.1 (by omega) hb.2 (ofL T) calls false (.pl (.slice 66 (L.map Vr.p))) L sfok_sl (by have:=hb.1;omega)
 have h4:=fun bx tk=>h4 _ ⟨bx,tk⟩ rfl
 generalize ofL T=T at *
 generalize L.map Vr.p=M at *
 have hf:a153=a153:=rfl
 conv at hf=>rhs;reduce
 have hz65:z65=z65:=rfl
 conv at hz65=>rhs;reduce
 try rw[←hz65] at hf
 clear hz65
 cases r with
 |false=>
  refine⟨43,a.pos,callP (aa:=[_,_,_,_]) hf rfl rfl rfl ?_⟩
  clear hf
  simp[-splice,-fillD,z65_eq,splice2,fill2,h1]
 |true=>
  refine⟨er,pos,callP (aa:=[_,_,_,_]) hf rfl rfl rfl ?_⟩
  clear hf
  simp[-splice,-fillD,z65_eq,set_splice,splice2,set_onesT,h1,h2,h3,h4,fill7]
end Go.Proofs.YtgplgbonlnodeaaGreatDoor
namespace Go.Proofs.YtgplgbonlnodeaaGreatDoor
open Go.Vs
set_option maxRecDepth 100000
set_option maxHeartbeats 4000000
theorem checkFormula_call(sp:Sp)(ok:SpOk sp)(hn:NmOk sp)(ps:Sl Pm)(hps:(els ps).length≤500)(a:Nd)(hb:BoOk a):
    ∃er pos:Int,∀H,callD (call pg) 99 [.p (.agg sp.cl),.p (paramsP ps),.p (.agg a.cl)] H=some (.val (.p (.agg [.int .i64 er,.int .i64 pos])),H):=by
 obtain⟨er,pos,h1⟩:=check_call sp ok hn (els sp.pr).length ps hps a hb
 have hf:a99=a99:=rfl
 conv at hf=>rhs;reduce
 refine⟨er,pos,callP (aa:=[_,_,_]) hf rfl rfl rfl ?_⟩
 clear hf
 simp[-splice,-fillD,splice2,len_preds,h1]
theorem sameInts_call(x y:Sl Int)(hx:(els x).length<4611686018427387904):∃r:Bool,∀H,callD (call pg) 151 [.p (intsP x),.p (intsP y)] H=some (.val (.p (.bool r)),H):=by
 have hb0:bd a151 0=bd a151 0:=rfl
 conv at hb0=>rhs;reduce
 have hf:a151=a151:=rfl
 conv at hf=>rhs;reduce
 rw[←hb0] at hf
 by_cases h0:(els x).length=(els y).length
 ·have key:=loopC (c:=call pg) (G:=pg.G) (keep:=[0,1,5]) (b:=bd a151 0) (fun i=>[(0,.p (intsP x)),(1,.p (intsP y)),(5,.p (.int .i64 ((i:Nat):Int)))]) ⟨[],[]⟩ (els x).length (fun _=>True) 0 (fun _=>True) (fun e=>e.get 4= .p (.bool false))
   (fun i hi=>by
    have hi2:i<(els y).length:=by omega
    have ha:=ia_ints hi
    have hb:=ia_ints hi2
    have k1:=inc64 (k:=i) (by omega)
    generalize (els x)[i]=u at *
    generalize (els y)[i]=v at *
    rw[hb0];clear hf hb0
    by_cases hc:u=v
    ·subst hc
     simp[len_ints,hi,ha,hb,k1]
    ·simp[len_ints,hi,ha,hb,hc])
   (by
    rw[hb0];clear hf hb0
    simp[len_ints])
  rcases key with⟨e,hx,-,-⟩ |⟨e,hx,h4⟩
  ·simp at hx
   refine⟨true,callP (aa:=[_,_]) hf rfl rfl rfl ?_⟩
   clear hf hb0
   simp[len_ints,h0,hx]
   try simp[←h0,hx]
  ·simp at hx
   refine⟨false,callP (aa:=[_,_]) hf rfl rfl rfl ?_⟩
   clear hf hb0
   simp[len_ints,h0,hx,h4]
   try simp[←h0,hx,h4]
 ·refine⟨false,callP (aa:=[_,_]) hf rfl rfl rfl ?_⟩
  clear hf hb0
  have h1:¬((els x).length:Int)=((els y).length:Int):=by omega
  simp[len_ints,h1]
end Go.Proofs.YtgplgbonlnodeaaGreatDoor
namespace Go.Proofs.YtgplgbonlnodeaaGreatDoor
open Go.Vs
set_option maxRecDepth 100000
set_option maxHeartbeats 4000000
def Rw(c n:Nat)(d:D)(rest:List (List D)):Prop:=
 rest.length≤n+c∧(∀cs∈rest,∃ys:List PD,cs=ys.map D.p)∧((d= .p (.nils)∧n=0)∨∃(i:Nat) (ys:List PD),d= .gsl (i+1) 168 n 2∧rest[i]? =some (ys.map D.p)∧ys.length=n*2∧0<n)
theorem rw_app{c n:Nat}{d:D}{rest:List (List D)}(h:Rw c n d rest)(hn:n<1000)(b0:List D)(k:List Nat)(x y:PD):
    ∃d' rest',appendgD 168 2 16 d 1 [.p x,.p y] ⟨b0::rest,k⟩=some (d',⟨b0::rest',k⟩)∧Rw c (n+1) d' rest':=by
 have hr1:roomy 1 16=true:=by decide
 have hr:roomy (n+1) 16=true:=by
  simp only[roomy,Bool.and_eq_true,decide_eq_true_eq];omega
 obtain⟨hlen,hpl,h⟩:=h
 rcases h with⟨rfl,rfl⟩ |⟨i,ys,rfl,hi,hy,hn0⟩
 ·refine⟨.gsl (rest.length+1) 168 1 2,rest++[[.p x,.p y]],?_,by simp;omega,fun cs hcs=>?_,.inr ⟨rest.length,[x,y],rfl,by simp,rfl,by omega⟩⟩
  ·simp[appendgD,fullD,hr1]
  ·rcases List.mem_append.1 hcs with h |h
   ·exact hpl cs h
   ·exact⟨[x,y],by simpa using h⟩
 ·have hil:i<rest.length:=(List.getElem?_eq_some_iff.1 hi).1
  refine⟨.gsl (rest.length+1) 168 (n+1) 2,rest.set i []++[(ys++[x,y]).map D.p],?_,by simp;omega,fun cs hcs=>?_,.inr ⟨rest.length,ys++[x,y],rfl,?_,by simp[hy];omega,by omega⟩⟩
  ·have h1:(b0::rest)[i+1]? =some (ys.map D.p):=by simpa using hi
   have h2:¬(n+1)*2≤n*2:=by omega
   have h3:ys≠[]:=fun e=>by rw[e] at hy;simp at hy;omega
   have h4:List.take (n*2) (ys.map D.p)=ys.map D.p:=List.take_of_length_le (by simp[hy])
   have h5:List.take (n*2) ys=ys:=List.take_of_length_le (by simp[hy])
   simp[appendgD,hi,hy,h2,h3,hr,h4]
  ·rcases List.mem_append.1 hcs with h |h
   ·rcases List.mem_or_eq_of_mem_set h with h |rfl
    ·exact hpl cs h
    ·exact⟨[],rfl⟩
   ·exact⟨ys++[x,y],by simpa using h⟩
  ·simp
theorem decl_in1(sp:Sp)(i:Nat)(hi:i<(els sp.so).length)(hs:(els sp.so).length<4611686018427387904)(d:D)(rest:List (List D)):
    post (fun o e H=>o= .exit 2∧H=⟨sp.cl.map .p::rest,[]⟩∧e.get 1= .box 0 0∧e.get 3=d∧e.get 4= .p (.int .i64 ((i:Nat):Int))∧∃b:Bool,e.get 5= .p (.bool b))
     (loopK (call pg) pg.G [1,3,4,5,6] (bd a97 1) ⟨[(1,.box 0 0),(3,d),(4,.p (.int .i64 ((i:Nat):Int))),(5,.p (.bool false)),(6,.p (.int .i64 (0)))],⟨sp.cl.map .p::rest,[]⟩⟩):=by
 refine loopW (c:=call pg) (G:=pg.G) (keep:=[1,3,4,5,6]) (b:=bd a97 1) (σ:=Nat×Bool) (fun s=>[(1,.box 0 0),(3,d),(4,.p (.int .i64 ((i:Nat):Int))),(5,.p (.bool s.2)),(6,.p (.int .i64 ((s.1:Nat):Int)))]) (fun _=>⟨sp.cl.map .p::rest,[]⟩) (fun s=>i-s.1) (fun s=>s.1≤i) _ ?_ (0,false) (Nat.zero_le _)
 rintro⟨j,b⟩ hj
 dsimp only at hj⊢
 by_cases h:j<i
 ·have ha:=ia_sorts (s:=sp.so) hi
  have hb:=ia_sorts (s:=sp.so) (k:=j) (by omega)
  have k1:=inc64 (k:=j) (by omega)
  generalize (els sp.so)[i]=u at *
  generalize (els sp.so)[j]'(by omega)=v at *
  obtain⟨b',hb'⟩:∃b':Bool,b'=(b||decide (v.nm=u.nm)):=⟨_,rfl⟩
  refine post_mono (Q:=nx [1,3,4,5,6] [(1,.box 0 0),(3,d),(4,.p (.int .i64 ((i:Nat):Int))),(5,.p (.bool b')),(6,.p (.int .i64 ((j+1 :Nat):Int)))] ⟨sp.cl.map .p::rest,[]⟩) ?_ fun o e H hh=>.inl ⟨(j+1,b'),by dsimp only;omega,by dsimp only;omega,hh⟩
  subst hb'
  have hb3:bd a97 3=bd a97 3:=rfl
  conv at hb3=>rhs;reduce
  have hb2:bd a97 2=bd a97 2:=rfl
  conv at hb2=>rhs;reduce
  rw[←hb3] at hb2
  have hb1:bd a97 1=bd a97 1:=rfl
  conv at hb1=>rhs;reduce
  have hb0:bd a97 0=bd a97 0:=rfl
  conv at hb0=>rhs;reduce
  rw[←hb1] at hb0
  have hf:a97=a97:=rfl
  conv at hf=>rhs;reduce
  rw[←hb3] at hf
  rw[←hb2] at hf
  rw[←hb1] at hf
  rw[←hb0] at hf
  rw[hb1];clear hf hb0 hb1 hb2 hb3
  cases b with
  |true=>simp[h,k1]
  |false=>
   by_cases hc:v.nm=u.nm
   ·simp[h,ha,hb,k1,hc]
   ·simp[h,ha,hb,k1,hc]
 ·have :j=i:=by omega
  subst this
  refine post_mono (Q:=fun o e H=>o= .exit 2∧H=⟨sp.cl.map .p::rest,[]⟩∧e.get 1= .box 0 0∧e.get 3=d∧e.get 4= .p (.int .i64 ((j:Nat):Int))∧e.get 5= .p (.bool b)) ?_ ?_
  ·skip
   have hb3:bd a97 3=bd a97 3:=rfl
   conv at hb3=>rhs;reduce
   have hb2:bd a97 2=bd a97 2:=rfl
   conv at hb2=>rhs;reduce
   rw[←hb3] at hb2
   have hb1:bd a97 1=bd a97 1:=rfl
   conv at hb1=>rhs;reduce
   have hb0:bd a97 0=bd a97 0:=rfl
   conv at hb0=>rhs;reduce
   rw[←hb1] at hb0
   have hf:a97=a97:=rfl
   conv at hf=>rhs;reduce
   rw[←hb3] at hf
   rw[←hb2] at hf
   rw[←hb1] at hf
   rw[←hb0] at hf
   rw[hb1];clear hf hb0 hb1 hb2 hb3
   simp
  ·rintro o e H ⟨rfl,q1,q2,q3,q4,q5⟩
   exact .inr ⟨by simp,rfl,q1,q2,q3,q4,b,q5⟩
end Go.Proofs.YtgplgbonlnodeaaGreatDoor
namespace Go.Proofs.YtgplgbonlnodeaaGreatDoor
open Go.Vs
set_option maxRecDepth 100000
set_option maxHeartbeats 4000000
theorem srcC_fsl{H:Hp}{e sz:Nat}{es:List PD}:srcC H sz (.fsl e sz es)=some (es.length,(es.flatMap PD.cells).map .p):=by simp[srcC,srcD,D.elems?]
theorem decl_in2(sp:Sp)(ok:∀f∈els sp.fi,FieldOk (els sp.so).length (els f.so))(i:Nat)(hi:i<(els sp.fi).length)(hs:(els sp.fi).length<4611686018427387904)(d:D)(rest:List (List D)):
    post (fun o e H=>o= .exit 6∧H=⟨sp.cl.map .p::rest,[]⟩∧e.get 1= .box 0 0∧e.get 3=d∧e.get 7= .p (.int .i64 ((i:Nat):Int))∧∃b:Bool,e.get 8= .p (.bool b))
     (loopK (call pg) pg.G [1,3,7,8,9] (bd a97 3) ⟨[(1,.box 0 0),(3,d),(7,.p (.int .i64 ((i:Nat):Int))),(8,.p (.bool false)),(9,.p (.int .i64 (0)))],⟨sp.cl.map .p::rest,[]⟩⟩):=by
 refine loopW (c:=call pg) (G:=pg.G) (keep:=[1,3,7,8,9]) (b:=bd a97 3) (σ:=Nat×Bool) (fun s=>[(1,.box 0 0),(3,d),(7,.p (.int .i64 ((i:Nat):Int))),(8,.p (.bool s.2)),(9,.p (.int .i64 ((s.1:Nat):Int)))]) (fun _=>⟨sp.cl.map .p::rest,[]⟩) (fun s=>i-s.1) (fun s=>s.1≤i) _ ?_ (0,false) (Nat.zero_le _)
 rintro⟨j,b⟩ hj
 dsimp only at hj⊢
 by_cases h:j<i
 ·have ha:=ia_fields (s:=sp.fi) hi
  have hb:=ia_fields (s:=sp.fi) (k:=j) (by omega)
  have k1:=inc64 (k:=j) (by omega)
  have hf3:=(ok _ (List.getElem_mem (h:=(by omega:j<(els sp.fi).length)))).2.2
  obtain⟨r,hr⟩:=sameInts_call ((els sp.fi)[j]'(by omega)).so (els sp.fi)[i].so (by omega)
  clear hf3
  generalize (els sp.fi)[i]=u at *
  generalize (els sp.fi)[j]'(by omega)=v at *
  obtain⟨b',hb'⟩:∃b':Bool,b'=(b||(decide (v.nm=u.nm)&&r)):=⟨_,rfl⟩
  refine post_mono (Q:=nx [1,3,7,8,9] [(1,.box 0 0),(3,d),(7,.p (.int .i64 ((i:Nat):Int))),(8,.p (.bool b')),(9,.p (.int .i64 ((j+1 :Nat):Int)))] ⟨sp.cl.map .p::rest,[]⟩) ?_ fun o e H hh=>.inl ⟨(j+1,b'),by dsimp only;omega,by dsimp only;omega,hh⟩
  subst hb'
  have hb3:bd a97 3=bd a97 3:=rfl
  conv at hb3=>rhs;reduce
  have hb2:bd a97 2=bd a97 2:=rfl
  conv at hb2=>rhs;reduce
  rw[←hb3] at hb2
  have hb1:bd a97 1=bd a97 1:=rfl
  conv at hb1=>rhs;reduce
  have hb0:bd a97 0=bd a97 0:=rfl
  conv at hb0=>rhs;reduce
  rw[←hb1] at hb0
  have hf:a97=a97:=rfl
  conv at hf=>rhs;reduce
  rw[←hb3] at hf
  rw[←hb2] at hf
  rw[←hb1] at hf
  rw[←hb0] at hf
  rw[hb3];clear hf hb0 hb1 hb2 hb3
  cases b with
  |true=>simp[h,k1]
  |false=>
   by_cases hc:v.nm=u.nm
   ·simp[h,ha,hb,k1,hc,hr]
   ·simp[h,ha,hb,k1,hc]
 ·have :j=i:=by omega
  subst this
  refine post_mono (Q:=fun o e H=>o= .exit 6∧H=⟨sp.cl.map .p::rest,[]⟩∧e.get 1= .box 0 0∧e.get 3=d∧e.get 7= .p (.int .i64 ((j:Nat):Int))∧e.get 8= .p (.bool b)) ?_ ?_
  ·skip
   have hb3:bd a97 3=bd a97 3:=rfl
   conv at hb3=>rhs;reduce
   have hb2:bd a97 2=bd a97 2:=rfl
   conv at hb2=>rhs;reduce
   rw[←hb3] at hb2
   have hb1:bd a97 1=bd a97 1:=rfl
   conv at hb1=>rhs;reduce
   have hb0:bd a97 0=bd a97 0:=rfl
   conv at hb0=>rhs;reduce
   rw[←hb1] at hb0
   have hf:a97=a97:=rfl
   conv at hf=>rhs;reduce
   rw[←hb3] at hf
   rw[←hb2] at hf
   rw[←hb1] at hf
   rw[←hb0] at hf
   rw[hb3];clear hf hb0 hb1 hb2 hb3
   simp
  ·rintro o e H ⟨rfl,q1,q2,q3,q4,q5⟩
   exact .inr ⟨by simp,rfl,q1,q2,q3,q4,b,q5⟩
theorem decl_out1(sp:Sp)(hs:(els sp.so).length≤4):
    post (fun o e H=>o= .exit 0∧e.get 1= .box 0 0∧∃(n:Nat) (d:D) (rest:List (List D)),e.get 3=d∧H=⟨sp.cl.map .p::rest,[]⟩∧Rw 0 n d rest∧n≤4)
     (loopK (call pg) pg.G [1,3,4] (bd a97 0) ⟨[(1,.box 0 0),(3,.p (.nils)),(4,.p (.int .i64 (0)))],⟨[sp.cl.map .p],[]⟩⟩):=by
 refine loopW (c:=call pg) (G:=pg.G) (keep:=[1,3,4]) (b:=bd a97 0) (σ:=Nat×Nat×D×List (List D)) (fun s=>[(1,.box 0 0),(3,s.2.2.1),(4,.p (.int .i64 ((s.1:Nat):Int)))]) (fun s=>⟨sp.cl.map .p::s.2.2.2,[]⟩) (fun s=>(els sp.so).length-s.1) (fun s=>s.1≤(els sp.so).length∧s.2.1≤s.1∧Rw 0 s.2.1 s.2.2.1 s.2.2.2) _ ?_ (0,0,.p (.nils),[]) ⟨Nat.zero_le _,Nat.le_refl _,Nat.le_refl _,fun _ h=>by simp at h,.inl ⟨rfl,rfl⟩⟩
 rintro⟨i,n,d,rest⟩ ⟨hi,hn,hR⟩
 dsimp only at hi hn hR⊢
 by_cases h:i<(els sp.so).length
 ·obtain⟨o,e,H,hx,rfl,rfl,q1,q3,q4,b,q5⟩:=post_get (decl_in1 sp i h (by omega) d rest)
  have k1:=inc64 (k:=i) (by omega)
  simp at hx
  cases b with
  |false=>
   refine post_mono (Q:=nx [1,3,4] [(1,.box 0 0),(3,d),(4,.p (.int .i64 ((i+1 :Nat):Int)))] ⟨sp.cl.map .p::rest,[]⟩) ?_ fun o e H hh=>.inl ⟨(i+1,n,d,rest),⟨by dsimp only;omega,by dsimp only;omega,hR⟩,by dsimp only;omega,hh⟩
   have hb3:bd a97 3=bd a97 3:=rfl
   conv at hb3=>rhs;reduce
   have hb2:bd a97 2=bd a97 2:=rfl
   conv at hb2=>rhs;reduce
   rw[←hb3] at hb2
   have hb1:bd a97 1=bd a97 1:=rfl
   conv at hb1=>rhs;reduce
   have hb0:bd a97 0=bd a97 0:=rfl
   conv at hb0=>rhs;reduce
   rw[←hb1] at hb0
   have hf:a97=a97:=rfl
   conv at hf=>rhs;reduce
   rw[←hb3] at hf
   rw[←hb2] at hf
   rw[←hb1] at hf
   rw[←hb0] at hf
   rw[hb0];clear hf hb0 hb1 hb2 hb3
   simp[len_sorts,h,hx,q1,q3,q4,q5,k1]
  |true=>
   obtain⟨d',rest',hap,hR'⟩:=rw_app hR (by omega) (sp.cl.map .p) [] (.int .i64 41) (.int .i64 0)
   refine post_mono (Q:=nx [1,3,4] [(1,.box 0 0),(3,d'),(4,.p (.int .i64 ((i+1 :Nat):Int)))] ⟨sp.cl.map .p::rest',[]⟩) ?_ fun o e H hh=>.inl ⟨(i+1,n+1,d',rest'),⟨by dsimp only;omega,by dsimp only;omega,hR'⟩,by dsimp only;omega,hh⟩
   simp at hap
   clear hR hR'
   have hb3:bd a97 3=bd a97 3:=rfl
   conv at hb3=>rhs;reduce
   have hb2:bd a97 2=bd a97 2:=rfl
   conv at hb2=>rhs;reduce
   rw[←hb3] at hb2
   have hb1:bd a97 1=bd a97 1:=rfl
   conv at hb1=>rhs;reduce
   have hb0:bd a97 0=bd a97 0:=rfl
   conv at hb0=>rhs;reduce
   rw[←hb1] at hb0
   have hf:a97=a97:=rfl
   conv at hf=>rhs;reduce
   rw[←hb3] at hf
   rw[←hb2] at hf
   rw[←hb1] at hf
   rw[←hb0] at hf
   rw[hb0];clear hf hb0 hb1 hb2 hb3
   simp[len_sorts,h,hx,q1,q3,q4,q5,k1,srcC_fsl,hap]
 ·have :i=(els sp.so).length:=by omega
  subst this
  refine post_mono (Q:=fun o e H=>o= .exit 0∧e.get 1= .box 0 0∧e.get 3=d∧H=⟨sp.cl.map .p::rest,[]⟩) ?_ ?_
  ·skip
   have hb3:bd a97 3=bd a97 3:=rfl
   conv at hb3=>rhs;reduce
   have hb2:bd a97 2=bd a97 2:=rfl
   conv at hb2=>rhs;reduce
   rw[←hb3] at hb2
   have hb1:bd a97 1=bd a97 1:=rfl
   conv at hb1=>rhs;reduce
   have hb0:bd a97 0=bd a97 0:=rfl
   conv at hb0=>rhs;reduce
   rw[←hb1] at hb0
   have hf:a97=a97:=rfl
   conv at hf=>rhs;reduce
   rw[←hb3] at hf
   rw[←hb2] at hf
   rw[←hb1] at hf
   rw[←hb0] at hf
   rw[hb0];clear hf hb0 hb1 hb2 hb3
   simp[len_sorts]
  ·rintro o e H ⟨rfl,q1,q3,rfl⟩
   exact .inr ⟨by simp,rfl,q1,n,d,rest,q3,rfl,hR,by omega⟩
end Go.Proofs.YtgplgbonlnodeaaGreatDoor
namespace Go.Proofs.YtgplgbonlnodeaaGreatDoor
open Go.Vs
set_option maxRecDepth 100000
set_option maxHeartbeats 4000000
theorem decl_out2(sp:Sp)(ok:∀f∈els sp.fi,FieldOk (els sp.so).length (els f.so))(hs:(els sp.fi).length≤6)(n0:Nat)(hn0:n0≤4)(d0:D)(rest0:List (List D))(hR0:Rw 0 n0 d0 rest0):
    post (fun o e H=>o= .exit 4∧e.get 1= .box 0 0∧∃(n:Nat) (d:D) (rest:List (List D)),e.get 3=d∧H=⟨sp.cl.map .p::rest,[]⟩∧Rw 0 n d rest∧n≤10)
     (loopK (call pg) pg.G [1,3,7] (bd a97 2) ⟨[(1,.box 0 0),(3,d0),(7,.p (.int .i64 (0)))],⟨sp.cl.map .p::rest0,[]⟩⟩):=by
 refine loopW (c:=call pg) (G:=pg.G) (keep:=[1,3,7]) (b:=bd a97 2) (σ:=Nat×Nat×D×List (List D)) (fun s=>[(1,.box 0 0),(3,s.2.2.1),(7,.p (.int .i64 ((s.1:Nat):Int)))]) (fun s=>⟨sp.cl.map .p::s.2.2.2,[]⟩) (fun s=>(els sp.fi).length-s.1) (fun s=>s.1≤(els sp.fi).length∧s.2.1≤4+s.1∧Rw 0 s.2.1 s.2.2.1 s.2.2.2) _ ?_ (0,n0,d0,rest0) ⟨Nat.zero_le _,by dsimp only;omega,hR0⟩
 rintro⟨i,n,d,rest⟩ ⟨hi,hn,hR⟩
 dsimp only at hi hn hR⊢
 clear hR0
 by_cases h:i<(els sp.fi).length
 ·obtain⟨o,e,H,hx,rfl,rfl,q1,q3,q4,b,q5⟩:=post_get (decl_in2 sp ok i h (by omega) d rest)
  have k1:=inc64 (k:=i) (by omega)
  simp at hx
  cases b with
  |false=>
   refine post_mono (Q:=nx [1,3,7] [(1,.box 0 0),(3,d),(7,.p (.int .i64 ((i+1 :Nat):Int)))] ⟨sp.cl.map .p::rest,[]⟩) ?_ fun o e H hh=>.inl ⟨(i+1,n,d,rest),⟨by dsimp only;omega,by dsimp only;omega,hR⟩,by dsimp only;omega,hh⟩
   have hb3:bd a97 3=bd a97 3:=rfl
   conv at hb3=>rhs;reduce
   have hb2:bd a97 2=bd a97 2:=rfl
   conv at hb2=>rhs;reduce
   rw[←hb3] at hb2
   have hb1:bd a97 1=bd a97 1:=rfl
   conv at hb1=>rhs;reduce
   have hb0:bd a97 0=bd a97 0:=rfl
   conv at hb0=>rhs;reduce
   rw[←hb1] at hb0
   have hf:a97=a97:=rfl
   conv at hf=>rhs;reduce
   rw[←hb3] at hf
   rw[←hb2] at hf
   rw[←hb1] at hf
   rw[←hb0] at hf
   rw[hb2];clear hf hb0 hb1 hb2 hb3
   simp[len_fields,h,hx,q1,q3,q4,q5,k1]
  |true=>
   obtain⟨d',rest',hap,hR'⟩:=rw_app hR (by omega) (sp.cl.map .p) [] (.int .i64 41) (.int .i64 0)
   refine post_mono (Q:=nx [1,3,7] [(1,.box 0 0),(3,d'),(7,.p (.int .i64 ((i+1 :Nat):Int)))] ⟨sp.cl.map .p::rest',[]⟩) ?_ fun o e H hh=>.inl ⟨(i+1,n+1,d',rest'),⟨by dsimp only;omega,by dsimp only;omega,hR'⟩,by dsimp only;omega,hh⟩
   simp at hap
   clear hR hR'
   have hb3:bd a97 3=bd a97 3:=rfl
   conv at hb3=>rhs;reduce
   have hb2:bd a97 2=bd a97 2:=rfl
   conv at hb2=>rhs;reduce
   rw[←hb3] at hb2
   have hb1:bd a97 1=bd a97 1:=rfl
   conv at hb1=>rhs;reduce
   have hb0:bd a97 0=bd a97 0:=rfl
   conv at hb0=>rhs;reduce
   rw[←hb1] at hb0
   have hf:a97=a97:=rfl
   conv at hf=>rhs;reduce
   rw[←hb3] at hf
   rw[←hb2] at hf
   rw[←hb1] at hf
   rw[←hb0] at hf
   rw[hb2];clear hf hb0 hb1 hb2 hb3
   simp[len_fields,h,hx,q1,q3,q4,q5,k1,srcC_fsl,hap]
 ·have :i=(els sp.fi).length:=by omega
  subst this
  refine post_mono (Q:=fun o e H=>o= .exit 4∧e.get 1= .box 0 0∧e.get 3=d∧H=⟨sp.cl.map .p::rest,[]⟩) ?_ ?_
  ·skip
   have hb3:bd a97 3=bd a97 3:=rfl
   conv at hb3=>rhs;reduce
   have hb2:bd a97 2=bd a97 2:=rfl
   conv at hb2=>rhs;reduce
   rw[←hb3] at hb2
   have hb1:bd a97 1=bd a97 1:=rfl
   conv at hb1=>rhs;reduce
   have hb0:bd a97 0=bd a97 0:=rfl
   conv at hb0=>rhs;reduce
   rw[←hb1] at hb0
   have hf:a97=a97:=rfl
   conv at hf=>rhs;reduce
   rw[←hb3] at hf
   rw[←hb2] at hf
   rw[←hb1] at hf
   rw[←hb0] at hf
   rw[hb2];clear hf hb0 hb1 hb2 hb3
   simp[len_fields]
  ·rintro o e H ⟨rfl,q1,q3,rfl⟩
   exact .inr ⟨by simp,rfl,q1,n,d,rest,q3,rfl,hR,by omega⟩
theorem renL_pl{f g:Nat→Option Nat}:∀ys:List PD,D.renL f g (ys.map D.p)=some (ys.map D.p):=renL_p f g
theorem mapO_pl{f g:Nat→Option Nat}:∀rest:List (List D),(∀cs∈rest,∃ys:List PD,cs=ys.map D.p)→mapO (D.renL f g) rest=some rest
 |[],_=>rfl
 |cs::r,h=>by
  obtain⟨ys,rfl⟩:=h cs List.mem_cons_self
  simp only[mapO,renL_pl,mapO_pl r fun c hc=>h c (List.mem_cons_of_mem _ hc)]
  rfl
theorem declared_call(sp:Sp)(ok:SpOk sp)(b0:List D):∃(n:Nat) (d:D) (rest:List (List D)),Rw 1 n d rest∧n≤10∧callD (call pg) 97 [.p (.agg sp.cl)] ⟨[b0],[]⟩=some (.val d,⟨b0::rest,[]⟩):=by
 obtain⟨o1,e1,H1,hx1,rfl,q1,n1,d1,rest1,q3,rfl,hR1,hn1⟩:=post_get (decl_out1 sp ok.ns)
 obtain⟨o2,e2,H2,hx2,rfl,p1,n,d,rest,p3,rfl,hR,hn⟩:=post_get (decl_out2 sp ok.fd ok.nf n1 hn1 d1 rest1 hR1)
 clear hR1
 have hrun:call pg 97 [.p (.agg sp.cl)] ⟨[],[]⟩=some (.val d,⟨sp.cl.map .p::rest,[]⟩):=by
  simp at hx1 hx2
  have hb3:bd a97 3=bd a97 3:=rfl
  conv at hb3=>rhs;reduce
  have hb2:bd a97 2=bd a97 2:=rfl
  conv at hb2=>rhs;reduce
  rw[←hb3] at hb2
  have hb1:bd a97 1=bd a97 1:=rfl
  conv at hb1=>rhs;reduce
  have hb0:bd a97 0=bd a97 0:=rfl
  conv at hb0=>rhs;reduce
  rw[←hb1] at hb0
  have hf:a97=a97:=rfl
  conv at hf=>rhs;reduce
  rw[←hb3] at hf
  rw[←hb2] at hf
  rw[←hb1] at hf
  rw[←hb0] at hf
  refine call_body rfl hf rfl rfl ?_
  clear hf hb0 hb1 hb2 hb3
  simp[hx1,hx2,q1,q3,p3]
 obtain⟨hlen,hpl,hc⟩:=hR
 rcases hc with⟨rfl,rfl⟩ |⟨i,ys,rfl,hi,hy,hn0⟩
 ·refine⟨0,.p (.nils),[],⟨by simp,fun _ h=>by simp at h,.inl ⟨rfl,rfl⟩⟩,by omega,?_⟩
  simp[callD,reach,boxRefs,boxToks,ins,Vs.nodupB,D.refsL,D.toksL,D.refs,D.toks,D.renL,D.ren,mapO,hrun,back,firstN,Res.ren,putAll]
 ·refine⟨n,.gsl (i+1+1) 168 n 2,sp.cl.map .p::rest,⟨by simp;omega,fun cs hcs=>?_,.inr ⟨i+1,ys,rfl,by simpa using hi,hy,hn0⟩⟩,hn,?_⟩
  ·rcases List.mem_cons.1 hcs with rfl |h
   ·exact⟨sp.cl,rfl⟩
   ·exact hpl cs h
  ·simp[callD,reach,boxRefs,boxToks,ins,Vs.nodupB,D.refsL,D.toksL,D.refs,D.toks,D.renL,D.ren,mapO,hrun,back,firstN,Res.ren,putAll,mapO_pl rest hpl]
   omega
end Go.Proofs.YtgplgbonlnodeaaGreatDoor
namespace Go.Proofs.YtgplgbonlnodeaaGreatDoor
open Go.Vs
set_option maxRecDepth 100000
set_option maxHeartbeats 4000000
def Rt(es:List PD)(d:D)(tk:List Nat):Prop:=
 (∀e∈es,∃a b:Int,e= .agg [.int .i64 a,.int .i64 b])∧((d= .p (.nils)∧es=[]∧tk=[])∨(d= .tsl 0 168 2 es∧tk=[es.length]))
theorem rt_app{es:List PD}{d:D}{tk:List Nat}(h:Rt es d tk)(hn:es.length<1000)(bx:List (List D))(a b:Int):
    ∃d' tk',appendD 168 2 16 d [.agg [.int .i64 a,.int .i64 b]] ⟨bx,tk⟩=some (d',⟨bx,tk'⟩)∧Rt (es++[.agg [.int .i64 a,.int .i64 b]]) d' tk':=by
 have hr:roomy (es.length+1) 16=true:=by
  simp only[roomy,Bool.and_eq_true,decide_eq_true_eq];omega
 have hr1:roomy 1 16=true:=by decide
 obtain⟨hpl,h⟩:=h
 have hpl':∀e∈es++[PD.agg [.int .i64 a,.int .i64 b]],∃a b:Int,e= .agg [.int .i64 a,.int .i64 b]:=fun e he=>by
  rcases List.mem_append.1 he with h |h
  ·exact hpl e h
  ·exact⟨a,b,by simpa using h⟩
 rcases h with⟨rfl,rfl,rfl⟩ |⟨rfl,rfl⟩
 ·exact⟨.tsl 0 168 2 [.agg [.int .i64 a,.int .i64 b]],[1],by simp[appendD,hr1],hpl',.inr ⟨rfl,rfl⟩⟩
 ·exact⟨.tsl 0 168 2 (es++[.agg [.int .i64 a,.int .i64 b]]),[es.length+1],by simp[appendD,hr],hpl',.inr ⟨rfl,by simp⟩⟩
theorem def_in(b0:List D)(ix:D)(ps:Sl Pm)(i:Nat)(hi:i<(els ps).length)(hs:(els ps).length<4611686018427387904)(d:D)(tk:List Nat):
    post (fun o e H=>o= .exit 2∧H=⟨[b0],tk⟩∧e.get 1=ix∧e.get 2= .box 0 0∧e.get 5=d∧e.get 6= .p (paramsP ps)∧e.get 7= .p (.int .i64 ((i:Nat):Int))∧∃b:Bool,e.get 8= .p (.bool b))
     (loopK (call pg) pg.G [1,2,5,6,7,8,9] (bd a98 1) ⟨[(1,ix),(2,.box 0 0),(5,d),(6,.p (paramsP ps)),(7,.p (.int .i64 ((i:Nat):Int))),(8,.p (.bool false)),(9,.p (.int .i64 (0)))],⟨[b0],tk⟩⟩):=by
 refine loopW (c:=call pg) (G:=pg.G) (keep:=[1,2,5,6,7,8,9]) (b:=bd a98 1) (σ:=Nat×Bool) (fun s=>[(1,ix),(2,.box 0 0),(5,d),(6,.p (paramsP ps)),(7,.p (.int .i64 ((i:Nat):Int))),(8,.p (.bool s.2)),(9,.p (.int .i64 ((s.1:Nat):Int)))]) (fun _=>⟨[b0],tk⟩) (fun s=>i-s.1) (fun s=>s.1≤i) _ ?_ (0,false) (Nat.zero_le _)
 rintro⟨j,b⟩ hj
 dsimp only at hj⊢
 by_cases h:j<i
 ·have ha:=ia_params (s:=ps) hi
  have hb:=ia_params (s:=ps) (k:=j) (by omega)
  have k1:=inc64 (k:=j) (by omega)
  generalize (els ps)[i]=u at *
  generalize (els ps)[j]'(by omega)=v at *
  obtain⟨b',hb'⟩:∃b':Bool,b'=(b||decide (v.nm=u.nm)):=⟨_,rfl⟩
  refine post_mono (Q:=nx [1,2,5,6,7,8,9] [(1,ix),(2,.box 0 0),(5,d),(6,.p (paramsP ps)),(7,.p (.int .i64 ((i:Nat):Int))),(8,.p (.bool b')),(9,.p (.int .i64 ((j+1 :Nat):Int)))] ⟨[b0],tk⟩) ?_ fun o e H hh=>.inl ⟨(j+1,b'),by dsimp only;omega,by dsimp only;omega,hh⟩
  subst hb'
  have hb1:bd a98 1=bd a98 1:=rfl
  conv at hb1=>rhs;reduce
  have hb0:bd a98 0=bd a98 0:=rfl
  conv at hb0=>rhs;reduce
  rw[←hb1] at hb0
  have hf:a98=a98:=rfl
  conv at hf=>rhs;reduce
  rw[←hb1] at hf
  rw[←hb0] at hf
  rw[hb1];clear hf hb0 hb1
  cases b with
  |true=>simp[h,k1]
  |false=>
   by_cases hc:v.nm=u.nm
   ·simp[h,ha,hb,k1,hc]
   ·simp[h,ha,hb,k1,hc]
 ·have :j=i:=by omega
  subst this
  refine post_mono (Q:=fun o e H=>o= .exit 2∧H=⟨[b0],tk⟩∧e.get 1=ix∧e.get 2= .box 0 0∧e.get 5=d∧e.get 6= .p (paramsP ps)∧e.get 7= .p (.int .i64 ((j:Nat):Int))∧e.get 8= .p (.bool b)) ?_ ?_
  ·skip
   have hb1:bd a98 1=bd a98 1:=rfl
   conv at hb1=>rhs;reduce
   have hb0:bd a98 0=bd a98 0:=rfl
   conv at hb0=>rhs;reduce
   rw[←hb1] at hb0
   have hf:a98=a98:=rfl
   conv at hf=>rhs;reduce
   rw[←hb1] at hf
   rw[←hb0] at hf
   rw[hb1];clear hf hb0 hb1
   simp
  ·rintro o e H ⟨rfl,q1,q2,q3,q4,q5,q6,q7⟩
   exact .inr ⟨by simp,rfl,q1,q2,q3,q4,q5,q6,b,q7⟩
theorem def_out(b0:List D)(ix:D)(ps:Sl Pm)(hs:(els ps).length≤8)(n0:Nat)(hn0:n0≤1)(d0:D)(tk0:List Nat)(es0:List PD)(hl0:es0.length=n0)(hR0:Rt es0 d0 tk0):
    post (fun o e H=>o= .exit 0∧e.get 1=ix∧e.get 2= .box 0 0∧e.get 6= .p (paramsP ps)∧∃(es:List PD) (d:D) (tk:List Nat),e.get 5=d∧H=⟨[b0],tk⟩∧Rt es d tk∧es.length≤9)
     (loopK (call pg) pg.G [1,2,5,6,7] (bd a98 0) ⟨[(1,ix),(2,.box 0 0),(5,d0),(6,.p (paramsP ps)),(7,.p (.int .i64 (0)))],⟨[b0],tk0⟩⟩):=by
 refine loopW (c:=call pg) (G:=pg.G) (keep:=[1,2,5,6,7]) (b:=bd a98 0) (σ:=Nat×List PD×D×List Nat) (fun s=>[(1,ix),(2,.box 0 0),(5,s.2.2.1),(6,.p (paramsP ps)),(7,.p (.int .i64 ((s.1:Nat):Int)))]) (fun s=>⟨[b0],s.2.2.2⟩) (fun s=>(els ps).length-s.1) (fun s=>s.1≤(els ps).length∧s.2.1.length≤1+s.1∧Rt s.2.1 s.2.2.1 s.2.2.2) _ ?_ (0,es0,d0,tk0) ⟨Nat.zero_le _,by dsimp only;omega,hR0⟩
 rintro⟨i,es,d,tk⟩ ⟨hi,hn,hR⟩
 dsimp only at hi hn hR⊢
 clear hR0
 by_cases h:i<(els ps).length
 ·obtain⟨o,e,H,hx,rfl,rfl,q1,q2,q3,q4,q5,b,q6⟩:=post_get (def_in b0 ix ps i h (by omega) d tk)
  have k1:=inc64 (k:=i) (by omega)
  cases b with
  |false=>
   refine post_mono (Q:=nx [1,2,5,6,7] [(1,ix),(2,.box 0 0),(5,d),(6,.p (paramsP ps)),(7,.p (.int .i64 ((i+1 :Nat):Int)))] ⟨[b0],tk⟩) ?_ fun o e H hh=>.inl ⟨(i+1,es,d,tk),⟨by dsimp only;omega,by dsimp only;omega,hR⟩,by dsimp only;omega,hh⟩
   have hb1:bd a98 1=bd a98 1:=rfl
   conv at hb1=>rhs;reduce
   have hb0:bd a98 0=bd a98 0:=rfl
   conv at hb0=>rhs;reduce
   rw[←hb1] at hb0
   have hf:a98=a98:=rfl
   conv at hf=>rhs;reduce
   rw[←hb1] at hf
   rw[←hb0] at hf
   rw[hb0];clear hf hb0 hb1
   simp[len_params,h,hx,q1,q2,q3,q4,q5,q6,k1]
  |true=>
   obtain⟨d',tk',hap,hR'⟩:=rt_app hR (by omega) [b0] 41 0
   refine post_mono (Q:=nx [1,2,5,6,7] [(1,ix),(2,.box 0 0),(5,d'),(6,.p (paramsP ps)),(7,.p (.int .i64 ((i+1 :Nat):Int)))] ⟨[b0],tk'⟩) ?_ fun o e H hh=>.inl ⟨(i+1,es++[.agg [.int .i64 41,.int .i64 0]],d',tk'),⟨by dsimp only;omega,by simp;omega,hR'⟩,by dsimp only;omega,hh⟩
   clear hR hR'
   have hb1:bd a98 1=bd a98 1:=rfl
   conv at hb1=>rhs;reduce
   have hb0:bd a98 0=bd a98 0:=rfl
   conv at hb0=>rhs;reduce
   rw[←hb1] at hb0
   have hf:a98=a98:=rfl
   conv at hf=>rhs;reduce
   rw[←hb1] at hf
   rw[←hb0] at hf
   rw[hb0];clear hf hb0 hb1
   simp[-appendD,-srcD,len_params,h,hx,q1,q2,q3,q4,q5,q6,k1,src_fsl,hap]
 ·have :i=(els ps).length:=by omega
  subst this
  refine post_mono (Q:=fun o e H=>o= .exit 0∧e.get 1=ix∧e.get 2= .box 0 0∧e.get 6= .p (paramsP ps)∧e.get 5=d∧H=⟨[b0],tk⟩) ?_ ?_
  ·skip
   have hb1:bd a98 1=bd a98 1:=rfl
   conv at hb1=>rhs;reduce
   have hb0:bd a98 0=bd a98 0:=rfl
   conv at hb0=>rhs;reduce
   rw[←hb1] at hb0
   have hf:a98=a98:=rfl
   conv at hf=>rhs;reduce
   rw[←hb1] at hf
   rw[←hb0] at hf
   rw[hb0];clear hf hb0 hb1
   simp[len_params]
  ·rintro o e H ⟨rfl,q1,q2,q3,q4,rfl⟩
   exact .inr ⟨by simp,rfl,q1,q2,q3,es,d,tk,q4,rfl,hR,by omega⟩
end Go.Proofs.YtgplgbonlnodeaaGreatDoor
namespace Go.Proofs.YtgplgbonlnodeaaGreatDoor
open Go.Vs
set_option maxRecDepth 100000
set_option maxHeartbeats 4000000
def Er(y:PD)(es:List PD):Prop:=(∀e∈es,∃a b:Int,e= .agg [.int .i64 a,.int .i64 b])∧((y= .nils∧es=[])∨y= .slice 2 es)
theorem defined_call(sp:Sp)(ok:SpOk sp)(hn:NmOk sp)(i:Nat)(hi:i<(els sp.pr).length):
    ∃(y:PD) (es:List PD),Er y es∧es.length≤10∧∀H,callD (call pg) 98 [.p (.agg sp.cl),.p (.int .i64 ((i:Nat):Int))] H=some (.val (.p y),H):=by
 have hpl:(els sp.pr).length<4611686018427387904:=by have:=ok.np;omega
 have hia:=ia_preds hi
 have hq:=ok.pd _ (List.getElem_mem hi)
 generalize (els sp.pr)[i]=q at *
 obtain⟨p,c1,-⟩:=pred_call sp hpl i q.nm
 obtain⟨er,pos,c2⟩:=check_call sp ok hn i q.ps (by have:=hq.1.1;omega) q.bo hq.2
 have key:=fun n0 h0 d0 tk0 es0 hl0 hR0=>def_out (sp.cl.map .p) (.p (.int .i64 ((i:Nat):Int))) q.ps hq.1.1 n0 h0 d0 tk0 es0 hl0 hR0
 have fin:∀es y,Er y es→es.length≤10→post (gives true [.t 4] (.p y)) (evS (call pg) pg.G iterX ((a98.map fun f=>f.body).getD .skip) ⟨entry 0 [.p (.agg sp.cl),.p (.int .i64 ((i:Nat):Int))],⟨[],[]⟩⟩)→
     ∃(y:PD) (es:List PD),Er y es∧es.length≤10∧∀H,callD (call pg) 98 [.p (.agg sp.cl),.p (.int .i64 ((i:Nat):Int))] H=some (.val (.p y),H):=by
  intro es y h1 h2 hr
  have hb1:bd a98 1=bd a98 1:=rfl
  conv at hb1=>rhs;reduce
  have hb0:bd a98 0=bd a98 0:=rfl
  conv at hb0=>rhs;reduce
  rw[←hb1] at hb0
  have hf:a98=a98:=rfl
  conv at hf=>rhs;reduce
  rw[←hb1] at hf
  rw[←hb0] at hf
  rw[hf] at hr
  exact⟨y,es,h1,h2,callP (aa:=[_,_]) hf rfl rfl rfl hr⟩
 have hb1:bd a98 1=bd a98 1:=rfl
 conv at hb1=>rhs;reduce
 have hb0:bd a98 0=bd a98 0:=rfl
 conv at hb0=>rhs;reduce
 rw[←hb1] at hb0
 have hf:a98=a98:=rfl
 conv at hf=>rhs;reduce
 rw[←hb1] at hf
 rw[←hb0] at hf
 rw[hf] at fin
 simp only[Option.map_some,Option.getD_some] at fin
 clear hf hb0 hb1
 clear hq
 by_cases g:0≤p
 ·obtain⟨o,e,H,hx,rfl,q1,q2,q6,es,d,tk,q5,rfl,hR,hl⟩:=post_get (key 1 (by omega) (.tsl 0 168 2 [.agg [.int .i64 41,.int .i64 0]]) [1] [.agg [.int .i64 41,.int .i64 0]] rfl ⟨fun e he=>⟨41,0,by simpa using he⟩,.inr ⟨rfl,rfl⟩⟩)
  clear key
  simp at hx
  have hr1:roomy 1 16=true:=by decide
  by_cases e0:er=0
  ·subst e0
   obtain⟨hpl,hc⟩:=hR
   rcases hc with⟨rfl,rfl,rfl⟩ |⟨rfl,rfl⟩
   ·refine fin [] .nils ⟨hpl,.inl ⟨rfl,rfl⟩⟩ (by simp) ?_
    clear fin
    simp[hia,c1,c2,g,hr1,hx,q1,q2,q5,q6]
   ·refine fin es (.slice 2 es) ⟨hpl,.inr rfl⟩ (by omega) ?_
    clear fin
    simp[hia,c1,c2,g,hr1,hx,q1,q2,q5,q6]
  ·obtain⟨d',tk',hap,hpl,hc⟩:=rt_app hR (by omega) [sp.cl.map .p,[.p (.int .i64 (er)),.p (.int .i64 (pos))]] er pos
   simp[-appendD] at hap
   rcases hc with⟨_,h,_⟩ |⟨rfl,rfl⟩
   ·simp at h
   ·refine fin _ (.slice 2 (es++[.agg [.int .i64 er,.int .i64 pos]])) ⟨hpl,.inr rfl⟩ (by simp;omega) ?_
    clear fin
    have hr2:appendD 168 2 16 (.p (.nils)) [.agg [.int .i64 41,.int .i64 0]] ⟨[sp.cl.map .p],[]⟩=some (.tsl 0 168 2 [.agg [.int .i64 41,.int .i64 0]],⟨[sp.cl.map .p],[1]⟩):=by simp[appendD,hr1]
    simp[-appendD] at hr2
    simp[-appendD,hia,c1,c2,g,e0,hx,q1,q2,q5,q6,hap,hr2]
 ·obtain⟨o,e,H,hx,rfl,q1,q2,q6,es,d,tk,q5,rfl,hR,hl⟩:=post_get (key 0 (by omega) (.p (.nils)) [] [] rfl ⟨fun e he=>by simp at he,.inl ⟨rfl,rfl,rfl⟩⟩)
  clear key
  simp at hx
  by_cases e0:er=0
  ·subst e0
   obtain⟨hpl,hc⟩:=hR
   rcases hc with⟨rfl,rfl,rfl⟩ |⟨rfl,rfl⟩
   ·refine fin [] .nils ⟨hpl,.inl ⟨rfl,rfl⟩⟩ (by simp) ?_
    clear fin
    simp[hia,c1,c2,g,hx,q1,q2,q5,q6]
   ·refine fin es (.slice 2 es) ⟨hpl,.inr rfl⟩ (by omega) ?_
    clear fin
    simp[hia,c1,c2,g,hx,q1,q2,q5,q6]
  ·obtain⟨d',tk',hap,hpl,hc⟩:=rt_app hR (by omega) [sp.cl.map .p,[.p (.int .i64 (er)),.p (.int .i64 (pos))]] er pos
   simp[-appendD] at hap
   rcases hc with⟨_,h,_⟩ |⟨rfl,rfl⟩
   ·simp at h
   ·refine fin _ (.slice 2 (es++[.agg [.int .i64 er,.int .i64 pos]])) ⟨hpl,.inr rfl⟩ (by simp;omega) ?_
    clear fin
    simp[-appendD,hia,c1,c2,g,e0,hx,q1,q2,q5,q6,hap]
end Go.Proofs.YtgplgbonlnodeaaGreatDoor
namespace Go.Proofs.YtgplgbonlnodeaaGreatDoor
open Go.Vs
set_option maxRecDepth 100000
set_option maxHeartbeats 4000000
theorem rw_appN{c n m:Nat}{d:D}{rest:List (List D)}(h:Rw c n d rest)(hn:n+m<1000)(b0:List D)(k:List Nat)(xs:List PD)(hx:xs.length=m*2):
    ∃d' rest',appendgD 168 2 16 d m (xs.map D.p) ⟨b0::rest,k⟩=some (d',⟨b0::rest',k⟩)∧Rw c (n+m) d' rest':=by
 by_cases hm:m=0
 ·subst hm
  refine⟨d,rest,?_,h⟩
  obtain⟨_,_,h⟩:=h
  rcases h with⟨rfl,rfl⟩ |⟨i,ys,rfl,hi,hy,hn0⟩
  ·simp[appendgD,fullD]
  ·simp[appendgD]
 have hr1:roomy m 16=true:=by
  simp only[roomy,Bool.and_eq_true,decide_eq_true_eq];omega
 have hr:roomy (n+m) 16=true:=by
  simp only[roomy,Bool.and_eq_true,decide_eq_true_eq];omega
 obtain⟨hlen,hpl,h⟩:=h
 rcases h with⟨rfl,rfl⟩ |⟨i,ys,rfl,hi,hy,hn0⟩
 ·refine⟨.gsl (rest.length+1) 168 m 2,rest++[xs.map D.p],?_,by simp;omega,fun cs hcs=>?_,.inr ⟨rest.length,xs,by simp,by simp,by omega,by omega⟩⟩
  ·simp[appendgD,fullD,hr1,hm]
  ·rcases List.mem_append.1 hcs with h |h
   ·exact hpl cs h
   ·exact⟨xs,by simpa using h⟩
 ·have hil:i<rest.length:=(List.getElem?_eq_some_iff.1 hi).1
  refine⟨.gsl (rest.length+1) 168 (n+m) 2,rest.set i []++[(ys++xs).map D.p],?_,by simp;omega,fun cs hcs=>?_,.inr ⟨rest.length,ys++xs,rfl,?_,by simp[hy,hx];omega,by omega⟩⟩
  ·have h2:¬(n+m)*2≤n*2:=by omega
   have h3:ys≠[]:=fun e=>by rw[e] at hy;simp at hy;omega
   have h4:List.take (n*2) (ys.map D.p)=ys.map D.p:=List.take_of_length_le (by simp[hy])
   have h5:List.take (n*2) ys=ys:=List.take_of_length_le (by simp[hy])
   simp[appendgD,hi,hy,h2,h3,hr,h4,hm]
  ·rcases List.mem_append.1 hcs with h |h
   ·rcases List.mem_or_eq_of_mem_set h with h |rfl
    ·exact hpl cs h
    ·exact⟨[],rfl⟩
   ·exact⟨ys++xs,by simpa using h⟩
  ·simp
theorem flat_len:∀es:List PD,(∀e∈es,∃a b:Int,e= .agg [.int .i64 a,.int .i64 b])→(es.flatMap PD.cells).length=es.length*2
 |[],_=>rfl
 |e::es,h=>by
  obtain⟨a,b,rfl⟩:=h e List.mem_cons_self
  have:=flat_len es fun e he=>h e (List.mem_cons_of_mem _ he)
  simp only[List.flatMap_cons,List.length_append,this,pcells_agg,List.length_cons,List.length_nil]
  omega
theorem er_src{y:PD}{es:List PD}(h:Er y es):∃xs:List PD,xs.length=es.length*2∧∀H,srcC H 2 (.p y)=some (es.length,xs.map D.p):=by
 obtain⟨hpl,h⟩:=h
 rcases h with⟨rfl,rfl⟩ |rfl
 ·exact⟨[],rfl,fun H=>by simp[srcC,srcD]⟩
 ·exact⟨es.flatMap PD.cells,flat_len es hpl,fun H=>by simp[srcC,srcD,D.elems?]⟩
theorem check_out1(sp:Sp)(ok:SpOk sp)(hn:NmOk sp)(n0:Nat)(hn0:n0≤10)(d0:D)(rest0:List (List D))(hR0:Rw 1 n0 d0 rest0):
    post (fun o e H=>o= .exit 0∧e.get 1= .box 0 0∧∃(n:Nat) (d:D) (rest:List (List D)),e.get 3=d∧H=⟨sp.cl.map .p::rest,[]⟩∧Rw 1 n d rest∧n≤90)
     (loopK (call pg) pg.G [1,3,4] (bd a49 0) ⟨[(1,.box 0 0),(3,d0),(4,.p (.int .i64 (0)))],⟨sp.cl.map .p::rest0,[]⟩⟩):=by
 have hpl:=ok.np
 refine loopW (c:=call pg) (G:=pg.G) (keep:=[1,3,4]) (b:=bd a49 0) (σ:=Nat×Nat×D×List (List D)) (fun s=>[(1,.box 0 0),(3,s.2.2.1),(4,.p (.int .i64 ((s.1:Nat):Int)))]) (fun s=>⟨sp.cl.map .p::s.2.2.2,[]⟩) (fun s=>(els sp.pr).length-s.1) (fun s=>s.1≤(els sp.pr).length∧s.2.1≤10+10*s.1∧Rw 1 s.2.1 s.2.2.1 s.2.2.2) _ ?_ (0,n0,d0,rest0) ⟨Nat.zero_le _,by dsimp only;omega,hR0⟩
 rintro⟨i,n,d,rest⟩ ⟨hi,hn',hR⟩
 dsimp only at hi hn' hR⊢
 clear hR0
 by_cases h:i<(els sp.pr).length
 ·obtain⟨y,es,hE,hl,hc⟩:=defined_call sp ok hn i h
  obtain⟨xs,hxl,hsrc⟩:=er_src hE
  have k1:=inc64 (k:=i) (by omega)
  obtain⟨d',rest',hap,hR'⟩:=rw_appN hR (by omega) (sp.cl.map .p) [] xs hxl
  refine post_mono (Q:=nx [1,3,4] [(1,.box 0 0),(3,d'),(4,.p (.int .i64 ((i+1 :Nat):Int)))] ⟨sp.cl.map .p::rest',[]⟩) ?_ fun o e H hh=>.inl ⟨(i+1,n+es.length,d',rest'),⟨by dsimp only;omega,by dsimp only;omega,hR'⟩,by dsimp only;omega,hh⟩
  simp only[List.map_cons,List.map_nil] at hap
  clear hR hR' hE
  generalize xs.map D.p=ys at *
  have hb2:bd a49 2=bd a49 2:=rfl
  conv at hb2=>rhs;reduce
  have hb1:bd a49 1=bd a49 1:=rfl
  conv at hb1=>rhs;reduce
  rw[←hb2] at hb1
  have hb0:bd a49 0=bd a49 0:=rfl
  conv at hb0=>rhs;reduce
  have hf:a49=a49:=rfl
  conv at hf=>rhs;reduce
  rw[←hb2] at hf
  rw[←hb1] at hf
  rw[←hb0] at hf
  rw[hb0];clear hf hb0 hb1 hb2
  simp[-srcD,len_preds,h,hc,k1,hsrc,hap]
 ·have :i=(els sp.pr).length:=by omega
  subst this
  refine post_mono (Q:=fun o e H=>o= .exit 0∧e.get 1= .box 0 0∧e.get 3=d∧H=⟨sp.cl.map .p::rest,[]⟩) ?_ ?_
  ·skip
   have hb2:bd a49 2=bd a49 2:=rfl
   conv at hb2=>rhs;reduce
   have hb1:bd a49 1=bd a49 1:=rfl
   conv at hb1=>rhs;reduce
   rw[←hb2] at hb1
   have hb0:bd a49 0=bd a49 0:=rfl
   conv at hb0=>rhs;reduce
   have hf:a49=a49:=rfl
   conv at hf=>rhs;reduce
   rw[←hb2] at hf
   rw[←hb1] at hf
   rw[←hb0] at hf
   rw[hb0];clear hf hb0 hb1 hb2
   simp[len_preds]
  ·rintro o e H ⟨rfl,q1,q3,rfl⟩
   exact .inr ⟨by simp,rfl,q1,n,d,rest,q3,rfl,hR,by omega⟩
end Go.Proofs.YtgplgbonlnodeaaGreatDoor
namespace Go.Proofs.YtgplgbonlnodeaaGreatDoor
open Go.Vs
set_option maxRecDepth 100000
set_option maxHeartbeats 4000000
theorem chk_in(sp:Sp)(i:Nat)(hi:i<(els sp.fa).length)(hs:(els sp.fa).length<4611686018427387904)(d:D)(rest:List (List D)):
    post (fun o e H=>o= .exit 4∧H=⟨sp.cl.map .p::rest,[]⟩∧e.get 1= .box 0 0∧e.get 3=d∧e.get 5= .p (.int .i64 ((i:Nat):Int))∧∃b:Bool,e.get 6= .p (.bool b))
     (loopK (call pg) pg.G [1,3,5,6,7] (bd a49 2) ⟨[(1,.box 0 0),(3,d),(5,.p (.int .i64 ((i:Nat):Int))),(6,.p (.bool false)),(7,.p (.int .i64 (0)))],⟨sp.cl.map .p::rest,[]⟩⟩):=by
 refine loopW (c:=call pg) (G:=pg.G) (keep:=[1,3,5,6,7]) (b:=bd a49 2) (σ:=Nat×Bool) (fun s=>[(1,.box 0 0),(3,d),(5,.p (.int .i64 ((i:Nat):Int))),(6,.p (.bool s.2)),(7,.p (.int .i64 ((s.1:Nat):Int)))]) (fun _=>⟨sp.cl.map .p::rest,[]⟩) (fun s=>i-s.1) (fun s=>s.1≤i) _ ?_ (0,false) (Nat.zero_le _)
 rintro⟨j,b⟩ hj
 dsimp only at hj⊢
 by_cases h:j<i
 ·have ha:=ia_facts (s:=sp.fa) hi
  have hb:=ia_facts (s:=sp.fa) (k:=j) (by omega)
  have k1:=inc64 (k:=j) (by omega)
  generalize (els sp.fa)[i]=u at *
  generalize (els sp.fa)[j]'(by omega)=v at *
  obtain⟨b',hb'⟩:∃b':Bool,b'=(b||decide (v.nm=u.nm)):=⟨_,rfl⟩
  refine post_mono (Q:=nx [1,3,5,6,7] [(1,.box 0 0),(3,d),(5,.p (.int .i64 ((i:Nat):Int))),(6,.p (.bool b')),(7,.p (.int .i64 ((j+1 :Nat):Int)))] ⟨sp.cl.map .p::rest,[]⟩) ?_ fun o e H hh=>.inl ⟨(j+1,b'),by dsimp only;omega,by dsimp only;omega,hh⟩
  subst hb'
  have hb2:bd a49 2=bd a49 2:=rfl
  conv at hb2=>rhs;reduce
  have hb1:bd a49 1=bd a49 1:=rfl
  conv at hb1=>rhs;reduce
  rw[←hb2] at hb1
  have hb0:bd a49 0=bd a49 0:=rfl
  conv at hb0=>rhs;reduce
  have hf:a49=a49:=rfl
  conv at hf=>rhs;reduce
  rw[←hb2] at hf
  rw[←hb1] at hf
  rw[←hb0] at hf
  rw[hb2];clear hf hb0 hb1 hb2
  cases b with
  |true=>simp[h,k1]
  |false=>
   by_cases hc:v.nm=u.nm
   ·simp[h,ha,hb,k1,hc]
   ·simp[h,ha,hb,k1,hc]
 ·have :j=i:=by omega
  subst this
  refine post_mono (Q:=fun o e H=>o= .exit 4∧H=⟨sp.cl.map .p::rest,[]⟩∧e.get 1= .box 0 0∧e.get 3=d∧e.get 5= .p (.int .i64 ((j:Nat):Int))∧e.get 6= .p (.bool b)) ?_ ?_
  ·skip
   have hb2:bd a49 2=bd a49 2:=rfl
   conv at hb2=>rhs;reduce
   have hb1:bd a49 1=bd a49 1:=rfl
   conv at hb1=>rhs;reduce
   rw[←hb2] at hb1
   have hb0:bd a49 0=bd a49 0:=rfl
   conv at hb0=>rhs;reduce
   have hf:a49=a49:=rfl
   conv at hf=>rhs;reduce
   rw[←hb2] at hf
   rw[←hb1] at hf
   rw[←hb0] at hf
   rw[hb2];clear hf hb0 hb1 hb2
   simp
  ·rintro o e H ⟨rfl,q1,q2,q3,q4,q5⟩
   exact .inr ⟨by simp,rfl,q1,q2,q3,q4,b,q5⟩
theorem rw_box{c n:Nat}{d:D}{rest:List (List D)}(h:Rw c n d rest)(xs:List PD):Rw (c+1) n d (rest++[xs.map D.p]):=by
 obtain⟨hlen,hpl,h⟩:=h
 refine⟨by simp;omega,fun cs hcs=>?_,?_⟩
 ·rcases List.mem_append.1 hcs with h |h
  ·exact hpl cs h
  ·exact⟨xs,by simpa using h⟩
 ·rcases h with h |⟨i,ys,rfl,hi,hy,hn0⟩
  ·exact .inl h
  ·exact .inr ⟨i,ys,rfl,by rw[List.getElem?_append_left (List.getElem?_eq_some_iff.1 hi).1];exact hi,hy,hn0⟩
theorem clash0(b:Nat×Nat):clash (0,0) b=false:=by simp[clash]
theorem clash0r(a:Nat×Nat):clash a (0,0)=false:=by simp[clash]
theorem clash33:clash (3,0) (3,0)=false:=by decide
theorem clash_ra{n:Nat}(h:n+1<2000000000):clash (3,0) (4+2*(n+1),0)=false:=by
 have h1:isW (4+2*(n+1))=true:=by
  simp only[isW,Bool.or_eq_true,Bool.and_eq_true,decide_eq_true_eq,beq_iff_eq];omega
 have h2:apartRW 3 (4+2*(n+1))=true:=by
  have e1:(4+2*(n+1)-4)/2=n+1:=by omega
  have e2:(4+2*(n+1))%2=0:=by omega
  simp[apartRW,e2,offB,h]
 simp[-apartRW,clash,h2]
theorem set_last{α:Type}(l:List α)(x y:α):(l++[x]).set l.length y=l++[y]:=by simp
theorem check_out2(sp:Sp)(ok:SpOk sp)(hn:NmOk sp)(n0:Nat)(hn0:n0≤90)(d0:D)(rest0:List (List D))(hR0:Rw 1 n0 d0 rest0):
    post (fun o e H=>o= .exit 2∧∃(c n:Nat) (d:D) (rest:List (List D)),e.get 3=d∧H=⟨sp.cl.map .p::rest,[]⟩∧Rw c n d rest∧n≤200)
     (loopK (call pg) pg.G [1,3,5] (bd a49 1) ⟨[(1,.box 0 0),(3,d0),(5,.p (.int .i64 (0)))],⟨sp.cl.map .p::rest0,[]⟩⟩):=by
 have hpl:=ok.na
 refine loopW (c:=call pg) (G:=pg.G) (keep:=[1,3,5]) (b:=bd a49 1) (σ:=Nat×Nat×D×List (List D)) (fun s=>[(1,.box 0 0),(3,s.2.2.1),(5,.p (.int .i64 ((s.1:Nat):Int)))]) (fun s=>⟨sp.cl.map .p::s.2.2.2,[]⟩) (fun s=>(els sp.fa).length-s.1) (fun s=>s.1≤(els sp.fa).length∧s.2.1≤90+2*s.1∧Rw (1+s.1) s.2.1 s.2.2.1 s.2.2.2) _ ?_ (0,n0,d0,rest0) ⟨Nat.zero_le _,by dsimp only;omega,hR0⟩
 rintro⟨i,n,d,rest⟩ ⟨hi,hn',hR⟩
 dsimp only at hi hn' hR⊢
 clear hR0
 by_cases h:i<(els sp.fa).length
 ·obtain⟨o,e,H,hx,rfl,rfl,q1,q3,q5,b,q6⟩:=post_get (chk_in sp i h (by omega) d rest)
  have hia:=ia_facts h
  have hq:=ok.fc _ (List.getElem_mem h)
  obtain⟨er,pos,hc⟩:=checkFormula_call sp ok hn .nil (by simp[els]) ((els sp.fa)[i]).bo hq
  have hnl:paramsP .nil= .nils:=rfl
  rw[hnl] at hc
  have k1:=inc64 (k:=i) (by omega)
  simp at hx
  obtain⟨n1,d1,rest1,hn1,hR1,hst⟩:∃(n1:Nat) (d1:D) (rest1:List (List D)),n1≤n+1∧Rw (1+i) n1 d1 rest1∧((b=false∧d1=d∧rest1=rest)∨(b=true∧appendgD 168 2 16 d 1 [.p (.int .i64 (41)),.p (.int .i64 (0))] ⟨sp.cl.map .p::rest,[]⟩=some (d1,⟨sp.cl.map .p::rest1,[]⟩))):=by
   cases b with
   |false=>exact⟨n,d,rest,by omega,hR,.inl ⟨rfl,rfl,rfl⟩⟩
   |true=>
    obtain⟨d',rest',hap,hR'⟩:=rw_app hR (by omega) (sp.cl.map .p) [] (.int .i64 41) (.int .i64 0)
    exact⟨n+1,d',rest',by omega,hR',.inr ⟨rfl,hap⟩⟩
  have hlen:rest1.length+1<2000000000:=by have:=hR1.1;omega
  have hra:=clash_ra hlen
  have hR2:=rw_box hR1 [.int .i64 er,.int .i64 pos]
  generalize (els sp.fa)[i]=u at *
  clear hq hR1 hR ok
  by_cases e0:er=0
  ·refine post_mono (Q:=nx [1,3,5] [(1,.box 0 0),(3,d1),(5,.p (.int .i64 ((i+1 :Nat):Int)))] ⟨sp.cl.map .p::(rest1++[[.p (.int .i64 (er)),.p (.int .i64 (pos))]]),[]⟩) ?_ fun o e H hh=>.inl ⟨(i+1,n1,d1,rest1++[[.p (.int .i64 (er)),.p (.int .i64 (pos))]]),⟨by dsimp only;omega,by dsimp only;omega,by rw[←Nat.add_assoc];exact hR2⟩,by dsimp only;omega,hh⟩
   clear hR2
   have hb2:bd a49 2=bd a49 2:=rfl
   conv at hb2=>rhs;reduce
   have hb1:bd a49 1=bd a49 1:=rfl
   conv at hb1=>rhs;reduce
   rw[←hb2] at hb1
   have hb0:bd a49 0=bd a49 0:=rfl
   conv at hb0=>rhs;reduce
   have hf:a49=a49:=rfl
   conv at hf=>rhs;reduce
   rw[←hb2] at hf
   rw[←hb1] at hf
   rw[←hb0] at hf
   rw[hb1];clear hf hb0 hb1 hb2
   rcases hst with⟨rfl,rfl,rfl⟩ |⟨rfl,hap⟩
   ·simp[-clash,len_facts,h,hx,q1,q3,q5,q6,k1,hia,hc,e0,clash0,clash0r,clash33,hra]
   ·simp at hap
    simp[-clash,len_facts,h,hx,q1,q3,q5,q6,k1,hia,hc,e0,clash0,clash0r,clash33,hra,srcC_fsl,hap]
  ·obtain⟨d2,rest2,hap2,hR3⟩:=rw_app hR2 (by omega) (sp.cl.map .p) [] (.int .i64 er) (.int .i64 pos)
   refine post_mono (Q:=nx [1,3,5] [(1,.box 0 0),(3,d2),(5,.p (.int .i64 ((i+1 :Nat):Int)))] ⟨sp.cl.map .p::rest2,[]⟩) ?_ fun o e H hh=>.inl ⟨(i+1,n1+1,d2,rest2),⟨by dsimp only;omega,by dsimp only;omega,by rw[←Nat.add_assoc];exact hR3⟩,by dsimp only;omega,hh⟩
   clear hR2 hR3
   simp at hap2
   have hb2:bd a49 2=bd a49 2:=rfl
   conv at hb2=>rhs;reduce
   have hb1:bd a49 1=bd a49 1:=rfl
   conv at hb1=>rhs;reduce
   rw[←hb2] at hb1
   have hb0:bd a49 0=bd a49 0:=rfl
   conv at hb0=>rhs;reduce
   have hf:a49=a49:=rfl
   conv at hf=>rhs;reduce
   rw[←hb2] at hf
   rw[←hb1] at hf
   rw[←hb0] at hf
   rw[hb1];clear hf hb0 hb1 hb2
   rcases hst with⟨rfl,rfl,rfl⟩ |⟨rfl,hap⟩
   ·simp[-clash,len_facts,h,hx,q1,q3,q5,q6,k1,hia,hc,e0,clash0,clash0r,clash33,hra,srcC_fsl,hap2]
   ·simp at hap
    simp[-clash,len_facts,h,hx,q1,q3,q5,q6,k1,hia,hc,e0,clash0,clash0r,clash33,hra,srcC_fsl,hap,hap2]
 ·have :i=(els sp.fa).length:=by omega
  subst this
  refine post_mono (Q:=fun o e H=>o= .exit 2∧e.get 3=d∧H=⟨sp.cl.map .p::rest,[]⟩) ?_ ?_
  ·skip
   have hb2:bd a49 2=bd a49 2:=rfl
   conv at hb2=>rhs;reduce
   have hb1:bd a49 1=bd a49 1:=rfl
   conv at hb1=>rhs;reduce
   rw[←hb2] at hb1
   have hb0:bd a49 0=bd a49 0:=rfl
   conv at hb0=>rhs;reduce
   have hf:a49=a49:=rfl
   conv at hf=>rhs;reduce
   rw[←hb2] at hf
   rw[←hb1] at hf
   rw[←hb0] at hf
   rw[hb1];clear hf hb0 hb1 hb2
   simp[len_facts]
  ·rintro o e H ⟨rfl,q3,rfl⟩
   exact .inr ⟨by simp,rfl,_,n,d,rest,q3,rfl,hR,by omega⟩
end Go.Proofs.YtgplgbonlnodeaaGreatDoor
namespace Go.Proofs.YtgplgbonlnodeaaGreatDoor
open Go.Vs
set_option maxRecDepth 100000
set_option maxHeartbeats 4000000
theorem frz_gsl(k:Nat)(H:Hp)(f i e n sz:Nat):D.frz k H (f+1) (.gsl i e n sz)=if k≤i then(match H.bx[i]? with
      |some cs=>if isMapC cs=false∧0+n*sz≤cs.length∧0<sz then(match D.asPDL ((sub cs 0 (0+n*sz)).map (D.frz k H f)) with
       |some ps=>.p (.slice sz (chunks sz n ps))
       |none=>.gsl i e n sz) else .gsl i e n sz
      |none=>.gsl i e n sz) else .gsl i e n sz:=rfl
theorem fin_rw{c n:Nat}{d:D}{b0:List D}{rest:List (List D)}(h:Rw c n d rest):∃y:PD,fin true d ⟨b0::rest,[]⟩ (.p y)∧∃k,lenD 1 (.p y)=some k:=by
 obtain⟨_,_,h⟩:=h
 rcases h with⟨rfl,rfl⟩ |⟨i,ys,rfl,hi,hy,hn0⟩
 ·refine⟨.nils,?_,0,rfl⟩
  simp[fin,D.frz,D.ren]
 ·refine⟨.slice 2 (chunks 2 n ys),?_,_,lenD_sl _ _⟩
  have h1:(ys.map D.p).map (D.frz 0 ⟨b0::rest,[]⟩ 7)=ys.map D.p:=by
   rw[List.map_map]
   refine List.map_congr_left fun x _=>?_
   simp[frz_p]
  have h2:sub (ys.map D.p) 0 (0+n*2)=ys.map D.p:=by
   simp[sub,List.take_of_length_le,hy]
  have h3:D.asPDL (ys.map D.p)=some ys:=by
   clear h1 h2 hi hy
   induction ys with
   |nil=>rfl
   |cons y ys ih=>simp[D.asPDL,D.asPD,ih]
  have h4:(b0::rest)[i+1]? =some (ys.map D.p):=by simpa using hi
  have h5:D.frz 0 ⟨b0::rest,[]⟩ 8 (.gsl (i+1) 168 n 2)= .p (.slice 2 (chunks 2 n ys)):=by
   rw[frz_gsl 0 _ 7,if_pos (Nat.zero_le _)]
   simp only[h4,h2,h1,h3]
   rw[if_pos ⟨isMapC_p _,by simp[hy],by decide⟩]
  simp[fin,h5,D.ren]
theorem check04_call(sp:Sp)(ok:SpOk sp)(hn:NmOk sp):∃(y:PD) (k:Nat),lenD 1 (.p y)=some k∧∀H,callD (call pg) 49 [.p (.agg sp.cl)] H=some (.val (.p y),H):=by
 obtain⟨n0,d0,rest0,hR0,hn0,hc⟩:=declared_call sp ok (sp.cl.map .p)
 obtain⟨o1,e1,H1,hx1,rfl,q1,n1,d1,rest1,q3,rfl,hR1,hn1⟩:=post_get (check_out1 sp ok hn n0 hn0 d0 rest0 hR0)
 obtain⟨o2,e2,H2,hx2,rfl,c,n,d,rest,p3,rfl,hR,hn2⟩:=post_get (check_out2 sp ok hn n1 hn1 d1 rest1 hR1)
 obtain⟨y,hf1,k,hk⟩:=fin_rw (b0:=sp.cl.map .p) hR
 refine⟨y,k,hk,?_⟩
 clear hR hR1 hR0 hk
 simp at hx1 hx2 hc hf1
 have hb2:bd a49 2=bd a49 2:=rfl
 conv at hb2=>rhs;reduce
 have hb1:bd a49 1=bd a49 1:=rfl
 conv at hb1=>rhs;reduce
 rw[←hb2] at hb1
 have hb0:bd a49 0=bd a49 0:=rfl
 conv at hb0=>rhs;reduce
 have hf:a49=a49:=rfl
 conv at hf=>rhs;reduce
 rw[←hb2] at hf
 rw[←hb1] at hf
 rw[←hb0] at hf
 refine callP (aa:=[_]) hf rfl rfl rfl ?_
 clear hf hb0 hb1 hb2
 simp[hc,hx1,hx2,q1,q3,p3,hf1]
end Go.Proofs.YtgplgbonlnodeaaGreatDoor
namespace Go.Proofs.YtgplgbonlnodeaaGreatDoor
open Go.Vs
set_option maxRecDepth 100000
theorem first05_call(a:Sl Int)(st:Int){k:Nat}(hk:k≤(els a).length)(hl:(els a).length≤1000)(h:∀x∈els a,0≤x∧x≤5):
    ∀H,callD (call pg) 154 [.p (.agg [intsP a,.int .i64 st]),.p (.int .i64 ((k:Nat):Int))] H=some (.val (.p (.int .i64 (((els a).take k).sum))),H):=by
 have hb0:bd a154 0=bd a154 0:=rfl
 conv at hb0=>rhs;reduce
 have hf:a154=a154:=rfl
 conv at hf=>rhs;reduce
 rw[←hb0] at hf
 have key:=loopN (c:=call pg) (G:=pg.G) (keep:=[1,2,5,6]) (b:=bd a154 0) (fun i=>[(1,.p (.int .i64 ((k:Nat):Int))),(2,.box 0 0),(5,.p (.int .i64 (((els a).take i).sum))),(6,.p (.int .i64 ((i:Nat):Int)))]) (fun _=>⟨[[.p (intsP a),.p (.int .i64 (st))]],[]⟩) k (fun _=>True)
  (fun o e H=>o= .exit 0∧e.get 5= .p (.int .i64 (((els a).take k).sum))) trivial ?_ ?_
 ·obtain⟨o,e,H,hx,rfl,h3⟩:=post_get key
  refine callP (aa:=[_,_]) hf rfl rfl rfl ?_
  clear hf hb0
  simp at hx
  simp[hx,h3]
 ·intro i hi _
  have hi2:i<(els a).length:=by omega
  have hw:IntKind.i64.wrap (((els a).take i).sum+(els a)[i])=((els a).take i).sum+(els a)[i]:=by
   have:=sum_take_bd h (i+1)
   rw[sum_take hi2] at this
   exact wrap64 (by omega) (by omega)
  rw[hb0];clear hf hb0
  simp[len_ints,ia_ints hi2,hi,hi2,inc64 (k:=i) (by omega),sum_take hi2,hw]
 ·intro _
  rw[hb0];clear hf hb0
  simp
theorem atoms05_call(a:Sl Int)(st:Int)(hl:(els a).length≤1000)(h:∀x∈els a,0≤x∧x≤5):
    ∀H,callD (call pg) 100 [.p (.agg [intsP a,.int .i64 st])] H=some (.val (.p (.int .i64 ((els a).sum))),H):=by
 have hf:a100=a100:=rfl
 conv at hf=>rhs;reduce
 have h1:=first05_call a st (Nat.le_refl _) hl h
 rw[List.take_length] at h1
 refine callP (aa:=[_]) hf rfl rfl rfl ?_
 clear hf
 simp[len_ints,h1]
theorem ranks05_call(a:Sl Int)(st:Int){k:Nat}(hk:k≤3)(hl:(els a).length≤1000)(h:∀x∈els a,0≤x∧x≤5){n:Nat}(hn:(els a).sum=n)(hn2:n≤12):
    ∀H,callD (call pg) 156 [.p (.agg [intsP a,.int .i64 st]),.p (.int .i64 ((k:Nat):Int))] H=some (.val (.p (.int .i64 ((n ^ k:Nat):Int))),H):=by
 have hb0:bd a156 0=bd a156 0:=rfl
 conv at hb0=>rhs;reduce
 have hf:a156=a156:=rfl
 conv at hf=>rhs;reduce
 rw[←hb0] at hf
 have hat:=atoms05_call a st hl h
 rw[hn] at hat
 have key:=loopN (c:=call pg) (G:=pg.G) (keep:=[1,2,5,6]) (b:=bd a156 0) (fun i=>[(1,.p (.int .i64 ((k:Nat):Int))),(2,.box 0 0),(5,.p (.int .i64 ((n ^ i:Nat):Int))),(6,.p (.int .i64 ((i:Nat):Int)))]) (fun _=>⟨[[.p (intsP a),.p (.int .i64 (st))]],[]⟩) k (fun _=>True)
  (fun o e H=>o= .exit 0∧e.get 5= .p (.int .i64 ((n ^ k:Nat):Int))) trivial ?_ ?_
 ·obtain⟨o,e,H,hx,rfl,h3⟩:=post_get key
  refine callP (aa:=[_,_]) hf rfl rfl rfl ?_
  clear hf hb0
  simp at hx
  simp[hx,h3]
 ·intro i hi _
  rw[hb0];clear hf hb0
  have h1:(i:Int)<3:=by omega
  have h2:IntKind.i64.wrap ((n:Int) ^ i*(n:Int))=(n:Int) ^ (i+1):=by
   have:=pow_bd hn2 (i:=i+1) (by omega)
   rw[show(n:Int) ^ i*(n:Int)=((n ^ (i+1):Nat):Int) by rw[Nat.pow_succ];simp,wrap64 (by omega) (by omega)]
   simp
  simp[hi,h1,h2,hat,inc64 (k:=i) (by omega)]
 ·intro _
  rw[hb0];clear hf hb0
  simp
theorem sortOf05_call(a:Sl Int)(st x:Int)(hl:(els a).length≤1000)(h:∀x∈els a,0≤x∧x≤5)(hx:0≤x):
    ∀H,callD (call pg) 225 [.p (.agg [intsP a,.int .i64 st]),.p (.int .i64 (x))] H=some (.val (.p (.int .i64 (sortI (els a) 0 x))),H):=by
 have hb0:bd a225 0=bd a225 0:=rfl
 conv at hb0=>rhs;reduce
 have hf:a225=a225:=rfl
 conv at hf=>rhs;reduce
 rw[←hb0] at hf
 have key:=loopN (c:=call pg) (G:=pg.G) (keep:=[1,2,5]) (b:=bd a225 0) (fun i=>[(1,.p (.int .i64 (x))),(2,.box 0 0),(5,.p (.int .i64 ((i:Nat):Int)))]) (fun _=>⟨[[.p (intsP a),.p (.int .i64 (st))]],[]⟩) (els a).length
  (fun i=>((els a).take i).sum≤x∧sortI ((els a).drop i) i (x-((els a).take i).sum)=sortI (els a) 0 x)
  (fun o e H=>H=⟨[[.p (intsP a),.p (.int .i64 (st))]],[]⟩∧((o= .exit 0∧sortI (els a) 0 x= -1)∨(o= .ret∧e.get 4= .p (.int .i64 (sortI (els a) 0 x))))) (by simp[hx]) ?_ ?_
 ·obtain⟨o,e,H,hx,rfl,hq⟩:=post_get key
  refine callP (aa:=[_,_]) hf rfl rfl rfl ?_
  clear hf hb0
  simp at hx
  rcases hq with⟨rfl,h3⟩ |⟨rfl,h3⟩
  ·simp[hx,h3]
  ·simp[hx,h3]
 ·intro i hi ⟨hJ,hI⟩
  rw[List.drop_eq_getElem_cons hi] at hI
  simp only[sortI] at hI
  have f1:=first05_call a st (k:=i) (by omega) hl h
  have f2:=first05_call a st (k:=i+1) (by omega) hl h
  have hs:=sum_take hi
  have k1:=inc64 (k:=i) (by omega)
  have f2':∀H,callD (call pg) 154 [.p (.agg [intsP a,.int .i64 st]),.p (.int .i64 ((i:Int)+1))] H=some (.val (.p (.int .i64 (((els a).take (i+1)).sum))),H):=f2
  rw[hb0];clear hf hb0
  by_cases hc:x<((els a).take (i+1)).sum
  ·rw[if_pos (by omega)] at hI
   simp[len_ints,hi,f1,f2',hJ,hc,k1,←hI]
  ·rw[if_neg (by omega)] at hI
   have hI2:sortI ((els a).drop (i+1)) ((i:Int)+1) (x-((els a).take (i+1)).sum)=sortI (els a) 0 x:=by
    rw[←hI,sum_take hi]
    congr 1
    omega
   have hJ2:((els a).take (i+1)).sum≤x:=by omega
   simp[len_ints,hi,f1,f2',hJ,hc,k1,hI2,hJ2]
 ·intro⟨_,hI⟩
  rw[List.drop_eq_nil_of_le (Nat.le_refl _)] at hI
  simp only[sortI] at hI
  rw[hb0];clear hf hb0
  simp[len_ints,←hI]
def digs(n:Int):Nat→Int→List Int
 | 0,_=>[]
 |k+1,r=>digs n k (r.tdiv n)++[r.tmod n]
theorem digs_len(n:Int):∀(k:Nat) (r:Int),(digs n k r).length=k
 | 0,_=>rfl
 |k+1,r=>by simp[digs,digs_len n k]
theorem tup_step{n _i r:Int}(c:List PD)(hc:c.length=3){j:Nat}(hj:j<3)(hn:1≤n)(hr:0≤r∧r≤4611686018427387904)(x0 _x3:List D)(ar:Int):
    post (nx [1,7,8,9,10] [(1,.p (.int .i64 (ar))),(7,.msl 1 0 3 (some 3) 1),(8,.p (.int .i64 (n))),(9,.p (.int .i64 (r.tdiv n))),(10,.p (.int .i64 ((j:Int)-1)))] ⟨[x0,(c.set j (.int .i64 (r.tmod n))).map .p],[]⟩)
     (evS (call pg) pg.G iterX (bd a157 0) ⟨Env.keep [1,7,8,9,10] [(1,.p (.int .i64 (ar))),(7,.msl 1 0 3 (some 3) 1),(8,.p (.int .i64 (n))),(9,.p (.int .i64 (r))),(10,.p (.int .i64 ((j:Nat):Int)))],⟨[x0,c.map .p],[]⟩⟩):=by
 have hb0:bd a157 0=bd a157 0:=rfl
 conv at hb0=>rhs;reduce
 have hf:a157=a157:=rfl
 conv at hf=>rhs;reduce
 rw[←hb0] at hf
 rw[hb0];clear hf hb0
 have h1:¬n=0:=by omega
 have h2:IntKind.i64.wrap (r.tdiv n)=r.tdiv n:=by
  have:=quo_bd hn hr
  exact wrap64 (by omega) (by omega)
 have h3:IntKind.i64.wrap ((j:Int)-1)=(j:Int)-1:=wrap64 (by omega) (by omega)
 obtain⟨c0,c1,c2,rfl⟩:∃c0 c1 c2,c=[c0,c1,c2]:=by
  match c,hc with
  |[c0,c1,c2],_=>exact⟨c0,c1,c2,rfl⟩
 have hj':j=0∨j=1∨j=2:=by omega
 rcases hj' with rfl |rfl |rfl
 ·simp[iaddrD,isMapC,h1,h2,wrap64]
 ·simp[iaddrD,isMapC,h1,h2,wrap64]
 ·simp[iaddrD,isMapC,h1,h2,wrap64]
end Go.Proofs.YtgplgbonlnodeaaGreatDoor
namespace Go.Proofs.YtgplgbonlnodeaaGreatDoor
open Go.Vs
set_option maxRecDepth 100000
theorem asPDL_p:∀l:List PD,D.asPDL (l.map .p)=some l
 |[]=>rfl
 |x::l=>by simp[D.asPDL,D.asPD,asPDL_p l]
theorem fin_msl{i off n sz:Nat}{c:Option Nat}{H:Hp}{ps:List PD}(h:H.bx[i]? =some (ps.map .p))(hl:off+n*sz≤ps.length)(hs:0<sz):fin true (.msl i off n c sz) H (.p (.slice sz (chunks sz n (sub ps off (off+n*sz))))):=by
 have h1:(D.msl i off n c sz).frz 0 H 8= .p (.slice sz (chunks sz n (sub ps off (off+n*sz)))):=by
  have h2:(sub (ps.map D.p) off (off+n*sz)).map (D.frz 0 H 7)=(sub ps off (off+n*sz)).map .p:=by
   simp[sub,←List.map_take,←List.map_drop,List.map_map,frz_p,Function.comp_def]
  unfold D.frz
  simp only[Nat.zero_le,if_true,h,isMapC_p,List.length_map,hl,hs,and_self,h2,asPDL_p]
 refine⟨.p (.slice sz (chunks sz n (sub ps off (off+n*sz)))),?_,rfl⟩
 rw[if_pos rfl,h1]
 rfl
theorem tuple05_call(a:Sl Int)(st:Int){k:Nat}(hk1:1≤k)(hk:k≤3)(hl:(els a).length≤1000)(h:∀x∈els a,0≤x∧x≤5){n:Nat}(hn:(els a).sum=n)(hn1:1≤n)(hn2:n≤12){r:Nat}(hr:r<n ^ k):
    ∀H,callD (call pg) 157 [.p (.agg [intsP a,.int .i64 st]),.p (.int .i64 ((k:Nat):Int)),.p (.int .i64 ((r:Nat):Int))] H=some (.val (.p (intsP (.of (digs n k r)))),H):=by
 have hat:=atoms05_call a st hl h
 rw[hn] at hat
 have hrk:=ranks05_call a st hk hl h hn hn2
 have hpw:=pow_bd hn2 hk
 have g1:¬((k:Int)<0):=by omega
 have g2:¬((3 :Int)<(k:Int)):=by omega
 have g3:¬(n:Int) ^ k≤(r:Int):=by rw[←Int.natCast_pow];omega
 have g5:¬(r:Int)<0:=by omega
 have g4:IntKind.i64.wrap ((k:Int)-1)=(k:Int)-1:=wrap64 (by omega) (by omega)
 have last:∀(c0 c1 c2:Int) (q:Int),intsP (.of (digs n k r))= .slice 1 (([c0,c1,c2].map (PD.int .i64)).take k)→
     post (fun o e H=>o= .exit 0∧e.get 1= .p (.int .i64 ((k:Nat):Int))∧e.get 7= .msl 1 0 3 (some 3) 1∧H=⟨[[.p (intsP a),.p (.int .i64 (st))],([c0,c1,c2].map (PD.int .i64)).map .p],[]⟩) (loopK (call pg) pg.G [1,7,8,9,10] (bd a157 0) ⟨[(1,.p (.int .i64 ((k:Nat):Int))),(7,.msl 1 0 3 (some 3) 1),(8,.p (.int .i64 ((n:Nat):Int))),(9,.p (.int .i64 (q))),(10,.p (.int .i64 (-1)))],⟨[[.p (intsP a),.p (.int .i64 (st))],([c0,c1,c2].map (PD.int .i64)).map .p],[]⟩⟩):=by
  intro c0 c1 c2 q _
  refine loop_last ?_
  have hb0:bd a157 0=bd a157 0:=rfl
  conv at hb0=>rhs;reduce
  have hf:a157=a157:=rfl
  conv at hf=>rhs;reduce
  rw[←hb0] at hf
  rw[hb0];clear hf hb0
  simp
 have main:∃c0 c1 c2:Int,intsP (.of (digs n k r))= .slice 1 (([c0,c1,c2].map (PD.int .i64)).take k)∧
     post (fun o e H=>o= .exit 0∧e.get 1= .p (.int .i64 ((k:Nat):Int))∧e.get 7= .msl 1 0 3 (some 3) 1∧H=⟨[[.p (intsP a),.p (.int .i64 (st))],([c0,c1,c2].map (PD.int .i64)).map .p],[]⟩) (loopK (call pg) pg.G [1,7,8,9,10] (bd a157 0) ⟨[(1,.p (.int .i64 ((k:Nat):Int))),(7,.msl 1 0 3 (some 3) 1),(8,.p (.int .i64 ((n:Nat):Int))),(9,.p (.int .i64 ((r:Nat):Int))),(10,.p (.int .i64 ((k:Int)-1)))],⟨[[.p (intsP a),.p (.int .i64 (st))],([0,0,0].map (PD.int .i64)).map .p],[]⟩⟩):=by
  have b0:(0 :Int)≤(r:Int)∧(r:Int)≤4611686018427387904:=by omega
  have b1:=quo_bd (n:=n) (by omega) b0
  have b2:=quo_bd (n:=n) (by omega) b1
  have hk':k=1∨k=2∨k=3:=by omega
  rcases hk' with rfl |rfl |rfl
  ·refine⟨(r:Int).tmod n,0,0,by simp[digs,intsP,slP,Sl.map],?_⟩
   exact loop_step (tup_step (n:=n) (_i:=0) (r:=r) ([0,0,0].map (PD.int .i64)) rfl (j:=0) (by omega) (by omega) b0 _ [] _) (last _ _ _ _ (by simp[digs,intsP,slP,Sl.map]))
  ·refine⟨((r:Int).tdiv n).tmod n,(r:Int).tmod n,0,by simp[digs,intsP,slP,Sl.map],?_⟩
   refine loop_step (tup_step (n:=n) (_i:=0) (r:=r) ([0,0,0].map (PD.int .i64)) rfl (j:=1) (by omega) (by omega) b0 _ [] _) ?_
   exact loop_step (tup_step (n:=n) (_i:=0) (r:=(r:Int).tdiv n) ([0,(r:Int).tmod n,0].map (PD.int .i64)) rfl (j:=0) (by omega) (by omega) b1 _ [] _) (last _ _ _ _ (by simp[digs,intsP,slP,Sl.map]))
  ·refine⟨(((r:Int).tdiv n).tdiv n).tmod n,((r:Int).tdiv n).tmod n,(r:Int).tmod n,by simp[digs,intsP,slP,Sl.map],?_⟩
   refine loop_step (tup_step (n:=n) (_i:=0) (r:=r) ([0,0,0].map (PD.int .i64)) rfl (j:=2) (by omega) (by omega) b0 _ [] _) ?_
   refine loop_step (tup_step (n:=n) (_i:=0) (r:=(r:Int).tdiv n) ([0,0,(r:Int).tmod n].map (PD.int .i64)) rfl (j:=1) (by omega) (by omega) b1 _ [] _) ?_
   exact loop_step (tup_step (n:=n) (_i:=0) (r:=((r:Int).tdiv n).tdiv n) ([0,((r:Int).tdiv n).tmod n,(r:Int).tmod n].map (PD.int .i64)) rfl (j:=0) (by omega) (by omega) b2 _ [] _) (last _ _ _ _ (by simp[digs,intsP,slP,Sl.map]))
 obtain⟨c0,c1,c2,hc,hm⟩:=main
 obtain⟨o,e,H,hx,rfl,e1,e7,rfl⟩:=post_get hm
 have hb0:bd a157 0=bd a157 0:=rfl
 conv at hb0=>rhs;reduce
 have hf:a157=a157:=rfl
 conv at hf=>rhs;reduce
 rw[←hb0] at hf
 refine callP (aa:=[_,_,_]) hf rfl rfl rfl ?_
 clear hf hb0
 simp at hx
 have hmk:makeslD 1 (.int .i64 0) 8 (.p (.int .i64 (3))) (.p (.int .i64 (3))) ⟨[[.p (intsP a),.p (.int .i64 (st))]],[]⟩=some (.msl 1 0 3 (some 3) 1,⟨[[.p (intsP a),.p (.int .i64 (st))],[.p (.int .i64 (0)),.p (.int .i64 (0)),.p (.int .i64 (0))]],[]⟩):=by rfl
 have hsl:sliceD 1 (.msl 1 0 3 (some 3) 1) none (some (.p (.int .i64 ((k:Nat):Int))))=some (.msl 1 0 k (some 3) 1):=by
  simp[sliceD,boundsD,D.asNat?,mslice,hk]
 simp[hrk,hat,g1,g2,g3,g4,g5,hmk,hx,e1,e7,hsl]
 rw[hc]
 have hk':k=1∨k=2∨k=3:=by omega
 rcases hk' with rfl |rfl |rfl
 ·exact fin_msl (ps:=[c0,c1,c2].map (PD.int .i64)) rfl (by simp) (by omega)
 ·exact fin_msl (ps:=[c0,c1,c2].map (PD.int .i64)) rfl (by simp) (by omega)
 ·exact fin_msl (ps:=[c0,c1,c2].map (PD.int .i64)) rfl (by simp) (by omega)
theorem fits05_call(a so ds:Sl Int)(st:Int)(hl:(els a).length≤1000)(h:∀x∈els a,0≤x∧x≤5)(hds:∀x∈els ds,0≤x)(hlen:(els ds).length=(els so).length)(hs:(els so).length<4611686018427387904):
    ∃r:Bool,(∀H,callD (call pg) 158 [.p (.agg [intsP a,.int .i64 st]),.p (intsP ds),.p (intsP so)] H=some (.val (.p (.bool r)),H))∧(r=true↔(els ds).map (sortI (els a) 0)=els so):=by
 have key:=loopA (c:=call pg) (G:=pg.G) (keep:=[1,2,3,7]) (b:=bd a158 0) (fun i=>[(1,.p (intsP ds)),(2,.p (intsP so)),(3,.box 0 0),(7,.p (.int .i64 ((i:Nat):Int)))]) ⟨[[.p (intsP a),.p (.int .i64 (st))]],[]⟩ (els so).length
  (fun i=>((els ds).map (sortI (els a) 0))[i]? =(els so)[i]?) 0 (fun _=>True) (fun e=>e.get 6= .p (.bool false))
  (fun i hi hP=>by
   have hb0:bd a158 0=bd a158 0:=rfl
   conv at hb0=>rhs;reduce
   have hf:a158=a158:=rfl
   conv at hf=>rhs;reduce
   rw[←hb0] at hf
   rw[hb0];clear hf hb0
   have hi2:i<(els ds).length:=by omega
   rw[List.getElem?_map,List.getElem?_eq_getElem hi,List.getElem?_eq_getElem hi2,Option.map_some,Option.some.injEq] at hP
   have c1:=sortOf05_call a st (els ds)[i] hl h (hds _ (List.getElem_mem hi2))
   simp[len_ints,ia_ints hi,ia_ints hi2,hi,c1,hP,inc64 (k:=i) (by omega)])
  (fun i hi hP=>by
   have hb0:bd a158 0=bd a158 0:=rfl
   conv at hb0=>rhs;reduce
   have hf:a158=a158:=rfl
   conv at hf=>rhs;reduce
   rw[←hb0] at hf
   rw[hb0];clear hf hb0
   have hi2:i<(els ds).length:=by omega
   rw[List.getElem?_map,List.getElem?_eq_getElem hi,List.getElem?_eq_getElem hi2,Option.map_some,Option.some.injEq] at hP
   have c1:=sortOf05_call a st (els ds)[i] hl h (hds _ (List.getElem_mem hi2))
   simp[len_ints,ia_ints hi,ia_ints hi2,hi,c1,hP])
  (by
   have hb0:bd a158 0=bd a158 0:=rfl
   conv at hb0=>rhs;reduce
   have hf:a158=a158:=rfl
   conv at hf=>rhs;reduce
   rw[←hb0] at hf
   rw[hb0];clear hf hb0
   simp[len_ints])
 have hb0:bd a158 0=bd a158 0:=rfl
 conv at hb0=>rhs;reduce
 have hf:a158=a158:=rfl
 conv at hf=>rhs;reduce
 rw[←hb0] at hf
 rcases key with⟨e,hx,-,hp⟩ |⟨e,hx,hr,hp⟩
 ·refine⟨true,callP (aa:=[_,_,_]) hf rfl rfl rfl ?_,iff_of_true rfl (List.ext_getElem? fun i=>?_)⟩
  ·clear hf hb0
   simp at hx
   simp[hx]
  ·rcases Nat.lt_or_ge i (els so).length with h |h
   ·exact hp i h
   ·rw[List.getElem?_eq_none h,List.getElem?_eq_none (by rw[List.length_map];omega)]
 ·refine⟨false,callP (aa:=[_,_,_]) hf rfl rfl rfl ?_,iff_of_false (by simp) fun hh=>hp fun i _=>by rw[hh]⟩
  clear hf hb0
  simp at hx
  simp[hx,hr]
end Go.Proofs.YtgplgbonlnodeaaGreatDoor
namespace Go.Proofs.YtgplgbonlnodeaaGreatDoor
open Go.Vs
set_option maxRecDepth 100000
theorem digs_nn{n:Int}(hn:1≤n):∀(k:Nat) (r:Int),0≤r→∀x∈digs n k r,0≤x
 | 0,_,_,x,hx=>by simp[digs] at hx
 |k+1,r,hr,x,hx=>by
  simp only[digs,List.mem_append,List.mem_singleton] at hx
  rcases hx with hx |hx
  ·exact digs_nn hn k _ (Int.tdiv_nonneg hr (by omega)) x hx
  ·subst hx
   rw[Int.tmod_eq_emod_of_nonneg hr]
   exact Int.emod_nonneg _ (by omega)
def fullL(n:Nat)(ats so:List Int)(m:Nat):List Int:=((List.range m).filter fun t:Nat=>decide ((digs n so.length (t:Int)).map (sortI ats 0)=so)).map fun t=>((t:Nat):Int)
theorem full_srt(n:Nat)(ats so:List Int)(m:Nat):Srt (fullL n ats so m):=by
 unfold fullL Srt
 rw[List.pairwise_map]
 refine List.Pairwise.imp (R:=fun a b:Nat=>a<b) (by intro a b h;omega) ?_
 exact List.Pairwise.filter _ List.pairwise_lt_range
theorem full_len(n:Nat)(ats so:List Int)(m:Nat):(fullL n ats so m).length≤m:=by
 unfold fullL
 rw[List.length_map]
 exact Nat.le_trans (List.length_filter_le _ _) (by simp)
theorem full05_call(a so:Sl Int)(st:Int)(hl:(els a).length≤1000)(h:∀x∈els a,0≤x∧x≤5)(hfo:FieldOk (els a).length (els so)){n:Nat}(hn:(els a).sum=n)(hn1:1≤n)(hn2:n≤12):
    ∃d,(∀H,callD (call pg) 102 [.p (.agg [intsP a,.int .i64 st]),.p (intsP so)] H=some (.val d,H))∧IsRel d (els so).length (keptS (fullL n (els a) (els so) (n ^ (els so).length))):=by
 obtain⟨f1,f2,f3⟩:=hfo
 have hpw:=pow_bd hn2 f3
 have hrk:=ranks05_call a st f3 hl h hn hn2
 have key1:=loopN (c:=call pg) (G:=pg.G) (keep:=[1,2,4,5,6]) (b:=bd a102 0) (fun i=>[(1,.p (intsP so)),(2,.box 0 0),(4,.box 1 0),(5,.p (.int .i64 (((els so).length:Nat):Int))),(6,.p (.int .i64 ((i:Nat):Int)))]) (fun _=>⟨[[.p (intsP a),.p (.int .i64 (st))],[.p (.int .i64 (0)),.p (.nils)]],[]⟩) (els so).length (fun _=>True)
  (fun o e H=>H=⟨[[.p (intsP a),.p (.int .i64 (st))],[.p (.int .i64 (0)),.p (.nils)]],[]⟩∧o= .exit 0∧e.get 1= .p (intsP so)∧e.get 2= .box 0 0∧e.get 4= .box 1 0∧e.get 5= .p (.int .i64 (((els so).length:Nat):Int))) trivial
  (fun i hi _=>by
   have hb1:bd a102 1=bd a102 1:=rfl
   conv at hb1=>rhs;reduce
   have hb0:bd a102 0=bd a102 0:=rfl
   conv at hb0=>rhs;reduce
   have hf:a102=a102:=rfl
   conv at hf=>rhs;reduce
   rw[←hb1] at hf
   rw[←hb0] at hf
   rw[hb0];clear hf hb0 hb1
   have hm:=f1 _ (List.getElem_mem hi)
   have g1:¬(els so)[i]<0:=by omega
   have g2:¬((els a).length:Int)≤(els so)[i]:=by omega
   simp[len_ints,ia_ints hi,hi,g1,g2,inc64 (k:=i) (by omega)])
  (fun _=>by
   have hb1:bd a102 1=bd a102 1:=rfl
   conv at hb1=>rhs;reduce
   have hb0:bd a102 0=bd a102 0:=rfl
   conv at hb0=>rhs;reduce
   have hf:a102=a102:=rfl
   conv at hf=>rhs;reduce
   rw[←hb1] at hf
   rw[←hb0] at hf
   rw[hb0];clear hf hb0 hb1
   simp)
 have key2:=loopN (c:=call pg) (G:=pg.G) (keep:=[1,2,4,5,7,8]) (b:=bd a102 1) (fun i=>[(1,.p (intsP so)),(2,.box 0 0),(4,.box 1 0),(5,.p (.int .i64 (((els so).length:Nat):Int))),(7,.box 2 0),(8,.p (.int .i64 ((i:Nat):Int)))])
  (fun i=>⟨[[.p (intsP a),.p (.int .i64 (st))],[.p (.int .i64 (0)),.p (.nils)],[.p (.int .i64 (((els so).length:Nat):Int)),grD 3 1 ((fullL n (els a) (els so) i).map (PD.int .i64))]],grT ((fullL n (els a) (els so) i).map (PD.int .i64))⟩) (n ^ (els so).length) (fun _=>True)
  (fun o e H=>o= .exit 2∧e.get 4= .box 1 0∧e.get 7= .box 2 0∧∃tk,H=⟨[[.p (intsP a),.p (.int .i64 (st))],[.p (.int .i64 (0)),.p (.nils)],[.p (.int .i64 (((els so).length:Nat):Int)),grD 3 1 ((fullL n (els a) (els so) (n ^ (els so).length)).map (PD.int .i64))]],tk⟩) trivial
  (fun i hi _=>by
   have hb1:bd a102 1=bd a102 1:=rfl
   conv at hb1=>rhs;reduce
   have hb0:bd a102 0=bd a102 0:=rfl
   conv at hb0=>rhs;reduce
   have hf:a102=a102:=rfl
   conv at hf=>rhs;reduce
   rw[←hb1] at hf
   rw[←hb0] at hf
   rw[hb1];clear hf hb0 hb1
   have g1:(i:Int)<(n:Int) ^ (els so).length:=by rw[←Int.natCast_pow];omega
   have ht:=tuple05_call a st f2 f3 hl h hn hn1 hn2 hi
   obtain⟨r,c1,d1⟩:=fits05_call a so (.of (digs n (els so).length i)) st hl h (digs_nn (by omega) _ _ (by omega)) (digs_len _ _ _) (by omega)
   have hfl:fullL n (els a) (els so) (i+1)=fullL n (els a) (els so) i++if r=true then[(i:Int)] else[]:=by
    unfold fullL
    rw[List.range_succ,List.filter_append,List.map_append]
    congr 1
    simp only[List.filter_cons,List.filter_nil]
    cases r with
    |true=>
     have :(digs n (els so).length i).map (sortI (els a) 0)=els so:=d1.1 rfl
     simp[this]
    |false=>
     have :¬(digs n (els so).length i).map (sortI (els a) 0)=els so:=fun hh=>by
      have:=d1.2 hh
      cases this
     simp[this]
   have hlen:((fullL n (els a) (els so) i).map (PD.int .i64)).length<1000000000:=by
    have:=full_len n (els a) (els so) i
    rw[List.length_map]
    omega
   have hap:=fun bx=>gr_app (e:=3) (sz:=1) (by':=8) (x:=.int .i64 (i:Int)) (bx:=bx) hlen (by omega)
   rw[hfl,List.map_append]
   generalize (fullL n (els a) (els so) i).map (PD.int .i64)=L at *
   clear hfl
   cases r with
   |true=>
    simp only[if_true,List.map_cons,List.map_nil]
    simp[-appendD,g1,hrk,ht,c1,hap,cells_gr,inc64 (k:=i) (by omega)]
   |false=>
    simp only[Bool.false_eq_true,if_false,List.map_nil,List.append_nil]
    simp[-appendD,g1,hrk,ht,c1,inc64 (k:=i) (by omega)])
  (fun _=>by
   have hb1:bd a102 1=bd a102 1:=rfl
   conv at hb1=>rhs;reduce
   have hb0:bd a102 0=bd a102 0:=rfl
   conv at hb0=>rhs;reduce
   have hf:a102=a102:=rfl
   conv at hf=>rhs;reduce
   rw[←hb1] at hf
   rw[←hb0] at hf
   rw[hb1];clear hf hb0 hb1
   simp[hrk])
 obtain⟨o,e,H,hx,rfl,rfl,g1,g2,g4,g5⟩:=post_get key1
 obtain⟨o,e',H,hx',rfl,g4',g7',tk,rfl⟩:=post_get key2
 have h1:¬((els so).length:Int)<1:=by omega
 have h2:¬(3 :Int)<((els so).length:Int):=by omega
 have h3:fullL n (els a) (els so) 0=[]:=rfl
 rw[h3] at hx'
 generalize fullL n (els a) (els so) (n ^ (els so).length)=L at *
 have hb1:bd a102 1=bd a102 1:=rfl
 conv at hb1=>rhs;reduce
 have hb0:bd a102 0=bd a102 0:=rfl
 conv at hb0=>rhs;reduce
 have hf:a102=a102:=rfl
 conv at hf=>rhs;reduce
 rw[←hb1] at hf
 rw[←hb0] at hf
 simp at hx hx'
 rcases gr_kept L 3 with⟨-,hg⟩ |⟨t,hg,hk⟩
 ·refine⟨.p (.agg [.int .i64 (els so).length,intsP (keptS L)]),callP (aa:=[_,_]) hf rfl rfl rfl ?_,.inl rfl⟩
  clear hf hb0 hb1
  rw[hg] at hx'
  simp[len_ints,h1,h2,hx,g1,g2,g4,g5,hx',g4',g7']
 ·refine⟨.agg [.p (.int .i64 ((els so).length)),.p (intsP (keptS L))],callP (aa:=[_,_]) hf rfl rfl rfl ?_,.inr rfl⟩
  clear hf hb0 hb1
  rw[hg] at hx'
  simp[len_ints,h1,h2,hx,g1,g2,g4,g5,hx',g4',g7',hk]
end Go.Proofs.YtgplgbonlnodeaaGreatDoor
namespace Go.Proofs.YtgplgbonlnodeaaGreatDoor
open Go.Vs
set_option maxRecDepth 100000
theorem frz_agg(k:Nat)(H:Hp)(f:Nat)(cs:List D):D.frz k H (f+1) (.agg cs)=mkAgg (cs.map (D.frz k H f)):=rfl
theorem Gr.frz{e sz base:Nat}{es:List PD}{d:D}{rest:List (List D)}(h:Gr e sz base es d rest)(hs:0<sz)(bs:List (List D))(hbs:bs.length=base)(k:List Nat)(f:Nat):
    D.frz 0 ⟨bs++rest,k⟩ (f+2) d= .p (rowP sz es):=by
 obtain⟨_,hE,h⟩:=h
 rcases h with⟨rfl,rfl⟩ |⟨i,rfl,hi,hne⟩
 ·exact frz_p _ _ _ _
 ·have hcl:=cells_len hE
  have h1:((es.flatMap PD.cells).map D.p).map (D.frz 0 ⟨bs++rest,k⟩ (f+1))=(es.flatMap PD.cells).map D.p:=by
   rw[List.map_map]
   refine List.map_congr_left fun x _=>?_
   simp[frz_p]
  have h2:sub ((es.flatMap PD.cells).map D.p) 0 (0+es.length*sz)=(es.flatMap PD.cells).map D.p:=by
   unfold sub
   rw[List.drop_zero]
   exact List.take_of_length_le (by rw[List.length_map,hcl];omega)
  have h4:(bs++rest)[base+i]? =some ((es.flatMap PD.cells).map D.p):=by
   rw[List.getElem?_append_right (by omega),hbs,Nat.add_sub_cancel_left];exact hi
  rw[frz_gsl 0 _ (f+1),if_pos (Nat.zero_le _)]
  simp only[h4,h2,h1,asPDL_p]
  rw[if_pos ⟨isMapC_p _,by rw[List.length_map,hcl];omega,hs⟩,chunks_els hE]
  cases es with
  |nil=>exact absurd rfl hne
  |cons=>rfl
theorem Gr.one{e sz base:Nat}{es:List PD}{d:D}{rest:List (List D)}(h:Gr e sz base es d rest):d.one=true:=by
 rcases h.2.2 with⟨rfl,_⟩ |⟨i,rfl,_⟩<;>rfl
theorem Gr.cells{e sz base:Nat}{es:List PD}{d:D}{rest:List (List D)}(h:Gr e sz base es d rest):d.cells=[d]:=by
 rcases h.2.2 with⟨rfl,_⟩ |⟨i,rfl,_⟩<;>rfl
@[simp] theorem one_gsl(i e n sz:Nat):(D.gsl i e n sz).one=true:=rfl
theorem fin_gr2{e sz base:Nat}{es:List PD}{d:D}{rest:List (List D)}(h:Gr e sz base es d rest)(hs:0<sz)(bs:List (List D))(hbs:bs.length=base)(k:List Nat)(a:PD):
    fin true (.agg [.p a,d]) ⟨bs++rest,k⟩ (.p (.agg [a,rowP sz es])):=by
 have h1:=h.frz hs bs hbs k 5
 have h2:D.frz 0 ⟨bs++rest,k⟩ 8 (.agg [.p a,d])= .p (.agg [a,rowP sz es]):=by
  rw[frz_agg 0 _ 7]
  simp[frz_p,h1,mkAgg,pures]
 exact⟨.p (.agg [a,rowP sz es]),by rw[h2];simp[D.ren],rfl⟩
theorem fin_gr{e sz base:Nat}{es:List PD}{d:D}{rest:List (List D)}(h:Gr e sz base es d rest)(hs:0<sz)(bs:List (List D))(hbs:bs.length=base)(k:List Nat):
    fin true d ⟨bs++rest,k⟩ (.p (rowP sz es)):=by
 have h1:=h.frz hs bs hbs k 6
 exact⟨.p (rowP sz es),by rw[h1];simp[D.ren],rfl⟩
theorem rowP_ints(l:List Int):rowP 1 (l.map (PD.int .i64))=intsP (keptS l):=by cases l<;>rfl
theorem rowP_pairs(l:List (Int×Int)):rowP 2 (l.map pairP)=pairsP (kepS l):=by cases l<;>rfl
theorem tuplesP_call(a so:Sl Int)(st:Int):
    ∀H,callD (call pg) 178 [.p (.agg [intsP a,.int .i64 st]),.p (.int .i64 (0)),.p (intsP so)] H=some (.val (.fn 237 [] [.ro [intsP so] 0,.ro [.int .i64 0] 0,.ro [intsP a,.int .i64 st] 0]),H):=by
 have hf:a178=a178:=rfl
 conv at hf=>rhs;reduce
 refine callP (aa:=[_,_,_]) hf rfl rfl rfl ?_
 clear hf
 simp[fin,D.frz,D.asPDL,D.asPD]
theorem mapO_ints(l:List Int):mapO intOf (l.map (PD.int .i64))=some l:=by
 induction l with
 |nil=>rfl
 |cons a r ih=>simp[mapO,intOf,ih]
theorem intsOf_ints(a:Sl Int):intsOf (intsP a)=some (els a):=by
 cases a with
 |nil=>rfl
 |of l=>
  cases l with
  |nil=>rfl
  |cons x r=>simpa[intsP,slP,intsOf,Sl.map,els] using mapO_ints (x::r)
 |amb=>rfl
theorem el_int(t:Int):ElOk 1 (.int .i64 t):=.inl ⟨rfl,rfl⟩
theorem gen237_eq(a so:Sl Int)(st p:Int)(h:∀x∈els a,0≤x∧x≤5)(hl:(els a).length≤1000)(hso:∀s∈els so,0≤s∧s<((els a).length:Int))(hsl:(els so).length≤1000)(H:Hp):
    gen237 [] [.ro [intsP so] 0,.ro [.int .i64 p] 0,.ro [intsP a,.int .i64 st] 0] H=some ((tupL (els a) (els so) p).map fun t=>[.p (.int .i64 (t))]):=by
 have h1:=sum_bd (m:=5) h
 have h2:(els a).all (fun a=>decide (0≤a))=true:=by rw[List.all_eq_true];exact fun x hx=>decide_eq_true (h x hx).1
 have h3:(els so).all (fun s=>decide (0≤s∧s<((els a).length:Int)))=true:=by rw[List.all_eq_true];exact fun x hx=>decide_eq_true (hso x hx)
 unfold gen237
 simp only[intsOf_ints]
 rw[if_pos ⟨h2,by omega,h3,by omega,by omega⟩]
attribute [local irreducible] gen237 gen226 gen68 tupL
theorem fullP_call(a so:Sl Int)(st:Int)(hl:(els a).length≤1000)(h:∀x∈els a,0≤x∧x≤5)(hfo:FieldOk (els a).length (els so))(htl:(tupL (els a) (els so) 0).length<1000000):
    ∀H,callD (call pg) 116 [.p (.agg [intsP a,.int .i64 st]),.p (intsP so)] H=some (.val (.p (.agg [.int .i64 (els so).length,intsP (keptS (tupL (els a) (els so) 0))])),H):=by
 obtain⟨f1,f2,f3⟩:=hfo
 have w1:=withinP_call ((els so).length:Int) 1 3
 rw[decide_eq_true (⟨by omega,by omega⟩:(1 :Int)≤(els so).length∧((els so).length:Int)≤3)] at w1
 have key:=loopN (c:=call pg) (G:=pg.G) (keep:=[1,2,4,14,15,16]) (b:=bd a116 0) (fun i=>[(1,.p (intsP so)),(2,.box 0 0),(4,.box 1 0),(14,.p (intsP so)),(15,.p (.int .i64 (((els so).length:Nat):Int))),(16,.p (.int .i64 ((i:Nat):Int)))]) (fun _=>⟨[[.p (intsP a),.p (.int .i64 (st))],[.p (.int .i64 (0)),.p (.nils)]],[]⟩) (els so).length (fun _=>True)
  (fun o e H=>H=⟨[[.p (intsP a),.p (.int .i64 (st))],[.p (.int .i64 (0)),.p (.nils)]],[]⟩∧o= .exit 0∧e.get 1= .p (intsP so)∧e.get 2= .box 0 0∧e.get 4= .box 1 0) trivial ?_ ?_
 ·obtain⟨o,e,H,hx,rfl,rfl,g1,g2,g4⟩:=post_get key
  have ht:=tuplesP_call a so st
  have hg:=gen237_eq a so st 0 h hl f1 (by omega)
  generalize tupL (els a) (els so) 0=L at *
  have hb0:bd a116 0=bd a116 0:=rfl
  conv at hb0=>rhs;reduce
  have hf:a116=a116:=rfl
  conv at hf=>rhs;reduce
  rw[←hb0] at hf
  refine callP (aa:=[_,_]) hf rfl rfl rfl ?_
  clear hf hb0
  simp at hx
  simp[len_ints,hx,g1,g2,g4,w1,ht,hg]
  refine post_range (fun i H=>∃d rest,H=⟨[[.p (intsP a),.p (.int .i64 (st))],[.p (.int .i64 (0)),.p (.nils)],[.p (.int .i64 (((els so).length:Nat):Int)),d]]++rest,[]⟩∧Gr 3 1 3 ((L.map (PD.int .i64)).take i) d rest) ?_ ?_ ?_
  ·exact⟨_,[],rfl,Gr.nil ..⟩
  ·rintro i x H hxi ⟨d,rest,rfl,hd⟩
   rw[List.getElem?_map] at hxi
   cases ht:L[i]? with
   |none=>rw[ht] at hxi;cases hxi
   |some t=>
    rw[ht] at hxi
    cases hxi
    refine⟨rfl,?_⟩
    have hi:=(List.getElem?_eq_some_iff.1 ht).1
    have e1:=(List.getElem?_eq_some_iff.1 ht).2
    obtain⟨d',rest',hap,hd'⟩:=hd.app (by':=8) (by simp;omega) (by omega) (by omega) [[.p (intsP a),.p (.int .i64 (st))],[.p (.int .i64 (0)),.p (.nils)],[.p (.int .i64 (((els so).length:Nat):Int)),d]] rfl [] (el_int t)
    have h1:=hd.one
    have h2:=hd'.one
    have e2:(L.map (PD.int .i64)).take (i+1)=(L.map (PD.int .i64)).take i++[.int .i64 t]:=by
     rw[List.take_succ_eq_append_getElem (by simpa using hi),List.getElem_map,e1]
    rw[e2]
    simp[pcells_int] at hap
    simp[setPs,srcC,capIds,D.refsL,D.refs,ins,reach_nil,keepB_nil,hap,h2,hd'.cells]
    exact⟨_,_,⟨rfl,rfl⟩,hd'⟩
  ·rintro H ⟨d,rest,rfl,hd⟩
   rw[List.length_map,←List.length_map (f:=PD.int .i64),List.take_length] at hd
   have hfin:=fin_gr2 hd (by omega) [[.p (intsP a),.p (.int .i64 (st))],[.p (.int .i64 (((els so).length:Nat):Int)),d],[.p (.int .i64 (((els so).length:Nat):Int)),d]] rfl [] (.int .i64 (els so).length)
   rw[rowP_ints] at hfin
   rcases hd.2.2 with⟨rfl,hn⟩ |⟨j,rfl,-⟩
   ·have :L=[]:=by simpa using hn
    subst this
    simp
    rfl
   ·simp at hfin
    simp[pures,cells_dagg,hfin]
 ·intro i hi _
  have hm:=f1 _ (List.getElem_mem hi)
  have w2:=withinP_call (els so)[i] 0 (((els a).length:Int)-1)
  rw[decide_eq_true (⟨by omega,by omega⟩:(0 :Int)≤(els so)[i]∧(els so)[i]≤((els a).length:Int)-1)] at w2
  have hw:IntKind.i64.wrap (((els a).length:Int)-1)=((els a).length:Int)-1:=wrap64 (by omega) (by omega)
  have hia:=ia_ints hi
  have hb0:bd a116 0=bd a116 0:=rfl
  conv at hb0=>rhs;reduce
  have hf:a116=a116:=rfl
  conv at hf=>rhs;reduce
  rw[←hb0] at hf
  rw[hb0];clear hf hb0
  simp[len_ints,hia,hi,w2,hw,inc64 (k:=i) (by omega)]
 ·intro _
  have hb0:bd a116 0=bd a116 0:=rfl
  conv at hb0=>rhs;reduce
  have hf:a116=a116:=rfl
  conv at hf=>rhs;reduce
  rw[←hb0] at hf
  rw[hb0];clear hf hb0
  simp[]
end Go.Proofs.YtgplgbonlnodeaaGreatDoor
namespace Go.Proofs.YtgplgbonlnodeaaGreatDoor
open Go.Vs
set_option maxRecDepth 100000
theorem Gr.ext{e sz base:Nat}{es:List PD}{d:D}{rest:List (List D)}(h:Gr e sz base es d rest)(ys:List PD):Gr e sz base es d (rest++[ys.map D.p]):=by
 obtain⟨h1,h2,h3⟩:=h
 refine⟨fun cs hcs=>?_,h2,?_⟩
 ·rcases List.mem_append.1 hcs with h |h
  ·exact h1 cs h
  ·exact⟨ys,List.mem_singleton.1 h⟩
 ·rcases h3 with h3 |⟨i,q1,q2,q3⟩
  ·exact .inl h3
  ·exact .inr ⟨i,q1,by rw[List.getElem?_append_left (List.getElem?_eq_some_iff.1 q2).1];exact q2,q3⟩
theorem Gr.app2{e sz base by':Nat}{es:List PD}{d:D}{rest:List (List D)}(h:Gr e sz base es d rest)(hn:es.length<1000000)(hb:by'≤1000)(hs:0<sz)(bs:List (List D))(hbs:bs.length=base)(k:List Nat){x:PD}(hx:ElOk sz x):
    ∃d' rest',appendgD e sz by' d 1 (x.cells.map .p) ⟨bs++rest,k⟩=some (d',⟨bs++rest',k⟩)∧Gr e sz base (es++[x]) d' rest'∧∀(j:Nat) (ys:List D),rest[j]? =some ys→ys.length≠es.length*sz→rest'[j]? =some ys:=by
 have hr:roomy (es.length+1) by'=true:=by
  have :(es.length+1)*by'≤1000000*1000:=Nat.mul_le_mul (by omega) hb
  simp only[roomy,Bool.and_eq_true,decide_eq_true_eq];omega
 obtain⟨d',rest',hap,hg⟩:=h.app hn hb hs bs hbs k hx
 refine⟨d',rest',hap,hg,fun j ys hj hne=>?_⟩
 have hjl:=(List.getElem?_eq_some_iff.1 hj).1
 obtain⟨_,hE,h⟩:=h
 rcases h with⟨rfl,rfl⟩ |⟨i,rfl,hi,hne0⟩
 ·have hr1:roomy 1 by'=true:=by simpa using hr
  simp[appendgD,fullD,hr1] at hap
  rw[←hap.2,List.getElem?_append_left hjl];exact hj
 ·have hil:i<rest.length:=(List.getElem?_eq_some_iff.1 hi).1
  have hcl:=cells_len hE
  have hij:i≠j:=fun h=>by
   subst h
   rw[hi] at hj
   cases hj
   exact hne (by rw[List.length_map,hcl])
  have hpos:0<es.length*sz:=Nat.mul_pos (List.length_pos_iff.2 hne0) hs
  have h1:(bs++rest)[base+i]? =some ((es.flatMap PD.cells).map D.p):=by
   rw[List.getElem?_append_right (by omega),hbs,Nat.add_sub_cancel_left];exact hi
  have h2:¬(es.length+1)*sz≤es.length*sz:=by rw[Nat.add_mul];omega
  have h3:(es.flatMap PD.cells).map D.p≠[]:=fun h=>by
   have:=congrArg List.length h
   rw[List.length_map,hcl] at this
   simp at this
   omega
  have h5:(bs++rest).set (base+i) []=bs++rest.set i []:=by
   rw[List.set_append_right _ _ (by omega),hbs,Nat.add_sub_cancel_left]
  have h6:((es.flatMap PD.cells).map D.p).length=es.length*sz:=by rw[List.length_map,hcl]
  simp only[appendgD,h1,h5,h6,hr,isMapC_p,and_self,if_true,if_false,Nat.le_refl,ne_eq,h3,not_false_eq_true,h2,Nat.succ_ne_zero,Option.some.injEq,Prod.mk.injEq,Hp.mk.injEq,List.append_assoc,List.append_cancel_left_eq] at hap
  rw[←hap.2.1,List.getElem?_append_left (by rw[List.length_set];exact hjl),List.getElem?_set_ne hij]
  exact hj
theorem Gr.mapC{e sz base:Nat}{es:List PD}{d:D}{rest:List (List D)}(h:Gr e sz base es d rest):isMapC [d]=false:=by
 rcases h.2.2 with⟨rfl,_⟩ |⟨i,rfl,_⟩<;>rfl
theorem im1(x:PD):isMapC [.p x]=false:=rfl
theorem post_range2{c:CallR}{G:Nat→Option (List PD)}{Q:Out→Env→Hp→Prop}{xs:List (List D)}{asg b rest:SC}{env:Env}{ps:List Nat}{kb:Hp→Bool}{H:Hp}{k1 k2:Nat}(I:Nat→Hp→Prop)(h0:I 0 H)
    (h:∀i x H,xs[i]? =some x→I i H→x.length=ps.length∧post (fun o e H1=>o= .norm∧post (fun o _ H2=>o= .norm∧kb H2=true∧I (i+1) H2) (evS c G iterX b ⟨e,H1⟩)) (evS c G iterX asg ⟨setPs env ps x,H⟩))
    (hq:∀H',I xs.length H'→post Q (seqK c G (some (.norm,⟨env,H'⟩)) rest)):post Q (seqK c G (blockK k1 (blockK k2 (rangeK c G (some xs) asg b env ps kb H))) rest):=by
 obtain⟨H',h1,h2⟩:=rounds_ind (kb:=kb) I xs 0 H h0 fun i x H hx hI=>by simpa using h i x H hx (by simpa using hI)
 rw[Nat.zero_add] at h2
 have h3:rangeK c G (some xs) asg b env ps kb H=some (.norm,⟨env,H'⟩):=h1
 rw[h3]
 exact hq H' h2
theorem undet_call(la ua:Int)(lo up:Sl Int):
    ∀H,callD (call pg) 159 [.p (.agg [.int .i64 la,intsP lo,.int .i64 ua,intsP up])] H=some (.val (.fn 226 [] [.ro [.int .i64 la,intsP lo,.int .i64 ua,intsP up] 0]),H):=by
 have hf:a159=a159:=rfl
 conv at hf=>rhs;reduce
 refine callP (aa:=[_]) hf rfl rfl rfl ?_
 clear hf
 simp[fin,D.frz,D.asPDL,D.asPD]
theorem srtd_of:∀{l:List Int},Srt l→srtd l=true
 |[],_=>rfl
 |[_],_=>rfl
 |a::b::r,h=>by
  have h1:=List.pairwise_cons.1 h
  have:=h1.1 b List.mem_cons_self
  simp only[srtd,Bool.and_eq_true,decide_eq_true_eq]
  exact⟨by omega,srtd_of h1.2⟩
theorem gen226_eq(la ua:Int)(lo up:Sl Int)(hs:Srt (els lo))(h1:(els lo).length<4611686018427387904)(h2:(els up).length<4611686018427387904)(H:Hp):
    gen226 [] [.ro [.int .i64 la,intsP lo,.int .i64 ua,intsP up] 0] H=some ((outL (els up) (els lo)).map fun t=>[.p (.int .i64 (t))]):=by
 unfold gen226
 simp only[intsOf_ints]
 rw[if_pos ⟨srtd_of hs,h1,h2⟩]
attribute [local irreducible] gen237 gen226 gen68 tupL
theorem el_pair(p:Int×Int):ElOk 2 (pairP p):=.inr ⟨by decide,_,rfl,rfl⟩
theorem set_len0{α:Type}(l:List α)(x y:α)(r:List α):(l++x::r).set l.length y=l++y::r:=by
 rw[List.set_append_right _ _ (Nat.le_refl _),Nat.sub_self];rfl
theorem set_len1{α:Type}(l:List α)(x z y:α)(r:List α):(l++x::z::r).set (l.length+1) y=l++x::y::r:=by
 rw[List.set_append_right _ _ (by omega),Nat.add_sub_cancel_left];rfl
theorem get_len{α:Type}(l:List α)(x:α)(r:List α):(l++x::r)[l.length]? =some x:=by
 rw[List.getElem?_append_right (Nat.le_refl _),Nat.sub_self];rfl
theorem get_len1{α:Type}(l:List α)(x z:α)(r:List α):(l++x::z::r)[l.length+1]? =some z:=by
 rw[List.getElem?_append_right (by omega),Nat.add_sub_cancel_left];rfl
theorem freeP_call(bs:Sl Bn)(hl:(els bs).length≤1000)(hu:∀b∈els bs,(els b.up.tu).length≤900∧(els b.lo.tu).length≤900)(hs:∀b∈els bs,Srt (els b.lo.tu)):
    ∀H,callD (call pg) 104 [.p (boundsP bs)] H=some (.val (.p (pairsP (kepS (freeA 0 (els bs))))),H):=by
 have key:=loopW (c:=call pg) (G:=pg.G) (σ:=Nat×D×List (List D)) (keep:=[3,7,8,9]) (b:=bd a104 0)
  (fun s=>[(3,.box 0 0),(7,.p (boundsP bs)),(8,.p (.int .i64 (((els bs).length:Nat):Int))),(9,.p (.int .i64 ((s.1:Nat):Int)))]) (fun s=>⟨[s.2.1]::s.2.2,[]⟩)
  (fun s=>(els bs).length-s.1) (fun s=>s.1≤(els bs).length∧Gr 112 2 1 ((freeA 0 ((els bs).take s.1)).map pairP) s.2.1 s.2.2)
  (fun o e H=>o= .exit 0∧e.get 3= .box 0 0∧∃d rest,H=⟨[d]::rest,[]⟩∧Gr 112 2 1 ((freeA 0 (els bs)).map pairP) d rest) ?_ (0,.p (.nils),[]) ⟨Nat.zero_le _,Gr.nil ..⟩
 ·obtain⟨o,e,H,hx,rfl,g3,d,rest,rfl,hd⟩:=post_get key
  have h1:=hd.one
  have hfin:=fin_gr hd (by omega) [[d]] rfl []
  rw[rowP_pairs] at hfin
  have hb0:bd a104 0=bd a104 0:=rfl
  conv at hb0=>rhs;reduce
  have hf:a104=a104:=rfl
  conv at hf=>rhs;reduce
  rw[←hb0] at hf
  refine callP (aa:=[_]) hf rfl rfl rfl ?_
  clear hf hb0
  have hmc:=hd.mapC
  simp at hx hfin
  simp[-isMapC,len_bounds,hx,g3,hfin,hmc]
 ·rintro⟨i,d,rest⟩ ⟨hi,hd⟩
  dsimp only at hi hd⊢
  rcases Nat.lt_or_ge i (els bs).length with hlt |hge
  ·have hm:=List.getElem_mem hlt
   have c1:=undet_call (els bs)[i].lo.ar (els bs)[i].up.ar (els bs)[i].lo.tu (els bs)[i].up.tu
   have hg:=gen226_eq (els bs)[i].lo.ar (els bs)[i].up.ar (els bs)[i].lo.tu (els bs)[i].up.tu (hs _ hm) (by have:=hu _ hm;omega) (by have:=hu _ hm;omega)
   have hia:=ia_bounds hlt
   have hfr:freeA 0 ((els bs).take (i+1))=freeA 0 ((els bs).take i)++(outL (els (els bs)[i].up.tu) (els (els bs)[i].lo.tu)).map fun t=>((i:Int),t):=by
    rw[List.take_succ_eq_append_getElem hlt,freeA_app,List.length_take,Nat.min_eq_left hi,Nat.zero_add];rfl
   have hol:(outL (els (els bs)[i].up.tu) (els (els bs)[i].lo.tu)).length≤900:=Nat.le_trans (List.length_filter_le _ _) (hu _ hm).1
   have hFl:(freeA 0 ((els bs).take i)).length≤1000*900-900:=by
    have h1:=freeA_len ((els bs).take i) 0 900 fun b hb=>(hu b (List.mem_of_mem_take hb)).1
    rw[List.length_take,Nat.min_eq_left hi] at h1
    have h5:i*900≤999*900:=Nat.mul_le_mul_right 900 (by omega)
    omega
   have hkk:=inc64 (k:=i) (by omega)
   have hd1:=hd.one
   suffices h:post (fun o e H=>o= .norm∧e.keep [3,7,8,9]=Env.keep [3,7,8,9] [(3,.box 0 0),(7,.p (boundsP bs)),(8,.p (.int .i64 (((els bs).length:Nat):Int))),(9,.p (.int .i64 ((i+1 :Nat):Int)))]∧∃d rest,H=⟨[d]::rest,[]⟩∧Gr 112 2 1 ((freeA 0 ((els bs).take (i+1))).map pairP) d rest)
       (evS (call pg) pg.G iterX (bd a104 0) ⟨Env.keep [3,7,8,9] [(3,.box 0 0),(7,.p (boundsP bs)),(8,.p (.int .i64 (((els bs).length:Nat):Int))),(9,.p (.int .i64 ((i:Nat):Int)))],⟨[d]::rest,[]⟩⟩) by
    refine post_mono h ?_
    rintro o e H ⟨rfl,he,d,rest,rfl,hg⟩
    exact .inl ⟨(i+1,d,rest),⟨hlt,hg⟩,by dsimp only;omega,rfl,rfl,he⟩
   rw[hfr,List.map_append,List.map_map]
   generalize hG:freeA 0 ((els bs).take i)=F at *
   generalize hO:outL (els (els bs)[i].up.tu) (els (els bs)[i].lo.tu)=L at *
   have hgo:=hG
   clear hgo hG hO hfr
   generalize (els bs)[i]=b at *
   have hb0:bd a104 0=bd a104 0:=rfl
   conv at hb0=>rhs;reduce
   have hf:a104=a104:=rfl
   conv at hf=>rhs;reduce
   rw[←hb0] at hf
   rw[hb0];clear hf hb0
   simp[hia,hlt,c1,hg]
   refine post_range2 (fun j H=>∃d' rest',H=⟨[d']::rest',[]⟩∧Gr 112 2 1 (F.map pairP++(L.take j).map (pairP∘fun t=>((i:Int),t))) d' rest'∧rest'[rest.length]? =some [.p (.int .i64 (i))]) ?_ ?_ ?_
   ·refine⟨d,_,rfl,?_,?_⟩
    ·have:=(hd.ext [.int .i64 i]).ext [.int .i64 b.lo.ar,intsP b.lo.tu,.int .i64 b.up.ar,intsP b.up.tu]
     simpa using this
    ·rw[get_len]
   ·rintro j x H hxj ⟨d',rest',rfl,hd',hk⟩
    rw[List.getElem?_map] at hxj
    cases ht:L[j]? with
    |none=>rw[ht] at hxj;cases hxj
    |some t=>
     rw[ht] at hxj
     cases hxj
     refine⟨rfl,?_⟩
     have hj:=(List.getElem?_eq_some_iff.1 ht).1
     have e1:=(List.getElem?_eq_some_iff.1 ht).2
     have hne:(F.map pairP++(L.take j).map (pairP∘fun t=>((i:Int),t))).length<1000000:=by
      rw[List.length_append,List.length_map,List.length_map,List.length_take];omega
     obtain⟨d2,rest2,hap,hd2,hk2⟩:=hd'.app2 (by':=16) hne (by omega) (by omega) [[d']] rfl [] (el_pair ((i:Int),t))
     have hk3:=hk2 _ _ hk (by simp only[List.length_singleton];omega)
     have g1:=hd'.one
     have g2:=hd2.one
     have g3:=hd2.cells
     have g4:=hd'.mapC
     have e2:F.map pairP++(L.take (j+1)).map (pairP∘fun t=>((i:Int),t))=(F.map pairP++(L.take j).map (pairP∘fun t=>((i:Int),t)))++[pairP ((i:Int),t)]:=by
      rw[List.take_succ_eq_append_getElem hj,e1,List.map_append,←List.append_assoc];rfl
     rw[e2]
     generalize F.map pairP++(L.take j).map (pairP∘fun t=>((i:Int),t))=E at *
     simp[pairP,pcells_agg] at hap hd2
     simp[-isMapC,setPs,srcC,capIds,D.refsL,D.refs,ins,reach_nil,keepB_nil,hap,g2,g3,g4,hk,im1,pairP]
     exact⟨_,_,⟨rfl,rfl⟩,hd2,hk3⟩
   ·rintro H ⟨d',rest',rfl,hd',hk⟩
    rw[List.length_map,List.take_length] at hd'
    simp[hkk]
    exact⟨_,_,⟨rfl,rfl⟩,hd'⟩
  ·have hi':i=(els bs).length:=by omega
   subst hi'
   rw[List.take_length] at hd
   refine post_mono (Q:=fun o e H=>o= .exit 0∧e.get 3= .box 0 0∧H=⟨[d]::rest,[]⟩) ?_ fun o e H hh=>.inr ?_
   ·skip
    have hb0:bd a104 0=bd a104 0:=rfl
    conv at hb0=>rhs;reduce
    have hf:a104=a104:=rfl
    conv at hf=>rhs;reduce
    rw[←hb0] at hf
    rw[hb0];clear hf hb0
    simp
   ·obtain⟨rfl,h2,rfl⟩:=hh
    exact⟨by simp,rfl,h2,d,rest,rfl,hd⟩
end Go.Proofs.YtgplgbonlnodeaaGreatDoor
namespace Go.Proofs.YtgplgbonlnodeaaGreatDoor
open Go.Vs
set_option maxRecDepth 100000
theorem nan1_call(x:Int):∀H,callD (call pg) 123 [.p (.int .i64 (x))] H=some (.val (.p (.bool false)),H):=by
 have hf:a123=a123:=rfl
 conv at hf=>rhs;reduce
 refine callP (aa:=[_]) hf rfl rfl rfl ?_
 clear hf
 simp
theorem nan2_call(x:Int):∀H,callD (call pg) 180 [.p (.int .i64 (x))] H=some (.val (.p (.bool false)),H):=by
 have hf:a180=a180:=rfl
 conv at hf=>rhs;reduce
 refine callP (aa:=[_]) hf rfl rfl rfl ?_
 clear hf
 simp
theorem less_call(x y:Int):∀H,callD (call pg) 122 [.p (.int .i64 (x)),.p (.int .i64 (y))] H=some (.val (.p (.bool (decide (x<y)))),H):=by
 have hf:a122=a122:=rfl
 conv at hf=>rhs;reduce
 refine callP (aa:=[_,_]) hf rfl rfl rfl ?_
 clear hf
 simp[nan2_call]
def At(l:List Int)(x:Int)(k:Nat):Prop:=k≤l.length∧(∀i (h:i<l.length),i<k→l[i]<x)∧∀i (h:i<l.length),k≤i→x≤l[i]
theorem bsearch_call(l:Sl Int)(x:Int)(hl:(els l).length<4611686018427387904)(hs:Srt (els l)):
    ∃k:Nat,At (els l) x k∧∀H,callD (call pg) 69 [.p (intsP l),.p (.int .i64 (x))] H=some (.val (.tup [.p (.int .i64 ((k:Nat):Int)),.p (.bool (decide (x∈els l)))]),H):=by
 have hs':=List.pairwise_iff_getElem.1 hs
 have key:=loopW (c:=call pg) (G:=pg.G) (keep:=[0,1,6,7,8]) (b:=bd a69 0) (σ:=Nat×Nat) (fun s=>[(0,.p (intsP l)),(1,.p (.int .i64 (x))),(6,.p (.int .i64 (((els l).length:Nat):Int))),(7,.p (.int .i64 ((s.1:Nat):Int))),(8,.p (.int .i64 ((s.2:Nat):Int)))]) (fun _=>⟨[],[]⟩) (fun s=>s.2-s.1)
  (fun s=>s.1≤s.2∧s.2≤(els l).length∧(∀i (h:i<(els l).length),i<s.1→(els l)[i]<x)∧∀i (h:i<(els l).length),s.2≤i→x≤(els l)[i])
  (fun o e H=>H=⟨[],[]⟩∧o= .exit 0∧e.get 0= .p (intsP l)∧e.get 1= .p (.int .i64 (x))∧e.get 6= .p (.int .i64 (((els l).length:Nat):Int))∧∃k:Nat,e.get 7= .p (.int .i64 ((k:Nat):Int))∧At (els l) x k)
  ?_ (0,(els l).length) ⟨Nat.zero_le _,Nat.le_refl _,fun i _ h=>absurd h (Nat.not_lt_zero _),fun i h h'=>absurd h (Nat.not_lt.2 h')⟩
 ·obtain⟨o,e,H,hx,rfl,rfl,g0,g1,g6,k,g7,hk⟩:=post_get key
  refine⟨k,hk,?_⟩
  obtain⟨hkl,p1,p2⟩:=hk
  simp at hx
  have hb0:bd a69 0=bd a69 0:=rfl
  conv at hb0=>rhs;reduce
  have hf:a69=a69:=rfl
  conv at hf=>rhs;reduce
  rw[←hb0] at hf
  by_cases hlt:k<(els l).length
  ·by_cases hq:(els l)[k]=x
   ·have hm:x∈els l:=hq▸List.getElem_mem hlt
    refine callP (aa:=[_,_]) hf rfl rfl rfl ?_
    clear hf hb0
    simp[len_ints,hx,g0,g1,g6,g7,hlt,ia_ints hlt,hq,hm]
   ·have hm:¬x∈els l:=fun hm=>by
     obtain⟨i,hi,rfl⟩:=List.getElem_of_mem hm
     rcases Nat.lt_trichotomy i k with h |h |h
     ·have:=p1 i hi h;omega
     ·subst h;exact hq rfl
     ·have:=p2 k hlt (Nat.le_refl _)
      have:=hs' k i hlt hi h
      omega
    refine callP (aa:=[_,_]) hf rfl rfl rfl ?_
    clear hf hb0
    simp[len_ints,hx,g0,g1,g6,g7,hlt,ia_ints hlt,hq,hm,nan1_call]
  ·have hm:¬x∈els l:=fun hm=>by
    obtain⟨i,hi,rfl⟩:=List.getElem_of_mem hm
    have:=p1 i hi (by omega)
    omega
   refine callP (aa:=[_,_]) hf rfl rfl rfl ?_
   clear hf hb0
   simp[len_ints,hx,g6,g7,hlt,hm]
 ·rintro⟨lo,hi⟩ ⟨h1,h2,h3,h4⟩
  dsimp only at h1 h2 h3 h4⊢
  by_cases hlt:lo<hi
  ·have hm:(lo+hi)/2<(els l).length:=by omega
   have c1:IntKind.i64.wrap ((lo:Int)+(hi:Int))=((lo+hi:Nat):Int):=by rw[wrap64 (by omega) (by omega)];simp
   have c0:IntKind.u64.wrap ((lo+hi:Nat):Int)=((lo+hi:Nat):Int):=by
    simp[IntKind.wrap,IntKind.bits,IntKind.signed]
    omega
   have c2:intBin .shr .u64 ((lo+hi:Nat):Int) 1=some (.int .u64 (((lo+hi)/2 :Nat):Int)):=by
    have :(((lo+hi:Nat):Int)).fdiv 2=(((lo+hi)/2 :Nat):Int):=by
     rw[Int.fdiv_eq_ediv_of_nonneg _ (by omega)];omega
    simp only[intBin,IntKind.bits]
    rw[if_neg (by omega)]
    exact congrArg (fun z=>some (PD.int .u64 z)) this
   have c4:IntKind.i64.wrap (((lo+hi)/2 :Nat):Int)=(((lo+hi)/2 :Nat):Int):=wrap64 (by omega) (by omega)
   have c3:=inc64 (k:=(lo+hi)/2) (by omega)
   have hia:=ia_ints hm
   by_cases hc:(els l)[(lo+hi)/2]<x
   ·refine post_mono (Q:=fun o e H=>nx [0,1,6,7,8] [(0,.p (intsP l)),(1,.p (.int .i64 (x))),(6,.p (.int .i64 (((els l).length:Nat):Int))),(7,.p (.int .i64 (((lo+hi)/2+1 :Nat):Int))),(8,.p (.int .i64 ((hi:Nat):Int)))] ⟨[],[]⟩ o e H) ?_ fun o e H hh=>.inl ⟨((lo+hi)/2+1,hi),⟨by dsimp only;omega,h2,fun i h h'=>?_,h4⟩,by dsimp only;omega,hh⟩
    ·have hd:decide ((els l)[(lo+hi)/2]<x)=true:=decide_eq_true hc
     have c5:=less_call (els l)[(lo+hi)/2] x
     rw[hd] at c5
     have hb0:bd a69 0=bd a69 0:=rfl
     conv at hb0=>rhs;reduce
     have hf:a69=a69:=rfl
     conv at hf=>rhs;reduce
     rw[←hb0] at hf
     rw[hb0];clear hf hb0
     generalize (els l)[(lo+hi)/2]=y at *
     generalize (((lo+hi)/2+1 :Nat):Int)=m1 at *
     generalize (((lo+hi)/2 :Nat):Int)=m at *
     generalize ((lo+hi:Nat):Int)=m2 at *
     simp[hlt,c0,c1,c2,c3,c4,c5,hia]
    ·dsimp only at h'
     rcases Nat.lt_or_ge i ((lo+hi)/2) with h'' |h''
     ·have:=hs' i _ h hm h'';omega
     ·have :i=(lo+hi)/2:=by omega
      subst this;exact hc
   ·refine post_mono (Q:=fun o e H=>nx [0,1,6,7,8] [(0,.p (intsP l)),(1,.p (.int .i64 (x))),(6,.p (.int .i64 (((els l).length:Nat):Int))),(7,.p (.int .i64 ((lo:Nat):Int))),(8,.p (.int .i64 (((lo+hi)/2 :Nat):Int)))] ⟨[],[]⟩ o e H) ?_ fun o e H hh=>.inl ⟨(lo,(lo+hi)/2),⟨by dsimp only;omega,by dsimp only;omega,h3,fun i h h'=>?_⟩,by dsimp only;omega,hh⟩
    ·have hd:decide ((els l)[(lo+hi)/2]<x)=false:=decide_eq_false hc
     have c5:=less_call (els l)[(lo+hi)/2] x
     rw[hd] at c5
     have hb0:bd a69 0=bd a69 0:=rfl
     conv at hb0=>rhs;reduce
     have hf:a69=a69:=rfl
     conv at hf=>rhs;reduce
     rw[←hb0] at hf
     rw[hb0];clear hf hb0
     generalize (els l)[(lo+hi)/2]=y at *
     generalize (((lo+hi)/2+1 :Nat):Int)=m1 at *
     generalize (((lo+hi)/2 :Nat):Int)=m at *
     generalize ((lo+hi:Nat):Int)=m2 at *
     simp[hlt,c0,c1,c2,c4,c5,hia]
    ·dsimp only at h'
     rcases Nat.lt_or_ge ((lo+hi)/2) i with h'' |h''
     ·have:=hs' _ i hm h h'';omega
     ·have :i=(lo+hi)/2:=by omega
      subst this;omega
  ·have :lo=hi:=by omega
   subst this
   refine post_mono (Q:=fun o e H=>o= .exit 0∧H=⟨[],[]⟩∧e.get 0= .p (intsP l)∧e.get 1= .p (.int .i64 (x))∧e.get 6= .p (.int .i64 (((els l).length:Nat):Int))∧e.get 7= .p (.int .i64 ((lo:Nat):Int))) ?_ fun o e H hh=>.inr ?_
   ·skip
    have hb0:bd a69 0=bd a69 0:=rfl
    conv at hb0=>rhs;reduce
    have hf:a69=a69:=rfl
    conv at hf=>rhs;reduce
    rw[←hb0] at hf
    rw[hb0];clear hf hb0
    simp
   ·obtain⟨rfl,rfl,q1,q2,q3,q4⟩:=hh
    exact⟨by simp,rfl,rfl,q1,q2,q3,lo,q4,h2,h3,h4⟩
end Go.Proofs.YtgplgbonlnodeaaGreatDoor
namespace Go.Proofs.YtgplgbonlnodeaaGreatDoor
open Go.Vs
set_option maxRecDepth 100000
variable {so f3 f4 : PD} {fi : Sl Fi} {a : Sl Int} {bs : Sl Bn} {st : Int}
def layC(so f3 f4:PD)(fi:Sl Fi)(a:Sl Int)(st:Int)(bs:Sl Bn)(K:Sl (Int×Int)):List PD:=[intsP a,.int .i64 st,so,fieldsP fi,f3,f4,boundsP bs,pairsP K]
theorem layout_call(o1:so.one=true)(o3:f3.one=true)(o4:f4.one=true)(hl:(els bs).length≤1000)(hu:∀b∈els bs,(els b.up.tu).length≤900∧(els b.lo.tu).length≤900)(hs:∀b∈els bs,Srt (els b.lo.tu)):
    ∀H,callD (call pg) 55 [.p (.agg [so,fieldsP fi,f3,f4]),.p (.agg [intsP a,.int .i64 st]),.p (boundsP bs)] H=some (.val (.ro (layC so f3 f4 fi a st bs (kepS (freeA 0 (els bs)))) 0),H):=by
 have c1:=freeP_call bs hl hu hs
 generalize kepS (freeA 0 (els bs))=K at *
 have hf:a55=a55:=rfl
 conv at hf=>rhs;reduce
 refine callP (aa:=[_,_,_]) hf rfl rfl rfl ?_
 clear hf
 simp[c1,o1,o3,o4]
 simp[fin,D.frz,isMapC,D.asPDL,D.asPD,D.ren,layC]
theorem selN_cast(st:Int):((selN st:Nat):Int)=if 1<st then st else 0:=by
 unfold selN;split<;>omega
theorem sel_call(_o1:so.one=true)(K:Sl (Int×Int)):∀H,callD (call pg) 75 [.ro (layC so f3 f4 fi a st bs K) 0] H=some (.val (.p (.int .i64 ((selN st:Nat):Int))),H):=by
 rw[selN_cast]
 unfold layC
 have hf:a75=a75:=rfl
 conv at hf=>rhs;reduce
 refine callQ hf rfl rfl rfl rfl rfl rfl ?_
 clear hf
 by_cases h:1<st
 ·simp[h]
 ·simp[h]
theorem mapO_va(l:List Fi):mapO varOf (l.map Fi.p)=some (l.map Fi.va):=by
 induction l with
 |nil=>rfl
 |cons a r ih=>simp[mapO,varOf,Fi.p,ih]
theorem varsOf_fields(f:Sl Fi):varsOf (fieldsP f)=some ((els f).map Fi.va):=by
 cases f with
 |nil=>rfl
 |of l=>
  cases l with
  |nil=>rfl
  |cons x r=>simpa[fieldsP,slP,varsOf,Sl.map,els] using mapO_va (x::r)
 |amb=>rfl
theorem mapO_pair(l:List (Int×Int)):mapO pairOf (l.map pairP)=some l:=by
 induction l with
 |nil=>rfl
 |cons a r ih=>simp[mapO,pairOf,pairP,ih]
theorem pairsOf_pairs(f:Sl (Int×Int)):pairsOf (pairsP f)=some (els f):=by
 cases f with
 |nil=>rfl
 |of l=>
  cases l with
  |nil=>rfl
  |cons x r=>simpa[pairsP,slP,pairsOf,Sl.map,els] using mapO_pair (x::r)
 |amb=>rfl
theorem ents_len(vs:List Bool)(s:Nat):∀(l:List (Int×Int)) (v:Nat),(ents vs s l v).length≤l.length
 |[],_=>by simp[ents]
 |(a,b)::r,v=>by
  simp only[ents]
  split
  ·have:=ents_len vs s r v;simp only[List.length_cons];omega
  ·have:=ents_len vs s r (v+1);simp only[List.length_cons];omega
theorem entsA_len(vs:List Bool)(free:List (Int×Int)):∀(n s v:Nat),(entsA vs free n s v).length≤n*free.length
 | 0,_,_=>by simp[entsA]
 |n+1,s,v=>by
  have h1:=ents_len vs s free v
  have h2:=entsA_len vs free n (s+1) (v+(ents vs s free v).length)
  simp only[entsA,List.length_append,Nat.add_mul];omega
theorem ents_var(vs:List Bool)(s:Nat):∀(l:List (Int×Int)) (v j:Nat) e,(ents vs s l v)[j]? =some e→e.1=v+j+1
 |[],_,_,_,h=>by simp[ents] at h
 |(a,b)::r,v,j,e,h=>by
  simp only[ents] at h
  split at h
  ·exact ents_var vs s r v j e h
  ·cases j with
   |zero=>cases h;rfl
   |succ j=>have:=ents_var vs s r (v+1) j e h;omega
theorem entsA_var(vs:List Bool)(free:List (Int×Int)):∀(n s v j:Nat) e,(entsA vs free n s v)[j]? =some e→e.1=v+j+1
 | 0,_,_,_,_,h=>by simp[entsA] at h
 |n+1,s,v,j,e,h=>by
  simp only[entsA] at h
  rcases Nat.lt_or_ge j (ents vs s free v).length with hj |hj
  ·rw[List.getElem?_append_left hj] at h
   exact ents_var vs s free v j e h
  ·rw[List.getElem?_append_right hj] at h
   have:=entsA_var vs free n (s+1) _ _ e h
   omega
abbrev entL(fi:List Fi)(bs:List Bn)(st:Int):List (Nat×Nat×Int×Int):=entsA (fi.map Fi.va) (freeA 0 bs) st.toNat 0 (selN st)
theorem freeA_ix:∀(l:List Bn) (i:Nat),∀p∈freeA i l,∃j:Nat,p.1=(j:Int)∧i≤j∧j<i+l.length
 |[],i,p,h=>by simp[freeA] at h
 |b::r,i,p,h=>by
  simp only[freeA,List.mem_append] at h
  rcases h with h |h
  ·unfold free1 at h
   obtain⟨t,_,rfl⟩:=List.mem_map.1 h
   exact⟨i,rfl,Nat.le_refl _,by simp⟩
  ·obtain⟨j,h1,h2,h3⟩:=freeA_ix r (i+1) p h
   exact⟨j,h1,by omega,by simp only[List.length_cons];omega⟩
theorem gen68_eq(hst:st≤4)(hbl:(els bs).length=(els fi).length)(hl:(els bs).length≤1000)(hu:∀b∈els bs,(els b.up.tu).length≤900)(H:Hp):
    gen68 [.ro (layC so f3 f4 fi a st bs (kepS (freeA 0 (els bs)))) 0] [] H=some ((entL (els fi) (els bs) st).map entD):=by
 have hFl:(freeA 0 (els bs)).length≤1000*900:=by
  have h1:=freeA_len (els bs) 0 900 hu
  have h5:(els bs).length*900≤1000*900:=Nat.mul_le_mul_right 900 hl
  omega
 have h3:(freeA 0 (els bs)).all (fun p=>decide (0≤p.1∧p.1<(((els fi).map Fi.va).length:Int)))=true:=by
  rw[List.all_eq_true]
  intro p hp
  obtain⟨j,h1,h2,h3⟩:=freeA_ix _ _ _ hp
  rw[List.length_map]
  exact decide_eq_true ⟨by omega,by omega⟩
 have h4:selN st+(entsA ((els fi).map Fi.va) (freeA 0 (els bs)) st.toNat 0 (selN st)).length<4611686018427387904:=by
  have h1:=entsA_len ((els fi).map Fi.va) (freeA 0 (els bs)) st.toNat 0 (selN st)
  have h2:st.toNat*(freeA 0 (els bs)).length≤4*(1000*900):=Nat.mul_le_mul (by omega) hFl
  have h5:selN st≤4:=by unfold selN;split<;>omega
  omega
 unfold gen68 layC
 simp only[varsOf_fields,pairsOf_pairs,kepS_els]
 rw[if_pos ⟨by omega,by omega,h3,h4⟩]
attribute [local irreducible] gen237 gen226 gen68 tupL
def inN(fi:List Fi)(bs:List Bn)(st:Int):Nat:=selN st+(entL fi bs st).length
theorem inputs_call(o1:so.one=true)(hst:st≤4)(hbl:(els bs).length=(els fi).length)(hl:(els bs).length≤1000)(hu:∀b∈els bs,(els b.up.tu).length≤900):
    ∀H,callD (call pg) 56 [.ro (layC so f3 f4 fi a st bs (kepS (freeA 0 (els bs)))) 0] H=some (.val (.p (.int .i64 ((inN (els fi) (els bs) st:Nat):Int))),H):=by
 have c1:=sel_call (f3:=f3) (f4:=f4) (fi:=fi) (a:=a) (st:=st) (bs:=bs) o1 (kepS (freeA 0 (els bs)))
 have hg:=gen68_eq (so:=so) (f3:=f3) (f4:=f4) (a:=a) hst hbl hl hu
 have hv:∀(j:Nat) e,(entL (els fi) (els bs) st)[j]? =some e→e.1=selN st+j+1:=entsA_var ((els fi).map Fi.va) (freeA 0 (els bs)) st.toNat 0 (selN st)
 unfold inN
 generalize layC so f3 f4 fi a st bs (kepS (freeA 0 (els bs)))=C at *
 generalize entL (els fi) (els bs) st=L at *
 generalize selN st=v0 at *
 have hf:a56=a56:=rfl
 conv at hf=>rhs;reduce
 refine callQ hf rfl rfl rfl rfl rfl rfl ?_
 clear hf
 simp[c1,hg]
 refine post_range (fun j H=>∃rest,H=⟨[.p (.int .i64 ((v0+j:Nat):Int))]::rest,[]⟩) ⟨[],rfl⟩ ?_ ?_
 ·rintro j x H hxj ⟨rest,rfl⟩
  rw[List.getElem?_map] at hxj
  cases ht:L[j]? with
  |none=>rw[ht] at hxj;cases hxj
  |some e=>
   rw[ht] at hxj
   cases hxj
   refine⟨rfl,?_⟩
   have he:=hv j e ht
   obtain⟨e1,e2,e3,e4⟩:=e
   dsimp only at he
   subst he
   simp[entD,setPs,capIds,D.refsL,D.refs,ins,reach_nil,keepB_nil,Int.add_assoc]
 ·rintro H ⟨rest,rfl⟩
  rw[List.length_map]
  simp
end Go.Proofs.YtgplgbonlnodeaaGreatDoor
namespace Go.Proofs.YtgplgbonlnodeaaGreatDoor
open Go.Vs
set_option maxRecDepth 100000
def relAt(x:Sl Rl)(f:Nat):List Int:=match(els x)[f]? with |some r=>els r.tu |none=>[]
def bits(L:List (Int×Int))(x:Sl Rl):List Bool:=L.map fun p=>decide (p.2∈relAt x p.1.toNat)
theorem bits_cons(p:Int×Int)(L:List (Int×Int))(x:Sl Rl):bits (p::L) x=decide (p.2∈relAt x p.1.toNat)::bits L x:=rfl
structure StsOk (L:List (Int×Int)) (ss:List (Sl Rl)):Prop where
 ix:∀x∈ss,∀p∈L,∃j:Nat,p.1=(j:Int)∧j<(els x).length
 ln:∀x∈ss,∀r∈els x,(els r.tu).length<4611686018427387904
 sr:∀x∈ss,∀r∈els x,Srt (els r.tu)
theorem lexB_app{a b:List Bool}(h:a.length=b.length)(p q:List Bool):lexB (a++p) (b++q)=if lexB a b=0 then lexB p q else lexB a b:=by
 induction a generalizing b with
 |nil=>
  cases b with
  |nil=>simp[lexB]
  |cons=>simp at h
 |cons x a ih=>
  cases b with
  |nil=>simp at h
  |cons y b=>
   have ih:=ih (b:=b) (by simpa using h)
   by_cases hxy:x=y
   ·simp[lexB,hxy,ih]
   ·cases y<;>simp[lexB,hxy]
def cmpI(lx ly:Int)(L:List (Int×Int))(xs ys:List (Sl Rl)):Int:=if lx=ly then lexB (xs.flatMap (bits L)) (ys.flatMap (bits L)) else if lx<ly then -1 else 1
theorem compare_call(bs:Sl Bn)(hl:(els bs).length≤1000)(hu:∀b∈els bs,(els b.up.tu).length≤1000∧(els b.lo.tu).length≤1000)(xs ys:Sl (Sl Rl))(ax ay:Sl Int)(sx sy lx ly:Int)
    (hxl:(els xs).length<4611686018427387904) (hlen:(els xs).length=(els ys).length) (okx:StsOk (freeA 0 (els bs)) (els xs)) (oky:StsOk (freeA 0 (els bs)) (els ys)):
    ∀H,callD (call pg) 31 [.p (boundsP bs),.p (.agg [intsP ax,.int .i64 sx,statesP xs,.int .i64 lx]),.p (.agg [intsP ay,.int .i64 sy,statesP ys,.int .i64 ly])] H=some (.val (.p (.int .i64 (cmpI lx ly (freeA 0 (els bs)) (els xs) (els ys)))),H):=by
 have hfr:=free09_call bs hl hu
 have hLl:(freeA 0 (els bs)).length<4611686018427387904:=by
  have h1:=freeA_len (els bs) 0 1000 fun b hb=>(hu b hb).1
  have h5:=Nat.mul_le_mul_right 1000 hl
  omega
 generalize hL:freeA 0 (els bs)=L at *
 have hK:=kepS_els L
 generalize kepS L=K at *
 subst hK
 have inner:=fun(s:Nat) (hs:s<(els xs).length) (hs2:s<(els ys).length) (rx ry:List Bool) (tot:Int) (h0:lexB (bits (els K) (els xs)[s]++rx) (bits (els K) (els ys)[s]++ry)=tot)=>
  loopN (c:=call pg) (G:=pg.G) (keep:=[4,5,7,8,9]) (b:=bd a31 1) (fun k=>[(4,.box 0 0),(5,.box 1 0),(7,.p (pairsP K)),(8,.p (.int .i64 ((s:Nat):Int))),(9,.p (.int .i64 ((k:Nat):Int)))])
  (fun _=>⟨[[.p (intsP ax),.p (.int .i64 (sx)),.p (statesP xs),.p (.int .i64 (lx))],[.p (intsP ay),.p (.int .i64 (sy)),.p (statesP ys),.p (.int .i64 (ly))]],[]⟩) (els K).length
  (fun k=>lexB (bits ((els K).drop k) (els xs)[s]++rx) (bits ((els K).drop k) (els ys)[s]++ry)=tot)
  (fun o e H=>H=⟨[[.p (intsP ax),.p (.int .i64 (sx)),.p (statesP xs),.p (.int .i64 (lx))],[.p (intsP ay),.p (.int .i64 (sy)),.p (statesP ys),.p (.int .i64 (ly))]],[]⟩∧((o= .exit 2∧lexB rx ry=tot∧e.get 4= .box 0 0∧e.get 5= .box 1 0∧e.get 7= .p (pairsP K)∧e.get 8= .p (.int .i64 ((s:Nat):Int)))∨(o= .ret∧e.get 6= .p (.int .i64 (tot))))) (by simpa using h0)
  (fun k hk hI=>by
   rw[List.drop_eq_getElem_cons hk] at hI
   have hm:=List.getElem_mem hk
   have mx:=List.getElem_mem hs
   have my:=List.getElem_mem hs2
   obtain⟨j,hj,hjx⟩:=okx.ix _ mx _ hm
   obtain⟨j',hj',hjy⟩:=oky.ix _ my _ hm
   have hjj:j'=j:=by rw[hj] at hj';omega
   subst hjj
   obtain⟨r1,c1,d1⟩:=has_call (els (els xs)[s])[j'].tu (els (els xs)[s])[j'].ar (els K)[k].2 (okx.ln _ mx _ (List.getElem_mem hjx)) (okx.sr _ mx _ (List.getElem_mem hjx))
   obtain⟨r2,c2,d2⟩:=has_call (els (els ys)[s])[j'].tu (els (els ys)[s])[j'].ar (els K)[k].2 (oky.ln _ my _ (List.getElem_mem hjy)) (oky.sr _ my _ (List.getElem_mem hjy))
   have e1:decide ((els K)[k].2∈relAt (els xs)[s] j')=r1:=by
    unfold relAt
    rw[List.getElem?_eq_getElem hjx,Bool.eq_iff_iff,decide_eq_true_eq]
    exact d1.symm
   have e2:decide ((els K)[k].2∈relAt (els ys)[s] j')=r2:=by
    unfold relAt
    rw[List.getElem?_eq_getElem hjy,Bool.eq_iff_iff,decide_eq_true_eq]
    exact d2.symm
   simp only[bits_cons,List.cons_append,hj',Int.toNat_natCast,e1,e2,lexB] at hI
   have hia:=ia_pairs hk
   rw[hj'] at hia
   have hb1:bd a31 1=bd a31 1:=rfl
   conv at hb1=>rhs;reduce
   have hb0:bd a31 0=bd a31 0:=rfl
   conv at hb0=>rhs;reduce
   rw[←hb1] at hb0
   have hf:a31=a31:=rfl
   conv at hf=>rhs;reduce
   rw[←hb1] at hf
   rw[←hb0] at hf
   rw[hb1];clear hf hb0 hb1
   by_cases hc:r1=r2
   ·subst hc
    rw[if_pos rfl] at hI
    cases r1<;>simp[len_pairs,hia,ia_states hs,ia_states hs2,ia_rels hjx,ia_rels hjy,hk,c1,c2,hI,inc64 (k:=k) (by omega)]
   ·rw[if_neg hc] at hI
    cases r2 with
    |true=>
     have :r1=false:=by cases r1<;>simp_all
     subst this
     rw[if_pos rfl] at hI
     simp[len_pairs,hia,ia_states hs,ia_states hs2,ia_rels hjx,ia_rels hjy,hk,c1,c2,←hI]
    |false=>
     have :r1=true:=by cases r1<;>simp_all
     subst this
     rw[if_neg (by simp)] at hI
     simp[len_pairs,hia,ia_states hs,ia_states hs2,ia_rels hjx,ia_rels hjy,hk,c1,c2,←hI])
  (fun hI=>by
   rw[List.drop_eq_nil_of_le (Nat.le_refl _)] at hI
   simp only[bits,List.map_nil,List.nil_append] at hI
   have hb1:bd a31 1=bd a31 1:=rfl
   conv at hb1=>rhs;reduce
   have hb0:bd a31 0=bd a31 0:=rfl
   conv at hb0=>rhs;reduce
   rw[←hb1] at hb0
   have hf:a31=a31:=rfl
   conv at hf=>rhs;reduce
   rw[←hb1] at hf
   rw[←hb0] at hf
   rw[hb1];clear hf hb0 hb1
   simp[len_pairs,hI])
 have key:=loopN (c:=call pg) (G:=pg.G) (keep:=[4,5,7,8]) (b:=bd a31 0) (fun i=>[(4,.box 0 0),(5,.box 1 0),(7,.p (pairsP K)),(8,.p (.int .i64 ((i:Nat):Int)))])
  (fun _=>⟨[[.p (intsP ax),.p (.int .i64 (sx)),.p (statesP xs),.p (.int .i64 (lx))],[.p (intsP ay),.p (.int .i64 (sy)),.p (statesP ys),.p (.int .i64 (ly))]],[]⟩) (els xs).length
  (fun i=>lexB (((els xs).drop i).flatMap (bits (els K))) (((els ys).drop i).flatMap (bits (els K)))=lexB ((els xs).flatMap (bits (els K))) ((els ys).flatMap (bits (els K))))
  (fun o e H=>H=⟨[[.p (intsP ax),.p (.int .i64 (sx)),.p (statesP xs),.p (.int .i64 (lx))],[.p (intsP ay),.p (.int .i64 (sy)),.p (statesP ys),.p (.int .i64 (ly))]],[]⟩∧((o= .exit 0∧lexB ((els xs).flatMap (bits (els K))) ((els ys).flatMap (bits (els K)))=0)∨(o= .ret∧e.get 6= .p (.int .i64 (lexB ((els xs).flatMap (bits (els K))) ((els ys).flatMap (bits (els K)))))))) (by simp)
  (fun i hi hI=>by
   have hi2:i<(els ys).length:=by omega
   rw[List.drop_eq_getElem_cons hi,List.drop_eq_getElem_cons hi2,List.flatMap_cons,List.flatMap_cons] at hI
   generalize lexB ((els xs).flatMap (bits (els K))) ((els ys).flatMap (bits (els K)))=tot at *
   obtain⟨o,e,H,hx,rfl,hq⟩:=post_get (inner i hi hi2 _ _ _ hI)
   simp at hx
   have hb1:bd a31 1=bd a31 1:=rfl
   conv at hb1=>rhs;reduce
   have hb0:bd a31 0=bd a31 0:=rfl
   conv at hb0=>rhs;reduce
   rw[←hb1] at hb0
   have hf:a31=a31:=rfl
   conv at hf=>rhs;reduce
   rw[←hb1] at hf
   rw[←hb0] at hf
   rw[hb0];clear hf hb0 hb1
   rcases hq with⟨rfl,h,g4,g5,g7,g8⟩ |⟨rfl,h⟩
   ·simp[len_states,hi,hi2,hx,g4,g5,g7,g8,h,inc64 (k:=i) (by omega)]
   ·simp[len_states,hi,hi2,hx,h])
  (fun hI=>by
   rw[List.drop_eq_nil_of_le (Nat.le_refl _)] at hI
   simp only[List.flatMap_nil,lexB] at hI
   have hb1:bd a31 1=bd a31 1:=rfl
   conv at hb1=>rhs;reduce
   have hb0:bd a31 0=bd a31 0:=rfl
   conv at hb0=>rhs;reduce
   rw[←hb1] at hb0
   have hf:a31=a31:=rfl
   conv at hf=>rhs;reduce
   rw[←hb1] at hf
   rw[←hb0] at hf
   rw[hb0];clear hf hb0 hb1
   simp[len_states,←hI])
 have hb1:bd a31 1=bd a31 1:=rfl
 conv at hb1=>rhs;reduce
 have hb0:bd a31 0=bd a31 0:=rfl
 conv at hb0=>rhs;reduce
 rw[←hb1] at hb0
 have hf:a31=a31:=rfl
 conv at hf=>rhs;reduce
 rw[←hb1] at hf
 rw[←hb0] at hf
 refine callP (aa:=[_,_,_]) hf rfl rfl rfl ?_
 clear hf hb0 hb1
 unfold cmpI
 by_cases h1:lx=ly
 ·obtain⟨o,e,H,hx,rfl,hq⟩:=post_get key
  subst h1
  simp at hx
  rcases hq with⟨rfl,h⟩ |⟨rfl,h⟩
  ·simp[hfr,hx,h]
  ·simp[hfr,hx,h]
 ·by_cases h2:lx<ly
  ·simp[h1,h2]
  ·simp[h1,h2]
end Go.Proofs.YtgplgbonlnodeaaGreatDoor
namespace Go.Proofs.YtgplgbonlnodeaaGreatDoor
open Go.Vs
set_option maxRecDepth 100000
def bitC(l:List Bool):List D:=(l.map PD.bool).map .p
theorem bitC_len(l:List Bool):(bitC l).length=l.length:=by simp[bitC]
theorem bitC_mapC(l:List Bool):isMapC (bitC l)=false:=isMapC_p _
theorem bitC_ren(f g:Nat→Option Nat)(l:List Bool):D.renL f g (bitC l)=some (bitC l):=renL_p f g _
theorem bitC_cut{l:List Bool}{i:Nat}(b:Bool)(h:i<l.length):List.take i (bitC l)++D.p (.bool b)::List.drop (i+1) (bitC l)=bitC (l.set i b):=by
 unfold bitC
 rw[List.set_eq_take_append_cons_drop,if_pos h]
 simp[List.map_take,List.map_drop]
theorem im2(x y:D)(r:List D):isMapC (x::y::r)=false:=by cases x<;>rfl
theorem im3(i o n sz:Nat)(c:Option Nat):isMapC [.msl i o n c sz]=false:=rfl
@[simp] theorem one_msl(i o n sz:Nat)(c:Option Nat):(D.msl i o n c sz).one=true:=rfl
theorem mk_bits{n:Nat}(h:n≤140737488355328)(H:Hp):makeslD 1 (.bool false) 1 (.p (.int .i64 ((n:Nat):Int))) (.p (.int .i64 ((n:Nat):Int))) H=some (.msl H.bx.length 0 n (some n) 1,⟨H.bx++[bitC (List.replicate n false)],H.tk⟩):=by
 have h2:((List.replicate n (PD.bool false)).flatMap PD.cells)=(List.replicate n false).map PD.bool:=by
  induction n with
  |zero=>rfl
  |succ n ih=>rw[List.replicate_succ,List.flatMap_cons,ih (by omega),List.replicate_succ,List.map_cons];rfl
 have hr:roomy n 1=true:=by simp only[roomy,Bool.and_eq_true,decide_eq_true_eq];omega
 have h0:(0 :Int)≤(n:Int):=by omega
 simp only[makeslD,D.asNat?,h0,if_true,Int.toNat_natCast,h2]
 rw[if_pos ⟨Nat.le_refl _,hr,rfl,rfl⟩]
 rfl
theorem post_locD{Q:Out→Env→Hp→Prop}{nb nt:Nat}{e:Env}{H:Hp}(h1:nb=H.bx.length)(h2:nt=H.tk.length)(h3:∀cs∈H.bx,D.renL (below nb) (below nt) cs=some cs)(h:∀e,Q .norm e H):post Q (some (locD nb nt (.norm,⟨e,H⟩))):=by
 subst h1;subst h2
 have key:∀l:List (List D),(∀cs∈l,D.renL (below H.bx.length) (below H.tk.length) cs=some cs)→mapO (D.renL (below H.bx.length) (below H.tk.length)) l=some l:=by
  intro l
  induction l with
  |nil=>intro _;rfl
  |cons a r ih=>intro hh;simp only[mapO,hh a List.mem_cons_self,ih fun c hc=>hh c (List.mem_cons_of_mem _ hc),Option.map_some]
 simp only[locD,Nat.le_refl,and_self,if_true,List.take_length,key _ h3,Out.ren,post_some]
 exact h _
theorem bs_at{b n:Nat}{c:Option Nat}{i:Nat}(h:i<n):iaddrD none 1 (.msl b 0 n c 1) (i:Int)=some (.box b i):=by
 simp[iaddrD,h]
def preB(st lp:Int):List Bool:=if 1<st then(List.replicate st.toNat false).set (st-lp-1).toNat true else[]
def bitE(ss:List (Sl Rl))(e:Nat×Nat×Int×Int):Bool:=match ss[e.2.1]? with |some x=>decide (e.2.2.2∈relAt x e.2.2.1.toNat) |none=>false
def encB(fi:List Fi)(bs:List Bn)(st lp:Int)(ss:List (Sl Rl)):List Bool:=preB st lp++(entL fi bs st).map (bitE ss)
theorem preB_len(st lp:Int):(preB st lp).length=selN st:=by
 unfold preB selN;split<;>simp
theorem ents_mem(vs:List Bool)(s:Nat):∀(l:List (Int×Int)) (v:Nat) e,e∈ents vs s l v→e.2.1=s∧(e.2.2.1,e.2.2.2)∈l
 |[],_,_,h=>by simp[ents] at h
 |(a,b)::r,v,e,h=>by
  simp only[ents] at h
  split at h
  ·have:=ents_mem vs s r v e h;exact⟨this.1,List.mem_cons_of_mem _ this.2⟩
  ·rcases List.mem_cons.1 h with rfl |h
   ·exact⟨rfl,List.mem_cons_self⟩
   ·have:=ents_mem vs s r (v+1) e h;exact⟨this.1,List.mem_cons_of_mem _ this.2⟩
theorem entsA_mem(vs:List Bool)(free:List (Int×Int)):∀(n s v:Nat) e,e∈entsA vs free n s v→s≤e.2.1∧e.2.1<s+n∧(e.2.2.1,e.2.2.2)∈free
 | 0,_,_,_,h=>by simp[entsA] at h
 |n+1,s,v,e,h=>by
  simp only[entsA,List.mem_append] at h
  rcases h with h |h
  ·have:=ents_mem vs s free v e h;exact⟨by omega,by omega,this.2⟩
  ·have:=entsA_mem vs free n (s+1) _ e h;exact⟨by omega,by omega,this.2.2⟩
def rndB(pre:List Bool)(L:List (Nat×Nat×Int×Int))(f:Nat×Nat×Int×Int→Bool)(j:Nat):List Bool:=pre++((L.take j).map f++List.replicate (L.length-j) false)
theorem rndB_len(pre:List Bool)(L:List (Nat×Nat×Int×Int))(f:Nat×Nat×Int×Int→Bool){j:Nat}(h:j≤L.length):(rndB pre L f j).length=pre.length+L.length:=by
 simp only[rndB,List.length_append,List.length_map,List.length_take,List.length_replicate];omega
theorem rndB_set(pre:List Bool)(L:List (Nat×Nat×Int×Int))(f:Nat×Nat×Int×Int→Bool){j:Nat}{e}(h:L[j]? =some e):(rndB pre L f j).set (pre.length+j) (f e)=rndB pre L f (j+1):=by
 have hj:=(List.getElem?_eq_some_iff.1 h).1
 have he:=(List.getElem?_eq_some_iff.1 h).2
 unfold rndB
 rw[List.set_append_right _ _ (by omega),Nat.add_sub_cancel_left,List.set_append_right _ _ (by simp;omega),List.take_succ_eq_append_getElem hj,he,List.map_append,List.append_assoc]
 congr 2
 rw[List.length_map,List.length_take,Nat.min_eq_left (by omega),Nat.sub_self,show L.length-j=L.length-(j+1)+1 by omega,List.replicate_succ]
 rfl
theorem rndB_end(pre:List Bool)(L:List (Nat×Nat×Int×Int))(f:Nat×Nat×Int×Int→Bool):rndB pre L f L.length=pre++L.map f:=by
 simp[rndB]
theorem rndB_zero(L:List (Nat×Nat×Int×Int))(f:Nat×Nat×Int×Int→Bool)(st lp:Int)(h:0≤lp∧lp<st):rndB (preB st lp) L f 0=if 1<st then(List.replicate (selN st+L.length) false).set (st-lp-1).toNat true else List.replicate (selN st+L.length) false:=by
 unfold rndB preB selN
 split
 ·rw[←List.replicate_append_replicate,List.set_append_left _ _ (by simp;omega)]
  simp
 ·simp
def bitS:List Bool→Sl Bool
 |[]=>.amb
 |x::r=>.of (x::r)
theorem bitS_els(l:List Bool):els (bitS l)=l:=by cases l<;>rfl
theorem bitS_p(l:List Bool):boolsP (bitS l)= .slice 1 (l.map PD.bool):=by cases l<;>rfl
theorem frz_tup(k:Nat)(H:Hp)(f:Nat)(cs:List D):D.frz k H (f+1) (.tup cs)= .tup (cs.map (D.frz k H f)):=rfl
theorem frz_msl(k:Nat)(H:Hp)(f i off n sz:Nat)(c:Option Nat):D.frz k H (f+1) (.msl i off n c sz)=if k≤i then(match H.bx[i]? with
      |some cs=>if isMapC cs=false∧off+n*sz≤cs.length∧0<sz then(match D.asPDL ((sub cs off (off+n*sz)).map (D.frz k H f)) with
       |some ps=>.p (.slice sz (chunks sz n ps))
       |none=>.msl i off n c sz) else .msl i off n c sz
      |none=>.msl i off n c sz) else .msl i off n c sz:=rfl
theorem fin_bits{l:List Bool}{H:Hp}{i:Nat}(h:H.bx[i]? =some (bitC l))(b:Bool):fin true (.tup [.msl i 0 l.length (some l.length) 1,.p (.bool b)]) H (.tup [.p (boolsP (bitS l)),.p (.bool b)]):=by
 have h1:D.frz 0 H 7 (.msl i 0 l.length (some l.length) 1)= .p (boolsP (bitS l)):=by
  have h2:(sub (bitC l) 0 (0+l.length*1)).map (D.frz 0 H 6)=(l.map PD.bool).map .p:=by
   have :sub (bitC l) 0 (0+l.length*1)=bitC l:=by
    unfold sub
    rw[List.drop_zero]
    exact List.take_of_length_le (by rw[bitC_len];omega)
   rw[this]
   unfold bitC
   rw[List.map_map]
   refine List.map_congr_left fun x _=>?_
   simp[frz_p]
  have h3:chunks 1 l.length (l.map PD.bool)=l.map PD.bool:=by
   have hE:∀x∈l.map PD.bool,ElOk 1 x:=fun x hx=>by
    obtain⟨b,_,rfl⟩:=List.mem_map.1 hx
    exact .inl ⟨rfl,rfl⟩
   have h4:=chunks_els hE
   have h5:(l.map PD.bool).flatMap PD.cells=l.map PD.bool:=by
    clear h4 hE h2 h
    induction l with
    |nil=>rfl
    |cons x r ih=>rw[List.map_cons,List.flatMap_cons,ih];rfl
   rw[h5,List.length_map] at h4
   exact h4
  rw[frz_msl,if_pos (Nat.zero_le _)]
  simp only[h,h2,asPDL_p,h3]
  rw[if_pos ⟨bitC_mapC _,by rw[bitC_len];omega,by decide⟩,bitS_p]
 refine⟨.tup [.p (boolsP (bitS l)),.p (.bool b)],?_,?_⟩
 ·rw[if_pos rfl,frz_tup,List.map_cons,h1,List.map_cons,frz_p]
  simp[D.ren,D.renL]
 ·simp[D.ren,D.renL]
end Go.Proofs.YtgplgbonlnodeaaGreatDoor
namespace Go.Proofs.YtgplgbonlnodeaaGreatDoor
open Go.Vs
set_option maxRecDepth 100000
theorem in_call(a b:Sl Int)(x y:Int){d:D}(hd:IsRel d y b)(ha:(els a).length<1000000000)(hb:(els b).length<4611686018427387904)(hs:Srt (els b)):
    ∃r:Bool,(∀H,callD (call pg) 101 [.p (.agg [.int .i64 x,intsP a]),d] H=some (.val (.p (.bool r)),H))∧(r=true↔∀t∈els a,t∈els b):=by
 obtain⟨z,c1,d1⟩:=diff_call a b x y ha hb hs
 have hk:=kept_els ((els a).filter fun t=>!(els b).contains t)
 have hsp:(((els a).filter fun t=>!(els b).contains t).length=0)↔∀t∈els a,t∈els b:=by
  rw[List.length_eq_zero_iff,List.filter_eq_nil_iff]
  simp
 generalize keptS ((els a).filter fun t=>!(els b).contains t)=K at *
 rw[←hk] at hsp
 have hf:a101=a101:=rfl
 conv at hf=>rhs;reduce
 have h0:((((els K).length:Int)==0)=true)↔(els K).length=0:=by simp
 refine⟨((els K).length:Int)==0,?_,h0.trans hsp⟩
 clear hsp h0 hk
 rcases hd with rfl |rfl
 ·refine callP (aa:=[_,_]) hf rfl rfl rfl ?_
  clear hf
  rcases d1 with rfl |rfl
  ·simp[c1,len_ints]
  ·simp[c1,len_ints]
 ·refine callQ (aa:=[_,_]) hf rfl rfl rfl rfl rfl rfl ?_
  clear hf
  rcases d1 with rfl |rfl
  ·simp[c1,len_ints]
  ·simp[c1,len_ints]
def InB(lo up:Sl Int)(la ua:Int)(ar:Int)(tu:Sl Int):Prop:=la=ar∧ua=ar∧(∀t∈els lo,t∈els tu)∧∀t∈els tu,t∈els up
theorem within09_call(lo up tu:Sl Int)(la ua ar:Int)(h1:(els lo).length<1000000000)(h2:(els up).length<1000000000)(h3:(els tu).length<1000000000)(s2:Srt (els up))(s3:Srt (els tu)):
    ∃r:Bool,(∀H,callD (call pg) 82 [.p (.agg [.int .i64 la,intsP lo,.int .i64 ua,intsP up]),.p (.agg [.int .i64 ar,intsP tu])] H=some (.val (.p (.bool r)),H))∧(r=true↔InB lo up la ua ar tu):=by
 have hf:a82=a82:=rfl
 conv at hf=>rhs;reduce
 obtain⟨r1,c1,d1⟩:=in_call lo tu la ar (.inl rfl) h1 (by omega) s3
 obtain⟨r2,c2,d2⟩:=in_call tu up ar ua (.inl rfl) h3 (by omega) s2
 by_cases g1:la=ar
 ·by_cases g2:ua=ar
  ·subst g1
   subst g2
   refine⟨r1&&r2,callP (aa:=[_,_]) hf rfl rfl rfl ?_,?_⟩
   ·clear hf
    cases r1
    ·simp[c1]
    ·simp[c1,c2]
   ·rw[Bool.and_eq_true,d1,d2]
    exact⟨fun h=>⟨rfl,rfl,h⟩,fun h=>h.2.2⟩
  ·refine⟨false,callP (aa:=[_,_]) hf rfl rfl rfl ?_,iff_of_false (by simp) fun h=>g2 h.2.1⟩
   clear hf
   subst g1
   simp[g2]
 ·refine⟨false,callP (aa:=[_,_]) hf rfl rfl rfl ?_,iff_of_false (by simp) fun h=>g1 h.1⟩
  clear hf
  simp[g1]
def StIn(bs:List Bn)(x:Sl Rl):Prop:=(els x).length=bs.length∧∀k,k<bs.length→∀b r,bs[k]? =some b→(els x)[k]? =some r→InB b.lo.tu b.up.tu b.lo.ar b.up.ar r.ar r.tu
structure BmOk (bs:List Bn) (ss:List (Sl Rl)):Prop where
 blo:∀b∈bs,(els b.lo.tu).length<1000000000
 bup:∀b∈bs,(els b.up.tu).length<1000000000
 sup:∀b∈bs,Srt (els b.up.tu)
 slo:∀b∈bs,Srt (els b.lo.tu)
 rl:∀x∈ss,∀r∈els x,(els r.tu).length<1000000000
 sr:∀x∈ss,∀r∈els x,Srt (els r.tu)
theorem contains09_call(bs:Sl Bn)(a:Sl Int)(ss:Sl (Sl Rl))(st lp:Int)(hb:(els bs).length<4611686018427387904)(hss:(els ss).length<4611686018427387904)(ok:BmOk (els bs) (els ss)):
    ∃r:Bool,(∀H,callD (call pg) 27 [.p (boundsP bs),.p (.agg [intsP a,.int .i64 st,statesP ss,.int .i64 lp])] H=some (.val (.p (.bool r)),H))∧(r=true↔∀x∈els ss,StIn (els bs) x):=by
 have key1:=fun(i:Nat) (hi:i<(els ss).length) (hl:(els (els ss)[i]).length=(els bs).length)=>loopA (c:=call pg) (G:=pg.G) (keep:=[0,3,5,6]) (b:=bd a27 1) (fun k=>[(0,.p (boundsP bs)),(3,.box 0 0),(5,.p (.int .i64 ((i:Nat):Int))),(6,.p (.int .i64 ((k:Nat):Int)))])
  ⟨[[.p (intsP a),.p (.int .i64 (st)),.p (statesP ss),.p (.int .i64 (lp))]],[]⟩ (els bs).length
  (fun k=>∀b r,(els bs)[k]? =some b→(els (els ss)[i])[k]? =some r→InB b.lo.tu b.up.tu b.lo.ar b.up.ar r.ar r.tu) 2 (fun e=>e.get 0= .p (boundsP bs)∧e.get 3= .box 0 0∧e.get 5= .p (.int .i64 ((i:Nat):Int))) (fun e=>e.get 4= .p (.bool false))
  (fun k hk hP=>by
   have hb1:bd a27 1=bd a27 1:=rfl
   conv at hb1=>rhs;reduce
   have hb0:bd a27 0=bd a27 0:=rfl
   conv at hb0=>rhs;reduce
   rw[←hb1] at hb0
   have hf:a27=a27:=rfl
   conv at hf=>rhs;reduce
   rw[←hb1] at hf
   rw[←hb0] at hf
   rw[hb1];clear hf hb0 hb1
   have hk2:k<(els (els ss)[i]).length:=by omega
   have hP:=hP _ _ (List.getElem?_eq_getElem hk) (List.getElem?_eq_getElem hk2)
   have m1:=List.getElem_mem hk
   have m2:=List.getElem_mem hi
   have m3:=List.getElem_mem hk2
   obtain⟨r,c1,d1⟩:=within09_call (els bs)[k].lo.tu (els bs)[k].up.tu (els (els ss)[i])[k].tu (els bs)[k].lo.ar (els bs)[k].up.ar (els (els ss)[i])[k].ar (ok.blo _ m1) (ok.bup _ m1) (ok.rl _ m2 _ m3) (ok.sup _ m1) (ok.sr _ m2 _ m3)
   have:=d1.2 hP
   subst this
   simp[len_bounds,ia_states hi,ia_rels hk2,ia_bounds hk,hk,c1,inc64 (k:=k) (by omega)])
  (fun k hk hP=>by
   have hb1:bd a27 1=bd a27 1:=rfl
   conv at hb1=>rhs;reduce
   have hb0:bd a27 0=bd a27 0:=rfl
   conv at hb0=>rhs;reduce
   rw[←hb1] at hb0
   have hf:a27=a27:=rfl
   conv at hf=>rhs;reduce
   rw[←hb1] at hf
   rw[←hb0] at hf
   rw[hb1];clear hf hb0 hb1
   have hk2:k<(els (els ss)[i]).length:=by omega
   have m1:=List.getElem_mem hk
   have m2:=List.getElem_mem hi
   have m3:=List.getElem_mem hk2
   obtain⟨r,c1,d1⟩:=within09_call (els bs)[k].lo.tu (els bs)[k].up.tu (els (els ss)[i])[k].tu (els bs)[k].lo.ar (els bs)[k].up.ar (els (els ss)[i])[k].ar (ok.blo _ m1) (ok.bup _ m1) (ok.rl _ m2 _ m3) (ok.sup _ m1) (ok.sr _ m2 _ m3)
   cases r with
   |true=>
    refine absurd (fun b r h1 h2=>?_) hP
    rw[List.getElem?_eq_getElem hk] at h1
    rw[List.getElem?_eq_getElem hk2] at h2
    cases h1
    cases h2
    exact d1.1 rfl
   |false=>simp[len_bounds,ia_states hi,ia_rels hk2,ia_bounds hk,hk,c1])
  (by
   have hb1:bd a27 1=bd a27 1:=rfl
   conv at hb1=>rhs;reduce
   have hb0:bd a27 0=bd a27 0:=rfl
   conv at hb0=>rhs;reduce
   rw[←hb1] at hb0
   have hf:a27=a27:=rfl
   conv at hf=>rhs;reduce
   rw[←hb1] at hf
   rw[←hb0] at hf
   rw[hb1];clear hf hb0 hb1
   simp[len_bounds])
 have key:=loopA (c:=call pg) (G:=pg.G) (keep:=[0,3,5]) (b:=bd a27 0) (fun i=>[(0,.p (boundsP bs)),(3,.box 0 0),(5,.p (.int .i64 ((i:Nat):Int)))])
  ⟨[[.p (intsP a),.p (.int .i64 (st)),.p (statesP ss),.p (.int .i64 (lp))]],[]⟩ (els ss).length
  (fun i=>∀x,(els ss)[i]? =some x→StIn (els bs) x) 0 (fun _=>True) (fun e=>e.get 4= .p (.bool false))
  (fun i hi hP=>by
   have hb1:bd a27 1=bd a27 1:=rfl
   conv at hb1=>rhs;reduce
   have hb0:bd a27 0=bd a27 0:=rfl
   conv at hb0=>rhs;reduce
   rw[←hb1] at hb0
   have hf:a27=a27:=rfl
   conv at hf=>rhs;reduce
   rw[←hb1] at hf
   rw[←hb0] at hf
   obtain⟨p1,p2⟩:=at_ix hi hP
   rcases key1 i hi p1 with⟨e,hx,⟨g0,g3,g5⟩,-⟩ |⟨e,hx,-,hn⟩
   ·rw[hb0];clear hf hb0 hb1
    simp at hx
    simp[len_states,len_rels,len_bounds,ia_states hi,hi,p1,hx,g0,g3,g5,inc64 (k:=i) (by omega)]
   ·exact absurd p2 hn)
  (fun i hi hP=>by
   have hb1:bd a27 1=bd a27 1:=rfl
   conv at hb1=>rhs;reduce
   have hb0:bd a27 0=bd a27 0:=rfl
   conv at hb0=>rhs;reduce
   rw[←hb1] at hb0
   have hf:a27=a27:=rfl
   conv at hf=>rhs;reduce
   rw[←hb1] at hf
   rw[←hb0] at hf
   have hP:=not_ix hi hP
   by_cases p1:(els (els ss)[i]).length=(els bs).length
   ·rcases key1 i hi p1 with⟨e,hx,-,hn⟩ |⟨e,hx,g4,-⟩
    ·exact absurd ⟨p1,hn⟩ hP
    ·rw[hb0];clear hf hb0 hb1
     simp at hx
     simp[len_states,len_rels,len_bounds,ia_states hi,hi,p1,hx,g4]
   ·rw[hb0];clear hf hb0 hb1
    simp[len_states,len_rels,len_bounds,ia_states hi,hi,p1])
  (by
   have hb1:bd a27 1=bd a27 1:=rfl
   conv at hb1=>rhs;reduce
   have hb0:bd a27 0=bd a27 0:=rfl
   conv at hb0=>rhs;reduce
   rw[←hb1] at hb0
   have hf:a27=a27:=rfl
   conv at hf=>rhs;reduce
   rw[←hb1] at hf
   rw[←hb0] at hf
   rw[hb0];clear hf hb0 hb1
   simp[len_states])
 have hb1:bd a27 1=bd a27 1:=rfl
 conv at hb1=>rhs;reduce
 have hb0:bd a27 0=bd a27 0:=rfl
 conv at hb0=>rhs;reduce
 rw[←hb1] at hb0
 have hf:a27=a27:=rfl
 conv at hf=>rhs;reduce
 rw[←hb1] at hf
 rw[←hb0] at hf
 rcases key with⟨e,hx,-,hq⟩ |⟨e,hx,g4,hq⟩
 ·rw[all_ix] at hq
  refine⟨true,callP (aa:=[_,_]) hf rfl rfl rfl ?_,iff_of_true rfl hq⟩
  clear hf hb0 hb1
  simp at hx
  simp[hx]
 ·rw[all_ix] at hq
  refine⟨false,callP (aa:=[_,_]) hf rfl rfl rfl ?_,iff_of_false (by simp) hq⟩
  clear hf hb0 hb1
  simp at hx
  simp[hx,g4]
end Go.Proofs.YtgplgbonlnodeaaGreatDoor
namespace Go.Proofs.YtgplgbonlnodeaaGreatDoor
open Go.Vs
set_option maxRecDepth 100000
theorem relok_srt{n ar:Int}{l:List Int}(h:RelOk n ar l):Srt l:=by
 obtain⟨_,_,_,_,h⟩:=h
 have step:∀i (hi:i+1<l.length),l[i]<l[i+1]:=fun i hi=>by
  have:=(h (i+1) hi).2 l[i+1] l[i] (by omega) (List.getElem?_eq_getElem hi) (by rw[Nat.add_sub_cancel];exact List.getElem?_eq_getElem (by omega))
  exact this
 refine List.pairwise_iff_getElem.2 fun i j hi hj hij=>?_
 have key:∀d (hd:i+(d+1)<l.length),l[i]<l[i+(d+1)]:=by
  intro d
  induction d with
  |zero=>intro hd;exact step i hd
  |succ d ih=>
   intro hd
   have h1:=ih (by omega)
   have h2:=step (i+(d+1)) (by omega)
   exact Int.lt_trans h1 h2
 have:=key (j-i-1) (by omega)
 have e:i+(j-i-1+1)=j:=by omega
 simp only[e] at this
 exact this
theorem relok_bd{n ar:Int}{l:List Int}(h:RelOk n ar l):∀t∈l,0≤t∧t<n ^ ar.toNat:=by
 obtain⟨_,_,_,_,h⟩:=h
 intro t ht
 obtain⟨i,hi,rfl⟩:=List.getElem_of_mem ht
 exact(h i hi).1 _ (List.getElem?_eq_getElem hi)
def BnOk(n:Nat)(ats:List Int)(so:List Int)(b:Bn):Prop:=
 b.lo.ar=so.length∧b.up.ar=so.length∧RelOk n b.lo.ar (els b.lo.tu)∧RelOk n b.up.ar (els b.up.tu)∧(∀t∈els b.lo.tu,t∈els b.up.tu)∧∀t∈els b.up.tu,t∈fullL n ats so (n ^ so.length)
variable {so f3 f4 : PD} {fi : Sl Fi} {a : Sl Int} {st : Int} {bs : Sl Bn} {n : Nat}
theorem bvalid_call(o1:so.one=true)(o3:f3.one=true)(o4:f4.one=true)(hfl:(els fi).length<4611686018427387904)(_hbl:(els bs).length<4611686018427387904)
    (hl:(els a).length≤1000) (h:∀x∈els a,0≤x∧x≤5) (hn:(els a).sum=n) (hn2:n≤12) (hn1:∀f∈els fi,1≤n)
    (hfo:∀f∈els fi,FieldOk (els a).length (els f.so)) (hlo:∀b∈els bs,(els b.lo.tu).length<1000000000∧(els b.up.tu).length<1000000000):
    ∃r:Bool,(∀H,callD (call pg) 50 [.p (.agg [so,fieldsP fi,f3,f4]),.p (.agg [intsP a,.int .i64 st]),.p (boundsP bs)] H=some (.val (.p (.bool r)),H))∧
     (r=true↔(els bs).length=(els fi).length∧∀i,i<(els bs).length→∀b f,(els bs)[i]? =some b→(els fi)[i]? =some f→BnOk n (els a) (els f.so) b):=by
 have hat:=atoms05_call a st hl h
 rw[hn] at hat
 have key:=fun(heq:(els bs).length=(els fi).length)=>loopA (c:=call pg) (G:=pg.G) (keep:=[2,3,4,7,8]) (b:=bd a50 0) (fun i=>[(2,.p (boundsP bs)),(3,.box 0 0),(4,.box 1 0),(7,.p (.int .i64 ((n:Nat):Int))),(8,.p (.int .i64 ((i:Nat):Int)))])
  ⟨[[.p (so),.p (fieldsP fi),.p (f3),.p (f4)],[.p (intsP a),.p (.int .i64 (st))]],[]⟩ (els bs).length
  (fun i=>∀b f,(els bs)[i]? =some b→(els fi)[i]? =some f→BnOk n (els a) (els f.so) b) 0 (fun _=>True) (fun e=>e.get 6= .p (.bool false))
  (fun i hi hP=>by
   have hb0:bd a50 0=bd a50 0:=rfl
   conv at hb0=>rhs;reduce
   have hf:a50=a50:=rfl
   conv at hf=>rhs;reduce
   rw[←hb0] at hf
   rw[hb0];clear hf hb0
   have hi2:i<(els fi).length:=by omega
   obtain⟨q1,q2,q3,q4,q5,q6⟩:=hP _ _ (List.getElem?_eq_getElem hi) (List.getElem?_eq_getElem hi2)
   have hl1:=hlo _ (List.getElem_mem hi)
   have hff:=hfo _ (List.getElem_mem hi2)
   have hn1:=hn1 _ (List.getElem_mem hi2)
   obtain⟨b1,c1,d1⟩:=rvalid_call n (els bs)[i].lo.ar (els bs)[i].lo.tu (by omega)
   obtain⟨b2,c2,d2⟩:=rvalid_call n (els bs)[i].up.ar (els bs)[i].up.tu (by omega)
   obtain⟨b3,c3,d3⟩:=in_call (els bs)[i].lo.tu (els bs)[i].up.tu (els bs)[i].lo.ar (els bs)[i].up.ar (.inl rfl) hl1.1 (by omega) (relok_srt q4)
   obtain⟨df,c4,d4⟩:=full05_call a (els fi)[i].so st hl h hff hn hn1 hn2
   have hlf:(els (keptS (fullL n (els a) (els (els fi)[i].so) (n ^ (els (els fi)[i].so).length)))).length<4611686018427387904:=by
    rw[kept_els]
    have:=full_len n (els a) (els (els fi)[i].so) (n ^ (els (els fi)[i].so).length)
    have:=pow_bd hn2 hff.2.2
    omega
   obtain⟨b5,c5,d5⟩:=in_call (els bs)[i].up.tu _ (els bs)[i].up.ar _ d4 hl1.2 hlf (by rw[kept_els];exact full_srt _ _ _ _)
   rw[kept_els] at d5
   have r1:df.refs=[]:=by rcases d4 with rfl |rfl<;>rfl
   have r2:df.toks=[]:=by rcases d4 with rfl |rfl<;>rfl
   have e1:=d1.2 q3
   have e2:=d2.2 q4
   have e3:=d3.2 q5
   have e5:=d5.2 q6
   subst e1
   subst e2
   subst e3
   subst e5
   rw[q1] at c1 c3
   rw[q2] at c2 c3 c5
   clear hP d1 d2 d3 d4 d5
   simp[len_bounds,len_ints,ia_bounds hi,ia_fields hi2,hi,q1,q2,c1,c2,c3,c4,c5,r1,r2,inc64 (k:=i) (by omega)])
  (fun i hi hP=>by
   have hb0:bd a50 0=bd a50 0:=rfl
   conv at hb0=>rhs;reduce
   have hf:a50=a50:=rfl
   conv at hf=>rhs;reduce
   rw[←hb0] at hf
   rw[hb0];clear hf hb0
   have hi2:i<(els fi).length:=by omega
   have hl1:=hlo _ (List.getElem_mem hi)
   have hff:=hfo _ (List.getElem_mem hi2)
   have hn1:=hn1 _ (List.getElem_mem hi2)
   by_cases q1:(els bs)[i].lo.ar=(els (els fi)[i].so).length
   ·by_cases q2:(els bs)[i].up.ar=(els (els fi)[i].so).length
    ·obtain⟨b1,c1,d1⟩:=rvalid_call n (els bs)[i].lo.ar (els bs)[i].lo.tu (by omega)
     cases b1 with
     |false=>
      rw[q1] at c1
      simp[len_bounds,len_ints,ia_bounds hi,ia_fields hi2,hi,q1,q2,c1]
     |true=>
      obtain⟨b2,c2,d2⟩:=rvalid_call n (els bs)[i].up.ar (els bs)[i].up.tu (by omega)
      cases b2 with
      |false=>
       rw[q1] at c1
       rw[q2] at c2
       simp[len_bounds,len_ints,ia_bounds hi,ia_fields hi2,hi,q1,q2,c1,c2]
      |true=>
       have q3:=d1.1 rfl
       have q4:=d2.1 rfl
       obtain⟨b3,c3,d3⟩:=in_call (els bs)[i].lo.tu (els bs)[i].up.tu (els bs)[i].lo.ar (els bs)[i].up.ar (.inl rfl) hl1.1 (by omega) (relok_srt q4)
       cases b3 with
       |false=>
        rw[q1] at c1 c3
        rw[q2] at c2 c3
        simp[len_bounds,len_ints,ia_bounds hi,ia_fields hi2,hi,q1,q2,c1,c2,c3]
       |true=>
        obtain⟨df,c4,d4⟩:=full05_call a (els fi)[i].so st hl h hff hn hn1 hn2
        have hlf:(els (keptS (fullL n (els a) (els (els fi)[i].so) (n ^ (els (els fi)[i].so).length)))).length<4611686018427387904:=by
         rw[kept_els]
         have:=full_len n (els a) (els (els fi)[i].so) (n ^ (els (els fi)[i].so).length)
         have:=pow_bd hn2 hff.2.2
         omega
        obtain⟨b5,c5,d5⟩:=in_call (els bs)[i].up.tu _ (els bs)[i].up.ar _ d4 hl1.2 hlf (by rw[kept_els];exact full_srt _ _ _ _)
        rw[kept_els] at d5
        cases b5 with
        |true=>
         refine absurd (fun b f h1 h2=>?_) hP
         rw[List.getElem?_eq_getElem hi] at h1
         rw[List.getElem?_eq_getElem hi2] at h2
         cases h1
         cases h2
         exact⟨q1,q2,q3,q4,d3.1 rfl,d5.1 rfl⟩
        |false=>
         have r1:df.refs=[]:=by rcases d4 with rfl |rfl<;>rfl
         have r2:df.toks=[]:=by rcases d4 with rfl |rfl<;>rfl
         rw[q1] at c1 c3
         rw[q2] at c2 c3 c5
         simp[len_bounds,len_ints,ia_bounds hi,ia_fields hi2,hi,q1,q2,c1,c2,c3,c4,c5,r1,r2]
    ·simp[len_bounds,len_ints,ia_bounds hi,ia_fields hi2,hi,q1,q2]
   ·simp[len_bounds,len_ints,ia_bounds hi,ia_fields hi2,hi,q1])
  (by
   have hb0:bd a50 0=bd a50 0:=rfl
   conv at hb0=>rhs;reduce
   have hf:a50=a50:=rfl
   conv at hf=>rhs;reduce
   rw[←hb0] at hf
   rw[hb0];clear hf hb0
   simp[len_bounds])
 have hb0:bd a50 0=bd a50 0:=rfl
 conv at hb0=>rhs;reduce
 have hf:a50=a50:=rfl
 conv at hf=>rhs;reduce
 rw[←hb0] at hf
 by_cases heq:(els bs).length=(els fi).length
 ·rcases key heq with⟨e,hx,-,hp⟩ |⟨e,hx,hr,hp⟩
  ·refine⟨true,callP (aa:=[_,_,_]) hf rfl rfl rfl ?_,iff_of_true rfl ⟨heq,hp⟩⟩
   clear hf hb0
   simp at hx
   simp[o1,o3,o4,len_bounds,len_fields,heq,hat,hx]
  ·refine⟨false,callP (aa:=[_,_,_]) hf rfl rfl rfl ?_,iff_of_false (by simp) fun hh=>hp hh.2⟩
   clear hf hb0
   simp at hx
   simp[o1,o3,o4,len_bounds,len_fields,heq,hat,hx,hr]
 ·refine⟨false,callP (aa:=[_,_,_]) hf rfl rfl rfl ?_,iff_of_false (by simp) fun hh=>heq hh.1⟩
  clear hf hb0
  simp[o1,o3,o4,len_bounds,len_fields,heq]
end Go.Proofs.YtgplgbonlnodeaaGreatDoor
namespace Go.Proofs.YtgplgbonlnodeaaGreatDoor
open Go.Vs
set_option maxRecDepth 100000
set_option maxHeartbeats 4000000
structure FitOk (sp:Sp) (a:Sl Int) (st:Int) (bs:Sl Bn):Prop where
 spk:SpOk sp
 sc:ScOk (els sp.so).length a st
 sm:(els a).sum≤4
 len:(els bs).length=(els sp.fi).length
 tu:∀b∈els bs,(els b.lo.tu).length≤64∧(els b.up.tu).length≤64
 bn:∀i,i<(els bs).length→∀b f,(els bs)[i]? =some b→(els sp.fi)[i]? =some f→BnOk (els a).sum.toNat (els a) (els f.so) b
theorem fits18_loop(sp:Sp)(a:Sl Int)(st:Int)(bs:Sl Bn)(hbl:(els bs).length<4611686018427387904):
    (∃e,loopK (call pg) pg.G [2,3,4,8] (bd a11 0) ⟨[(2,.p (boundsP bs)),(3,.box 0 0),(4,.box 1 0),(8,.p (.int .i64 (0)))],⟨[sp.cl.map .p,[.p (intsP a),.p (.int .i64 (st))]],[]⟩⟩=some (.exit 0,⟨e,⟨[sp.cl.map .p,[.p (intsP a),.p (.int .i64 (st))]],[]⟩⟩)∧(e.get 2= .p (boundsP bs)∧e.get 3= .box 0 0∧e.get 4= .box 1 0)∧∀i,i<(els bs).length→∀b,(els bs)[i]? =some b→(els b.lo.tu).length≤64∧(els b.up.tu).length≤64)∨
    (∃e,loopK (call pg) pg.G [2,3,4,8] (bd a11 0) ⟨[(2,.p (boundsP bs)),(3,.box 0 0),(4,.box 1 0),(8,.p (.int .i64 (0)))],⟨[sp.cl.map .p,[.p (intsP a),.p (.int .i64 (st))]],[]⟩⟩=some (.ret,⟨e,⟨[sp.cl.map .p,[.p (intsP a),.p (.int .i64 (st))]],[]⟩⟩)∧e.get 6= .p (.bool false)):=by
 refine loopC (c:=call pg) (G:=pg.G) (keep:=[2,3,4,8]) (b:=bd a11 0) (fun i=>[(2,.p (boundsP bs)),(3,.box 0 0),(4,.box 1 0),(8,.p (.int .i64 ((i:Nat):Int)))]) ⟨[sp.cl.map .p,[.p (intsP a),.p (.int .i64 (st))]],[]⟩ (els bs).length (fun i=>∀b,(els bs)[i]? =some b→(els b.lo.tu).length≤64∧(els b.up.tu).length≤64) 0 (fun e=>e.get 2= .p (boundsP bs)∧e.get 3= .box 0 0∧e.get 4= .box 1 0) (fun e=>e.get 6= .p (.bool false)) ?_ ?_
 ·intro i hi
  have hia:=ia_bounds hi
  have k1:=inc64 (k:=i) (by omega)
  have hP:(els (els bs)[i].lo.tu).length≤64∧(els (els bs)[i].up.tu).length≤64→∀b,(els bs)[i]? =some b→(els b.lo.tu).length≤64∧(els b.up.tu).length≤64:=by
   intro h b hb
   rw[List.getElem?_eq_getElem hi] at hb
   cases hb;exact h
  generalize (∀b,(els bs)[i]? =some b→(els b.lo.tu).length≤64∧(els b.up.tu).length≤64)=PP at *
  generalize (els bs)[i]=q at *
  have hb0:bd a11 0=bd a11 0:=rfl
  conv at hb0=>rhs;reduce
  have hf:a11=a11:=rfl
  conv at hf=>rhs;reduce
  rw[←hb0] at hf
  rw[hb0];clear hf hb0
  by_cases g1:(64 :Int)<((els q.lo.tu).length:Int)
  ·simp[len_bounds,len_ints,hi,hia,g1]
  ·by_cases g2:(64 :Int)<((els q.up.tu).length:Int)
   ·simp[len_bounds,len_ints,hi,hia,g1,g2]
   ·have hP:=hP ⟨by omega,by omega⟩
    simp[len_bounds,len_ints,hi,hia,g1,g2,k1,hP]
 ·skip
  have hb0:bd a11 0=bd a11 0:=rfl
  conv at hb0=>rhs;reduce
  have hf:a11=a11:=rfl
  conv at hf=>rhs;reduce
  rw[←hb0] at hf
  rw[hb0];clear hf hb0
  simp[len_bounds]
theorem sum_nonneg:∀l:List Int,(∀x∈l,0≤x)→0≤l.sum
 |[],_=>by simp
 |x::l,h=>by
  have h1:=h x List.mem_cons_self
  have h2:=sum_nonneg l fun y hy=>h y (List.mem_cons_of_mem _ hy)
  simp only[List.sum_cons];omega
theorem sum_pos:∀l:List Int,l≠[]→(∀x∈l,1≤x)→1≤l.sum
 |[],h,_=>absurd rfl h
 |x::l,_,h=>by
  have h1:=h x List.mem_cons_self
  have h2:=sum_nonneg l fun y hy=>by have:=h y (List.mem_cons_of_mem _ hy);omega
  simp only[List.sum_cons];omega
theorem fits18_call(sp:Sp)(h64:Sp64 sp)(hn:NmOk sp)(a:Sl Int)(st:Int)(bs:Sl Bn)(hl:(els a).length<4611686018427387904)(hbl:(els bs).length<4611686018427387904)(hsl:(els sp.so).length<4611686018427387904):
    ∃r:Bool,(∀H,callD (call pg) 11 [.p (.agg sp.cl),.p (.agg [intsP a,.int .i64 st]),.p (boundsP bs)] H=some (.val (.p (.bool r)),H))∧(r=true→FitOk sp a st bs):=by
 obtain⟨r1,c1,d1⟩:=fits04_call sp h64
 have key:=fits18_loop sp a st bs hbl
 have fin:∀r:Bool,(r=true→FitOk sp a st bs)→post (gives true [.t 6] (.p (.bool r))) (evS (call pg) pg.G iterX ((a11.map fun f=>f.body).getD .skip) ⟨entry 0 [.p (.agg sp.cl),.p (.agg [intsP a,.int .i64 st]),.p (boundsP bs)],⟨[],[]⟩⟩)→
     ∃r:Bool,(∀H,callD (call pg) 11 [.p (.agg sp.cl),.p (.agg [intsP a,.int .i64 st]),.p (boundsP bs)] H=some (.val (.p (.bool r)),H))∧(r=true→FitOk sp a st bs):=by
  intro r h1 hr
  have hb0:bd a11 0=bd a11 0:=rfl
  conv at hb0=>rhs;reduce
  have hf:a11=a11:=rfl
  conv at hf=>rhs;reduce
  rw[←hb0] at hf
  rw[hf] at hr
  exact⟨r,callP (aa:=[_,_,_]) hf rfl rfl rfl hr,h1⟩
 have hb0:bd a11 0=bd a11 0:=rfl
 conv at hb0=>rhs;reduce
 have hf:a11=a11:=rfl
 conv at hf=>rhs;reduce
 rw[←hb0] at hf
 rw[hf] at fin
 simp only[Option.map_some,Option.getD_some] at fin
 clear hf hb0
 cases r1 with
 |false=>
  refine fin false (fun h=>by cases h) ?_
  clear fin key
  simp[c1]
 |true=>
  have ok:=d1 rfl
  clear d1
  by_cases g1:(els bs).length=(els sp.fi).length
  ·obtain⟨r2,c2,d2⟩:=scope_call (so:=sortsP sp.so) (f2:=fieldsP sp.fi) (f3:=predsP sp.pr) (f4:=factsP sp.fa) (n:=(els sp.so).length) (len_sorts _) (by simp) (by simp) (by simp) (by simp) a st hsl hl
   cases r2 with
   |false=>
    refine fin false (fun h=>by cases h) ?_
    clear fin key d2
    simp[c1,len_bounds,len_fields,g1,c2]
   |true=>
    have sc:=d2.1 rfl
    clear d2
    rcases key with⟨e,hx,⟨q2,q3,q4⟩,htu⟩ |⟨e,hx,q6⟩
    ·have htu':=all_ix.1 htu
     have hsm:=atoms_call a st (by have:=sc.1;have:=sc.2.1;omega) (fun x hx=>by have:=sc.2.2.2.2.1 x hx;omega)
     simp at hx
     by_cases g2:(4 :Int)<(els a).sum
     ·refine fin false (fun h=>by cases h) ?_
      clear fin htu sc
      simp[c1,len_bounds,len_fields,g1,c2,hx,q2,q3,q4,hsm,g2]
     ·obtain⟨y,k,hk,c3⟩:=check04_call sp ok hn
      by_cases g3:0<k
      ·refine fin false (fun h=>by cases h) ?_
       clear fin htu sc
       have g3':(0 :Int)<(k:Int):=by omega
       simp[c1,len_bounds,len_fields,g1,c2,hx,q2,q3,q4,hsm,g2,c3,hk,g3]
      ·have g3':¬(0 :Int)<(k:Int):=by omega
       have hnn:=sum_nonneg (els a) fun x hx=>by have:=sc.2.2.2.2.1 x hx;omega
       obtain⟨r4,c4,d4⟩:=bvalid_call (so:=sortsP sp.so) (f3:=predsP sp.pr) (f4:=factsP sp.fa) (fi:=sp.fi) (a:=a) (st:=st) (bs:=bs) (n:=(els a).sum.toNat) (by simp) (by simp) (by simp) (by have:=ok.nf;omega) hbl (by have:=sc.1;have:=sc.2.1;omega)
        (fun x hx=>by have:=sc.2.2.2.2.1 x hx;omega) (by omega) (by omega)
        (fun f hf=>by
         have hff:=ok.fd f hf
         have hne:els a≠[]:=fun e0=>by
          have h1:=sc.1
          rw[e0] at h1
          have h3:0<(els f.so).length:=by have:=hff.2.1;omega
          have h2:=hff.1 _ (List.getElem_mem h3)
          simp at h1
          omega
         have:=sum_pos (els a) hne fun x hx=>(sc.2.2.2.2.1 x hx).1
         omega)
        (fun f hf=>by rw[sc.1];exact ok.fd f hf) (fun b hb=>by have:=htu' b hb;omega)
       refine fin r4 (fun h=>⟨ok,sc,by omega,g1,htu',(d4.1 h).2⟩) ?_
       clear fin htu sc d4
       simp[c1,len_bounds,len_fields,g1,c2,hx,q2,q3,q4,hsm,g2,c3,hk,g3,c4]
    ·simp at hx
     refine fin false (fun h=>by cases h) ?_
     clear fin
     simp[c1,len_bounds,len_fields,g1,c2,hx,q6]
  ·refine fin false (fun h=>by cases h) ?_
   clear fin key
   have g1':¬((els bs).length:Int)=((els sp.fi).length:Int):=by omega
   simp[c1,len_bounds,len_fields,g1']
end Go.Proofs.YtgplgbonlnodeaaGreatDoor
namespace Go.Proofs.YtgplgbonlnodeaaGreatDoor
open Go.Vs
set_option maxRecDepth 100000
theorem colsR_app{ats:List Int}{n:Int}(hn:1≤n)(s:Int):∀(l:List Int) (t:Int),0≤t→(colsR ats n (l++[s]) t↔colsR ats n l t∧sortI ats 0 ((t/n ^ l.length)%n)=s)
 |[],t,ht=>by
  simp[colsR,Int.tmod_eq_emod_of_nonneg ht]
 |a::l,t,ht=>by
  have ih:=colsR_app (ats:=ats) hn s l (t.tdiv n) (Int.tdiv_nonneg ht (by omega))
  have e:t.tdiv n/n ^ l.length=t/n ^ (a::l).length:=by
   rw[Int.tdiv_eq_ediv_of_nonneg ht,Int.ediv_ediv_of_nonneg (by omega),List.length_cons,Int.pow_succ,Int.mul_comm]
  rw[e] at ih
  simp only[List.cons_append,colsR,ih,and_assoc]
theorem sortI_ge:∀(ats:List Int) (k x:Int),sortI ats k x= -1∨k≤sortI ats k x
 |[],_,_=>.inl rfl
 |a::r,k,x=>by
  simp only[sortI]
  split
  ·exact .inr (Int.le_refl _)
  ·rcases sortI_ge r (k+1) (x-a) with h |h
   ·exact .inl h
   ·exact .inr (by omega)
theorem sum_take_nn{l:List Int}(h:∀x∈l,0≤x)(i:Nat):0≤(l.take i).sum:=sum_nonneg _ fun x hx=>h x (List.mem_of_mem_take hx)
theorem sortI_iff:∀(ats:List Int) (k x:Int) (s:Nat),0≤x→0≤k→(∀a∈ats,0≤a)→s<ats.length→(sortI ats k x=k+s↔(ats.take s).sum≤x∧x<(ats.take s).sum+ats.getD s 0)
 |[],_,_,s,_,_,_,hs=>by simp at hs
 |a::r,k,x,s,hx,hk,hp,hs=>by
  have hr:∀b∈r,0≤b:=fun b hb=>hp b (List.mem_cons_of_mem _ hb)
  have ha:=hp a List.mem_cons_self
  simp only[sortI]
  cases s with
  |zero=>
   simp only[List.take_zero,List.sum_nil,List.getD_cons_zero]
   by_cases h:x<a
   ·rw[if_pos h];omega
   ·rw[if_neg h]
    have:=sortI_ge r (k+1) (x-a)
    omega
  |succ s=>
   have hnn:=sum_take_nn hr s
   simp only[List.take_succ_cons,List.sum_cons,List.getD_cons_succ]
   by_cases h:x<a
   ·rw[if_pos h];omega
   ·rw[if_neg h]
    have ih:=sortI_iff r (k+1) (x-a) s (by omega) (by omega) hr (by simpa using hs)
    have :k+((s+1 :Nat):Int)=k+1+(s:Int):=by omega
    rw[this,ih]
    omega
theorem take_le{l:List Int}(h:∀x∈l,0≤x)(s:Nat)(hs:s<l.length):(l.take s).sum+l.getD s 0≤l.sum:=by
 have h1:l.sum=(l.take (s+1)).sum+(l.drop (s+1)).sum:=by rw[←List.sum_append,List.take_append_drop]
 have h2:=sum_take (l:=l) hs
 have h3:=sum_nonneg (l.drop (s+1)) fun x hx=>h x (List.mem_of_mem_drop hx)
 have h4:l.getD s 0=l[s]:=by simp[List.getD_eq_getElem?_getD,List.getElem?_eq_getElem hs]
 omega
theorem tup_mem{ats:List Int}(hp:∀x∈ats,0≤x∧x≤5)(hn:1≤ats.sum)(t:Int)(ht:0≤t):∀(so:List Int) (p:Int),(∀s∈so,0≤s∧s<(ats.length:Int))→0≤p→(p+1)*ats.sum ^ so.length<4611686018427387904→
    (t∈tupL ats so p↔p*ats.sum ^ so.length≤t∧t<(p+1)*ats.sum ^ so.length∧colsR ats ats.sum so.reverse t)
 |[],p,_,_,_=>by
  simp only[tupL,List.mem_singleton,List.length_nil,Int.pow_zero,Int.mul_one,List.reverse_nil,colsR,and_true]
  omega
 |s::r,p,hs,h0,hb=>by
  have hp0:∀x∈ats,0≤x:=fun x hx=>(hp x hx).1
  obtain⟨s0,s1⟩:=hs s List.mem_cons_self
  obtain⟨k,rfl⟩:∃k:Nat,s=(k:Int):=⟨s.toNat,by omega⟩
  have hk:k<ats.length:=by omega
  have hf:=sum_take_nn hp0 k
  have hle:=take_le hp0 k hk
  have hA:0≤ats.getD k 0:=by
   rw[List.getD_eq_getElem?_getD,List.getElem?_eq_getElem hk];exact hp0 _ (List.getElem_mem hk)
  have hc:1≤ats.sum ^ r.length:=by
   have:=Int.pow_pos (n:=ats.sum) (m:=r.length) (by omega)
   omega
  have hpow:ats.sum ^ (((k:Int))::r).length=ats.sum*ats.sum ^ r.length:=by rw[List.length_cons,Int.pow_succ,Int.mul_comm]
  have hsi:=fun x hx=>sortI_iff ats 0 x k hx (Int.le_refl 0) hp0 hk
  rw[hpow] at hb⊢
  rw[List.reverse_cons,colsR_app hn _ _ _ ht,List.length_reverse]
  simp only[tupL,List.mem_flatMap,List.mem_range,Int.toNat_natCast]
  generalize (ats.take k).sum=f at *
  generalize hAA:ats.getD k 0=A at *
  have hih:=fun p' hr h0' hb'=>tup_mem hp hn t ht r p' hr h0' hb'
  generalize hcc:ats.sum ^ r.length=c at *
  generalize hnn:ats.sum=n at *
  have hpn:(p+1)*(n*c)=(p*n+n)*c:=by rw[←Int.mul_assoc,Int.add_mul,Int.one_mul]
  have hpn0:p*(n*c)=(p*n)*c:=by rw[←Int.mul_assoc]
  have h00:0≤p*n:=Int.mul_nonneg h0 (by omega)
  have hbig:p*n+n<4611686018427387904:=by
   rw[hpn] at hb
   have:=Int.mul_le_mul_of_nonneg_left (a:=1) (b:=c) (c:=p*n+n) hc (by omega)
   rw[Int.mul_one] at this
   omega
  have key:∀j:Nat,j<A.toNat→(t∈tupL ats r (IntKind.i64.wrap (IntKind.i64.wrap (p*n)+(f+(j:Int))))↔t/c=p*n+f+j∧colsR ats n r.reverse t):=by
   intro j hj
   have e:IntKind.i64.wrap (IntKind.i64.wrap (p*n)+(f+(j:Int)))=p*n+f+j:=by
    rw[wrap64 (n:=p*n) (by omega) (by omega),wrap64 (by omega) (by omega)];omega
   have hb2:(p*n+f+j+1)*c<4611686018427387904:=by
    rw[hpn] at hb
    have:=Int.mul_le_mul_of_nonneg_right (a:=p*n+f+j+1) (b:=p*n+n) (c:=c) (by omega) (by omega)
    omega
   rw[e,hih _ (fun s hs'=>hs s (List.mem_cons_of_mem _ hs')) (by omega) hb2,←Int.le_ediv_iff_mul_le (by omega),←Int.ediv_lt_iff_lt_mul (by omega),←and_assoc]
   refine and_congr_left fun _=>?_
   omega
  have hq:0≤t/c:=Int.ediv_nonneg ht (by omega)
  rw[hpn0,hpn,←Int.le_ediv_iff_mul_le (by omega),←Int.ediv_lt_iff_lt_mul (by omega)]
  have hm:=hsi (t/c%n) (Int.emod_nonneg _ (by omega))
  rw[Int.zero_add] at hm
  rw[hm]
  have hmod:p*n≤t/c→t/c<p*n+n→t/c%n=t/c-p*n:=fun h1 h2=>by
   rw[←Int.sub_mul_emod_self_right (t/c) p n]
   exact Int.emod_eq_of_lt (by omega) (by omega)
  constructor
  ·rintro⟨j,hj,h⟩
   obtain⟨h1,h2⟩:=(key j hj).1 h
   refine⟨by omega,by omega,h2,?_⟩
   rw[hmod (by omega) (by omega)]
   omega
  ·rintro⟨h1,h2,h3,h4⟩
   rw[hmod h1 h2] at h4
   refine⟨(t/c-p*n-f).toNat,by omega,(key _ (by omega)).2 ⟨by omega,h3⟩⟩
theorem sum_le_all:∀(l:List Nat) (m:Nat),(∀x∈l,x≤m)→l.sum≤l.length*m
 |[],_,_=>by simp
 |a::r,m,h=>by
  have h1:=h a List.mem_cons_self
  have h2:=sum_le_all r m fun x hx=>h x (List.mem_cons_of_mem _ hx)
  rw[List.sum_cons,List.length_cons,Nat.add_mul];omega
theorem tup_len{ats:List Int}(hp:∀x∈ats,0≤x∧x≤5):∀(so:List Int) (p:Int),(tupL ats so p).length≤5 ^ so.length
 |[],p=>by simp[tupL]
 |s::r,p=>by
  have h5:(ats.getD s.toNat 0).toNat≤5:=by
   rw[List.getD_eq_getElem?_getD]
   cases h:ats[s.toNat]? with
   |none=>simp
   |some x=>have:=hp x (List.mem_of_getElem? h);simp;omega
  simp only[tupL]
  rw[List.length_flatMap]
  refine Nat.le_trans (sum_le_all _ (5 ^ r.length) fun x hx=>?_) ?_
  ·obtain⟨j,_,rfl⟩:=List.mem_map.1 hx
   exact tup_len hp r _
  ·rw[List.length_map,List.length_range,List.length_cons,Nat.pow_succ,Nat.mul_comm (5 ^ r.length)]
   exact Nat.mul_le_mul_right _ h5
theorem tup_within{ats so tu:List Int}(hp:∀x∈ats,0≤x∧x≤5)(hn:1≤ats.sum)(hn2:ats.sum≤12)(hfo:FieldOk ats.length so)(hr:∀t∈tu,0≤t∧t<ats.sum ^ so.length):
    (∀t∈tu,t∈tupL ats so 0)↔WithinP ats so tu:=by
 obtain⟨f1,f2,f3⟩:=hfo
 have hnO:nOf ats=ats.sum:=by unfold nOf;split<;>omega
 have hpw:(0+1)*ats.sum ^ so.length<4611686018427387904:=by
  have h1:=pow_bd (n:=ats.sum.toNat) (i:=so.length) (by omega) f3
  have h2:((ats.sum.toNat ^ so.length:Nat):Int)=ats.sum ^ so.length:=by rw[Int.natCast_pow,show((ats.sum.toNat:Nat):Int)=ats.sum by omega]
  rw[Int.zero_add,Int.one_mul,←h2]
  omega
 unfold WithinP
 rw[hnO]
 refine forall_congr' fun t=>forall_congr' fun ht=>?_
 have hb:=hr t ht
 rw[tup_mem hp hn t hb.1 so 0 f1 (Int.le_refl 0) hpw]
 simp only[Int.zero_mul,Int.zero_add,Int.one_mul]
 exact⟨fun h=>h.2.2,fun h=>⟨hb.1,hb.2,h⟩⟩
end Go.Proofs.YtgplgbonlnodeaaGreatDoor
namespace Go.Proofs.YtgplgbonlnodeaaGreatDoor
open Go.Vs
set_option maxRecDepth 100000
def CellOk(ats:List Int)(ss:List (Sl Rl))(i:Nat)(f:Fi)(r:Rl):Prop:=
 r.ar=(els f.so).length∧RelOk ats.sum r.ar (els r.tu)∧WithinP ats (els f.so) (els r.tu)∧
 (f.va=false→∀x0 r0,ss[0]? =some x0→(els x0)[i]? =some r0→r.ar=r0.ar∧els r.tu=els r0.tu)
variable {so f3 f4 : PD} {fi : Sl Fi} {a : Sl Int} {ss : Sl (Sl Rl)} {st lp : Int}
theorem cell_calls(hal:(els a).length≤1000)(hp:∀x∈els a,1≤x∧x≤5)(hsum:(els a).sum≤12){f:Fi}{r:Rl}(hf:FieldOk (els a).length (els f.so))(hr:(els r.tu).length<1000000000)(har:r.ar=(els f.so).length):
    ∃b1 b2:Bool,∃fu:PD,(∀H,callD (call pg) 114 [.p (.int .i64 ((els a).sum)),.p (.agg [.int .i64 r.ar,intsP r.tu])] H=some (.val (.p (.bool b1)),H))∧
     (∀H,callD (call pg) 116 [.p (.agg [intsP a,.int .i64 st]),.p (intsP f.so)] H=some (.val (.p fu),H))∧
     (∀H,callD (call pg) 115 [.p (.agg [.int .i64 r.ar,intsP r.tu]),.p fu] H=some (.val (.p (.bool b2)),H))∧
     ((b1=true∧b2=true)↔RelOk (els a).sum r.ar (els r.tu)∧WithinP (els a) (els f.so) (els r.tu)):=by
 have hp5:∀x∈els a,0≤x∧x≤5:=fun x hx=>by have:=hp x hx;omega
 obtain⟨b1,c1,d1⟩:=rvalidP_call (els a).sum r.ar r.tu (by omega)
 have htl:(tupL (els a) (els f.so) 0).length<1000000:=by
  have h1:=tup_len hp5 (els f.so) 0
  have h2:5 ^ (els f.so).length≤5 ^ 3:=Nat.pow_le_pow_right (by omega) hf.2.2
  omega
 have c2:=fullP_call a f.so st hal hp5 hf htl
 obtain⟨b2,c3,d3⟩:=inP_call r.tu (keptS (tupL (els a) (els f.so) 0)) r.ar (els f.so).length hr (by rw[kept_els];omega)
 refine⟨b1,b2,_,c1,c2,c3,?_⟩
 rw[d1,d3,kept_els]
 have hne:els a≠[]:=fun e=>by
  obtain⟨g1,g2,g3⟩:=hf
  cases hso:els f.so with
  |nil=>rw[hso] at g2;simp at g2
  |cons s l=>have:=g1 s (by rw[hso];exact List.mem_cons_self);rw[e] at this;simp at this;omega
 have h1:=sum_pos _ hne fun x hx=>(hp x hx).1
 refine and_congr_right fun hrel=>?_
 refine tup_within hp5 h1 hsum hf fun t ht=>?_
 have:=relok_bd hrel t ht
 rw[har] at this
 simpa using this
theorem cell_loop(_o1:so.one=true)(_o3:f3.one=true)(_o4:f4.one=true)(hal:(els a).length≤1000)(hp:∀x∈els a,1≤x∧x≤5)(hsum:(els a).sum≤12)(hfi:(els fi).length<4611686018427387904)(_hss:(els ss).length<4611686018427387904)
    (htu:∀x∈els ss,∀r∈els x,(els r.tu).length<1000000000) (hfo:∀f∈els fi,FieldOk (els a).length (els f.so)) (s:Nat) (hs:s<(els ss).length) (hxl:(els (els ss)[s]).length=(els fi).length)
    (h00:0<(els ss).length) (h0:(els (els ss)[0]).length=(els fi).length):
    (∃e,loopK (call pg) pg.G [2,3,5,9,56,57,58,69,70,71] (bd a66 2) ⟨[(2,.box 0 0),(3,.box 1 0),(5,.p (.int .i64 ((els a).sum))),(9,.p (relsP (els ss)[s])),(56,.p (statesP ss)),(57,.p (.int .i64 (((els ss).length:Nat):Int))),(58,.p (.int .i64 ((s:Nat):Int))),(69,.p (fieldsP fi)),(70,.p (.int .i64 (((els fi).length:Nat):Int))),(71,.p (.int .i64 (0)))],⟨[[.p (so),.p (fieldsP fi),.p (f3),.p (f4)],[.p (intsP a),.p (.int .i64 (st)),.p (statesP ss),.p (.int .i64 (lp))]],[]⟩⟩=
     some (.exit 4,⟨e,⟨[[.p (so),.p (fieldsP fi),.p (f3),.p (f4)],[.p (intsP a),.p (.int .i64 (st)),.p (statesP ss),.p (.int .i64 (lp))]],[]⟩⟩)∧(e.get 2= .box 0 0∧e.get 3= .box 1 0∧e.get 5= .p (.int .i64 ((els a).sum))∧e.get 56= .p (statesP ss)∧e.get 57= .p (.int .i64 (((els ss).length:Nat):Int))∧e.get 58= .p (.int .i64 ((s:Nat):Int)))∧
     ∀i,i<(els fi).length→∀f r,(els fi)[i]? =some f→(els (els ss)[s])[i]? =some r→CellOk (els a) (els ss) i f r)∨
    (∃e,loopK (call pg) pg.G [2,3,5,9,56,57,58,69,70,71] (bd a66 2) ⟨[(2,.box 0 0),(3,.box 1 0),(5,.p (.int .i64 ((els a).sum))),(9,.p (relsP (els ss)[s])),(56,.p (statesP ss)),(57,.p (.int .i64 (((els ss).length:Nat):Int))),(58,.p (.int .i64 ((s:Nat):Int))),(69,.p (fieldsP fi)),(70,.p (.int .i64 (((els fi).length:Nat):Int))),(71,.p (.int .i64 (0)))],⟨[[.p (so),.p (fieldsP fi),.p (f3),.p (f4)],[.p (intsP a),.p (.int .i64 (st)),.p (statesP ss),.p (.int .i64 (lp))]],[]⟩⟩=
     some (.ret,⟨e,⟨[[.p (so),.p (fieldsP fi),.p (f3),.p (f4)],[.p (intsP a),.p (.int .i64 (st)),.p (statesP ss),.p (.int .i64 (lp))]],[]⟩⟩)∧e.get 4= .p (.bool false)∧
     ¬∀i,i<(els fi).length→∀f r,(els fi)[i]? =some f→(els (els ss)[s])[i]? =some r→CellOk (els a) (els ss) i f r):=by
 have hia0:=ia_states h00
 simp at hia0
 refine loopA (c:=call pg) (G:=pg.G) (keep:=[2,3,5,9,56,57,58,69,70,71]) (b:=bd a66 2) (fun i=>[(2,.box 0 0),(3,.box 1 0),(5,.p (.int .i64 ((els a).sum))),(9,.p (relsP (els ss)[s])),(56,.p (statesP ss)),(57,.p (.int .i64 (((els ss).length:Nat):Int))),(58,.p (.int .i64 ((s:Nat):Int))),(69,.p (fieldsP fi)),(70,.p (.int .i64 (((els fi).length:Nat):Int))),(71,.p (.int .i64 ((i:Nat):Int)))]) ⟨[[.p (so),.p (fieldsP fi),.p (f3),.p (f4)],[.p (intsP a),.p (.int .i64 (st)),.p (statesP ss),.p (.int .i64 (lp))]],[]⟩ (els fi).length
  (fun i=>∀f r,(els fi)[i]? =some f→(els (els ss)[s])[i]? =some r→CellOk (els a) (els ss) i f r) 4 (fun e=>e.get 2= .box 0 0∧e.get 3= .box 1 0∧e.get 5= .p (.int .i64 ((els a).sum))∧e.get 56= .p (statesP ss)∧e.get 57= .p (.int .i64 (((els ss).length:Nat):Int))∧e.get 58= .p (.int .i64 ((s:Nat):Int))) (fun e=>e.get 4= .p (.bool false)) ?_ ?_ ?_
 ·intro i hi hP
  have hi1:i<(els (els ss)[s]).length:=by omega
  have hi0:i<(els (els ss)[0]).length:=by omega
  obtain⟨p1,p2,p3,p4⟩:=hP _ _ (List.getElem?_eq_getElem hi) (List.getElem?_eq_getElem hi1)
  have hr:=htu _ (List.getElem_mem hs) _ (List.getElem_mem hi1)
  have p4':=fun hv=>p4 hv _ _ (List.getElem?_eq_getElem h00) (List.getElem?_eq_getElem hi0)
  obtain⟨b1,b2,fu,c1,c2,c3,hb⟩:=cell_calls (st:=st) hal hp hsum (hfo _ (List.getElem_mem hi)) hr p1
  obtain⟨rfl,rfl⟩:=hb.2 ⟨p2,p3⟩
  obtain⟨b4,c4,d4⟩:=requalP_call (els (els ss)[s])[i].ar (els (els ss)[0])[i].ar (els (els ss)[s])[i].tu (els (els ss)[0])[i].tu (by omega)
  have hiaf:=ia_fields hi
  have hiar:=ia_rels hi1
  have hiar0:=ia_rels hi0
  clear hb p2 p3 hP p4
  generalize (els fi)[i]=f at *
  generalize (els (els ss)[s])[i]=r at *
  generalize (els (els ss)[0])[i]=r0 at *
  obtain⟨ar,tu⟩:=r
  dsimp only at *
  subst p1
  have hb2:bd a66 2=bd a66 2:=rfl
  conv at hb2=>rhs;reduce
  have hb1:bd a66 1=bd a66 1:=rfl
  conv at hb1=>rhs;reduce
  rw[←hb2] at hb1
  have hb0:bd a66 0=bd a66 0:=rfl
  conv at hb0=>rhs;reduce
  have hf:a66=a66:=rfl
  conv at hf=>rhs;reduce
  rw[←hb2] at hf
  rw[←hb1] at hf
  rw[←hb0] at hf
  rw[hb2];clear hf hb0 hb1 hb2
  cases hv:f.va with
  |true=>
   simp[len_ints,hi,hiaf,hiar,c1,c2,c3,hv,inc64 (k:=i) (by omega)]
  |false=>
   have:=d4.2 (p4' hv)
   subst this
   simp[len_ints,hi,hiaf,hiar,hia0,hiar0,c1,c2,c3,c4,hv,inc64 (k:=i) (by omega)]
 ·intro i hi hP
  have hi1:i<(els (els ss)[s]).length:=by omega
  have hi0:i<(els (els ss)[0]).length:=by omega
  have hn:¬CellOk (els a) (els ss) i (els fi)[i] (els (els ss)[s])[i]:=fun h=>hP fun f r hf hr=>by
   rw[List.getElem?_eq_getElem hi] at hf
   rw[List.getElem?_eq_getElem hi1] at hr
   cases hf;cases hr;exact h
  clear hP
  have hr:=htu _ (List.getElem_mem hs) _ (List.getElem_mem hi1)
  have hcc:=cell_calls (r:=(els (els ss)[s])[i]) (st:=st) hal hp hsum (hfo _ (List.getElem_mem hi)) hr
  obtain⟨b4,c4,d4⟩:=requalP_call (els (els ss)[s])[i].ar (els (els ss)[0])[i].ar (els (els ss)[s])[i].tu (els (els ss)[0])[i].tu (by omega)
  have hiaf:=ia_fields hi
  have hiar:=ia_rels hi1
  have hiar0:=ia_rels hi0
  have hlast:(els (els ss)[s])[i].ar=(els (els fi)[i].so).length→RelOk (els a).sum (els (els ss)[s])[i].ar (els (els (els ss)[s])[i].tu)→WithinP (els a) (els (els fi)[i].so) (els (els (els ss)[s])[i].tu)→(els fi)[i].va=false∧b4=false:=by
   intro h1 h2 h3
   cases hv:(els fi)[i].va with
   |true=>exact absurd ⟨h1,h2,h3,fun h=>by rw[hv] at h;cases h⟩ hn
   |false=>
    refine⟨rfl,?_⟩
    rw[Bool.eq_false_iff]
    intro hb
    refine hn ⟨h1,h2,h3,fun _ x0 r0 hx0 hr0=>?_⟩
    rw[List.getElem?_eq_getElem h00] at hx0
    cases hx0
    rw[List.getElem?_eq_getElem hi0] at hr0
    cases hr0
    exact d4.1 hb
  clear hn d4
  generalize (els fi)[i]=f at *
  generalize (els (els ss)[s])[i]=r at *
  generalize (els (els ss)[0])[i]=r0 at *
  obtain⟨ar,tu⟩:=r
  dsimp only at *
  have hb2:bd a66 2=bd a66 2:=rfl
  conv at hb2=>rhs;reduce
  have hb1:bd a66 1=bd a66 1:=rfl
  conv at hb1=>rhs;reduce
  rw[←hb2] at hb1
  have hb0:bd a66 0=bd a66 0:=rfl
  conv at hb0=>rhs;reduce
  have hf:a66=a66:=rfl
  conv at hf=>rhs;reduce
  rw[←hb2] at hf
  rw[←hb1] at hf
  rw[←hb0] at hf
  rw[hb2];clear hf hb0 hb1 hb2
  by_cases p1:ar=(els f.so).length
  ·subst p1
   obtain⟨b1,b2,fu,c1,c2,c3,hb⟩:=hcc rfl
   cases b1 with
   |false=>simp[len_ints,hi,hiaf,hiar,c1]
   |true=>
    cases b2 with
    |false=>simp[len_ints,hi,hiaf,hiar,c1,c2,c3]
    |true=>
     obtain⟨g1,g2⟩:=hb.1 ⟨rfl,rfl⟩
     obtain⟨hv,rfl⟩:=hlast rfl g1 g2
     simp[len_ints,hi,hiaf,hiar,hia0,hiar0,c1,c2,c3,c4,hv]
  ·simp[len_ints,hi,hiaf,hiar,p1]
 ·skip
  have hb2:bd a66 2=bd a66 2:=rfl
  conv at hb2=>rhs;reduce
  have hb1:bd a66 1=bd a66 1:=rfl
  conv at hb1=>rhs;reduce
  rw[←hb2] at hb1
  have hb0:bd a66 0=bd a66 0:=rfl
  conv at hb0=>rhs;reduce
  have hf:a66=a66:=rfl
  conv at hf=>rhs;reduce
  rw[←hb2] at hf
  rw[←hb1] at hf
  rw[←hb0] at hf
  rw[hb2];clear hf hb0 hb1 hb2
  simp[]
end Go.Proofs.YtgplgbonlnodeaaGreatDoor
namespace Go.Proofs.YtgplgbonlnodeaaGreatDoor
open Go.Vs
set_option maxRecDepth 100000
def StOk(nf i:Nat)(n:Int)(ats so:List Int)(va:Bool)(ss:List (Sl Rl))(x:Sl Rl):Prop:=
 (els x).length=nf∧∀r,(els x)[i]? =some r→r.ar=so.length∧RelOk n r.ar (els r.tu)∧WithinP ats so (els r.tu)∧
  (va=false→∀x0 r0,ss[0]? =some x0→(els x0)[i]? =some r0→r.ar=r0.ar∧els r.tu=els r0.tu)
def FdOk(ns nf i:Nat)(ats:List Int)(ss:List (Sl Rl))(f:Fi):Prop:=FieldOk ns (els f.so)∧∀x∈ss,StOk nf i ats.sum ats (els f.so) f.va ss x
def MoOk(ns:Nat)(fi:List Fi)(a:Sl Int)(st:Int)(ss:List (Sl Rl))(lp:Int):Prop:=
 ScOk ns a st∧(ss.length:Int)=st∧0≤lp∧lp<st∧(∀i,i<fi.length→∀f,fi[i]? =some f→FdOk ns fi.length i (els a) ss f)∧∀x∈ss,(els x).length=fi.length
variable {so f3 f4 : PD} {ns : Nat} {fi : Sl Fi} {a : Sl Int} {ss : Sl (Sl Rl)} {st lp : Int}
theorem st_loop(_o1:so.one=true)(_o3:f3.one=true)(_o4:f4.one=true)(ha:(els a).length≤1000)(hp:∀x∈els a,0≤x∧x≤5)(hss:(els ss).length<4611686018427387904)
    (htu:∀x∈els ss,∀r∈els x,(els r.tu).length<4611686018427387904) (i:Nat) (hi:i<(els fi).length) (hso:(els (els fi)[i].so).length≤1000):
    (∃e,loopK (call pg) pg.G [2,3,5,6,7,8] (bd a26 1) ⟨[(2,.box 0 0),(3,.box 1 0),(5,.p (.int .i64 ((els a).sum))),(6,.p (.int .i64 ((i:Nat):Int))),(7,.box 2 0),(8,.p (.int .i64 (0)))],⟨[[.p (so),.p (fieldsP fi),.p (f3),.p (f4)],[.p (intsP a),.p (.int .i64 (st)),.p (statesP ss),.p (.int .i64 (lp))],[.p (.str (els fi)[i].nm),.p (intsP (els fi)[i].so),.p (.bool (els fi)[i].va)]],[]⟩⟩=
     some (.exit 2,⟨e,⟨[[.p (so),.p (fieldsP fi),.p (f3),.p (f4)],[.p (intsP a),.p (.int .i64 (st)),.p (statesP ss),.p (.int .i64 (lp))],[.p (.str (els fi)[i].nm),.p (intsP (els fi)[i].so),.p (.bool (els fi)[i].va)]],[]⟩⟩)∧(e.get 2= .box 0 0∧e.get 3= .box 1 0∧e.get 5= .p (.int .i64 ((els a).sum))∧e.get 6= .p (.int .i64 ((i:Nat):Int)))∧
     ∀s,s<(els ss).length→∀x,(els ss)[s]? =some x→StOk (els fi).length i (els a).sum (els a) (els (els fi)[i].so) (els fi)[i].va (els ss) x)∨
    (∃e,loopK (call pg) pg.G [2,3,5,6,7,8] (bd a26 1) ⟨[(2,.box 0 0),(3,.box 1 0),(5,.p (.int .i64 ((els a).sum))),(6,.p (.int .i64 ((i:Nat):Int))),(7,.box 2 0),(8,.p (.int .i64 (0)))],⟨[[.p (so),.p (fieldsP fi),.p (f3),.p (f4)],[.p (intsP a),.p (.int .i64 (st)),.p (statesP ss),.p (.int .i64 (lp))],[.p (.str (els fi)[i].nm),.p (intsP (els fi)[i].so),.p (.bool (els fi)[i].va)]],[]⟩⟩=
     some (.ret,⟨e,⟨[[.p (so),.p (fieldsP fi),.p (f3),.p (f4)],[.p (intsP a),.p (.int .i64 (st)),.p (statesP ss),.p (.int .i64 (lp))],[.p (.str (els fi)[i].nm),.p (intsP (els fi)[i].so),.p (.bool (els fi)[i].va)]],[]⟩⟩)∧e.get 4= .p (.bool false)∧
     ¬∀s,s<(els ss).length→∀x,(els ss)[s]? =some x→StOk (els fi).length i (els a).sum (els a) (els (els fi)[i].so) (els fi)[i].va (els ss) x):=by
 have hb2:bd a26 2=bd a26 2:=rfl
 conv at hb2=>rhs;reduce
 have hb1:bd a26 1=bd a26 1:=rfl
 conv at hb1=>rhs;reduce
 have hb0:bd a26 0=bd a26 0:=rfl
 conv at hb0=>rhs;reduce
 rw[←hb1] at hb0
 have hf:a26=a26:=rfl
 conv at hf=>rhs;reduce
 rw[←hb2] at hf
 rw[←hb1] at hf
 rw[←hb0] at hf
 generalize hf0:(els fi)[i]=f at *
 refine loopB (c:=call pg) (G:=pg.G) (keep:=[2,3,5,6,7,8]) (b:=bd a26 1) (fun s=>[(2,.box 0 0),(3,.box 1 0),(5,.p (.int .i64 ((els a).sum))),(6,.p (.int .i64 ((i:Nat):Int))),(7,.box 2 0),(8,.p (.int .i64 ((s:Nat):Int)))]) ⟨[[.p (so),.p (fieldsP fi),.p (f3),.p (f4)],[.p (intsP a),.p (.int .i64 (st)),.p (statesP ss),.p (.int .i64 (lp))],[.p (.str f.nm),.p (intsP f.so),.p (.bool f.va)]],[]⟩ (els ss).length
  (fun s=>∀x,(els ss)[s]? =some x→StOk (els fi).length i (els a).sum (els a) (els f.so) f.va (els ss) x) 2 _ _ ?_ ?_ ?_
 ·intro s hs hI hP
  obtain⟨p1,p2⟩:=at_ix hs hP
  have hi2:i<(els (els ss)[s]).length:=by omega
  obtain⟨q1,q2,q3,q4⟩:=p2 _ (List.getElem?_eq_getElem hi2)
  have hl:=htu _ (List.getElem_mem hs) _ (List.getElem_mem hi2)
  obtain⟨b1,c1,d1⟩:=rvalid_call (els a).sum (els (els ss)[s])[i].ar (els (els ss)[s])[i].tu hl
  have e1:=d1.2 q2
  subst e1
  obtain⟨b2,c2,d2⟩:=within_call a f.so (els (els ss)[s])[i].tu st (els (els ss)[s])[i].ar ha hp hso (fun x hx=>by
   obtain⟨m1,m2,m3,m4,m5⟩:=q2
   obtain⟨k,hk,rfl⟩:=List.getElem_of_mem hx
   have:=(m5 k hk).1 _ (List.getElem?_eq_getElem hk)
   have hpw:=pow_bd (n:=(els a).sum.toNat) (i:=(els (els ss)[s])[i].ar.toNat) (by omega) (by omega)
   have :(els a).sum ^ (els (els ss)[s])[i].ar.toNat=(((els a).sum.toNat ^ (els (els ss)[s])[i].ar.toNat:Nat):Int):=by
    rw[Int.natCast_pow,Int.toNat_of_nonneg m1]
   omega) hl
  have e2:=d2.2 q3
  subst e2
  have g0:0<(els ss).length:=by omega
  have ias:=ia_states hs
  have ia0:=ia_states g0
  simp only[Int.natCast_zero] at ia0
  have iar:=ia_rels hi2
  have hz:i<(els (els ss)[0]).length:=by
   rcases Nat.eq_zero_or_pos s with h |h
   ·subst h;exact hi2
   ·rw[(at_ix g0 (hI 0 h)).1];exact hi
  have iar0:=ia_rels hz
  rw[hb1];clear hf hb0 hb1 hb2
  cases hva:f.va with
  |true=>
   rw[q1] at c1 c2
   simp[len_states,len_rels,len_fields,len_ints,ias,iar,p1,hs,q1,c1,c2,inc64 (k:=s) (by omega)]
  |false=>
   obtain⟨q5,q6⟩:=q4 hva (els ss)[0] (els (els ss)[0])[i] (List.getElem?_eq_getElem g0) (List.getElem?_eq_getElem hz)
   obtain⟨b3,c3,d3⟩:=requal_call (els (els ss)[s])[i].tu (els (els ss)[0])[i].tu (els (els ss)[s])[i].ar (els (els ss)[0])[i].ar hl
   have e3:=d3.2 ⟨q5,q6⟩
   subst e3
   rw[q1] at c1 c2 c3
   simp[len_states,len_rels,len_fields,len_ints,ias,ia0,iar,iar0,p1,hs,q1,c1,c2,c3,inc64 (k:=s) (by omega)]
 ·intro s hs hI hP
  have hP:=not_ix hs hP
  have ias:=ia_states hs
  rw[hb1];clear hf hb0 hb1 hb2
  by_cases p1:(els (els ss)[s]).length=(els fi).length
  ·have hi2:i<(els (els ss)[s]).length:=by omega
   have hl:=htu _ (List.getElem_mem hs) _ (List.getElem_mem hi2)
   have iar:=ia_rels hi2
   by_cases q1:(els (els ss)[s])[i].ar=(els f.so).length
   ·obtain⟨b1,c1,d1⟩:=rvalid_call (els a).sum (els (els ss)[s])[i].ar (els (els ss)[s])[i].tu hl
    cases b1 with
    |false=>
     rw[q1] at c1
     simp[len_states,len_rels,len_fields,len_ints,ias,iar,p1,hs,q1,c1]
    |true=>
     have q2:=d1.1 rfl
     obtain⟨b2,c2,d2⟩:=within_call a f.so (els (els ss)[s])[i].tu st (els (els ss)[s])[i].ar ha hp hso (fun x hx=>by
      obtain⟨m1,m2,m3,m4,m5⟩:=q2
      obtain⟨k,hk,rfl⟩:=List.getElem_of_mem hx
      have:=(m5 k hk).1 _ (List.getElem?_eq_getElem hk)
      have hpw:=pow_bd (n:=(els a).sum.toNat) (i:=(els (els ss)[s])[i].ar.toNat) (by omega) (by omega)
      have :(els a).sum ^ (els (els ss)[s])[i].ar.toNat=(((els a).sum.toNat ^ (els (els ss)[s])[i].ar.toNat:Nat):Int):=by
       rw[Int.natCast_pow,Int.toNat_of_nonneg m1]
      omega) hl
     cases b2 with
     |false=>
      rw[q1] at c1 c2
      simp[len_states,len_rels,len_fields,len_ints,ias,iar,p1,hs,q1,c1,c2]
     |true=>
      have q3:=d2.1 rfl
      cases hva:f.va with
      |true=>
       refine absurd ⟨p1,fun r hr=>?_⟩ hP
       rw[List.getElem?_eq_getElem hi2] at hr
       cases hr
       exact⟨q1,q2,q3,fun h=>by rw[hva] at h;cases h⟩
      |false=>
       have g0:0<(els ss).length:=by omega
       have ia0:=ia_states g0
       simp only[Int.natCast_zero] at ia0
       have hz:i<(els (els ss)[0]).length:=by
        rcases Nat.eq_zero_or_pos s with h |h
        ·subst h;exact hi2
        ·rw[(at_ix g0 (hI 0 h)).1];exact hi
       have iar0:=ia_rels hz
       obtain⟨b3,c3,d3⟩:=requal_call (els (els ss)[s])[i].tu (els (els ss)[0])[i].tu (els (els ss)[s])[i].ar (els (els ss)[0])[i].ar hl
       cases b3 with
       |false=>
        rw[q1] at c1 c2 c3
        simp[len_states,len_rels,len_fields,len_ints,ias,ia0,iar,iar0,p1,hs,q1,c1,c2,c3]
       |true=>
        refine absurd ⟨p1,fun r hr=>?_⟩ hP
        rw[List.getElem?_eq_getElem hi2] at hr
        cases hr
        refine⟨q1,q2,q3,fun _ x0 r0 h1 h2=>?_⟩
        rw[List.getElem?_eq_getElem g0] at h1
        cases h1
        rw[List.getElem?_eq_getElem hz] at h2
        cases h2
        exact d3.1 rfl
   ·simp[len_states,len_rels,len_fields,len_ints,ias,iar,p1,hs,q1]
  ·simp[len_states,len_rels,len_fields,ias,p1,hs]
 ·rw[hb1];clear hf hb0 hb1 hb2
  simp[len_states]
end Go.Proofs.YtgplgbonlnodeaaGreatDoor
namespace Go.Proofs.YtgplgbonlnodeaaGreatDoor
open Go.Vs
set_option maxRecDepth 100000
variable {so f3 f4 : PD} {ns : Nat} {fi : Sl Fi} {a : Sl Int} {ss : Sl (Sl Rl)} {st lp : Int}
theorem mvalid_call(hso:lenD 1 (.p so)=some ns)(o1:so.one=true)(o3:f3.one=true)(o4:f4.one=true)(hns:ns<4611686018427387904)(ha:(els a).length<4611686018427387904)(hss:(els ss).length<4611686018427387904)(hfi:(els fi).length<4611686018427387904)
    (htu:∀x∈els ss,∀r∈els x,(els r.tu).length<4611686018427387904) (hfs:∀f∈els fi,(els f.so).length<4611686018427387904):
    ∃r:Bool,(∀H,callD (call pg) 26 [.p (.agg [so,fieldsP fi,f3,f4]),.p (.agg [intsP a,.int .i64 st,statesP ss,.int .i64 lp])] H=some (.val (.p (.bool r)),H))∧
     (r=true↔MoOk ns (els fi) a st (els ss) lp):=by
 obtain⟨b0,c0,d0⟩:=scope_call hso o1 (pone_fields fi) o3 o4 a st hns ha
 have key:=fun(hp:∀x∈els a,0≤x∧x≤5) (hal:(els a).length≤1000)=>loopA (c:=call pg) (G:=pg.G) (keep:=[2,3,5,6]) (b:=bd a26 0) (fun i=>[(2,.box 0 0),(3,.box 1 0),(5,.p (.int .i64 ((els a).sum))),(6,.p (.int .i64 ((i:Nat):Int)))])
  ⟨[[.p (so),.p (fieldsP fi),.p (f3),.p (f4)],[.p (intsP a),.p (.int .i64 (st)),.p (statesP ss),.p (.int .i64 (lp))]],[]⟩ (els fi).length
  (fun i=>∀f,(els fi)[i]? =some f→FdOk ns (els fi).length i (els a) (els ss) f) 0 (fun e=>e.get 2= .box 0 0∧e.get 3= .box 1 0) (fun e=>e.get 4= .p (.bool false))
  (fun i hi hP=>by
   have hb2:bd a26 2=bd a26 2:=rfl
   conv at hb2=>rhs;reduce
   have hb1:bd a26 1=bd a26 1:=rfl
   conv at hb1=>rhs;reduce
   have hb0:bd a26 0=bd a26 0:=rfl
   conv at hb0=>rhs;reduce
   rw[←hb1] at hb0
   have hf:a26=a26:=rfl
   conv at hf=>rhs;reduce
   rw[←hb2] at hf
   rw[←hb1] at hf
   rw[←hb0] at hf
   obtain⟨p1,p2⟩:=at_ix hi hP
   have hlo:(els (els fi)[i].so).length<4611686018427387904:=hfs _ (List.getElem_mem hi)
   obtain⟨b1,c1,d1⟩:=field_call (nm:=.str (els fi)[i].nm) (va:=.bool (els fi)[i].va) hso o1 (pone_fields fi) o3 o4 rfl rfl (els fi)[i].so hlo
   have e1:=d1.2 p1
   subst e1
   have hl:=st_loop (st:=st) (lp:=lp) o1 o3 o4 hal hp hss htu i hi (by have:=p1.2.2;omega)
   have hia:=ia_fields hi
   rcases hl with⟨e,hx,⟨h2,h3,h5,h6⟩,-⟩ |⟨e,hx,-,hn⟩
   ·rw[hb0];clear hf hb0 hb1 hb2
    simp[len_fields,hia,hi,c1,hx,h2,h3,h5,h6,inc64 (k:=i) (by omega)]
   ·rw[all_ix] at hn
    exact absurd p2 hn)
  (fun i hi hP=>by
   have hb2:bd a26 2=bd a26 2:=rfl
   conv at hb2=>rhs;reduce
   have hb1:bd a26 1=bd a26 1:=rfl
   conv at hb1=>rhs;reduce
   have hb0:bd a26 0=bd a26 0:=rfl
   conv at hb0=>rhs;reduce
   rw[←hb1] at hb0
   have hf:a26=a26:=rfl
   conv at hf=>rhs;reduce
   rw[←hb2] at hf
   rw[←hb1] at hf
   rw[←hb0] at hf
   have hP:=not_ix hi hP
   have hlo:(els (els fi)[i].so).length<4611686018427387904:=hfs _ (List.getElem_mem hi)
   obtain⟨b1,c1,d1⟩:=field_call (nm:=.str (els fi)[i].nm) (va:=.bool (els fi)[i].va) hso o1 (pone_fields fi) o3 o4 rfl rfl (els fi)[i].so hlo
   have hia:=ia_fields hi
   cases b1 with
   |false=>
    rw[hb0];clear hf hb0 hb1 hb2
    simp[len_fields,hia,hi,c1]
   |true=>
    have p1:=d1.1 rfl
    have hl:=st_loop (st:=st) (lp:=lp) o1 o3 o4 hal hp hss htu i hi (by have:=p1.2.2;omega)
    rcases hl with⟨e,hx,-,hn⟩ |⟨e,hx,h4,-⟩
    ·rw[all_ix] at hn
     exact absurd ⟨p1,hn⟩ hP
    ·rw[hb0];clear hf hb0 hb1 hb2
     simp[len_fields,hia,hi,c1,hx,h4])
  (by
   have hb2:bd a26 2=bd a26 2:=rfl
   conv at hb2=>rhs;reduce
   have hb1:bd a26 1=bd a26 1:=rfl
   conv at hb1=>rhs;reduce
   have hb0:bd a26 0=bd a26 0:=rfl
   conv at hb0=>rhs;reduce
   rw[←hb1] at hb0
   have hf:a26=a26:=rfl
   conv at hf=>rhs;reduce
   rw[←hb2] at hf
   rw[←hb1] at hf
   rw[←hb0] at hf
   rw[hb0];clear hf hb0 hb1 hb2
   simp[len_fields])
 have key2:=loopA (c:=call pg) (G:=pg.G) (keep:=[2,3,10]) (b:=bd a26 2) (fun i=>[(2,.box 0 0),(3,.box 1 0),(10,.p (.int .i64 ((i:Nat):Int)))])
  ⟨[[.p (so),.p (fieldsP fi),.p (f3),.p (f4)],[.p (intsP a),.p (.int .i64 (st)),.p (statesP ss),.p (.int .i64 (lp))]],[]⟩ (els ss).length
  (fun i=>∀x,(els ss)[i]? =some x→(els x).length=(els fi).length) 4 (fun _=>True) (fun e=>e.get 4= .p (.bool false))
  (fun i hi hP=>by
   have hb2:bd a26 2=bd a26 2:=rfl
   conv at hb2=>rhs;reduce
   have hb1:bd a26 1=bd a26 1:=rfl
   conv at hb1=>rhs;reduce
   have hb0:bd a26 0=bd a26 0:=rfl
   conv at hb0=>rhs;reduce
   rw[←hb1] at hb0
   have hf:a26=a26:=rfl
   conv at hf=>rhs;reduce
   rw[←hb2] at hf
   rw[←hb1] at hf
   rw[←hb0] at hf
   rw[hb2];clear hf hb0 hb1 hb2
   simp[len_states,len_rels,len_fields,ia_states hi,hi,at_ix hi hP,inc64 (k:=i) (by omega)])
  (fun i hi hP=>by
   have hb2:bd a26 2=bd a26 2:=rfl
   conv at hb2=>rhs;reduce
   have hb1:bd a26 1=bd a26 1:=rfl
   conv at hb1=>rhs;reduce
   have hb0:bd a26 0=bd a26 0:=rfl
   conv at hb0=>rhs;reduce
   rw[←hb1] at hb0
   have hf:a26=a26:=rfl
   conv at hf=>rhs;reduce
   rw[←hb2] at hf
   rw[←hb1] at hf
   rw[←hb0] at hf
   rw[hb2];clear hf hb0 hb1 hb2
   simp[len_states,len_rels,len_fields,ia_states hi,hi,not_ix hi hP])
  (by
   have hb2:bd a26 2=bd a26 2:=rfl
   conv at hb2=>rhs;reduce
   have hb1:bd a26 1=bd a26 1:=rfl
   conv at hb1=>rhs;reduce
   have hb0:bd a26 0=bd a26 0:=rfl
   conv at hb0=>rhs;reduce
   rw[←hb1] at hb0
   have hf:a26=a26:=rfl
   conv at hf=>rhs;reduce
   rw[←hb2] at hf
   rw[←hb1] at hf
   rw[←hb0] at hf
   rw[hb2];clear hf hb0 hb1 hb2
   simp[len_states])
 have hb2:bd a26 2=bd a26 2:=rfl
 conv at hb2=>rhs;reduce
 have hb1:bd a26 1=bd a26 1:=rfl
 conv at hb1=>rhs;reduce
 have hb0:bd a26 0=bd a26 0:=rfl
 conv at hb0=>rhs;reduce
 rw[←hb1] at hb0
 have hf:a26=a26:=rfl
 conv at hf=>rhs;reduce
 rw[←hb2] at hf
 rw[←hb1] at hf
 rw[←hb0] at hf
 cases b0 with
 |false=>
  refine⟨false,callP (aa:=[_,_]) hf rfl rfl rfl ?_,iff_of_false (by simp) fun h=>by have:=d0.2 h.1;cases this⟩
  clear hf hb0 hb1 hb2
  simp[o1,o3,o4,c0]
 |true=>
  have hsc:=d0.1 rfl
  obtain⟨s1,s2,s3,s4,s5,s6⟩:=hsc
  have hat:=atoms_call a st (by omega) fun x hx=>by have:=s5 x hx;omega
  by_cases h1:((els ss).length:Int)=st
  ·by_cases h2:lp<0
   ·refine⟨false,callP (aa:=[_,_]) hf rfl rfl rfl ?_,iff_of_false (by simp) fun h=>by have:=h.2.2.1;omega⟩
    clear hf hb0 hb1 hb2
    simp[o1,o3,o4,c0,len_states,h1,h2]
   ·by_cases h3:st≤lp
    ·refine⟨false,callP (aa:=[_,_]) hf rfl rfl rfl ?_,iff_of_false (by simp) fun h=>by have:=h.2.2.2.1;omega⟩
     clear hf hb0 hb1 hb2
     simp[o1,o3,o4,c0,len_states,h1,h2,h3]
    ·rcases key (fun x hx=>by have:=s5 x hx;omega) (by omega) with⟨e,hx,⟨h4,h5⟩,hq⟩ |⟨e,hx,h4,hq⟩
     ·rcases key2 with⟨e',hx',-,hq'⟩ |⟨e',hx',h4',hq'⟩
      ·rw[all_ix] at hq'
       refine⟨true,callP (aa:=[_,_]) hf rfl rfl rfl ?_,iff_of_true rfl ⟨⟨s1,s2,s3,s4,s5,s6⟩,h1,by omega,by omega,hq,hq'⟩⟩
       clear hf hb0 hb1 hb2
       simp at hx hx'
       simp[o1,o3,o4,c0,len_states,h1,h2,h3,h4,h5,hat,hx,hx']
      ·rw[all_ix] at hq'
       refine⟨false,callP (aa:=[_,_]) hf rfl rfl rfl ?_,iff_of_false (by simp) fun h=>hq' h.2.2.2.2.2⟩
       clear hf hb0 hb1 hb2
       simp at hx hx'
       simp[o1,o3,o4,c0,len_states,h1,h2,h3,h4,h5,hat,hx,hx',h4']
     ·refine⟨false,callP (aa:=[_,_]) hf rfl rfl rfl ?_,iff_of_false (by simp) fun h=>hq h.2.2.2.2.1⟩
      clear hf hb0 hb1 hb2
      simp at hx
      simp[o1,o3,o4,c0,len_states,h1,h2,h3,h4,hat,hx]
  ·refine⟨false,callP (aa:=[_,_]) hf rfl rfl rfl ?_,iff_of_false (by simp) fun h=>h1 h.2.1⟩
   clear hf hb0 hb1 hb2
   simp[o1,o3,o4,c0,len_states,h1]
end Go.Proofs.YtgplgbonlnodeaaGreatDoor
namespace Go.Proofs.YtgplgbonlnodeaaGreatDoor
open Go.Vs
set_option maxRecDepth 100000
def RowOk(ats:List Int)(fi:List Fi)(ss:List (Sl Rl))(x:Sl Rl):Prop:=
 (els x).length=fi.length∧∀i,i<fi.length→∀f r,fi[i]? =some f→(els x)[i]? =some r→CellOk ats ss i f r
theorem moOk_iff{ns:Nat}{fi:List Fi}{a:Sl Int}{st:Int}{ss:List (Sl Rl)}{lp:Int}(hfo:∀f∈fi,FieldOk ns (els f.so)):
    MoOk ns fi a st ss lp↔ScOk ns a st∧(ss.length:Int)=st∧0≤lp∧lp<st∧∀x∈ss,RowOk (els a) fi ss x:=by
 unfold MoOk RowOk FdOk StOk CellOk
 refine and_congr_right fun _=>and_congr_right fun _=>and_congr_right fun _=>and_congr_right fun _=>?_
 constructor
 ·rintro⟨h1,h2⟩ x hx
  refine⟨h2 x hx,fun i hi f r hf hr=>?_⟩
  exact((h1 i hi f hf).2 x hx).2 r hr
 ·intro h
  refine⟨fun i hi f hf=>⟨hfo f (List.mem_of_getElem? hf),fun x hx=>⟨(h x hx).1,fun r hr=>(h x hx).2 i hi f r hf hr⟩⟩,fun x hx=>(h x hx).1⟩
variable {so f3 f4 : PD} {ns : Nat} {fi : Sl Fi} {a : Sl Int} {ss : Sl (Sl Rl)} {st lp : Int}
theorem mvalidP_call(hso:lenD 1 (.p so)=some ns)(o1:so.one=true)(o3:f3.one=true)(o4:f4.one=true)(hns:ns<4611686018427387904)(ha:(els a).length<4611686018427387904)(hss:(els ss).length<4611686018427387904)(hfi:(els fi).length<4611686018427387904)
    (htu:∀x∈els ss,∀r∈els x,(els r.tu).length<1000000000) (hfo:∀f∈els fi,FieldOk ns (els f.so)):
    ∃r:Bool,(∀H,callD (call pg) 66 [.p (.agg [so,fieldsP fi,f3,f4]),.p (.agg [intsP a,.int .i64 st,statesP ss,.int .i64 lp])] H=some (.val (.p (.bool r)),H))∧
     (r=true↔MoOk ns (els fi) a st (els ss) lp):=by
 rw[moOk_iff hfo]
 obtain⟨b0,c0,d0⟩:=uvalid_call hso o1 (pone_fields fi) o3 o4 a st hns ha
 have key1:=loopA (c:=call pg) (G:=pg.G) (keep:=[2,3,5,44,45,46]) (b:=bd a66 0) (fun i=>[(2,.box 0 0),(3,.box 1 0),(5,.p (.int .i64 ((els a).sum))),(44,.p (fieldsP fi)),(45,.p (.int .i64 (((els fi).length:Nat):Int))),(46,.p (.int .i64 ((i:Nat):Int)))])
  ⟨[[.p (so),.p (fieldsP fi),.p (f3),.p (f4)],[.p (intsP a),.p (.int .i64 (st)),.p (statesP ss),.p (.int .i64 (lp))]],[]⟩ (els fi).length
  (fun _=>True) 0 (fun e=>e.get 2= .box 0 0∧e.get 3= .box 1 0∧e.get 5= .p (.int .i64 ((els a).sum))) (fun _=>True)
  (fun i hi _=>by
   have hm:=hfo _ (List.getElem_mem hi)
   obtain⟨b1,c1,d1⟩:=columnsP_call (nm:=.str (els fi)[i].nm) (va:=.bool (els fi)[i].va) hso o1 (pone_fields fi) o3 o4 rfl rfl (els fi)[i].so (by have:=hm.2.2;omega)
   have:=d1.2 hm
   subst this
   have hia:=ia_fields hi
   generalize (els fi)[i]=f at *
   have hb2:bd a66 2=bd a66 2:=rfl
   conv at hb2=>rhs;reduce
   have hb1:bd a66 1=bd a66 1:=rfl
   conv at hb1=>rhs;reduce
   rw[←hb2] at hb1
   have hb0:bd a66 0=bd a66 0:=rfl
   conv at hb0=>rhs;reduce
   have hf:a66=a66:=rfl
   conv at hf=>rhs;reduce
   rw[←hb2] at hf
   rw[←hb1] at hf
   rw[←hb0] at hf
   rw[hb0];clear hf hb0 hb1 hb2
   simp[hia,hi,c1,inc64 (k:=i) (by omega)])
  (fun i hi h=>absurd trivial h)
  (by
   have hb2:bd a66 2=bd a66 2:=rfl
   conv at hb2=>rhs;reduce
   have hb1:bd a66 1=bd a66 1:=rfl
   conv at hb1=>rhs;reduce
   rw[←hb2] at hb1
   have hb0:bd a66 0=bd a66 0:=rfl
   conv at hb0=>rhs;reduce
   have hf:a66=a66:=rfl
   conv at hf=>rhs;reduce
   rw[←hb2] at hf
   rw[←hb1] at hf
   rw[←hb0] at hf
   rw[hb0];clear hf hb0 hb1 hb2
   simp[])
 have key2:=fun(hp:∀x∈els a,1≤x∧x≤5) (hal:(els a).length=ns) (hn:ns≤4) (hsum:(els a).sum≤12)=>loopB (c:=call pg) (G:=pg.G) (keep:=[2,3,5,56,57,58]) (b:=bd a66 1) (fun s=>[(2,.box 0 0),(3,.box 1 0),(5,.p (.int .i64 ((els a).sum))),(56,.p (statesP ss)),(57,.p (.int .i64 (((els ss).length:Nat):Int))),(58,.p (.int .i64 ((s:Nat):Int)))])
  ⟨[[.p (so),.p (fieldsP fi),.p (f3),.p (f4)],[.p (intsP a),.p (.int .i64 (st)),.p (statesP ss),.p (.int .i64 (lp))]],[]⟩ (els ss).length
  (fun s=>∀x,(els ss)[s]? =some x→RowOk (els a) (els fi) (els ss) x) 2 (fun _=>True) (fun e=>e.get 4= .p (.bool false))
  (fun s hs hall hP=>by
   have h00:0<(els ss).length:=by omega
   obtain⟨g1,g2⟩:=at_ix hs hP
   have g0:(els (els ss)[0]).length=(els fi).length:=by
    rcases Nat.eq_zero_or_pos s with rfl |h
    ·exact g1
    ·exact(hall 0 h _ (List.getElem?_eq_getElem h00)).1
   have hcl:=cell_loop (st:=st) (lp:=lp) o1 o3 o4 (by omega) hp hsum hfi hss htu (fun f hf=>by rw[hal];exact hfo f hf) s hs g1 h00 g0
   rcases hcl with⟨e,hx,⟨q2,q3,q5,q56,q57,q58⟩,-⟩ |⟨e,hx,-,hn⟩
   ·have hia:=ia_states hs
    generalize (els ss)[s]=x at *
    clear hall hP
    have hb2:bd a66 2=bd a66 2:=rfl
    conv at hb2=>rhs;reduce
    have hb1:bd a66 1=bd a66 1:=rfl
    conv at hb1=>rhs;reduce
    rw[←hb2] at hb1
    have hb0:bd a66 0=bd a66 0:=rfl
    conv at hb0=>rhs;reduce
    have hf:a66=a66:=rfl
    conv at hf=>rhs;reduce
    rw[←hb2] at hf
    rw[←hb1] at hf
    rw[←hb0] at hf
    rw[hb1];clear hf hb0 hb1 hb2
    simp[len_rels,len_fields,hia,hs,g1,hx,q2,q3,q5,q56,q57,q58,inc64 (k:=s) (by omega)]
   ·exact absurd g2 hn)
  (fun s hs hall hP=>by
   have h00:0<(els ss).length:=by omega
   have hP:=not_ix hs hP
   have hia:=ia_states hs
   by_cases g1:(els (els ss)[s]).length=(els fi).length
   ·have g0:(els (els ss)[0]).length=(els fi).length:=by
     rcases Nat.eq_zero_or_pos s with rfl |h
     ·exact g1
     ·exact(hall 0 h _ (List.getElem?_eq_getElem h00)).1
    have hcl:=cell_loop (st:=st) (lp:=lp) o1 o3 o4 (by omega) hp hsum hfi hss htu (fun f hf=>by rw[hal];exact hfo f hf) s hs g1 h00 g0
    rcases hcl with⟨e,hx,-,hn⟩ |⟨e,hx,q4,-⟩
    ·exact absurd ⟨g1,hn⟩ hP
    ·generalize (els ss)[s]=x at *
     clear hall hP
     have hb2:bd a66 2=bd a66 2:=rfl
     conv at hb2=>rhs;reduce
     have hb1:bd a66 1=bd a66 1:=rfl
     conv at hb1=>rhs;reduce
     rw[←hb2] at hb1
     have hb0:bd a66 0=bd a66 0:=rfl
     conv at hb0=>rhs;reduce
     have hf:a66=a66:=rfl
     conv at hf=>rhs;reduce
     rw[←hb2] at hf
     rw[←hb1] at hf
     rw[←hb0] at hf
     rw[hb1];clear hf hb0 hb1 hb2
     simp[len_rels,len_fields,hia,hs,g1,hx,q4]
   ·have g1':¬((els (els ss)[s]).length:Int)=((els fi).length:Int):=by omega
    generalize (els ss)[s]=x at *
    clear hall hP
    have hb2:bd a66 2=bd a66 2:=rfl
    conv at hb2=>rhs;reduce
    have hb1:bd a66 1=bd a66 1:=rfl
    conv at hb1=>rhs;reduce
    rw[←hb2] at hb1
    have hb0:bd a66 0=bd a66 0:=rfl
    conv at hb0=>rhs;reduce
    have hf:a66=a66:=rfl
    conv at hf=>rhs;reduce
    rw[←hb2] at hf
    rw[←hb1] at hf
    rw[←hb0] at hf
    rw[hb1];clear hf hb0 hb1 hb2
    simp[len_rels,len_fields,hia,hs,g1'])
  (by
   have hb2:bd a66 2=bd a66 2:=rfl
   conv at hb2=>rhs;reduce
   have hb1:bd a66 1=bd a66 1:=rfl
   conv at hb1=>rhs;reduce
   rw[←hb2] at hb1
   have hb0:bd a66 0=bd a66 0:=rfl
   conv at hb0=>rhs;reduce
   have hf:a66=a66:=rfl
   conv at hf=>rhs;reduce
   rw[←hb2] at hf
   rw[←hb1] at hf
   rw[←hb0] at hf
   rw[hb1];clear hf hb0 hb1 hb2
   simp[])
 have hb2:bd a66 2=bd a66 2:=rfl
 conv at hb2=>rhs;reduce
 have hb1:bd a66 1=bd a66 1:=rfl
 conv at hb1=>rhs;reduce
 rw[←hb2] at hb1
 have hb0:bd a66 0=bd a66 0:=rfl
 conv at hb0=>rhs;reduce
 have hf:a66=a66:=rfl
 conv at hf=>rhs;reduce
 rw[←hb2] at hf
 rw[←hb1] at hf
 rw[←hb0] at hf
 cases b0 with
 |false=>
  refine⟨false,callP (aa:=[_,_]) hf rfl rfl rfl ?_,iff_of_false (by simp) fun h=>by have:=d0.2 h.1;cases this⟩
  clear hf hb0 hb1 hb2
  simp[o1,o3,o4,c0]
 |true=>
  have hsc:=d0.1 rfl
  obtain⟨s1,s2,s3,s4,s5,s6⟩:=hsc
  have hat:=atomsP_call a st (by omega) fun x hx=>by have:=s5 x hx;omega
  by_cases h1:((els ss).length:Int)=st
  ·by_cases h2:lp<0
   ·refine⟨false,callP (aa:=[_,_]) hf rfl rfl rfl ?_,iff_of_false (by simp) fun h=>by have:=h.2.2.1;omega⟩
    clear hf hb0 hb1 hb2
    simp[o1,o3,o4,c0,len_states,h1,h2]
   ·by_cases h3:st≤lp
    ·refine⟨false,callP (aa:=[_,_]) hf rfl rfl rfl ?_,iff_of_false (by simp) fun h=>by have:=h.2.2.2.1;omega⟩
     clear hf hb0 hb1 hb2
     simp[o1,o3,o4,c0,len_states,h1,h2,h3]
    ·rcases key1 with⟨e,hx,⟨q2,q3,q5⟩,-⟩ |⟨e,hx,-,hq⟩
     ·rcases key2 s5 s1 s2 s6 with⟨e',hx',-,hq'⟩ |⟨e',hx',q4',hq'⟩
      ·rw[all_ix] at hq'
       refine⟨true,callP (aa:=[_,_]) hf rfl rfl rfl ?_,iff_of_true rfl ⟨⟨s1,s2,s3,s4,s5,s6⟩,h1,by omega,by omega,hq'⟩⟩
       clear hf hb0 hb1 hb2
       simp[h1] at hx hx'
       simp[o1,o3,o4,c0,len_states,len_fields,h1,h2,h3,q2,q3,q5,hat,hx,hx']
      ·rw[all_ix] at hq'
       refine⟨false,callP (aa:=[_,_]) hf rfl rfl rfl ?_,iff_of_false (by simp) fun h=>hq' h.2.2.2.2⟩
       clear hf hb0 hb1 hb2
       simp[h1] at hx hx'
       simp[o1,o3,o4,c0,len_states,len_fields,h1,h2,h3,q2,q3,q5,hat,hx,hx',q4']
     ·exact absurd (fun _ _=>trivial) hq
  ·refine⟨false,callP (aa:=[_,_]) hf rfl rfl rfl ?_,iff_of_false (by simp) fun h=>h1 h.2.1⟩
   clear hf hb0 hb1 hb2
   simp[o1,o3,o4,c0,len_states,h1]
end Go.Proofs.YtgplgbonlnodeaaGreatDoor
namespace Go.Proofs.YtgplgbonlnodeaaGreatDoor
open Go.Vs
set_option maxRecDepth 100000
theorem withinR_call(lo up tu:Sl Int)(la ua ar:Int)(h1:(els lo).length<1000000000)(h2:(els up).length<1000000000)(h3:(els tu).length<1000000000):
    ∃r:Bool,(∀H,callD (call pg) 120 [.p (.agg [.int .i64 la,intsP lo,.int .i64 ua,intsP up]),.p (.agg [.int .i64 ar,intsP tu])] H=some (.val (.p (.bool r)),H))∧(r=true↔InB lo up la ua ar tu):=by
 obtain⟨r1,c1,d1⟩:=inP_call lo tu la ar h1 (by omega)
 obtain⟨r2,c2,d2⟩:=inP_call tu up ar ua h3 (by omega)
 have hf:a120=a120:=rfl
 conv at hf=>rhs;reduce
 unfold InB
 rw[←d1,←d2]
 by_cases g1:la=ar
 ·subst g1
  by_cases g2:ua=la
  ·subst g2
   refine⟨r1&&r2,callP (aa:=[_,_]) hf rfl rfl rfl ?_,by simp⟩
   clear hf
   cases r1 with
   |false=>simp[c1]
   |true=>simp[c1,c2]
  ·refine⟨false,callP (aa:=[_,_]) hf rfl rfl rfl ?_,iff_of_false (by simp) fun h=>g2 h.2.1⟩
   clear hf
   simp[g2]
 ·refine⟨false,callP (aa:=[_,_]) hf rfl rfl rfl ?_,iff_of_false (by simp) fun h=>g1 h.1⟩
  clear hf
  simp[g1]
theorem pairsR_call(bs:Sl Bn)(x:Sl Rl)(hb:(els bs).length<4611686018427387904)(h1:∀b∈els bs,(els b.lo.tu).length<1000000000∧(els b.up.tu).length<1000000000)(h3:∀r∈els x,(els r.tu).length<1000000000):
    ∃r:Bool,(∀H,callD (call pg) 119 [.p (boundsP bs),.p (relsP x),.fn 120 [] []] H=some (.val (.p (.bool r)),H))∧(r=true↔StIn (els bs) x):=by
 by_cases hl:(els bs).length=(els x).length
 ·have key:=loopA (c:=call pg) (G:=pg.G) (keep:=[0,1,2,14,15]) (b:=bd a119 0) (fun i=>[(0,.p (boundsP bs)),(1,.p (relsP x)),(2,.fn 120 [] []),(14,.p (.int .i64 (((els bs).length:Nat):Int))),(15,.p (.int .i64 ((i:Nat):Int)))]) ⟨[],[]⟩ (els bs).length
   (fun i=>∀b r,(els bs)[i]? =some b→(els x)[i]? =some r→InB b.lo.tu b.up.tu b.lo.ar b.up.ar r.ar r.tu) 0 (fun _=>True) (fun e=>e.get 6= .p (.bool false))
   (fun i hi hP=>by
    have hi2:i<(els x).length:=by omega
    have hP:=hP _ _ (List.getElem?_eq_getElem hi) (List.getElem?_eq_getElem hi2)
    have hq:=h1 _ (List.getElem_mem hi)
    obtain⟨r,c1,d1⟩:=withinR_call (els bs)[i].lo.tu (els bs)[i].up.tu (els x)[i].tu (els bs)[i].lo.ar (els bs)[i].up.ar (els x)[i].ar hq.1 hq.2 (h3 _ (List.getElem_mem hi2))
    have:=d1.2 hP
    subst this
    have hia:=ia_bounds hi
    have hib:=ia_rels hi2
    clear hP d1
    generalize (els bs)[i]=b at *
    generalize (els x)[i]=r at *
    have hb0:bd a119 0=bd a119 0:=rfl
    conv at hb0=>rhs;reduce
    have hf:a119=a119:=rfl
    conv at hf=>rhs;reduce
    rw[←hb0] at hf
    rw[hb0];clear hf hb0
    simp[hia,hib,hi,c1,inc64 (k:=i) (by omega)])
   (fun i hi hP=>by
    have hi2:i<(els x).length:=by omega
    have hP:¬InB (els bs)[i].lo.tu (els bs)[i].up.tu (els bs)[i].lo.ar (els bs)[i].up.ar (els x)[i].ar (els x)[i].tu:=fun h=>hP fun b r hb hr=>by
     rw[List.getElem?_eq_getElem hi] at hb;rw[List.getElem?_eq_getElem hi2] at hr;cases hb;cases hr;exact h
    have hq:=h1 _ (List.getElem_mem hi)
    obtain⟨r,c1,d1⟩:=withinR_call (els bs)[i].lo.tu (els bs)[i].up.tu (els x)[i].tu (els bs)[i].lo.ar (els bs)[i].up.ar (els x)[i].ar hq.1 hq.2 (h3 _ (List.getElem_mem hi2))
    have :r=false:=by
     rw[Bool.eq_false_iff];exact fun h=>hP (d1.1 h)
    subst this
    have hia:=ia_bounds hi
    have hib:=ia_rels hi2
    clear hP d1
    generalize (els bs)[i]=b at *
    generalize (els x)[i]=r at *
    have hb0:bd a119 0=bd a119 0:=rfl
    conv at hb0=>rhs;reduce
    have hf:a119=a119:=rfl
    conv at hf=>rhs;reduce
    rw[←hb0] at hf
    rw[hb0];clear hf hb0
    simp[hia,hib,hi,c1])
   (by
    have hb0:bd a119 0=bd a119 0:=rfl
    conv at hb0=>rhs;reduce
    have hf:a119=a119:=rfl
    conv at hf=>rhs;reduce
    rw[←hb0] at hf
    rw[hb0];clear hf hb0
    simp)
  have hb0:bd a119 0=bd a119 0:=rfl
  conv at hb0=>rhs;reduce
  have hf:a119=a119:=rfl
  conv at hf=>rhs;reduce
  rw[←hb0] at hf
  rcases key with⟨e,hx,-,hp⟩ |⟨e,hx,q6,hp⟩
  ·refine⟨true,callQ hf rfl rfl rfl rfl rfl rfl ?_,iff_of_true rfl ⟨hl.symm,hp⟩⟩
   clear hf hb0
   simp[hl] at hx
   simp[len_bounds,len_rels,hl,hx]
  ·refine⟨false,callQ hf rfl rfl rfl rfl rfl rfl ?_,iff_of_false (by simp) fun h=>hp h.2⟩
   clear hf hb0
   simp[hl] at hx
   simp[len_bounds,len_rels,hl,hx,q6]
 ·skip
  have hb0:bd a119 0=bd a119 0:=rfl
  conv at hb0=>rhs;reduce
  have hf:a119=a119:=rfl
  conv at hf=>rhs;reduce
  rw[←hb0] at hf
  refine⟨false,callQ hf rfl rfl rfl rfl rfl rfl ?_,iff_of_false (by simp) fun h=>hl h.1.symm⟩
  clear hf hb0
  have hl':¬((els bs).length:Int)=((els x).length:Int):=by omega
  simp[len_bounds,len_rels,hl']
theorem outsideR_call(bs:Sl Bn)(x:Sl Rl)(hb:(els bs).length<4611686018427387904)(h1:∀b∈els bs,(els b.lo.tu).length<1000000000∧(els b.up.tu).length<1000000000)(h3:∀r∈els x,(els r.tu).length<1000000000):
    ∃r:Bool,callD (call pg) 118 [.p (relsP x),.box 0 0] ⟨[[.p (boundsP bs)]],[]⟩=some (.val (.p (.bool (!r))),⟨[[.p (boundsP bs)]],[]⟩)∧(r=true↔StIn (els bs) x):=by
 obtain⟨r,c1,d1⟩:=pairsR_call bs x hb h1 h3
 refine⟨r,?_,d1⟩
 have h:call pg 118 [.p (relsP x),.box 0 0] ⟨[[.p (boundsP bs)]],[]⟩=some (.val (.p (.bool (!r))),⟨[[.p (boundsP bs)]],[]⟩):=by
  have hf:a118=a118:=rfl
  conv at hf=>rhs;reduce
  refine call_body rfl hf rfl rfl ?_
  clear hf
  simp[c1]
 simp[callD,reach,boxRefs,boxToks,ins,Vs.nodupB,idx,D.refsL,D.toksL,D.refs,D.toks,D.renL,D.ren,mapO,h,back,firstN,Res.ren,putAll]
theorem containsP_call(bs:Sl Bn)(a:Sl Int)(ss:Sl (Sl Rl))(st lp:Int)(hb:(els bs).length<4611686018427387904)(hss:(els ss).length<4611686018427387904)(h1:∀b∈els bs,(els b.lo.tu).length<1000000000∧(els b.up.tu).length<1000000000)(h3:∀x∈els ss,∀r∈els x,(els r.tu).length<1000000000):
    ∃r:Bool,(∀H,callD (call pg) 67 [.p (boundsP bs),.p (.agg [intsP a,.int .i64 st,statesP ss,.int .i64 lp])] H=some (.val (.p (.bool r)),H))∧(r=true↔∀x∈els ss,StIn (els bs) x):=by
 have key:=loopA (c:=call pg) (G:=pg.G) (keep:=[0,1,7,8]) (b:=bd a179 0) (fun i=>[(0,.p (statesP ss)),(1,.fn 118 [] [.box 0 0]),(7,.p (.int .i64 (((els ss).length:Nat):Int))),(8,.p (.int .i64 ((i:Nat):Int)))]) ⟨[[.p (boundsP bs)]],[]⟩ (els ss).length
  (fun i=>∀x,(els ss)[i]? =some x→StIn (els bs) x) 0 (fun _=>True) (fun e=>∃j:Nat,e.get 4= .p (.int .i64 ((j:Nat):Int)))
  (fun i hi hP=>by
   obtain⟨r,c1,d1⟩:=outsideR_call bs (els ss)[i] hb h1 (h3 _ (List.getElem_mem hi))
   have:=d1.2 (at_ix hi hP)
   subst this
   have hia:=ia_states hi
   generalize (els ss)[i]=x at *
   have hb0:bd a179 0=bd a179 0:=rfl
   conv at hb0=>rhs;reduce
   have hf:a179=a179:=rfl
   conv at hf=>rhs;reduce
   rw[←hb0] at hf
   rw[hb0];clear hf hb0
   simp at c1
   simp[hia,hi,c1,inc64 (k:=i) (by omega)])
  (fun i hi hP=>by
   obtain⟨r,c1,d1⟩:=outsideR_call bs (els ss)[i] hb h1 (h3 _ (List.getElem_mem hi))
   have :r=false:=by
    rw[Bool.eq_false_iff];exact fun h=>not_ix hi hP (d1.1 h)
   subst this
   have hia:=ia_states hi
   generalize (els ss)[i]=x at *
   refine post_mono (Q:=fun o e H=>o= .ret∧H=⟨[[.p (boundsP bs)]],[]⟩∧e.get 4= .p (.int .i64 ((i:Nat):Int))) ?_ fun o e H h=>⟨h.1,h.2.1,i,h.2.2⟩
   have hb0:bd a179 0=bd a179 0:=rfl
   conv at hb0=>rhs;reduce
   have hf:a179=a179:=rfl
   conv at hf=>rhs;reduce
   rw[←hb0] at hf
   rw[hb0];clear hf hb0
   simp at c1
   simp[hia,hi,c1])
  (by
   have hb0:bd a179 0=bd a179 0:=rfl
   conv at hb0=>rhs;reduce
   have hf:a179=a179:=rfl
   conv at hf=>rhs;reduce
   rw[←hb0] at hf
   rw[hb0];clear hf hb0
   simp)
 have c1:∃k:Int,call pg 179 [.p (statesP ss),.fn 118 [] [.box 0 0]] ⟨[[.p (boundsP bs)]],[]⟩=some (.val (.p (.int .i64 (k))),⟨[[.p (boundsP bs)]],[]⟩)∧(k<0↔∀x∈els ss,StIn (els bs) x):=by
  have hb0:bd a179 0=bd a179 0:=rfl
  conv at hb0=>rhs;reduce
  have hf:a179=a179:=rfl
  conv at hf=>rhs;reduce
  rw[←hb0] at hf
  rcases key with⟨e,hx,-,hp⟩ |⟨e,hx,⟨j,h4⟩,hp⟩
  ·rw[all_ix] at hp
   refine⟨-1,callB (cs:=[boundsP bs]) hf rfl rfl rfl ?_,iff_of_true (by omega) hp⟩
   clear hf hb0
   simp at hx
   simp[len_states,hx]
  ·rw[all_ix] at hp
   refine⟨(j:Int),callB (cs:=[boundsP bs]) hf rfl rfl rfl ?_,iff_of_false (by omega) hp⟩
   clear hf hb0
   simp at hx
   simp[len_states,hx,h4]
 obtain⟨k,c1,d1⟩:=c1
 have c2:callD (call pg) 179 [.p (statesP ss),.fn 118 [] [.box 0 0]] ⟨[[.p (boundsP bs)]],[]⟩=some (.val (.p (.int .i64 (k))),⟨[[.p (boundsP bs)]],[]⟩):=by
  simp[callD,reach,boxRefs,boxToks,ins,Vs.nodupB,idx,D.refsL,D.toksL,D.refs,D.toks,D.renL,D.ren,mapO,c1,back,firstN,Res.ren,putAll]
 have c3:call pg 121 [.p (statesP ss),.fn 118 [] [.box 0 0]] ⟨[[.p (boundsP bs)]],[]⟩=some (.val (.p (.bool (decide (0≤k)))),⟨[[.p (boundsP bs)]],[]⟩):=by
  have hf:a121=a121:=rfl
  conv at hf=>rhs;reduce
  refine callB (cs:=[boundsP bs]) hf rfl rfl rfl ?_
  clear hf
  simp[c2]
 have c4:∀x,callD (call pg) 121 [.p (statesP ss),.fn 118 [] [.box 0 0]] ⟨[[.p (boundsP bs)],x],[]⟩=some (.val (.p (.bool (decide (0≤k)))),⟨[[.p (boundsP bs)],x],[]⟩):=fun x=>by
  simp[callD,reach,boxRefs,boxToks,ins,Vs.nodupB,idx,D.refsL,D.toksL,D.refs,D.toks,D.renL,D.ren,mapO,c3,back,firstN,Res.ren,putAll]
 refine⟨decide (k<0),?_,by rw[decide_eq_true_eq];exact d1⟩
 have hf:a67=a67:=rfl
 conv at hf=>rhs;reduce
 refine callP (aa:=[_,_]) hf rfl rfl rfl ?_
 clear hf
 simp[c4]
 by_cases hk:k<0
 ·have :¬0≤k:=by omega
  simp[hk,this]
 ·have :0≤k:=by omega
  simp[hk,this]
end Go.Proofs.YtgplgbonlnodeaaGreatDoor
namespace Go.Proofs.YtgplgbonlnodeaaGreatDoor
open Go.Vs
set_option maxRecDepth 100000
attribute [local irreducible] gen237 gen226 gen68 tupL
variable {so f3 f4 : PD} {fi : Sl Fi} {a ma : Sl Int} {bs : Sl Bn} {st mst lp : Int} {ss : Sl (Sl Rl)} {ns : Nat}
theorem encode_yes(o1:so.one=true)(o3:f3.one=true)(o4:f4.one=true)(hst:1≤st∧st≤4)
    (hbl:(els bs).length=(els fi).length) (hl:(els bs).length≤1000) (hu:∀b∈els bs,(els b.up.tu).length≤900∧(els b.lo.tu).length≤900) (hs:∀b∈els bs,Srt (els b.lo.tu))
    (htu:∀x∈els ss,∀r∈els x,(els r.tu).length<1000000000) (hsr:∀x∈els ss,∀r∈els x,Srt (els r.tu)) (hxl:∀x∈els ss,(els x).length=(els fi).length) (hsl:((els ss).length:Int)=st) (hlp:0≤lp∧lp<st)
    (c65:∀H,callD (call pg) 65 [.p (intsP ma),.p (intsP a)] H=some (.val (.p (.bool true)),H))
    (c66:∀H,callD (call pg) 66 [.p (.agg [so,fieldsP fi,f3,f4]),.p (.agg [intsP ma,.int .i64 st,statesP ss,.int .i64 lp])] H=some (.val (.p (.bool true)),H))
    (c67:∀H,callD (call pg) 67 [.p (boundsP bs),.p (.agg [intsP ma,.int .i64 st,statesP ss,.int .i64 lp])] H=some (.val (.p (.bool true)),H)):
    ∀H,callD (call pg) 18 [.p (.agg [so,fieldsP fi,f3,f4]),.p (.agg [intsP a,.int .i64 st]),.p (boundsP bs),.p (.agg [intsP ma,.int .i64 st,statesP ss,.int .i64 lp])] H=
     some (.val (.tup [.p (boolsP (bitS (encB (els fi) (els bs) st lp (els ss)))),.p (.bool true)]),H):=by
 have c55:=layout_call (fi:=fi) (a:=a) (st:=st) o1 o3 o4 hl hu hs
 have c56:=inputs_call (f3:=f3) (f4:=f4) (a:=a) o1 hst.2 hbl hl fun b hb=>(hu b hb).1
 have hg:=gen68_eq (so:=so) (f3:=f3) (f4:=f4) (a:=a) hst.2 hbl hl fun b hb=>(hu b hb).1
 have hv:∀(j:Nat) e,(entL (els fi) (els bs) st)[j]? =some e→e.1=selN st+j+1:=entsA_var ((els fi).map Fi.va) (freeA 0 (els bs)) st.toNat 0 (selN st)
 have hmem:∀e∈entL (els fi) (els bs) st,e.2.1<st.toNat∧∃k:Nat,e.2.2.1=(k:Int)∧k<(els fi).length:=fun e he=>by
  obtain⟨_,h2,h3⟩:=entsA_mem _ _ _ _ _ e he
  obtain⟨k,h4,_,h5⟩:=freeA_ix _ _ _ h3
  exact⟨by omega,k,h4,by omega⟩
 have hLl:(entL (els fi) (els bs) st).length≤4*(1000*900):=by
  have hFl:(freeA 0 (els bs)).length≤1000*900:=by
   have h1:=freeA_len (els bs) 0 900 fun b hb=>(hu b hb).1
   have h5:(els bs).length*900≤1000*900:=Nat.mul_le_mul_right 900 hl
   omega
  have h1:=entsA_len ((els fi).map Fi.va) (freeA 0 (els bs)) st.toNat 0 (selN st)
  have h2:st.toNat*(freeA 0 (els bs)).length≤4*(1000*900):=Nat.mul_le_mul (by omega) hFl
  exact Nat.le_trans h1 h2
 have hz:=rndB_zero (entL (els fi) (els bs) st) (bitE (els ss)) st lp hlp
 have hpl:=preB_len st lp
 have hN0:1<st→st.toNat=selN st:=fun h=>by unfold selN;rw[if_pos h]
 have hN4:selN st≤4:=by unfold selN;split<;>omega
 have hfin:=fun(H:Hp) (h:H.bx[3]? =some (bitC (encB (els fi) (els bs) st lp (els ss))))=>fin_bits h true
 have hel:(encB (els fi) (els bs) st lp (els ss)).length=selN st+(entL (els fi) (els bs) st).length:=by
  unfold encB;rw[List.length_append,List.length_map,hpl]
 rw[hel] at hfin
 have hend:rndB (preB st lp) (entL (els fi) (els bs) st) (bitE (els ss)) (entL (els fi) (els bs) st).length=encB (els fi) (els bs) st lp (els ss):=rndB_end _ _ _
 have hbit:∀(s k:Nat) (hs:s<(els ss).length) (hk:k<(els (els ss)[s]).length) (v:Nat) (t:Int),decide (t∈els ((els (els ss)[s])[k]).tu)=bitE (els ss) (v,s,(k:Int),t):=fun s k hs hk v t=>by
  simp only[bitE,List.getElem?_eq_getElem hs,relAt,Int.toNat_natCast,List.getElem?_eq_getElem hk]
 unfold inN at c56
 generalize layC so f3 f4 fi a st bs (kepS (freeA 0 (els bs)))=C at *
 generalize encB (els fi) (els bs) st lp (els ss)=E at *
 generalize entL (els fi) (els bs) st=L at *
 have hmk:=fun H=>mk_bits (n:=selN st+L.length) (by omega) H
 have hrl:=fun j (h:j≤L.length)=>rndB_len (preB st lp) L (bitE (els ss)) h
 have hrs:=fun j e (h:L[j]? =some e)=>rndB_set (preB st lp) L (bitE (els ss)) h
 rw[hpl] at hrl hrs
 generalize rndB (preB st lp) L (bitE (els ss))=B at *
 generalize hN:selN st=v0 at *
 have hne:∀m:Nat,¬(3+2*m=2):=fun m=>by omega
 have hi0:1<st→IntKind.i64.wrap (IntKind.i64.wrap (st-lp)-1)=(((st-lp-1).toNat:Nat):Int)∧(st-lp-1).toNat<v0+L.length:=fun h=>by
  have:=hN0 h
  rw[wrap64 (n:=st-lp) (by omega) (by omega),wrap64 (by omega) (by omega)]
  exact⟨by omega,by omega⟩
 generalize (st-lp-1).toNat=i0 at *
 have hnb:v0+L.length≤4000000:=by omega
 have hjn:∀j,j<L.length→v0+j<v0+L.length:=fun j h=>by omega
 generalize v0+L.length=n at *
 have hZl:(List.replicate n false).length=n:=List.length_replicate
 generalize List.replicate n false=Z at *
 have hf:a18=a18:=rfl
 conv at hf=>rhs;reduce
 refine callP (aa:=[_,_,_,_]) hf rfl rfl rfl ?_
 clear hf
 by_cases h1:1<st
 ·obtain⟨w1,w2⟩:=hi0 h1
  have hba:=bs_at (b:=3) (c:=some n) w2
  have hcut:=bitC_cut (l:=Z) (i:=i0) true (by omega)
  rw[if_pos h1] at hz
  rw[←hz] at hcut
  have w3:i0+1≤Z.length:=by omega
  simp[-isMapC,im1,im2,im3,bitC_len,bitC_mapC,c65,c66,c67,c55,c56,o1,o3,o4,hmk,h1,hg,w1,hba,w3,hcut]
  refine post_range (fun j H=>∃rest:List (List D),H=⟨[.p (so),.p (fieldsP fi),.p (f3),.p (f4)]::[.p (intsP a),.p (.int .i64 (st))]::[.p (intsP ma),.p (.int .i64 (st)),.p (statesP ss),.p (.int .i64 (lp))]::bitC (B j)::[.msl 3 0 n (some n) 1]::rest,[]⟩∧∀cs∈rest,∃ys:List PD,cs=ys.map D.p) ⟨[],rfl,by simp⟩ ?_ ?_
  ·rintro j x H hxj ⟨rest,rfl,hrest⟩
   rw[List.getElem?_map] at hxj
   cases ht:L[j]? with
   |none=>rw[ht] at hxj;cases hxj
   |some e=>
    rw[ht] at hxj
    cases hxj
    refine⟨rfl,?_⟩
    have hj:=(List.getElem?_eq_some_iff.1 ht).1
    have he:=hv j e ht
    obtain⟨hs1,k,hk1,hk2⟩:=hmem e (List.mem_of_getElem? ht)
    have hbs:=hrs j e ht
    have hbl2:=hrl j (by omega)
    obtain⟨e1,s,e3,t⟩:=e
    dsimp only at he hs1 hk1 hk2
    subst he hk1
    have hs2:s<(els ss).length:=by omega
    have hk3:k<(els (els ss)[s]).length:=by rw[hxl _ (List.getElem_mem hs2)];exact hk2
    have hm1:=List.getElem_mem hs2
    have hm2:=List.getElem_mem hk3
    obtain⟨kk,-,c69⟩:=bsearch_call (els (els ss)[s])[k].tu t (by have:=htu _ hm1 _ hm2;omega) (hsr _ hm1 _ hm2)
    have hbb:=hbit s k hs2 hk3 (v0+j+1) t
    rw[hbb] at c69
    have hj2:=hjn j hj
    have hia:=ia_states hs2
    have hib:=ia_rels hk3
    generalize bitE (els ss) (v0+j+1,s,(k:Int),t)=bb at *
    generalize (els (els ss)[s])[k]=r at *
    generalize (els ss)[s]=xs at *
    generalize v0+j=i1 at *
    have hw:IntKind.i64.wrap (i1:Int)=(i1:Int):=wrap64 (by omega) (by omega)
    have hba:=bs_at (b:=3) (c:=some n) hj2
    have hcut:=bitC_cut (l:=B j) (i:=i1) bb (by omega)
    have w3:i1+1≤(B j).length:=by omega
    rw[hbs] at hcut
    simp[-isMapC,-locD,im2,im3,bitC_len,bitC_mapC,entD,setPs,capIds,D.refsL,D.refs,ins,reach_nil,keepB_nil,hw,hba,hia,hib,c69,w3,hcut,hne]
    refine post_locD (by simp) rfl ?_ fun e=>⟨rfl,rest++[[.p (.int .i64 ((i1:Int)+1)),.p (.int .i64 ((s:Nat):Int)),.p (.int .i64 ((k:Nat):Int)),.p (.int .i64 (t))]],rfl,fun cs hcs=>?_⟩
    ·intro cs hcs
     rcases List.mem_cons.1 hcs with rfl |hcs
     ·exact renL_p _ _ [_,_,_,_]
     rcases List.mem_cons.1 hcs with rfl |hcs
     ·exact renL_p _ _ [_,_]
     rcases List.mem_cons.1 hcs with rfl |hcs
     ·exact renL_p _ _ [_,_,_,_]
     rcases List.mem_cons.1 hcs with rfl |hcs
     ·exact bitC_ren _ _ _
     rcases List.mem_cons.1 hcs with rfl |hcs
     ·simp[D.renL,D.ren,below]
     rcases List.mem_append.1 hcs with hcs |hcs
     ·obtain⟨ys,rfl⟩:=hrest cs hcs
      exact renL_p _ _ ys
     ·rw[List.mem_singleton.1 hcs]
      exact renL_p _ _ [_,_,_,_]
    ·rcases List.mem_append.1 hcs with hcs |hcs
     ·exact hrest cs hcs
     ·exact⟨[_,_,_,_],List.mem_singleton.1 hcs⟩
  ·rintro H ⟨rest,rfl,hrest⟩
   rw[List.length_map]
   have hfin:=hfin ⟨[.p (so),.p (fieldsP fi),.p (f3),.p (f4)]::[.p (intsP a),.p (.int .i64 (st))]::[.p (intsP ma),.p (.int .i64 (st)),.p (statesP ss),.p (.int .i64 (lp))]::bitC E::[.msl 3 0 n (some n) 1]::rest,[]⟩ rfl
   simp[-isMapC,im3,hend,hfin,mapO]
 ·rw[if_neg h1] at hz
  rw[←hz] at hmk
  simp[-isMapC,im1,im2,c65,c66,c67,c55,c56,o1,o3,o4,hmk,h1,hg]
  refine post_range (fun j H=>∃rest:List (List D),H=⟨[.p (so),.p (fieldsP fi),.p (f3),.p (f4)]::[.p (intsP a),.p (.int .i64 (st))]::[.p (intsP ma),.p (.int .i64 (st)),.p (statesP ss),.p (.int .i64 (lp))]::bitC (B j)::[.msl 3 0 n (some n) 1]::rest,[]⟩∧∀cs∈rest,∃ys:List PD,cs=ys.map D.p) ⟨[],rfl,by simp⟩ ?_ ?_
  ·rintro j x H hxj ⟨rest,rfl,hrest⟩
   rw[List.getElem?_map] at hxj
   cases ht:L[j]? with
   |none=>rw[ht] at hxj;cases hxj
   |some e=>
    rw[ht] at hxj
    cases hxj
    refine⟨rfl,?_⟩
    have hj:=(List.getElem?_eq_some_iff.1 ht).1
    have he:=hv j e ht
    obtain⟨hs1,k,hk1,hk2⟩:=hmem e (List.mem_of_getElem? ht)
    have hbs:=hrs j e ht
    have hbl2:=hrl j (by omega)
    obtain⟨e1,s,e3,t⟩:=e
    dsimp only at he hs1 hk1 hk2
    subst he hk1
    have hs2:s<(els ss).length:=by omega
    have hk3:k<(els (els ss)[s]).length:=by rw[hxl _ (List.getElem_mem hs2)];exact hk2
    have hm1:=List.getElem_mem hs2
    have hm2:=List.getElem_mem hk3
    obtain⟨kk,-,c69⟩:=bsearch_call (els (els ss)[s])[k].tu t (by have:=htu _ hm1 _ hm2;omega) (hsr _ hm1 _ hm2)
    have hbb:=hbit s k hs2 hk3 (v0+j+1) t
    rw[hbb] at c69
    have hj2:=hjn j hj
    have hia:=ia_states hs2
    have hib:=ia_rels hk3
    generalize bitE (els ss) (v0+j+1,s,(k:Int),t)=bb at *
    generalize (els (els ss)[s])[k]=r at *
    generalize (els ss)[s]=xs at *
    generalize v0+j=i1 at *
    have hw:IntKind.i64.wrap (i1:Int)=(i1:Int):=wrap64 (by omega) (by omega)
    have hba:=bs_at (b:=3) (c:=some n) hj2
    have hcut:=bitC_cut (l:=B j) (i:=i1) bb (by omega)
    have w3:i1+1≤(B j).length:=by omega
    rw[hbs] at hcut
    simp[-isMapC,-locD,im2,im3,bitC_len,bitC_mapC,entD,setPs,capIds,D.refsL,D.refs,ins,reach_nil,keepB_nil,hw,hba,hia,hib,c69,w3,hcut,hne]
    refine post_locD (by simp) rfl ?_ fun e=>⟨rfl,rest++[[.p (.int .i64 ((i1:Int)+1)),.p (.int .i64 ((s:Nat):Int)),.p (.int .i64 ((k:Nat):Int)),.p (.int .i64 (t))]],rfl,fun cs hcs=>?_⟩
    ·intro cs hcs
     rcases List.mem_cons.1 hcs with rfl |hcs
     ·exact renL_p _ _ [_,_,_,_]
     rcases List.mem_cons.1 hcs with rfl |hcs
     ·exact renL_p _ _ [_,_]
     rcases List.mem_cons.1 hcs with rfl |hcs
     ·exact renL_p _ _ [_,_,_,_]
     rcases List.mem_cons.1 hcs with rfl |hcs
     ·exact bitC_ren _ _ _
     rcases List.mem_cons.1 hcs with rfl |hcs
     ·simp[D.renL,D.ren,below]
     rcases List.mem_append.1 hcs with hcs |hcs
     ·obtain⟨ys,rfl⟩:=hrest cs hcs
      exact renL_p _ _ ys
     ·rw[List.mem_singleton.1 hcs]
      exact renL_p _ _ [_,_,_,_]
    ·rcases List.mem_append.1 hcs with hcs |hcs
     ·exact hrest cs hcs
     ·exact⟨[_,_,_,_],List.mem_singleton.1 hcs⟩
  ·rintro H ⟨rest,rfl,hrest⟩
   rw[List.length_map]
   have hfin:=hfin ⟨[.p (so),.p (fieldsP fi),.p (f3),.p (f4)]::[.p (intsP a),.p (.int .i64 (st))]::[.p (intsP ma),.p (.int .i64 (st)),.p (statesP ss),.p (.int .i64 (lp))]::bitC E::[.msl 3 0 n (some n) 1]::rest,[]⟩ rfl
   simp[-isMapC,im3,hend,hfin,mapO]
end Go.Proofs.YtgplgbonlnodeaaGreatDoor
namespace Go.Proofs.YtgplgbonlnodeaaGreatDoor
open Go.Vs
set_option maxRecDepth 100000
attribute [local irreducible] gen237 gen226 gen68 tupL
variable {so f3 f4 : PD} {fi : Sl Fi} {a ma : Sl Int} {bs : Sl Bn} {st mst lp : Int} {ss : Sl (Sl Rl)} {ns : Nat}
theorem encode_no1(o1:so.one=true)(o3:f3.one=true)(o4:f4.one=true)
    (h1:¬mst=st):
    ∀H,callD (call pg) 18 [.p (.agg [so,fieldsP fi,f3,f4]),.p (.agg [intsP a,.int .i64 st]),.p (boundsP bs),.p (.agg [intsP ma,.int .i64 mst,statesP ss,.int .i64 lp])] H=
     some (.val (.tup [.p (.nils),.p (.bool false)]),H):=by
 have hf:a18=a18:=rfl
 conv at hf=>rhs;reduce
 refine callP (aa:=[_,_,_,_]) hf rfl rfl rfl ?_
 clear hf
 simp[h1,o1,o3,o4]
theorem encode_no2(o1:so.one=true)(o3:f3.one=true)(o4:f4.one=true)
    (c65:∀H,callD (call pg) 65 [.p (intsP ma),.p (intsP a)] H=some (.val (.p (.bool false)),H)):
    ∀H,callD (call pg) 18 [.p (.agg [so,fieldsP fi,f3,f4]),.p (.agg [intsP a,.int .i64 st]),.p (boundsP bs),.p (.agg [intsP ma,.int .i64 st,statesP ss,.int .i64 lp])] H=
     some (.val (.tup [.p (.nils),.p (.bool false)]),H):=by
 have hf:a18=a18:=rfl
 conv at hf=>rhs;reduce
 refine callP (aa:=[_,_,_,_]) hf rfl rfl rfl ?_
 clear hf
 simp[o1,o3,o4,c65]
theorem encode_no3(o1:so.one=true)(o3:f3.one=true)(o4:f4.one=true)
    (c65:∀H,callD (call pg) 65 [.p (intsP ma),.p (intsP a)] H=some (.val (.p (.bool true)),H))
    (c66:∀H,callD (call pg) 66 [.p (.agg [so,fieldsP fi,f3,f4]),.p (.agg [intsP ma,.int .i64 st,statesP ss,.int .i64 lp])] H=some (.val (.p (.bool false)),H)):
    ∀H,callD (call pg) 18 [.p (.agg [so,fieldsP fi,f3,f4]),.p (.agg [intsP a,.int .i64 st]),.p (boundsP bs),.p (.agg [intsP ma,.int .i64 st,statesP ss,.int .i64 lp])] H=
     some (.val (.tup [.p (.nils),.p (.bool false)]),H):=by
 have hf:a18=a18:=rfl
 conv at hf=>rhs;reduce
 refine callP (aa:=[_,_,_,_]) hf rfl rfl rfl ?_
 clear hf
 simp[o1,o3,o4,c65,c66]
theorem encode_no4(o1:so.one=true)(o3:f3.one=true)(o4:f4.one=true)
    (c65:∀H,callD (call pg) 65 [.p (intsP ma),.p (intsP a)] H=some (.val (.p (.bool true)),H))
    (c66:∀H,callD (call pg) 66 [.p (.agg [so,fieldsP fi,f3,f4]),.p (.agg [intsP ma,.int .i64 st,statesP ss,.int .i64 lp])] H=some (.val (.p (.bool true)),H))
    (c67:∀H,callD (call pg) 67 [.p (boundsP bs),.p (.agg [intsP ma,.int .i64 st,statesP ss,.int .i64 lp])] H=some (.val (.p (.bool false)),H)):
    ∀H,callD (call pg) 18 [.p (.agg [so,fieldsP fi,f3,f4]),.p (.agg [intsP a,.int .i64 st]),.p (boundsP bs),.p (.agg [intsP ma,.int .i64 st,statesP ss,.int .i64 lp])] H=
     some (.val (.tup [.p (.nils),.p (.bool false)]),H):=by
 have hf:a18=a18:=rfl
 conv at hf=>rhs;reduce
 refine callP (aa:=[_,_,_,_]) hf rfl rfl rfl ?_
 clear hf
 simp[o1,o3,o4,c65,c66,c67]
theorem encode_no(o1:so.one=true)(o3:f3.one=true)(o4:f4.one=true){r1 r2 r3:Bool}
    (c65:∀H,callD (call pg) 65 [.p (intsP ma),.p (intsP a)] H=some (.val (.p (.bool r1)),H))
    (c66:∀H,callD (call pg) 66 [.p (.agg [so,fieldsP fi,f3,f4]),.p (.agg [intsP ma,.int .i64 mst,statesP ss,.int .i64 lp])] H=some (.val (.p (.bool r2)),H))
    (c67:∀H,callD (call pg) 67 [.p (boundsP bs),.p (.agg [intsP ma,.int .i64 mst,statesP ss,.int .i64 lp])] H=some (.val (.p (.bool r3)),H))
    (hno:¬(mst=st∧r1=true∧r2=true∧r3=true)):
    ∀H,callD (call pg) 18 [.p (.agg [so,fieldsP fi,f3,f4]),.p (.agg [intsP a,.int .i64 st]),.p (boundsP bs),.p (.agg [intsP ma,.int .i64 mst,statesP ss,.int .i64 lp])] H=
     some (.val (.tup [.p (.nils),.p (.bool false)]),H):=by
 by_cases h1:mst=st
 ·subst h1
  cases r1 with
  |false=>exact encode_no2 o1 o3 o4 c65
  |true=>
   cases r2 with
   |false=>exact encode_no3 o1 o3 o4 c65 c66
   |true=>
    cases r3 with
    |false=>exact encode_no4 o1 o3 o4 c65 c66 c67
    |true=>exact absurd ⟨rfl,rfl,rfl,rfl⟩ hno
 ·exact encode_no1 o1 o3 o4 h1
end Go.Proofs.YtgplgbonlnodeaaGreatDoor
namespace Go.Proofs.YtgplgbonlnodeaaGreatDoor
open Go.Vs
set_option maxRecDepth 100000
theorem lexB_zero:∀{a b:List Bool},a.length=b.length→(lexB a b=0↔a=b)
 |[],[],_=>by simp[lexB]
 |[],_::_,h=>by simp at h
 |_::_,[],h=>by simp at h
 |x::a,y::b,h=>by
  have ih:=lexB_zero (a:=a) (b:=b) (by simpa using h)
  simp only[lexB]
  by_cases hxy:x=y
  ·rw[if_pos hxy,ih];simp[hxy]
  ·rw[if_neg hxy]
   cases y<;>simp[hxy]
theorem lexB_filter{α:Type}(f g sk:α→Bool):∀(K:List α),(∀p∈K,sk p=true→f p=g p)→lexB (K.map f) (K.map g)=lexB ((K.filter fun p=>!sk p).map f) ((K.filter fun p=>!sk p).map g)
 |[],_=>rfl
 |p::K,h=>by
  have ih:=lexB_filter f g sk K fun q hq=>h q (List.mem_cons_of_mem _ hq)
  by_cases hs:sk p=true
  ·have:=h p List.mem_cons_self hs
   simp[hs,lexB,this,ih]
  ·have hs:sk p=false:=by simpa using hs
   simp only[List.filter_cons,hs,Bool.not_false,if_true,List.map_cons,lexB,ih]
def bitP(x:Sl Rl)(p:Int×Int):Bool:=decide (p.2∈relAt x p.1.toNat)
theorem ents_bits{ss:List (Sl Rl)}{s:Nat}{x:Sl Rl}(hx:ss[s]? =some x)(vs:List Bool):∀(K:List (Int×Int)) (v:Nat),(ents vs s K v).map (bitE ss)=(K.filter fun p=>!skipE vs s p.1).map (bitP x)
 |[],_=>rfl
 |(a,b)::r,v=>by
  simp only[ents]
  by_cases hs:skipE vs s a=true
  ·simp[hs,ents_bits hx vs r v]
  ·have hs:skipE vs s a=false:=by simpa using hs
   simp only[hs,List.filter_cons,Bool.not_false,if_true,Bool.false_eq_true,if_false,List.map_cons,ents_bits hx vs r (v+1)]
   simp[bitE,bitP,hx]
theorem bits_eq(K:List (Int×Int))(x:Sl Rl):bits K x=K.map (bitP x):=rfl
theorem ord_tail(vs:List Bool)(K:List (Int×Int))(xs ys:List (Sl Rl))(hlen:xs.length=ys.length)
    (hst:∀(s:Nat) x y,1≤s→xs[s]? =some x→ys[s]? =some y→∀p∈K,skipE vs s p.1=true→bitP x p=bitP y p):∀(n s v:Nat),1≤s→s+n=xs.length→
    lexB ((entsA vs K n s v).map (bitE xs)) ((entsA vs K n s v).map (bitE ys))=lexB ((xs.drop s).flatMap (bits K)) ((ys.drop s).flatMap (bits K))
 | 0,s,v,_,hs=>by
  rw[List.drop_of_length_le (by omega),List.drop_of_length_le (by omega)]
  rfl
 |n+1,s,v,h1,hs=>by
  have hx:s<xs.length:=by omega
  have hy:s<ys.length:=by omega
  have ih:=ord_tail vs K xs ys hlen hst n (s+1) (v+(ents vs s K v).length) (by omega) (by omega)
  rw[List.drop_eq_getElem_cons hx,List.drop_eq_getElem_cons hy,List.flatMap_cons,List.flatMap_cons]
  simp only[entsA,List.map_append]
  rw[lexB_app (by simp),lexB_app (by simp[bits]),ih,ents_bits (List.getElem?_eq_getElem hx),ents_bits (List.getElem?_eq_getElem hy),bits_eq,bits_eq,
   ←lexB_filter (bitP xs[s]) (bitP ys[s]) (fun p=>skipE vs s p.1) K (hst s _ _ h1 (List.getElem?_eq_getElem hx) (List.getElem?_eq_getElem hy))]
theorem lexB_pre{st lx ly:Int}(hx:0≤lx∧lx<st)(hy:0≤ly∧ly<st)(h1:1<st):lexB (preB st lx) (preB st ly)=if lx=ly then 0 else if lx<ly then -1 else 1:=by
 have key:∀(n i j:Nat),i<n→j<n→lexB ((List.replicate n false).set i true) ((List.replicate n false).set j true)=if i=j then 0 else if j<i then -1 else 1:=by
  intro n
  induction n with
  |zero=>intro i j hi;omega
  |succ n ih=>
   intro i j hi hj
   cases i with
   |zero=>
    cases j with
    |zero=>
     rw[if_pos rfl,(lexB_zero rfl).2 rfl]
    |succ j=>simp[List.replicate_succ,lexB]
   |succ i=>
    cases j with
    |zero=>simp[List.replicate_succ,lexB]
    |succ j=>
     have:=ih i j (by omega) (by omega)
     simp only[List.replicate_succ,List.set_cons_succ,lexB,if_true,this,Nat.succ.injEq,Nat.add_lt_add_iff_right]
 unfold preB
 rw[if_pos h1,if_pos h1,key _ _ _ (by omega) (by omega)]
 by_cases h:lx=ly
 ·rw[if_pos h,if_pos (by omega)]
 ·rw[if_neg h,if_neg (by omega)]
  by_cases h2:lx<ly
  ·rw[if_pos h2,if_pos (by omega)]
  ·rw[if_neg h2,if_neg (by omega)]
theorem order_law(fi:List Fi)(bs:List Bn)(st lx ly:Int)(xs ys:List (Sl Rl))(hst:1≤st)(hxl:(xs.length:Int)=st)(hyl:(ys.length:Int)=st)(hx:0≤lx∧lx<st)(hy:0≤ly∧ly<st)
    (hsx:∀(s:Nat) x x0 p,xs[s]? =some x→xs[0]? =some x0→p∈freeA 0 bs→(fi.map Fi.va).getD p.1.toNat false=false→bitP x p=bitP x0 p)
    (hsy:∀(s:Nat) y y0 p,ys[s]? =some y→ys[0]? =some y0→p∈freeA 0 bs→(fi.map Fi.va).getD p.1.toNat false=false→bitP y p=bitP y0 p):
    (encB fi bs st lx xs).length=(encB fi bs st ly ys).length∧lexB (encB fi bs st lx xs) (encB fi bs st ly ys)=cmpI lx ly (freeA 0 bs) xs ys:=by
 refine⟨by simp only[encB,List.length_append,List.length_map,preB_len],?_⟩
 have hL:lexB ((entL fi bs st).map (bitE xs)) ((entL fi bs st).map (bitE ys))=lexB (xs.flatMap (bits (freeA 0 bs))) (ys.flatMap (bits (freeA 0 bs))):=by
  have h0x:0<xs.length:=by omega
  have h0y:0<ys.length:=by omega
  obtain⟨n,hn⟩:∃n,st.toNat=n+1:=⟨st.toNat-1,by omega⟩
  unfold entL
  rw[hn]
  simp only[entsA,List.map_append]
  have hdx:xs=xs[0]::xs.drop 1:=by rw[←List.drop_eq_getElem_cons h0x,List.drop_zero]
  have hdy:ys=ys[0]::ys.drop 1:=by rw[←List.drop_eq_getElem_cons h0y,List.drop_zero]
  have hsk:∀K:List (Int×Int),(K.filter fun p=>!skipE (fi.map Fi.va) 0 p.1)=K:=fun K=>by
   rw[List.filter_eq_self];intro p _;simp[skipE]
  have hrx:xs.flatMap (bits (freeA 0 bs))=bits (freeA 0 bs) xs[0]++(xs.drop 1).flatMap (bits (freeA 0 bs)):=by
   conv=>lhs;rw[hdx]
   rw[List.flatMap_cons]
  have hry:ys.flatMap (bits (freeA 0 bs))=bits (freeA 0 bs) ys[0]++(ys.drop 1).flatMap (bits (freeA 0 bs)):=by
   conv=>lhs;rw[hdy]
   rw[List.flatMap_cons]
  rw[hrx,hry,lexB_app (by simp),lexB_app (by simp[bits]),ents_bits (List.getElem?_eq_getElem h0x),ents_bits (List.getElem?_eq_getElem h0y),hsk,bits_eq,bits_eq]
  by_cases h0:lexB ((freeA 0 bs).map (bitP xs[0])) ((freeA 0 bs).map (bitP ys[0]))=0
  ·rw[if_pos h0,if_pos h0]
   rw[lexB_zero (by simp)] at h0
   refine ord_tail _ _ xs ys (by omega) ?_ n 1 _ (Nat.le_refl _) (by omega)
   intro s x y h1 hxs hys p hp hskp
   have hva:(fi.map Fi.va).getD p.1.toNat false=false:=by
    simp only[skipE,Bool.and_eq_true,Bool.not_eq_true'] at hskp
    exact hskp.2
   rw[hsx s x _ p hxs (List.getElem?_eq_getElem h0x) hp hva,hsy s y _ p hys (List.getElem?_eq_getElem h0y) hp hva]
   exact List.map_inj_left.1 h0 p hp
  ·rw[if_neg h0,if_neg h0]
 unfold encB cmpI
 rw[lexB_app (by rw[preB_len,preB_len]),hL]
 by_cases h1:1<st
 ·rw[lexB_pre hx hy h1]
  by_cases h:lx=ly
  ·rw[if_pos h,if_pos h,if_pos rfl]
  ·rw[if_neg h,if_neg h]
   by_cases h2:lx<ly
   ·rw[if_pos h2];simp
   ·rw[if_neg h2];simp
 ·have :lx=ly:=by omega
  rw[if_pos this,show preB st lx=[] by unfold preB;rw[if_neg h1],show preB st ly=[] by unfold preB;rw[if_neg h1]]
  simp[lexB]
end Go.Proofs.YtgplgbonlnodeaaGreatDoor
namespace Go.Proofs.YtgplgbonlnodeaaGreatDoor
open Go.Vs
set_option maxRecDepth 100000
variable {so f3 f4 : PD} {ns : Nat} {fi : Sl Fi} {a : Sl Int} {ss : Sl (Sl Rl)} {st lp : Int}
def SmallP(ns:Nat)(fi:List Fi)(a:List Int)(ss:List (Sl Rl)):Prop:=
 ns≤10∧fi.length≤10∧ss.length≤64∧a.length≤10∧(∀x∈ss,(els x).length≤10∧∀r∈els x,(els r.tu).length≤200)∧∀f∈fi,(els f.so).length≤10
theorem small_call(hso:lenD 1 (.p so)=some ns)(o1:so.one=true)(o3:f3.one=true)(o4:f4.one=true):
    ∃r:Bool,(∀H,callD (call pg) 12 [.p (.agg [so,fieldsP fi,f3,f4]),.p (.agg [intsP a,.int .i64 st,statesP ss,.int .i64 lp])] H=some (.val (.p (.bool r)),H))∧
     (r=true↔SmallP ns (els fi) (els a) (els ss)):=by
 have key1:=fun(i:Nat) (hi:i<(els ss).length) (hl:(els (els ss)[i]).length≤10)=>loopA (c:=call pg) (G:=pg.G) (keep:=[2,3,5,6]) (b:=bd a12 1) (fun k=>[(2,.box 0 0),(3,.box 1 0),(5,.p (.int .i64 ((i:Nat):Int))),(6,.p (.int .i64 ((k:Nat):Int)))])
  ⟨[[.p (so),.p (fieldsP fi),.p (f3),.p (f4)],[.p (intsP a),.p (.int .i64 (st)),.p (statesP ss),.p (.int .i64 (lp))]],[]⟩ (els (els ss)[i]).length
  (fun k=>∀r,(els (els ss)[i])[k]? =some r→(els r.tu).length≤200) 2 (fun e=>e.get 2= .box 0 0∧e.get 3= .box 1 0∧e.get 5= .p (.int .i64 ((i:Nat):Int))) (fun e=>e.get 4= .p (.bool false))
  (fun k hk hP=>by
   have hb2:bd a12 2=bd a12 2:=rfl
   conv at hb2=>rhs;reduce
   have hb1:bd a12 1=bd a12 1:=rfl
   conv at hb1=>rhs;reduce
   have hb0:bd a12 0=bd a12 0:=rfl
   conv at hb0=>rhs;reduce
   rw[←hb1] at hb0
   have hf:a12=a12:=rfl
   conv at hf=>rhs;reduce
   rw[←hb2] at hf
   rw[←hb1] at hf
   rw[←hb0] at hf
   rw[hb1];clear hf hb0 hb1 hb2
   have h1:=at_ix hk hP
   have h2:¬(200 :Int)<((els (els (els ss)[i])[k].tu).length:Int):=by omega
   simp[len_rels,len_ints,ia_states hi,ia_rels hk,hk,h2,inc64 (k:=k) (by omega)])
  (fun k hk hP=>by
   have hb2:bd a12 2=bd a12 2:=rfl
   conv at hb2=>rhs;reduce
   have hb1:bd a12 1=bd a12 1:=rfl
   conv at hb1=>rhs;reduce
   have hb0:bd a12 0=bd a12 0:=rfl
   conv at hb0=>rhs;reduce
   rw[←hb1] at hb0
   have hf:a12=a12:=rfl
   conv at hf=>rhs;reduce
   rw[←hb2] at hf
   rw[←hb1] at hf
   rw[←hb0] at hf
   rw[hb1];clear hf hb0 hb1 hb2
   have h1:=not_ix hk hP
   have h2:(200 :Int)<((els (els (els ss)[i])[k].tu).length:Int):=by omega
   simp[len_rels,len_ints,ia_states hi,ia_rels hk,hk,h2])
  (by
   have hb2:bd a12 2=bd a12 2:=rfl
   conv at hb2=>rhs;reduce
   have hb1:bd a12 1=bd a12 1:=rfl
   conv at hb1=>rhs;reduce
   have hb0:bd a12 0=bd a12 0:=rfl
   conv at hb0=>rhs;reduce
   rw[←hb1] at hb0
   have hf:a12=a12:=rfl
   conv at hf=>rhs;reduce
   rw[←hb2] at hf
   rw[←hb1] at hf
   rw[←hb0] at hf
   rw[hb1];clear hf hb0 hb1 hb2
   simp[len_rels,ia_states hi])
 have key:=fun(hss:(els ss).length≤64)=>loopA (c:=call pg) (G:=pg.G) (keep:=[2,3,5]) (b:=bd a12 0) (fun i=>[(2,.box 0 0),(3,.box 1 0),(5,.p (.int .i64 ((i:Nat):Int)))])
  ⟨[[.p (so),.p (fieldsP fi),.p (f3),.p (f4)],[.p (intsP a),.p (.int .i64 (st)),.p (statesP ss),.p (.int .i64 (lp))]],[]⟩ (els ss).length
  (fun i=>∀x,(els ss)[i]? =some x→(els x).length≤10∧∀r∈els x,(els r.tu).length≤200) 0 (fun e=>e.get 2= .box 0 0) (fun e=>e.get 4= .p (.bool false))
  (fun i hi hP=>by
   have hb2:bd a12 2=bd a12 2:=rfl
   conv at hb2=>rhs;reduce
   have hb1:bd a12 1=bd a12 1:=rfl
   conv at hb1=>rhs;reduce
   have hb0:bd a12 0=bd a12 0:=rfl
   conv at hb0=>rhs;reduce
   rw[←hb1] at hb0
   have hf:a12=a12:=rfl
   conv at hf=>rhs;reduce
   rw[←hb2] at hf
   rw[←hb1] at hf
   rw[←hb0] at hf
   obtain⟨p1,p2⟩:=at_ix hi hP
   have h2:¬(10 :Int)<((els (els ss)[i]).length:Int):=by omega
   rcases key1 i hi p1 with⟨e,hx,⟨g2,g3,g5⟩,-⟩ |⟨e,hx,-,hn⟩
   ·rw[hb0];clear hf hb0 hb1 hb2
    simp at hx
    simp[len_states,len_rels,ia_states hi,hi,h2,hx,g2,g3,g5,inc64 (k:=i) (by omega)]
   ·rw[all_ix] at hn
    exact absurd p2 hn)
  (fun i hi hP=>by
   have hb2:bd a12 2=bd a12 2:=rfl
   conv at hb2=>rhs;reduce
   have hb1:bd a12 1=bd a12 1:=rfl
   conv at hb1=>rhs;reduce
   have hb0:bd a12 0=bd a12 0:=rfl
   conv at hb0=>rhs;reduce
   rw[←hb1] at hb0
   have hf:a12=a12:=rfl
   conv at hf=>rhs;reduce
   rw[←hb2] at hf
   rw[←hb1] at hf
   rw[←hb0] at hf
   have hP:=not_ix hi hP
   by_cases p1:(els (els ss)[i]).length≤10
   ·have h2:¬(10 :Int)<((els (els ss)[i]).length:Int):=by omega
    rcases key1 i hi p1 with⟨e,hx,-,hn⟩ |⟨e,hx,g4,-⟩
    ·rw[all_ix] at hn
     exact absurd ⟨p1,hn⟩ hP
    ·rw[hb0];clear hf hb0 hb1 hb2
     simp at hx
     simp[len_states,len_rels,ia_states hi,hi,h2,hx,g4]
   ·have h2:(10 :Int)<((els (els ss)[i]).length:Int):=by omega
    rw[hb0];clear hf hb0 hb1 hb2
    simp[len_states,len_rels,ia_states hi,hi,h2])
  (by
   have hb2:bd a12 2=bd a12 2:=rfl
   conv at hb2=>rhs;reduce
   have hb1:bd a12 1=bd a12 1:=rfl
   conv at hb1=>rhs;reduce
   have hb0:bd a12 0=bd a12 0:=rfl
   conv at hb0=>rhs;reduce
   rw[←hb1] at hb0
   have hf:a12=a12:=rfl
   conv at hf=>rhs;reduce
   rw[←hb2] at hf
   rw[←hb1] at hf
   rw[←hb0] at hf
   rw[hb0];clear hf hb0 hb1 hb2
   simp[len_states])
 have key2:=fun(hfi:(els fi).length≤10)=>loopA (c:=call pg) (G:=pg.G) (keep:=[2,7]) (b:=bd a12 2) (fun i=>[(2,.box 0 0),(7,.p (.int .i64 ((i:Nat):Int)))])
  ⟨[[.p (so),.p (fieldsP fi),.p (f3),.p (f4)],[.p (intsP a),.p (.int .i64 (st)),.p (statesP ss),.p (.int .i64 (lp))]],[]⟩ (els fi).length
  (fun i=>∀x,(els fi)[i]? =some x→(els x.so).length≤10) 4 (fun _=>True) (fun e=>e.get 4= .p (.bool false))
  (fun i hi hP=>by
   have hb2:bd a12 2=bd a12 2:=rfl
   conv at hb2=>rhs;reduce
   have hb1:bd a12 1=bd a12 1:=rfl
   conv at hb1=>rhs;reduce
   have hb0:bd a12 0=bd a12 0:=rfl
   conv at hb0=>rhs;reduce
   rw[←hb1] at hb0
   have hf:a12=a12:=rfl
   conv at hf=>rhs;reduce
   rw[←hb2] at hf
   rw[←hb1] at hf
   rw[←hb0] at hf
   rw[hb2];clear hf hb0 hb1 hb2
   have h1:=at_ix hi hP
   have h2:¬(10 :Int)<((els (els fi)[i].so).length:Int):=by omega
   simp[len_fields,len_ints,ia_fields hi,hi,h2,inc64 (k:=i) (by omega)])
  (fun i hi hP=>by
   have hb2:bd a12 2=bd a12 2:=rfl
   conv at hb2=>rhs;reduce
   have hb1:bd a12 1=bd a12 1:=rfl
   conv at hb1=>rhs;reduce
   have hb0:bd a12 0=bd a12 0:=rfl
   conv at hb0=>rhs;reduce
   rw[←hb1] at hb0
   have hf:a12=a12:=rfl
   conv at hf=>rhs;reduce
   rw[←hb2] at hf
   rw[←hb1] at hf
   rw[←hb0] at hf
   rw[hb2];clear hf hb0 hb1 hb2
   have h1:=not_ix hi hP
   have h2:(10 :Int)<((els (els fi)[i].so).length:Int):=by omega
   simp[len_fields,len_ints,ia_fields hi,hi,h2])
  (by
   have hb2:bd a12 2=bd a12 2:=rfl
   conv at hb2=>rhs;reduce
   have hb1:bd a12 1=bd a12 1:=rfl
   conv at hb1=>rhs;reduce
   have hb0:bd a12 0=bd a12 0:=rfl
   conv at hb0=>rhs;reduce
   rw[←hb1] at hb0
   have hf:a12=a12:=rfl
   conv at hf=>rhs;reduce
   rw[←hb2] at hf
   rw[←hb1] at hf
   rw[←hb0] at hf
   rw[hb2];clear hf hb0 hb1 hb2
   simp[len_fields])
 have hb2:bd a12 2=bd a12 2:=rfl
 conv at hb2=>rhs;reduce
 have hb1:bd a12 1=bd a12 1:=rfl
 conv at hb1=>rhs;reduce
 have hb0:bd a12 0=bd a12 0:=rfl
 conv at hb0=>rhs;reduce
 rw[←hb1] at hb0
 have hf:a12=a12:=rfl
 conv at hf=>rhs;reduce
 rw[←hb2] at hf
 rw[←hb1] at hf
 rw[←hb0] at hf
 by_cases h1:ns≤10
 ·have k1:¬(10 :Int)<(ns:Int):=by omega
  by_cases h2:(els fi).length≤10
  ·have k2:¬(10 :Int)<((els fi).length:Int):=by omega
   by_cases h3:(els ss).length≤64
   ·have k3:¬(64 :Int)<((els ss).length:Int):=by omega
    by_cases h4:(els a).length≤10
    ·have k4:¬(10 :Int)<((els a).length:Int):=by omega
     rcases key h3 with⟨e,hx,g2,hq⟩ |⟨e,hx,g4,hq⟩
     ·rw[all_ix] at hq
      rcases key2 h2 with⟨e',hx',-,hq'⟩ |⟨e',hx',g4',hq'⟩
      ·rw[all_ix] at hq'
       refine⟨true,callP (aa:=[_,_]) hf rfl rfl rfl ?_,iff_of_true rfl ⟨h1,h2,h3,h4,hq,hq'⟩⟩
       clear hf hb0 hb1 hb2
       simp at hx hx'
       simp[o1,o3,o4,len_states,len_ints,len_fields,hso,k1,k2,k3,k4,g2,hx,hx']
      ·rw[all_ix] at hq'
       refine⟨false,callP (aa:=[_,_]) hf rfl rfl rfl ?_,iff_of_false (by simp) fun h=>hq' h.2.2.2.2.2⟩
       clear hf hb0 hb1 hb2
       simp at hx hx'
       simp[o1,o3,o4,len_states,len_ints,len_fields,hso,k1,k2,k3,k4,g2,hx,hx',g4']
     ·rw[all_ix] at hq
      refine⟨false,callP (aa:=[_,_]) hf rfl rfl rfl ?_,iff_of_false (by simp) fun h=>hq h.2.2.2.2.1⟩
      clear hf hb0 hb1 hb2
      simp at hx
      simp[o1,o3,o4,len_states,len_ints,len_fields,hso,k1,k2,k3,k4,g4,hx]
    ·have k4:(10 :Int)<((els a).length:Int):=by omega
     refine⟨false,callP (aa:=[_,_]) hf rfl rfl rfl ?_,iff_of_false (by simp) fun h=>h4 h.2.2.2.1⟩
     clear hf hb0 hb1 hb2
     simp[o1,o3,o4,len_states,len_ints,len_fields,hso,k1,k2,k3,k4]
   ·have k3:(64 :Int)<((els ss).length:Int):=by omega
    refine⟨false,callP (aa:=[_,_]) hf rfl rfl rfl ?_,iff_of_false (by simp) fun h=>h3 h.2.2.1⟩
    clear hf hb0 hb1 hb2
    simp[o1,o3,o4,len_states,len_fields,hso,k1,k2,k3]
  ·have k2:(10 :Int)<((els fi).length:Int):=by omega
   refine⟨false,callP (aa:=[_,_]) hf rfl rfl rfl ?_,iff_of_false (by simp) fun h=>h2 h.2.1⟩
   clear hf hb0 hb1 hb2
   simp[o1,o3,o4,len_fields,hso,k1,k2]
 ·have k1:(10 :Int)<(ns:Int):=by omega
  refine⟨false,callP (aa:=[_,_]) hf rfl rfl rfl ?_,iff_of_false (by simp) fun h=>h1 h.1⟩
  clear hf hb0 hb1 hb2
  simp[o1,o3,o4,hso,k1]
end Go.Proofs.YtgplgbonlnodeaaGreatDoor
end
