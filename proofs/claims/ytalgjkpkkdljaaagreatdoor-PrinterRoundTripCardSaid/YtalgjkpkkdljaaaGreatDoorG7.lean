/-
  A value-level evaluator for Go functions; the functions of this cut by it; plain laws. Part 7 of 7.
-/
import Derived.Test.YtalgjkpkkdljaaaGreatDoorG6
import Derived.Test.YtalgjkpkkdljaaaGreatDoorG4
namespace Go.Proofs.YtalgjkpkkdljaaaGreatDoor.Pj
open Go.Vs
theorem itoa_in{n:Int}(h:i64 n)(H:Hp):callD (call pg) 135 [.p (.int .i64 n)] H=some (.val (.p (.str (Lib.itoa n))),H):=by
 have h':pgL 135 [.p (.int .i64 n)] ⟨[],[]⟩=some (.val (.p (.str (Lib.itoa n))),⟨[],[]⟩):=by
  simp only[pgL]
  exact if_pos h
 exact callD_pure (call_lib h') rfl rfl rfl rfl
theorem itoa_eq{n:Int}(h:i64 n)(H:Hp):callD (call pg) 114 [.p (.int .i64 n)] H=some (.val (.p (.str (Lib.itoa n))),H):=by
 have hi:=fun H=>itoa_in h H
 refine callD_any (d:=.p (.str (Lib.itoa n))) ⟨⟨[],[]⟩,call_body (fc:=fc114) rfl rfl rfl rfl ?_⟩ rfl rfl rfl rfl H
 simp[fc114,evKC,evK,put,Env.get,Env.keep,entry,Opd.ev,finish,evRes,evRes1,hi]
section
variable {a : Nd} (hl0 : look binT a.op = none) (hl : look preT a.op = none) (fin f : Bool) (l : List UInt8) (hb : l.length + (txt a fin).length ≤ 100000000000000)
include hl0 hl hb
theorem node_name(h:a.op=1):∃ex,call pg 66 [.box 0 0,.p a.pd,.p (.bool fin)] (pH f l [])=some (.val .undef,pH false (l++txt a fin) ex):=by
 have ht:txt a fin=a.nm:=by
  rw[txt_eq];simp only[txtOf,h,kK_eq,bnd_eq];rfl
 rw[ht] at hb⊢
 try simp only[List.length_append,List.length_cons,List.length_nil] at hb
 have o1:=one_of (pd_one a)
 have g1:=ge1 f l a.op
 have g2:=ge2 f l a.op
 simp only[getT,zEnt,hl0] at g1
 simp only[getT,zEnt,hl] at g2
 have lop:∀G tk x y z r,loadD G ⟨x::y::z::a.cells.map .p::r,tk⟩ none (.box 3 0)=some (.p (.int .i64 a.op)):=fun _ _ _ _ _ _=>rfl
 have lnm:∀G tk x y z r,loadD G ⟨x::y::z::a.cells.map .p::r,tk⟩ none (.box 3 1)=some (.p (.str a.nm)):=fun _ _ _ _ _ _=>rfl
 have ln:∀G tk x y z r,loadD G ⟨x::y::z::a.cells.map .p::r,tk⟩ none (.box 3 2)=some (.p (.int .i64 a.n)):=fun _ _ _ _ _ _=>rfl
 have lks:∀G tk x y z r,loadD G ⟨x::y::z::a.cells.map .p::r,tk⟩ none (.box 3 3)=some (.p a.kidsP):=fun _ _ _ _ _ _=>rfl
 have lnd:∀G tk x y z r,loadD G ⟨x::y::z::a.cells.map .p::r,tk⟩ (some 5) (.box 3 0)=some (.p a.pd):=fun _ _ _ _ _ _=>load_ndb (i:=3) rfl
 have k0:∀H,callD (call pg) 113 [.p a.pd,.p (.int .i64 0)] H=some (.val (.p (kidN a 0).pd),H):=kid_eq a 0 (by omega)
 have w1:=wstr_eq f l a.nm (by omega) [a.cells.map .p,zC,zC]
 refine⟨[a.cells.map .p,zC,zC],call_body (fc:=fc66) rfl rfl rfl rfl ?_⟩
 rw[pd_cells] at lnd k0⊢
 simp only[pH,zC] at w1⊢
 rw[h] at lop g1 g2
 simp[fc66,evKC,evK,put,Env.get,Env.keep,entry,Opd.ev,storeD,splice,binD,clsP,cls,clsR,isCl,isW,apartRW,offB,apartWW,clash,insOk,finish,evRes,D.cells,D.refsL,D.refs,D.toksL,D.toks,isMapC,o1,ld2,ld3,g1,g2,lop,lnm,w1]
theorem node_lit(h:a.op=20)(hn:i64 a.n):∃ex,call pg 66 [.box 0 0,.p a.pd,.p (.bool fin)] (pH f l [])=some (.val .undef,pH false (l++txt a fin) ex):=by
 have ht:txt a fin=Lib.itoa a.n:=by
  rw[txt_eq];simp only[txtOf,h,kK_eq,bnd_eq];rfl
 rw[ht] at hb⊢
 try simp only[List.length_append,List.length_cons,List.length_nil] at hb
 have o1:=one_of (pd_one a)
 have g1:=ge1 f l a.op
 have g2:=ge2 f l a.op
 simp only[getT,zEnt,hl0] at g1
 simp only[getT,zEnt,hl] at g2
 have lop:∀G tk x y z r,loadD G ⟨x::y::z::a.cells.map .p::r,tk⟩ none (.box 3 0)=some (.p (.int .i64 a.op)):=fun _ _ _ _ _ _=>rfl
 have lnm:∀G tk x y z r,loadD G ⟨x::y::z::a.cells.map .p::r,tk⟩ none (.box 3 1)=some (.p (.str a.nm)):=fun _ _ _ _ _ _=>rfl
 have ln:∀G tk x y z r,loadD G ⟨x::y::z::a.cells.map .p::r,tk⟩ none (.box 3 2)=some (.p (.int .i64 a.n)):=fun _ _ _ _ _ _=>rfl
 have lks:∀G tk x y z r,loadD G ⟨x::y::z::a.cells.map .p::r,tk⟩ none (.box 3 3)=some (.p a.kidsP):=fun _ _ _ _ _ _=>rfl
 have lnd:∀G tk x y z r,loadD G ⟨x::y::z::a.cells.map .p::r,tk⟩ (some 5) (.box 3 0)=some (.p a.pd):=fun _ _ _ _ _ _=>load_ndb (i:=3) rfl
 have k0:∀H,callD (call pg) 113 [.p a.pd,.p (.int .i64 0)] H=some (.val (.p (kidN a 0).pd),H):=kid_eq a 0 (by omega)
 have hi:=itoa_eq hn
 have w1:=wstr_eq f l (Lib.itoa a.n) (by omega) [a.cells.map .p,zC,zC]
 refine⟨[a.cells.map .p,zC,zC],call_body (fc:=fc66) rfl rfl rfl rfl ?_⟩
 rw[pd_cells] at lnd k0⊢
 simp only[pH,zC] at w1⊢
 rw[h] at lop g1 g2
 simp[fc66,evKC,evK,put,Env.get,Env.keep,entry,Opd.ev,storeD,splice,binD,clsP,cls,clsR,isCl,isW,apartRW,offB,apartWW,clash,insOk,finish,evRes,D.cells,D.refsL,D.refs,D.toksL,D.toks,isMapC,o1,ld2,ld3,g1,g2,lop,ln,w1,hi]
theorem node_prime(h:a.op=5)(h0:NodeOk (kidN a 0)):∃ex,call pg 66 [.box 0 0,.p a.pd,.p (.bool fin)] (pH f l [])=some (.val .undef,pH false (l++txt a fin) ex):=by
 have ht:txt a fin=oprK (kidN a 0).kt 14 false++[39]:=by
  rw[txt_eq];simp only[txtOf,h,kK_eq,bnd_eq];rfl
 rw[ht] at hb⊢
 try simp only[List.length_append,List.length_cons,List.length_nil] at hb
 have o1:=one_of (pd_one a)
 have g1:=ge1 f l a.op
 have g2:=ge2 f l a.op
 simp only[getT,zEnt,hl0] at g1
 simp only[getT,zEnt,hl] at g2
 have lop:∀G tk x y z r,loadD G ⟨x::y::z::a.cells.map .p::r,tk⟩ none (.box 3 0)=some (.p (.int .i64 a.op)):=fun _ _ _ _ _ _=>rfl
 have lnm:∀G tk x y z r,loadD G ⟨x::y::z::a.cells.map .p::r,tk⟩ none (.box 3 1)=some (.p (.str a.nm)):=fun _ _ _ _ _ _=>rfl
 have ln:∀G tk x y z r,loadD G ⟨x::y::z::a.cells.map .p::r,tk⟩ none (.box 3 2)=some (.p (.int .i64 a.n)):=fun _ _ _ _ _ _=>rfl
 have lks:∀G tk x y z r,loadD G ⟨x::y::z::a.cells.map .p::r,tk⟩ none (.box 3 3)=some (.p a.kidsP):=fun _ _ _ _ _ _=>rfl
 have lnd:∀G tk x y z r,loadD G ⟨x::y::z::a.cells.map .p::r,tk⟩ (some 5) (.box 3 0)=some (.p a.pd):=fun _ _ _ _ _ _=>load_ndb (i:=3) rfl
 have k0:∀H,callD (call pg) 113 [.p a.pd,.p (.int .i64 0)] H=some (.val (.p (kidN a 0).pd),H):=kid_eq a 0 (by omega)
 have w1:=opr_eq h0 14 false f l [a.cells.map .p,zC,zC] (by omega)
 have w2:callD (call pg) 115 [.box 0 0,.p (.int .u8 39)] (pH false (l++oprK (kidN a 0).kt 14 false) [a.cells.map .p,zC,zC])=some (.val (.p .nili),pH false (l++oprK (kidN a 0).kt 14 false++[39]) [a.cells.map .p,zC,zC]):=wbyte_eq false _ 39 (by simp;omega) _
 rw[←List.append_assoc]
 generalize l++oprK (kidN a 0).kt 14 false++[39]=l2 at *
 generalize l++oprK (kidN a 0).kt 14 false=l1 at *
 refine⟨[a.cells.map .p,zC,zC],call_body (fc:=fc66) rfl rfl rfl rfl ?_⟩
 rw[pd_cells] at lnd k0⊢
 simp only[pH,zC] at w1 w2⊢
 rw[h] at lop g1 g2
 simp[fc66,evKC,evK,put,Env.get,Env.keep,entry,Opd.ev,storeD,splice,binD,clsP,cls,clsR,isCl,isW,apartRW,offB,apartWW,clash,insOk,finish,evRes,D.cells,isMapC,o1,ld2,ld3,g1,g2,lop,lnd,k0,w1,w2]
theorem node_all(h:a.op=45)(h0:NodeOk (kidN a 0))(h1:NodeOk (kidN a 1)):∃ex,call pg 66 [.box 0 0,.p a.pd,.p (.bool fin)] (pH f l [])=some (.val .undef,pH false (l++txt a fin) ex):=by
 have ht:txt a fin=[97,108,108,32]++bndA a:=by
  rw[txt_eq];simp only[txtOf,h,kK_eq,bnd_eq];rfl
 rw[ht] at hb⊢
 try simp only[List.length_append,List.length_cons,List.length_nil] at hb
 have o1:=one_of (pd_one a)
 have g1:=ge1 f l a.op
 have g2:=ge2 f l a.op
 simp only[getT,zEnt,hl0] at g1
 simp only[getT,zEnt,hl] at g2
 have lop:∀G tk x y z r,loadD G ⟨x::y::z::a.cells.map .p::r,tk⟩ none (.box 3 0)=some (.p (.int .i64 a.op)):=fun _ _ _ _ _ _=>rfl
 have lnm:∀G tk x y z r,loadD G ⟨x::y::z::a.cells.map .p::r,tk⟩ none (.box 3 1)=some (.p (.str a.nm)):=fun _ _ _ _ _ _=>rfl
 have ln:∀G tk x y z r,loadD G ⟨x::y::z::a.cells.map .p::r,tk⟩ none (.box 3 2)=some (.p (.int .i64 a.n)):=fun _ _ _ _ _ _=>rfl
 have lks:∀G tk x y z r,loadD G ⟨x::y::z::a.cells.map .p::r,tk⟩ none (.box 3 3)=some (.p a.kidsP):=fun _ _ _ _ _ _=>rfl
 have lnd:∀G tk x y z r,loadD G ⟨x::y::z::a.cells.map .p::r,tk⟩ (some 5) (.box 3 0)=some (.p a.pd):=fun _ _ _ _ _ _=>load_ndb (i:=3) rfl
 have k0:∀H,callD (call pg) 113 [.p a.pd,.p (.int .i64 0)] H=some (.val (.p (kidN a 0).pd),H):=kid_eq a 0 (by omega)
 have w1:=wstr_eq f l [97,108,108,32] (by simp;omega) [a.cells.map .p,zC,zC]
 have w2:=bound_eq h0 h1 false (l++[97,108,108,32]) [a.cells.map .p,zC,zC] (by simp;omega)
 rw[←List.append_assoc]
 generalize l++[97,108,108,32]++bndA a=l2 at *
 generalize l++[97,108,108,32]=l1 at *
 refine⟨[a.cells.map .p,zC,zC],call_body (fc:=fc66) rfl rfl rfl rfl ?_⟩
 rw[pd_cells] at lnd k0 w2⊢
 simp only[pH,zC] at w1 w2⊢
 rw[h] at lop g1 g2
 simp[fc66,evKC,evK,put,Env.get,Env.keep,entry,Opd.ev,storeD,splice,binD,clsP,cls,clsR,isCl,isW,apartRW,offB,apartWW,clash,insOk,finish,evRes,D.cells,isMapC,o1,ld2,ld3,g1,g2,lop,lnd,w1,w2]
theorem node_ex(h:a.op=46)(h0:NodeOk (kidN a 0))(h1:NodeOk (kidN a 1)):∃ex,call pg 66 [.box 0 0,.p a.pd,.p (.bool fin)] (pH f l [])=some (.val .undef,pH false (l++txt a fin) ex):=by
 have ht:txt a fin=[115,111,109,101,32]++bndA a:=by
  rw[txt_eq];simp only[txtOf,h,kK_eq,bnd_eq];rfl
 rw[ht] at hb⊢
 try simp only[List.length_append,List.length_cons,List.length_nil] at hb
 have o1:=one_of (pd_one a)
 have g1:=ge1 f l a.op
 have g2:=ge2 f l a.op
 simp only[getT,zEnt,hl0] at g1
 simp only[getT,zEnt,hl] at g2
 have lop:∀G tk x y z r,loadD G ⟨x::y::z::a.cells.map .p::r,tk⟩ none (.box 3 0)=some (.p (.int .i64 a.op)):=fun _ _ _ _ _ _=>rfl
 have lnm:∀G tk x y z r,loadD G ⟨x::y::z::a.cells.map .p::r,tk⟩ none (.box 3 1)=some (.p (.str a.nm)):=fun _ _ _ _ _ _=>rfl
 have ln:∀G tk x y z r,loadD G ⟨x::y::z::a.cells.map .p::r,tk⟩ none (.box 3 2)=some (.p (.int .i64 a.n)):=fun _ _ _ _ _ _=>rfl
 have lks:∀G tk x y z r,loadD G ⟨x::y::z::a.cells.map .p::r,tk⟩ none (.box 3 3)=some (.p a.kidsP):=fun _ _ _ _ _ _=>rfl
 have lnd:∀G tk x y z r,loadD G ⟨x::y::z::a.cells.map .p::r,tk⟩ (some 5) (.box 3 0)=some (.p a.pd):=fun _ _ _ _ _ _=>load_ndb (i:=3) rfl
 have k0:∀H,callD (call pg) 113 [.p a.pd,.p (.int .i64 0)] H=some (.val (.p (kidN a 0).pd),H):=kid_eq a 0 (by omega)
 have w1:=wstr_eq f l [115,111,109,101,32] (by simp;omega) [a.cells.map .p,zC,zC]
 have w2:=bound_eq h0 h1 false (l++[115,111,109,101,32]) [a.cells.map .p,zC,zC] (by simp;omega)
 rw[←List.append_assoc]
 generalize l++[115,111,109,101,32]++bndA a=l2 at *
 generalize l++[115,111,109,101,32]=l1 at *
 refine⟨[a.cells.map .p,zC,zC],call_body (fc:=fc66) rfl rfl rfl rfl ?_⟩
 rw[pd_cells] at lnd k0 w2⊢
 simp only[pH,zC] at w1 w2⊢
 rw[h] at lop g1 g2
 simp[fc66,evKC,evK,put,Env.get,Env.keep,entry,Opd.ev,storeD,splice,binD,clsP,cls,clsR,isCl,isW,apartRW,offB,apartWW,clash,insOk,finish,evRes,D.cells,isMapC,o1,ld2,ld3,g1,g2,lop,lnd,w1,w2]
theorem node_compr(h:a.op=15)(h0:NodeOk (kidN a 0))(h1:NodeOk (kidN a 1)):∃ex,call pg 66 [.box 0 0,.p a.pd,.p (.bool fin)] (pH f l [])=some (.val .undef,pH false (l++txt a fin) ex):=by
 have ht:txt a fin=[123]++(bndA a++[125]):=by
  rw[txt_eq];simp only[txtOf,h,kK_eq,bnd_eq];rfl
 rw[ht] at hb⊢
 try simp only[List.length_append,List.length_cons,List.length_nil] at hb
 have o1:=one_of (pd_one a)
 have g1:=ge1 f l a.op
 have g2:=ge2 f l a.op
 simp only[getT,zEnt,hl0] at g1
 simp only[getT,zEnt,hl] at g2
 have lop:∀G tk x y z r,loadD G ⟨x::y::z::a.cells.map .p::r,tk⟩ none (.box 3 0)=some (.p (.int .i64 a.op)):=fun _ _ _ _ _ _=>rfl
 have lnm:∀G tk x y z r,loadD G ⟨x::y::z::a.cells.map .p::r,tk⟩ none (.box 3 1)=some (.p (.str a.nm)):=fun _ _ _ _ _ _=>rfl
 have ln:∀G tk x y z r,loadD G ⟨x::y::z::a.cells.map .p::r,tk⟩ none (.box 3 2)=some (.p (.int .i64 a.n)):=fun _ _ _ _ _ _=>rfl
 have lks:∀G tk x y z r,loadD G ⟨x::y::z::a.cells.map .p::r,tk⟩ none (.box 3 3)=some (.p a.kidsP):=fun _ _ _ _ _ _=>rfl
 have lnd:∀G tk x y z r,loadD G ⟨x::y::z::a.cells.map .p::r,tk⟩ (some 5) (.box 3 0)=some (.p a.pd):=fun _ _ _ _ _ _=>load_ndb (i:=3) rfl
 have k0:∀H,callD (call pg) 113 [.p a.pd,.p (.int .i64 0)] H=some (.val (.p (kidN a 0).pd),H):=kid_eq a 0 (by omega)
 have w1:callD (call pg) 115 [.box 0 0,.p (.int .u8 123)] (pH f l [a.cells.map .p,zC,zC])=some (.val (.p .nili),pH false (l++[123]) [a.cells.map .p,zC,zC]):=wbyte_eq f _ 123 (by omega) _
 have w2:=bound_eq h0 h1 false (l++[123]) [a.cells.map .p,zC,zC] (by simp;omega)
 have w3:callD (call pg) 115 [.box 0 0,.p (.int .u8 125)] (pH false (l++[123]++bndA a) [a.cells.map .p,zC,zC])=some (.val (.p .nili),pH false (l++[123]++bndA a++[125]) [a.cells.map .p,zC,zC]):=wbyte_eq false _ 125 (by simp;omega) _
 rw[show l++([123]++(bndA a++[125]))=l++[123]++bndA a++[125] by simp]
 generalize l++[123]++bndA a++[125]=l3 at *
 generalize l++[123]++bndA a=l2 at *
 generalize l++[123]=l1 at *
 refine⟨[a.cells.map .p,zC,zC],call_body (fc:=fc66) rfl rfl rfl rfl ?_⟩
 rw[pd_cells] at lnd k0 w2⊢
 simp only[pH,zC] at w1 w2 w3⊢
 rw[h] at lop g1 g2
 simp[fc66,evKC,evK,put,Env.get,Env.keep,entry,Opd.ev,storeD,splice,binD,clsP,cls,clsR,isCl,isW,apartRW,offB,apartWW,clash,insOk,finish,evRes,D.cells,isMapC,o1,ld2,ld3,g1,g2,lop,lnd,w1,w2,w3]
theorem node_call(h:a.op=47)(hks:∀x∈a.ks,NodeOk x)(hlen:a.ks.length≤1000000000):∃ex,call pg 66 [.box 0 0,.p a.pd,.p (.bool fin)] (pH f l [])=some (.val .undef,pH false (l++txt a fin) ex):=by
 have ht:txt a fin=a.nm++([91]++(joinL [44,32] (argsT a)++[93])):=by
  rw[txt_eq];simp only[txtOf,h,kK_eq,bnd_eq];show a.nm++([91]++(joinL [44,32] ((a.ks.map Nd.kt).map fun k=>oprK k 8 true)++[93]))=_;simp[argsT,List.map_map,Function.comp_def]
 rw[ht] at hb⊢
 try simp only[List.length_append,List.length_cons,List.length_nil] at hb
 have o1:=one_of (pd_one a)
 have g1:=ge1 f l a.op
 have g2:=ge2 f l a.op
 simp only[getT,zEnt,hl0] at g1
 simp only[getT,zEnt,hl] at g2
 have lop:∀G tk x y z r,loadD G ⟨x::y::z::a.cells.map .p::r,tk⟩ none (.box 3 0)=some (.p (.int .i64 a.op)):=fun _ _ _ _ _ _=>rfl
 have lnm:∀G tk x y z r,loadD G ⟨x::y::z::a.cells.map .p::r,tk⟩ none (.box 3 1)=some (.p (.str a.nm)):=fun _ _ _ _ _ _=>rfl
 have ln:∀G tk x y z r,loadD G ⟨x::y::z::a.cells.map .p::r,tk⟩ none (.box 3 2)=some (.p (.int .i64 a.n)):=fun _ _ _ _ _ _=>rfl
 have lks:∀G tk x y z r,loadD G ⟨x::y::z::a.cells.map .p::r,tk⟩ none (.box 3 3)=some (.p a.kidsP):=fun _ _ _ _ _ _=>rfl
 have lnd:∀G tk x y z r,loadD G ⟨x::y::z::a.cells.map .p::r,tk⟩ (some 5) (.box 3 0)=some (.p a.pd):=fun _ _ _ _ _ _=>load_ndb (i:=3) rfl
 have k0:∀H,callD (call pg) 113 [.p a.pd,.p (.int .i64 0)] H=some (.val (.p (kidN a 0).pd),H):=kid_eq a 0 (by omega)
 have hnm:a.nm.length≤140737488355327:=by omega
 have w1:=wstr_eq f l (a.nm++[91]) (by simp;omega) [a.cells.map .p,zC,zC]
 have w2:=list_eq hks hlen (l++(a.nm++[91])) [a.cells.map .p,zC,zC] (by simp;omega)
 have w3:callD (call pg) 115 [.box 0 0,.p (.int .u8 93)] (pH false (l++(a.nm++[91])++joinL [44,32] (argsT a)) [a.cells.map .p,zC,zC])=some (.val (.p .nili),pH false (l++(a.nm++[91])++joinL [44,32] (argsT a)++[93]) [a.cells.map .p,zC,zC]):=wbyte_eq false _ 93 (by simp;omega) _
 rw[show l++(a.nm++([91]++(joinL [44,32] (argsT a)++[93])))=l++(a.nm++[91])++joinL [44,32] (argsT a)++[93] by simp]
 generalize l++(a.nm++[91])++joinL [44,32] (argsT a)++[93]=l3 at *
 generalize l++(a.nm++[91])++joinL [44,32] (argsT a)=l2 at *
 generalize l++(a.nm++[91])=l1 at *
 refine⟨[a.cells.map .p,zC,zC],call_body (fc:=fc66) rfl rfl rfl rfl ?_⟩
 rw[pd_cells] at lnd k0⊢
 simp only[pH,zC] at w1 w2 w3⊢
 rw[h] at lop g1 g2
 simp[fc66,evKC,evK,put,Env.get,Env.keep,entry,Opd.ev,storeD,splice,binD,strBin,clsP,cls,clsR,isCl,isW,apartRW,offB,apartWW,clash,insOk,finish,evRes,D.cells,D.refsL,D.refs,D.toksL,D.toks,isMapC,o1,ld2,ld3,g1,g2,lop,lnm,lks,w1,w2,w3,hnm]
theorem node_none1(h:a.op=2)(h1:a.n=1):∃ex,call pg 66 [.box 0 0,.p a.pd,.p (.bool fin)] (pH f l [])=some (.val .undef,pH false (l++txt a fin) ex):=by
 have ht:txt a fin=[110,111,110,101]:=by
  rw[txt_eq];simp only[txtOf,h,kK_eq,bnd_eq];simp[h1];rfl
 rw[ht] at hb⊢
 try simp only[List.length_cons,List.length_nil] at hb
 have o1:=one_of (pd_one a)
 have g1:=ge1 f l a.op
 have g2:=ge2 f l a.op
 simp only[getT,zEnt,hl0] at g1
 simp only[getT,zEnt,hl] at g2
 have lop:∀G tk x y z r,loadD G ⟨x::y::z::a.cells.map .p::r,tk⟩ none (.box 3 0)=some (.p (.int .i64 a.op)):=fun _ _ _ _ _ _=>rfl
 have lnm:∀G tk x y z r,loadD G ⟨x::y::z::a.cells.map .p::r,tk⟩ none (.box 3 1)=some (.p (.str a.nm)):=fun _ _ _ _ _ _=>rfl
 have ln:∀G tk x y z r,loadD G ⟨x::y::z::a.cells.map .p::r,tk⟩ none (.box 3 2)=some (.p (.int .i64 a.n)):=fun _ _ _ _ _ _=>rfl
 have lks:∀G tk x y z r,loadD G ⟨x::y::z::a.cells.map .p::r,tk⟩ none (.box 3 3)=some (.p a.kidsP):=fun _ _ _ _ _ _=>rfl
 have lnd:∀G tk x y z r,loadD G ⟨x::y::z::a.cells.map .p::r,tk⟩ (some 5) (.box 3 0)=some (.p a.pd):=fun _ _ _ _ _ _=>load_ndb (i:=3) rfl
 have k0:∀H,callD (call pg) 113 [.p a.pd,.p (.int .i64 0)] H=some (.val (.p (kidN a 0).pd),H):=kid_eq a 0 (by omega)
 have w1:=wstr_eq f l [110,111,110,101] (by simp;omega) [a.cells.map .p,zC,zC]
 refine⟨[a.cells.map .p,zC,zC],call_body (fc:=fc66) rfl rfl rfl rfl ?_⟩
 rw[pd_cells] at lnd k0⊢
 simp only[pH,zC] at w1⊢
 rw[h] at lop g1 g2
 simp[fc66,evKC,evK,put,Env.get,Env.keep,entry,Opd.ev,storeD,splice,binD,clsP,cls,clsR,isCl,isW,apartRW,offB,apartWW,clash,insOk,finish,evRes,D.cells,isMapC,o1,ld2,ld3,g1,g2,lop,ln,w1,h1]
theorem node_none2(h:a.op=2)(h1:¬a.n=1)(hn:i64 a.n):∃ex,call pg 66 [.box 0 0,.p a.pd,.p (.bool fin)] (pH f l [])=some (.val .undef,pH false (l++txt a fin) ex):=by
 have ht:txt a fin=[110,111,110,101]++([91]++(Lib.itoa a.n++[93])):=by
  rw[txt_eq];simp only[txtOf,h,kK_eq,bnd_eq];simp[h1];rfl
 rw[ht] at hb⊢
 try simp only[List.length_append,List.length_cons,List.length_nil] at hb
 have o1:=one_of (pd_one a)
 have g1:=ge1 f l a.op
 have g2:=ge2 f l a.op
 simp only[getT,zEnt,hl0] at g1
 simp only[getT,zEnt,hl] at g2
 have lop:∀G tk x y z r,loadD G ⟨x::y::z::a.cells.map .p::r,tk⟩ none (.box 3 0)=some (.p (.int .i64 a.op)):=fun _ _ _ _ _ _=>rfl
 have lnm:∀G tk x y z r,loadD G ⟨x::y::z::a.cells.map .p::r,tk⟩ none (.box 3 1)=some (.p (.str a.nm)):=fun _ _ _ _ _ _=>rfl
 have ln:∀G tk x y z r,loadD G ⟨x::y::z::a.cells.map .p::r,tk⟩ none (.box 3 2)=some (.p (.int .i64 a.n)):=fun _ _ _ _ _ _=>rfl
 have lks:∀G tk x y z r,loadD G ⟨x::y::z::a.cells.map .p::r,tk⟩ none (.box 3 3)=some (.p a.kidsP):=fun _ _ _ _ _ _=>rfl
 have lnd:∀G tk x y z r,loadD G ⟨x::y::z::a.cells.map .p::r,tk⟩ (some 5) (.box 3 0)=some (.p a.pd):=fun _ _ _ _ _ _=>load_ndb (i:=3) rfl
 have k0:∀H,callD (call pg) 113 [.p a.pd,.p (.int .i64 0)] H=some (.val (.p (kidN a 0).pd),H):=kid_eq a 0 (by omega)
 have hi:=itoa_eq hn
 have h1':(a.n !=1)=true:=by simpa using h1
 have hil:(Lib.itoa a.n).length≤140737488355320:=by omega
 have hil2:1+(Lib.itoa a.n).length≤140737488355328:=by omega
 have hil3:(Lib.itoa a.n).length+1≤140737488355328:=by omega
 have hil4:(Lib.itoa a.n).length+1+1≤140737488355328:=by omega
 have w1:=wstr_eq f l [110,111,110,101] (by simp;omega) [a.cells.map .p,zC,zC]
 have w2:=wstr_eq false (l++[110,111,110,101]) ([91]++Lib.itoa a.n++[93]) (by simp;omega) [a.cells.map .p,zC,zC]
 rw[show l++([110,111,110,101]++([91]++(Lib.itoa a.n++[93])))=l++[110,111,110,101]++([91]++Lib.itoa a.n++[93]) by simp]
 generalize l++[110,111,110,101]++([91]++Lib.itoa a.n++[93])=l2 at *
 generalize l++[110,111,110,101]=l1 at *
 simp only[List.cons_append,List.nil_append] at w2
 refine⟨[a.cells.map .p,zC,zC],call_body (fc:=fc66) rfl rfl rfl rfl ?_⟩
 rw[pd_cells] at lnd k0⊢
 simp only[pH,zC] at w1 w2⊢
 rw[h] at lop g1 g2
 simp[fc66,evKC,evK,put,Env.get,Env.keep,entry,Opd.ev,storeD,splice,binD,strBin,clsP,cls,clsR,isCl,isW,apartRW,offB,apartWW,clash,insOk,finish,evRes,D.cells,D.refsL,D.refs,D.toksL,D.toks,isMapC,o1,ld2,ld3,g1,g2,lop,ln,w1,w2,hi,h1',hil2,hil4]
end
end Go.Proofs.YtalgjkpkkdljaaaGreatDoor.Pj
namespace Go.Proofs.YtalgjkpkkdljaaaGreatDoor.Pj
open Go.Vs
theorem cls_ins(c:Bool)(n m k:Nat):((n,m+1)=if c=true then((1 :Nat),(0 :Nat)) else(k,0))=False:=by
 cases c<;>simp
theorem node_const{a:Nd}(hl0:look binT a.op=none)(hl:look preT a.op=none)(fin f:Bool)(l:List UInt8)(hb:l.length+(txt a fin).length≤100000000000000)
    (h1:a.op≠1) (h2:a.op≠2) (h3:a.op≠20) (h4:a.op≠5) (h5:a.op≠45) (h6:a.op≠46) (h7:a.op≠15) (h8:a.op≠47):∃ex,call pg 66 [.box 0 0,.p a.pd,.p (.bool fin)] (pH f l [])=some (.val .undef,pH false (l++txt a fin) ex):=by
 have ht:txt a fin=constT a.op:=by
  rw[txt_eq];simp only[txtOf,hl0,hl,h1,h2,h3,h4,h5,h6,h7,h8,if_false]
 rw[ht] at hb⊢
 have o1:=one_of (pd_one a)
 have g1:=ge1 f l a.op
 have g2:=ge2 f l a.op
 simp only[getT,zEnt,hl0] at g1
 simp only[getT,zEnt,hl] at g2
 have lop:∀G tk x y z r,loadD G ⟨x::y::z::a.cells.map .p::r,tk⟩ none (.box 3 0)=some (.p (.int .i64 a.op)):=fun _ _ _ _ _ _=>rfl
 have mi1:∀x0 x1 x2 x3 x4 x5 tk,mapinsD 13 (.mapr 6) (.p (.int .i64 3)) (.p (.str [117,110,105,118])) ⟨x0::x1::x2::x3::x4::x5::[[.mapc 13 [] []]],tk⟩=some (.undef,⟨x0::x1::x2::x3::x4::x5::[[.mapc 13 [.int .i64 3] [.p (.str [117,110,105,118])]]],tk⟩):=fun _ _ _ _ _ _ _=>rfl
 have mi2:∀x0 x1 x2 x3 x4 x5 tk,mapinsD 13 (.mapr 6) (.p (.int .i64 4)) (.p (.str [105,100,101,110])) ⟨x0::x1::x2::x3::x4::x5::[[.mapc 13 [.int .i64 3] [.p (.str [117,110,105,118])]]],tk⟩=some (.undef,⟨x0::x1::x2::x3::x4::x5::[[.mapc 13 [.int .i64 3,.int .i64 4] [.p (.str [117,110,105,118]),.p (.str [105,100,101,110])]]],tk⟩):=fun _ _ _ _ _ _ _=>rfl
 have mi3:∀x0 x1 x2 x3 x4 x5 tk,mapinsD 13 (.mapr 6) (.p (.int .i64 30)) (.p (.str [116,114,117,101])) ⟨x0::x1::x2::x3::x4::x5::[[.mapc 13 [.int .i64 3,.int .i64 4] [.p (.str [117,110,105,118]),.p (.str [105,100,101,110])]]],tk⟩=some (.undef,⟨x0::x1::x2::x3::x4::x5::[[.mapc 13 [.int .i64 3,.int .i64 4,.int .i64 30] [.p (.str [117,110,105,118]),.p (.str [105,100,101,110]),.p (.str [116,114,117,101])]]],tk⟩):=fun _ _ _ _ _ _ _=>rfl
 have mi4:∀x0 x1 x2 x3 x4 x5 tk,mapinsD 13 (.mapr 6) (.p (.int .i64 31)) (.p (.str [102,97,108,115,101])) ⟨x0::x1::x2::x3::x4::x5::[[.mapc 13 [.int .i64 3,.int .i64 4,.int .i64 30] [.p (.str [117,110,105,118]),.p (.str [105,100,101,110]),.p (.str [116,114,117,101])]]],tk⟩=some (.undef,⟨x0::x1::x2::x3::x4::x5::[[.mapc 13 [.int .i64 3,.int .i64 4,.int .i64 30,.int .i64 31] [.p (.str [117,110,105,118]),.p (.str [105,100,101,110]),.p (.str [116,114,117,101]),.p (.str [102,97,108,115,101])]]],tk⟩):=fun _ _ _ _ _ _ _=>rfl
 have mg:∀x0 x1 x2 x3 x4 x5 tk,mapgetD 13 (.str []) false (.mapr 6) (.p (.int .i64 a.op)) ⟨x0::x1::x2::x3::x4::x5::[[.mapc 13 [.int .i64 3,.int .i64 4,.int .i64 30,.int .i64 31] [.p (.str [117,110,105,118]),.p (.str [105,100,101,110]),.p (.str [116,114,117,101]),.p (.str [102,97,108,115,101])]]],tk⟩=some (.p (.str (constT a.op))):=by
  intro x0 x1 x2 x3 x4 x5 tk
  have hk:keyKind (.int .i64 a.op)=13:=rfl
  simp only[mapgetD,List.getElem?_cons_succ,List.getElem?_cons_zero,hk,true_and,ne_eq,findK,keyEq,beq_iff_eq,constT]
  by_cases e1:a.op=3
  ·simp[e1]
  by_cases e2:a.op=4
  ·simp[e2]
  by_cases e3:a.op=30
  ·simp[e3]
  by_cases e4:a.op=31
  ·simp[e4]
  simp[e1,e2,e3,e4]
 let mb:List D:=[.mapc 13 [.int .i64 3,.int .i64 4,.int .i64 30,.int .i64 31] [.p (.str [117,110,105,118]),.p (.str [105,100,101,110]),.p (.str [116,114,117,101]),.p (.str [102,97,108,115,101])]]
 have w1:=wstr_eq f l (constT a.op) (by omega) [a.cells.map .p,zC,zC,mb]
 refine⟨[a.cells.map .p,zC,zC,mb],call_body (fc:=fc66) rfl rfl rfl rfl ?_⟩
 have b1:(a.op==1)=false:=by simpa using h1
 have b2:(a.op==2)=false:=by simpa using h2
 have b3:(a.op==20)=false:=by simpa using h3
 have b4:(a.op==5)=false:=by simpa using h4
 have b5:(a.op==45)=false:=by simpa using h5
 have b6:(a.op==46)=false:=by simpa using h6
 have b7:(a.op==15)=false:=by simpa using h7
 have b8:(a.op==47)=false:=by simpa using h8
 have c4:=fun c k=>cls_ins c 16 3 k
 have c5:=fun c k=>cls_ins c 16 4 k
 have c31:=fun c k=>cls_ins c 16 30 k
 have c32:=fun c k=>cls_ins c 16 31 k
 simp only[Nat.reduceAdd] at c4 c5 c31 c32
 rw[pd_cells]
 simp only[pH,zC,mb] at w1⊢
 simp[fc66,evKC,evK,put,Env.get,Env.keep,entry,Opd.ev,storeD,splice,binD,clsP,cls,clsR,isCl,isW,apartRW,offB,apartWW,clash,insOk,finish,evRes,D.cells,D.refsL,D.refs,D.toksL,D.toks,isMapC,o1,ld2,ld3,g1,g2,lop,b1,b2,b3,b4,b5,b6,b7,b8,mi1,mi2,mi3,mi4,mg,w1,keyCode,c4,c5,c31,c32]
mutual
def _root_.Go.Proofs.YtalgjkpkkdljaaaGreatDoor.Nd.i64s:Nd→Prop
 | .mk _ _ n _ ks _=>i64 n∧Nd.i64sL ks
def _root_.Go.Proofs.YtalgjkpkkdljaaaGreatDoor.Nd.i64sL:List Nd→Prop
 |[]=>True
 |k::ks=>k.i64s∧Nd.i64sL ks
end
theorem i64s_n{a:Nd}(h:a.i64s):i64 a.n:=by cases a;exact h.1
theorem i64sL_mem:∀{ks:List Nd} {x:Nd},Nd.i64sL ks→x∈ks→x.i64s
 |k::ks,x,h,hx=>by
  rcases List.mem_cons.1 hx with q |q
  ·rw[q];exact h.1
  ·exact i64sL_mem h.2 q
theorem i64s_kid{a x:Nd}(h:a.i64s)(hx:x∈a.ks):x.i64s:=by cases a;exact i64sL_mem h.2 hx
theorem size_memL:∀{ks:List Nd} {x:Nd},x∈ks→x.size≤Nd.sizeL ks
 |k::ks,x,hx=>by
  simp only[Nd.sizeL]
  rcases List.mem_cons.1 hx with q |q
  ·rw[q];omega
  ·have:=size_memL q;omega
theorem size_lt{a x:Nd}(hx:x∈a.ks):x.size<a.size:=by
 cases a
 have:=size_memL hx
 simp only[Nd.size,Nd.ks] at *
 omega
theorem size_pos(a:Nd):1≤a.size:=by cases a;simp only[Nd.size];omega
theorem lenL_size:∀ks:List Nd,ks.length≤Nd.sizeL ks
 |[]=>Nat.le_refl _
 |k::ks=>by
  have:=lenL_size ks
  have:=size_pos k
  simp only[Nd.sizeL,List.length_cons];omega
theorem len_size(a:Nd):a.ks.length≤a.size:=by
 cases a with
 |mk op nm n c ks pos=>
  have:=lenL_size ks
  simp only[Nd.size,Nd.ks];omega
theorem nodeOk_of{a:Nd}(h:∀(fin f:Bool) (l:List UInt8),l.length+(txt a fin).length≤100000000000000→∃ex,call pg 66 [.box 0 0,.p a.pd,.p (.bool fin)] (pH f l [])=some (.val .undef,pH false (l++txt a fin) ex)):NodeOk a:=by
 intro fin f l bx hb
 obtain⟨ex,h⟩:=h fin f l hb
 exact callD_pr (args:=[a.pd,.bool fin]) (fun _ _=>rfl) h
theorem node_zero:NodeOk zN:=nodeOk_of fun fin f l hb=>node_const (a:=zN) rfl rfl fin f l hb (by decide) (by decide) (by decide) (by decide) (by decide) (by decide) (by decide) (by decide)
theorem node_kid{a:Nd}(hk:∀x∈a.ks,NodeOk x)(i:Nat):NodeOk (kidN a i):=by
 unfold kidN
 cases h:a.ks[i]? with
 |none=>exact node_zero
 |some x=>exact hk x (List.mem_of_getElem? h)
def NodeC(a:Nd):Prop:=∀(fin f:Bool) (l:List UInt8),l.length+(txt a fin).length≤100000000000000→∃ex,call pg 66 [.box 0 0,.p a.pd,.p (.bool fin)] (pH f l [])=some (.val .undef,pH false (l++txt a fin) ex)
theorem node_every:∀(s:Nat) (a:Nd),a.size≤s→s≤1000000000→a.i64s→NodeC a:=by
 intro s
 induction s with
 |zero=>intro a h;have:=size_pos a;omega
 |succ s ih=>
  intro a hs hb hi
  have hk:∀x∈a.ks,NodeOk x:=fun x hx=>nodeOk_of (ih x (by have:=size_lt hx;omega) (by omega) (i64s_kid hi hx))
  have k0:=node_kid hk 0
  have k1:=node_kid hk 1
  have hn:=i64s_n hi
  have hlen:a.ks.length≤1000000000:=by have:=len_size a;omega
  intro fin f l hl
  cases h0:look binT a.op with
  |some e=>exact node_bin h0 k0 k1 fin f l hl
  |none=>
   cases h1:look preT a.op with
   |some e=>exact node_pre h0 h1 k0 fin f l hl
   |none=>
    by_cases e1:a.op=1
    ·exact node_name h0 h1 fin f l hl e1
    by_cases e2:a.op=2
    ·by_cases en:a.n=1
     ·exact node_none1 h0 h1 fin f l hl e2 en
     ·exact node_none2 h0 h1 fin f l hl e2 en hn
    by_cases e3:a.op=20
    ·exact node_lit h0 h1 fin f l hl e3 hn
    by_cases e4:a.op=5
    ·exact node_prime h0 h1 fin f l hl e4 k0
    by_cases e5:a.op=45
    ·exact node_all h0 h1 fin f l hl e5 k0 k1
    by_cases e6:a.op=46
    ·exact node_ex h0 h1 fin f l hl e6 k0 k1
    by_cases e7:a.op=15
    ·exact node_compr h0 h1 fin f l hl e7 k0 k1
    by_cases e8:a.op=47
    ·exact node_call h0 h1 fin f l hl e8 hk hlen
    exact node_const h0 h1 fin f l hl e1 e2 e3 e4 e5 e6 e7 e8
theorem callD_ofP{c:CallR}{f:Nat}{args:List D}{H:Hp}(ids tks:List Nat){as1:List D}{bx:List (List D)}{tk:List Nat}{r:Res}{H':Hp}
    (h1:reach H H.bx.length (ins [] (D.refsL args))=ids) (h2:ins [] (D.toksL args++boxToks H ids)=tks) (h3:(Vs.nodupB ids&&Vs.nodupB tks)=true)
    (h4:D.renL (idx ids) (idx tks) args=some as1) (h5:mapO (fun i=>match H.bx[i]? with |some cs=>D.renL (idx ids) (idx tks) cs |none=>none) ids=some bx)
    (h6:mapO (fun t=>H.tk[t]?) tks=some tk) (h7:c f as1 ⟨bx,tk⟩=some (r,H')):callD c f args H=back ids tks H r H':=by
 simp only[callD,h1,h2,h3,h4,h6,if_true]
 erw [h5]
 simp only[h7]
def prF(f:Bool)(l:List UInt8):List D:=[if f then .fresh 116 4 3 else .box 3 0,.tsl 0 5 1 (bytesP l),.mapr 1,.mapr 2]
def FH(a:Nd)(f:Bool)(l:List UInt8):Hp:=⟨[a.cells.map .p,tabM binT,tabM preT,prF f l],[l.length]⟩
theorem new_eq(b0:List D):callD (call pg) 65 [] ⟨[b0],[]⟩=some (.val (.box 3 0),⟨[b0,tabM binT,tabM preT,[.fresh 116 4 3,.p .nils,.mapr 1,.mapr 2]],[]⟩):=by
 refine(callD_ofP (as1:=[]) [] [] rfl rfl rfl rfl rfl rfl (call_of_evF 10 new_run)).trans ?_
 simp[back,firstN,mapO,Res.ren,D.ren,D.renL,ren_tab,putAll]
theorem refs_tab(t:List Ent):D.refsL (tabM t)=[]:=by
 have :∀l:List PD,D.refsL (l.map .p)=[]:=fun l=>by induction l with |nil=>rfl |cons x l ih=>simp[D.refsL,D.refs,ih]
 have e:(t.map fun e=>D.p e.pd)=(t.map Ent.pd).map D.p:=by simp
 simp only[tabM,e,D.refsL,D.refs,this,List.append_nil]
theorem toks_tab(t:List Ent):D.toksL (tabM t)=[]:=by
 have :∀l:List PD,D.toksL (l.map .p)=[]:=fun l=>by induction l with |nil=>rfl |cons x l ih=>simp[D.toksL,D.toks,ih]
 have e:(t.map fun e=>D.p e.pd)=(t.map Ent.pd).map D.p:=by simp
 simp only[tabM,e,D.toksL,D.toks,this,List.append_nil]
theorem callF{g:Nat}{args:List PD}{a:Nd}{f f':Bool}{l l':List UInt8}{d:D}{ex:List (List D)}(hd:∀bi ti,d.ren bi ti=some d)
    (h:call pg g (.box 0 0::args.map .p) (pH f l [])=some (.val d,pH f' l' ex)):callD (call pg) g (.box 3 0::args.map .p) (FH a f l)=some (.val d,FH a f' l'):=by
 have rp:∀l:List PD,D.refsL (l.map .p)=[]:=fun l=>by induction l with |nil=>rfl |cons x l ih=>simp[D.refsL,D.refs,ih]
 have tp:∀l:List PD,D.toksL (l.map .p)=[]:=fun l=>by induction l with |nil=>rfl |cons x l ih=>simp[D.toksL,D.toks,ih]
 have z0:ins [] (D.refsL (D.box 3 0::args.map .p))=[3]:=by simp[D.refsL,D.refs,rp,ins]
 have q1:reach (FH a f l) (FH a f l).bx.length (ins [] (D.refsL (D.box 3 0::args.map .p)))=[3,1,2]:=by
  rw[z0]
  cases f<;>simp[reach,boxRefs,ins,FH,prF,refs_tab,D.refsL,D.refs]
 have q2:ins [] (D.toksL (D.box 3 0::args.map .p)++boxToks (FH a f l) [3,1,2])=[0]:=by
  cases f<;>simp[boxToks,ins,FH,prF,toks_tab,D.toksL,D.toks,tp]
 have k3:idx [3,1,2] 3=some 0:=rfl
 have k1:idx [3,1,2] 1=some 1:=rfl
 have k2:idx [3,1,2] 2=some 2:=rfl
 have k0:idx [0] 0=some 0:=rfl
 have q4:D.renL (idx [3,1,2]) (idx [0]) (D.box 3 0::args.map .p)=some (.box 0 0::args.map .p):=by
  simp only[D.renL,D.ren,k3,renL_p,Option.map_some]
 have q5:mapO (fun i=>match(FH a f l).bx[i]? with |some cs=>D.renL (idx [3,1,2]) (idx [0]) cs |none=>none) [3,1,2]=some (pH f l []).bx:=by
  cases f<;>simp[mapO,FH,prF,pH,prC,ren_tab,D.renL,D.ren,k0,k1,k2,k3]
 refine(callD_ofP [3,1,2] [0] q1 q2 rfl q4 q5 rfl h).trans ?_
 cases f'<;>simp[back,firstN,mapO,FH,prF,pH,prC,ren_tab,D.renL,D.ren,Res.ren,hd,putAll]
theorem formula0{a:Nd}(hs:a.size≤1000000000)(hi:a.i64s)(hb:(txt a true).length≤100000000000000):∃H',call pg 34 [.p a.pd] ⟨[],[]⟩=some (.val (.p (.str (txt a true))),H'):=by
 have hkn:=pone_kids a
 have nw:=new_eq (a.cells.map .p)
 have nd:∃ex,call pg 66 (.box 0 0::[a.pd,.bool true].map .p) (pH true [] [])=some (.val .undef,pH false (txt a true) ex):=by
  exact node_every 1000000000 a hs (Nat.le_refl _) hi true true [] (by simpa using hb)
 obtain⟨ex,nd⟩:=nd
 have c1:=callF (a:=a) (fun _ _=>rfl) nd
 have c2:=callF (a:=a) (args:=[]) (fun _ _=>rfl) (bstr0 false (txt a true) (by omega))
 refine⟨FH a false (txt a true),call_body (fc:=fc34) rfl rfl rfl rfl ?_⟩
 simp only[FH,prF,List.map_cons,List.map_nil,pd_cells a,Nd.cells,bytesP,List.length_nil,if_true,Bool.false_eq_true,if_false] at nw c1 c2⊢
 simp[fc34,evKC,evK,put,Env.get,Env.keep,entry,Opd.ev,loadD,cutAt,sub,finish,evRes,evRes1,D.cells,mkAgg,pures,isMapC,nw,c1,c2,tokbD,tokD]
theorem formula_eq{a:Nd}(hs:a.size≤1000000000)(hi:a.i64s)(hb:(txt a true).length≤100000000000000)(H:Hp):callD (call pg) 34 [.p a.pd] H=some (.val (.p (.str (txt a true))),H):=
 callD_any (formula0 hs hi hb) rfl rfl rfl rfl H
end Go.Proofs.YtalgjkpkkdljaaaGreatDoor.Pj
namespace Go.Proofs.YtalgjkpkkdljaaaGreatDoor
open Go.Vs
theorem eqN_er:∀(s:Nat) (m n:Nd),m.size≤s→m.er=n.er→eqN m n=true:=by
 intro s
 induction s with
 |zero=>intro m n h;have:=size_eq m;omega
 |succ s ih=>
  intro m n hs he
  obtain⟨h1,h2,h3,h4⟩:=er_iff.1 he
  have hsz:=size_eq m
  have hL:∀(x y:List Nd),Nd.sizeL x≤s→x.map Nd.er=y.map Nd.er→eqNL x y=true:=by
   intro x
   induction x with
   |nil=>
    intro y _ h
    cases y with
    |nil=>rfl
    |cons=>cases h
   |cons a x ihx=>
    intro y hb h
    cases y with
    |nil=>cases h
    |cons b y=>
     simp only[Nd.sizeL] at hb
     rw[List.map_cons,List.map_cons,List.cons.injEq] at h
     simp only[eqNL,Bool.and_eq_true]
     exact⟨ih a b (by omega) h.1,ihx y (by omega) h.2⟩
  rw[eqN_eq,←eqNL_all,hL m.ks n.ks (by omega) h4,h1,h2,h3]
  simp
theorem own_i64{a:Nd}(h:ownN a=true):i64 a.n:=by
 unfold ownN ownB at h
 unfold i64
 split at h
 ·rw[Bool.and_eq_true] at h
  have:=eq_of_beq h.2
  omega
 ·split at h
  ·simp only[Bool.and_eq_true,decide_eq_true_eq] at h
   omega
  ·split at h
   ·simp only[Bool.and_eq_true,decide_eq_true_eq] at h
    omega
   ·rw[Bool.and_eq_true] at h
    have:=eq_of_beq h.2
    omega
theorem valid_i64s:∀(s:Nat) (a:Nd),a.size≤s→validN a=true→a.i64s:=by
 intro s
 induction s with
 |zero=>intro a h;have:=size_eq a;omega
 |succ s ih=>
  intro a hs hv
  obtain⟨_,hown,_,_⟩:=valid_parts hv
  have h1:=own_i64 hown
  have h2:∀ks:List Nd,(∀k∈ks,k.i64s)→Nd.i64sL ks:=fun ks=>by
   induction ks with
   |nil=>intro _;trivial
   |cons k ks ihk=>intro h;exact⟨h k List.mem_cons_self,ihk fun x hx=>h x (List.mem_cons_of_mem _ hx)⟩
  have h3:=h2 a.ks fun k hk=>ih k (by have:=size_kid hk;omega) (valid_kid hv hk)
  cases a
  exact⟨h1,h3⟩
theorem law10_of(a:Nd)(hpt:validN a=true→∃l,Pt 24 a true l∧LxOk CpB (Pj.txt a true) l)(hlen:validN a=true→a.size≤400→(Pj.txt a true).length≤20000):∃H',call pg 10 [.p a.pd] ⟨[],[]⟩=some (.val (.p (.bool true)),H'):=by
 have o1:=one_all a
 have hhead:=head32_call
 have hfrm:=fun H=>frmR_eq a H
 have lnd:∀G tk,loadD G ⟨[a.cells.map .p],tk⟩ (some 5) (.box 0 0)=some (.p a.pd):=fun G tk=>load_ndb (i:=0) rfl
 cases hf:frmR a with
 |false=>
  rw[hf] at hfrm
  rw[pd_cells] at lnd hfrm⊢
  refine⟨_,call_body (fc:=fc10) rfl rfl rfl rfl (r:=(_,⟨[a.cells.map .p],[]⟩)) ?_⟩
  simp[fc10,evKC,evK,put,Env.get,Env.keep,entry,Opd.ev,unD,finish,evRes,evRes1,D.cells,o1,lnd,hhead,hfrm]
 |true=>
  rw[hf] at hfrm
  unfold frmR at hf
  rw[Bool.and_eq_true] at hf
  have hsz:=validR_size hf.1
  have hv:=valid_of hf.1
  have hknd:=(kR_knd a.op).1 (eq_of_beq hf.2)
  have hw:=valid_wf hv
  obtain⟨l,hp,hx⟩:=hpt hv
  have hl:=hlen hv hsz
  obtain⟨b,e1,e2⟩:=pf_reads hx hl hw (by omega) hp hknd hv
  have hprint:=fun H=>Pj.formula_eq (a:=a) (by omega) (valid_i64s _ a (Nat.le_refl _) hv) (by omega) H
  have hparse:=fun H=>pf_eq (Pj.txt a true) (by omega) H
  simp only[e2] at hparse
  have hq1:=fun H=>equalNodes_eq (a:=a) (b:=b) (by omega) H
  rw[eqN_er _ a b (Nat.le_refl _) e1.symm] at hq1
  have hq2:=fun H=>requal_er a.size a b (Nat.le_refl _) (by omega) e1.symm H
  have k1:=pone_kids a
  have k2:=pone_kids b
  have c1:=kids_cells a
  have c2:=kids_cells b
  apply Exists.intro
  refine call_body (fc:=fc10) rfl rfl rfl rfl (r:=(_,⟨[a.cells.map .p,b.cells.map .p],[]⟩)) ?_
  rw[pd_cells a,pd_cells b] at hq1 hq2
  rw[pd_cells b] at hparse
  rw[pd_cells a] at lnd hfrm hprint⊢
  simp only[Nd.cells,List.map_cons,List.map_nil] at lnd hfrm hprint hparse hq1 hq2⊢
  simp[fc10,evKC,evK,evGuard,put,Env.get,Env.keep,entry,Opd.ev,splice,cutAt,binD,unD,lenD,sub,finish,evRes,evRes1,D.cells,mkAgg,pures,ld_succ,ld_zero,st_succ,st_zero,oP,hhead,hfrm,hprint,hparse,hq1,hq2,k1,k2]
def binOk(op:Int)(e:BE):Bool:=match Pj.look Pj.binT op with
 |some f=>f.a==(e.a:Int)&&(f.b==(e.b:Int)&&(f.lv==(e.lv:Int)&&(f.s==32::(e.tok.2++[32])||(f.s==[46]&&e.tok==((3,[46]):KT)))))
 |none=>false
def preOk(op:Int)(e:PE):Bool:=match Pj.look Pj.binT op with
 |some _=>false
 |none=>match Pj.look Pj.preT op with
  |some f=>f.a==(e.a:Int)&&(f.lv==(e.lv:Int)&&(f.s==e.tok.2++[32]||(f.s==e.tok.2&&(e.tok==((3,[126]):KT)||e.tok==((3,[94]):KT)||e.tok==((3,[42]):KT)||e.tok==((3,[35]):KT)))))
  |none=>false
theorem bin_all:bopT.all (fun p=>binOk p.1 p.2)=true:=by decide+kernel
theorem pre_all:popT.all (fun p=>preOk p.1 p.2)=true:=by decide+kernel
theorem bin_of{op:Int}{e:BE}(h:lookO bopT op=some e):∃f,Pj.look Pj.binT op=some f∧f.a=(e.a:Int)∧f.b=(e.b:Int)∧f.lv=(e.lv:Int)∧(f.s=32::(e.tok.2++[32])∨(f.s=[46]∧e.tok=((3,[46]):KT))):=by
 have:=List.all_eq_true.1 bin_all _ (lookO_mem h)
 simp only[binOk] at this
 cases hl:Pj.look Pj.binT op with
 |none=>rw[hl] at this;cases this
 |some f=>
  rw[hl] at this
  simp only[Bool.and_eq_true,Bool.or_eq_true,beq_iff_eq] at this
  exact⟨f,rfl,this.1,this.2.1,this.2.2.1,this.2.2.2⟩
theorem pre_of{op:Int}{e:PE}(h:lookO popT op=some e):Pj.look Pj.binT op=none∧∃f,Pj.look Pj.preT op=some f∧f.a=(e.a:Int)∧f.lv=(e.lv:Int)∧(f.s=e.tok.2++[32]∨(f.s=e.tok.2∧(((e.tok=((3,[126]):KT)∨e.tok=((3,[94]):KT))∨e.tok=((3,[42]):KT))∨e.tok=((3,[35]):KT)))):=by
 have:=List.all_eq_true.1 pre_all _ (lookO_mem h)
 simp only[preOk] at this
 cases hb:Pj.look Pj.binT op with
 |some f=>rw[hb] at this;cases this
 |none=>
  rw[hb] at this
  cases hl:Pj.look Pj.preT op with
  |none=>rw[hl] at this;cases this
  |some f=>
   rw[hl] at this
   simp only[Bool.and_eq_true,Bool.or_eq_true,beq_iff_eq] at this
   exact⟨rfl,f,rfl,this.1,this.2.1,this.2.2⟩
theorem look_mem:∀{t:List Pj.Ent} {k:Int} {e:Pj.Ent},Pj.look t k=some e→e∈t∧e.k=k
 |e::t,k,x,h=>by
  simp only[Pj.look] at h
  split at h
  ·rename_i q
   rw[←Option.some.inj h]
   exact⟨List.mem_cons_self,q⟩
  ·obtain⟨h1,h2⟩:=look_mem h
   exact⟨List.mem_cons_of_mem _ h1,h2⟩
theorem no_bin{op:Int}(h:lookO bopT op=none):Pj.look Pj.binT op=none:=by
 cases hl:Pj.look Pj.binT op with
 |none=>rfl
 |some f=>
  exfalso
  obtain⟨h1,h2⟩:=look_mem hl
  have :Pj.binT.all (fun f=>(lookO bopT f.k).isSome)=true:=by decide+kernel
  have:=List.all_eq_true.1 this _ h1
  rw[h2,h] at this
  cases this
theorem no_pre{op:Int}(h:lookO popT op=none):Pj.look Pj.preT op=none:=by
 cases hl:Pj.look Pj.preT op with
 |none=>rfl
 |some f=>
  exfalso
  obtain⟨h1,h2⟩:=look_mem hl
  have :Pj.preT.all (fun f=>(lookO popT f.k).isSome)=true:=by decide+kernel
  have:=List.all_eq_true.1 this _ h1
  rw[h2,h] at this
  cases this
theorem lvl_eq(op:Int):Pj.lvl op=(lvN op:Int):=by
 unfold Pj.lvl lvN
 cases hb:lookO bopT op with
 |some e=>
  obtain⟨f,h1,_,_,h2,_⟩:=bin_of hb
  rw[h1]
  exact h2
 |none=>
  rw[no_bin hb]
  cases hp:lookO popT op with
  |some e=>
   obtain⟨_,f,h1,_,h2,_⟩:=pre_of hp
   rw[h1]
   exact h2
  |none=>
   rw[no_pre hp]
   dsimp only
   split<;>rfl
theorem pa_lexN{s:List UInt8}{l:List KT}(h:LxOk NW s l):LxOk AnyB (40::(s++[41])) (lpT::(l++[rpT])):=
 any_seq sy_lp (h.seq sy_rp fun r _=>nw_cons (by decide))
theorem opr_of{K:Bool→List KT→Prop}{x:Nd}{need:Nat}{fin:Bool}(h:∀f,∃l,K f l∧LxOk NW (Pj.txt x f) l):∃m,OpR K x.op need fin m∧LxOk NW (Pj.oprK x.kt (need:Int) fin) m:=by
 unfold Pj.oprK
 by_cases hc:(decide ((need:Int)≤Pj.lvl x.kt.1)&&(fin|| !(x.kt.1==45||x.kt.1==46)))=true
 ·rw[if_pos hc]
  obtain⟨l,h1,h2⟩:=h fin
  simp only[Nd.kt,lvl_eq,Bool.and_eq_true,Bool.or_eq_true,decide_eq_true_eq,Bool.not_eq_true',Bool.or_eq_false_iff,beq_eq_false_iff_ne] at hc
  exact⟨l,.inl ⟨by omega,hc.2,h1⟩,h2⟩
 ·rw[if_neg hc]
  obtain⟨l,h1,h2⟩:=h true
  exact⟨_,.inr ⟨l,rfl,h1⟩,(pa_lexN h2).weak fun _ _=>trivial⟩
theorem bin_lex{op:Int}{e:BE}(h:lookO bopT op=some e){f:Pj.Ent}(hs:f.s=32::(e.tok.2++[32])∨(f.s=[46]∧e.tok=((3,[46]):KT))):LxOk AnyB f.s [e.tok]∧∀r,NW (f.s++r):=by
 rcases hs with q |⟨q,p⟩
 ·rw[q]
  exact⟨(bop_sp h).spL,fun r=>nw_cons (by decide)⟩
 ·rw[q,p]
  exact⟨sy_dt,fun r=>nw_cons (by decide)⟩
theorem sy_tilde:LxOk AnyB [126] [(3,[126])]:=lx_sym (by decide) (by decide) (by decide) (by decide) fun r _=>rfl
theorem sy_hat:LxOk AnyB [94] [(3,[94])]:=lx_sym (by decide) (by decide) (by decide) (by decide) fun r _=>rfl
theorem sy_star:LxOk AnyB [42] [(3,[42])]:=lx_sym (by decide) (by decide) (by decide) (by decide) fun r _=>rfl
theorem sy_hash:LxOk AnyB [35] [(3,[35])]:=lx_sym (by decide) (by decide) (by decide) (by decide) fun r _=>rfl
theorem pre_lex{op:Int}{e:PE}(h:lookO popT op=some e){f:Pj.Ent}(hs:f.s=e.tok.2++[32]∨(f.s=e.tok.2∧(((e.tok=((3,[126]):KT)∨e.tok=((3,[94]):KT))∨e.tok=((3,[42]):KT))∨e.tok=((3,[35]):KT)))):LxOk AnyB f.s [e.tok]:=by
 rcases hs with q |⟨q,p⟩
 ·rw[q];exact pop_sp h
 ·rw[q]
  rcases p with((p |p) |p) |p<;>rw[p]
  ·exact sy_tilde
  ·exact sy_hat
  ·exact sy_star
  ·exact sy_hash
theorem bnd_of{K:Nd→Bool→List KT→Prop}{a x y:Nd}(hks:a.ks=[x,y])(hn:isNm a.nm=true)(hx:∀f,∃l,K x f l∧LxOk NW (Pj.txt x f) l)(hy:∀f,∃l,K y f l∧LxOk NW (Pj.txt y f) l):
    ∃m,bndR K a m∧LxOk NW (Pj.bndT a.nm (a.ks.map Nd.kt)) m:=by
 obtain⟨lx,p1,q1⟩:=opr_of (K:=K x) (x:=x) (need:=8) (fin:=true) hx
 obtain⟨ly,p2,q2⟩:=hy true
 have hop:OpR (K y) y.op 1 true ly:=.inl ⟨by
  unfold lvN
  have h1:∀p∈bopT,1≤p.2.lv:=by decide+kernel
  have h2:∀p∈popT,1≤p.2.lv:=by decide+kernel
  split
  ·rename_i e he;exact h1 _ (lookO_mem he)
  ·split
   ·rename_i e he;exact h2 _ (lookO_mem he)
   ·split<;>omega,.inl rfl,p2⟩
 refine⟨_,⟨x,y,lx,ly,hks,p1,hop,rfl⟩,?_⟩
 have hk:Pj.bndT a.nm (a.ks.map Nd.kt)=a.nm++([58,32]++(Pj.oprK x.kt 8 true++([32,124,32]++Pj.txt y true))):=by rw[hks];rfl
 rw[hk]
 exact(nm_lex hn).seq (any_seq colon_lex (q1.seq (any_seq bar_lex q2) fun r _=>nw_cons (by decide))) fun r _=>nw_cons (by decide)
theorem join_lexN:∀(ss:List (List UInt8)) (ls:List (List KT)),ss.length=ls.length→(∀(i:Nat) s l,ss[i]? =some s→ls[i]? =some l→LxOk NW s l)→LxOk NW (Pj.joinL [44,32] ss) (commas ls)
 |[],[],_,_=>lx_nil NW
 |[s],[l],_,h=>h 0 s l rfl rfl
 |s::s2::ss,l::l2::ls,he,h=>by
  have ih:=join_lexN (s2::ss) (l2::ls) (by simpa using he) (fun i x m p q=>h (i+1) x m (by simpa using p) (by simpa using q))
  exact(h 0 s l rfl rfl).seq (any_seq comma_lex ih) fun r _=>nw_cons (by decide)
 |[],_::_,he,_=>by cases he
 |_::_,[],he,_=>by cases he
 |[_],_::_::_,he,_=>by simp at he
 |_::_::_,[_],he,_=>by simp at he
theorem txt_pt:∀(h:Nat) (a:Nd),wf h a→∀fin,∃l,Pt h a fin l∧LxOk NW (Pj.txt a fin) l
 | 0,a,hw=>hw.elim
 |h+1,a,hw=>by
  obtain⟨ho,hf,hk⟩:=hw
  have ih:=fun x (hx:x∈a.ks)=>txt_pt h x (hk x hx)
  intro fin
  cases hb:lookO bopT a.op with
  |some e=>
   obtain⟨x,y,hks⟩:=bop_kids hb hf
   obtain⟨f,b1,b2,b3,b4,b5⟩:=bin_of hb
   obtain⟨g1,g2⟩:=bin_lex hb b5
   obtain⟨lx,p1,q1⟩:=opr_of (K:=Pt h x) (x:=x) (need:=e.a) (fin:=false) (ih x (by simp[hks]))
   obtain⟨ly,p2,q2⟩:=opr_of (K:=Pt h y) (x:=y) (need:=e.b) (fin:=fin) (ih y (by simp[hks]))
   have ht:Pj.txt a fin=Pj.oprK x.kt e.a false++(f.s++Pj.oprK y.kt e.b fin):=by
    rw[Pj.txt_eq,hks];simp only[Pj.txtOf,b1,b2,b3];rfl
   refine⟨lx++e.tok::ly,?_,?_⟩
   ·show PtB (Pt h) a fin _
    unfold PtB
    rw[hb]
    exact⟨x,y,lx,ly,hks,p1,p2,rfl⟩
   ·rw[ht]
    exact q1.seq (any_seq g1 q2) fun r _=>by rw[List.append_assoc];exact g2 _
  |none=>
   have nb:=no_bin hb
   cases hp:lookO popT a.op with
   |some e=>
    obtain⟨x,hks⟩:=pop_kids hp hf
    obtain⟨_,f,b1,b2,b3,b5⟩:=pre_of hp
    have g1:=pre_lex hp b5
    obtain⟨lx,p1,q1⟩:=opr_of (K:=Pt h x) (x:=x) (need:=e.a) (fin:=fin) (ih x (by simp[hks]))
    have ht:Pj.txt a fin=f.s++Pj.oprK x.kt e.a fin:=by
     rw[Pj.txt_eq,hks];simp only[Pj.txtOf,nb,b1,b2];rfl
    refine⟨e.tok::lx,?_,?_⟩
    ·show PtB (Pt h) a fin _
     unfold PtB
     rw[hb,hp]
     exact⟨x,lx,hks,p1,rfl⟩
    ·rw[ht]
     exact any_seq g1 q1
   |none=>
    have np:=no_pre hp
    have te:Pj.txt a fin=Pj.txtOf a.op a.nm a.n (a.ks.map Nd.kt) fin:=by rw[Pj.txt_eq]
    simp only[Pj.txtOf,nb,np] at te
    have fin_:∀{l:List KT},LxOk NW (Pj.txt a fin) l→((a.op=1∧a.ks=[]∧l=[(1,a.nm)])∨
        (a.op=2∧a.ks=[]∧((a.n=1∧l=[(1,[110,111,110,101])])∨l=[(1,[110,111,110,101]),(3,[91]),(2,Lib.itoa a.n),(3,[93])]))∨
        (a.op=20∧a.ks=[]∧((0≤a.n∧l=[(2,Lib.itoa a.n)])∨(a.n<0∧l=[(3,[45]),(2,Lib.itoa (-a.n))])))∨
        (a.op=5∧∃x lx,a.ks=[x]∧OpR (Pt h x) x.op 14 false lx∧l=lx++[(3,[39])])∨
        (a.op=45∧∃m,bndR (Pt h) a m∧l=(1,[97,108,108])::m)∨
        (a.op=46∧∃m,bndR (Pt h) a m∧l=(1,[115,111,109,101])::m)∨
        (a.op=15∧∃m,bndR (Pt h) a m∧l=(3,[123])::(m++[(3,[125])]))∨
        (a.op=47∧∃ls:List (List KT),ls.length=a.ks.length∧(∀(i:Nat) x m,a.ks[i]? =some x→ls[i]? =some m→OpR (Pt h x) x.op 8 true m)∧l=(1,a.nm)::(3,[91])::(commas ls++[(3,[93])]))∨
        (∃w,constW a.op=some w∧a.ks=[]∧l=[(1,w)]))→∃l,Pt (h+1) a fin l∧LxOk NW (Pj.txt a fin) l:=fun {l} q r=>⟨l,by
         show PtB (Pt h) a fin _
         unfold PtB
         rw[hb,hp]
         exact r,q⟩
    rcases op_cases hf hb hp with⟨q,hks⟩ |⟨q,x,hks⟩ |⟨q,x,y,hks⟩ |q
    ·rcases q with q |q |q |q
     ·refine fin_ (l:=[(1,a.nm)]) ?_ (.inl ⟨q,hks,rfl⟩)
      rw[te,q]
      exact nm_lex (nmd_own (op:=a.op) ho (by rw[q];rfl)).1
     ·have h1:=none_own ho q
      by_cases h0:a.n=1
      ·refine fin_ (l:=[(1,[110,111,110,101])]) ?_ (.inr (.inl ⟨q,hks,.inl ⟨h0,rfl⟩⟩))
       rw[te,q,h0]
       exact word_lex (s:=[110,111,110,101]) (by decide)
      ·obtain⟨n,hn⟩:=Int.eq_ofNat_of_zero_le (show 0≤a.n by omega)
       refine fin_ (l:=[(1,[110,111,110,101]),(3,[91]),(2,Lib.itoa a.n),(3,[93])]) ?_ (.inr (.inl ⟨q,hks,.inr rfl⟩))
       have t2:Pj.txt a fin=[110,111,110,101]++([91]++(Lib.itoa a.n++[93])):=by rw[te,q];simp[h0]
       rw[t2,hn]
       have h2:=(word_lex (s:=[110,111,110,101]) (by decide)).seq (any_seq sy_lk ((num_lex (m:=n) (by omega)).seq sy_rk fun r _=>nw_cons (by decide))) (fun r _=>nw_cons (by decide))
       exact h2.weak fun _ _=>trivial
     ·have h1:=lit_own ho q
      have t2:Pj.txt a fin=Lib.itoa a.n:=by rw[te,q];rfl
      by_cases h0:0≤a.n
      ·obtain⟨n,hn⟩:=Int.eq_ofNat_of_zero_le h0
       refine fin_ (l:=[(2,Lib.itoa a.n)]) ?_ (.inr (.inr (.inl ⟨q,hks,.inl ⟨h0,rfl⟩⟩)))
       rw[t2,hn]
       exact num_lex (m:=n) (by omega)
      ·obtain⟨n,hn⟩:=Int.eq_ofNat_of_zero_le (show 0≤-a.n by omega)
       have hn':a.n= -(n:Int):=by omega
       obtain⟨e1,e2⟩:=neg_itoa (m:=n) (by omega) (by omega)
       refine fin_ (l:=[(3,[45]),(2,Lib.itoa (-a.n))]) ?_ (.inr (.inr (.inl ⟨q,hks,.inr ⟨by omega,rfl⟩⟩)))
       have ht:Pj.txt a fin=45::Lib.itoa (n:Int):=by
        rw[t2,←e1,←hn']
       rw[ht,hn]
       refine minus_lex.seq (num_lex (m:=n) (by omega)) fun r _=>?_
       cases hi:Lib.itoa (n:Int) with
       |nil=>exact absurd hi (by
           have :∀k:Fin 65,Lib.itoa (k.val:Int)≠[]:=by decide+kernel
           exact this ⟨n,by omega⟩)
       |cons c t=>
        show(Lib.itoa (n:Int)++r).head?≠some 62
        rw[hi] at e2⊢
        exact e2
     ·have hcw:∃w,constW a.op=some w∧Pj.txt a fin=w∧((w.head?.map Lx.leB).getD false&&w.all Lx.wrB&&decide (w.length≤16))=true:=by
       rcases q with q |q |q |q
       ·exact⟨_,by rw[q];rfl,by rw[te,q];rfl,by decide⟩
       ·exact⟨_,by rw[q];rfl,by rw[te,q];rfl,by decide⟩
       ·exact⟨_,by rw[q];rfl,by rw[te,q];rfl,by decide⟩
       ·exact⟨_,by rw[q];rfl,by rw[te,q];rfl,by decide⟩
      obtain⟨w,hw,ht,hwl⟩:=hcw
      refine fin_ (l:=[(1,w)]) ?_ (.inr (.inr (.inr (.inr (.inr (.inr (.inr (.inr ⟨w,hw,hks,rfl⟩))))))))
      rw[ht]
      exact word_lex hwl
    ·obtain⟨lx,p1,q1⟩:=opr_of (K:=Pt h x) (x:=x) (need:=14) (fin:=false) (ih x (by simp[hks]))
     refine fin_ (l:=lx++[(3,[39])]) ?_ (.inr (.inr (.inr (.inl ⟨q,x,lx,hks,p1,rfl⟩))))
     have ht:Pj.txt a fin=Pj.oprK x.kt 14 false++[39]:=by rw[te,q,hks];rfl
     rw[ht]
     exact(q1.seq sy_pr fun r _=>nw_cons (by decide)).weak fun _ _=>trivial
    ·have hnm:=(nmd_own (op:=a.op) ho (by rcases q with q |q |q<;>rw[q]<;>rfl)).1
     obtain⟨m,hbd,hbl⟩:=bnd_of (K:=Pt h) hks hnm (ih x (by simp[hks])) (ih y (by simp[hks]))
     rcases q with q |q |q
     ·refine fin_ (l:=(3,[123])::(m++[(3,[125])])) ?_ (.inr (.inr (.inr (.inr (.inr (.inr (.inl ⟨q,m,hbd,rfl⟩)))))))
      have ht:Pj.txt a fin=[123]++(Pj.bndT a.nm (a.ks.map Nd.kt)++[125]):=by rw[te,q];rfl
      rw[ht]
      exact(any_seq sy_lb (hbl.seq sy_rb fun r _=>nw_cons (by decide))).weak fun _ _=>trivial
     ·refine fin_ (l:=(1,[97,108,108])::m) ?_ (.inr (.inr (.inr (.inr (.inl ⟨q,m,hbd,rfl⟩)))))
      have ht:Pj.txt a fin=([97,108,108]++[32])++Pj.bndT a.nm (a.ks.map Nd.kt):=by rw[te,q];rfl
      rw[ht]
      exact any_seq ((word_lex (s:=[97,108,108]) (by decide)).spR fun r=>nw_cons (by decide)) hbl
     ·refine fin_ (l:=(1,[115,111,109,101])::m) ?_ (.inr (.inr (.inr (.inr (.inr (.inl ⟨q,m,hbd,rfl⟩))))))
      have ht:Pj.txt a fin=([115,111,109,101]++[32])++Pj.bndT a.nm (a.ks.map Nd.kt):=by rw[te,q];rfl
      rw[ht]
      exact any_seq ((word_lex (s:=[115,111,109,101]) (by decide)).spR fun r=>nw_cons (by decide)) hbl
    ·have hnm:=(nmd_own (op:=a.op) ho (by rw[q];rfl)).1
     obtain⟨ls,hls,hall⟩:∃ls:List (List KT),ls.length=a.ks.length∧∀(i:Nat) x m,a.ks[i]? =some x→ls[i]? =some m→OpR (Pt h x) x.op 8 true m∧LxOk NW (Pj.oprK x.kt 8 true) m:=by
      have :∀ks:List Nd,(∀x∈ks,∀f,∃l,Pt h x f l∧LxOk NW (Pj.txt x f) l)→∃ls:List (List KT),ls.length=ks.length∧∀(i:Nat) x m,ks[i]? =some x→ls[i]? =some m→OpR (Pt h x) x.op 8 true m∧LxOk NW (Pj.oprK x.kt 8 true) m:=by
       intro ks
       induction ks with
       |nil=>intro _;exact⟨[],rfl,fun i x m q=>by simp at q⟩
       |cons k ks ihk=>
        intro hk
        obtain⟨l,p1,p2⟩:=opr_of (K:=Pt h k) (x:=k) (need:=8) (fin:=true) (hk k (by simp))
        obtain⟨ls,h1,h2⟩:=ihk (fun x hx=>hk x (by simp[hx]))
        refine⟨l::ls,by simp[h1],fun i x m q r=>?_⟩
        match i with
        | 0=>
         simp only[List.getElem?_cons_zero,Option.some.injEq] at q r
         subst q r
         exact⟨p1,p2⟩
        |i+1=>exact h2 i x m (by simpa using q) (by simpa using r)
      exact this a.ks ih
     refine fin_ (l:=(1,a.nm)::(3,[91])::(commas ls++[(3,[93])])) ?_ (.inr (.inr (.inr (.inr (.inr (.inr (.inr (.inl ⟨q,ls,hls,fun i x m r s=>(hall i x m r s).1,rfl⟩))))))))
     have ht:Pj.txt a fin=a.nm++([91]++(Pj.joinL [44,32] (a.ks.map fun x=>Pj.oprK x.kt 8 true)++[93])):=by
      rw[te,q]
      have :((a.ks.map Nd.kt).map fun k=>Pj.oprK k 8 true)=a.ks.map fun x=>Pj.oprK x.kt 8 true:=by simp[Function.comp_def]
      simp only[this]
      rfl
     have hj:=join_lexN (a.ks.map fun x=>Pj.oprK x.kt 8 true) ls (by simp[hls]) (fun i s l r1 r2=>by
      rw[List.getElem?_map] at r1
      obtain⟨x,hx,rfl⟩:=Option.map_eq_some_iff.1 r1
      exact(hall i x l hx r2).2)
     rw[ht]
     exact((nm_lex hnm).seq (any_seq sy_lk (hj.seq sy_rk fun r _=>nw_cons (by decide))) (fun r _=>nw_cons (by decide))).weak fun _ _=>trivial
theorem opr_len(x:Nd)(need:Int)(fin:Bool){b:Nat}(h:∀f,(Pj.txt x f).length+4≤b):(Pj.oprK x.kt need fin).length+2≤b:=by
 unfold Pj.oprK
 split
 ·have:=h fin;simp only[Nd.kt];omega
 ·have:=h true;simp only[Nd.kt,List.length_cons,List.length_append,List.length_nil];omega
theorem bnd_len{a x y:Nd}(hks:a.ks=[x,y]){b c:Nat}(hx:∀f,(Pj.txt x f).length+4≤b)(hy:∀f,(Pj.txt y f).length+4≤c)(hn:a.nm.length≤16):(Pj.bndT a.nm (a.ks.map Nd.kt)).length≤16+b+c:=by
 have hk:Pj.bndT a.nm (a.ks.map Nd.kt)=a.nm++([58,32]++(Pj.oprK x.kt 8 true++([32,124,32]++Pj.txt y true))):=by rw[hks];rfl
 have h1:=opr_len x 8 true hx
 have h2:=hy true
 rw[hk]
 simp only[List.length_append,List.length_cons,List.length_nil]
 omega
theorem join_lenK:∀(ks:List Nd),(∀x∈ks,∀f,(Pj.txt x f).length+4≤40*x.size)→(Pj.joinL [44,32] (ks.map fun x=>Pj.oprK x.kt 8 true)).length≤40*Nd.sizeL ks
 |[],_=>by simp[Pj.joinL]
 |[x],h=>by
  have:=opr_len x 8 true (h x (by simp))
  simp only[List.map_cons,List.map_nil,Pj.joinL,Nd.sizeL];omega
 |x::y::r,h=>by
  have h1:=opr_len x 8 true (h x (by simp))
  have h2:=join_lenK (y::r) (fun z hz=>h z (List.mem_cons_of_mem _ hz))
  simp only[List.map_cons,Pj.joinL,Nd.sizeL,List.length_append,List.length_cons,List.length_nil] at h2⊢
  omega
theorem itoaZ_len:∀n:Int,-64≤n→n≤64→(Lib.itoa n).length≤3:=by
 intro n h1 h2
 have :∀k:Fin 129,(Lib.itoa ((k.val:Int)-64)).length≤3:=by decide+kernel
 obtain⟨m,hm⟩:=Int.eq_ofNat_of_zero_le (show 0≤n+64 by omega)
 have:=this ⟨m,by omega⟩
 rw[show((⟨m,by omega⟩:Fin 129).val:Int)-64=n by show(m:Int)-64=n;omega] at this
 exact this
theorem nmZ_len{s:List UInt8}(h:isNm s=true):s.length≤16:=by
 unfold isNm at h
 simp only[Bool.and_eq_true,decide_eq_true_eq] at h
 exact h.2.1
theorem txt_len:∀(h:Nat) (a:Nd),wf h a→∀fin,(Pj.txt a fin).length+4≤40*a.size
 | 0,a,hw=>hw.elim
 |h+1,a,hw=>by
  obtain⟨ho,hf,hk⟩:=hw
  have ih:=fun x (hx:x∈a.ks)=>txt_len h x (hk x hx)
  have hsz:=size_eq a
  intro fin
  cases hb:lookO bopT a.op with
  |some e=>
   obtain⟨x,y,hks⟩:=bop_kids hb hf
   obtain⟨f,b1,b2,b3,b4,b5⟩:=bin_of hb
   have h1:=opr_len x e.a false (ih x (by simp[hks]))
   have h2:=opr_len y e.b fin (ih y (by simp[hks]))
   have hl:f.s.length≤7:=by
    have :Pj.binT.all (fun f=>decide (f.s.length≤7))=true:=by decide+kernel
    simpa using List.all_eq_true.1 this _ (look_mem b1).1
   have ht:Pj.txt a fin=Pj.oprK x.kt e.a false++(f.s++Pj.oprK y.kt e.b fin):=by
    rw[Pj.txt_eq,hks];simp only[Pj.txtOf,b1,b2,b3];rfl
   rw[ht,hsz,hks]
   simp only[List.length_append,Nd.sizeL]
   omega
  |none=>
   have nb:=no_bin hb
   cases hp:lookO popT a.op with
   |some e=>
    obtain⟨x,hks⟩:=pop_kids hp hf
    obtain⟨_,f,b1,b2,b3,b5⟩:=pre_of hp
    have h1:=opr_len x e.a fin (ih x (by simp[hks]))
    have hl:f.s.length≤11:=by
     have :Pj.preT.all (fun f=>decide (f.s.length≤11))=true:=by decide+kernel
     simpa using List.all_eq_true.1 this _ (look_mem b1).1
    have ht:Pj.txt a fin=f.s++Pj.oprK x.kt e.a fin:=by
     rw[Pj.txt_eq,hks];simp only[Pj.txtOf,nb,b1,b2];rfl
    rw[ht,hsz,hks]
    simp only[List.length_append,Nd.sizeL]
    omega
   |none=>
    have np:=no_pre hp
    have te:Pj.txt a fin=Pj.txtOf a.op a.nm a.n (a.ks.map Nd.kt) fin:=by rw[Pj.txt_eq]
    simp only[Pj.txtOf,nb,np] at te
    rcases op_cases hf hb hp with⟨q,hks⟩ |⟨q,x,hks⟩ |⟨q,x,y,hks⟩ |q
    ·rcases q with q |q |q |q
     ·have:=nmZ_len (nmd_own (op:=a.op) ho (by rw[q];rfl)).1
      have t2:Pj.txt a fin=a.nm:=by rw[te,q];rfl
      rw[t2];omega
     ·have h1:=none_own ho q
      have:=itoaZ_len a.n (by omega) (by omega)
      have t2:(Pj.txt a fin).length≤9:=by
       rw[te,q]
       by_cases h0:a.n=1<;>simp[h0]<;>omega
      omega
     ·have h1:=lit_own ho q
      have:=itoaZ_len a.n (by omega) (by omega)
      have t2:Pj.txt a fin=Lib.itoa a.n:=by rw[te,q];rfl
      rw[t2];omega
     ·have t2:(Pj.txt a fin).length≤5:=by
       rcases q with q |q |q |q<;>rw[te,q]<;>simp[Pj.constT]
      omega
    ·have h1:=opr_len x 14 false (ih x (by simp[hks]))
     have ht:Pj.txt a fin=Pj.oprK x.kt 14 false++[39]:=by rw[te,q,hks];rfl
     rw[ht,hsz,hks]
     simp only[List.length_append,Nd.sizeL,List.length_cons,List.length_nil]
     omega
    ·have hnm:=nmZ_len (nmd_own (op:=a.op) ho (by rcases q with q |q |q<;>rw[q]<;>rfl)).1
     have hbl:=bnd_len hks (ih x (by simp[hks])) (ih y (by simp[hks])) hnm
     have t2:(Pj.txt a fin).length≤5+(Pj.bndT a.nm (a.ks.map Nd.kt)).length:=by
      rcases q with q |q |q<;>rw[te,q]<;>simp<;>omega
     have hs2:Nd.sizeL a.ks=x.size+y.size:=by rw[hks];exact sizeL_two x y
     omega
    ·have hnm:=nmZ_len (nmd_own (op:=a.op) ho (by rw[q];rfl)).1
     have hj:=join_lenK a.ks ih
     have ht:Pj.txt a fin=a.nm++([91]++(Pj.joinL [44,32] (a.ks.map fun x=>Pj.oprK x.kt 8 true)++[93])):=by
      rw[te,q]
      have :((a.ks.map Nd.kt).map fun k=>Pj.oprK k 8 true)=a.ks.map fun x=>Pj.oprK x.kt 8 true:=by simp[Function.comp_def]
      simp only[this]
      rfl
     rw[ht]
     simp only[List.length_append,List.length_cons,List.length_nil]
     omega
theorem cp_nw{s:List UInt8}{l:List KT}(h:LxOk NW s l):LxOk CpB s l:=h.weak fun _=>nw_cp
theorem law10(a:Nd):∃H',call pg 10 [.p a.pd] ⟨[],[]⟩=some (.val (.p (.bool true)),H'):=
 law10_of a (fun hv=>by
  obtain⟨l,h1,h2⟩:=txt_pt 24 a (valid_wf hv) true
  exact⟨l,h1,cp_nw h2⟩) (fun hv hs=>by
  have:=txt_len 24 a (valid_wf hv) true
  omega)
end Go.Proofs.YtalgjkpkkdljaaaGreatDoor
namespace Go.Proofs.YtalgjkpkkdljaaaGreatDoor
open Go.Vs Go.ChangeShapes Go.WideShapes Go.RowKit
end Go.Proofs.YtalgjkpkkdljaaaGreatDoor
