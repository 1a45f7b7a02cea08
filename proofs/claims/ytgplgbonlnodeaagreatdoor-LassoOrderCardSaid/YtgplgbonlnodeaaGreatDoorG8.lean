/-
  A value-level evaluator for Go functions; the functions of this cut by it; plain laws. Text G8.
-/
import Derived.Test.YtgplgbonlnodeaaGreatDoorG7
import Derived.Test.YtgplgbonlnodeaaGreatDoorG4
import Derived.Test.YtgplgbonlnodeaaGreatDoorX
section
open Go.Vs Go.Proofs.YtgplgbonlnodeaaGreatDoor
attribute [local simp] evKC evK evGuard put Env.get Env.keep entry Opd.ev loadD storeD splice cutAt indexD D.asInt? D.asNat? u8 binD strBin unD boundsD sub minmaxD eqvL PD.eqv clsP cls clsR isCl isW apartRW offB apartWW clash insOk finish evRes evRes1 mapO D.refsL D.refs D.toksL D.toks mkAgg pures fillD fillE appendD srcD D.elems? D.asPD Int.toNat_natCast srcH srcBH eqD D.asPDL isMapC lenD_str lenD_nils lenD_sl lenD_fsl lenD_tsl iaddr_box iaddr_ro gives nx condK_if opsG_if drG_if Int.natCast_inj one_p locD below Out.ren D.ren D.renL get_ren fin_agg2 cells_of_one pcells_of_one cells_pagg pcells_agg cells_dagg cells_box cells_tsl cells_fsl cells_gsl cells_msl cells_fn cells_mapr cells_pint cells_pbool cells_pstr cells_pslice cells_pnils pcells_int pcells_bool pcells_str
namespace Go.Proofs.YtgplgbonlnodeaaGreatDoor
open Go.Vs
set_option maxRecDepth 100000
set_option maxHeartbeats 4000000
attribute [local irreducible] gen237 gen226 gen68 tupL
structure Mo where
 a:Sl Int
 st:Int
 ss:Sl (Sl Rl)
 lp:Int
abbrev Mo.p(m:Mo):PD:=.agg [intsP m.a,.int .i64 m.st,statesP m.ss,.int .i64 m.lp]
def SmOk(sp:Sp)(m:Mo):Prop:=SmallP (els sp.so).length (els sp.fi) (els m.a) (els m.ss)
def MOk(sp:Sp)(m:Mo):Prop:=MoOk (els sp.so).length (els sp.fi) m.a m.st (els m.ss) m.lp
theorem m_small(sp:Sp)(m:Mo):∃r:Bool,(∀H,callD (call pg) 12 [.p (.agg [sortsP sp.so,fieldsP sp.fi,predsP sp.pr,factsP sp.fa]),.p (.agg [intsP m.a,.int .i64 m.st,statesP m.ss,.int .i64 m.lp])] H=some (.val (.p (.bool r)),H))∧(r=true↔SmOk sp m):=
 small_call (len_sorts _) (by simp) (by simp) (by simp)
theorem SmOk.tu{sp:Sp}{m:Mo}(h:SmOk sp m):∀x∈els m.ss,∀r∈els x,(els r.tu).length<1000000000:=fun x hx r hr=>by
 have:=(h.2.2.2.2.1 x hx).2 r hr;omega
theorem m_valid{sp:Sp}{m:Mo}(h:SmOk sp m):∃r:Bool,(∀H,callD (call pg) 26 [.p (.agg [sortsP sp.so,fieldsP sp.fi,predsP sp.pr,factsP sp.fa]),.p (.agg [intsP m.a,.int .i64 m.st,statesP m.ss,.int .i64 m.lp])] H=some (.val (.p (.bool r)),H))∧(r=true↔MOk sp m):=by
 obtain⟨h1,h2,h3,h4,h5,h6⟩:=h
 exact mvalid_call (len_sorts _) (by simp) (by simp) (by simp) (by omega) (by omega) (by omega) (by omega) (fun x hx r hr=>by have:=(h5 x hx).2 r hr;omega) fun f hf=>by have:=h6 f hf;omega
theorem MOk.row{sp:Sp}{m:Mo}{bs:Sl Bn}{a:Sl Int}{st:Int}(h:MOk sp m)(ok:FitOk sp a st bs):∀x∈els m.ss,RowOk (els m.a) (els sp.fi) (els m.ss) x:=
 ((moOk_iff ok.spk.fd).1 h).2.2.2.2
theorem MOk.srt{sp:Sp}{m:Mo}{bs:Sl Bn}{a:Sl Int}{st:Int}(h:MOk sp m)(ok:FitOk sp a st bs):∀x∈els m.ss,∀r∈els x,Srt (els r.tu):=fun x hx r hr=>by
 obtain⟨h1,h2⟩:=h.row ok x hx
 obtain⟨i,hi,rfl⟩:=List.getElem_of_mem hr
 have hf:i<(els sp.fi).length:=by omega
 exact relok_srt (h2 i hf _ _ (List.getElem?_eq_getElem hf) (List.getElem?_eq_getElem hi)).2.1
theorem FitOk.at{sp:Sp}{bs:Sl Bn}{a:Sl Int}{st:Int}(ok:FitOk sp a st bs):∀b∈els bs,∃so:List Int,BnOk (els a).sum.toNat (els a) so b:=fun b hb=>by
 obtain⟨i,hi,rfl⟩:=List.getElem_of_mem hb
 have hf:i<(els sp.fi).length:=by have:=ok.len;omega
 exact⟨_,ok.bn i hi _ _ (List.getElem?_eq_getElem hi) (List.getElem?_eq_getElem hf)⟩
theorem m_bm{sp:Sp}{m:Mo}{bs:Sl Bn}{a:Sl Int}{st:Int}(h:MOk sp m)(hs:SmOk sp m)(ok:FitOk sp a st bs):BmOk (els bs) (els m.ss) where
 blo b hb:=by have:=(ok.tu b hb).1;omega
 bup b hb:=by have:=(ok.tu b hb).2;omega
 sup b hb:=by obtain⟨_,_,_,_,h4,_⟩:=ok.at b hb;exact relok_srt h4
 slo b hb:=by obtain⟨_,_,_,h3,_⟩:=ok.at b hb;exact relok_srt h3
 rl:=hs.tu
 sr:=h.srt ok
def InOk(bs:Sl Bn)(m:Mo):Prop:=∀x∈els m.ss,StIn (els bs) x
theorem m_in{sp:Sp}{m:Mo}{bs:Sl Bn}{a:Sl Int}{st:Int}(h:MOk sp m)(hs:SmOk sp m)(ok:FitOk sp a st bs):
    ∃r:Bool,(∀H,callD (call pg) 27 [.p (boundsP bs),.p (.agg [intsP m.a,.int .i64 m.st,statesP m.ss,.int .i64 m.lp])] H=some (.val (.p (.bool r)),H))∧(r=true↔InOk bs m):=
 contains09_call bs m.a m.ss m.st m.lp (by have:=ok.len;have:=ok.spk.nf;omega) (by have:=hs.2.2.1;omega) (m_bm h hs ok)
theorem m_enc{sp:Sp}{m:Mo}{bs:Sl Bn}{a:Sl Int}{st:Int}(h:MOk sp m)(hs:SmOk sp m)(ok:FitOk sp a st bs)(hi:InOk bs m):
    (∃r:Bool,(∀H,callD (call pg) 65 [.p (intsP m.a),.p (intsP a)] H=some (.val (.p (.bool r)),H))∧(r=true↔els m.a=els a))∧
    (∀H,callD (call pg) 66 [.p (.agg [sortsP sp.so,fieldsP sp.fi,predsP sp.pr,factsP sp.fa]),.p (.agg [intsP m.a,.int .i64 m.st,statesP m.ss,.int .i64 m.lp])] H=some (.val (.p (.bool true)),H))∧
    (∀H,callD (call pg) 67 [.p (boundsP bs),.p (.agg [intsP m.a,.int .i64 m.st,statesP m.ss,.int .i64 m.lp])] H=some (.val (.p (.bool true)),H)):=by
 have hs0:=hs
 obtain⟨h1,h2,h3,h4,h5,h6⟩:=hs
 have hb:=ok.len
 have hnf:=ok.spk.nf
 refine⟨eqp_call m.a a (by omega),?_,?_⟩
 ·obtain⟨r,c,d⟩:=mvalidP_call (so:=sortsP sp.so) (f3:=predsP sp.pr) (f4:=factsP sp.fa) (fi:=sp.fi) (a:=m.a) (ss:=m.ss) (st:=m.st) (lp:=m.lp) (len_sorts _) (by simp) (by simp) (by simp) (by omega) (by omega) (by omega) (by omega) hs0.tu ok.spk.fd
  have:=d.2 h
  subst this
  exact c
 ·obtain⟨r,c,d⟩:=containsP_call bs m.a m.ss m.st m.lp (by omega) (by omega) (fun b hb=>by have:=ok.tu b hb;omega) hs0.tu
  have:=d.2 hi
  subst this
  exact c
theorem m_yes{sp:Sp}{m:Mo}{bs:Sl Bn}{a:Sl Int}{st:Int}(h:MOk sp m)(hs:SmOk sp m)(ok:FitOk sp a st bs)(hi:InOk bs m)(hst:m.st=st)(ha:els m.a=els a):
    ∀H,callD (call pg) 18 [.p (.agg [sortsP sp.so,fieldsP sp.fi,predsP sp.pr,factsP sp.fa]),.p (.agg [intsP a,.int .i64 st]),.p (boundsP bs),.p (.agg [intsP m.a,.int .i64 m.st,statesP m.ss,.int .i64 m.lp])] H=
     some (.val (.tup [.p (boolsP (bitS (encB (els sp.fi) (els bs) st m.lp (els m.ss)))),.p (.bool true)]),H):=by
 obtain⟨⟨r,c1,d1⟩,c2,c3⟩:=m_enc h hs ok hi
 have:=d1.2 ha
 subst this
 obtain⟨g1,g2,g3,g4,g5⟩:=(moOk_iff ok.spk.fd).1 h
 have hb:=ok.len
 have hnf:=ok.spk.nf
 have hbm:=m_bm h hs ok
 subst hst
 exact encode_yes (by simp) (by simp) (by simp) ⟨g1.2.2.1,g1.2.2.2.1⟩ hb (by omega) (fun b hb=>by have:=ok.tu b hb;omega) hbm.slo hs.tu hbm.sr (fun x hx=>(g5 x hx).1) g2 ⟨g3,g4⟩ c1 c2 c3
theorem m_no{sp:Sp}{m:Mo}{bs:Sl Bn}{a:Sl Int}{st:Int}(h:MOk sp m)(hs:SmOk sp m)(ok:FitOk sp a st bs)(hi:InOk bs m)(hno:¬(m.st=st∧els m.a=els a)):
    ∀H,callD (call pg) 18 [.p (.agg [sortsP sp.so,fieldsP sp.fi,predsP sp.pr,factsP sp.fa]),.p (.agg [intsP a,.int .i64 st]),.p (boundsP bs),.p (.agg [intsP m.a,.int .i64 m.st,statesP m.ss,.int .i64 m.lp])] H=
     some (.val (.tup [.p (.nils),.p (.bool false)]),H):=by
 obtain⟨⟨r,c1,d1⟩,c2,c3⟩:=m_enc h hs ok hi
 exact encode_no (by simp) (by simp) (by simp) c1 c2 c3 fun hh=>hno ⟨hh.1,d1.1 hh.2.1⟩
theorem m_static{sp:Sp}{m:Mo}{bs:Sl Bn}{a:Sl Int}{st:Int}(h:MOk sp m)(ok:FitOk sp a st bs)(s:Nat)(x x0:Sl Rl)(p:Int×Int)(hx:(els m.ss)[s]? =some x)(h0:(els m.ss)[0]? =some x0)(hp:p∈freeA 0 (els bs))
    (hv:((els sp.fi).map Fi.va).getD p.1.toNat false=false):bitP x p=bitP x0 p:=by
 obtain⟨j,hj,_,hjl⟩:=freeA_ix _ _ _ hp
 have hjf:j<(els sp.fi).length:=by have:=ok.len;omega
 obtain⟨l1,r1⟩:=h.row ok x (List.mem_of_getElem? hx)
 obtain⟨l2,r2⟩:=h.row ok x0 (List.mem_of_getElem? h0)
 have hx1:j<(els x).length:=by omega
 have hx2:j<(els x0).length:=by omega
 have c:=(r1 j hjf _ _ (List.getElem?_eq_getElem hjf) (List.getElem?_eq_getElem hx1)).2.2.2
 have hva:(els sp.fi)[j].va=false:=by
  rw[hj,Int.toNat_natCast,List.getD_eq_getElem?_getD,List.getElem?_map,List.getElem?_eq_getElem hjf] at hv
  exact hv
 have hc:=(c hva _ _ h0 (List.getElem?_eq_getElem hx2)).2
 unfold bitP relAt
 rw[hj,Int.toNat_natCast,List.getElem?_eq_getElem hx1,List.getElem?_eq_getElem hx2]
 simp only[hc]
theorem m_sts{sp:Sp}{m:Mo}{bs:Sl Bn}{a:Sl Int}{st:Int}(h:MOk sp m)(hs:SmOk sp m)(ok:FitOk sp a st bs):StsOk (freeA 0 (els bs)) (els m.ss) where
 ix x hx p hp:=by
  obtain⟨j,hj,_,hjl⟩:=freeA_ix _ _ _ hp
  have:=(h.row ok x hx).1
  have:=ok.len
  exact⟨j,hj,by omega⟩
 ln x hx r hr:=by have:=hs.tu x hx r hr;omega
 sr:=h.srt ok
theorem law_order(hhead:∀H,callD (call pg) 10 [] H=some (.val (.p (.bool true)),H))(sp:Sp)(h64:Sp64 sp)(hnm:NmOk sp)(bs:Sl Bn)(hbl:(els bs).length<4611686018427387904)(x y:Mo):
    ∀H,callD (call pg) 6 [.p (.agg sp.cl),.p (boundsP bs),.p (.agg [intsP x.a,.int .i64 x.st,statesP x.ss,.int .i64 x.lp]),.p (.agg [intsP y.a,.int .i64 y.st,statesP y.ss,.int .i64 y.lp])] H=some (.val (.p (.bool true)),H):=by
 obtain⟨r1,c1,d1⟩:=m_small sp x
 obtain⟨r2,c2,d2⟩:=m_small sp y
 have hf:a6=a6:=rfl
 conv at hf=>rhs;reduce
 refine callP (aa:=[_,_,_,_]) hf rfl rfl rfl ?_
 clear hf
 cases r1 with
 |false=>simp[hhead,c1]
 |true=>
 cases r2 with
 |false=>simp[hhead,c1,c2]
 |true=>
 have sx:=d1.1 rfl
 have sy:=d2.1 rfl
 clear d1 d2
 obtain⟨r3,c3,d3⟩:=fits18_call sp h64 hnm x.a x.st bs (by have:=sx.2.2.2.1;omega) hbl (by have:=sx.1;omega)
 cases r3 with
 |false=>simp[hhead,c1,c2,c3]
 |true=>
 have ok:=d3 rfl
 clear d3
 obtain⟨r4,c4,d4⟩:=m_valid sx
 cases r4 with
 |false=>simp[hhead,c1,c2,c3,c4]
 |true=>
 have vx:=d4.1 rfl
 clear d4
 obtain⟨r5,c5,d5⟩:=m_valid sy
 cases r5 with
 |false=>simp[hhead,c1,c2,c3,c4,c5]
 |true=>
 have vy:=d5.1 rfl
 clear d5
 obtain⟨r6,c6,d6⟩:=m_in vx sx ok
 cases r6 with
 |false=>simp[hhead,c1,c2,c3,c4,c5,c6]
 |true=>
 have ix:=d6.1 rfl
 clear d6
 obtain⟨r7,c7,d7⟩:=m_in vy sy ok
 cases r7 with
 |false=>simp[hhead,c1,c2,c3,c4,c5,c6,c7]
 |true=>
 have iy:=d7.1 rfl
 clear d7
 have e1:=m_yes vx sx ok ix rfl rfl
 obtain⟨r8,c8,d8⟩:=ints_call x.a y.a (by have:=sx.2.2.2.1;omega)
 by_cases hsame:r8=true∧x.st=y.st
 ·obtain⟨rfl,hst⟩:=hsame
  have ha:=d8.1 rfl
  have e2:=m_yes vy sy ok iy hst.symm ha.symm
  obtain⟨gx1,gx2,gx3,gx4,gx5⟩:=(moOk_iff ok.spk.fd).1 vx
  obtain⟨gy1,gy2,gy3,gy4,gy5⟩:=(moOk_iff ok.spk.fd).1 vy
  have hlen:(els x.ss).length=(els y.ss).length:=by omega
  obtain⟨o1,o2⟩:=order_law (els sp.fi) (els bs) x.st x.lp y.lp (els x.ss) (els y.ss) gx1.2.2.1 gx2 (by omega) ⟨gx3,gx4⟩ ⟨gy3,by omega⟩ (m_static vx ok) (m_static vy ok)
  have hel:(encB (els sp.fi) (els bs) x.st x.lp (els x.ss)).length<4611686018427387904:=by
   have h1:=freeA_len (els bs) 0 64 fun b hb=>(ok.tu b hb).2
   have h2:=entsA_len ((els sp.fi).map Fi.va) (freeA 0 (els bs)) x.st.toNat 0 (selN x.st)
   have h3:(els bs).length≤6:=by have:=ok.len;have:=ok.spk.nf;omega
   have h4:(freeA 0 (els bs)).length≤6*64:=Nat.le_trans h1 (Nat.mul_le_mul_right 64 h3)
   have h5:x.st.toNat*(freeA 0 (els bs)).length≤4*(6*64):=Nat.mul_le_mul (by have:=gx1.2.2.2.1;omega) h4
   have h6:selN x.st≤4:=by have:=gx1.2.2.2.1;unfold selN;split<;>omega
   unfold encB entL
   rw[List.length_append,List.length_map,preB_len]
   omega
  have c9:=lexical_call (bitS (encB (els sp.fi) (els bs) x.st x.lp (els x.ss))) (bitS (encB (els sp.fi) (els bs) x.st y.lp (els y.ss))) (by rw[bitS_els];exact hel) (by rw[bitS_els,bitS_els];exact o1)
  have c10:=compare_call bs (by have:=ok.len;have:=ok.spk.nf;omega) (fun b hb=>by have:=ok.tu b hb;omega) x.ss y.ss x.a y.a x.st y.st x.lp y.lp (by have:=sx.2.2.1;omega) hlen (m_sts vx sx ok) (m_sts vy sy ok)
  rw[bitS_els,bitS_els,o2] at c9
  have l1:=len_bools (bitS (encB (els sp.fi) (els bs) x.st x.lp (els x.ss)))
  have l2:=len_bools (bitS (encB (els sp.fi) (els bs) x.st y.lp (els y.ss)))
  rw[bitS_els] at l1 l2
  rw[←o1] at l2
  generalize cmpI x.lp y.lp (freeA 0 (els bs)) (els x.ss) (els y.ss)=z at *
  generalize (encB (els sp.fi) (els bs) x.st x.lp (els x.ss)).length=n at *
  generalize boolsP (bitS (encB (els sp.fi) (els bs) x.st x.lp (els x.ss)))=p at *
  generalize boolsP (bitS (encB (els sp.fi) (els bs) x.st y.lp (els y.ss)))=q at *
  clear d8 hlen gx1 gx2 gx3 gx4 gx5 gy1 gy2 gy3 gy4 gy5 sx sy vx vy ix iy ok
  obtain⟨xa,xst,xss,xlp⟩:=x
  obtain⟨ya,yst,yss,ylp⟩:=y
  dsimp only at *
  subst hst
  simp[hhead,c1,c2,c3,c4,c5,c6,c7,e1,e2,c8,c9,c10,l1,l2]
 ·have e2:=m_no vy sy ok iy fun hh=>hsame ⟨d8.2 hh.2.symm,hh.1.symm⟩
  cases r8 with
  |false=>simp[hhead,c1,c2,c3,c4,c5,c6,c7,e1,e2,c8]
  |true=>
   have hst:¬x.st=y.st:=fun h=>hsame ⟨rfl,h⟩
   simp[hhead,c1,c2,c3,c4,c5,c6,c7,e1,e2,c8,hst]
end Go.Proofs.YtgplgbonlnodeaaGreatDoor
namespace Go.Proofs.YtgplgbonlnodeaaGreatDoor
open Go.Vs
open Go.ChangeShapes Go.WideShapes Go.RowKit
theorem list_of{α:Type}{f:α→PD}{R:α→Prop}:∀{es:List PD},(∀x∈es,∃a,x=f a∧R a)→∃l:List α,es=l.map f∧∀a∈l,R a
 |[],_=>⟨[],rfl,by simp⟩
 |x::es,h=>by
  obtain⟨a,rfl,ha⟩:=h x (by simp)
  obtain⟨l,rfl,hl⟩:=list_of (es:=es) fun y hy=>h y (by simp[hy])
  exact⟨a::l,rfl,fun b hb=>by
   rcases List.mem_cons.1 hb with rfl |hb
   ·exact ha
   ·exact hl b hb⟩
theorem arg_sl{t e sz:Nat}{α:Type}{f:α→PD}{R:α→Prop}{xs:List PD}(ht:Tryz.prog.underlying t=some (.slice e))(hc:Tryz.prog.cellsOf e=sz)(hpos:1≤Tryz.prog.bytesOf e)(h:TyB Tryz.prog t xs)
    (he:∀es x,xs=[.slice sz es]→x∈es→TyB Tryz.prog e x.cells→x=mkE Tryz.prog e x.cells→∃a,x=f a∧R a):∃o:Sl α,xs=[slP sz (o.map f)]∧(els o).length<4611686018427387904∧∀a∈els o,R a:=by
 subst hc
 rcases tyb_slice ht h with rfl |rfl |⟨es,hne,hl,rfl,h1,h2⟩
 ·exact⟨.nil,rfl,by simp[els],by simp[els]⟩
 ·exact⟨.of [],rfl,by simp[els],by simp[els]⟩
 ·obtain⟨l,rfl,hR⟩:=list_of fun x hx=>he es x rfl hx (h1 x hx) (h2 x hx)
  refine⟨.of l,?_,?_,hR⟩
  ·cases l with
   |nil=>exact absurd rfl hne
   |cons z zs=>rfl
  ·rw[List.length_map] at hl
   have h3:=Nat.mul_le_mul_left l.length hpos
   have h4:reachBytes=140737488351232:=rfl
   simp only[els]
   omega
theorem arg_ints{xs:List PD}(h:TyB Tryz.prog 28 xs):∃o:Sl Int,xs=[intsP o]:=by
 obtain⟨o,e,_,_⟩:=arg_sl (f:=PD.int .i64) (R:=fun _=>True) Tryz.underlying28 (by kernel_rfl) (of_decide_eq_true (by kernel_rfl)) h fun es x hes hx h1 h2=>by
  obtain⟨n,e1,_⟩:=tyb_int Tryz.underlying3 h1
  rw[e1,mkE_one (fun fs e=>by rw[Tryz.underlying3] at e;cases e)] at h2
  exact⟨n,h2,trivial⟩
 exact⟨o,e⟩
theorem arg_rel{xs:List PD}(h:TyB Tryz.prog 85 xs):∃r:Rl,xs=[.int .i64 r.ar,intsP r.tu]:=by
 obtain⟨parts,rfl,hl,hf⟩:=tyb_struct Tryz.underlying85 h
 match parts,hl with
 |[a,b],_=>
  obtain⟨n,rfl,_⟩:=tyb_int Tryz.underlying3 (hf 0 _ a rfl rfl)
  obtain⟨o,rfl⟩:=arg_ints (hf 1 _ b rfl rfl)
  exact⟨⟨n,o⟩,rfl⟩
theorem arg_bounds{xs:List PD}(h:TyB Tryz.prog 31 xs):∃bs:Sl Bn,xs=[boundsP bs]∧(els bs).length<4611686018427387904:=by
 obtain⟨o,e,h1,_⟩:=arg_sl (f:=Bn.p) (R:=fun _=>True) Tryz.underlying31 (by kernel_rfl) (of_decide_eq_true (by kernel_rfl)) h fun es x hes hx h1 h2=>by
  rw[mkE_struct Tryz.underlying98] at h2
  obtain⟨parts,e,hl,hf⟩:=tyb_struct Tryz.underlying98 h1
  match parts,hl with
  |[a,b],_=>
   obtain⟨r,rfl⟩:=arg_rel (hf 0 _ a rfl rfl)
   obtain⟨q,rfl⟩:=arg_rel (hf 1 _ b rfl rfl)
   rw[e] at h2
   exact⟨⟨r,q⟩,h2,trivial⟩
 exact⟨o,e,h1⟩
theorem arg_rels{xs:List PD}(h:TyB Tryz.prog 78 xs):∃o:Sl Rl,xs=[relsP o]:=by
 obtain⟨o,e,_,_⟩:=arg_sl (f:=Rl.p) (R:=fun _=>True) Tryz.underlying78 (by kernel_rfl) (of_decide_eq_true (by kernel_rfl)) h fun es x hes hx h1 h2=>by
  rw[mkE_struct Tryz.underlying85] at h2
  obtain⟨r,e⟩:=arg_rel h1
  rw[e] at h2
  exact⟨r,h2,trivial⟩
 exact⟨o,e⟩
theorem arg_states{xs:List PD}(h:TyB Tryz.prog 35 xs):∃o:Sl (Sl Rl),xs=[statesP o]:=by
 obtain⟨o,e,_,_⟩:=arg_sl (f:=relsP) (R:=fun _=>True) Tryz.underlying35 (by kernel_rfl) (of_decide_eq_true (by kernel_rfl)) h fun es x hes hx h1 h2=>by
  obtain⟨r,e⟩:=arg_rels h1
  rw[e,mkE_one (fun fs e=>by rw[Tryz.underlying78] at e;cases e)] at h2
  exact⟨r,h2,trivial⟩
 exact⟨o,e⟩
theorem arg_model{xs:List PD}(h:TyB Tryz.prog 37 xs):∃m:Mo,xs=[intsP m.a,.int .i64 m.st,statesP m.ss,.int .i64 m.lp]:=by
 obtain⟨parts,rfl,hl,hf⟩:=tyb_struct Tryz.underlying37 h
 match parts,hl with
 |[a,b,c],_=>
  obtain⟨parts2,rfl,hl2,hf2⟩:=tyb_struct Tryz.underlying30 (hf 0 _ a rfl rfl)
  obtain⟨ss,rfl⟩:=arg_states (hf 1 _ b rfl rfl)
  obtain⟨lp,rfl,_⟩:=tyb_int Tryz.underlying3 (hf 2 _ c rfl rfl)
  match parts2,hl2 with
  |[d,e],_=>
   obtain⟨at',rfl⟩:=arg_ints (hf2 0 _ d rfl rfl)
   obtain⟨st,rfl,_⟩:=tyb_int Tryz.underlying3 (hf2 1 _ e rfl rfl)
   exact⟨⟨at',st,ss,lp⟩,rfl⟩
theorem sl_nd(o:Sl Nd):∃c ks,o=ndSl c ks:=by
 match o with
 | .nil=>exact⟨0,[],rfl⟩
 | .amb=>exact⟨1,[],rfl⟩
 | .of []=>exact⟨2,[],rfl⟩
 | .of (x::l)=>exact⟨2,x::l,rfl⟩
theorem arg_node:∀(n:Nat) (xs:List PD),SizeOf.sizeOf xs≤n→TyB Tryz.prog 66 xs→∃a:Nd,xs=a.cl∧Ok64 a:=by
 intro n
 induction n with
 |zero=>intro xs h;cases xs<;>simp at h
 |succ n ih=>
  intro xs hs h
  obtain⟨parts,rfl,hl,hf⟩:=tyb_struct Tryz.underlying66 h
  match parts,hl with
  |[a,b,c,d,e],_=>
   obtain⟨op,rfl,_⟩:=tyb_int Tryz.underlying3 (hf 0 _ a rfl rfl)
   obtain⟨nm,rfl,_⟩:=tyb_str Tryz.underlying9 (hf 1 _ b rfl rfl)
   obtain⟨k,rfl,_⟩:=tyb_int Tryz.underlying3 (hf 2 _ c rfl rfl)
   obtain⟨pos,rfl,_⟩:=tyb_int Tryz.underlying3 (hf 4 _ e rfl rfl)
   have hd:=hf 3 _ d rfl rfl
   obtain⟨o,rfl,hlen,hok⟩:=arg_sl (f:=Nd.pd) (R:=Ok64) (sz:=5) Tryz.underlying64 (by kernel_rfl) (of_decide_eq_true (by kernel_rfl)) hd fun es x hes hx h1 h2=>by
    rw[mkE_struct Tryz.underlying66] at h2
    have hlt:SizeOf.sizeOf x<SizeOf.sizeOf es:=List.sizeOf_lt_of_mem hx
    have hx2:SizeOf.sizeOf x=1+SizeOf.sizeOf x.cells:=by
     have :SizeOf.sizeOf (PD.agg x.cells)=1+SizeOf.sizeOf x.cells:=by simp
     rw[←h2] at this;exact this
    subst hes
    simp at hs
    obtain⟨y,hy,hyo⟩:=ih x.cells (by omega) h1
    exact⟨y,by rw[h2,hy,pd_cells],hyo⟩
   obtain⟨c,ks,rfl⟩:=sl_nd o
   rw[els_ndSl] at hlen hok
   exact⟨.mk op nm k c ks pos,rfl,.mk _ hlen hok⟩
theorem node_of{xs:List PD}(h:TyB Tryz.prog 66 xs):∃a:Nd,xs=a.cl∧Ok64 a:=arg_node _ _ (Nat.le_refl _) h
theorem arg_sorts{xs:List PD}(h:TyB Tryz.prog 22 xs):∃o:Sl Sr,xs=[sortsP o]∧∀s∈els o,s.nm.length≤140737488355000:=by
 obtain⟨o,e,_,h2⟩:=arg_sl (f:=Sr.p) (R:=fun s=>s.nm.length≤140737488355000) Tryz.underlying22 (by kernel_rfl) (of_decide_eq_true (by kernel_rfl)) h fun es x hes hx h1 h2=>by
  rw[mkE_struct Tryz.underlying93] at h2
  obtain⟨parts,e,hl,hf⟩:=tyb_struct Tryz.underlying93 h1
  match parts,hl with
  |[a,b],_=>
   obtain⟨nm,rfl,hn⟩:=tyb_str Tryz.underlying9 (hf 0 _ a rfl rfl)
   obtain⟨od,rfl⟩:=tyb_bool Tryz.underlying4 (hf 1 _ b rfl rfl)
   rw[e] at h2
   have h4:reachBytes=140737488351232:=rfl
   exact⟨⟨nm,od⟩,h2,by dsimp only;omega⟩
 exact⟨o,e,h2⟩
theorem arg_fields{xs:List PD}(h:TyB Tryz.prog 23 xs):∃o:Sl Fi,xs=[fieldsP o]:=by
 obtain⟨o,e,_,_⟩:=arg_sl (f:=Fi.p) (R:=fun _=>True) Tryz.underlying23 (by kernel_rfl) (of_decide_eq_true (by kernel_rfl)) h fun es x hes hx h1 h2=>by
  rw[mkE_struct Tryz.underlying95] at h2
  obtain⟨parts,e,hl,hf⟩:=tyb_struct Tryz.underlying95 h1
  match parts,hl with
  |[a,b,c],_=>
   obtain⟨nm,rfl,_⟩:=tyb_str Tryz.underlying9 (hf 0 _ a rfl rfl)
   obtain⟨so,rfl⟩:=arg_ints (hf 1 _ b rfl rfl)
   obtain⟨va,rfl⟩:=tyb_bool Tryz.underlying4 (hf 2 _ c rfl rfl)
   rw[e] at h2
   exact⟨⟨nm,so,va⟩,h2,trivial⟩
 exact⟨o,e⟩
theorem arg_params{xs:List PD}(h:TyB Tryz.prog 163 xs):∃o:Sl Pm,xs=[paramsP o]:=by
 obtain⟨o,e,_,_⟩:=arg_sl (f:=Pm.p) (R:=fun _=>True) Tryz.underlying163 (by kernel_rfl) (of_decide_eq_true (by kernel_rfl)) h fun es x hes hx h1 h2=>by
  rw[mkE_struct Tryz.underlying222] at h2
  obtain⟨parts,e,hl,hf⟩:=tyb_struct Tryz.underlying222 h1
  match parts,hl with
  |[a,b],_=>
   obtain⟨nm,rfl,_⟩:=tyb_str Tryz.underlying9 (hf 0 _ a rfl rfl)
   obtain⟨so,rfl,_⟩:=tyb_int Tryz.underlying3 (hf 1 _ b rfl rfl)
   rw[e] at h2
   exact⟨⟨nm,so⟩,h2,trivial⟩
 exact⟨o,e⟩
theorem arg_preds{xs:List PD}(h:TyB Tryz.prog 24 xs):∃o:Sl Pr,xs=[predsP o]∧∀p∈els o,Ok64 p.bo:=by
 obtain⟨o,e,_,h2⟩:=arg_sl (f:=Pr.p) (R:=fun p=>Ok64 p.bo) Tryz.underlying24 (by kernel_rfl) (of_decide_eq_true (by kernel_rfl)) h fun es x hes hx h1 h2=>by
  rw[mkE_struct Tryz.underlying165] at h2
  obtain⟨parts,e,hl,hf⟩:=tyb_struct Tryz.underlying165 h1
  match parts,hl with
  |[a,b,c],_=>
   obtain⟨nm,rfl,_⟩:=tyb_str Tryz.underlying9 (hf 0 _ a rfl rfl)
   obtain⟨ps,rfl⟩:=arg_params (hf 1 _ b rfl rfl)
   obtain⟨bo,rfl,hbo⟩:=node_of (hf 2 _ c rfl rfl)
   rw[e] at h2
   exact⟨⟨nm,ps,bo⟩,h2,hbo⟩
 exact⟨o,e,h2⟩
theorem arg_facts{xs:List PD}(h:TyB Tryz.prog 25 xs):∃o:Sl Fa,xs=[factsP o]∧∀p∈els o,Ok64 p.bo:=by
 obtain⟨o,e,_,h2⟩:=arg_sl (f:=Fa.p) (R:=fun p=>Ok64 p.bo) Tryz.underlying25 (by kernel_rfl) (of_decide_eq_true (by kernel_rfl)) h fun es x hes hx h1 h2=>by
  rw[mkE_struct Tryz.underlying147] at h2
  obtain⟨parts,e,hl,hf⟩:=tyb_struct Tryz.underlying147 h1
  match parts,hl with
  |[a,c],_=>
   obtain⟨nm,rfl,_⟩:=tyb_str Tryz.underlying9 (hf 0 _ a rfl rfl)
   obtain⟨bo,rfl,hbo⟩:=node_of (hf 1 _ c rfl rfl)
   rw[e] at h2
   exact⟨⟨nm,bo⟩,h2,hbo⟩
 exact⟨o,e,h2⟩
theorem arg_spec{xs:List PD}(h:TyB Tryz.prog 27 xs):∃sp:Sp,xs=sp.cl∧Sp64 sp∧NmOk sp:=by
 obtain⟨parts,rfl,hl,hf⟩:=tyb_struct Tryz.underlying27 h
 match parts,hl with
 |[a,b,c,d],_=>
  obtain⟨so,rfl,h1⟩:=arg_sorts (hf 0 _ a rfl rfl)
  obtain⟨fi,rfl⟩:=arg_fields (hf 1 _ b rfl rfl)
  obtain⟨pr,rfl,h2⟩:=arg_preds (hf 2 _ c rfl rfl)
  obtain⟨fa,rfl,h3⟩:=arg_facts (hf 3 _ d rfl rfl)
  exact⟨⟨so,fi,pr,fa⟩,rfl,⟨h2,h3⟩,h1⟩
abbrev argTs:List TypeId:=[27,31,37,22,23,24,25,98,30,35,3,93,95,165,147,85,28,78,9,4,163,66,222,64]
theorem argTs_ok:argTs.all (tyOk Tryz.prog argTs)=true:=by kernel_rfl
variable {H : Type} {enc : TypeId × Value → H} {W : World} {r : Reach} {b0 : Nat} {v : Value}
def Rd(enc:TypeId×Value→H)(W:World)(t:TypeId)(v:Value):Prop:=∃d p,DataW.Trod enc Tryz.prog W 0 (fun _=>true) true t v d p∧Szd Tryz.prog t d
set_option maxRecDepth 20000 in
theorem rep_spec(hval:Value.okWide Tryz.prog W r b0 27 v)(hd:Rd enc W 27 v):∃sp:Sp,RepD (gh0 W) v (.p (.agg sp.cl))∧Sp64 sp∧NmOk sp:=by
 obtain⟨d,p,hd,hz⟩:=hd
 obtain⟨x,h1,h2,h3,_⟩:=rep_anyB argTs_ok (by simp) hval hd hz
 obtain⟨sp,e,q⟩:=arg_spec h2
 have hx:=h3 ⟨_,Tryz.underlying27⟩
 exact⟨sp,by rw[←e,←hx];exact h1,q⟩
set_option maxRecDepth 20000 in
theorem rep_model(hval:Value.okWide Tryz.prog W r b0 37 v)(hd:Rd enc W 37 v):∃m:Mo,RepD (gh0 W) v (.p (.agg [intsP m.a,.int .i64 m.st,statesP m.ss,.int .i64 m.lp])):=by
 obtain⟨d,p,hd,hz⟩:=hd
 obtain⟨x,h1,h2,h3,_⟩:=rep_anyB argTs_ok (by simp) hval hd hz
 obtain⟨m,e⟩:=arg_model h2
 have hx:=h3 ⟨_,Tryz.underlying37⟩
 exact⟨m,by rw[←e,←hx];exact h1⟩
set_option maxRecDepth 20000 in
theorem rep_bounds(hval:Value.okWide Tryz.prog W r b0 31 v)(hd:Rd enc W 31 v):∃bs:Sl Bn,RepD (gh0 W) v (.p (boundsP bs))∧(els bs).length<4611686018427387904:=by
 obtain⟨d,p,hd,hz⟩:=hd
 obtain⟨x,h1,h2,_,h4⟩:=rep_anyB argTs_ok (by simp) hval hd hz
 obtain⟨bs,e,q⟩:=arg_bounds h2
 have h4:=h4 fun fs e=>by rw[Tryz.underlying31] at e;cases e
 have hx:x=boundsP bs:=by
  cases x<;>first |(simp only[PD.cells,List.cons.injEq,and_true] at e;exact e) |(cases h4)
 exact⟨bs,hx▸h1,q⟩
theorem ren_bool{bi ti:Nat→Option Nat}{d:D}{b:Bool}(h:d.ren bi ti=some (.p (.bool b))):d= .p (.bool b):=by
 cases d with
 |p x=>simpa[D.ren] using h
 |tsl t e sz es=>simp only[D.ren] at h;split at h<;>simp at h
 |fn f a c=>simp only[D.ren] at h;split at h<;>simp at h
 |_=>simp[D.ren] at h
theorem call_bool{c:CallR}{f:Nat}{aa:List PD}{b:Bool}{H':Hp}(h:callD c f (aa.map .p) ⟨[],[]⟩=some (.val (.p (.bool b)),H')):∃Hx,c f (aa.map .p) ⟨[],[]⟩=some (.val (.p (.bool b)),Hx):=by
 unfold callD at h
 simp only[refsL_p,toksL_p,ins,reach_nil,boxToks,List.append_nil,Vs.nodupB,Bool.and_self,if_true,mapO,renL_p] at h
 cases hc:c f (aa.map .p) ⟨[],[]⟩ with
 |none=>rw[hc] at h;cases h
 |some y=>
  obtain⟨r,Hx⟩:=y
  rw[hc] at h
  dsimp only at h
  refine⟨Hx,?_⟩
  have key:∀bi ti,r.ren bi ti=some (.val (.p (.bool b)))→r= .val (.p (.bool b)):=by
   intro bi ti hr
   cases r with
   |val d=>
    simp only[Res.ren,Option.map_eq_some_iff] at hr
    obtain⟨d',h1,h2⟩:=hr
    cases h2
    rw[ren_bool h1]
   |pan d=>
    simp only[Res.ren,Option.map_eq_some_iff] at hr
    obtain⟨d',_,h2⟩:=hr
    cases h2
  unfold back at h
  split at h
  ·dsimp only at h
   split at h
   ·rename_i hr _
    cases h
    rw[key _ _ hr]
   ·split at h
    ·rename_i hr _ _
     cases h
     rw[key _ _ hr]
    ·cases h
  ·cases h
end Go.Proofs.YtgplgbonlnodeaaGreatDoor
namespace Go.Proofs.YtgplgbonlnodeaaGreatDoor
open Go.Vs
theorem isTrue_eq{x:Option (Res×Hp)}(h:isTrue x=true):∃H,x=some (.val (.p (.bool true)),H):=by
 unfold isTrue at h
 split at h
 ·rename_i b H
  subst h
  exact⟨H,rfl⟩
 ·cases h
theorem head_call(H:Hp):callD (call pg) 10 [] H=some (.val (.p (.bool true)),H):=by
 obtain⟨H',h⟩:=isTrue_eq head_run
 exact callD_pure (call_of_evF 60 h) rfl rfl rfl rfl
theorem law6(sp:Sp)(h64:Sp64 sp)(hnm:NmOk sp)(bs:Sl Bn)(hbl:(els bs).length<4611686018427387904)(x y:Mo):
    ∃H',call pg 6 [.p (.agg sp.cl),.p (boundsP bs),.p (.agg [intsP x.a,.int .i64 x.st,statesP x.ss,.int .i64 x.lp]),.p (.agg [intsP y.a,.int .i64 y.st,statesP y.ss,.int .i64 y.lp])] ⟨[],[]⟩=some (.val (.p (.bool true)),H'):=
 call_bool (aa:=[_,_,_,_]) (law_order head_call sp h64 hnm bs hbl x y ⟨[],[]⟩)
end Go.Proofs.YtgplgbonlnodeaaGreatDoor
end
