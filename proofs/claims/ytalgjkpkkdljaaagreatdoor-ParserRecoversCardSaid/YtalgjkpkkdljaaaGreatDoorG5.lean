/-
  A value-level evaluator for Go functions; the functions of this cut by it; plain laws. Part 5 of 7.
-/
import Derived.Test.YtalgjkpkkdljaaaGreatDoorG4
namespace Go.Proofs.YtalgjkpkkdljaaaGreatDoor
open Go.Vs
theorem Ans.okU{α:Type}{g:Nat}{args:List PD}{c:Rd}{a o:Nat}{f:α→D}{x:α}{a':Nat}(h:Ans g args c a o f (.ok x a'))(bx:List (List D)):
    callD (call pg) g (.box 0 0::args.map .p) ⟨rC c a o::tabB::tabU::tabS::bx,c.tk⟩=some (.val (f x),⟨rC c a' o::tabB::tabU::tabS::bx,c.tk⟩):=by
 have:=h bx []
 simpa only[rH,List.append_nil] using this
theorem Ans.badU{α:Type}{g:Nat}{args:List PD}{c:Rd}{a o:Nat}{f:α→D}{e:Int}{p a':Nat}(h:Ans g args c a o f (.bad e p a':PR α)):
    ∃o',∀bx:List (List D),callD (call pg) g (.box 0 0::args.map .p) ⟨rC c a o::tabB::tabU::tabS::bx,c.tk⟩=some (.pan (faultD e p),⟨rC c a' o'::tabB::tabU::tabS::bx,c.tk⟩):=by
 obtain⟨o',h⟩:=h
 refine⟨o',fun bx=>?_⟩
 have:=h bx []
 simpa only[rH,List.append_nil] using this
theorem ans_frz{g:Nat}{args:List PD}{c:Rd}(hc:c.Ok){a o:Nat}{fc:FC}(hl:pgL g (.box 0 0::args.map .p) (rH c a o [] [])=none)(hf:pgF g=some fc)(hn:args.length+1=fc.np)(hz:fc.frozen=true)
    {x:Nd} {a':Nat} (d:D) (hd:∀H,d.frz 4 H 8= .p x.pd)
    (e:∃ex,finish pg.G fc.res (evS (call pg) pg.G iterX fc.body ⟨entry 0 (.box 0 0::args.map .p),rH c a o [] []⟩)=some (.val d,rH c a' o ex [])):
    Ans g args c a o (fun x:Nd=>.p x.pd) (.ok x a'):=by
 obtain⟨ex,e⟩:=e
 refine ans_ok hc (fun _ _=>rfl) ⟨[],[],call_frz hl hf (by simpa using hn) hz e (seal_rd hc ?_)⟩
 simp only[Res.frz,hd,Res.ren,D.ren,Option.map_some]
theorem ans_frzB{g:Nat}{args:List PD}{c:Rd}(hc:c.Ok){a o:Nat}{fc:FC}(hl:pgL g (.box 0 0::args.map .p) (rH c a o [] [])=none)(hf:pgF g=some fc)(hn:args.length+1=fc.np)(hz:fc.frozen=true)
    {er:Int} {p a':Nat}
    (e:∃ex o',finish pg.G fc.res (evS (call pg) pg.G iterX fc.body ⟨entry 0 (.box 0 0::args.map .p),rH c a o [] []⟩)=some (.pan (faultD er p),rH c a' o' ex [])):
    Ans g args c a o (fun x:Nd=>.p x.pd) (.bad er p a'):=by
 obtain⟨ex,o',e⟩:=e
 exact ans_bad hc ⟨o',[],[],call_frz hl hf (by simpa using hn) hz e (seal_bad hc)⟩
section
variable {G : Nat → Option (List PD)} {q0 q1 q2 q3 q4 q5 : List D} {x y z v w : PD} {r : List (List D)} {tk : List Nat} {k1 k2 k3 k4 k5 : D} {n : Int} {s : List UInt8}
theorem ld60:loadD G ⟨q0::q1::q2::q3::q4::q5::[.p x,.p y,.p z]::r,tk⟩ none (.box 6 0)=some (.p x):=rfl
theorem ld61:loadD G ⟨q0::q1::q2::q3::q4::q5::[.p x,.p y,.p z]::r,tk⟩ none (.box 6 1)=some (.p y):=rfl
theorem stT6{x z:Int}{y:List UInt8}:storeD ⟨q0::q1::q2::q3::q4::q5::[k1,k2,k3]::r,tk⟩ 3 (.box 6 0) (.p (.agg [.int .i64 x,.str y,.int .i64 z]))=some ⟨q0::q1::q2::q3::q4::q5::[.p (.int .i64 x),.p (.str y),.p (.int .i64 z)]::r,tk⟩:=by
 simp[storeD,isMapC,D.cells,D.one,PD.one,splice]
theorem st52:storeD ⟨q0::q1::q2::q3::q4::[k1,k2,k3,k4,k5]::r,tk⟩ 1 (.box 5 2) (.p (.int .i64 n))=some ⟨q0::q1::q2::q3::q4::[k1,k2,.p (.int .i64 n),k4,k5]::r,tk⟩:=by
 simp[storeD,isMapC,D.cells,D.one,PD.one,splice]
end
theorem leaf_cells(op:Int)(nm:List UInt8)(n:Int)(p:Nat):(leafN op nm n p).pd= .agg [.int .i64 op,.str nm,.int .i64 n,.nils,.int .i64 p]:=rfl
theorem none_eq{c:Rd}(h:c.Sz)(a o p:Nat)(hs:a≤2000000):Ans 154 [.int .i64 p] c a o (fun x:Nd=>.p x.pd) (noneP c p a):=by
 have ac:=fun bx=>accept_eq h.toOk a o [91] (by omega) bx []
 have lk:=fun bx=>look_at h.toOk (a+1) o (by omega) bx []
 have wr:=fun bx=>wrong_eq h (a+1) o (by omega) bx []
 have hn:Ans 153 [.int .i64 3] c (a+1) o (fun n:Nat=>.p (.int .i64 n)) (numberP c 3 (a+1)):=number_eq h (a+1) o 3 (by omega)
 simp only[rH,List.append_nil,acceptN] at ac lk wr
 unfold noneP
 cases hb:acceptB c a [91] with
 |false=>
  rw[hb] at ac
  refine ans_frz h.toOk (fc:=fc154) rfl rfl rfl rfl (.p (leafN 2 [] 1 p).pd) (fun _=>rfl) ⟨[(leafN 2 [] 1 p).cells.map .p,(leafN 2 [] 1 p).cells.map .p],?_⟩
  have e:(leafN 2 [] 1 p).cells=[.int .i64 2,.str [],.int .i64 1,.nils,.int .i64 p]:=rfl
  simp only[rH,List.append_nil,leaf_cells,e]
  simp[fc154,evKC,evK,put,Env.get,Env.keep,entry,Opd.ev,splice,finish,evRes,evRes1,D.cells,mkAgg,pures,fillD,ac,ldm,ldn,stn oN,stn4 oN,oP]
 |true=>
  rw[hb] at ac
  have eT:(if true=true then(if(c.tok (a+1)).k=2∧digit13 (c.tok (a+1)).t=true then
   (numberP c 3 (a+1)).bind fun n a=>(expectP c a [93]).bind fun _ a=>.ok (leafN 2 [] n p) a
    else wrongP c (a+1)) else .ok (leafN 2 [] 1 p) a)=(if(c.tok (a+1)).k=2∧digit13 (c.tok (a+1)).t=true then
   (numberP c 3 (a+1)).bind fun n a=>(expectP c a [93]).bind fun _ a=>.ok (leafN 2 [] n p) a
    else wrongP c (a+1)):=if_pos rfl
  rw[eT]
  have e1:(leafN 2 [] 1 p).cells=[.int .i64 2,.str [],.int .i64 1,.nils,.int .i64 p]:=rfl
  by_cases hc:(c.tok (a+1)).k=2∧digit13 (c.tok (a+1)).t=true
  ·rw[if_pos hc]
   obtain⟨h2,h3⟩:=hc
   obtain⟨b,hb1,hb2,hb3⟩:∃b:UInt8,(c.tok (a+1)).t=[b]∧49≤b.toNat∧b.toNat≤51:=by
    unfold digit13 at h3
    split at h3
    ·rename_i b hb;rw[Bool.and_eq_true] at h3;exact⟨b,hb,of_decide_eq_true h3.1,of_decide_eq_true h3.2⟩
    ·cases h3
   have d1:¬((b.toNat:Int)<49):=by omega
   have d2:¬(51<(b.toNat:Int)):=by omega
   rw[hb1,h2] at lk
   have hin:numberP c 3 (a+1)= .bad 2 (c.tok (a+1)).p (a+1)∨∃m,numberP c 3 (a+1)= .ok m (a+1+1):=by
    unfold numberP
    rw[if_pos h2]
    by_cases q:3<(c.tok (a+1)).num
    ·left;rw[if_pos q]
    ·right;exact⟨_,if_neg q⟩
   rcases hin with hr |⟨m,hr⟩
   ·rw[hr] at hn⊢
    obtain⟨o',hn⟩:=hn.badU
    simp only[List.map_cons,List.map_nil] at hn
    refine ans_frzB h.toOk (fc:=fc154) rfl rfl rfl rfl ⟨[[.p (.int .i64 0),.p (.str []),.p (.int .i64 0),.p .nils,.p (.int .i64 0)],(leafN 2 [] 1 p).cells.map .p,[.p (.int .i64 2),.p (.str [b]),.p (.int .i64 (c.tok (a+1)).p)]],o',?_⟩
    simp only[rH,List.append_nil,e1]
    generalize c.tok (a+1)=y at *
    simp[fc154,evKC,evK,evGuard,put,Env.get,Env.keep,entry,Opd.ev,splice,indexD,D.asInt?,u8,binD,lenD,finish,D.cells,mkAgg,pures,fillD,ac,lk,stT6,ld60,ld61,d1,d2,hn,stn oN,oP]
   ·rw[hr] at hn⊢
    have hn:=hn.okU
    simp only[List.map_cons,List.map_nil] at hn
    show Ans 154 [.int .i64 p] c a o (fun x:Nd=>.p x.pd) ((expectP c (a+1+1) [93]).bind fun _ a=>.ok (leafN 2 [] m p) a)
    generalize ha2:a+1+1=a2 at hn⊢
    have hx:=expect_eq h a2 o [93] (by omega)
    unfold expectP at hx⊢
    cases hb:acceptB c a2 [93] with
    |true=>
     rw[hb] at hx
     have hx:=hx.okU
     simp only[List.map_cons,List.map_nil] at hx
     refine ans_frz h.toOk (fc:=fc154) rfl rfl rfl rfl (.p (leafN 2 [] m p).pd) (fun _=>rfl) ⟨[(leafN 2 [] m p).cells.map .p,(leafN 2 [] m p).cells.map .p,[.p (.int .i64 2),.p (.str [b]),.p (.int .i64 (c.tok (a+1)).p)]],?_⟩
     have e:(leafN 2 [] m p).cells=[.int .i64 2,.str [],.int .i64 m,.nils,.int .i64 p]:=rfl
     simp only[rH,List.append_nil,leaf_cells,e]
     generalize c.tok (a+1)=y at *
     simp[fc154,evKC,evK,evGuard,put,Env.get,Env.keep,entry,Opd.ev,splice,indexD,D.asInt?,u8,binD,lenD,finish,evRes,evRes1,D.cells,mkAgg,pures,fillD,ac,lk,stT6,ld60,ld61,d1,d2,hn,hx,st52,ldm,ldn,stn oN,stn4 oN,oP]
    |false=>
     rw[hb] at hx
     obtain⟨o',hx⟩:=Ans.badU hx
     simp only[List.map_cons,List.map_nil] at hx
     refine ans_frzB h.toOk (fc:=fc154) rfl rfl rfl rfl ⟨[[.p (.int .i64 0),.p (.str []),.p (.int .i64 0),.p .nils,.p (.int .i64 0)],(leafN 2 [] m p).cells.map .p,[.p (.int .i64 2),.p (.str [b]),.p (.int .i64 (c.tok (a+1)).p)]],o',?_⟩
     have e:(leafN 2 [] m p).cells=[.int .i64 2,.str [],.int .i64 m,.nils,.int .i64 p]:=rfl
     simp only[rH,List.append_nil,e]
     generalize c.tok (a+1)=y at *
     simp[fc154,evKC,evK,evGuard,put,Env.get,Env.keep,entry,Opd.ev,splice,indexD,D.asInt?,u8,binD,lenD,finish,D.cells,mkAgg,pures,fillD,ac,lk,stT6,ld60,ld61,d1,d2,hn,hx,st52,stn oN,oP]
  ·rw[if_neg hc]
   refine ans_frzB h.toOk (fc:=fc154) rfl rfl rfl rfl ⟨[[.p (.int .i64 0),.p (.str []),.p (.int .i64 0),.p .nils,.p (.int .i64 0)],(leafN 2 [] 1 p).cells.map .p,[.p (.int .i64 (c.tok (a+1)).k),.p (.str (c.tok (a+1)).t),.p (.int .i64 (c.tok (a+1)).p)]],o,?_⟩
   simp only[rH,List.append_nil,e1]
   generalize c.tok (a+1)=y at *
   by_cases h2:y.k=2
   ·have h3:digit13 y.t=false:=by
     cases q:digit13 y.t with
     |true=>exact absurd ⟨h2,q⟩ hc
     |false=>rfl
    match hy:y.t with
    |[]=>simp[fc154,evKC,evK,evGuard,put,Env.get,Env.keep,entry,Opd.ev,splice,binD,lenD,finish,D.cells,mkAgg,pures,fillD,ac,lk,h2,hy,wr,stT6,ld60,ld61,stn oN,oP]
    |[b]=>
     rw[hy] at h3
     unfold digit13 at h3
     by_cases d1:(b.toNat:Int)<49
     ·simp[fc154,evKC,evK,evGuard,put,Env.get,Env.keep,entry,Opd.ev,splice,indexD,D.asInt?,u8,binD,lenD,finish,D.cells,mkAgg,pures,fillD,ac,lk,h2,hy,d1,wr,stT6,ld60,ld61,stn oN,oP]
     ·have d2:51<(b.toNat:Int):=by
       rw[Bool.and_eq_false_iff] at h3
       simp only[decide_eq_false_iff_not] at h3
       omega
      simp[fc154,evKC,evK,evGuard,put,Env.get,Env.keep,entry,Opd.ev,splice,indexD,D.asInt?,u8,binD,lenD,finish,D.cells,mkAgg,pures,fillD,ac,lk,h2,hy,d1,d2,wr,stT6,ld60,ld61,stn oN,oP]
    |b::b'::l=>
     have hl:((l.length:Int)+1+1==1)=false:=by simp;omega
     have hl':((l.length:Int)+1+1 !=1)=true:=by simp;omega
     simp[fc154,evKC,evK,evGuard,put,Env.get,Env.keep,entry,Opd.ev,splice,binD,lenD,finish,D.cells,mkAgg,pures,fillD,ac,lk,h2,hy,hl',wr,stT6,ld60,ld61,stn oN,oP]
   ·have h2':(y.k !=2)=true:=by simp[h2]
    simp[fc154,evKC,evK,evGuard,put,Env.get,Env.keep,entry,Opd.ev,splice,binD,finish,D.cells,mkAgg,pures,fillD,ac,lk,h2',wr,stT6,ld60,stn oN,oP]
end Go.Proofs.YtalgjkpkkdljaaaGreatDoor
namespace Go.Proofs.YtalgjkpkkdljaaaGreatDoor
open Go.Vs
theorem ia_fsl{a:Nd}{k:Nat}(h:k<a.ks.length):iaddrD none 5 (.fsl 39 5 (a.ks.map Nd.pd)) (k:Int)=some (.ro (a.ks[k]).cells 0):=by
 have:=iaddr_fsl (sz:=5) (e0:=39) (es:=a.ks.map Nd.pd) (k:=k) (by simpa using h)
 rw[this]
 simp[nd_cells]
def ftSF(w:List UInt8)(a:Nd)(k:Nat):St:=⟨[(7,.p (.str w)),(31,.fsl 39 5 (a.ks.map Nd.pd)),(32,.p (.int .i64 a.ks.length)),(33,.p (.int .i64 k))],⟨[tabS],[]⟩⟩
theorem fits_endF(w:List UInt8)(a:Nd):∃env,evS (call pg) pg.G iterX fc79_b0 (ftSF w a a.ks.length)=some (.exit 0,⟨env,⟨[tabS],[]⟩⟩):=by
 have r1:∀f g,D.renL f g tabS=some tabS:=fun f g=>rfl
 refine⟨[(7,.p (.str w)),(31,.fsl 39 5 (a.ks.map Nd.pd)),(32,.p (.int .i64 a.ks.length)),(33,.p (.int .i64 a.ks.length)),(34,.p (.bool false))],?_⟩
 simp[ftSF,fc79_b0,evKC,evK,put,Env.get,Env.keep,Opd.ev,binD,mapO,D.ren,locD,Out.ren,List.map,r1]
theorem fits_stepF{w:List UInt8}{a:Nd}{k:Nat}(hl:a.ks.length=w.length)(hb:a.ks.length≤1000000000)(hlt:k<a.ks.length):
    evS (call pg) pg.G iterX fc79_b0 (ftSF w a k)=some (if(kl (a.ks[k]).op==w[k]'(hl▸hlt))=true then(.norm,ftSF w a (k+1)) else(.ret,⟨[(6,.p (.bool false))],⟨[tabS],[]⟩⟩)):=by
 have r1:∀f g,D.renL f g tabS=some tabS:=fun f g=>rfl
 have hlt':(k:Int)<(a.ks.length:Int):=by omega
 have hia:=ia_fsl hlt
 have hk1:=inc64 (k:=k) (by omega)
 have hx:=ix_str (w:=w) (k:=k) (hl▸hlt)
 have hl2:=fun(G:Nat→Option (List PD)) (H:Hp)=>load_nd (G:=G) (H:=H) a.ks[k]
 have hki:=kind_eq (a.ks[k]).op
 have hix:=kl_index (a.ks[k]).op
 generalize w[k]'(hl▸hlt)=c at *
 generalize a.ks[k]=x at *
 have hu:=u8_bne (kl x.op) c
 have hst:∀tk,storeD ⟨[tabS,[.p (.int .i64 0),.p (.str []),.p (.int .i64 0),.p .nils,.p (.int .i64 0)]],tk⟩ 5 (.box 1 0) (.p x.pd)=some ⟨[tabS,x.cells.map .p],tk⟩:=fun tk=>by
  rw[pd_cells]
  exact store_box (H:=⟨[tabS,[.p (.int .i64 0),.p (.str []),.p (.int .i64 0),.p .nils,.p (.int .i64 0)]],tk⟩) (i:=1) (zs:=[.int .i64 0,.str [],.int .i64 0,.nils,.int .i64 0]) rfl rfl rfl (by decide) (pd_one x)
 have lop:∀G tk,loadD G ⟨[tabS,x.cells.map .p],tk⟩ none (.box 1 0)=some (.p (.int .i64 x.op)):=fun _ _=>rfl
 cases hc:(kl x.op==c)<;>rw[hc] at hu<;>simp[ftSF,fc79_b0,evKC,evK,put,Env.get,Env.keep,Opd.ev,D.asInt?,binD,strBin,clsP,cls,clsR,isCl,D.refsL,D.refs,D.toksL,D.toks,List.map,hlt',hia,hx,hl2,hki,hix,hst,lop]<;>simp[u8,evKC,evK,put,Env.get,Env.keep,Opd.ev,u8,binD,clsP,cls,isW,apartRW,offB,apartWW,clash,insOk,mapO,D.ren,locD,Out.ren,List.map,hu,hk1,r1]
theorem fits_loopF{w:List UInt8}{a:Nd}(hl:a.ks.length=w.length)(hb:a.ks.length≤1000000000):∀(n k:Nat),a.ks.length-k≤n→k≤a.ks.length→
    (fitsL (a.ks.drop k) (w.drop k)=true→∃env,loopK (call pg) pg.G [7,31,32,33] fc79_b0 (ftSF w a k)=some (.exit 0,⟨env,⟨[tabS],[]⟩⟩))∧
    (fitsL (a.ks.drop k) (w.drop k)=false→loopK (call pg) pg.G [7,31,32,33] fc79_b0 (ftSF w a k)=some (.ret,⟨[(6,.p (.bool false))],⟨[tabS],[]⟩⟩)):=by
 intro n
 have hend:(fitsL (a.ks.drop a.ks.length) (w.drop a.ks.length)=true→∃env,loopK (call pg) pg.G [7,31,32,33] fc79_b0 (ftSF w a a.ks.length)=some (.exit 0,⟨env,⟨[tabS],[]⟩⟩))∧
     (fitsL (a.ks.drop a.ks.length) (w.drop a.ks.length)=false→loopK (call pg) pg.G [7,31,32,33] fc79_b0 (ftSF w a a.ks.length)=some (.ret,⟨[(6,.p (.bool false))],⟨[tabS],[]⟩⟩)):=by
  obtain⟨env,he⟩:=fits_endF w a
  refine⟨fun _=>⟨env,loopK_out (o:=.exit 0) he (by simp)⟩,fun h=>?_⟩
  rw[List.drop_eq_nil_of_le (Nat.le_refl _)] at h
  simp[fitsL] at h
 induction n with
 |zero=>
  intro k hn hk
  have he:k=a.ks.length:=by omega
  subst he
  exact hend
 |succ n ih=>
  intro k hn hk
  by_cases he:k=a.ks.length
  ·subst he;exact hend
  ·have hlt:k<a.ks.length:=by omega
   have hst:=fits_stepF hl hb hlt
   have hc:=fitsL_step hlt (w:=w) (by omega)
   obtain⟨i1,i2⟩:=ih (k+1) (by omega) (by omega)
   cases hb:(kl (a.ks[k]).op==w[k]'(hl▸hlt)) with
   |true=>
    rw[hb,if_pos rfl] at hst
    rw[hb,Bool.true_and] at hc
    have hl:loopK (call pg) pg.G [7,31,32,33] fc79_b0 (ftSF w a k)=loopK (call pg) pg.G [7,31,32,33] fc79_b0 (ftSF w a (k+1)):=loopK_norm hst
    rw[hc,hl]
    exact⟨i1,i2⟩
   |false=>
    rw[hb,if_neg (by simp)] at hst
    rw[hb,Bool.false_and] at hc
    rw[hc]
    exact⟨fun h=>(by cases h),fun _=>loopK_out (o:=.ret) hst (by simp)⟩
theorem fits0F(op:Int)(a:Nd)(hb:a.ks.length≤1000000000):∃ex tk,call pg 79 [.mapr 0,.p (.int .i64 op),.fsl 39 5 (a.ks.map Nd.pd)] ⟨[tabS],[]⟩=some (.val (.p (.bool (fitsB op a.ks))),⟨tabS::ex,tk⟩):=by
 have hg:=get_shp (H:=⟨[tabS],[]⟩) (i:=0) rfl op
 have hk0:lenD 1 (.fsl 39 5 (a.ks.map Nd.pd))=some a.ks.length:=by rw[lenD_fsl,List.length_map]
 have hrep:=repeat_eq a.ks.length (by omega)
 refine⟨[],[],call_body (fc:=fc79) rfl rfl rfl rfl ?_⟩
 by_cases h47:op=47
 ·subst h47
  have hw:wantS 47 a.ks.length=some (List.replicate a.ks.length 101):=by simp[wantS]
  have hz:getS 47= .tup [.p (.str []),.p (.bool false)]:=by rfl
  rw[hz] at hg
  have hlen:a.ks.length=(List.replicate a.ks.length (101 :UInt8)).length:=by simp
  obtain⟨l1,l2⟩:=fits_loopF (w:=List.replicate a.ks.length 101) (a:=a) hlen hb a.ks.length 0 (by omega) (by omega)
  rw[List.drop_zero,List.drop_zero] at l1 l2
  simp only[ftSF,Int.natCast_zero] at l1 l2
  cases hf:fitsL a.ks (List.replicate a.ks.length 101) with
  |true=>
   obtain⟨env,l1⟩:=l1 hf
   have hr:fitsB 47 a.ks=true:=by simp[fitsB,hw,hf]
   rw[hr]
   simp[fc79,evKC,evK,evGuard,put,Env.get,Env.keep,entry,Opd.ev,binD,unD,finish,evRes,evRes1,lenD_str,hg,hk0,hrep,l1]
  |false=>
   have l2:=l2 hf
   have hr:fitsB 47 a.ks=false:=by simp[fitsB,hw,hf]
   rw[hr]
   simp[fc79,evKC,evK,evGuard,put,Env.get,Env.keep,entry,Opd.ev,binD,unD,finish,evRes,evRes1,lenD_str,hg,hk0,hrep,l2]
 ·have h47':(op==47)=false:=by simpa using h47
  cases hl:lookS shpT op with
  |none=>
   have hr:fitsB op a.ks=false:=by simp[fitsB,wantS,h47,hl]
   simp only[getS,hl] at hg
   rw[hr]
   simp[fc79,evKC,evK,evGuard,put,Env.get,Env.keep,entry,Opd.ev,binD,unD,finish,evRes,evRes1,hg,h47']
  |some w=>
   simp only[getS,hl] at hg
   by_cases hlen:a.ks.length=w.length
   ·have hlen':((a.ks.length:Int)!=(w.length:Int))=false:=by rw[bne_nat];simp[hlen]
    obtain⟨l1,l2⟩:=fits_loopF (w:=w) (a:=a) hlen hb a.ks.length 0 (by omega) (by omega)
    rw[List.drop_zero,List.drop_zero] at l1 l2
    simp only[ftSF,Int.natCast_zero] at l1 l2
    cases hf:fitsL a.ks w with
    |true=>
     obtain⟨env,l1⟩:=l1 hf
     have hr:fitsB op a.ks=true:=by simp[fitsB,wantS,h47,hl,hf,hlen]
     rw[hr]
     simp[fc79,evKC,evK,evGuard,put,Env.get,Env.keep,entry,Opd.ev,binD,unD,finish,evRes,evRes1,lenD_str,hg,hk0,h47',hlen',l1]
    |false=>
     have l2:=l2 hf
     have hr:fitsB op a.ks=false:=by simp[fitsB,wantS,h47,hl,hf]
     rw[hr]
     simp[fc79,evKC,evK,evGuard,put,Env.get,Env.keep,entry,Opd.ev,binD,unD,finish,evRes,evRes1,lenD_str,hg,hk0,h47',hlen',l2]
   ·have hlen':((a.ks.length:Int)!=(w.length:Int))=true:=by rw[bne_nat];simp[hlen]
    have hr:fitsB op a.ks=false:=by simp[fitsB,wantS,h47,hl,hlen]
    rw[hr]
    simp[fc79,evKC,evK,evGuard,put,Env.get,Env.keep,entry,Opd.ev,binD,unD,finish,evRes,evRes1,lenD_str,hg,hk0,h47',hlen']
theorem callD_shpG{g:Nat}{args:List D}{H:Hp}{i:Nat}(hi:H.bx[i]? =some tabS){d:D}(hd:∀bi ti,d.ren bi ti=some d)
    (hr:D.refsL args=[]) (ht:D.toksL args=[]) (ha:∀bi ti,D.renL bi ti args=some args)
    (h:∃ex tk,call pg g (.mapr 0::args) ⟨[tabS],[]⟩=some (.val d,⟨tabS::ex,tk⟩)):callD (call pg) g (.mapr i::args) H=some (.val d,H):=by
 obtain⟨ex,tk,h⟩:=h
 have e1:D.refsL (.mapr i::args)=[i]:=by simp[D.refsL,D.refs,hr]
 have e2:D.toksL (.mapr i::args)=[]:=by simp[D.toksL,D.toks,ht]
 have e3:∀n,reach H n [i]=[i]:=fun n=>by
  cases n with
  |zero=>rfl
  |succ n=>simp only[reach,boxRefs_shp hi]
 have e4:boxToks H [i]=[]:=by
  simp only[boxToks,hi,List.append_nil];rfl
 have e5:D.renL (idx [i]) (idx []) (.mapr i::args)=some (.mapr 0::args):=by simp[D.renL,D.ren,idx,ha]
 have e6:D.renL (idx [i]) (idx []) tabS=some tabS:=by rfl
 have e7:D.renL (fun j=>[i][j]?) (fun t=>([]:List Nat)[t]?) tabS=some tabS:=by rfl
 have hset:H.bx.set i tabS=H.bx:=by
  apply List.ext_getElem?
  intro j
  by_cases hj:i=j
  ·subst hj
   rw[List.getElem?_set_self (List.getElem?_eq_some_iff.1 hi).1,hi]
  ·rw[List.getElem?_set_ne hj]
 have i1:ins [] [i]=[i]:=rfl
 have i2:ins [] ([]:List Nat)=[]:=rfl
 have n1:(Vs.nodupB [i]&&Vs.nodupB ([]:List Nat))=true:=by simp[Vs.nodupB]
 simp only[callD,e1,e2,i1,e3,e4,List.append_nil,i2,n1,if_true,e5,mapO,hi,e6,Option.map_some]
 rw[h]
 have k1:firstN (tabS::ex) 1=some [tabS]:=by simp[firstN]
 have k2:firstN tk 0=some []:=by simp[firstN]
 simp only[back,List.length_cons,List.length_nil,k1,k2,Res.ren,hd,Option.map_some,mapO,e7,putAll,hset]
theorem fits_eqF{op:Int}{a:Nd}(hb:a.ks.length≤1000000000){H:Hp}{i:Nat}(hi:H.bx[i]? =some tabS):callD (call pg) 79 [.mapr i,.p (.int .i64 op),.fsl 39 5 (a.ks.map Nd.pd)] H=some (.val (.p (.bool (fitsB op a.ks))),H):=
 callD_shpG (args:=[.p (.int .i64 op),.fsl 39 5 (a.ks.map Nd.pd)]) hi (fun _ _=>rfl) rfl rfl (fun _ _=>rfl) (fits0F op a hb)
def litN(op:Int)(nm:List UInt8)(ks:List Nd)(p:Nat):D:=.agg [.p (.int .i64 op),.p (.str nm),.p (.int .i64 0),.fsl 39 5 (ks.map Nd.pd),.p (.int .i64 p)]
section
variable {G : Nat → Option (List PD)} {q0 q1 q2 q3 q4 : List D} {x y z w : PD} {e s : Nat} {l : List PD} {r : List (List D)} {tk : List Nat}
theorem ldf0:loadD G ⟨q0::q1::q2::q3::[.p x,.p y,.p z,.fsl e s l,.p w]::r,tk⟩ none (.box 4 0)=some (.p x):=rfl
theorem ldf3:loadD G ⟨q0::q1::q2::q3::[.p x,.p y,.p z,.fsl e s l,.p w]::r,tk⟩ none (.box 4 3)=some (.fsl e s l):=rfl
theorem ldf4:loadD G ⟨q0::q1::q2::q3::[.p x,.p y,.p z,.fsl e s l,.p w]::r,tk⟩ none (.box 4 4)=some (.p w):=rfl
theorem ldf:loadD G ⟨q0::q1::q2::q3::[.p x,.p y,.p z,.fsl e s l,.p w]::r,tk⟩ (some 5) (.box 4 0)=some (.agg [.p x,.p y,.p z,.fsl e s l,.p w]):=rfl
theorem ldg:loadD G ⟨q0::q1::q2::q3::q4::[.p x,.p y,.p z,.fsl e s l,.p w]::r,tk⟩ (some 5) (.box 5 0)=some (.agg [.p x,.p y,.p z,.fsl e s l,.p w]):=rfl
theorem stf{n1 n2 n3:Int}{t:List UInt8}{k1 k2 k3 k4 k5:D}:storeD ⟨q0::q1::q2::q3::q4::[k1,k2,k3,k4,k5]::r,tk⟩ 5 (.box 5 0) (.agg [.p (.int .i64 n1),.p (.str t),.p (.int .i64 n2),.fsl e s l,.p (.int .i64 n3)])=some ⟨q0::q1::q2::q3::q4::[.p (.int .i64 n1),.p (.str t),.p (.int .i64 n2),.fsl e s l,.p (.int .i64 n3)]::r,tk⟩:=by
 simp[storeD,isMapC,D.cells,D.one,PD.one,splice]
end
theorem kids_pd(op:Int)(nm:List UInt8)(ks:List Nd)(p:Nat)(hk:ks≠[]):(kidsN op nm ks p).pd= .agg [.int .i64 op,.str nm,.int .i64 0,.slice 5 (ks.map Nd.pd),.int .i64 p]:=by
 rw[pd_cells]
 match ks,hk with
 |x::l,_=>rfl
theorem kidsN_ks(op:Int)(nm:List UInt8)(ks:List Nd)(p:Nat):(kidsN op nm ks p).ks=ks:=rfl
theorem litN_frz(op:Int)(nm:List UInt8)(ks:List Nd)(p:Nat)(hk:ks≠[])(H:Hp):(litN op nm ks p).frz 4 H 8= .p (kidsN op nm ks p).pd:=by
 rw[kids_pd op nm ks p hk]
 match ks,hk with
 |x::l,_=>rfl
theorem node_eqF{c:Rd}(h:c.Ok)(a o:Nat)(op:Int)(nm:List UInt8)(ks:List Nd)(p:Nat)(hne:ks≠[])(hk:ks.length≤1000000000)(bx:List (List D))(t:List Nat):
    callD (call pg) 142 [.box 0 0,litN op nm ks p] (rH c a o bx t)=(if fitsB op ks then some (.val (.p (kidsN op nm ks p).pd),rH c a o bx t) else some (.pan (faultD 43 p),rH c a o bx t)):=by
 have hf:=fun(bx:List (List D)) (tk:List Nat)=>fits_eqF (op:=op) (a:=kidsN op nm ks p) hk (H:=⟨rC c a o::tabB::tabU::tabS::bx,tk⟩) (i:=3) rfl
 simp only[kidsN_ks] at hf
 have g1:ins [] (D.refsL [.box 0 0,litN op nm ks p])=[0]:=rfl
 have g2:D.toksL [.box 0 0,litN op nm ks p]=[]:=rfl
 have g4:∀f,D.renL (idx [0,1,2,3]) f [.box 0 0,litN op nm ks p]=some [.box 0 0,litN op nm ks p]:=fun _=>rfl
 cases hb:fitsB op ks with
 |true=>
  rw[hb] at hf
  rw[if_pos rfl]
  refine callD_rdG (r:=.val (.p (kidsN op nm ks p).pd)) (ex:=[]) (et:=[]) h h rfl g1 g2 g4 (fun _ _=>rfl) (call_frz (fc:=fc142) rfl rfl rfl rfl (r:=(.val (litN op nm ks p),rH c a o [[.p (.int .i64 op),.p (.str nm),.p (.int .i64 0),.fsl 39 5 (ks.map Nd.pd),.p (.int .i64 p)],[.p (.int .i64 op),.p (.str nm),.p (.int .i64 0),.fsl 39 5 (ks.map Nd.pd),.p (.int .i64 p)]] [])) ?_ (seal_rd h ?_))
  ·simp only[rH,List.append_nil,litN]
   simp[fc142,evKC,evK,put,Env.get,Env.keep,entry,Opd.ev,unD,clsP,cls,clsR,isCl,isW,apartRW,offB,apartWW,clash,insOk,finish,evRes,evRes1,D.cells,D.one,PD.one,D.refsL,D.refs,D.toksL,D.toks,ldr6,hf,ldf0,ldf3,ldf,ldg,stf]
  ·simp only[Res.frz,litN_frz op nm ks p hne,Res.ren,D.ren,Option.map_some]
 |false=>
  rw[hb] at hf
  rw[if_neg (by simp)]
  refine callD_rdG (r:=.pan (faultD 43 p)) (ex:=[]) (et:=[]) h h rfl g1 g2 g4 (fun _ _=>rfl) (call_frz (fc:=fc142) rfl rfl rfl rfl (r:=(.pan (faultD 43 p),rH c a o [[.p (.int .i64 op),.p (.str nm),.p (.int .i64 0),.fsl 39 5 (ks.map Nd.pd),.p (.int .i64 p)],[.p (.int .i64 0),.p (.str []),.p (.int .i64 0),.p .nils,.p (.int .i64 0)]] [])) ?_ (seal_bad h))
  simp only[rH,List.append_nil,litN]
  simp[fc142,evKC,evK,put,Env.get,Env.keep,entry,Opd.ev,unD,clsP,cls,clsR,isCl,isW,apartRW,offB,apartWW,clash,insOk,finish,D.cells,D.one,PD.one,D.refsL,D.refs,D.toksL,D.toks,ldr6,hf,ldf0,ldf3,ldf4,fail_eq]
end Go.Proofs.YtalgjkpkkdljaaaGreatDoor
namespace Go.Proofs.YtalgjkpkkdljaaaGreatDoor
open Go.Vs
def PR.Bd{α:Type}(c:Rd)(r:PR α):Prop:=∀x a,r= .ok x a→a≤c.ts.length
structure PrsOk (c:Rd) (o:Nat) (prs:Nat→Nat→PR Nd):Prop where
 ans:∀(lev a:Nat),a≤c.ts.length→lev≤20→Ans 80 [.int .i64 (lev:Int)] c a o (fun x:Nd=>.p x.pd) (prs lev a)
 bd:∀(lev a:Nat),a≤c.ts.length→(prs lev a).Bd c
 adv:∀(lev a:Nat) (x:Nd) (a':Nat),a≤c.ts.length→prs lev a= .ok x a'→a<a'
theorem accept_lt{c:Rd}{a:Nat}{s:List UInt8}(h:acceptB c a s=true):a<c.ts.length:=by
 rcases Nat.lt_or_ge a c.ts.length with q |q
 ·exact q
 ·simp[acceptB,tok_out q] at h
theorem named_lt{c:Rd}{a:Nat}(h:namedB (c.tok a)=true):a<c.ts.length:=by
 rcases Nat.lt_or_ge a c.ts.length with q |q
 ·exact q
 ·simp[namedB,tok_out q] at h
theorem expect_bd(c:Rd)(a:Nat)(s:List UInt8):(expectP c a s).Bd c:=by
 intro x a' h
 unfold expectP at h
 cases hb:acceptB c a s with
 |true=>rw[hb] at h;cases h;exact accept_lt hb
 |false=>rw[hb] at h;cases h
theorem name_bd(c:Rd)(a:Nat):(nameP c a).Bd c:=by
 intro x a' h
 unfold nameP at h
 cases hb:namedB (c.tok a) with
 |true=>rw[hb] at h;cases h;exact named_lt hb
 |false=>rw[hb] at h;cases h
section
variable {G : Nat → Option (List PD)} {q0 q1 q2 q3 q4 q5 : List D} {x y z v w : PD} {r : List (List D)} {tk : List Nat}
theorem oL(n:Nat)(l:List PD):(PD.slice n l).one=true:=rfl
theorem ldz6:loadD G ⟨q0::q1::q2::q3::q4::q5::[.p x,.p y,.p z,.p v,.p w]::r,tk⟩ (some 5) (.box 6 0)=some (.p (.agg [x,y,z,v,w])):=rfl
theorem stz6{n1 n2 n3:Int}{s:List UInt8}{K:PD}(h:K.one=true){k1 k2 k3 k4 k5:D}:storeD ⟨q0::q1::q2::q3::q4::q5::[k1,k2,k3,k4,k5]::r,tk⟩ 5 (.box 6 0) (.p (.agg [.int .i64 n1,.str s,.int .i64 n2,K,.int .i64 n3]))=some ⟨q0::q1::q2::q3::q4::q5::[.p (.int .i64 n1),.p (.str s),.p (.int .i64 n2),.p K,.p (.int .i64 n3)]::r,tk⟩:=by
 have h1:(D.p K).one=true:=h
 have h2:∀k n,(D.p (.int k n)).one=true:=fun _ _=>rfl
 have h3:∀s,(D.p (.str s)).one=true:=fun _=>rfl
 simp[storeD,isMapC,D.cells,h1,h2,h3,splice]
end
theorem ans_okB{α:Type}{g:Nat}{args:List PD}{c:Rd}{a o:Nat}{f:α→D}{x:α}{a':Nat}{r:PR α}(h:Ans g args c a o f r)(e:r= .ok x a')(bx:List (List D)):
    callD (call pg) g (.box 0 0::args.map .p) ⟨rC c a o::tabB::tabU::tabS::bx,c.tk⟩=some (.val (f x),⟨rC c a' o::tabB::tabU::tabS::bx,c.tk⟩):=by
 subst e;exact h.okU bx
theorem bind_ok{α β:Type}(v:α)(a:Nat)(f:α→Nat→PR β):(PR.ok v a).bind f=f v a:=rfl
theorem cls_rd{c:Rd}(h:c.Ok)(a o a' o':Nat)(bx:List (List D))(g i:Nat)(y:PD):∃k:Nat×Nat,(k=(1,0)∨k=(4000000012,0))∧∀env:Env,env.get i= .box 0 0→
    clsP env ⟨rC c a o::tabB::tabU::tabS::bx,c.tk⟩ ⟨rC c a' o'::tabB::tabU::tabS::bx,c.tk⟩ (.call (.c (.fn g [] [])) [.t i,.c (.p y)])=k:=by
 have hr:=reach_rH h a o bx []
 simp only[rH,List.append_nil] at hr
 refine⟨if hpEq ⟨rC c a o::tabB::tabU::tabS::bx,c.tk⟩ ⟨rC c a' o'::tabB::tabU::tabS::bx,c.tk⟩ then(1,0) else(4000000012,0),?_,fun env he=>?_⟩
 ·cases hpEq ⟨rC c a o::tabB::tabU::tabS::bx,c.tk⟩ ⟨rC c a' o'::tabB::tabU::tabS::bx,c.tk⟩<;>simp
 ·have e1:cls env (.call (.c (.fn g [] [])) [.t i,.c (.p y)])=2:=by simp[cls,Opd.ev,he,D.refsL,D.refs]
  have e2:callIds env ⟨rC c a o::tabB::tabU::tabS::bx,c.tk⟩ (.call (.c (.fn g [] [])) [.t i,.c (.p y)])=[0,1,2,3]:=by
   simp only[callIds,Opd.ev,List.nil_append,List.append_nil,List.map_cons,List.map_nil,he]
   exact hr
  unfold clsP
  rw[e1,e2]
  simp[isCl,bnd]
theorem quant_eq{c:Rd}(h:c.Sz){o:Nat}{prs:Nat→Nat→PR Nd}(hp:PrsOk c o prs)(op:Int)(p a:Nat)(ha:a≤c.ts.length):
    Ans 141 [.int .i64 op,.int .i64 p] c a o (fun x:Nd=>.p x.pd) (quantP c prs op p a):=by
 have hn:=h.n
 have z0:([.p (.int .i64 0),.p (.str []),.p (.int .i64 0),.p .nils,.p (.int .i64 0)]:List D)=[.p (.int .i64 0),.p (.str []),.p (.int .i64 0),.p .nils,.p (.int .i64 0)]:=rfl
 unfold quantP
 have s1:=rname_eq h a o (by omega) (tok_t h a)
 have b1:=name_bd c a
 cases r1:nameP c a with
 |bad e q a1=>
  rw[r1] at s1
  change Ans 141 [.int .i64 op,.int .i64 p] c a o (fun x:Nd=>.p x.pd) (.bad e q a1)
  obtain⟨o',s1⟩:=Ans.badU s1
  simp only[List.map_nil] at s1
  refine ans_frzB h.toOk (fc:=fc141) rfl rfl rfl rfl ⟨[[.p (.int .i64 0),.p (.str []),.p (.int .i64 0),.p .nils,.p (.int .i64 0)]],o',?_⟩
  simp only[rH,List.append_nil]
  simp[fc141,evKC,evK,put,Env.get,Env.keep,entry,Opd.ev,finish,s1]
 |ok t a1=>
  have s1:=ans_okB s1 r1
  have b1:=b1 t a1 r1
  simp only[List.map_nil,Tok.pd] at s1
  simp only[bind_ok]
  have s2:=expect_eq h a1 o [58] (by omega)
  have b2:=expect_bd c a1 [58]
  cases r2:expectP c a1 [58] with
  |bad e q a2=>
   rw[r2] at s2
   change Ans 141 [.int .i64 op,.int .i64 p] c a o (fun x:Nd=>.p x.pd) (.bad e q a2)
   obtain⟨o',s2⟩:=Ans.badU s2
   simp only[List.map_nil,List.map_cons] at s2
   refine ans_frzB h.toOk (fc:=fc141) rfl rfl rfl rfl ⟨[[.p (.int .i64 0),.p (.str []),.p (.int .i64 0),.p .nils,.p (.int .i64 0)],[.p (.int .i64 t.k),.p (.str t.t),.p (.int .i64 t.p)]],o',?_⟩
   simp only[rH,List.append_nil]
   simp[fc141,evKC,evK,put,Env.get,Env.keep,entry,Opd.ev,finish,s1,s2,stT5]
  |ok u a2=>
   have s2:=ans_okB s2 r2
   simp only[bind_ok]
   have b2:=b2 u a2 r2
   simp only[List.map_nil,List.map_cons] at s2
   have s3:Ans 80 [.int .i64 8] c a2 o (fun x:Nd=>.p x.pd) (prs 8 a2):=hp.ans 8 a2 b2 (by omega)
   have b3:=hp.bd 8 a2 b2
   cases r3:prs 8 a2 with
   |bad e q a3=>
    rw[r3] at s3
    change Ans 141 [.int .i64 op,.int .i64 p] c a o (fun x:Nd=>.p x.pd) (.bad e q a3)
    obtain⟨o',s3⟩:=Ans.badU s3
    simp only[List.map_nil,List.map_cons] at s3
    refine ans_frzB h.toOk (fc:=fc141) rfl rfl rfl rfl ⟨[[.p (.int .i64 0),.p (.str []),.p (.int .i64 0),.p .nils,.p (.int .i64 0)],[.p (.int .i64 t.k),.p (.str t.t),.p (.int .i64 t.p)]],o',?_⟩
    simp only[rH,List.append_nil]
    simp[fc141,evKC,evK,put,Env.get,Env.keep,entry,Opd.ev,finish,s1,s2,s3,stT5]
   |ok x a3=>
    have s3:=ans_okB s3 r3
    simp only[bind_ok]
    have b3:=b3 x a3 r3
    simp only[List.map_nil,List.map_cons,pd_cells x,Nd.cells] at s3
    have hkx:=pone_kids x
    have s4:=expect_eq h a3 o [124] (by omega)
    have b4:=expect_bd c a3 [124]
    cases r4:expectP c a3 [124] with
    |bad e q a4=>
     rw[r4] at s4
     change Ans 141 [.int .i64 op,.int .i64 p] c a o (fun x:Nd=>.p x.pd) (.bad e q a4)
     obtain⟨o',s4⟩:=Ans.badU s4
     simp only[List.map_nil,List.map_cons] at s4
     refine ans_frzB h.toOk (fc:=fc141) rfl rfl rfl rfl ⟨[[.p (.int .i64 0),.p (.str []),.p (.int .i64 0),.p .nils,.p (.int .i64 0)],[.p (.int .i64 t.k),.p (.str t.t),.p (.int .i64 t.p)],x.cells.map .p],o',?_⟩
     simp only[rH,List.append_nil,Nd.cells]
     simp[fc141,evKC,evK,put,Env.get,Env.keep,entry,Opd.ev,finish,s1,s2,s3,s4,stT5,stz6 hkx]
    |ok u' a4=>
     have s4:=ans_okB s4 r4
     simp only[bind_ok]
     have b4:=b4 u' a4 r4
     simp only[List.map_nil,List.map_cons] at s4
     have s5:Ans 80 [.int .i64 1] c a4 o (fun x:Nd=>.p x.pd) (prs 1 a4):=hp.ans 1 a4 b4 (by omega)
     cases r5:prs 1 a4 with
     |bad e q a5=>
      rw[r5] at s5
      change Ans 141 [.int .i64 op,.int .i64 p] c a o (fun x:Nd=>.p x.pd) (.bad e q a5)
      obtain⟨o',s5⟩:=Ans.badU s5
      simp only[List.map_nil,List.map_cons] at s5
      refine ans_frzB h.toOk (fc:=fc141) rfl rfl rfl rfl ⟨[[.p (.int .i64 0),.p (.str []),.p (.int .i64 0),.p .nils,.p (.int .i64 0)],[.p (.int .i64 t.k),.p (.str t.t),.p (.int .i64 t.p)],x.cells.map .p],o',?_⟩
      simp only[rH,List.append_nil,Nd.cells]
      simp[fc141,evKC,evK,evGuard,put,Env.get,Env.keep,entry,Opd.ev,clsP,cls,clsR,isCl,isW,apartRW,offB,apartWW,clash,insOk,finish,s1,s2,s3,s4,s5,stT5,stz6 hkx,ld51,ldz6,drP,evRest,behind,pairsOk,panOk,SO.uses,SK.slots,Opd.slots,SK.heapless]
     |ok y a5=>
      have s5:=ans_okB s5 r5
      have hky:=pone_kids y
      simp only[List.map_nil,List.map_cons,pd_cells y,Nd.cells] at s5
      have nd:=fun bx=>node_eqF h.toOk a5 o op t.t [x,y] p (by simp) (by simp) bx []
      simp only[rH,List.append_nil,litN,List.map_nil,List.map_cons] at nd
      change Ans 141 [.int .i64 op,.int .i64 p] c a o (fun x:Nd=>.p x.pd) (nodeP (kidsN op t.t [x,y] p) p a5)
      obtain⟨kc,hkc,hcl⟩:=cls_rd h.toOk a4 o a5 o [[.p (.int .i64 0),.p (.str []),.p (.int .i64 0),.p .nils,.p (.int .i64 0)],[.p (.int .i64 t.k),.p (.str t.t),.p (.int .i64 t.p)],x.cells.map .p] 80 22 (.int .i64 1)
      simp only[Nd.cells,List.map_cons,List.map_nil] at hcl
      unfold nodeP
      have kk:fitsB (kidsN op t.t [x,y] p).op (kidsN op t.t [x,y] p).ks=fitsB op [x,y]:=rfl
      rw[kk]
      cases hb:fitsB op [x,y] with
      |true=>
       have kp:=kids_pd op t.t [x,y] p (by simp)
       simp only[List.map_nil,List.map_cons,pd_cells x,pd_cells y,Nd.cells] at kp
       simp only[hb,if_true,kp,pd_cells x,pd_cells y,Nd.cells] at nd
       refine ans_frz h.toOk (fc:=fc141) rfl rfl rfl rfl (.p (kidsN op t.t [x,y] p).pd) (fun _=>rfl) ⟨[[.p (.int .i64 op),.p (.str t.t),.p (.int .i64 0),.p (.slice 5 [.agg x.cells,.agg y.cells]),.p (.int .i64 p)],[.p (.int .i64 t.k),.p (.str t.t),.p (.int .i64 t.p)],x.cells.map .p],?_⟩
       simp only[rH,List.append_nil,Nd.cells,kp]
       rcases hkc with rfl |rfl<;>simp[fc141,↓hcl,evKC,evK,put,Env.get,Env.keep,entry,Opd.ev,splice,clsP,cls,clsR,isCl,isW,apartRW,offB,apartWW,clash,insOk,finish,evRes,evRes1,D.cells,PD.cells,D.refsL,D.refs,D.toksL,D.toks,mkAgg,pures,fillD,fillE,D.asPD,s1,s2,s3,s4,s5,nd,hkx,hky,stT5,stz6 hkx,ld51,ldz6,stn4 (oL _ _),ldn,oP]
      |false=>
       simp only[hb,if_false,Bool.false_eq_true,pd_cells x,pd_cells y,Nd.cells] at nd
       refine ans_frzB h.toOk (fc:=fc141) rfl rfl rfl rfl ⟨[[.p (.int .i64 0),.p (.str []),.p (.int .i64 0),.p .nils,.p (.int .i64 0)],[.p (.int .i64 t.k),.p (.str t.t),.p (.int .i64 t.p)],x.cells.map .p],o,?_⟩
       simp only[rH,List.append_nil,Nd.cells]
       rcases hkc with rfl |rfl<;>simp[fc141,↓hcl,evKC,evK,put,Env.get,Env.keep,entry,Opd.ev,splice,clsP,cls,clsR,isCl,isW,apartRW,offB,apartWW,clash,insOk,finish,D.cells,PD.cells,mkAgg,pures,fillD,fillE,D.asPD,s1,s2,s3,s4,s5,nd,hkx,hky,stT5,stz6 hkx,ld51,ldz6,oP,drP,evRest,behind,pairsOk,panOk,SO.uses,SK.slots,Opd.slots,SK.heapless]
end Go.Proofs.YtalgjkpkkdljaaaGreatDoor
namespace Go.Proofs.YtalgjkpkkdljaaaGreatDoor
open Go.Vs
section
variable {G : Nat → Option (List PD)} {q0 q1 q2 q3 q4 q5 q6 q7 q8 : List D} {x y z v w : PD} {e s : Nat} {l : List PD} {r : List (List D)} {tk : List Nat} {k1 k2 k3 k4 k5 : D} {n1 n2 n3 : Int} {t : List UInt8} {K : PD}
theorem lo2:loadD G ⟨q0::q1::q2::q3::q4::[.p x,.p y,.p z,.p v]::r,tk⟩ none (.box 5 2)=some (.p z):=rfl
theorem lo3:loadD G ⟨q0::q1::q2::q3::q4::[.p x,.p y,.p z,.p v]::r,tk⟩ none (.box 5 3)=some (.p v):=rfl
theorem lz60:loadD G ⟨q0::q1::q2::q3::q4::q5::[.p x,.p y,.p z,.p v,.p w]::r,tk⟩ none (.box 6 0)=some (.p x):=rfl
theorem lz7:loadD G ⟨q0::q1::q2::q3::q4::q5::q6::[.p x,.p y,.p z,.p v,.p w]::r,tk⟩ (some 5) (.box 7 0)=some (.p (.agg [x,y,z,v,w])):=rfl
theorem lz8:loadD G ⟨q0::q1::q2::q3::q4::q5::q6::q7::[.p x,.p y,.p z,.p v,.p w]::r,tk⟩ (some 5) (.box 8 0)=some (.p (.agg [x,y,z,v,w])):=rfl
theorem lz9:loadD G ⟨q0::q1::q2::q3::q4::q5::q6::q7::q8::[.p x,.p y,.p z,.p v,.p w]::r,tk⟩ (some 5) (.box 9 0)=some (.p (.agg [x,y,z,v,w])):=rfl
theorem lf8:loadD G ⟨q0::q1::q2::q3::q4::q5::q6::q7::[.p x,.p y,.p z,.fsl e s l,.p w]::r,tk⟩ (some 5) (.box 8 0)=some (.agg [.p x,.p y,.p z,.fsl e s l,.p w]):=rfl
theorem lf9:loadD G ⟨q0::q1::q2::q3::q4::q5::q6::q7::q8::[.p x,.p y,.p z,.fsl e s l,.p w]::r,tk⟩ (some 5) (.box 9 0)=some (.agg [.p x,.p y,.p z,.fsl e s l,.p w]):=rfl
theorem sz7(h:K.one=true):storeD ⟨q0::q1::q2::q3::q4::q5::q6::[k1,k2,k3,k4,k5]::r,tk⟩ 5 (.box 7 0) (.p (.agg [.int .i64 n1,.str t,.int .i64 n2,K,.int .i64 n3]))=some ⟨q0::q1::q2::q3::q4::q5::q6::[.p (.int .i64 n1),.p (.str t),.p (.int .i64 n2),.p K,.p (.int .i64 n3)]::r,tk⟩:=by
 have h1:(D.p K).one=true:=h
 have h2:∀k n,(D.p (.int k n)).one=true:=fun _ _=>rfl
 have h3:∀s,(D.p (.str s)).one=true:=fun _=>rfl
 simp[storeD,isMapC,D.cells,h1,h2,h3,splice]
theorem sz8(h:K.one=true):storeD ⟨q0::q1::q2::q3::q4::q5::q6::q7::[k1,k2,k3,k4,k5]::r,tk⟩ 5 (.box 8 0) (.p (.agg [.int .i64 n1,.str t,.int .i64 n2,K,.int .i64 n3]))=some ⟨q0::q1::q2::q3::q4::q5::q6::q7::[.p (.int .i64 n1),.p (.str t),.p (.int .i64 n2),.p K,.p (.int .i64 n3)]::r,tk⟩:=by
 have h1:(D.p K).one=true:=h
 have h2:∀k n,(D.p (.int k n)).one=true:=fun _ _=>rfl
 have h3:∀s,(D.p (.str s)).one=true:=fun _=>rfl
 simp[storeD,isMapC,D.cells,h1,h2,h3,splice]
theorem sz9(h:K.one=true):storeD ⟨q0::q1::q2::q3::q4::q5::q6::q7::q8::[k1,k2,k3,k4,k5]::r,tk⟩ 5 (.box 9 0) (.p (.agg [.int .i64 n1,.str t,.int .i64 n2,K,.int .i64 n3]))=some ⟨q0::q1::q2::q3::q4::q5::q6::q7::q8::[.p (.int .i64 n1),.p (.str t),.p (.int .i64 n2),.p K,.p (.int .i64 n3)]::r,tk⟩:=by
 have h1:(D.p K).one=true:=h
 have h2:∀k n,(D.p (.int k n)).one=true:=fun _ _=>rfl
 have h3:∀s,(D.p (.str s)).one=true:=fun _=>rfl
 simp[storeD,isMapC,D.cells,h1,h2,h3,splice]
theorem sf8:storeD ⟨q0::q1::q2::q3::q4::q5::q6::q7::[k1,k2,k3,k4,k5]::r,tk⟩ 5 (.box 8 0) (.agg [.p (.int .i64 n1),.p (.str t),.p (.int .i64 n2),.fsl e s l,.p (.int .i64 n3)])=some ⟨q0::q1::q2::q3::q4::q5::q6::q7::[.p (.int .i64 n1),.p (.str t),.p (.int .i64 n2),.fsl e s l,.p (.int .i64 n3)]::r,tk⟩:=by
 simp[storeD,isMapC,D.cells,D.one,PD.one,splice]
theorem sf9:storeD ⟨q0::q1::q2::q3::q4::q5::q6::q7::q8::[k1,k2,k3,k4,k5]::r,tk⟩ 5 (.box 9 0) (.agg [.p (.int .i64 n1),.p (.str t),.p (.int .i64 n2),.fsl e s l,.p (.int .i64 n3)])=some ⟨q0::q1::q2::q3::q4::q5::q6::q7::q8::[.p (.int .i64 n1),.p (.str t),.p (.int .i64 n2),.fsl e s l,.p (.int .i64 n3)]::r,tk⟩:=by
 simp[storeD,isMapC,D.cells,D.one,PD.one,splice]
end
theorem oB(b:Bool):(PD.bool b).one=true:=rfl
theorem joined_zero{c:Rd}(h:c.Ok)(a o:Nat)(t:Tok)(b:Bin)(x y:Nd)(h0:binOp b (knd x.op)=0):
    Ans 128 [t.pd,b.pd,x.pd,y.pd] c a o (fun x:Nd=>.p x.pd) (.bad 43 t.p a):=by
 have hkx:=pone_kids x
 have hky:=pone_kids y
 have ki:=kind_eq x.op
 rw[pd_cells x,pd_cells y]
 refine ans_frzB h (fc:=fc128) rfl rfl rfl rfl ⟨[[.p (.int .i64 t.k),.p (.str t.t),.p (.int .i64 t.p)],[.p (.int .i64 b.lv),.p (.bool b.r),.p (.int .i64 b.rel),.p (.int .i64 b.alt)],x.cells.map .p,y.cells.map .p,[.p (.int .i64 0),.p (.str []),.p (.int .i64 0),.p .nils,.p (.int .i64 0)]],o,?_⟩
 simp only[rH,List.append_nil,Tok.pd,Bin.pd,Nd.cells]
 unfold binOp at h0
 by_cases hk:knd x.op=1
 ·have hk':(knd x.op !=1)=false:=by simp[hk]
  by_cases hr:b.rel=0
  ·have ha:b.alt=0:=by simpa[hr] using h0
   simp[fc128,evKC,evK,evGuard,put,Env.get,Env.keep,entry,Opd.ev,binD,finish,D.cells,hkx,hky,ki,hk,hr,ha,lo2,lo3,lz60,ld42,oP,fail_eq]
  ·simp[hk,hr] at h0
 ·have ha:b.alt=0:=by simpa[hk] using h0
  have hk':(knd x.op !=1)=true:=by simp[hk]
  simp[fc128,evKC,evK,evGuard,put,Env.get,Env.keep,entry,Opd.ev,binD,finish,D.cells,hkx,hky,ki,hk',ha,lo2,lo3,lz60,ld42,oP,fail_eq]
theorem joined_eq{c:Rd}(h:c.Ok)(a o:Nat)(t:Tok)(b:Bin)(x y:Nd):Ans 128 [t.pd,b.pd,x.pd,y.pd] c a o (fun x:Nd=>.p x.pd) (joinedP t b x y a):=by
 unfold joinedP
 by_cases h0:binOp b (knd x.op)=0
 ·rw[if_pos h0];exact joined_zero h a o t b x y h0
 ·rw[if_neg h0]
  have hkx:=pone_kids x
  have hky:=pone_kids y
  have ki:=kind_eq x.op
  have hop:(knd x.op=1∧(knd x.op !=1)=false∧(b.rel==0)=false∧binOp b (knd x.op)=b.rel)∨(knd x.op=1∧(knd x.op !=1)=false∧(b.rel==0)=true∧binOp b (knd x.op)=b.alt)∨(knd x.op≠1∧(knd x.op !=1)=true∧True∧binOp b (knd x.op)=b.alt):=by
   by_cases hk:knd x.op=1
   ·by_cases hr:b.rel=0
    ·right;left;simp[hk,hr,binOp]
    ·left;simp[hk,hr,binOp]
   ·right;right;simp[hk,binOp]
  have hv':(binOp b (knd x.op)==0)=false:=by simp[h0]
  generalize binOp b (knd x.op)=ov at *
  rw[pd_cells x,pd_cells y]
  obtain⟨tk,tt,tp⟩:=t
  dsimp only
  by_cases ht:tt=[60,61]
  ·subst ht
   have ht1:True:=trivial
   have ht2:True:=trivial
   show Ans 128 _ c a o _ ((nodeP (kidsN ov [] [y,x] tp) tp a).bind fun n a=>.ok (kidsN 40 [] [n] tp) a)
   have nd:=fun bx=>node_eqF h a o ov [] [y,x] tp (by simp) (by simp) bx []
   have kp:=kids_pd ov [] [y,x] tp (by simp)
   simp only[List.map_nil,List.map_cons,pd_cells x,pd_cells y,Nd.cells] at kp
   simp only[rH,List.append_nil,litN,List.map_nil,List.map_cons] at nd
   unfold nodeP
   have kk:fitsB (kidsN ov [] [y,x] tp).op (kidsN ov [] [y,x] tp).ks=fitsB ov [y,x]:=rfl
   rw[kk]
   cases hb:fitsB ov [y,x] with
   |true=>
    simp only[hb,if_true,kp,pd_cells x,pd_cells y,Nd.cells] at nd
    refine ans_frz h (fc:=fc128) rfl rfl rfl rfl (litN 40 [] [kidsN ov [] [y,x] tp] tp) (litN_frz 40 [] _ tp (by simp)) ⟨[[.p (.int .i64 tk),.p (.str [60,61]),.p (.int .i64 tp)],[.p (.int .i64 b.lv),.p (.bool b.r),.p (.int .i64 b.rel),.p (.int .i64 b.alt)],y.cells.map .p,x.cells.map .p,[.p (.int .i64 40),.p (.str []),.p (.int .i64 0),.fsl 39 5 [(kidsN ov [] [y,x] tp).pd],.p (.int .i64 tp)],[.p (.int .i64 40),.p (.str []),.p (.int .i64 0),.fsl 39 5 [(kidsN ov [] [y,x] tp).pd],.p (.int .i64 tp)]],?_⟩
    simp only[rH,List.append_nil,Tok.pd,Bin.pd,Nd.cells,litN,List.map_cons,List.map_nil,kp]
    rcases hop with⟨hk,hk',hr,hv⟩ |⟨hk,hk',hr,hv⟩ |⟨hk,hk',hr,hv⟩<;>subst hv<;>simp[fc128,evKC,evK,evGuard,put,Env.get,Env.keep,entry,Opd.ev,splice,binD,strBin,finish,evRes,evRes1,D.cells,PD.cells,mkAgg,pures,fillD,fillE,D.asPD,hkx,hky,ki,hk,hk',hr,hv',lo2,lo3,lz60,ld41,ld42,ldz6,lz7,lz9,lf8,lf9,stz6 hky,sz7 hkx,sz9 (oL _ _),sf8,sf9,oP,nd]
   |false=>
    simp only[hb,if_false,Bool.false_eq_true,pd_cells x,pd_cells y,Nd.cells] at nd
    refine ans_frzB h (fc:=fc128) rfl rfl rfl rfl ⟨[[.p (.int .i64 tk),.p (.str [60,61]),.p (.int .i64 tp)],[.p (.int .i64 b.lv),.p (.bool b.r),.p (.int .i64 b.rel),.p (.int .i64 b.alt)],y.cells.map .p,x.cells.map .p,[.p (.int .i64 0),.p (.str []),.p (.int .i64 0),.p .nils,.p (.int .i64 0)]],o,?_⟩
    simp only[rH,List.append_nil,Tok.pd,Bin.pd,Nd.cells]
    rcases hop with⟨hk,hk',hr,hv⟩ |⟨hk,hk',hr,hv⟩ |⟨hk,hk',hr,hv⟩<;>subst hv<;>simp[fc128,evKC,evK,evGuard,put,Env.get,Env.keep,entry,Opd.ev,splice,binD,strBin,finish,D.cells,PD.cells,mkAgg,pures,fillD,fillE,D.asPD,hkx,hky,ki,hk,hk',hr,hv',lo2,lo3,lz60,ld41,ld42,ldz6,lz7,stz6 hky,sz7 hkx,oP,nd]
  ·by_cases hu:tt=[33,61]
   ·subst hu
    have ht1:True:=trivial
    have ht2:True:=trivial
    show Ans 128 _ c a o _ ((nodeP (kidsN ov [] [x,y] tp) tp a).bind fun n a=>.ok (kidsN 40 [] [n] tp) a)
    have nd:=fun bx=>node_eqF h a o ov [] [x,y] tp (by simp) (by simp) bx []
    have kp:=kids_pd ov [] [x,y] tp (by simp)
    simp only[List.map_nil,List.map_cons,pd_cells x,pd_cells y,Nd.cells] at kp
    simp only[rH,List.append_nil,litN,List.map_nil,List.map_cons] at nd
    unfold nodeP
    have kk:fitsB (kidsN ov [] [x,y] tp).op (kidsN ov [] [x,y] tp).ks=fitsB ov [x,y]:=rfl
    rw[kk]
    cases hb:fitsB ov [x,y] with
    |true=>
     simp only[hb,if_true,kp,pd_cells x,pd_cells y,Nd.cells] at nd
     refine ans_frz h (fc:=fc128) rfl rfl rfl rfl (litN 40 [] [kidsN ov [] [x,y] tp] tp) (litN_frz 40 [] _ tp (by simp)) ⟨[[.p (.int .i64 tk),.p (.str [33,61]),.p (.int .i64 tp)],[.p (.int .i64 b.lv),.p (.bool b.r),.p (.int .i64 b.rel),.p (.int .i64 b.alt)],x.cells.map .p,y.cells.map .p,[.p (.int .i64 40),.p (.str []),.p (.int .i64 0),.fsl 39 5 [(kidsN ov [] [x,y] tp).pd],.p (.int .i64 tp)],[.p (.int .i64 40),.p (.str []),.p (.int .i64 0),.fsl 39 5 [(kidsN ov [] [x,y] tp).pd],.p (.int .i64 tp)]],?_⟩
     simp only[rH,List.append_nil,Tok.pd,Bin.pd,Nd.cells,litN,List.map_cons,List.map_nil,kp]
     rcases hop with⟨hk,hk',hr,hv⟩ |⟨hk,hk',hr,hv⟩ |⟨hk,hk',hr,hv⟩<;>subst hv<;>simp[fc128,evKC,evK,evGuard,put,Env.get,Env.keep,entry,Opd.ev,splice,binD,strBin,finish,evRes,evRes1,D.cells,PD.cells,mkAgg,pures,fillD,fillE,D.asPD,hkx,hky,ki,hk,hk',hr,hv',lo2,lo3,lz60,ld41,ld42,ldz6,lz7,lz9,lf8,lf9,sz9 (oL _ _),sf8,sf9,oP,nd]
    |false=>
     simp only[hb,if_false,Bool.false_eq_true,pd_cells x,pd_cells y,Nd.cells] at nd
     refine ans_frzB h (fc:=fc128) rfl rfl rfl rfl ⟨[[.p (.int .i64 tk),.p (.str [33,61]),.p (.int .i64 tp)],[.p (.int .i64 b.lv),.p (.bool b.r),.p (.int .i64 b.rel),.p (.int .i64 b.alt)],x.cells.map .p,y.cells.map .p,[.p (.int .i64 0),.p (.str []),.p (.int .i64 0),.p .nils,.p (.int .i64 0)]],o,?_⟩
     simp only[rH,List.append_nil,Tok.pd,Bin.pd,Nd.cells]
     rcases hop with⟨hk,hk',hr,hv⟩ |⟨hk,hk',hr,hv⟩ |⟨hk,hk',hr,hv⟩<;>subst hv<;>simp[fc128,evKC,evK,evGuard,put,Env.get,Env.keep,entry,Opd.ev,splice,binD,strBin,finish,D.cells,PD.cells,mkAgg,pures,fillD,fillE,D.asPD,hkx,hky,ki,hk,hk',hr,hv',lo2,lo3,lz60,ld41,ld42,ldz6,lz7,oP,nd]
   ·have ht1:(tt==[60,61])=false:=by simp[ht]
    have ht2:(tt==[33,61])=false:=by simp[hu]
    rw[if_neg ht]
    simp only[ht,hu,or_false,if_false]
    have nd:=fun bx=>node_eqF h a o ov [] [x,y] tp (by simp) (by simp) bx []
    have kp:=kids_pd ov [] [x,y] tp (by simp)
    simp only[List.map_nil,List.map_cons,pd_cells x,pd_cells y,Nd.cells] at kp
    simp only[rH,List.append_nil,litN,List.map_nil,List.map_cons] at nd
    unfold nodeP
    have kk:fitsB (kidsN ov [] [x,y] tp).op (kidsN ov [] [x,y] tp).ks=fitsB ov [x,y]:=rfl
    rw[kk]
    cases hb:fitsB ov [x,y] with
    |true=>
     simp only[hb,if_true,kp,pd_cells x,pd_cells y,Nd.cells] at nd
     refine ans_frz h (fc:=fc128) rfl rfl rfl rfl (.p (kidsN ov [] [x,y] tp).pd) (fun _=>rfl) ⟨[[.p (.int .i64 tk),.p (.str tt),.p (.int .i64 tp)],[.p (.int .i64 b.lv),.p (.bool b.r),.p (.int .i64 b.rel),.p (.int .i64 b.alt)],x.cells.map .p,y.cells.map .p,[.p (.int .i64 ov),.p (.str []),.p (.int .i64 0),.p (.slice 5 [.agg x.cells,.agg y.cells]),.p (.int .i64 tp)],[.p (.int .i64 ov),.p (.str []),.p (.int .i64 0),.p (.slice 5 [.agg x.cells,.agg y.cells]),.p (.int .i64 tp)]],?_⟩
     simp only[rH,List.append_nil,Tok.pd,Bin.pd,Nd.cells,List.map_cons,List.map_nil,kp]
     rcases hop with⟨hk,hk',hr,hv⟩ |⟨hk,hk',hr,hv⟩ |⟨hk,hk',hr,hv⟩<;>subst hv<;>simp[fc128,evKC,evK,evGuard,put,Env.get,Env.keep,entry,Opd.ev,splice,binD,strBin,finish,evRes,evRes1,D.cells,PD.cells,mkAgg,pures,fillD,fillE,D.asPD,hkx,hky,ki,hk,hk',hr,hv',lo2,lo3,lz60,ld41,ld42,ldz6,lz7,lz8,lz9,sz8 (oL _ _),sz9 (oL _ _),oP,nd,ht1,ht2]
    |false=>
     simp only[hb,if_false,Bool.false_eq_true,pd_cells x,pd_cells y,Nd.cells] at nd
     refine ans_frzB h (fc:=fc128) rfl rfl rfl rfl ⟨[[.p (.int .i64 tk),.p (.str tt),.p (.int .i64 tp)],[.p (.int .i64 b.lv),.p (.bool b.r),.p (.int .i64 b.rel),.p (.int .i64 b.alt)],x.cells.map .p,y.cells.map .p,[.p (.int .i64 0),.p (.str []),.p (.int .i64 0),.p .nils,.p (.int .i64 0)]],o,?_⟩
     simp only[rH,List.append_nil,Tok.pd,Bin.pd,Nd.cells]
     rcases hop with⟨hk,hk',hr,hv⟩ |⟨hk,hk',hr,hv⟩ |⟨hk,hk',hr,hv⟩<;>subst hv<;>simp[fc128,evKC,evK,evGuard,put,Env.get,Env.keep,entry,Opd.ev,splice,binD,strBin,finish,D.cells,PD.cells,mkAgg,pures,fillD,fillE,D.asPD,hkx,hky,ki,hk,hk',hr,hv',lo2,lo3,lz60,ld41,ld42,ldz6,lz7,oP,nd,ht1]
end Go.Proofs.YtalgjkpkkdljaaaGreatDoor
namespace Go.Proofs.YtalgjkpkkdljaaaGreatDoor
open Go.Vs
theorem renL_p(bi ti:Nat→Option Nat):∀l:List PD,D.renL bi ti (l.map .p)=some (l.map .p)
 |[]=>rfl
 |x::l=>by simp[D.renL,D.ren,renL_p bi ti l]
theorem renB_p(bi ti:Nat→Option Nat):∀bs:List (List PD),mapO (D.renL bi ti) (bs.map fun b=>b.map D.p)=some (bs.map fun b=>b.map D.p)
 |[]=>rfl
 |b::bs=>by simp only[List.map_cons,mapO,renL_p,renB_p bi ti bs];rfl
theorem loc_rd{c:Rd}(h:c.Ok)(a o:Nat)(bs:List (List PD))(ex:List (List D))(out:Out)(env:Env)(nb:Nat)(hnb:nb=bs.length+4)(ho:out.ren (below nb) (below c.tk.length)=some out):
    locD nb c.tk.length (out,⟨env,⟨rC c a o::tabB::tabU::tabS::((bs.map fun b=>b.map D.p)++ex),c.tk⟩⟩)=
     (out,⟨env.map fun y=>(y.1,(y.2.ren (below nb) (below c.tk.length)).getD .dead),⟨rC c a o::tabB::tabU::tabS::(bs.map fun b=>b.map D.p),c.tk⟩⟩):=by
 have b1:below nb 1=some 1:=by simp[below,hnb]
 have b2:below nb 2=some 2:=by simp[below,hnb]
 have b3:below nb 3=some 3:=by simp[below,hnb]
 have e2:=ren_rC (c:=c) (bi:=below nb) (ti:=below c.tk.length) b1 b2 b3 (h.lb _) a o
 have t1:D.renL (below nb) (below c.tk.length) tabB=some tabB:=rfl
 have t2:D.renL (below nb) (below c.tk.length) tabU=some tabU:=rfl
 have t3:D.renL (below nb) (below c.tk.length) tabS=some tabS:=rfl
 have e3:(rC c a o::tabB::tabU::tabS::((bs.map fun b=>b.map D.p)++ex)).take nb=rC c a o::tabB::tabU::tabS::(bs.map fun b=>b.map D.p):=by
  rw[hnb]
  simp only[List.take_succ_cons]
  rw[List.take_left' (by simp)]
 have e4:mapO (D.renL (below nb) (below c.tk.length)) (rC c a o::tabB::tabU::tabS::(bs.map fun b=>b.map D.p))=some (rC c a o::tabB::tabU::tabS::(bs.map fun b=>b.map D.p)):=by
  simp only[mapO,e2,t1,t2,t3,renB_p]
  rfl
 have e5:nb≤(rC c a o::tabB::tabU::tabS::((bs.map fun b=>b.map D.p)++ex)).length:=by
  simp only[List.length_cons,List.length_append,List.length_map];omega
 unfold locD
 simp only[e3,e4,ho]
 rw[if_pos ⟨e5,Nat.le_refl _⟩]
 simp
def prB(z t p:List PD)(n:Nd):List (List D):=[z,t,p,n.cells].map fun b=>b.map D.p
def prS(c:Rd)(a o:Nat)(z t p:List PD)(n:Nd):St:=⟨[(0,.box 0 0),(2,.box 4 0),(6,.box 7 0)],⟨rC c a o::tabB::tabU::tabS::prB z t p n,c.tk⟩⟩
theorem pr_out{c:Rd}(h:c.Sz)(a o:Nat)(z t p:List PD)(n:Nd)(ha:a≤c.ts.length)(hq:(c.tok a).t≠[39]):
    ∃env,evS (call pg) pg.G iterX fc127_b0 (prS c a o z t p n)=some (.exit 0,⟨env,(prS c a o z t p n).hp⟩)∧env.get 0= .box 0 0∧env.get 2= .box 4 0∧env.get 6= .box 7 0:=by
 have hn:=h.n
 have lk:=fun bx=>look_at h.toOk a o (by omega) bx []
 simp only[rH,List.append_nil] at lk
 have hq':((c.tok a).t==[39])=false:=by simp[hq]
 have hl:=fun env=>loc_rd h.toOk a o [z,t,p,n.cells] [] (.exit 0) env 8 rfl rfl
 simp only[List.append_nil,List.map_cons,List.map_nil] at hl
 refine⟨[(0,.box 0 0),(2,.box 4 0),(6,.box 7 0),(95,.p (.bool false))],?_,rfl,rfl,rfl⟩
 simp only[prS,prB,List.map_cons,List.map_nil]
 simp[fc127_b0,evKC,evK,put,Env.get,Env.keep,Opd.ev,cutAt,binD,strBin,lk,hq',hl,D.ren,below]
theorem pr_step{c:Rd}(h:c.Sz)(a o:Nat)(z t p:List PD)(n:Nd)(ha:a≤c.ts.length)(hq:(c.tok a).t=[39])(hf:fitsB 5 [n]=true):
    evS (call pg) pg.G iterX fc127_b0 (prS c a o z t p n)=some (.norm,prS c (a+1) o z t p (kidsN 5 [] [n] (c.tok a).p)):=by
 have hn:=h.n
 have lk:=fun bx=>look_at h.toOk a o (by omega) bx []
 have nd:=fun bx=>node_eqF h.toOk (a+1) o 5 [] [n] (c.tok a).p (by simp) (by simp) bx []
 have hkn:=pone_kids n
 have hw:=addw1 (a:=a) (by omega)
 have kc:(kidsN 5 [] [n] (c.tok a).p).cells=[.int .i64 5,.str [],.int .i64 0,.slice 5 [n.pd],.int .i64 (c.tok a).p]:=rfl
 have kp:=kids_pd 5 [] [n] (c.tok a).p (by simp)
 have hl:=fun env=>loc_rd h.toOk (a+1) o [z,t,p,(kidsN 5 [] [n] (c.tok a).p).cells] [] .norm env 8 rfl rfl
 simp only[List.append_nil,List.map_cons,List.map_nil,kc] at hl
 simp only[pd_cells n] at hl
 simp only[Nd.cells] at hl
 simp only[List.map_nil,List.map_cons,pd_cells n,Nd.cells] at kp
 simp only[rH,List.append_nil,litN,hf,if_true,kp,List.map_cons,List.map_nil,pd_cells n,Nd.cells] at lk nd
 simp only[prS,prB,List.map_cons,List.map_nil,kc,pd_cells n]
 simp only[Nd.cells,List.map_cons,List.map_nil]
 generalize c.tok a=x at *
 simp[fc127_b0,evKC,evK,put,Env.get,Env.keep,Opd.ev,splice,cutAt,binD,strBin,D.cells,PD.cells,mkAgg,pures,fillD,fillE,D.asPD,lk,hq,nd,hw,hkn,ldr1,str1',lz7,sz7 (oL _ _),oP,hl,D.ren,below]
theorem pr_bad{c:Rd}(h:c.Sz)(a o:Nat)(z t p:List PD)(n:Nd)(ha:a≤c.ts.length)(hq:(c.tok a).t=[39])(hf:fitsB 5 [n]=false):
    ∃env,evS (call pg) pg.G iterX fc127_b0 (prS c a o z t p n)=some (.pan (faultD 43 (c.tok a).p),⟨env,(prS c (a+1) o z t p n).hp⟩):=by
 have hn:=h.n
 have lk:=fun bx=>look_at h.toOk a o (by omega) bx []
 have nd:=fun bx=>node_eqF h.toOk (a+1) o 5 [] [n] (c.tok a).p (by simp) (by simp) bx []
 have hkn:=pone_kids n
 have hw:=addw1 (a:=a) (by omega)
 have hl:=fun env=>loc_rd h.toOk (a+1) o [z,t,p,n.cells] [] (.pan (faultD 43 (c.tok a).p)) env 8 rfl rfl
 simp only[List.append_nil,List.map_cons,List.map_nil,Nd.cells] at hl
 simp only[rH,List.append_nil,litN,hf,if_false,Bool.false_eq_true,List.map_cons,List.map_nil,pd_cells n,Nd.cells] at lk nd
 simp only[prS,prB,List.map_cons,List.map_nil,Nd.cells]
 generalize c.tok a=x at *
 simp[fc127_b0,evKC,evK,put,Env.get,Env.keep,Opd.ev,splice,cutAt,binD,strBin,D.cells,PD.cells,mkAgg,pures,fillD,fillE,D.asPD,lk,hq,nd,hw,hkn,ldr1,str1',lz7,oP,hl,D.ren,below]
theorem primes_loop{c:Rd}(h:c.Sz)(o:Nat)(z t p:List PD):∀(m a:Nat) (n:Nd),a≤c.ts.length→c.ts.length-a<m→match primesP c m n a with
    | .ok n' a'=>a'≤c.ts.length∧∃env,loopK (call pg) pg.G [0,2,6] fc127_b0 (prS c a o z t p n)=some (.exit 0,⟨env,(prS c a' o z t p n').hp⟩)∧env.get 0= .box 0 0∧env.get 2= .box 4 0∧env.get 6= .box 7 0
    | .bad e q a'=>∃env n',loopK (call pg) pg.G [0,2,6] fc127_b0 (prS c a o z t p n)=some (.pan (faultD e q),⟨env,(prS c a' o z t p n').hp⟩):=by
 intro m
 induction m with
 |zero=>intro a n _ h2;omega
 |succ m ih=>
  intro a n ha hm
  unfold primesP
  by_cases hq:(c.tok a).t=[39]
  ·rw[if_pos hq]
   have hlt:a<c.ts.length:=by
    rcases Nat.lt_or_ge a c.ts.length with q |q
    ·exact q
    ·rw[tok_out q] at hq;simp at hq
   unfold nodeP
   have kk:fitsB (kidsN 5 [] [n] (c.tok a).p).op (kidsN 5 [] [n] (c.tok a).p).ks=fitsB 5 [n]:=rfl
   rw[kk]
   cases hf:fitsB 5 [n] with
   |true=>
    have hs:=pr_step h a o z t p n ha hq hf
    have:=ih (a+1) (kidsN 5 [] [n] (c.tok a).p) (by omega) (by omega)
    have hl:loopK (call pg) pg.G [0,2,6] fc127_b0 (prS c a o z t p n)=loopK (call pg) pg.G [0,2,6] fc127_b0 (prS c (a+1) o z t p (kidsN 5 [] [n] (c.tok a).p)):=loopK_norm hs
    rw[hl]
    exact this
   |false=>
    obtain⟨env,hs⟩:=pr_bad h a o z t p n ha hq hf
    exact⟨env,n,loopK_out hs (by simp)⟩
  ·rw[if_neg hq]
   obtain⟨env,hs,h1,h2,h3⟩:=pr_out h a o z t p n ha hq
   exact⟨ha,env,loopK_out hs (by simp),h1,h2,h3⟩
section
variable {G : Nat → Option (List PD)} {b q : List D} {bx : List (List D)} {tk : List Nat} {d e v : D}
theorem isMap2:isMapC (d::e::b)=false:=by cases d<;>rfl
theorem ld_succ{n:Option Nat}{i off:Nat}:loadD G ⟨q::bx,tk⟩ n (.box (i+1) off)=loadD G ⟨bx,tk⟩ n (.box i off):=rfl
theorem ld_zero{n:Option Nat}{off:Nat}:loadD G ⟨(d::e::b)::bx,tk⟩ n (.box 0 off)=cutAt (d::e::b) off n id mkAgg:=by
 simp only[loadD,List.getElem?_cons_zero,isMap2,Bool.false_eq_true,if_false]
theorem st_succ{n i off:Nat}:storeD ⟨q::bx,tk⟩ n (.box (i+1) off) v=(storeD ⟨bx,tk⟩ n (.box i off) v).map fun H=>⟨q::H.bx,H.tk⟩:=by
 simp only[storeD,List.getElem?_cons_succ]
 cases bx[i]? with
 |none=>rfl
 |some cs=>
  dsimp only
  split<;>rfl
theorem st_zero{n off:Nat}:storeD ⟨(d::e::b)::bx,tk⟩ n (.box 0 off) v=if v.cells.length=n∧v.cells.all D.one=true∧off+n≤(d::e::b).length∧0<n then some ⟨splice (d::e::b) off v.cells::bx,tk⟩ else none:=by
 simp only[storeD,List.getElem?_cons_zero,isMap2,true_and,List.set_cons_zero]
theorem str3'{c:Rd}{a o:Nat}:storeD ⟨rC c a o::bx,tk⟩ 1 (.box 0 3) (.p (.int .i64 ((o:Int)+1)))=some ⟨rC c a (o+1)::bx,tk⟩:=str3 (o+1)
theorem oT(t e s:Nat)(l:List PD):(D.tsl t e s l).one=true:=rfl
theorem oF(e s:Nat)(l:List PD):(D.fsl e s l).one=true:=rfl
theorem oE(n:Nat):(PD.emp n).one=true:=rfl
end
theorem loc_rdT{c:Rd}(h:c.Ok)(a o:Nat)(bs bs' ex:List (List D))(t t2:List Nat)(out:Out)(env:Env)(nb nt:Nat)(hnb:nb=bs.length+4)(hnt:nt=c.tk.length+t.length)
    (hb:mapO (D.renL (below nb) (below nt)) bs=some bs') (ho:out.ren (below nb) (below nt)=some out):
    locD nb nt (out,⟨env,⟨rC c a o::tabB::tabU::tabS::(bs++ex),c.tk++(t++t2)⟩⟩)=
     (out,⟨env.map fun y=>(y.1,(y.2.ren (below nb) (below nt)).getD .dead),⟨rC c a o::tabB::tabU::tabS::bs',c.tk++t⟩⟩):=by
 have b1:below nb 1=some 1:=by simp[below,hnb]
 have b2:below nb 2=some 2:=by simp[below,hnb]
 have b3:below nb 3=some 3:=by simp[below,hnb]
 have e2:=ren_rC (c:=c) (bi:=below nb) (ti:=below nt) b1 b2 b3 (h.lb' _ nt (by omega)) a o
 have t1:D.renL (below nb) (below nt) tabB=some tabB:=rfl
 have t2':D.renL (below nb) (below nt) tabU=some tabU:=rfl
 have t3:D.renL (below nb) (below nt) tabS=some tabS:=rfl
 have e3:(rC c a o::tabB::tabU::tabS::(bs++ex)).take nb=rC c a o::tabB::tabU::tabS::bs:=by
  rw[hnb]
  simp only[List.take_succ_cons]
  rw[List.take_left' rfl]
 have e4:mapO (D.renL (below nb) (below nt)) (rC c a o::tabB::tabU::tabS::bs)=some (rC c a o::tabB::tabU::tabS::bs'):=by
  simp only[mapO,e2,t1,t2',t3,hb]
  rfl
 have e5:nb≤(rC c a o::tabB::tabU::tabS::(bs++ex)).length:=by
  simp only[List.length_cons,List.length_append];omega
 have e6:nt≤(c.tk++(t++t2)).length:=by simp only[List.length_append];omega
 have e7:(c.tk++(t++t2)).take nt=c.tk++t:=by
  rw[←List.append_assoc,List.take_left']
  simp[hnt]
 unfold locD
 simp only[e3,e4,ho]
 rw[if_pos ⟨e5,e6⟩,e7]
theorem cls_rdT{c:Rd}(h:c.Ok)(a o a' o':Nat)(bx:List (List D))(t:List Nat)(g i:Nat)(y:PD):∃k:Nat×Nat,(k=(1,0)∨k=(4000000012,0))∧∀env:Env,env.get i= .box 0 0→
    clsP env ⟨rC c a o::tabB::tabU::tabS::bx,c.tk++t⟩ ⟨rC c a' o'::tabB::tabU::tabS::bx,c.tk++t⟩ (.call (.c (.fn g [] [])) [.t i,.c (.p y)])=k:=by
 have hr:=reach_rH h a o bx t
 simp only[rH] at hr
 refine⟨if hpEq ⟨rC c a o::tabB::tabU::tabS::bx,c.tk++t⟩ ⟨rC c a' o'::tabB::tabU::tabS::bx,c.tk++t⟩ then(1,0) else(4000000012,0),?_,fun env he=>?_⟩
 ·cases hpEq ⟨rC c a o::tabB::tabU::tabS::bx,c.tk++t⟩ ⟨rC c a' o'::tabB::tabU::tabS::bx,c.tk++t⟩<;>simp
 ·have e1:cls env (.call (.c (.fn g [] [])) [.t i,.c (.p y)])=2:=by simp[cls,Opd.ev,he,D.refsL,D.refs]
  have e2:callIds env ⟨rC c a o::tabB::tabU::tabS::bx,c.tk++t⟩ (.call (.c (.fn g [] [])) [.t i,.c (.p y)])=[0,1,2,3]:=by
   simp only[callIds,Opd.ev,List.nil_append,List.append_nil,List.map_cons,List.map_nil,he]
   exact hr
  unfold clsP
  rw[e1,e2]
  simp[isCl,bnd]
theorem Ans.okT{α:Type}{g:Nat}{args:List PD}{c:Rd}{a o:Nat}{f:α→D}{x:α}{a':Nat}{r:PR α}(h:Ans g args c a o f r)(e:r= .ok x a')(bx:List (List D))(t:List Nat):
    callD (call pg) g (.box 0 0::args.map .p) ⟨rC c a o::tabB::tabU::tabS::bx,c.tk++t⟩=some (.val (f x),⟨rC c a' o::tabB::tabU::tabS::bx,c.tk++t⟩):=by
 subst e;exact h bx t
theorem Ans.badT{α:Type}{g:Nat}{args:List PD}{c:Rd}{a o:Nat}{f:α→D}{e:Int}{p a':Nat}{r:PR α}(h:Ans g args c a o f r)(q:r= .bad e p a'):
    ∃o',∀(bx:List (List D)) (t:List Nat),callD (call pg) g (.box 0 0::args.map .p) ⟨rC c a o::tabB::tabU::tabS::bx,c.tk++t⟩=some (.pan (faultD e p),⟨rC c a' o'::tabB::tabU::tabS::bx,c.tk++t⟩):=by
 subst q;exact h
def caB(c:Rd)(t z:List PD)(nm:List UInt8)(p:Nat)(ks:List Nd):List (List D):=[t.map .p,z.map .p,[.p (.int .i64 47),.p (.str nm),.p (.int .i64 0),.tsl c.tk.length 39 5 (ks.map Nd.pd),.p (.int .i64 p)]]
def caS(c:Rd)(a o:Nat)(t z:List PD)(nm:List UInt8)(p:Nat)(ks:List Nd):St:=⟨[(0,.box 0 0),(4,.box 5 0),(5,.box 6 0)],⟨rC c a o::tabB::tabU::tabS::caB c t z nm p ks,c.tk++[ks.length]⟩⟩
theorem ca_ren(c:Rd)(t z:List PD)(nm:List UInt8)(p:Nat)(ks:List Nd):mapO (D.renL (below 7) (below (c.tk.length+1))) (caB c t z nm p ks)=some (caB c t z nm p ks):=by
 have :below (c.tk.length+1) c.tk.length=some c.tk.length:=by simp[below]
 simp only[caB,mapO,renL_p,D.renL,D.ren,this]
 rfl
theorem ca_loc{c:Rd}(h:c.Ok)(a o:Nat)(t z:List PD)(nm:List UInt8)(p:Nat)(ks:List Nd)(ex:List (List D))(m:Nat)(out:Out)(env:Env)(ho:out.ren (below 7) (below (c.tk.length+1))=some out):
    locD 7 (c.tk.length+1) (out,⟨env,⟨rC c a o::tabB::tabU::tabS::(caB c t z nm p ks++ex),c.tk++[m]⟩⟩)=
     (out,⟨env.map fun y=>(y.1,(y.2.ren (below 7) (below (c.tk.length+1))).getD .dead),⟨rC c a o::tabB::tabU::tabS::caB c t z nm p ks,c.tk++[m]⟩⟩):=
 loc_rdT h a o (caB c t z nm p ks) _ ex [m] [] out env 7 _ rfl rfl (ca_ren ..) ho
theorem ca_end{c:Rd}(h:c.Sz)(a o:Nat)(t z:List PD)(nm:List UInt8)(p:Nat)(ks:List Nd)(ha:a≤c.ts.length)(hq:acceptB c a [93]=true):
    ∃env,evS (call pg) pg.G iterX fc155_b0 (caS c a o t z nm p ks)=some (.exit 0,⟨env,(caS c (a+1) o t z nm p ks).hp⟩)∧env.get 0= .box 0 0∧env.get 4= .box 5 0∧env.get 5= .box 6 0:=by
 have hn:=h.n
 have ac:=fun bx t=>accept_eq h.toOk a o [93] (by omega) bx t
 simp only[rH,acceptN,hq,cond_true] at ac
 have hl:=fun env=>ca_loc h.toOk (a+1) o t z nm p ks [] ks.length (.exit 0) env rfl
 simp only[caB,List.append_nil] at hl
 simp only[caS,caB]
 apply Exists.intro
 refine⟨?_,?_,?_,?_⟩
 ·conv=>lhs;simp[fc155_b0,evKC,evK,evGuard,put,Env.get,Env.keep,entry,Opd.ev,splice,cutAt,indexD,D.asInt?,D.asNat?,u8,binD,strBin,unD,lenD,boundsD,sliceD,iaddrD,sub,minmaxD,eqvL,PD.eqv,clsP,cls,clsR,isCl,isW,apartRW,offB,apartWW,clash,insOk,finish,evRes,evRes1,mapO,D.cells,PD.cells,D.refsL,D.refs,D.toksL,D.toks,mkAgg,pures,fillD,fillE,appendD,srcD,D.elems?,D.asPD,Int.toNat_natCast,srcH,srcBH,eqD,D.asPDL,isMapC,ac,hl,D.ren,below]
 all_goals rfl
def sepP(c:Rd)(ks:List Nd)(a:Nat):PR Unit:=if ks=[] then .ok () a else expectP c a [44]
theorem append_tok{c:Rd}{l:List PD}{x:PD}{m:Nat}{bx:List (List D)}(hm:l.length=m)(hb:m≤1000000):appendD 39 5 64 (.tsl c.tk.length 39 5 l) [x] ⟨bx,c.tk++[m]⟩=some (.tsl c.tk.length 39 5 (l++[x]),⟨bx,c.tk++[m+1]⟩):=by
 have hr:roomy (m+1) 64=true:=by simp only[roomy,Bool.and_eq_true,decide_eq_true_eq];omega
 subst hm
 simp[appendD,hr]
theorem len_tsl(t:Nat)(ks:List Nd):lenD 1 (.tsl t 39 5 (ks.map Nd.pd))=some ks.length:=by rw[lenD_tsl,List.length_map]
theorem ca_bad1{c:Rd}(h:c.Sz)(a o:Nat)(t z:List PD)(nm:List UInt8)(p:Nat)(ks:List Nd)(ha:a≤c.ts.length)(hq:acceptB c a [93]=false){e:Int}{q a':Nat}(hx:sepP c ks a= .bad e q a'):
    ∃env o',evS (call pg) pg.G iterX fc155_b0 (caS c a o t z nm p ks)=some (.pan (faultD e q),⟨env,(caS c a' o' t z nm p ks).hp⟩):=by
 have hn:=h.n
 have ac:=fun bx t=>accept_eq h.toOk a o [93] (by omega) bx t
 simp only[rH,acceptN,hq,cond_false] at ac
 unfold sepP at hx
 have hne:ks≠[]:=fun e=>by rw[if_pos e] at hx;cases hx
 rw[if_neg hne] at hx
 obtain⟨o',s1⟩:=(expect_eq h a o [44] (by omega)).badT hx
 simp only[List.map_cons,List.map_nil] at s1
 have hl:=fun env=>ca_loc h.toOk a' o' t z nm p ks [] ks.length (.pan (faultD e q)) env rfl
 simp only[caB,List.append_nil] at hl
 have hg:0<ks.length:=List.length_pos_iff.2 hne
 simp only[caS,caB]
 apply Exists.intro
 refine⟨o',?_⟩
 conv=>lhs;simp[fc155_b0,evKC,evK,evGuard,put,Env.get,Env.keep,entry,Opd.ev,splice,cutAt,indexD,D.asInt?,D.asNat?,u8,binD,strBin,unD,boundsD,sliceD,iaddrD,sub,minmaxD,eqvL,PD.eqv,clsP,cls,clsR,isCl,isW,apartRW,offB,apartWW,clash,insOk,finish,evRes,evRes1,mapO,D.cells,PD.cells,D.refsL,D.refs,D.toksL,D.toks,mkAgg,pures,fillD,fillE,appendD,srcD,D.elems?,D.asPD,Int.toNat_natCast,srcH,srcBH,eqD,D.asPDL,isMapC,ld_succ,ld_zero,st_succ,st_zero,oI,oS,oN,oP,oB,oL,oT,oF,oE,ldr0,ldr1,ldr2,ldr3,ldr4,ldr5,ldr6,str1',str3',ac,hl,D.ren,below,s1,len_tsl,hg]
theorem sep_ok{c:Rd}{ks:List Nd}{a a1:Nat}{u:Unit}(h:sepP c ks a= .ok u a1)(_ha:a≤c.ts.length):(ks=[]∧a1=a)∨(ks≠[]∧expectP c a [44]= .ok u a1):=by
 unfold sepP at h
 by_cases hk:ks=[]
 ·rw[if_pos hk] at h;cases h;exact .inl ⟨hk,rfl⟩
 ·rw[if_neg hk] at h;exact .inr ⟨hk,h⟩
theorem sep_bd{c:Rd}{ks:List Nd}{a a1:Nat}{u:Unit}(h:sepP c ks a= .ok u a1)(ha:a≤c.ts.length):a1≤c.ts.length:=by
 rcases sep_ok h ha with⟨_,rfl⟩ |⟨_,q⟩
 ·exact ha
 ·exact expect_bd c a [44] _ _ q
theorem ca_bad2{c:Rd}(h:c.Sz){o:Nat}{prs:Nat→Nat→PR Nd}(hp:PrsOk c o prs)(a:Nat)(t z:List PD)(nm:List UInt8)(p:Nat)(ks:List Nd)(ha:a≤c.ts.length)(hq:acceptB c a [93]=false){a1:Nat}{u:Unit}(hx:sepP c ks a= .ok u a1)
    {e:Int} {q a':Nat} (hy:prs 8 a1= .bad e q a'):
    ∃env o',evS (call pg) pg.G iterX fc155_b0 (caS c a o t z nm p ks)=some (.pan (faultD e q),⟨env,(caS c a' o' t z nm p ks).hp⟩):=by
 have hn:=h.n
 have ac:=fun bx t=>accept_eq h.toOk a o [93] (by omega) bx t
 simp only[rH,acceptN,hq,cond_false] at ac
 have hb1:=sep_bd hx ha
 obtain⟨o',s2⟩:=(hp.ans 8 a1 hb1 (by omega)).badT hy
 have hlv:((8 :Nat):Int)=8:=rfl
 simp only[List.map_cons,List.map_nil,hlv] at s2
 have hl:=fun env=>ca_loc h.toOk a' o' t z nm p ks [] ks.length (.pan (faultD e q)) env rfl
 simp only[caB,List.append_nil] at hl
 simp only[caS,caB]
 rcases sep_ok hx ha with⟨rfl,rfl⟩ |⟨hk,hx⟩
 ·simp only[List.map_nil,List.length_nil] at hl⊢
  apply Exists.intro
  refine⟨o',?_⟩
  conv=>lhs;simp[fc155_b0,evKC,evK,evGuard,put,Env.get,Env.keep,entry,Opd.ev,splice,cutAt,indexD,D.asInt?,D.asNat?,u8,binD,strBin,unD,boundsD,sliceD,iaddrD,sub,minmaxD,eqvL,PD.eqv,clsP,cls,clsR,isCl,isW,apartRW,offB,apartWW,clash,insOk,finish,evRes,evRes1,mapO,D.cells,PD.cells,D.refsL,D.refs,D.toksL,D.toks,mkAgg,pures,fillD,fillE,appendD,srcD,D.elems?,D.asPD,Int.toNat_natCast,srcH,srcBH,eqD,D.asPDL,isMapC,ld_succ,ld_zero,st_succ,st_zero,oI,oS,oN,oP,oB,oL,oT,oF,oE,ldr0,ldr1,ldr2,ldr3,ldr4,ldr5,ldr6,str1',str3',ac,hl,D.ren,below,lenD_tsl,s2,drP,evRest,behind,pairsOk,panOk,SO.uses,SK.slots,Opd.slots,SK.heapless]
 ·have s1:=(expect_eq h a o [44] (by omega)).okT hx
  simp only[List.map_cons,List.map_nil] at s1
  have hg:0<ks.length:=List.length_pos_iff.2 hk
  apply Exists.intro
  refine⟨o',?_⟩
  conv=>lhs;simp[fc155_b0,evKC,evK,evGuard,put,Env.get,Env.keep,entry,Opd.ev,splice,cutAt,indexD,D.asInt?,D.asNat?,u8,binD,strBin,unD,boundsD,sliceD,iaddrD,sub,minmaxD,eqvL,PD.eqv,clsP,cls,clsR,isCl,isW,apartRW,offB,apartWW,clash,insOk,finish,evRes,evRes1,mapO,D.cells,PD.cells,D.refsL,D.refs,D.toksL,D.toks,mkAgg,pures,fillD,fillE,appendD,srcD,D.elems?,D.asPD,Int.toNat_natCast,srcH,srcBH,eqD,D.asPDL,isMapC,ld_succ,ld_zero,st_succ,st_zero,oI,oS,oN,oP,oB,oL,oT,oF,oE,ldr0,ldr1,ldr2,ldr3,ldr4,ldr5,ldr6,str1',str3',ac,hl,D.ren,below,s1,s2,len_tsl,hg,drP,evRest,behind,pairsOk,panOk,SO.uses,SK.slots,Opd.slots,SK.heapless]
theorem ca_step{c:Rd}(h:c.Sz){o:Nat}{prs:Nat→Nat→PR Nd}(hp:PrsOk c o prs)(a:Nat)(t z:List PD)(nm:List UInt8)(p:Nat)(ks:List Nd)(ha:a≤c.ts.length)(hks:ks.length≤a)(hq:acceptB c a [93]=false){a1:Nat}{u:Unit}(hx:sepP c ks a= .ok u a1)
    {x:Nd} {a':Nat} (hy:prs 8 a1= .ok x a'):
    evS (call pg) pg.G iterX fc155_b0 (caS c a o t z nm p ks)=some (.norm,caS c a' o t z nm p (ks++[x])):=by
 have hn:=h.n
 have ac:=fun bx t=>accept_eq h.toOk a o [93] (by omega) bx t
 simp only[rH,acceptN,hq,cond_false] at ac
 have hb1:=sep_bd hx ha
 have s2:=(hp.ans 8 a1 hb1 (by omega)).okT hy
 have hlv:((8 :Nat):Int)=8:=rfl
 simp only[List.map_cons,List.map_nil,hlv,pd_cells x,Nd.cells] at s2
 have hkx:=pone_kids x
 have hl:=fun env=>ca_loc h.toOk a' o t z nm p (ks++[x]) [] (ks.length+1) .norm env rfl
 simp only[caB,List.append_nil,List.map_append,List.map_cons,List.map_nil,pd_cells x,Nd.cells] at hl
 have hap:=fun bx y=>append_tok (c:=c) (l:=ks.map Nd.pd) (x:=y) (m:=ks.length) (bx:=bx) (by simp) (by omega)
 simp only[caS,caB,List.map_append,List.map_cons,List.map_nil,List.length_append,List.length_cons,List.length_nil,pd_cells x,Nd.cells,Nat.zero_add]
 rcases sep_ok hx ha with⟨rfl,rfl⟩ |⟨hk,hx⟩
 ·obtain⟨kc,hkc,hcl⟩:=cls_rdT h.toOk a1 o a' o (caB c t z nm p []) [0] 80 22 (.int .i64 8)
  simp only[caB,List.map_nil] at hcl
  simp only[List.map_nil,List.length_nil,List.nil_append] at hl hap⊢
  rcases hkc with rfl |rfl<;>simp[fc155_b0,↓hcl,evKC,evK,put,Env.get,Env.keep,Opd.ev,splice,cutAt,binD,unD,clsP,cls,clsR,isCl,isW,apartRW,offB,apartWW,clash,insOk,D.cells,PD.cells,fillE,srcD,D.elems?,D.asPD,srcH,ld_succ,ld_zero,st_succ,st_zero,ac,hl,D.ren,below,lenD_tsl,s2,hap,hkx]
 ·have s1:=(expect_eq h a o [44] (by omega)).okT hx
  simp only[List.map_cons,List.map_nil] at s1
  have hg:0<ks.length:=List.length_pos_iff.2 hk
  obtain⟨kc,hkc,hcl⟩:=cls_rdT h.toOk a1 o a' o (caB c t z nm p ks) [ks.length] 80 22 (.int .i64 8)
  simp only[caB] at hcl
  rcases hkc with rfl |rfl<;>simp[fc155_b0,↓hcl,evKC,evK,put,Env.get,Env.keep,Opd.ev,splice,cutAt,binD,unD,clsP,cls,clsR,isCl,isW,apartRW,offB,apartWW,clash,insOk,D.cells,PD.cells,fillE,srcD,D.elems?,D.asPD,srcH,ld_succ,ld_zero,st_succ,st_zero,ac,hl,D.ren,below,s1,s2,len_tsl,hg,hap,hkx]
end Go.Proofs.YtalgjkpkkdljaaaGreatDoor
namespace Go.Proofs.YtalgjkpkkdljaaaGreatDoor
open Go.Vs
def argsL(c:Rd)(prs:Nat→Nat→PR Nd):Nat→List Nd→Nat→PR (List Nd)
 | 0,ks,a=>.ok ks a
 |n+1,ks,a=>if acceptB c a [93] then .ok ks (a+1) else(sepP c ks a).bind fun _ a=>(prs 8 a).bind fun x a=>argsL c prs n (ks++[x]) a
theorem argsP_argsL(c:Rd)(prs:Nat→Nat→PR Nd)(t:Tok):∀(n:Nat) (ks:List Nd) (a:Nat),argsP c prs t n ks a=(argsL c prs n ks a).bind fun ks a=>nodeP (callN t.t ks t.p) t.p a:=by
 intro n
 induction n with
 |zero=>intro ks a;rfl
 |succ n ih=>
  intro ks a
  unfold argsP argsL
  split
  ·rfl
  ·show(sepP c ks a).bind _=((sepP c ks a).bind _).bind _
   cases sepP c ks a with
   |bad e p a=>rfl
   |ok u a1=>
    simp only[bind_ok]
    cases prs 8 a1 with
    |bad e p a=>rfl
    |ok x a2=>
     simp only[bind_ok]
     exact ih _ _
theorem args_loop{c:Rd}(h:c.Sz){o:Nat}{prs:Nat→Nat→PR Nd}(hp:PrsOk c o prs)(t z:List PD)(nm:List UInt8)(p:Nat):∀(m a:Nat) (ks:List Nd),a≤c.ts.length→ks.length≤a→c.ts.length-a<m→match argsL c prs m ks a with
    | .ok ks' a'=>a'≤c.ts.length∧ks'.length≤a'∧∃env,loopK (call pg) pg.G [0,4,5] fc155_b0 (caS c a o t z nm p ks)=some (.exit 0,⟨env,(caS c a' o t z nm p ks').hp⟩)∧env.get 0= .box 0 0∧env.get 4= .box 5 0∧env.get 5= .box 6 0
    | .bad e q a'=>∃env o' ks',loopK (call pg) pg.G [0,4,5] fc155_b0 (caS c a o t z nm p ks)=some (.pan (faultD e q),⟨env,(caS c a' o' t z nm p ks').hp⟩):=by
 intro m
 induction m with
 |zero=>intro a n _ _ h2;omega
 |succ m ih=>
  intro a ks ha hks hm
  unfold argsL
  cases hq:acceptB c a [93] with
  |true=>
   obtain⟨env,hs,h1,h2,h3⟩:=ca_end h a o t z nm p ks ha hq
   exact⟨accept_lt hq,by omega,env,loopK_out hs (by simp),h1,h2,h3⟩
  |false=>
   simp only[Bool.false_eq_true,if_false]
   cases hx:sepP c ks a with
   |bad e q a'=>
    obtain⟨env,o',hs⟩:=ca_bad1 h a o t z nm p ks ha hq hx
    exact⟨env,o',ks,loopK_out hs (by simp)⟩
   |ok u a1=>
    simp only[bind_ok]
    cases hy:prs 8 a1 with
    |bad e q a'=>
     obtain⟨env,o',hs⟩:=ca_bad2 h hp a t z nm p ks ha hq hx hy
     exact⟨env,o',ks,loopK_out hs (by simp)⟩
    |ok x a'=>
     simp only[bind_ok]
     have hs:=ca_step h hp a t z nm p ks ha hks hq hx hy
     have hb1:=sep_bd hx ha
     have hlt:=hp.adv 8 a1 x a' hb1 hy
     have hbd:=hp.bd 8 a1 hb1 x a' hy
     have hle:a≤a1:=by
      rcases sep_ok hx ha with⟨_,rfl⟩ |⟨_,q⟩
      ·exact Nat.le_refl _
      ·unfold expectP at q
       cases hb:acceptB c a [44] with
       |true=>rw[hb] at q;cases q;omega
       |false=>rw[hb] at q;cases q
     have:=ih a' (ks++[x]) hbd (by simp;omega) (by omega)
     have hl:loopK (call pg) pg.G [0,4,5] fc155_b0 (caS c a o t z nm p ks)=loopK (call pg) pg.G [0,4,5] fc155_b0 (caS c a' o t z nm p (ks++[x])):=loopK_norm hs
     rw[hl]
     exact this
theorem callN_cells(nm:List UInt8)(ks:List Nd)(p:Nat):(callN nm ks p).cells=[.int .i64 47,.str nm,.int .i64 0,.slice 5 (ks.map Nd.pd),.int .i64 p]:=by
 cases ks<;>rfl
theorem ca_out{c:Rd}(h:c.Ok)(a o:Nat)(t z:List PD)(nm:List UInt8)(p:Nat)(ks:List Nd)(out:Out)(env:Env)(ho:out.ren (below 7) (below c.tk.length)=some out):
    locD 7 c.tk.length (out,⟨env,(caS c a o t z nm p ks).hp⟩)=
     (out,⟨env.map fun y=>(y.1,(y.2.ren (below 7) (below c.tk.length)).getD .dead),⟨rC c a o::tabB::tabU::tabS::[t.map .p,z.map .p,(callN nm ks p).cells.map .p],c.tk⟩⟩):=by
 have hb:mapO (D.renL (below 7) (below c.tk.length)) (caB c t z nm p ks)=some [t.map .p,z.map .p,(callN nm ks p).cells.map .p]:=by
  have :below c.tk.length c.tk.length=none:=by simp[below]
  simp only[caB,mapO,renL_p,D.renL,D.ren,this,callN_cells]
  rfl
 have:=loc_rdT h a o (caB c t z nm p ks) _ [] [] [ks.length] out env 7 c.tk.length rfl rfl hb ho
 simp only[List.append_nil,List.nil_append] at this
 exact this
theorem get_map(f:D→D)(hf:f .dead= .dead)(t:Nat):∀env:Env,Env.get (env.map fun y=>(y.1,f y.2)) t=f (env.get t)
 |[]=>hf.symm
 |(s,d)::e=>by
  simp only[List.map_cons,Env.get]
  split
  ·rfl
  ·exact get_map f hf t e
theorem call_eq{c:Rd}(h:c.Sz){o:Nat}{prs:Nat→Nat→PR Nd}(hp:PrsOk c o prs)(t:Tok)(a:Nat)(ha:a≤c.ts.length):
    Ans 155 [t.pd] c a o (fun x:Nd=>.p x.pd) (argsP c prs t (c.ts.length+1) [] a):=by
 rw[argsP_argsL]
 have hn:=h.n
 have hL:=args_loop h hp [.int .i64 t.k,.str t.t,.int .i64 t.p] [.int .i64 0,.str [],.int .i64 0,.nils,.int .i64 0] t.t t.p (c.ts.length+1) a [] ha (by simp) (by omega)
 cases hr:argsL c prs (c.ts.length+1) [] a with
 |bad e q a'=>
  rw[hr] at hL
  obtain⟨env,o',ks,hL⟩:=hL
  have hl:=ca_out h.toOk a' o' [.int .i64 t.k,.str t.t,.int .i64 t.p] [.int .i64 0,.str [],.int .i64 0,.nils,.int .i64 0] t.t t.p ks (.pan (faultD e q)) env rfl
  simp only[caS,caB,List.map_cons,List.map_nil,List.length_nil] at hL hl
  refine ans_frzB h.toOk (fc:=fc155) rfl rfl rfl rfl ?_
  apply Exists.intro
  refine⟨o',?_⟩
  simp only[rH,List.append_nil,Tok.pd]
  conv=>lhs;simp[fc155,evKC,evK,evGuard,put,Env.get,Env.keep,entry,Opd.ev,splice,cutAt,indexD,D.asInt?,D.asNat?,u8,binD,strBin,unD,boundsD,sliceD,iaddrD,sub,minmaxD,eqvL,PD.eqv,clsP,cls,clsR,isCl,isW,apartRW,offB,apartWW,clash,insOk,finish,evRes,evRes1,mapO,D.cells,PD.cells,D.refsL,D.refs,D.toksL,D.toks,mkAgg,pures,fillD,fillE,appendD,srcD,D.elems?,D.asPD,Int.toNat_natCast,srcH,srcBH,eqD,D.asPDL,isMapC,ld_succ,ld_zero,st_succ,st_zero,oI,oS,oN,oP,oB,oL,oT,oF,oE,ldr0,ldr1,ldr2,ldr3,ldr4,ldr5,ldr6,str1',str3',tokbD,tokD,hL,hl]
 |ok ks a'=>
  rw[hr] at hL
  obtain⟨hb,hks,env,hL,g0,g4,g5⟩:=hL
  simp only[bind_ok]
  have nd:=node_eq h.toOk a' o (callN t.t ks t.p) t.p (by cases ks<;>rfl) (by show ks.length≤_;omega)
  have hl:=ca_out h.toOk a' o [.int .i64 t.k,.str t.t,.int .i64 t.p] [.int .i64 0,.str [],.int .i64 0,.nils,.int .i64 0] t.t t.p ks .norm env rfl
  have g0':=get_map (fun d=>(D.ren (below 7) (below c.tk.length) d).getD .dead) rfl 0 env
  have g4':=get_map (fun d=>(D.ren (below 7) (below c.tk.length) d).getD .dead) rfl 4 env
  have g5':=get_map (fun d=>(D.ren (below 7) (below c.tk.length) d).getD .dead) rfl 5 env
  rw[g0] at g0'
  rw[g4] at g4'
  rw[g5] at g5'
  replace g0':_=D.box 0 0:=g0'.trans rfl
  replace g4':_=D.box 5 0:=g4'.trans rfl
  replace g5':_=D.box 6 0:=g5'.trans rfl
  simp only[caS,caB,List.map_cons,List.map_nil,List.length_nil,callN_cells] at hL hl
  unfold nodeP at nd⊢
  cases hf:fitsB (callN t.t ks t.p).op (callN t.t ks t.p).ks with
  |true=>
   rw[hf] at nd
   have nd:=nd.okU
   simp only[List.map_cons,List.map_nil,pd_cells,callN_cells] at nd
   refine ans_frz h.toOk (fc:=fc155) rfl rfl rfl rfl (.p (callN t.t ks t.p).pd) (fun _=>rfl) ?_
   apply Exists.intro
   simp only[rH,List.append_nil,Tok.pd,pd_cells (callN t.t ks t.p),callN_cells]
   conv=>lhs;simp[fc155,evKC,evK,evGuard,put,Env.get,Env.keep,entry,Opd.ev,splice,cutAt,indexD,D.asInt?,D.asNat?,u8,binD,strBin,unD,boundsD,sliceD,iaddrD,sub,minmaxD,eqvL,PD.eqv,clsP,cls,clsR,isCl,isW,apartRW,offB,apartWW,clash,insOk,finish,evRes,evRes1,mapO,D.cells,PD.cells,D.refsL,D.refs,D.toksL,D.toks,mkAgg,pures,fillD,fillE,appendD,srcD,D.elems?,D.asPD,Int.toNat_natCast,srcH,srcBH,eqD,D.asPDL,isMapC,ld_succ,ld_zero,st_succ,st_zero,oI,oS,oN,oP,oB,oL,oT,oF,oE,ldr0,ldr1,ldr2,ldr3,ldr4,ldr5,ldr6,str1',str3',tokbD,tokD,hL,hl,g0',g4',g5',nd]
  |false=>
   rw[hf] at nd
   obtain⟨o',nd⟩:=Ans.badU nd
   simp only[List.map_cons,List.map_nil,pd_cells,callN_cells] at nd
   refine ans_frzB h.toOk (fc:=fc155) rfl rfl rfl rfl ?_
   apply Exists.intro
   refine⟨o',?_⟩
   simp only[rH,List.append_nil,Tok.pd]
   conv=>lhs;simp[fc155,evKC,evK,evGuard,put,Env.get,Env.keep,entry,Opd.ev,splice,cutAt,indexD,D.asInt?,D.asNat?,u8,binD,strBin,unD,boundsD,sliceD,iaddrD,sub,minmaxD,eqvL,PD.eqv,clsP,cls,clsR,isCl,isW,apartRW,offB,apartWW,clash,insOk,finish,evRes,evRes1,mapO,D.cells,PD.cells,D.refsL,D.refs,D.toksL,D.toks,mkAgg,pures,fillD,fillE,appendD,srcD,D.elems?,D.asPD,Int.toNat_natCast,srcH,srcBH,eqD,D.asPDL,isMapC,ld_succ,ld_zero,st_succ,st_zero,oI,oS,oN,oP,oB,oL,oT,oF,oE,ldr0,ldr1,ldr2,ldr3,ldr4,ldr5,ldr6,str1',str3',tokbD,tokD,hL,hl,g0',g4',g5',nd]
def wordT:List (List UInt8×Int):=[([105,100,101,110],4),([116,114,117,101],30),([117,110,105,118],3),([102,97,108,115,101],31)]
theorem wordT_op(s:List UInt8):lookT wordT s=wordOp s:=by
 unfold wordOp
 simp only[wordT,lookT]
 by_cases h1:s=[116,114,117,101]
 ·subst h1;rfl
 by_cases h2:s=[102,97,108,115,101]
 ·subst h2;rfl
 by_cases h3:s=[117,110,105,118]
 ·subst h3;rfl
 by_cases h4:s=[105,100,101,110]
 ·subst h4;rfl
 simp[h1,h2,h3,h4,Ne.symm h1,Ne.symm h2,Ne.symm h3,Ne.symm h4]
section
variable {b0 b1 b2 b3 b4 b5 : List D} {tk : List Nat}
theorem mi1:mapinsD 2 (.mapr 6) (.p (.str [116,114,117,101])) (.p (.int .i64 30)) ⟨[b0,b1,b2,b3,b4,b5,[.mapc 2 [] []]],tk⟩=some (.undef,⟨[b0,b1,b2,b3,b4,b5,[.mapc 2 [.str [116,114,117,101]] [.p (.int .i64 30)]]],tk⟩):=rfl
theorem mi2:mapinsD 2 (.mapr 6) (.p (.str [102,97,108,115,101])) (.p (.int .i64 31)) ⟨[b0,b1,b2,b3,b4,b5,[.mapc 2 [.str [116,114,117,101]] [.p (.int .i64 30)]]],tk⟩=some (.undef,⟨[b0,b1,b2,b3,b4,b5,[.mapc 2 [.str [116,114,117,101],.str [102,97,108,115,101]] [.p (.int .i64 30),.p (.int .i64 31)]]],tk⟩):=rfl
theorem mi3:mapinsD 2 (.mapr 6) (.p (.str [117,110,105,118])) (.p (.int .i64 3)) ⟨[b0,b1,b2,b3,b4,b5,[.mapc 2 [.str [116,114,117,101],.str [102,97,108,115,101]] [.p (.int .i64 30),.p (.int .i64 31)]]],tk⟩=some (.undef,⟨[b0,b1,b2,b3,b4,b5,[.mapc 2 [.str [116,114,117,101],.str [117,110,105,118],.str [102,97,108,115,101]] [.p (.int .i64 30),.p (.int .i64 3),.p (.int .i64 31)]]],tk⟩):=rfl
theorem mi4:mapinsD 2 (.mapr 6) (.p (.str [105,100,101,110])) (.p (.int .i64 4)) ⟨[b0,b1,b2,b3,b4,b5,[.mapc 2 [.str [116,114,117,101],.str [117,110,105,118],.str [102,97,108,115,101]] [.p (.int .i64 30),.p (.int .i64 3),.p (.int .i64 31)]]],tk⟩=some (.undef,⟨[b0,b1,b2,b3,b4,b5,mapT (fun n=>.int .i64 n) wordT],tk⟩):=rfl
theorem mget(s:List UInt8):mapgetD 2 (.int .i64 0) true (.mapr 6) (.p (.str s)) ⟨[b0,b1,b2,b3,b4,b5,mapT (fun n=>.int .i64 n) wordT],tk⟩=some (getT (fun n=>.int .i64 n) (.int .i64 0) wordT s):=get_mapT rfl s
end
theorem ans_frzE{g:Nat}{args:List PD}{c:Rd}(hc:c.Ok){a o:Nat}{fc:FC}(hl:pgL g (.box 0 0::args.map .p) (rH c a o [] [])=none)(hf:pgF g=some fc)(hn:args.length+1=fc.np)(hz:fc.frozen=true)
    {x:Nd} {a':Nat}
    (e:∃ex,finish pg.G fc.res (evS (call pg) pg.G iterX fc.body ⟨entry 0 (.box 0 0::args.map .p),⟨rC c a o::tabB::tabU::tabS::[],c.tk⟩⟩)=some (.val (.p x.pd),⟨rC c a' o::tabB::tabU::tabS::ex,c.tk⟩)):
    Ans g args c a o (fun x:Nd=>.p x.pd) (.ok x a'):=by
 refine ans_frz hc hl hf hn hz (.p x.pd) (fun _=>rfl) ?_
 simpa only[rH,List.append_nil] using e
theorem ans_frzBE{g:Nat}{args:List PD}{c:Rd}(hc:c.Ok){a o:Nat}{fc:FC}(hl:pgL g (.box 0 0::args.map .p) (rH c a o [] [])=none)(hf:pgF g=some fc)(hn:args.length+1=fc.np)(hz:fc.frozen=true)
    {er:Int} {p a':Nat}
    (e:∃o' ex,finish pg.G fc.res (evS (call pg) pg.G iterX fc.body ⟨entry 0 (.box 0 0::args.map .p),⟨rC c a o::tabB::tabU::tabS::[],c.tk⟩⟩)=some (.pan (faultD er p),⟨rC c a' o'::tabB::tabU::tabS::ex,c.tk⟩)):
    Ans g args c a o (fun x:Nd=>.p x.pd) (.bad er p a'):=by
 refine ans_frzB hc hl hf hn hz ?_
 obtain⟨o',ex,e⟩:=e
 refine⟨ex,o',?_⟩
 simpa only[rH,List.append_nil] using e
theorem pr_word{c:Rd}(h:c.Sz)(o:Nat)(t:Tok)(a:Nat)(ha:a≤c.ts.length){op:Int}(hw:wordOp t.t=some op):
    Ans 143 [t.pd] c a o (fun x:Nd=>.p x.pd) (.ok (leafN op [] 0 t.p) (a+1)):=by
 have hn:=h.n
 have hw1:=addw1 (a:=a) (by omega)
 rw[←wordT_op] at hw
 refine ans_frzE h.toOk (fc:=fc143) rfl rfl rfl rfl ?_
 apply Exists.intro
 simp only[Tok.pd,leaf_cells]
 conv=>lhs;simp[fc143,evKC,evK,evGuard,put,Env.get,Env.keep,entry,Opd.ev,splice,cutAt,indexD,D.asInt?,D.asNat?,u8,binD,strBin,unD,boundsD,sliceD,iaddrD,sub,minmaxD,eqvL,PD.eqv,clsP,cls,clsR,isCl,isW,apartRW,offB,apartWW,clash,insOk,finish,evRes,evRes1,mapO,D.cells,PD.cells,D.refsL,D.refs,D.toksL,D.toks,mkAgg,pures,fillD,fillE,appendD,srcD,D.elems?,D.asPD,Int.toNat_natCast,srcH,srcBH,eqD,D.asPDL,isMapC,ld_succ,ld_zero,st_succ,st_zero,oI,oS,oN,oP,oB,oL,oT,oF,oE,ldr0,ldr1,ldr2,ldr3,ldr4,ldr5,ldr6,str1',str3',mi1,mi2,mi3,mi4,mget,getT,hw,hw1]
theorem bind_inv{α β:Type}{x:PR α}{f:α→Nat→PR β}{y:β}{a:Nat}(h:x.bind f= .ok y a):∃v b,x= .ok v b∧f v b= .ok y a:=by
 cases x with
 |ok v b=>exact⟨v,b,rfl,h⟩
 |bad e p b=>cases h
theorem expect_inv{c:Rd}{a:Nat}{s:List UInt8}{u:Unit}{a':Nat}(h:expectP c a s= .ok u a'):a'=a+1∧acceptB c a s=true:=by
 unfold expectP at h
 cases hb:acceptB c a s with
 |true=>rw[hb] at h;cases h;exact⟨rfl,rfl⟩
 |false=>rw[hb] at h;cases h
theorem name_inv{c:Rd}{a:Nat}{t:Tok}{a':Nat}(h:nameP c a= .ok t a'):a'=a+1∧t=c.tok a∧namedB (c.tok a)=true:=by
 unfold nameP at h
 cases hb:namedB (c.tok a) with
 |true=>rw[hb] at h;cases h;exact⟨rfl,rfl,rfl⟩
 |false=>rw[hb] at h;cases h
theorem node_inv{n:Nd}{p a:Nat}{x:Nd}{a':Nat}(h:nodeP n p a= .ok x a'):x=n∧a'=a∧fitsB n.op n.ks=true:=by
 unfold nodeP at h
 cases hb:fitsB n.op n.ks with
 |true=>rw[hb] at h;cases h;exact⟨rfl,rfl,rfl⟩
 |false=>rw[hb] at h;cases h
theorem quant_inv{c:Rd}{prs:Nat→Nat→PR Nd}{op:Int}{p a:Nat}{x:Nd}{a':Nat}(h:quantP c prs op p a= .ok x a'):
    ∃e a3 f,namedB (c.tok a)=true∧acceptB c (a+1) [58]=true∧prs 8 (a+2)= .ok e a3∧acceptB c a3 [124]=true∧prs 1 (a3+1)= .ok f a'∧x=kidsN op (c.tok a).t [e,f] p∧fitsB op [e,f]=true:=by
 obtain⟨t,a1,h1,g1⟩:=bind_inv h
 obtain⟨u,a2,h2,g2⟩:=bind_inv g1
 obtain⟨e,a3,h3,g3⟩:=bind_inv g2
 obtain⟨u',a4,h4,g4⟩:=bind_inv g3
 obtain⟨f,a5,h5,g5⟩:=bind_inv g4
 clear h g1 g2 g3 g4
 obtain⟨rfl,rfl,n1⟩:=name_inv h1
 obtain⟨rfl,n2⟩:=expect_inv h2
 obtain⟨rfl,n4⟩:=expect_inv h4
 obtain⟨rfl,rfl,n5⟩:=node_inv g5
 exact⟨e,a3,f,n1,n2,h3,n4,h5,rfl,n5⟩
theorem quant_bd{c:Rd}{o:Nat}{prs:Nat→Nat→PR Nd}(hp:PrsOk c o prs)(op:Int)(p:Nat){a:Nat}(_ha:a≤c.ts.length):(quantP c prs op p a).Bd c:=by
 intro x a' h
 obtain⟨e,a3,f,n1,n2,h3,n4,h5,_⟩:=quant_inv h
 exact hp.bd 1 (a3+1) (accept_lt n4) f a' h5
theorem neg_w(n:Nat)(h:n≤999999999):IntKind.i64.wrap (-(n:Int))= -(n:Int):=by
 rw[wrap64 (by omega) (by omega)]
theorem numberP_le{c:Rd}{most a n a':Nat}(h:numberP c most a= .ok n a'):n≤most∧a'=a+1:=by
 unfold numberP at h
 split at h
 ·split at h
  ·cases h
  ·cases h;exact⟨by omega,rfl⟩
 ·cases h
theorem pr_num{c:Rd}(h:c.Sz){o:Nat}{prs:Nat→Nat→PR Nd}(_hp:PrsOk c o prs)(t:Tok)(a:Nat)(ha:a≤c.ts.length)(hw:lookT wordT t.t=none)(h2:t.k=2):
    Ans 143 [t.pd] c a o (fun x:Nd=>.p x.pd) ((numberP c 64 a).bind fun n a=>.ok (leafN 20 [] n t.p) a):=by
 have hn:=h.n
 have s1:Ans 153 [.int .i64 64] c a o (fun n:Nat=>.p (.int .i64 n)) (numberP c 64 a):=number_eq h a o 64 (by omega)
 cases r1:numberP c 64 a with
 |bad e q a1=>
  obtain⟨o',s1⟩:=s1.badT r1
  have s1:=fun bx=>s1 bx []
  simp only[List.map_cons,List.map_nil,List.append_nil] at s1
  change Ans 143 [t.pd] c a o (fun x:Nd=>.p x.pd) (.bad e q a1)
  refine ans_frzBE h.toOk (fc:=fc143) rfl rfl rfl rfl ⟨o',?_⟩
  apply Exists.intro
  simp only[Tok.pd]
  conv=>lhs;simp[fc143,evKC,evK,evGuard,put,Env.get,Env.keep,entry,Opd.ev,splice,cutAt,indexD,D.asInt?,D.asNat?,u8,binD,strBin,unD,boundsD,sliceD,iaddrD,sub,minmaxD,eqvL,PD.eqv,clsP,cls,clsR,isCl,isW,apartRW,offB,apartWW,clash,insOk,finish,evRes,evRes1,mapO,D.cells,PD.cells,D.refsL,D.refs,D.toksL,D.toks,mkAgg,pures,fillD,fillE,appendD,srcD,D.elems?,D.asPD,Int.toNat_natCast,srcH,srcBH,eqD,D.asPDL,isMapC,ld_succ,ld_zero,st_succ,st_zero,oI,oS,oN,oP,oB,oL,oT,oF,oE,ldr0,ldr1,ldr2,ldr3,ldr4,ldr5,ldr6,str1',str3',mi1,mi2,mi3,mi4,mget,getT,hw,s1,h2,drP,evRest,behind,pairsOk,panOk,SO.uses,SK.slots,Opd.slots,SK.heapless]
 |ok n a1=>
  have s1:=fun bx=>s1.okT r1 bx []
  simp only[List.map_cons,List.map_nil,List.append_nil] at s1
  change Ans 143 [t.pd] c a o (fun x:Nd=>.p x.pd) (.ok (leafN 20 [] n t.p) a1)
  obtain⟨kc,hkc,hcl⟩:=cls_rd h.toOk a o a1 o [[.p (.int .i64 2),.p (.str t.t),.p (.int .i64 t.p)],[.p (.int .i64 0),.p (.str []),.p (.int .i64 0),.p .nils,.p (.int .i64 0)],mapT (fun n=>.int .i64 n) wordT] 153 35 (.int .i64 64)
  rcases hkc with rfl |rfl
  all_goals
   refine ans_frzE h.toOk (fc:=fc143) rfl rfl rfl rfl ?_
   apply Exists.intro
   simp only[Tok.pd,leaf_cells]
   conv=>lhs;simp[fc143,evKC,evK,evGuard,put,Env.get,Env.keep,entry,Opd.ev,splice,cutAt,indexD,D.asInt?,D.asNat?,u8,binD,strBin,unD,boundsD,sliceD,iaddrD,sub,minmaxD,eqvL,PD.eqv,clsP,cls,clsR,isCl,isW,apartRW,offB,apartWW,clash,insOk,finish,evRes,evRes1,mapO,D.cells,PD.cells,D.refsL,D.refs,D.toksL,D.toks,mkAgg,pures,fillD,fillE,appendD,srcD,D.elems?,D.asPD,Int.toNat_natCast,srcH,srcBH,eqD,D.asPDL,isMapC,ld_succ,ld_zero,st_succ,st_zero,oI,oS,oN,oP,oB,oL,oT,oF,oE,ldr0,ldr1,ldr2,ldr3,ldr4,ldr5,ldr6,str1',str3',mi1,mi2,mi3,mi4,mget,getT,hw,↓hcl,s1,h2]
theorem pr_neg{c:Rd}(h:c.Sz){o:Nat}{prs:Nat→Nat→PR Nd}(_hp:PrsOk c o prs)(t:Tok)(a:Nat)(ha:a≤c.ts.length)(hw:lookT wordT t.t=none)(h2:(t.k==2)=false)(h3:t.t=[45])(h4:(c.tok (a+1)).k=2):
    Ans 143 [t.pd] c a o (fun x:Nd=>.p x.pd) ((numberP c 64 (a+1)).bind fun n a=>.ok (leafN 20 [] (-n) t.p) a):=by
 have hn:=h.n
 have hw1:=addw1 (a:=a) (by omega)
 have lk:=fun bx=>look_eq h.toOk a o 1 (by omega) bx []
 have hlv:((1 :Nat):Int)=1:=rfl
 simp only[rH,List.append_nil,hlv,Tok.pd,h4] at lk
 have s1:Ans 153 [.int .i64 64] c (a+1) o (fun n:Nat=>.p (.int .i64 n)) (numberP c 64 (a+1)):=number_eq h (a+1) o 64 (by omega)
 cases r1:numberP c 64 (a+1) with
 |bad e q a1=>
  obtain⟨o',s1⟩:=s1.badT r1
  have s1:=fun bx=>s1 bx []
  simp only[List.map_cons,List.map_nil,List.append_nil] at s1
  change Ans 143 [t.pd] c a o (fun x:Nd=>.p x.pd) (.bad e q a1)
  rw[h3] at hw
  refine ans_frzBE h.toOk (fc:=fc143) rfl rfl rfl rfl ⟨o',?_⟩
  apply Exists.intro
  simp only[Tok.pd]
  conv=>lhs;simp[fc143,evKC,evK,evGuard,put,Env.get,Env.keep,entry,Opd.ev,splice,cutAt,indexD,D.asInt?,D.asNat?,u8,binD,strBin,unD,boundsD,sliceD,iaddrD,sub,minmaxD,eqvL,PD.eqv,clsP,cls,clsR,isCl,isW,apartRW,offB,apartWW,clash,insOk,finish,evRes,evRes1,mapO,D.cells,PD.cells,D.refsL,D.refs,D.toksL,D.toks,mkAgg,pures,fillD,fillE,appendD,srcD,D.elems?,D.asPD,Int.toNat_natCast,srcH,srcBH,eqD,D.asPDL,isMapC,ld_succ,ld_zero,st_succ,st_zero,oI,oS,oN,oP,oB,oL,oT,oF,oE,ldr0,ldr1,ldr2,ldr3,ldr4,ldr5,ldr6,str1',str3',mi1,mi2,mi3,mi4,mget,getT,hw,s1,h2,h3,lk,hw1,drP,evRest,behind,pairsOk,panOk,SO.uses,SK.slots,Opd.slots,SK.heapless]
 |ok n a1=>
  have hle:=(numberP_le r1).1
  have hng:=neg_w n (by omega)
  have s1:=fun bx=>s1.okT r1 bx []
  simp only[List.map_cons,List.map_nil,List.append_nil] at s1
  change Ans 143 [t.pd] c a o (fun x:Nd=>.p x.pd) (.ok (leafN 20 [] (-n) t.p) a1)
  rw[h3] at hw
  obtain⟨kc,hkc,hcl⟩:=cls_rd h.toOk (a+1) o a1 o [[.p (.int .i64 t.k),.p (.str [45]),.p (.int .i64 t.p)],[.p (.int .i64 0),.p (.str []),.p (.int .i64 0),.p .nils,.p (.int .i64 0)],mapT (fun n=>.int .i64 n) wordT] 153 57 (.int .i64 64)
  rcases hkc with rfl |rfl
  all_goals
   refine ans_frzE h.toOk (fc:=fc143) rfl rfl rfl rfl ?_
   apply Exists.intro
   simp only[Tok.pd,leaf_cells]
   conv=>lhs;simp[fc143,evKC,evK,evGuard,put,Env.get,Env.keep,entry,Opd.ev,splice,cutAt,indexD,D.asInt?,D.asNat?,u8,binD,strBin,unD,boundsD,sliceD,iaddrD,sub,minmaxD,eqvL,PD.eqv,clsP,cls,clsR,isCl,isW,apartRW,offB,apartWW,clash,insOk,finish,evRes,evRes1,mapO,D.cells,PD.cells,D.refsL,D.refs,D.toksL,D.toks,mkAgg,pures,fillD,fillE,appendD,srcD,D.elems?,D.asPD,Int.toNat_natCast,srcH,srcBH,eqD,D.asPDL,isMapC,ld_succ,ld_zero,st_succ,st_zero,oI,oS,oN,oP,oB,oL,oT,oF,oE,ldr0,ldr1,ldr2,ldr3,ldr4,ldr5,ldr6,str1',str3',mi1,mi2,mi3,mi4,mget,getT,hw,↓hcl,s1,h2,h3,lk,hw1,unD,hng]
theorem pr_minus{c:Rd}(h:c.Sz){o:Nat}{prs:Nat→Nat→PR Nd}(_hp:PrsOk c o prs)(t:Tok)(a:Nat)(ha:a≤c.ts.length)(hw:lookT wordT t.t=none)(h2:(t.k==2)=false)(h3:t.t=[45])(h4:((c.tok (a+1)).k==2)=false):
    Ans 143 [t.pd] c a o (fun x:Nd=>.p x.pd) (wrongP c (a+1)):=by
 have hn:=h.n
 have hw1:=addw1 (a:=a) (by omega)
 have lk:=fun bx=>look_eq h.toOk a o 1 (by omega) bx []
 have wr:=fun bx=>wrong_eq h (a+1) o (by omega) bx []
 have hlv:((1 :Nat):Int)=1:=rfl
 simp only[rH,List.append_nil,hlv,Tok.pd] at lk wr
 unfold wrongP
 rw[h3] at hw
 generalize c.tok (a+1)=y at *
 refine ans_frzBE h.toOk (fc:=fc143) rfl rfl rfl rfl ⟨o,?_⟩
 apply Exists.intro
 simp only[Tok.pd]
 conv=>lhs;simp[fc143,evKC,evK,evGuard,put,Env.get,Env.keep,entry,Opd.ev,splice,cutAt,indexD,D.asInt?,D.asNat?,u8,binD,strBin,unD,boundsD,sliceD,iaddrD,sub,minmaxD,eqvL,PD.eqv,clsP,cls,clsR,isCl,isW,apartRW,offB,apartWW,clash,insOk,finish,evRes,evRes1,mapO,D.cells,PD.cells,D.refsL,D.refs,D.toksL,D.toks,mkAgg,pures,fillD,fillE,appendD,srcD,D.elems?,D.asPD,Int.toNat_natCast,srcH,srcBH,eqD,D.asPDL,isMapC,ld_succ,ld_zero,st_succ,st_zero,oI,oS,oN,oP,oB,oL,oT,oF,oE,ldr0,ldr1,ldr2,ldr3,ldr4,ldr5,ldr6,str1',str3',mi1,mi2,mi3,mi4,mget,getT,hw,wr,h2,h3,lk,h4,hw1]
theorem pr_none{c:Rd}(h:c.Sz){o:Nat}{prs:Nat→Nat→PR Nd}(_hp:PrsOk c o prs)(t:Tok)(a:Nat)(_ha:a≤c.ts.length)(hw:lookT wordT t.t=none)(h2:(t.k==2)=false)(h3:(t.t==[45])=false)(q1:acceptB c a [110,111,110,101]=true):
    Ans 143 [t.pd] c a o (fun x:Nd=>.p x.pd) (noneP c t.p (a+1)):=by
 have hn:=h.n
 have hb1:=accept_lt q1
 have k1:=fun bx=>accept_eq h.toOk a o [110,111,110,101] (by omega) bx []
 simp only[rH,List.append_nil,acceptN,q1,cond_true] at k1
 have s1:Ans 154 [.int .i64 t.p] c (a+1) o (fun x:Nd=>.p x.pd) (noneP c t.p (a+1)):=none_eq h (a+1) o t.p (by omega)
 cases r1:noneP c t.p (a+1) with
 |bad e q a1=>
  obtain⟨o',s1⟩:=s1.badT r1
  have s1:=fun bx=>s1 bx []
  simp only[List.map_cons,List.map_nil,List.append_nil] at s1
  refine ans_frzBE h.toOk (fc:=fc143) rfl rfl rfl rfl ⟨o',?_⟩
  apply Exists.intro
  simp only[Tok.pd]
  conv=>lhs;simp[fc143,evKC,evK,evGuard,put,Env.get,Env.keep,entry,Opd.ev,splice,cutAt,indexD,D.asInt?,D.asNat?,u8,binD,strBin,unD,boundsD,sliceD,iaddrD,sub,minmaxD,eqvL,PD.eqv,clsP,cls,clsR,isCl,isW,apartRW,offB,apartWW,clash,insOk,finish,evRes,evRes1,mapO,D.cells,PD.cells,D.refsL,D.refs,D.toksL,D.toks,mkAgg,pures,fillD,fillE,appendD,srcD,D.elems?,D.asPD,Int.toNat_natCast,srcH,srcBH,eqD,D.asPDL,isMapC,ld_succ,ld_zero,st_succ,st_zero,oI,oS,oN,oP,oB,oL,oT,oF,oE,ldr0,ldr1,ldr2,ldr3,ldr4,ldr5,ldr6,str1',str3',mi1,mi2,mi3,mi4,mget,getT,hw,s1,h2,h3,k1]
 |ok x a2=>
  have s1:=fun bx=>s1.okT r1 bx []
  have hkx:=pone_kids x
  simp only[List.map_cons,List.map_nil,List.append_nil,pd_cells x,Nd.cells] at s1
  refine ans_frzE h.toOk (fc:=fc143) rfl rfl rfl rfl ?_
  apply Exists.intro
  simp only[Tok.pd,pd_cells x,Nd.cells]
  conv=>lhs;simp[fc143,evKC,evK,evGuard,put,Env.get,Env.keep,entry,Opd.ev,splice,cutAt,indexD,D.asInt?,D.asNat?,u8,binD,strBin,unD,boundsD,sliceD,iaddrD,sub,minmaxD,eqvL,PD.eqv,clsP,cls,clsR,isCl,isW,apartRW,offB,apartWW,clash,insOk,finish,evRes,evRes1,mapO,D.cells,PD.cells,D.refsL,D.refs,D.toksL,D.toks,mkAgg,pures,fillD,fillE,appendD,srcD,D.elems?,D.asPD,Int.toNat_natCast,srcH,srcBH,eqD,D.asPDL,isMapC,ld_succ,ld_zero,st_succ,st_zero,oI,oS,oN,oP,oB,oL,oT,oF,oE,ldr0,ldr1,ldr2,ldr3,ldr4,ldr5,ldr6,str1',str3',mi1,mi2,mi3,mi4,mget,getT,hw,s1,h2,h3,k1,hkx]
theorem pr_compr{c:Rd}(h:c.Sz){o:Nat}{prs:Nat→Nat→PR Nd}(hp:PrsOk c o prs)(t:Tok)(a:Nat)(_ha:a≤c.ts.length)(hw:lookT wordT t.t=none)(h2:(t.k==2)=false)(h3:(t.t==[45])=false)(q1:acceptB c a [110,111,110,101]=false)(q2:acceptB c a [123]=true):
    Ans 143 [t.pd] c a o (fun x:Nd=>.p x.pd) ((quantP c prs 15 t.p (a+1)).bind fun n a=>(expectP c a [125]).bind fun _ a=>.ok n a):=by
 have hn:=h.n
 have hb1:=accept_lt q2
 have k1:=fun bx=>accept_eq h.toOk a o [110,111,110,101] (by omega) bx []
 simp only[rH,List.append_nil,acceptN,q1,cond_false] at k1
 have k2:=fun bx=>accept_eq h.toOk a o [123] (by omega) bx []
 simp only[rH,List.append_nil,acceptN,q2,cond_true] at k2
 have s1:Ans 141 [.int .i64 15,.int .i64 t.p] c (a+1) o (fun x:Nd=>.p x.pd) (quantP c prs 15 t.p (a+1)):=quant_eq h hp 15 t.p (a+1) hb1
 cases r1:quantP c prs 15 t.p (a+1) with
 |bad e q a1=>
  obtain⟨o',s1⟩:=s1.badT r1
  have s1:=fun bx=>s1 bx []
  simp only[List.map_cons,List.map_nil,List.append_nil] at s1
  change Ans 143 [t.pd] c a o (fun x:Nd=>.p x.pd) (.bad e q a1)
  refine ans_frzBE h.toOk (fc:=fc143) rfl rfl rfl rfl ⟨o',?_⟩
  apply Exists.intro
  simp only[Tok.pd]
  conv=>lhs;simp[fc143,evKC,evK,evGuard,put,Env.get,Env.keep,entry,Opd.ev,splice,cutAt,indexD,D.asInt?,D.asNat?,u8,binD,strBin,unD,boundsD,sliceD,iaddrD,sub,minmaxD,eqvL,PD.eqv,clsP,cls,clsR,isCl,isW,apartRW,offB,apartWW,clash,insOk,finish,evRes,evRes1,mapO,D.cells,PD.cells,D.refsL,D.refs,D.toksL,D.toks,mkAgg,pures,fillD,fillE,appendD,srcD,D.elems?,D.asPD,Int.toNat_natCast,srcH,srcBH,eqD,D.asPDL,isMapC,ld_succ,ld_zero,st_succ,st_zero,oI,oS,oN,oP,oB,oL,oT,oF,oE,ldr0,ldr1,ldr2,ldr3,ldr4,ldr5,ldr6,str1',str3',mi1,mi2,mi3,mi4,mget,getT,hw,s1,h2,h3,k1,k2]
 |ok x b1=>
  have s1:=fun bx=>s1.okT r1 bx []
  have hkx:=pone_kids x
  have hb2:=quant_bd hp 15 t.p hb1 x b1 r1
  simp only[List.map_cons,List.map_nil,List.append_nil,pd_cells x,Nd.cells] at s1
  simp only[bind_ok]
  have s2:=expect_eq h b1 o [125] (by omega)
  cases r2:expectP c b1 [125] with
  |bad e q b2=>
   obtain⟨o',s2⟩:=s2.badT r2
   have s2:=fun bx=>s2 bx []
   simp only[List.map_cons,List.map_nil,List.append_nil] at s2
   change Ans 143 [t.pd] c a o (fun x:Nd=>.p x.pd) (.bad e q b2)
   refine ans_frzBE h.toOk (fc:=fc143) rfl rfl rfl rfl ⟨o',?_⟩
   apply Exists.intro
   simp only[Tok.pd]
   conv=>lhs;simp[fc143,evKC,evK,evGuard,put,Env.get,Env.keep,entry,Opd.ev,splice,cutAt,indexD,D.asInt?,D.asNat?,u8,binD,strBin,unD,boundsD,sliceD,iaddrD,sub,minmaxD,eqvL,PD.eqv,clsP,cls,clsR,isCl,isW,apartRW,offB,apartWW,clash,insOk,finish,evRes,evRes1,mapO,D.cells,PD.cells,D.refsL,D.refs,D.toksL,D.toks,mkAgg,pures,fillD,fillE,appendD,srcD,D.elems?,D.asPD,Int.toNat_natCast,srcH,srcBH,eqD,D.asPDL,isMapC,ld_succ,ld_zero,st_succ,st_zero,oI,oS,oN,oP,oB,oL,oT,oF,oE,ldr0,ldr1,ldr2,ldr3,ldr4,ldr5,ldr6,str1',str3',mi1,mi2,mi3,mi4,mget,getT,hw,s1,s2,h2,h3,k1,k2,hkx]
  |ok u b2=>
   have s2:=fun bx=>s2.okT r2 bx []
   simp only[List.map_cons,List.map_nil,List.append_nil] at s2
   change Ans 143 [t.pd] c a o (fun x:Nd=>.p x.pd) (.ok x b2)
   refine ans_frzE h.toOk (fc:=fc143) rfl rfl rfl rfl ?_
   apply Exists.intro
   simp only[Tok.pd,pd_cells x,Nd.cells]
   conv=>lhs;simp[fc143,evKC,evK,evGuard,put,Env.get,Env.keep,entry,Opd.ev,splice,cutAt,indexD,D.asInt?,D.asNat?,u8,binD,strBin,unD,boundsD,sliceD,iaddrD,sub,minmaxD,eqvL,PD.eqv,clsP,cls,clsR,isCl,isW,apartRW,offB,apartWW,clash,insOk,finish,evRes,evRes1,mapO,D.cells,PD.cells,D.refsL,D.refs,D.toksL,D.toks,mkAgg,pures,fillD,fillE,appendD,srcD,D.elems?,D.asPD,Int.toNat_natCast,srcH,srcBH,eqD,D.asPDL,isMapC,ld_succ,ld_zero,st_succ,st_zero,oI,oS,oN,oP,oB,oL,oT,oF,oE,ldr0,ldr1,ldr2,ldr3,ldr4,ldr5,ldr6,str1',str3',mi1,mi2,mi3,mi4,mget,getT,hw,s1,s2,h2,h3,k1,k2,hkx]
theorem pr_paren{c:Rd}(h:c.Sz){o:Nat}{prs:Nat→Nat→PR Nd}(hp:PrsOk c o prs)(t:Tok)(a:Nat)(_ha:a≤c.ts.length)(hw:lookT wordT t.t=none)(h2:(t.k==2)=false)(h3:(t.t==[45])=false)(q1:acceptB c a [110,111,110,101]=false)(q2:acceptB c a [123]=false)(q3:acceptB c a [40]=true):
    Ans 143 [t.pd] c a o (fun x:Nd=>.p x.pd) ((prs 1 (a+1)).bind fun n a=>(expectP c a [41]).bind fun _ a=>.ok n a):=by
 have hn:=h.n
 have hb1:=accept_lt q3
 have k1:=fun bx=>accept_eq h.toOk a o [110,111,110,101] (by omega) bx []
 simp only[rH,List.append_nil,acceptN,q1,cond_false] at k1
 have k2:=fun bx=>accept_eq h.toOk a o [123] (by omega) bx []
 simp only[rH,List.append_nil,acceptN,q2,cond_false] at k2
 have k3:=fun bx=>accept_eq h.toOk a o [40] (by omega) bx []
 simp only[rH,List.append_nil,acceptN,q3,cond_true] at k3
 have s1:Ans 80 [.int .i64 1] c (a+1) o (fun x:Nd=>.p x.pd) (prs 1 (a+1)):=hp.ans 1 (a+1) hb1 (by omega)
 cases r1:prs 1 (a+1) with
 |bad e q a1=>
  obtain⟨o',s1⟩:=s1.badT r1
  have s1:=fun bx=>s1 bx []
  simp only[List.map_cons,List.map_nil,List.append_nil] at s1
  change Ans 143 [t.pd] c a o (fun x:Nd=>.p x.pd) (.bad e q a1)
  refine ans_frzBE h.toOk (fc:=fc143) rfl rfl rfl rfl ⟨o',?_⟩
  apply Exists.intro
  simp only[Tok.pd]
  conv=>lhs;simp[fc143,evKC,evK,evGuard,put,Env.get,Env.keep,entry,Opd.ev,splice,cutAt,indexD,D.asInt?,D.asNat?,u8,binD,strBin,unD,boundsD,sliceD,iaddrD,sub,minmaxD,eqvL,PD.eqv,clsP,cls,clsR,isCl,isW,apartRW,offB,apartWW,clash,insOk,finish,evRes,evRes1,mapO,D.cells,PD.cells,D.refsL,D.refs,D.toksL,D.toks,mkAgg,pures,fillD,fillE,appendD,srcD,D.elems?,D.asPD,Int.toNat_natCast,srcH,srcBH,eqD,D.asPDL,isMapC,ld_succ,ld_zero,st_succ,st_zero,oI,oS,oN,oP,oB,oL,oT,oF,oE,ldr0,ldr1,ldr2,ldr3,ldr4,ldr5,ldr6,str1',str3',mi1,mi2,mi3,mi4,mget,getT,hw,s1,h2,h3,k1,k2,k3]
 |ok x b1=>
  have s1:=fun bx=>s1.okT r1 bx []
  have hkx:=pone_kids x
  have hb2:=hp.bd 1 (a+1) hb1 x b1 r1
  simp only[List.map_cons,List.map_nil,List.append_nil,pd_cells x,Nd.cells] at s1
  simp only[bind_ok]
  have s2:=expect_eq h b1 o [41] (by omega)
  cases r2:expectP c b1 [41] with
  |bad e q b2=>
   obtain⟨o',s2⟩:=s2.badT r2
   have s2:=fun bx=>s2 bx []
   simp only[List.map_cons,List.map_nil,List.append_nil] at s2
   change Ans 143 [t.pd] c a o (fun x:Nd=>.p x.pd) (.bad e q b2)
   refine ans_frzBE h.toOk (fc:=fc143) rfl rfl rfl rfl ⟨o',?_⟩
   apply Exists.intro
   simp only[Tok.pd]
   conv=>lhs;simp[fc143,evKC,evK,evGuard,put,Env.get,Env.keep,entry,Opd.ev,splice,cutAt,indexD,D.asInt?,D.asNat?,u8,binD,strBin,unD,boundsD,sliceD,iaddrD,sub,minmaxD,eqvL,PD.eqv,clsP,cls,clsR,isCl,isW,apartRW,offB,apartWW,clash,insOk,finish,evRes,evRes1,mapO,D.cells,PD.cells,D.refsL,D.refs,D.toksL,D.toks,mkAgg,pures,fillD,fillE,appendD,srcD,D.elems?,D.asPD,Int.toNat_natCast,srcH,srcBH,eqD,D.asPDL,isMapC,ld_succ,ld_zero,st_succ,st_zero,oI,oS,oN,oP,oB,oL,oT,oF,oE,ldr0,ldr1,ldr2,ldr3,ldr4,ldr5,ldr6,str1',str3',mi1,mi2,mi3,mi4,mget,getT,hw,s1,s2,h2,h3,k1,k2,k3,hkx]
  |ok u b2=>
   have s2:=fun bx=>s2.okT r2 bx []
   simp only[List.map_cons,List.map_nil,List.append_nil] at s2
   change Ans 143 [t.pd] c a o (fun x:Nd=>.p x.pd) (.ok x b2)
   refine ans_frzE h.toOk (fc:=fc143) rfl rfl rfl rfl ?_
   apply Exists.intro
   simp only[Tok.pd,pd_cells x,Nd.cells]
   conv=>lhs;simp[fc143,evKC,evK,evGuard,put,Env.get,Env.keep,entry,Opd.ev,splice,cutAt,indexD,D.asInt?,D.asNat?,u8,binD,strBin,unD,boundsD,sliceD,iaddrD,sub,minmaxD,eqvL,PD.eqv,clsP,cls,clsR,isCl,isW,apartRW,offB,apartWW,clash,insOk,finish,evRes,evRes1,mapO,D.cells,PD.cells,D.refsL,D.refs,D.toksL,D.toks,mkAgg,pures,fillD,fillE,appendD,srcD,D.elems?,D.asPD,Int.toNat_natCast,srcH,srcBH,eqD,D.asPDL,isMapC,ld_succ,ld_zero,st_succ,st_zero,oI,oS,oN,oP,oB,oL,oT,oF,oE,ldr0,ldr1,ldr2,ldr3,ldr4,ldr5,ldr6,str1',str3',mi1,mi2,mi3,mi4,mget,getT,hw,s1,s2,h2,h3,k1,k2,k3,hkx]
theorem pr_name{c:Rd}(h:c.Sz){o:Nat}{prs:Nat→Nat→PR Nd}(hp:PrsOk c o prs)(t:Tok)(a:Nat)(ha:a≤c.ts.length)(hw:lookT wordT t.t=none)(h2:(t.k==2)=false)(h3:(t.t==[45])=false)(q1:acceptB c a [110,111,110,101]=false)(q2:acceptB c a [123]=false)(q3:acceptB c a [40]=false):
    Ans 143 [t.pd] c a o (fun x:Nd=>.p x.pd) ((nameP c a).bind fun _ a=>if acceptB c a [91] then argsP c prs t (c.ts.length+1) [] (a+1) else .ok (leafN 1 t.t 0 t.p) a):=by
 have hn:=h.n
 have k1:=fun bx=>accept_eq h.toOk a o [110,111,110,101] (by omega) bx []
 simp only[rH,List.append_nil,acceptN,q1,cond_false] at k1
 have k2:=fun bx=>accept_eq h.toOk a o [123] (by omega) bx []
 simp only[rH,List.append_nil,acceptN,q2,cond_false] at k2
 have k3:=fun bx=>accept_eq h.toOk a o [40] (by omega) bx []
 simp only[rH,List.append_nil,acceptN,q3,cond_false] at k3
 have s1:=rname_eq h a o (by omega) (tok_t h a)
 cases r1:nameP c a with
 |bad e q a1=>
  obtain⟨o',s1⟩:=s1.badT r1
  have s1:=fun bx=>s1 bx []
  simp only[List.map_nil,List.append_nil] at s1
  change Ans 143 [t.pd] c a o (fun x:Nd=>.p x.pd) (.bad e q a1)
  refine ans_frzBE h.toOk (fc:=fc143) rfl rfl rfl rfl ⟨o',?_⟩
  apply Exists.intro
  simp only[Tok.pd]
  conv=>lhs;simp[fc143,evKC,evK,evGuard,put,Env.get,Env.keep,entry,Opd.ev,splice,cutAt,indexD,D.asInt?,D.asNat?,u8,binD,strBin,unD,boundsD,sliceD,iaddrD,sub,minmaxD,eqvL,PD.eqv,clsP,cls,clsR,isCl,isW,apartRW,offB,apartWW,clash,insOk,finish,evRes,evRes1,mapO,D.cells,PD.cells,D.refsL,D.refs,D.toksL,D.toks,mkAgg,pures,fillD,fillE,appendD,srcD,D.elems?,D.asPD,Int.toNat_natCast,srcH,srcBH,eqD,D.asPDL,isMapC,ld_succ,ld_zero,st_succ,st_zero,oI,oS,oN,oP,oB,oL,oT,oF,oE,ldr0,ldr1,ldr2,ldr3,ldr4,ldr5,ldr6,str1',str3',mi1,mi2,mi3,mi4,mget,getT,hw,s1,h2,h3,k1,k2,k3]
 |ok u b1=>
  have s1:=fun bx=>s1.okT r1 bx []
  have hb1:=name_bd c a u b1 r1
  simp only[List.map_nil,List.append_nil,Tok.pd] at s1
  simp only[bind_ok]
  have k4:=fun bx=>accept_eq h.toOk b1 o [91] (by omega) bx []
  cases q4:acceptB c b1 [91] with
  |false=>
   simp only[rH,List.append_nil,acceptN,q4,cond_false] at k4
   simp only[Bool.false_eq_true,if_false]
   refine ans_frzE h.toOk (fc:=fc143) rfl rfl rfl rfl ?_
   apply Exists.intro
   simp only[Tok.pd,leaf_cells]
   conv=>lhs;simp[fc143,evKC,evK,evGuard,put,Env.get,Env.keep,entry,Opd.ev,splice,cutAt,indexD,D.asInt?,D.asNat?,u8,binD,strBin,unD,boundsD,sliceD,iaddrD,sub,minmaxD,eqvL,PD.eqv,clsP,cls,clsR,isCl,isW,apartRW,offB,apartWW,clash,insOk,finish,evRes,evRes1,mapO,D.cells,PD.cells,D.refsL,D.refs,D.toksL,D.toks,mkAgg,pures,fillD,fillE,appendD,srcD,D.elems?,D.asPD,Int.toNat_natCast,srcH,srcBH,eqD,D.asPDL,isMapC,ld_succ,ld_zero,st_succ,st_zero,oI,oS,oN,oP,oB,oL,oT,oF,oE,ldr0,ldr1,ldr2,ldr3,ldr4,ldr5,ldr6,str1',str3',mi1,mi2,mi3,mi4,mget,getT,hw,s1,h2,h3,k1,k2,k3,k4]
  |true=>
   simp only[rH,List.append_nil,acceptN,q4,cond_true] at k4
   simp only[if_true]
   have hb2:=accept_lt q4
   have s2:=call_eq h hp t (b1+1) hb2
   cases r2:argsP c prs t (c.ts.length+1) [] (b1+1) with
   |bad e q b2=>
    obtain⟨o',s2⟩:=s2.badT r2
    have s2:=fun bx=>s2 bx []
    simp only[List.map_cons,List.map_nil,List.append_nil,Tok.pd] at s2
    refine ans_frzBE h.toOk (fc:=fc143) rfl rfl rfl rfl ⟨o',?_⟩
    apply Exists.intro
    simp only[Tok.pd]
    conv=>lhs;simp[fc143,evKC,evK,evGuard,put,Env.get,Env.keep,entry,Opd.ev,splice,cutAt,indexD,D.asInt?,D.asNat?,u8,binD,strBin,unD,boundsD,sliceD,iaddrD,sub,minmaxD,eqvL,PD.eqv,clsP,cls,clsR,isCl,isW,apartRW,offB,apartWW,clash,insOk,finish,evRes,evRes1,mapO,D.cells,PD.cells,D.refsL,D.refs,D.toksL,D.toks,mkAgg,pures,fillD,fillE,appendD,srcD,D.elems?,D.asPD,Int.toNat_natCast,srcH,srcBH,eqD,D.asPDL,isMapC,ld_succ,ld_zero,st_succ,st_zero,oI,oS,oN,oP,oB,oL,oT,oF,oE,ldr0,ldr1,ldr2,ldr3,ldr4,ldr5,ldr6,str1',str3',mi1,mi2,mi3,mi4,mget,getT,hw,s1,s2,h2,h3,k1,k2,k3,k4]
   |ok x b2=>
    have s2:=fun bx=>s2.okT r2 bx []
    have hkx:=pone_kids x
    simp only[List.map_cons,List.map_nil,List.append_nil,Tok.pd,pd_cells x,Nd.cells] at s2
    refine ans_frzE h.toOk (fc:=fc143) rfl rfl rfl rfl ?_
    apply Exists.intro
    simp only[Tok.pd,pd_cells x,Nd.cells]
    conv=>lhs;simp[fc143,evKC,evK,evGuard,put,Env.get,Env.keep,entry,Opd.ev,splice,cutAt,indexD,D.asInt?,D.asNat?,u8,binD,strBin,unD,boundsD,sliceD,iaddrD,sub,minmaxD,eqvL,PD.eqv,clsP,cls,clsR,isCl,isW,apartRW,offB,apartWW,clash,insOk,finish,evRes,evRes1,mapO,D.cells,PD.cells,D.refsL,D.refs,D.toksL,D.toks,mkAgg,pures,fillD,fillE,appendD,srcD,D.elems?,D.asPD,Int.toNat_natCast,srcH,srcBH,eqD,D.asPDL,isMapC,ld_succ,ld_zero,st_succ,st_zero,oI,oS,oN,oP,oB,oL,oT,oF,oE,ldr0,ldr1,ldr2,ldr3,ldr4,ldr5,ldr6,str1',str3',mi1,mi2,mi3,mi4,mget,getT,hw,s1,s2,h2,h3,k1,k2,k3,k4,hkx]
theorem acc_end{c:Rd}{a:Nat}(h0:(c.tok a).k=0)(s:List UInt8):acceptB c a s=false:=by simp[acceptB,h0]
theorem pr_end{c:Rd}(h:c.Sz){o:Nat}(t:Tok)(a:Nat)(ha:a≤c.ts.length)(hw:lookT wordT t.t=none)(h0:(c.tok a).k=0)(h2:(t.k==2)=false)(h3:(t.t==[45])=false):
    Ans 143 [t.pd] c a o (fun x:Nd=>.p x.pd) (wrongP c a):=by
 have hn:=h.n
 have q1:=acc_end h0 [110,111,110,101]
 have q2:=acc_end h0 [123]
 have q3:=acc_end h0 [40]
 have k1:=fun bx=>accept_eq h.toOk a o [110,111,110,101] (by omega) bx []
 simp only[rH,List.append_nil,acceptN,q1,cond_false] at k1
 have k2:=fun bx=>accept_eq h.toOk a o [123] (by omega) bx []
 simp only[rH,List.append_nil,acceptN,q2,cond_false] at k2
 have k3:=fun bx=>accept_eq h.toOk a o [40] (by omega) bx []
 simp only[rH,List.append_nil,acceptN,q3,cond_false] at k3
 have s1:=rname_eq h a o (by omega) (tok_t h a)
 have r1:nameP c a=wrongP c a:=by simp[nameP,namedB,h0]
 unfold wrongP at r1⊢
 obtain⟨o',s1⟩:=s1.badT r1
 have s1:=fun bx=>s1 bx []
 simp only[List.map_nil,List.append_nil] at s1
 refine ans_frzBE h.toOk (fc:=fc143) rfl rfl rfl rfl ⟨o',?_⟩
 apply Exists.intro
 simp only[Tok.pd]
 conv=>lhs;simp[fc143,evKC,evK,evGuard,put,Env.get,Env.keep,entry,Opd.ev,splice,cutAt,indexD,D.asInt?,D.asNat?,u8,binD,strBin,unD,boundsD,sliceD,iaddrD,sub,minmaxD,eqvL,PD.eqv,clsP,cls,clsR,isCl,isW,apartRW,offB,apartWW,clash,insOk,finish,evRes,evRes1,mapO,D.cells,PD.cells,D.refsL,D.refs,D.toksL,D.toks,mkAgg,pures,fillD,fillE,appendD,srcD,D.elems?,D.asPD,Int.toNat_natCast,srcH,srcBH,eqD,D.asPDL,isMapC,ld_succ,ld_zero,st_succ,st_zero,oI,oS,oN,oP,oB,oL,oT,oF,oE,ldr0,ldr1,ldr2,ldr3,ldr4,ldr5,ldr6,str1',str3',mi1,mi2,mi3,mi4,mget,getT,hw,s1,h2,h3,k1,k2,k3]
theorem primary_eq{c:Rd}(h:c.Sz){o:Nat}{prs:Nat→Nat→PR Nd}(hp:PrsOk c o prs)(t:Tok)(a:Nat)(ha:a≤c.ts.length):
    Ans 143 [t.pd] c a o (fun x:Nd=>.p x.pd) (primaryP c prs t a):=by
 unfold primaryP
 cases hw:wordOp t.t with
 |some op=>exact pr_word h o t a ha hw
 |none=>
  rw[←wordT_op] at hw
  dsimp only
  by_cases h2:t.k=2
  ·rw[if_pos h2];exact pr_num h hp t a ha hw h2
  rw[if_neg h2]
  have h2:(t.k==2)=false:=by simp[h2]
  by_cases h3:t.t=[45]
  ·by_cases h4:(c.tok (a+1)).k=2
   ·rw[if_pos ⟨h3,h4⟩];exact pr_neg h hp t a ha hw h2 h3 h4
   ·rw[if_neg (fun q=>h4 q.2),if_pos h3];have h4:((c.tok (a+1)).k==2)=false:=by simp[h4]
    exact pr_minus h hp t a ha hw h2 h3 h4
  rw[if_neg (fun q=>h3 q.1),if_neg h3]
  have h3:(t.t==[45])=false:=by simp[h3]
  cases q1:acceptB c a [110,111,110,101] with
  |true=>rw[if_pos rfl];exact pr_none h hp t a ha hw h2 h3 q1
  |false=>
   rw[if_neg (by simp)]
   cases q2:acceptB c a [123] with
   |true=>rw[if_pos rfl];exact pr_compr h hp t a ha hw h2 h3 q1 q2
   |false=>
    rw[if_neg (by simp)]
    cases q3:acceptB c a [40] with
    |true=>rw[if_pos rfl];exact pr_paren h hp t a ha hw h2 h3 q1 q2 q3
    |false=>rw[if_neg (by simp)];exact pr_name h hp t a ha hw h2 h3 q1 q2 q3
end Go.Proofs.YtalgjkpkkdljaaaGreatDoor
namespace Go.Proofs.YtalgjkpkkdljaaaGreatDoor
open Go.Vs
theorem cls_rdV{c:Rd}(h:c.Ok)(a o a' o':Nat)(bx:List (List D))(g i j:Nat)(y:PD):∃k:Nat×Nat,(k=(1,0)∨k=(4000000012,0))∧∀env:Env,env.get i= .box 0 0→env.get j= .p y→
    clsP env ⟨rC c a o::tabB::tabU::tabS::bx,c.tk⟩ ⟨rC c a' o'::tabB::tabU::tabS::bx,c.tk⟩ (.call (.c (.fn g [] [])) [.t i,.t j])=k:=by
 have hr:=reach_rH h a o bx []
 simp only[rH,List.append_nil] at hr
 refine⟨if hpEq ⟨rC c a o::tabB::tabU::tabS::bx,c.tk⟩ ⟨rC c a' o'::tabB::tabU::tabS::bx,c.tk⟩ then(1,0) else(4000000012,0),?_,fun env he hj=>?_⟩
 ·cases hpEq ⟨rC c a o::tabB::tabU::tabS::bx,c.tk⟩ ⟨rC c a' o'::tabB::tabU::tabS::bx,c.tk⟩<;>simp
 ·have e1:cls env (.call (.c (.fn g [] [])) [.t i,.t j])=2:=by simp[cls,Opd.ev,he,hj,D.refsL,D.refs]
  have e2:callIds env ⟨rC c a o::tabB::tabU::tabS::bx,c.tk⟩ (.call (.c (.fn g [] [])) [.t i,.t j])=[0,1,2,3]:=by
   simp only[callIds,Opd.ev,List.nil_append,List.append_nil,List.map_cons,List.map_nil,he,hj]
   exact hr
  unfold clsP
  rw[e1,e2]
  simp[isCl,bnd]
theorem uget{b0 b1 b3:List D}{bx:List (List D)}{tk:List Nat}(s:List UInt8):mapgetD 2 (.agg [.int .i64 0,.int .i64 0]) true (.mapr 2) (.p (.str s)) ⟨b0::b1::tabU::b3::bx,tk⟩=some (getT Pre.pd (.agg [.int .i64 0,.int .i64 0]) preT s):=get_mapT rfl s
theorem preT_lv{s:List UInt8}{o:Pre}(h:lookT preT s=some o):o.lv≤20:=by
 have :∀(t:List (List UInt8×Pre)),(∀e∈t,e.2.lv≤20)→lookT t s=some o→o.lv≤20:=by
  intro t
  induction t with
  |nil=>intro _ h;cases h
  |cons e t ih=>
   intro hall h
   unfold lookT at h
   split at h
   ·cases h;exact hall e (by simp)
   ·exact ih (fun x hx=>hall x (by simp[hx])) h
 exact this preT (by decide) h
theorem op_all{c:Rd}(h:c.Sz){o:Nat}{prs:Nat→Nat→PR Nd}(hp:PrsOk c o prs)(a:Nat)(_ha:a≤c.ts.length)(hb:a+1≤c.ts.length)(h1:((c.tok a).k==0)=false)(h2:(c.tok a).t=[97,108,108]):
    Ans 127 [] c a o (fun x:Nd=>.p x.pd) (quantP c prs 45 (c.tok a).p (a+1)):=by
 have hn:=h.n
 have lk:=fun bx=>look_at h.toOk a o (by omega) bx []
 have lk1:=fun bx=>look_eq h.toOk a o 1 (by omega) bx []
 have lk2:=fun bx=>look_eq h.toOk a o 2 (by omega) bx []
 have nm:=named_eq (c.tok (a+1)) (tok_t h (a+1))
 have hw1:=addw1 (a:=a) (by omega)
 have hlv:((1 :Nat):Int)=1:=rfl
 have hlv2:((2 :Nat):Int)=2:=rfl
 simp only[rH,List.append_nil,hlv,hlv2,Tok.pd] at lk lk1 lk2
 have s1:Ans 141 [.int .i64 45,.int .i64 (c.tok a).p] c (a+1) o (fun x:Nd=>.p x.pd) (quantP c prs 45 (c.tok a).p (a+1)):=quant_eq h hp 45 (c.tok a).p (a+1) hb
 cases r1:quantP c prs 45 (c.tok a).p (a+1) with
 |bad e q a1=>
  obtain⟨o',s1⟩:=s1.badT r1
  have s1:=fun bx=>s1 bx []
  simp only[List.map_cons,List.map_nil,List.append_nil] at s1
  generalize c.tok a=x at *
  refine ans_frzBE h.toOk (fc:=fc127) rfl rfl rfl rfl ⟨o',?_⟩
  apply Exists.intro
  conv=>lhs;simp[fc127,evKC,evK,evGuard,put,Env.get,Env.keep,entry,Opd.ev,splice,cutAt,indexD,D.asInt?,D.asNat?,u8,binD,strBin,unD,boundsD,sliceD,iaddrD,sub,minmaxD,eqvL,PD.eqv,clsP,cls,clsR,isCl,isW,apartRW,offB,apartWW,clash,insOk,finish,evRes,evRes1,mapO,D.cells,PD.cells,D.refsL,D.refs,D.toksL,D.toks,mkAgg,pures,fillD,fillE,appendD,srcD,D.elems?,D.asPD,Int.toNat_natCast,srcH,srcBH,eqD,D.asPDL,isMapC,ld_succ,ld_zero,st_succ,st_zero,oI,oS,oN,oP,oB,oL,oT,oF,oE,ldr0,ldr1,ldr2,ldr3,ldr4,ldr5,ldr6,str1',str3',lk,s1,hw1,h1,h2,bne]
 |ok x b1=>
  have s1:=fun bx=>s1.okT r1 bx []
  have hkx:=pone_kids x
  simp only[List.map_cons,List.map_nil,List.append_nil,pd_cells x,Nd.cells] at s1
  generalize c.tok a=y at *
  refine ans_frzE h.toOk (fc:=fc127) rfl rfl rfl rfl ?_
  apply Exists.intro
  simp only[pd_cells x,Nd.cells]
  conv=>lhs;simp[fc127,evKC,evK,evGuard,put,Env.get,Env.keep,entry,Opd.ev,splice,cutAt,indexD,D.asInt?,D.asNat?,u8,binD,strBin,unD,boundsD,sliceD,iaddrD,sub,minmaxD,eqvL,PD.eqv,clsP,cls,clsR,isCl,isW,apartRW,offB,apartWW,clash,insOk,finish,evRes,evRes1,mapO,D.cells,PD.cells,D.refsL,D.refs,D.toksL,D.toks,mkAgg,pures,fillD,fillE,appendD,srcD,D.elems?,D.asPD,Int.toNat_natCast,srcH,srcBH,eqD,D.asPDL,isMapC,ld_succ,ld_zero,st_succ,st_zero,oI,oS,oN,oP,oB,oL,oT,oF,oE,ldr0,ldr1,ldr2,ldr3,ldr4,ldr5,ldr6,str1',str3',lk,s1,hw1,hkx,h1,h2,bne]
theorem op_some{c:Rd}(h:c.Sz){o:Nat}{prs:Nat→Nat→PR Nd}(hp:PrsOk c o prs)(a:Nat)(_ha:a≤c.ts.length)(hb:a+1≤c.ts.length)(h2:(c.tok a).t=[115,111,109,101])(h3:namedB (c.tok (a+1))=true)(h4:(c.tok (a+2)).t=[58]):
    Ans 127 [] c a o (fun x:Nd=>.p x.pd) (quantP c prs 46 (c.tok a).p (a+1)):=by
 have hn:=h.n
 have lk:=fun bx=>look_at h.toOk a o (by omega) bx []
 have lk1:=fun bx=>look_eq h.toOk a o 1 (by omega) bx []
 have lk2:=fun bx=>look_eq h.toOk a o 2 (by omega) bx []
 have nm:=named_eq (c.tok (a+1)) (tok_t h (a+1))
 have hw1:=addw1 (a:=a) (by omega)
 have hlv:((1 :Nat):Int)=1:=rfl
 have hlv2:((2 :Nat):Int)=2:=rfl
 simp only[rH,List.append_nil,hlv,hlv2,Tok.pd] at lk lk1 lk2
 have s1:Ans 141 [.int .i64 46,.int .i64 (c.tok a).p] c (a+1) o (fun x:Nd=>.p x.pd) (quantP c prs 46 (c.tok a).p (a+1)):=quant_eq h hp 46 (c.tok a).p (a+1) hb
 cases r1:quantP c prs 46 (c.tok a).p (a+1) with
 |bad e q a1=>
  obtain⟨o',s1⟩:=s1.badT r1
  have s1:=fun bx=>s1 bx []
  simp only[List.map_cons,List.map_nil,List.append_nil] at s1
  generalize c.tok a=x at *
  cases hk:(x.k !=0)
  all_goals
   refine ans_frzBE h.toOk (fc:=fc127) rfl rfl rfl rfl ⟨o',?_⟩
   apply Exists.intro
   conv=>lhs;simp[fc127,evKC,evK,evGuard,put,Env.get,Env.keep,entry,Opd.ev,splice,cutAt,indexD,D.asInt?,D.asNat?,u8,binD,strBin,unD,boundsD,sliceD,iaddrD,sub,minmaxD,eqvL,PD.eqv,clsP,cls,clsR,isCl,isW,apartRW,offB,apartWW,clash,insOk,finish,evRes,evRes1,mapO,D.cells,PD.cells,D.refsL,D.refs,D.toksL,D.toks,mkAgg,pures,fillD,fillE,appendD,srcD,D.elems?,D.asPD,Int.toNat_natCast,srcH,srcBH,eqD,D.asPDL,isMapC,ld_succ,ld_zero,st_succ,st_zero,oI,oS,oN,oP,oB,oL,oT,oF,oE,ldr0,ldr1,ldr2,ldr3,ldr4,ldr5,ldr6,str1',str3',lk,s1,hw1,hk,h2,h3,h4,lk1,lk2,nm]
 |ok x b1=>
  have s1:=fun bx=>s1.okT r1 bx []
  have hkx:=pone_kids x
  simp only[List.map_cons,List.map_nil,List.append_nil,pd_cells x,Nd.cells] at s1
  generalize c.tok a=y at *
  cases hk:(y.k !=0)
  all_goals
   refine ans_frzE h.toOk (fc:=fc127) rfl rfl rfl rfl ?_
   apply Exists.intro
   simp only[pd_cells x,Nd.cells]
   conv=>lhs;simp[fc127,evKC,evK,evGuard,put,Env.get,Env.keep,entry,Opd.ev,splice,cutAt,indexD,D.asInt?,D.asNat?,u8,binD,strBin,unD,boundsD,sliceD,iaddrD,sub,minmaxD,eqvL,PD.eqv,clsP,cls,clsR,isCl,isW,apartRW,offB,apartWW,clash,insOk,finish,evRes,evRes1,mapO,D.cells,PD.cells,D.refsL,D.refs,D.toksL,D.toks,mkAgg,pures,fillD,fillE,appendD,srcD,D.elems?,D.asPD,Int.toNat_natCast,srcH,srcBH,eqD,D.asPDL,isMapC,ld_succ,ld_zero,st_succ,st_zero,oI,oS,oN,oP,oB,oL,oT,oF,oE,ldr0,ldr1,ldr2,ldr3,ldr4,ldr5,ldr6,str1',str3',lk,s1,hw1,hkx,hk,h2,h3,h4,lk1,lk2,nm]
def NotQ(c:Rd)(a:Nat):Prop:=((((c.tok a).k==0)=false∧((c.tok a).t==[97,108,108])=false)∨((c.tok a).k==0)=true)∧((((c.tok a).t==[115,111,109,101])=true∧namedB (c.tok (a+1))=false)∨(((c.tok a).t==[115,111,109,101])=true∧namedB (c.tok (a+1))=true∧((c.tok (a+2)).t==[58])=false)∨((c.tok a).t==[115,111,109,101])=false)
theorem not_q{c:Rd}{a:Nat}(h1:¬((c.tok a).k≠0∧(c.tok a).t=[97,108,108]))(h2:¬((c.tok a).t=[115,111,109,101]∧namedB (c.tok (a+1))=true∧(c.tok (a+2)).t=[58])):NotQ c a:=by
 refine⟨?_,?_⟩
 ·by_cases k:(c.tok a).k=0
  ·exact .inr (by simp[k])
  ·exact .inl ⟨by simp[k],by simp;exact fun q=>h1 ⟨k,q⟩⟩
 ·by_cases s:(c.tok a).t=[115,111,109,101]
  ·cases q:namedB (c.tok (a+1)) with
   |false=>exact .inl ⟨by simp[s],rfl⟩
   |true=>exact .inr (.inl ⟨by simp[s],rfl,by simp;exact fun r=>h2 ⟨s,q,r⟩⟩)
  ·exact .inr (.inr (by simp[s]))
set_option maxHeartbeats 1000000 in
theorem op_pre{c:Rd}(h:c.Sz){o:Nat}{prs:Nat→Nat→PR Nd}(hp:PrsOk c o prs)(a:Nat)(_ha:a≤c.ts.length)(hq:NotQ c a){p:Pre}(hl:lookT preT (c.tok a).t=some p)(h0:((c.tok a).k==0)=false)(hb:a+1≤c.ts.length):
    Ans 127 [] c a o (fun x:Nd=>.p x.pd) ((prs p.lv (a+1)).bind fun x a'=>nodeP (kidsN p.op [] [x] (c.tok a).p) (c.tok a).p a'):=by
 have hn:=h.n
 have lk:=fun bx=>look_at h.toOk a o (by omega) bx []
 have lk1:=fun bx=>look_eq h.toOk a o 1 (by omega) bx []
 have lk2:=fun bx=>look_eq h.toOk a o 2 (by omega) bx []
 have nm:=named_eq (c.tok (a+1)) (tok_t h (a+1))
 have hw1:=addw1 (a:=a) (by omega)
 have hlv:((1 :Nat):Int)=1:=rfl
 have hlv2:((2 :Nat):Int)=2:=rfl
 simp only[rH,List.append_nil,hlv,hlv2,Tok.pd] at lk lk1 lk2
 have hlv:=preT_lv hl
 have s1:=hp.ans p.lv (a+1) hb hlv
 have hk0:((c.tok a).k !=0)=true:=by simp[bne,h0]
 obtain⟨h1,h2⟩:=hq
 have hall:((c.tok a).t==[97,108,108])=false:=by
  rcases h1 with⟨_,q⟩ |q
  ·exact q
  ·rw[q] at h0;cases h0
 cases r1:prs p.lv (a+1) with
 |bad e q a1=>
  obtain⟨o',s1⟩:=s1.badT r1
  have s1:=fun bx=>s1 bx []
  simp only[List.map_cons,List.map_nil,List.append_nil] at s1
  change Ans 127 [] c a o (fun x:Nd=>.p x.pd) (.bad e q a1)
  refine ans_frzBE h.toOk (fc:=fc127) rfl rfl rfl rfl ?_
  generalize c.tok a=t at *
  rcases h2 with⟨h2,h2'⟩ |⟨h2,h2',h2''⟩ |h2
  all_goals
   refine⟨o',?_⟩
   apply Exists.intro
   first
    |(conv=>lhs;simp[fc127,evKC,evK,evGuard,put,Env.get,Env.keep,entry,Opd.ev,splice,cutAt,indexD,D.asInt?,D.asNat?,u8,binD,strBin,unD,boundsD,sliceD,iaddrD,sub,minmaxD,eqvL,PD.eqv,clsP,cls,clsR,isCl,isW,apartRW,offB,apartWW,clash,insOk,finish,evRes,evRes1,mapO,D.cells,PD.cells,D.refsL,D.refs,D.toksL,D.toks,mkAgg,pures,fillD,fillE,appendD,srcD,D.elems?,D.asPD,Int.toNat_natCast,srcH,srcBH,eqD,D.asPDL,isMapC,ld_succ,ld_zero,st_succ,st_zero,oI,oS,oN,oP,oB,oL,oT,oF,oE,ldr0,ldr1,ldr2,ldr3,ldr4,ldr5,ldr6,str1',str3',lk,s1,hw1,hk0,hall,h2,h2',h2'',lk1,lk2,nm,uget,getT,Pre.pd,hl,drP,evRest,behind,pairsOk,panOk,SO.uses,SK.slots,Opd.slots,SK.heapless])
    |(conv=>lhs;simp[fc127,evKC,evK,evGuard,put,Env.get,Env.keep,entry,Opd.ev,splice,cutAt,indexD,D.asInt?,D.asNat?,u8,binD,strBin,unD,boundsD,sliceD,iaddrD,sub,minmaxD,eqvL,PD.eqv,clsP,cls,clsR,isCl,isW,apartRW,offB,apartWW,clash,insOk,finish,evRes,evRes1,mapO,D.cells,PD.cells,D.refsL,D.refs,D.toksL,D.toks,mkAgg,pures,fillD,fillE,appendD,srcD,D.elems?,D.asPD,Int.toNat_natCast,srcH,srcBH,eqD,D.asPDL,isMapC,ld_succ,ld_zero,st_succ,st_zero,oI,oS,oN,oP,oB,oL,oT,oF,oE,ldr0,ldr1,ldr2,ldr3,ldr4,ldr5,ldr6,str1',str3',lk,s1,hw1,hk0,hall,h2,h2',lk1,lk2,nm,uget,getT,Pre.pd,hl,drP,evRest,behind,pairsOk,panOk,SO.uses,SK.slots,Opd.slots,SK.heapless])
    |(conv=>lhs;simp[fc127,evKC,evK,evGuard,put,Env.get,Env.keep,entry,Opd.ev,splice,cutAt,indexD,D.asInt?,D.asNat?,u8,binD,strBin,unD,boundsD,sliceD,iaddrD,sub,minmaxD,eqvL,PD.eqv,clsP,cls,clsR,isCl,isW,apartRW,offB,apartWW,clash,insOk,finish,evRes,evRes1,mapO,D.cells,PD.cells,D.refsL,D.refs,D.toksL,D.toks,mkAgg,pures,fillD,fillE,appendD,srcD,D.elems?,D.asPD,Int.toNat_natCast,srcH,srcBH,eqD,D.asPDL,isMapC,ld_succ,ld_zero,st_succ,st_zero,oI,oS,oN,oP,oB,oL,oT,oF,oE,ldr0,ldr1,ldr2,ldr3,ldr4,ldr5,ldr6,str1',str3',lk,s1,hw1,hk0,hall,h2,lk1,lk2,nm,uget,getT,Pre.pd,hl,drP,evRest,behind,pairsOk,panOk,SO.uses,SK.slots,Opd.slots,SK.heapless])
 |ok x b1=>
  have s1:=fun bx=>s1.okT r1 bx []
  have hkx:=pone_kids x
  simp only[List.map_cons,List.map_nil,List.append_nil,pd_cells x,Nd.cells] at s1
  simp only[bind_ok]
  have nd:=fun bx=>node_eqF h.toOk b1 o p.op [] [x] (c.tok a).p (by simp) (by simp) bx []
  simp only[rH,List.append_nil,litN,List.map_nil,List.map_cons,pd_cells x,Nd.cells] at nd
  obtain⟨kc,hkc,hcl⟩:=cls_rdV h.toOk (a+1) o b1 o [[.p (.int .i64 0),.p (.str []),.p (.int .i64 0),.p .nils,.p (.int .i64 0)],[.p (.int .i64 (c.tok a).k),.p (.str (c.tok a).t),.p (.int .i64 (c.tok a).p)],[.p (.int .i64 p.lv),.p (.int .i64 p.op)]] 80 80 82 (.int .i64 p.lv)
  unfold nodeP
  have kk:fitsB (kidsN p.op [] [x] (c.tok a).p).op (kidsN p.op [] [x] (c.tok a).p).ks=fitsB p.op [x]:=rfl
  rw[kk]
  have kp:=kids_pd p.op [] [x] (c.tok a).p (by simp)
  simp only[List.map_nil,List.map_cons,pd_cells x,Nd.cells] at kp
  cases hf:fitsB p.op [x] with
  |true=>
   simp only[hf,if_true,kp] at nd
   refine ans_frzE h.toOk (fc:=fc127) rfl rfl rfl rfl ?_
   rw[kp]
   generalize c.tok a=t at *
   rcases hkc with rfl |rfl<;>rcases h2 with⟨h2,h2'⟩ |⟨h2,h2',h2''⟩ |h2
   all_goals
    apply Exists.intro
    first
     |(conv=>lhs;simp[fc127,evKC,evK,evGuard,put,Env.get,Env.keep,entry,Opd.ev,splice,cutAt,indexD,D.asInt?,D.asNat?,u8,binD,strBin,unD,boundsD,sliceD,iaddrD,sub,minmaxD,eqvL,PD.eqv,clsP,cls,clsR,isCl,isW,apartRW,offB,apartWW,clash,insOk,finish,evRes,evRes1,mapO,D.cells,PD.cells,D.refsL,D.refs,D.toksL,D.toks,mkAgg,pures,fillD,fillE,appendD,srcD,D.elems?,D.asPD,Int.toNat_natCast,srcH,srcBH,eqD,D.asPDL,isMapC,ld_succ,ld_zero,st_succ,st_zero,oI,oS,oN,oP,oB,oL,oT,oF,oE,ldr0,ldr1,ldr2,ldr3,ldr4,ldr5,ldr6,str1',str3',lk,↓hcl,s1,hw1,hk0,hall,h2,h2',h2'',lk1,lk2,nm,uget,getT,Pre.pd,hl,hkx,nd])
     |(conv=>lhs;simp[fc127,evKC,evK,evGuard,put,Env.get,Env.keep,entry,Opd.ev,splice,cutAt,indexD,D.asInt?,D.asNat?,u8,binD,strBin,unD,boundsD,sliceD,iaddrD,sub,minmaxD,eqvL,PD.eqv,clsP,cls,clsR,isCl,isW,apartRW,offB,apartWW,clash,insOk,finish,evRes,evRes1,mapO,D.cells,PD.cells,D.refsL,D.refs,D.toksL,D.toks,mkAgg,pures,fillD,fillE,appendD,srcD,D.elems?,D.asPD,Int.toNat_natCast,srcH,srcBH,eqD,D.asPDL,isMapC,ld_succ,ld_zero,st_succ,st_zero,oI,oS,oN,oP,oB,oL,oT,oF,oE,ldr0,ldr1,ldr2,ldr3,ldr4,ldr5,ldr6,str1',str3',lk,↓hcl,s1,hw1,hk0,hall,h2,h2',lk1,lk2,nm,uget,getT,Pre.pd,hl,hkx,nd])
     |(conv=>lhs;simp[fc127,evKC,evK,evGuard,put,Env.get,Env.keep,entry,Opd.ev,splice,cutAt,indexD,D.asInt?,D.asNat?,u8,binD,strBin,unD,boundsD,sliceD,iaddrD,sub,minmaxD,eqvL,PD.eqv,clsP,cls,clsR,isCl,isW,apartRW,offB,apartWW,clash,insOk,finish,evRes,evRes1,mapO,D.cells,PD.cells,D.refsL,D.refs,D.toksL,D.toks,mkAgg,pures,fillD,fillE,appendD,srcD,D.elems?,D.asPD,Int.toNat_natCast,srcH,srcBH,eqD,D.asPDL,isMapC,ld_succ,ld_zero,st_succ,st_zero,oI,oS,oN,oP,oB,oL,oT,oF,oE,ldr0,ldr1,ldr2,ldr3,ldr4,ldr5,ldr6,str1',str3',lk,↓hcl,s1,hw1,hk0,hall,h2,lk1,lk2,nm,uget,getT,Pre.pd,hl,hkx,nd])
  |false=>
   simp only[hf,if_false,Bool.false_eq_true] at nd
   refine ans_frzBE h.toOk (fc:=fc127) rfl rfl rfl rfl ⟨o,?_⟩
   generalize c.tok a=t at *
   rcases hkc with rfl |rfl<;>rcases h2 with⟨h2,h2'⟩ |⟨h2,h2',h2''⟩ |h2
   all_goals
    apply Exists.intro
    first
     |(conv=>lhs;simp[fc127,evKC,evK,evGuard,put,Env.get,Env.keep,entry,Opd.ev,splice,cutAt,indexD,D.asInt?,D.asNat?,u8,binD,strBin,unD,boundsD,sliceD,iaddrD,sub,minmaxD,eqvL,PD.eqv,clsP,cls,clsR,isCl,isW,apartRW,offB,apartWW,clash,insOk,finish,evRes,evRes1,mapO,D.cells,PD.cells,D.refsL,D.refs,D.toksL,D.toks,mkAgg,pures,fillD,fillE,appendD,srcD,D.elems?,D.asPD,Int.toNat_natCast,srcH,srcBH,eqD,D.asPDL,isMapC,ld_succ,ld_zero,st_succ,st_zero,oI,oS,oN,oP,oB,oL,oT,oF,oE,ldr0,ldr1,ldr2,ldr3,ldr4,ldr5,ldr6,str1',str3',lk,↓hcl,s1,hw1,hk0,hall,h2,h2',h2'',lk1,lk2,nm,uget,getT,Pre.pd,hl,hkx,nd,drP,evRest,behind,pairsOk,panOk,SO.uses,SK.slots,Opd.slots,SK.heapless])
     |(conv=>lhs;simp[fc127,evKC,evK,evGuard,put,Env.get,Env.keep,entry,Opd.ev,splice,cutAt,indexD,D.asInt?,D.asNat?,u8,binD,strBin,unD,boundsD,sliceD,iaddrD,sub,minmaxD,eqvL,PD.eqv,clsP,cls,clsR,isCl,isW,apartRW,offB,apartWW,clash,insOk,finish,evRes,evRes1,mapO,D.cells,PD.cells,D.refsL,D.refs,D.toksL,D.toks,mkAgg,pures,fillD,fillE,appendD,srcD,D.elems?,D.asPD,Int.toNat_natCast,srcH,srcBH,eqD,D.asPDL,isMapC,ld_succ,ld_zero,st_succ,st_zero,oI,oS,oN,oP,oB,oL,oT,oF,oE,ldr0,ldr1,ldr2,ldr3,ldr4,ldr5,ldr6,str1',str3',lk,↓hcl,s1,hw1,hk0,hall,h2,h2',lk1,lk2,nm,uget,getT,Pre.pd,hl,hkx,nd,drP,evRest,behind,pairsOk,panOk,SO.uses,SK.slots,Opd.slots,SK.heapless])
     |(conv=>lhs;simp[fc127,evKC,evK,evGuard,put,Env.get,Env.keep,entry,Opd.ev,splice,cutAt,indexD,D.asInt?,D.asNat?,u8,binD,strBin,unD,boundsD,sliceD,iaddrD,sub,minmaxD,eqvL,PD.eqv,clsP,cls,clsR,isCl,isW,apartRW,offB,apartWW,clash,insOk,finish,evRes,evRes1,mapO,D.cells,PD.cells,D.refsL,D.refs,D.toksL,D.toks,mkAgg,pures,fillD,fillE,appendD,srcD,D.elems?,D.asPD,Int.toNat_natCast,srcH,srcBH,eqD,D.asPDL,isMapC,ld_succ,ld_zero,st_succ,st_zero,oI,oS,oN,oP,oB,oL,oT,oF,oE,ldr0,ldr1,ldr2,ldr3,ldr4,ldr5,ldr6,str1',str3',lk,↓hcl,s1,hw1,hk0,hall,h2,lk1,lk2,nm,uget,getT,Pre.pd,hl,hkx,nd,drP,evRest,behind,pairsOk,panOk,SO.uses,SK.slots,Opd.slots,SK.heapless])
def opEnd:SC:=(.seq (.region [2] [⟨some 112,.load (some 5) (.t 6),none⟩,⟨none,.store 5 (.t 2) (.t 112),none⟩]) .ret)
def zN0:List PD:=[.int .i64 0,.str [],.int .i64 0,.nils,.int .i64 0]
def tkN(t:Tok):List PD:=[.int .i64 t.k,.str t.t,.int .i64 t.p]
set_option maxHeartbeats 2000000 in
theorem op_start{c:Rd}(h:c.Sz){o:Nat}{prs:Nat→Nat→PR Nd}(hp:PrsOk c o prs)(a:Nat)(ha:a≤c.ts.length)(hq:NotQ c a)(hu:((c.tok a).k=0)∨lookT preT (c.tok a).t=none){n:Nd}{b1:Nat}(r1:primaryP c prs (c.tok a) a= .ok n b1):
    ∃p:List PD,evS (call pg) pg.G iterX fc127.body ⟨entry 0 [.box 0 0],⟨rC c a o::tabB::tabU::tabS::[],c.tk⟩⟩=seqK (call pg) pg.G (blockK 0 (loopK (call pg) pg.G [0,2,6] fc127_b0 (prS c b1 o zN0 (tkN (c.tok a)) p n))) opEnd:=by
 have hn:=h.n
 have lk:=fun bx=>look_at h.toOk a o (by omega) bx []
 have lk1:=fun bx=>look_eq h.toOk a o 1 (by omega) bx []
 have lk2:=fun bx=>look_eq h.toOk a o 2 (by omega) bx []
 have nm:=named_eq (c.tok (a+1)) (tok_t h (a+1))
 have hw1:=addw1 (a:=a) (by omega)
 have hlv:((1 :Nat):Int)=1:=rfl
 have hlv2:((2 :Nat):Int)=2:=rfl
 simp only[rH,List.append_nil,hlv,hlv2,Tok.pd] at lk lk1 lk2
 have s1:=fun bx=>(primary_eq h hp (c.tok a) a ha).okT r1 bx []
 have hkx:=pone_kids n
 simp only[List.map_cons,List.map_nil,List.append_nil,Tok.pd,pd_cells n,Nd.cells] at s1
 obtain⟨h1,h2⟩:=hq
 simp only[prS,prB,zN0,tkN,List.map_cons,List.map_nil,Nd.cells]
 cases hl:lookT preT (c.tok a).t with
 |none=>
  clear hu
  refine⟨[.int .i64 0,.int .i64 0],?_⟩
  generalize c.tok a=t at *
  rcases h1 with⟨h1,h1'⟩ |h1<;>rcases h2 with⟨h2,h2'⟩ |⟨h2,h2',h2''⟩ |h2
  all_goals
   simp only[List.map_cons,List.map_nil]
   conv=>lhs;simp[fc127,evKC,evK,evGuard,put,Env.get,Env.keep,entry,Opd.ev,splice,cutAt,indexD,D.asInt?,D.asNat?,u8,binD,strBin,unD,boundsD,sliceD,iaddrD,sub,minmaxD,eqvL,PD.eqv,clsP,cls,clsR,isCl,isW,apartRW,offB,apartWW,clash,insOk,finish,evRes,evRes1,mapO,D.cells,PD.cells,D.refsL,D.refs,D.toksL,D.toks,mkAgg,pures,fillD,fillE,appendD,srcD,D.elems?,D.asPD,Int.toNat_natCast,srcH,srcBH,eqD,D.asPDL,isMapC,ld_succ,ld_zero,st_succ,st_zero,oI,oS,oN,oP,oB,oL,oT,oF,oE,ldr0,ldr1,ldr2,ldr3,ldr4,ldr5,ldr6,str1',str3',lk,bne, *,uget,getT]
   try rfl
 |some p=>
  have hk:((c.tok a).k==0)=true:=by
   rcases hu with q |q
   ·simp[q]
   ·rw[hl] at q;cases q
  clear hu h1
  refine⟨[.int .i64 p.lv,.int .i64 p.op],?_⟩
  generalize c.tok a=t at *
  rcases h2 with⟨h2,h2'⟩ |⟨h2,h2',h2''⟩ |h2
  all_goals
   simp only[List.map_cons,List.map_nil]
   conv=>lhs;simp[fc127,evKC,evK,evGuard,put,Env.get,Env.keep,entry,Opd.ev,splice,cutAt,indexD,D.asInt?,D.asNat?,u8,binD,strBin,unD,boundsD,sliceD,iaddrD,sub,minmaxD,eqvL,PD.eqv,clsP,cls,clsR,isCl,isW,apartRW,offB,apartWW,clash,insOk,finish,evRes,evRes1,mapO,D.cells,PD.cells,D.refsL,D.refs,D.toksL,D.toks,mkAgg,pures,fillD,fillE,appendD,srcD,D.elems?,D.asPD,Int.toNat_natCast,srcH,srcBH,eqD,D.asPDL,isMapC,ld_succ,ld_zero,st_succ,st_zero,oI,oS,oN,oP,oB,oL,oT,oF,oE,ldr0,ldr1,ldr2,ldr3,ldr4,ldr5,ldr6,str1',str3',lk,bne, *,uget,getT,Pre.pd]
   try rfl
set_option maxHeartbeats 2000000 in
theorem op_startB{c:Rd}(h:c.Sz){o:Nat}(a:Nat)(ha:a≤c.ts.length)(hq:NotQ c a)(hu:((c.tok a).k=0)∨lookT preT (c.tok a).t=none){e:Int}{q b1:Nat}(r1:Ans 143 [(c.tok a).pd] c a o (fun x:Nd=>.p x.pd) (.bad e q b1)):
    Ans 127 [] c a o (fun x:Nd=>.p x.pd) (.bad e q b1):=by
 have hn:=h.n
 have lk:=fun bx=>look_at h.toOk a o (by omega) bx []
 have lk1:=fun bx=>look_eq h.toOk a o 1 (by omega) bx []
 have lk2:=fun bx=>look_eq h.toOk a o 2 (by omega) bx []
 have nm:=named_eq (c.tok (a+1)) (tok_t h (a+1))
 have hw1:=addw1 (a:=a) (by omega)
 have hlv:((1 :Nat):Int)=1:=rfl
 have hlv2:((2 :Nat):Int)=2:=rfl
 simp only[rH,List.append_nil,hlv,hlv2,Tok.pd] at lk lk1 lk2
 obtain⟨o',s1⟩:=r1.badT rfl
 have s1:=fun bx=>s1 bx []
 simp only[List.map_cons,List.map_nil,List.append_nil,Tok.pd] at s1
 obtain⟨h1,h2⟩:=hq
 cases hl:lookT preT (c.tok a).t with
 |none=>
  clear hu
  refine ans_frzBE h.toOk (fc:=fc127) rfl rfl rfl rfl ⟨o',?_⟩
  generalize c.tok a=t at *
  rcases h1 with⟨h1,h1'⟩ |h1<;>rcases h2 with⟨h2,h2'⟩ |⟨h2,h2',h2''⟩ |h2
  all_goals
   apply Exists.intro
   conv=>lhs;simp[fc127,evKC,evK,evGuard,put,Env.get,Env.keep,entry,Opd.ev,splice,cutAt,indexD,D.asInt?,D.asNat?,u8,binD,strBin,unD,boundsD,sliceD,iaddrD,sub,minmaxD,eqvL,PD.eqv,clsP,cls,clsR,isCl,isW,apartRW,offB,apartWW,clash,insOk,finish,evRes,evRes1,mapO,D.cells,PD.cells,D.refsL,D.refs,D.toksL,D.toks,mkAgg,pures,fillD,fillE,appendD,srcD,D.elems?,D.asPD,Int.toNat_natCast,srcH,srcBH,eqD,D.asPDL,isMapC,ld_succ,ld_zero,st_succ,st_zero,oI,oS,oN,oP,oB,oL,oT,oF,oE,ldr0,ldr1,ldr2,ldr3,ldr4,ldr5,ldr6,str1',str3',lk,bne, *,uget,getT]
 |some p=>
  have hk:((c.tok a).k==0)=true:=by
   rcases hu with q |q
   ·simp[q]
   ·rw[hl] at q;cases q
  clear hu h1
  refine ans_frzBE h.toOk (fc:=fc127) rfl rfl rfl rfl ⟨o',?_⟩
  generalize c.tok a=t at *
  rcases h2 with⟨h2,h2'⟩ |⟨h2,h2',h2''⟩ |h2
  all_goals
   apply Exists.intro
   conv=>lhs;simp[fc127,evKC,evK,evGuard,put,Env.get,Env.keep,entry,Opd.ev,splice,cutAt,indexD,D.asInt?,D.asNat?,u8,binD,strBin,unD,boundsD,sliceD,iaddrD,sub,minmaxD,eqvL,PD.eqv,clsP,cls,clsR,isCl,isW,apartRW,offB,apartWW,clash,insOk,finish,evRes,evRes1,mapO,D.cells,PD.cells,D.refsL,D.refs,D.toksL,D.toks,mkAgg,pures,fillD,fillE,appendD,srcD,D.elems?,D.asPD,Int.toNat_natCast,srcH,srcBH,eqD,D.asPDL,isMapC,ld_succ,ld_zero,st_succ,st_zero,oI,oS,oN,oP,oB,oL,oT,oF,oE,ldr0,ldr1,ldr2,ldr3,ldr4,ldr5,ldr6,str1',str3',lk,bne, *,uget,getT,Pre.pd]
theorem op_prim{c:Rd}(h:c.Sz){o:Nat}{prs:Nat→Nat→PR Nd}(hp:PrsOk c o prs)(a:Nat)(ha:a≤c.ts.length)(hq:NotQ c a)(hu:((c.tok a).k=0)∨lookT preT (c.tok a).t=none)
    (hb:∀n b,primaryP c prs (c.tok a) a= .ok n b→b≤c.ts.length):
    Ans 127 [] c a o (fun x:Nd=>.p x.pd) ((primaryP c prs (c.tok a) a).bind fun n a'=>primesP c (c.ts.length+1) n a'):=by
 have hn:=h.n
 cases r1:primaryP c prs (c.tok a) a with
 |bad e q b1=>
  have:=primary_eq h hp (c.tok a) a ha
  rw[r1] at this
  exact op_startB h a ha hq hu this
 |ok n b1=>
  simp only[bind_ok]
  have hb1:=hb n b1 r1
  obtain⟨p,hs⟩:=op_start h hp a ha hq hu r1
  have hl:=primes_loop h o zN0 (tkN (c.tok a)) p (c.ts.length+1) b1 n hb1 (by omega)
  cases r2:primesP c (c.ts.length+1) n b1 with
  |bad e q b2=>
   rw[r2] at hl
   obtain⟨env,n',hl⟩:=hl
   refine ans_frzBE h.toOk (fc:=fc127) rfl rfl rfl rfl ⟨o,?_⟩
   rw[List.map_nil,hs,hl]
   exact⟨_,rfl⟩
  |ok n' b2=>
   rw[r2] at hl
   obtain⟨hb2,env,hl,g0,g2,g6⟩:=hl
   have hkx:=pone_kids n'
   refine ans_frzE h.toOk (fc:=fc127) rfl rfl rfl rfl ?_
   rw[List.map_nil,hs,hl,pd_cells n']
   apply Exists.intro
   simp only[prS,prB,zN0,tkN,List.map_cons,List.map_nil,Nd.cells]
   conv=>lhs;simp[opEnd,fc127,evKC,evK,evGuard,put,Env.get,Env.keep,entry,Opd.ev,splice,cutAt,indexD,D.asInt?,D.asNat?,u8,binD,strBin,unD,boundsD,sliceD,iaddrD,sub,minmaxD,eqvL,PD.eqv,clsP,cls,clsR,isCl,isW,apartRW,offB,apartWW,clash,insOk,finish,evRes,evRes1,mapO,D.cells,PD.cells,D.refsL,D.refs,D.toksL,D.toks,mkAgg,pures,fillD,fillE,appendD,srcD,D.elems?,D.asPD,Int.toNat_natCast,srcH,srcBH,eqD,D.asPDL,isMapC,ld_succ,ld_zero,st_succ,st_zero,oI,oS,oN,oP,oB,oL,oT,oF,oE,ldr0,ldr1,ldr2,ldr3,ldr4,ldr5,ldr6,str1',str3',g0,g2,g6,hkx]
theorem node_ok_le{n:Nd}{p a:Nat}{x:Nd}{a':Nat}(h:nodeP n p a= .ok x a'):a'=a:=(node_inv h).2.1
theorem number_bd{c:Rd}{most a n a':Nat}(h:numberP c most a= .ok n a'):a<c.ts.length∧a'=a+1:=by
 unfold numberP at h
 split at h
 ·rename_i hk
  split at h
  ·cases h
  ·cases h
   refine⟨?_,rfl⟩
   rcases Nat.lt_or_ge a c.ts.length with q |q
   ·exact q
   ·rw[tok_out q] at hk;simp at hk
 ·cases h
theorem none_bd{c:Rd}{p a:Nat}{x:Nd}{a':Nat}(ha:a≤c.ts.length)(h:noneP c p a= .ok x a'):a≤a'∧a'≤c.ts.length:=by
 unfold noneP at h
 split at h
 ·split at h
  ·obtain⟨n,b,h1,h⟩:=bind_inv h
   obtain⟨u,b2,h2,h⟩:=bind_inv h
   obtain⟨h3,rfl⟩:=number_bd h1
   obtain⟨rfl,h4⟩:=expect_inv h2
   cases h
   have:=accept_lt h4
   omega
  ·cases h
 ·cases h;omega
theorem argsL_bd{c:Rd}{o:Nat}{prs:Nat→Nat→PR Nd}(hp:PrsOk c o prs):∀(n a:Nat) (ks ks':List Nd) (a':Nat),a≤c.ts.length→argsL c prs n ks a= .ok ks' a'→a≤a'∧a'≤c.ts.length
 | 0,a,ks,ks',a',ha,h=>by cases h;omega
 |n+1,a,ks,ks',a',ha,h=>by
  unfold argsL at h
  split at h
  ·rename_i hb
   cases h
   have:=accept_lt hb
   omega
  ·obtain⟨u,b,h1,h⟩:=bind_inv h
   obtain⟨x,b2,h2,h⟩:=bind_inv h
   have g1:=sep_bd h1 ha
   have g2:=hp.adv 8 b x b2 g1 h2
   have g3:=hp.bd 8 b g1 x b2 h2
   have g4:=argsL_bd hp n b2 _ _ _ g3 h
   have g5:a≤b:=by
    rcases sep_ok h1 ha with⟨_,rfl⟩ |⟨_,q⟩
    ·exact Nat.le_refl _
    ·have:=(expect_inv q).1;omega
   omega
theorem quant_adv{c:Rd}{o:Nat}{prs:Nat→Nat→PR Nd}(hp:PrsOk c o prs){op:Int}{p a:Nat}{x:Nd}{a':Nat}(h:quantP c prs op p a= .ok x a'):a<a'∧a'≤c.ts.length:=by
 obtain⟨e,a3,f,n1,n2,h3,n4,h5,_⟩:=quant_inv h
 have g1:=accept_lt n2
 have g2:=hp.adv 8 (a+2) e a3 (by omega) h3
 have g3:=accept_lt n4
 have g4:=hp.adv 1 (a3+1) f a' (by omega) h5
 have g5:=hp.bd 1 (a3+1) (by omega) f a' h5
 omega
theorem primary_bd{c:Rd}{o:Nat}{prs:Nat→Nat→PR Nd}(hp:PrsOk c o prs){a:Nat}(_ha:a≤c.ts.length){n:Nd}{a':Nat}(h:primaryP c prs (c.tok a) a= .ok n a'):a<a'∧a'≤c.ts.length:=by
 unfold primaryP at h
 split at h
 ·rename_i op hw
  cases h
  rcases Nat.lt_or_ge a c.ts.length with q |q
  ·omega
  ·rw[tok_out q] at hw;cases hw
 ·split at h
  ·obtain⟨m,b,h1,h⟩:=bind_inv h
   obtain⟨h3,rfl⟩:=number_bd h1
   cases h;omega
  ·split at h
   ·obtain⟨m,b,h1,h⟩:=bind_inv h
    obtain⟨h3,rfl⟩:=number_bd h1
    cases h;omega
   ·split at h
    ·cases h
    ·split at h
     ·rename_i q
      have g:=accept_lt q
      have:=none_bd (by omega) h
      omega
     ·split at h
      ·rename_i q
       obtain⟨m,b,h1,h⟩:=bind_inv h
       obtain⟨u,b2,h2,h⟩:=bind_inv h
       have g:=quant_adv hp h1
       obtain⟨rfl,h4⟩:=expect_inv h2
       have:=accept_lt h4
       cases h;omega
      ·split at h
       ·rename_i q
        have g0:=accept_lt q
        obtain⟨m,b,h1,h⟩:=bind_inv h
        obtain⟨u,b2,h2,h⟩:=bind_inv h
        have g:=hp.adv 1 _ _ _ (by omega) h1
        obtain⟨rfl,h4⟩:=expect_inv h2
        have:=accept_lt h4
        cases h;omega
       ·obtain⟨m,b,h1,h⟩:=bind_inv h
        obtain⟨rfl,h5,h6⟩:=name_inv h1
        have g0:=named_lt h6
        split at h
        ·rename_i q
         have g1:=accept_lt q
         rw[argsP_argsL] at h
         obtain⟨ks,b,h2,h⟩:=bind_inv h
         have g2:=argsL_bd hp _ _ _ _ _ (by omega) h2
         have:=node_ok_le h
         omega
        ·cases h;omega
theorem primes_bd{c:Rd}:∀(m:Nat) (n:Nd) (a:Nat) (n':Nd) (a':Nat),a≤c.ts.length→primesP c m n a= .ok n' a'→a≤a'∧a'≤c.ts.length
 | 0,n,a,n',a',ha,h=>by cases h;omega
 |m+1,n,a,n',a',ha,h=>by
  unfold primesP at h
  split at h
  ·rename_i hq
   have hlt:a<c.ts.length:=by
    rcases Nat.lt_or_ge a c.ts.length with q |q
    ·exact q
    ·rw[tok_out q] at hq;simp at hq
   obtain⟨x,b,h1,h⟩:=bind_inv h
   have:=node_ok_le h1
   have:=primes_bd m x b n' a' (by omega) h
   omega
  ·cases h;omega
theorem operand_bd{c:Rd}{o:Nat}{prs:Nat→Nat→PR Nd}(hp:PrsOk c o prs){a:Nat}(ha:a≤c.ts.length){n:Nd}{a':Nat}(h:operandP c prs a= .ok n a'):a<a'∧a'≤c.ts.length:=by
 have key:∀{n:Nd} {a':Nat},((primaryP c prs (c.tok a) a).bind fun n a=>primesP c (c.ts.length+1) n a)= .ok n a'→a<a'∧a'≤c.ts.length:=by
  intro n a' h
  obtain⟨x,b,h1,h⟩:=bind_inv h
  have g1:=primary_bd hp ha h1
  have g2:=primes_bd _ _ _ _ _ g1.2 h
  omega
 unfold operandP at h
 dsimp only at h
 split at h
 ·have:=quant_adv hp h;omega
 ·split at h
  ·have:=quant_adv hp h;omega
  ·split at h
   ·rename_i p hl
    split at h
    ·rename_i hk
     have hlt:a<c.ts.length:=by
      rcases Nat.lt_or_ge a c.ts.length with q |q
      ·exact q
      ·rw[tok_out q] at hk;simp at hk
     obtain⟨x,b,h1,h⟩:=bind_inv h
     have g1:=hp.adv _ _ _ _ (by omega) h1
     have g2:=hp.bd _ _ (by omega) _ _ h1
     have:=node_ok_le h
     omega
    ·exact key h
   ·exact key h
theorem operand_eq{c:Rd}(h:c.Sz){o:Nat}{prs:Nat→Nat→PR Nd}(hp:PrsOk c o prs)(a:Nat)(ha:a≤c.ts.length):
    Ans 127 [] c a o (fun x:Nd=>.p x.pd) (operandP c prs a):=by
 have hpb:=fun n b hr=>(primary_bd hp ha (n:=n) (a':=b) hr).2
 have inn:(c.tok a).k≠0∨(c.tok a).t≠[]→a+1≤c.ts.length:=by
  intro hk
  rcases Nat.lt_or_ge a c.ts.length with q |q
  ·exact q
  ·rw[tok_out q] at hk;simp at hk
 unfold operandP
 dsimp only
 by_cases h1:(c.tok a).k≠0∧(c.tok a).t=[97,108,108]
 ·rw[if_pos h1]
  exact op_all h hp a ha (inn (.inl h1.1)) (by simp[h1.1]) h1.2
 rw[if_neg h1]
 by_cases h2:(c.tok a).t=[115,111,109,101]∧namedB (c.tok (a+1))=true∧(c.tok (a+2)).t=[58]
 ·rw[if_pos h2]
  exact op_some h hp a ha (inn (.inr (by rw[h2.1];simp))) h2.1 h2.2.1 h2.2.2
 rw[if_neg h2]
 have hq:=not_q h1 h2
 cases hl:lookT preT (c.tok a).t with
 |none=>exact op_prim h hp a ha hq (.inr hl) hpb
 |some p=>
  dsimp only
  by_cases hk:(c.tok a).k≠0
  ·rw[if_pos hk]
   exact op_pre h hp a ha hq hl (by simp[hk]) (inn (.inl hk))
  ·rw[if_neg hk]
   have hk:(c.tok a).k=0:=Decidable.of_not_not hk
   exact op_prim h hp a ha hq (.inl hk) hpb
theorem bget{b0 b2 b3:List D}{bx:List (List D)}{tk:List Nat}(s:List UInt8):mapgetD 2 (.agg [.int .i64 0,.bool false,.int .i64 0,.int .i64 0]) true (.mapr 1) (.p (.str s)) ⟨b0::tabB::b2::b3::bx,tk⟩=some (getT Bin.pd (.agg [.int .i64 0,.bool false,.int .i64 0,.int .i64 0]) binT s):=get_mapT rfl s
def paB(z:List PD)(x:Nd):List (List D):=[z,x.cells].map fun b=>b.map D.p
def paS(c:Rd)(a o lev:Nat)(cmp:Bool)(z:List PD)(x:Nd):St:=⟨[(0,.box 0 0),(1,.p (.int .i64 lev)),(4,.box 4 0),(5,.box 5 0),(6,.p (.bool cmp))],⟨rC c a o::tabB::tabU::tabS::paB z x,c.tk⟩⟩
theorem pa_loc{c:Rd}(h:c.Ok)(a o:Nat)(z:List PD)(x:Nd)(ex:List (List D))(out:Out)(env:Env)(ho:out.ren (below 6) (below c.tk.length)=some out):
    locD 6 c.tk.length (out,⟨env,⟨rC c a o::tabB::tabU::tabS::(paB z x++ex),c.tk⟩⟩)=(out,⟨env.map fun y=>(y.1,(y.2.ren (below 6) (below c.tk.length)).getD .dead),⟨rC c a o::tabB::tabU::tabS::paB z x,c.tk⟩⟩):=
 loc_rd h a o [z,x.cells] ex out env 6 rfl ho
theorem pa_out1{c:Rd}(h:c.Sz){o:Nat}(lev a:Nat)(cmp:Bool)(z:List PD)(x:Nd)(ha:a≤c.ts.length)(hb:lookT binT (c.tok a).t=none):
    ∃env,evS (call pg) pg.G iterX fc80_b0 (paS c a o lev cmp z x)=some (.exit 0,⟨env,(paS c a o lev cmp z x).hp⟩)∧env.get 0= .box 0 0∧env.get 4= .box 4 0∧env.get 5= .box 5 0:=by
 have hn:=h.n
 have lk:=fun bx=>look_at h.toOk a o (by omega) bx []
 have hw1:=addw1 (a:=a) (by omega)
 have hkx:=pone_kids x
 simp only[rH,List.append_nil] at lk
 have hl:=fun env ex=>pa_loc h.toOk a o z x ex (.exit 0) env rfl
 simp only[paS]
 simp only[paB,List.map_cons,List.map_nil,Nd.cells,List.cons_append,List.nil_append] at hl⊢
 generalize c.tok a=t at *
 cases hk:(t.k==0)
 all_goals
  apply Exists.intro
  refine⟨?_,?_,?_,?_⟩
  ·conv=>lhs;simp[fc80_b0,evKC,evK,evGuard,put,Env.get,Env.keep,entry,Opd.ev,splice,cutAt,indexD,D.asInt?,D.asNat?,u8,binD,strBin,unD,boundsD,sliceD,iaddrD,sub,minmaxD,eqvL,PD.eqv,clsP,cls,clsR,isCl,isW,apartRW,offB,apartWW,clash,insOk,finish,evRes,evRes1,mapO,D.cells,PD.cells,D.refsL,D.refs,D.toksL,D.toks,mkAgg,pures,fillD,fillE,appendD,srcD,D.elems?,D.asPD,Int.toNat_natCast,srcH,srcBH,eqD,D.asPDL,isMapC,ld_succ,ld_zero,st_succ,st_zero,oI,oS,oN,oP,oB,oL,oT,oF,oE,ldr0,ldr1,ldr2,ldr3,ldr4,ldr5,ldr6,str1',str3',lk,hl,bget,getT,hb,hk,D.ren,below]
  all_goals rfl
theorem pa_out2{c:Rd}(h:c.Sz){o:Nat}(lev a:Nat)(cmp:Bool)(z:List PD)(x:Nd)(ha:a≤c.ts.length){b:Bin}(hb:lookT binT (c.tok a).t=some b)(hx:(c.tok a).k=0∨b.lv<lev∨(b.lv=7∧cmp=true)):
    ∃env,evS (call pg) pg.G iterX fc80_b0 (paS c a o lev cmp z x)=some (.exit 0,⟨env,(paS c a o lev cmp z x).hp⟩)∧env.get 0= .box 0 0∧env.get 4= .box 4 0∧env.get 5= .box 5 0:=by
 have hn:=h.n
 have lk:=fun bx=>look_at h.toOk a o (by omega) bx []
 have hw1:=addw1 (a:=a) (by omega)
 have hkx:=pone_kids x
 simp only[rH,List.append_nil] at lk
 have hl:=fun env ex=>pa_loc h.toOk a o z x ex (.exit 0) env rfl
 simp only[paS]
 simp only[paB,List.map_cons,List.map_nil,Nd.cells,List.cons_append,List.nil_append] at hl⊢
 generalize c.tok a=t at *
 cases hk:(t.k==0) with
 |true=>
  apply Exists.intro
  refine⟨?_,?_,?_,?_⟩
  ·conv=>lhs;simp[fc80_b0,evKC,evK,evGuard,put,Env.get,Env.keep,entry,Opd.ev,splice,cutAt,indexD,D.asInt?,D.asNat?,u8,binD,strBin,unD,boundsD,sliceD,iaddrD,sub,minmaxD,eqvL,PD.eqv,clsP,cls,clsR,isCl,isW,apartRW,offB,apartWW,clash,insOk,finish,evRes,evRes1,mapO,D.cells,PD.cells,D.refsL,D.refs,D.toksL,D.toks,mkAgg,pures,fillD,fillE,appendD,srcD,D.elems?,D.asPD,Int.toNat_natCast,srcH,srcBH,eqD,D.asPDL,isMapC,ld_succ,ld_zero,st_succ,st_zero,oI,oS,oN,oP,oB,oL,oT,oF,oE,ldr0,ldr1,ldr2,ldr3,ldr4,ldr5,ldr6,str1',str3',lk,hl,bget,getT,Bin.pd,hb,hk,D.ren,below]
  all_goals rfl
 |false=>
  by_cases h1:b.lv<lev
  ·apply Exists.intro
   refine⟨?_,?_,?_,?_⟩
   ·conv=>lhs;simp[fc80_b0,evKC,evK,evGuard,put,Env.get,Env.keep,entry,Opd.ev,splice,cutAt,indexD,D.asInt?,D.asNat?,u8,binD,strBin,unD,boundsD,sliceD,iaddrD,sub,minmaxD,eqvL,PD.eqv,clsP,cls,clsR,isCl,isW,apartRW,offB,apartWW,clash,insOk,finish,evRes,evRes1,mapO,D.cells,PD.cells,D.refsL,D.refs,D.toksL,D.toks,mkAgg,pures,fillD,fillE,appendD,srcD,D.elems?,D.asPD,Int.toNat_natCast,srcH,srcBH,eqD,D.asPDL,isMapC,ld_succ,ld_zero,st_succ,st_zero,oI,oS,oN,oP,oB,oL,oT,oF,oE,ldr0,ldr1,ldr2,ldr3,ldr4,ldr5,ldr6,str1',str3',lk,hl,bget,getT,Bin.pd,hb,hk,h1,D.ren,below]
   all_goals rfl
  ·have h2:b.lv=7∧cmp=true:=by
    rcases hx with q |q |q
    ·simp[q] at hk
    ·exact absurd q h1
    ·exact q
   obtain⟨h2,rfl⟩:=h2
   rw[h2] at h1
   have h1':¬((7 :Int)<(lev:Int)):=by omega
   apply Exists.intro
   refine⟨?_,?_,?_,?_⟩
   ·conv=>lhs;simp[fc80_b0,evKC,evK,evGuard,put,Env.get,Env.keep,entry,Opd.ev,splice,cutAt,indexD,D.asInt?,D.asNat?,u8,binD,strBin,unD,boundsD,sliceD,iaddrD,sub,minmaxD,eqvL,PD.eqv,clsP,cls,clsR,isCl,isW,apartRW,offB,apartWW,clash,insOk,finish,evRes,evRes1,mapO,D.cells,PD.cells,D.refsL,D.refs,D.toksL,D.toks,mkAgg,pures,fillD,fillE,appendD,srcD,D.elems?,D.asPD,Int.toNat_natCast,srcH,srcBH,eqD,D.asPDL,isMapC,ld_succ,ld_zero,st_succ,st_zero,oI,oS,oN,oP,oB,oL,oT,oF,oE,ldr0,ldr1,ldr2,ldr3,ldr4,ldr5,ldr6,str1',str3',lk,hl,bget,getT,Bin.pd,hb,hk,h1',h2,D.ren,below]
   all_goals rfl
theorem joined_le{t:Tok}{b:Bin}{x y:Nd}{a:Nat}{n:Nd}{a':Nat}(h:joinedP t b x y a= .ok n a'):a'=a:=by
 unfold joinedP at h
 split at h
 ·cases h
 ·obtain⟨m,b2,h1,h2⟩:=bind_inv h
  cases h2
  exact node_ok_le h1
def Bin.nx(b:Bin):Nat:=if b.r then b.lv else b.lv+1
structure Go (c:Rd) (a lev:Nat) (cmp:Bool) (b:Bin):Prop where
 l:lookT binT (c.tok a).t=some b
 k:((c.tok a).k==0)=false
 v:¬b.lv<lev
 s:((b.lv:Int)==7)=false∨(((b.lv:Int)==7)=true∧cmp=false)
theorem binT_lv{s:List UInt8}{o:Bin}(h:lookT binT s=some o):o.lv≤12:=by
 have :∀(t:List (List UInt8×Bin)),(∀e∈t,e.2.lv≤12)→lookT t s=some o→o.lv≤12:=by
  intro t
  induction t with
  |nil=>intro _ h;cases h
  |cons e t ih=>
   intro hall h
   unfold lookT at h
   split at h
   ·cases h;exact hall e (by simp)
   ·exact ih (fun x hx=>hall x (by simp[hx])) h
 exact this binT (by decide) h
theorem nx_le{b:Bin}(h:b.lv≤12):b.nx≤20:=by unfold Bin.nx;split<;>omega
set_option maxHeartbeats 1000000 in
theorem pa_bad1{c:Rd}(h:c.Sz){o:Nat}(lev a:Nat)(cmp:Bool)(z:List PD)(x:Nd)(_ha:a≤c.ts.length){prs:Nat→Nat→PR Nd}(hp:PrsOk c o prs){b:Bin}(g:Go c a lev cmp b)(hb1:a+1≤c.ts.length){e:Int}{q a2:Nat}(hy:prs b.nx (a+1)= .bad e q a2):
    ∃env o',evS (call pg) pg.G iterX fc80_b0 (paS c a o lev cmp z x)=some (.pan (faultD e q),⟨env,(paS c a2 o' lev cmp z x).hp⟩):=by
 have hn:=h.n
 have lk:=fun bx=>look_at h.toOk a o (by omega) bx []
 have hw1:=addw1 (a:=a) (by omega)
 have hkx:=pone_kids x
 simp only[rH,List.append_nil] at lk
 have hlv:=binT_lv g.l
 have hw2:=addw1 (a:=b.lv) (by omega)
 have s1:=hp.ans b.nx (a+1) hb1 (nx_le hlv)
 obtain⟨o',s1⟩:=s1.badT hy
 have s1:=fun bx=>s1 bx []
 simp only[List.map_cons,List.map_nil,List.append_nil] at s1
 have hl:=fun env ex=>pa_loc h.toOk a2 o' z x ex (.pan (faultD e q)) env rfl
 obtain⟨hgl,hgk,hgv,hgs⟩:=g
 simp only[paS]
 simp only[paB,List.map_cons,List.map_nil,Nd.cells,List.cons_append,List.nil_append] at hl⊢
 generalize c.tok a=t at *
 have e1:((b.lv+1 :Nat):Int)=(b.lv:Int)+1:=rfl
 cases hr:b.r<;>rcases hgs with hg1 |⟨hg1,hg2⟩
 all_goals
  simp only[Bin.nx,hr,Bool.false_eq_true,if_false,if_true,e1] at s1
  apply Exists.intro
  refine⟨o',?_⟩
  first
   |(conv=>lhs;simp[fc80_b0,evKC,evK,evGuard,put,Env.get,Env.keep,entry,Opd.ev,splice,cutAt,indexD,D.asInt?,D.asNat?,u8,binD,strBin,unD,boundsD,sliceD,iaddrD,sub,minmaxD,eqvL,PD.eqv,clsP,cls,clsR,isCl,isW,apartRW,offB,apartWW,clash,insOk,finish,evRes,evRes1,mapO,D.cells,PD.cells,D.refsL,D.refs,D.toksL,D.toks,mkAgg,pures,fillD,fillE,appendD,srcD,D.elems?,D.asPD,Int.toNat_natCast,srcH,srcBH,eqD,D.asPDL,isMapC,ld_succ,ld_zero,st_succ,st_zero,oI,oS,oN,oP,oB,oL,oT,oF,oE,ldr0,ldr1,ldr2,ldr3,ldr4,ldr5,ldr6,str1',str3',lk,hl,bget,getT,Bin.pd,hgl,hgk,hgv,hg1,hg2,hr,hw1,hw2,s1,hkx,D.ren,below,drP,evRest,behind,pairsOk,panOk,SO.uses,SK.slots,Opd.slots,SK.heapless])
   |(conv=>lhs;simp[fc80_b0,evKC,evK,evGuard,put,Env.get,Env.keep,entry,Opd.ev,splice,cutAt,indexD,D.asInt?,D.asNat?,u8,binD,strBin,unD,boundsD,sliceD,iaddrD,sub,minmaxD,eqvL,PD.eqv,clsP,cls,clsR,isCl,isW,apartRW,offB,apartWW,clash,insOk,finish,evRes,evRes1,mapO,D.cells,PD.cells,D.refsL,D.refs,D.toksL,D.toks,mkAgg,pures,fillD,fillE,appendD,srcD,D.elems?,D.asPD,Int.toNat_natCast,srcH,srcBH,eqD,D.asPDL,isMapC,ld_succ,ld_zero,st_succ,st_zero,oI,oS,oN,oP,oB,oL,oT,oF,oE,ldr0,ldr1,ldr2,ldr3,ldr4,ldr5,ldr6,str1',str3',lk,hl,bget,getT,Bin.pd,hgl,hgk,hgv,hg1,hr,hw1,hw2,s1,hkx,D.ren,below,drP,evRest,behind,pairsOk,panOk,SO.uses,SK.slots,Opd.slots,SK.heapless])
set_option maxHeartbeats 1000000 in
theorem pa_bad2{c:Rd}(h:c.Sz){o:Nat}(lev a:Nat)(cmp:Bool)(z:List PD)(x:Nd)(_ha:a≤c.ts.length){prs:Nat→Nat→PR Nd}(hp:PrsOk c o prs){b:Bin}(g:Go c a lev cmp b)(hb1:a+1≤c.ts.length){y:Nd}{a2:Nat}(hy:prs b.nx (a+1)= .ok y a2){e:Int}{q a3:Nat}(hj:joinedP (c.tok a) b x y a2= .bad e q a3):
    ∃env o',evS (call pg) pg.G iterX fc80_b0 (paS c a o lev cmp z x)=some (.pan (faultD e q),⟨env,(paS c a3 o' lev cmp z x).hp⟩):=by
 have hn:=h.n
 have lk:=fun bx=>look_at h.toOk a o (by omega) bx []
 have hw1:=addw1 (a:=a) (by omega)
 have hkx:=pone_kids x
 simp only[rH,List.append_nil] at lk
 have hlv:=binT_lv g.l
 have hw2:=addw1 (a:=b.lv) (by omega)
 have s1:=hp.ans b.nx (a+1) hb1 (nx_le hlv)
 have s1:=fun bx=>s1.okT hy bx []
 have hky:=pone_kids y
 have j1:=joined_eq h.toOk a2 o (c.tok a) b x y
 simp only[List.map_cons,List.map_nil,List.append_nil,pd_cells y,Nd.cells] at s1
 have kcl:=cls_rdV h.toOk (a+1) o a2 o [z.map .p,x.cells.map .p,[.p (.int .i64 (c.tok a).k),.p (.str (c.tok a).t),.p (.int .i64 (c.tok a).p)],[.p (.int .i64 b.lv),.p (.bool b.r),.p (.int .i64 b.rel),.p (.int .i64 b.alt)]] 80 86 87 (.int .i64 b.nx)
 obtain⟨kc,hkc,hcl⟩:=kcl
 obtain⟨o',j1⟩:=j1.badT hj
 have j1:=fun bx=>j1 bx []
 simp only[List.map_cons,List.map_nil,List.append_nil,pd_cells y,pd_cells x,Nd.cells,Tok.pd,Bin.pd] at j1
 have hl:=fun env ex=>pa_loc h.toOk a3 o' z x ex (.pan (faultD e q)) env rfl
 obtain⟨hgl,hgk,hgv,hgs⟩:=g
 simp only[paS]
 simp only[paB,List.map_cons,List.map_nil,Nd.cells,List.cons_append,List.nil_append] at hl hcl⊢
 generalize c.tok a=t at *
 have e1:((b.lv+1 :Nat):Int)=(b.lv:Int)+1:=rfl
 cases hr:b.r<;>rcases hgs with hg1 |⟨hg1,hg2⟩<;>rcases hkc with rfl |rfl
 all_goals
  simp only[Bin.nx,hr,Bool.false_eq_true,if_false,if_true,e1] at s1 hcl
  simp only[hr] at j1
  apply Exists.intro
  refine⟨o',?_⟩
  first
   |(conv=>lhs;simp[fc80_b0,evKC,evK,evGuard,put,Env.get,Env.keep,entry,Opd.ev,splice,cutAt,indexD,D.asInt?,D.asNat?,u8,binD,strBin,unD,boundsD,sliceD,iaddrD,sub,minmaxD,eqvL,PD.eqv,clsP,cls,clsR,isCl,isW,apartRW,offB,apartWW,clash,insOk,finish,evRes,evRes1,mapO,D.cells,PD.cells,D.refsL,D.refs,D.toksL,D.toks,mkAgg,pures,fillD,fillE,appendD,srcD,D.elems?,D.asPD,Int.toNat_natCast,srcH,srcBH,eqD,D.asPDL,isMapC,ld_succ,ld_zero,st_succ,st_zero,oI,oS,oN,oP,oB,oL,oT,oF,oE,ldr0,ldr1,ldr2,ldr3,ldr4,ldr5,ldr6,str1',str3',lk,hl,↓hcl,bget,getT,Bin.pd,hgl,hgk,hgv,hg1,hg2,hr,hw1,hw2,s1,j1,hkx,hky,D.ren,below,drP,evRest,behind,pairsOk,panOk,SO.uses,SK.slots,Opd.slots,SK.heapless])
   |(conv=>lhs;simp[fc80_b0,evKC,evK,evGuard,put,Env.get,Env.keep,entry,Opd.ev,splice,cutAt,indexD,D.asInt?,D.asNat?,u8,binD,strBin,unD,boundsD,sliceD,iaddrD,sub,minmaxD,eqvL,PD.eqv,clsP,cls,clsR,isCl,isW,apartRW,offB,apartWW,clash,insOk,finish,evRes,evRes1,mapO,D.cells,PD.cells,D.refsL,D.refs,D.toksL,D.toks,mkAgg,pures,fillD,fillE,appendD,srcD,D.elems?,D.asPD,Int.toNat_natCast,srcH,srcBH,eqD,D.asPDL,isMapC,ld_succ,ld_zero,st_succ,st_zero,oI,oS,oN,oP,oB,oL,oT,oF,oE,ldr0,ldr1,ldr2,ldr3,ldr4,ldr5,ldr6,str1',str3',lk,hl,↓hcl,bget,getT,Bin.pd,hgl,hgk,hgv,hg1,hr,hw1,hw2,s1,j1,hkx,hky,D.ren,below,drP,evRest,behind,pairsOk,panOk,SO.uses,SK.slots,Opd.slots,SK.heapless])
set_option maxHeartbeats 1000000 in
theorem pa_step{c:Rd}(h:c.Sz){o:Nat}(lev a:Nat)(cmp:Bool)(z:List PD)(x:Nd)(_ha:a≤c.ts.length){prs:Nat→Nat→PR Nd}(hp:PrsOk c o prs){b:Bin}(g:Go c a lev cmp b)(hb1:a+1≤c.ts.length){y:Nd}{a2:Nat}(hy:prs b.nx (a+1)= .ok y a2){n:Nd}{a3:Nat}(hj:joinedP (c.tok a) b x y a2= .ok n a3):
    evS (call pg) pg.G iterX fc80_b0 (paS c a o lev cmp z x)=some (.norm,paS c a3 o lev (b.lv==7) z n):=by
 have hn:=h.n
 have lk:=fun bx=>look_at h.toOk a o (by omega) bx []
 have hw1:=addw1 (a:=a) (by omega)
 have hkx:=pone_kids x
 simp only[rH,List.append_nil] at lk
 have hlv:=binT_lv g.l
 have hw2:=addw1 (a:=b.lv) (by omega)
 have s1:=hp.ans b.nx (a+1) hb1 (nx_le hlv)
 have s1:=fun bx=>s1.okT hy bx []
 have hky:=pone_kids y
 have j1:=joined_eq h.toOk a2 o (c.tok a) b x y
 simp only[List.map_cons,List.map_nil,List.append_nil,pd_cells y,Nd.cells] at s1
 have kcl:=cls_rdV h.toOk (a+1) o a2 o [z.map .p,x.cells.map .p,[.p (.int .i64 (c.tok a).k),.p (.str (c.tok a).t),.p (.int .i64 (c.tok a).p)],[.p (.int .i64 b.lv),.p (.bool b.r),.p (.int .i64 b.rel),.p (.int .i64 b.alt)]] 80 86 87 (.int .i64 b.nx)
 obtain⟨kc,hkc,hcl⟩:=kcl
 have j1:=fun bx=>j1.okT hj bx []
 have hle:=joined_le hj
 subst hle
 have hkn:=pone_kids n
 simp only[List.map_cons,List.map_nil,List.append_nil,pd_cells y,pd_cells x,pd_cells n,Nd.cells,Tok.pd,Bin.pd] at j1
 have hl:=fun env ex=>pa_loc h.toOk a3 o z n ex .norm env rfl
 have hE:(b.lv==7)=((b.lv:Int)==7):=by rw[Bool.eq_iff_iff];simp;omega
 rw[hE]
 obtain⟨hgl,hgk,hgv,hgs⟩:=g
 simp only[paS]
 simp only[paB,List.map_cons,List.map_nil,Nd.cells,List.cons_append,List.nil_append] at hl hcl⊢
 generalize c.tok a=t at *
 have e1:((b.lv+1 :Nat):Int)=(b.lv:Int)+1:=rfl
 cases hr:b.r<;>rcases hgs with hg1 |⟨hg1,hg2⟩<;>rcases hkc with rfl |rfl
 all_goals
  simp only[Bin.nx,hr,Bool.false_eq_true,if_false,if_true,e1] at s1 hcl
  simp only[hr] at j1
  first
   |simp[fc80_b0,evKC,evK,evGuard,put,Env.get,Env.keep,Opd.ev,splice,cutAt,binD,unD,sub,clsP,cls,clsR,isCl,isW,apartRW,offB,apartWW,clash,insOk,D.cells,D.refsL,D.refs,D.toksL,D.toks,mkAgg,pures,ld_succ,ld_zero,st_succ,st_zero,oP,ldr1,ldr4,str1',lk,hl,↓hcl,bget,getT,Bin.pd,hgl,hgk,hgv,hg1,hg2,hr,hw1,hw2,s1,j1,hkn,D.ren,below]
   |simp[fc80_b0,evKC,evK,evGuard,put,Env.get,Env.keep,Opd.ev,splice,cutAt,binD,unD,sub,clsP,cls,clsR,isCl,isW,apartRW,offB,apartWW,clash,insOk,D.cells,D.refsL,D.refs,D.toksL,D.toks,mkAgg,pures,ld_succ,ld_zero,st_succ,st_zero,oP,ldr1,ldr4,str1',lk,hl,↓hcl,bget,getT,Bin.pd,hgl,hgk,hgv,hg1,hr,hw1,hw2,s1,j1,hkn,D.ren,below]
theorem go_or{c:Rd}{a lev:Nat}{cmp:Bool}{b:Bin}(hl:lookT binT (c.tok a).t=some b)(hx:¬((c.tok a).k=0∨b.lv<lev∨(b.lv=7∧cmp=true))):Go c a lev cmp b:=by
 refine⟨hl,?_,fun q=>hx (.inr (.inl q)),?_⟩
 ·cases hk:((c.tok a).k==0) with
  |false=>rfl
  |true=>exact absurd (.inl (by simpa using hk)) hx
 ·cases h7:((b.lv:Int)==7) with
  |false=>exact .inl rfl
  |true=>
   refine .inr ⟨rfl,?_⟩
   cases cmp with
   |false=>rfl
   |true=>
    have :b.lv=7:=by
     have:=beq_iff_eq.1 h7
     omega
    exact absurd (.inr (.inr ⟨this,rfl⟩)) hx
theorem ops_loop{c:Rd}(h:c.Sz){o:Nat}{prs:Nat→Nat→PR Nd}(hp:PrsOk c o prs)(lev:Nat)(z:List PD):∀(m a:Nat) (cmp:Bool) (x:Nd),a≤c.ts.length→c.ts.length-a<m→match opsP c prs lev m cmp x a with
    | .ok n a'=>a≤a'∧a'≤c.ts.length∧∃env cmp',loopK (call pg) pg.G [0,1,4,5,6] fc80_b0 (paS c a o lev cmp z x)=some (.exit 0,⟨env,(paS c a' o lev cmp' z n).hp⟩)∧env.get 0= .box 0 0∧env.get 4= .box 4 0∧env.get 5= .box 5 0
    | .bad e q a'=>∃env o' cmp' x',loopK (call pg) pg.G [0,1,4,5,6] fc80_b0 (paS c a o lev cmp z x)=some (.pan (faultD e q),⟨env,(paS c a' o' lev cmp' z x').hp⟩):=by
 intro m
 induction m with
 |zero=>intro a cmp x _ h2;omega
 |succ m ih=>
  intro a cmp x ha hm
  unfold opsP
  dsimp only
  cases hl:lookT binT (c.tok a).t with
  |none=>
   obtain⟨env,hs,h1,h2,h3⟩:=pa_out1 h lev a cmp z x ha hl
   exact⟨Nat.le_refl _,ha,env,cmp,loopK_out hs (by simp),h1,h2,h3⟩
  |some b=>
   dsimp only
   by_cases hx:(c.tok a).k=0∨b.lv<lev∨(b.lv=7∧cmp=true)
   ·rw[if_pos hx]
    obtain⟨env,hs,h1,h2,h3⟩:=pa_out2 h lev a cmp z x ha hl hx
    exact⟨Nat.le_refl _,ha,env,cmp,loopK_out hs (by simp),h1,h2,h3⟩
   ·rw[if_neg hx]
    have g:=go_or hl hx
    have hlt:a<c.ts.length:=by
     rcases Nat.lt_or_ge a c.ts.length with q |q
     ·exact q
     ·rw[tok_out q] at hl;cases hl
    have hnx:(if b.r=true then b.lv else b.lv+1)=b.nx:=rfl
    rw[hnx]
    cases hy:prs b.nx (a+1) with
    |bad e q a2=>
     obtain⟨env,o',hs⟩:=pa_bad1 h lev a cmp z x ha hp g hlt hy
     exact⟨env,o',cmp,x,loopK_out hs (by simp)⟩
    |ok y a2=>
     simp only[bind_ok]
     have g2:=hp.adv _ _ _ _ hlt hy
     have g3:=hp.bd _ _ hlt _ _ hy
     cases hj:joinedP (c.tok a) b x y a2 with
     |bad e q a3=>
      obtain⟨env,o',hs⟩:=pa_bad2 h lev a cmp z x ha hp g hlt hy hj
      exact⟨env,o',cmp,x,loopK_out hs (by simp)⟩
     |ok n a3=>
      simp only[bind_ok]
      have hs:=pa_step h lev a cmp z x ha hp g hlt hy hj
      have hle:=joined_le hj
      subst hle
      have:=ih a3 (b.lv==7) n g3 (by omega)
      have hlp:loopK (call pg) pg.G [0,1,4,5,6] fc80_b0 (paS c a o lev cmp z x)=loopK (call pg) pg.G [0,1,4,5,6] fc80_b0 (paS c a3 o lev (b.lv==7) z n):=loopK_norm hs
      rw[hlp]
      cases hr:opsP c prs lev m (b.lv==7) n a3 with
      |ok n' a'=>
       rw[hr] at this
       obtain⟨k1,k2,k3⟩:=this
       exact⟨by omega,k2,k3⟩
      |bad e q a'=>
       rw[hr] at this
       exact this
theorem tok_end{c:Rd}(h:c.Sz){a:Nat}(h0:(c.tok a).k=0):c.tok a=⟨0,[],c.e⟩:=by
 rcases Nat.lt_or_ge a c.ts.length with q |q
 ·rw[tok_in q] at h0;exact absurd h0 (h.k _ (List.getElem_mem q))
 ·exact tok_out q
theorem op_end{c:Rd}(h:c.Sz){o:Nat}(a:Nat)(ha:a≤c.ts.length)(h0:(c.tok a).k=0):Ans 127 [] c a o (fun x:Nd=>.p x.pd) (wrongP c a):=by
 have ht:=tok_end h h0
 have hq:NotQ c a:=not_q (fun q=>q.1 h0) (fun q=>by rw[ht] at q;simp at q)
 refine op_startB h a ha hq (.inl h0) (pr_end h (c.tok a) a ha ?_ h0 ?_ ?_)<;>rw[ht]<;>rfl
theorem operandP_end{c:Rd}(h:c.Sz)(prs:Nat→Nat→PR Nd){a:Nat}(h0:(c.tok a).k=0):operandP c prs a=wrongP c a:=by
 have ht:=tok_end h h0
 have q:=fun s=>acc_end (s:=s) h0
 have hn:nameP c a=wrongP c a:=by simp[nameP,namedB,h0]
 have hp:primaryP c prs (c.tok a) a=wrongP c a:=by
  unfold primaryP
  simp only[q,hn,Bool.false_eq_true,if_false]
  rw[ht]
  rfl
 unfold operandP
 simp only[h0,hp]
 rw[ht]
 rfl
section
variable {c : Rd} (h : c.Sz) {o : Nat} (lev a : Nat) (ha : a ≤ c.ts.length)
include h ha
theorem parse_lim(ho:100≤o)(h0:(c.tok a).k≠0):Ans 80 [.int .i64 lev] c a o (fun x:Nd=>.p x.pd) (.bad 2 (c.tok a).p a):=by
 have hn:=h.n
 have lk:=fun bx=>look_at h.toOk a o (by omega) bx []
 simp only[rH,List.append_nil] at lk
 have ho':(100 :Int)≤(o:Int):=by omega
 have h0':((c.tok a).k !=0)=true:=by simp[h0]
 refine ans_frzBE h.toOk (fc:=fc80) rfl rfl rfl rfl ⟨o,?_⟩
 generalize c.tok a=t at *
 apply Exists.intro
 conv=>lhs;simp[fc80,evKC,evK,evGuard,put,Env.get,Env.keep,entry,Opd.ev,splice,cutAt,indexD,D.asInt?,D.asNat?,u8,binD,strBin,unD,boundsD,sliceD,iaddrD,sub,minmaxD,eqvL,PD.eqv,clsP,cls,clsR,isCl,isW,apartRW,offB,apartWW,clash,insOk,finish,evRes,evRes1,mapO,D.cells,PD.cells,D.refsL,D.refs,D.toksL,D.toks,mkAgg,pures,fillD,fillE,appendD,srcD,D.elems?,D.asPD,Int.toNat_natCast,srcH,srcBH,eqD,D.asPDL,isMapC,ld_succ,ld_zero,st_succ,st_zero,oI,oS,oN,oP,oB,oL,oT,oF,oE,ldr0,ldr1,ldr2,ldr3,ldr4,ldr5,ldr6,str1',str3',lk,ho',h0',fail_eq]
theorem parse_end(ho:o≤1000)(h0:(c.tok a).k=0):Ans 80 [.int .i64 lev] c a o (fun x:Nd=>.p x.pd) (wrongP c a):=by
 have hn:=h.n
 have lk:=fun bx=>look_at h.toOk a o (by omega) bx []
 simp only[rH,List.append_nil] at lk
 have hw:=addw1 (a:=o) (by omega)
 have h0':((c.tok a).k !=0)=false:=by simp[h0]
 have s1:=op_end h (o:=o+1) a ha h0
 unfold wrongP at s1⊢
 obtain⟨o',s1⟩:=s1.badT rfl
 have s1:=fun bx=>s1 bx []
 simp only[List.map_nil,List.append_nil] at s1
 refine ans_frzBE h.toOk (fc:=fc80) rfl rfl rfl rfl ⟨o',?_⟩
 generalize c.tok a=t at *
 by_cases ho':(100 :Int)≤(o:Int)
 ·apply Exists.intro
  conv=>lhs;simp[fc80,evKC,evK,evGuard,put,Env.get,Env.keep,entry,Opd.ev,splice,cutAt,indexD,D.asInt?,D.asNat?,u8,binD,strBin,unD,boundsD,sliceD,iaddrD,sub,minmaxD,eqvL,PD.eqv,clsP,cls,clsR,isCl,isW,apartRW,offB,apartWW,clash,insOk,finish,evRes,evRes1,mapO,D.cells,PD.cells,D.refsL,D.refs,D.toksL,D.toks,mkAgg,pures,fillD,fillE,appendD,srcD,D.elems?,D.asPD,Int.toNat_natCast,srcH,srcBH,eqD,D.asPDL,isMapC,ld_succ,ld_zero,st_succ,st_zero,oI,oS,oN,oP,oB,oL,oT,oF,oE,ldr0,ldr1,ldr2,ldr3,ldr4,ldr5,ldr6,str1',str3',lk,ho',h0',hw,s1]
 ·apply Exists.intro
  conv=>lhs;simp[fc80,evKC,evK,evGuard,put,Env.get,Env.keep,entry,Opd.ev,splice,cutAt,indexD,D.asInt?,D.asNat?,u8,binD,strBin,unD,boundsD,sliceD,iaddrD,sub,minmaxD,eqvL,PD.eqv,clsP,cls,clsR,isCl,isW,apartRW,offB,apartWW,clash,insOk,finish,evRes,evRes1,mapO,D.cells,PD.cells,D.refsL,D.refs,D.toksL,D.toks,mkAgg,pures,fillD,fillE,appendD,srcD,D.elems?,D.asPD,Int.toNat_natCast,srcH,srcBH,eqD,D.asPDL,isMapC,ld_succ,ld_zero,st_succ,st_zero,oI,oS,oN,oP,oB,oL,oT,oF,oE,ldr0,ldr1,ldr2,ldr3,ldr4,ldr5,ldr6,str1',str3',lk,ho',h0',hw,s1]
theorem parse_eq{prs:Nat→Nat→PR Nd}(ho:o<100)(hp:PrsOk c (o+1) prs):Ans 80 [.int .i64 lev] c a o (fun x:Nd=>.p x.pd) ((operandP c prs a).bind fun x a=>opsP c prs lev (c.ts.length+1) false x a):=by
 have hn:=h.n
 have lk:=fun bx=>look_at h.toOk a o (by omega) bx []
 simp only[rH,List.append_nil] at lk
 have hw:=addw1 (a:=o) (by omega)
 have hwo:IntKind.i64.wrap (o:Int)=(o:Int):=wrap64 (by omega) (by omega)
 have ho':¬(100 :Int)≤(o:Int):=by omega
 have s1:=operand_eq h hp a ha
 cases r1:operandP c prs a with
 |bad e q a1=>
  obtain⟨o',s1⟩:=s1.badT r1
  have s1:=fun bx=>s1 bx []
  simp only[List.map_nil,List.append_nil] at s1
  refine ans_frzBE h.toOk (fc:=fc80) rfl rfl rfl rfl ⟨o',?_⟩
  apply Exists.intro
  conv=>lhs;simp[fc80,evKC,evK,evGuard,put,Env.get,Env.keep,entry,Opd.ev,splice,cutAt,indexD,D.asInt?,D.asNat?,u8,binD,strBin,unD,boundsD,sliceD,iaddrD,sub,minmaxD,eqvL,PD.eqv,clsP,cls,clsR,isCl,isW,apartRW,offB,apartWW,clash,insOk,finish,evRes,evRes1,mapO,D.cells,PD.cells,D.refsL,D.refs,D.toksL,D.toks,mkAgg,pures,fillD,fillE,appendD,srcD,D.elems?,D.asPD,Int.toNat_natCast,srcH,srcBH,eqD,D.asPDL,isMapC,ld_succ,ld_zero,st_succ,st_zero,oI,oS,oN,oP,oB,oL,oT,oF,oE,ldr0,ldr1,ldr2,ldr3,ldr4,ldr5,ldr6,str1',str3',lk,ho',hw,s1]
 |ok x a1=>
  have s1:=fun bx=>s1.okT r1 bx []
  have hkx:=pone_kids x
  have hb1:=operand_bd hp ha r1
  simp only[List.map_nil,List.append_nil,pd_cells x,Nd.cells] at s1
  simp only[bind_ok]
  have hL:=ops_loop h hp lev zN0 (c.ts.length+1) a1 false x hb1.2 (by omega)
  cases r2:opsP c prs lev (c.ts.length+1) false x a1 with
  |bad e q a2=>
   rw[r2] at hL
   obtain⟨env,o',cmp,x',hL⟩:=hL
   simp only[paS,paB,zN0,List.map_cons,List.map_nil,Nd.cells] at hL
   refine ans_frzBE h.toOk (fc:=fc80) rfl rfl rfl rfl ⟨o',?_⟩
   apply Exists.intro
   conv=>lhs;simp[fc80,evKC,evK,evGuard,put,Env.get,Env.keep,entry,Opd.ev,splice,cutAt,indexD,D.asInt?,D.asNat?,u8,binD,strBin,unD,boundsD,sliceD,iaddrD,sub,minmaxD,eqvL,PD.eqv,clsP,cls,clsR,isCl,isW,apartRW,offB,apartWW,clash,insOk,finish,evRes,evRes1,mapO,D.cells,PD.cells,D.refsL,D.refs,D.toksL,D.toks,mkAgg,pures,fillD,fillE,appendD,srcD,D.elems?,D.asPD,Int.toNat_natCast,srcH,srcBH,eqD,D.asPDL,isMapC,ld_succ,ld_zero,st_succ,st_zero,oI,oS,oN,oP,oB,oL,oT,oF,oE,ldr0,ldr1,ldr2,ldr3,ldr4,ldr5,ldr6,str1',str3',lk,ho',hw,s1,hkx,hL]
  |ok n a2=>
   rw[r2] at hL
   obtain⟨_,hb2,env,cmp,hL,g0,g4,g5⟩:=hL
   have hkn:=pone_kids n
   simp only[paS,paB,zN0,List.map_cons,List.map_nil,Nd.cells] at hL
   refine ans_frzE h.toOk (fc:=fc80) rfl rfl rfl rfl ?_
   apply Exists.intro
   rw[pd_cells n,Nd.cells]
   conv=>lhs;simp[fc80,evKC,evK,evGuard,put,Env.get,Env.keep,entry,Opd.ev,splice,cutAt,indexD,D.asInt?,D.asNat?,u8,binD,strBin,unD,boundsD,sliceD,iaddrD,sub,minmaxD,eqvL,PD.eqv,clsP,cls,clsR,isCl,isW,apartRW,offB,apartWW,clash,insOk,finish,evRes,evRes1,mapO,D.cells,PD.cells,D.refsL,D.refs,D.toksL,D.toks,mkAgg,pures,fillD,fillE,appendD,srcD,D.elems?,D.asPD,Int.toNat_natCast,srcH,srcBH,eqD,D.asPDL,isMapC,ld_succ,ld_zero,st_succ,st_zero,oI,oS,oN,oP,oB,oL,oT,oF,oE,ldr0,ldr1,ldr2,ldr3,ldr4,ldr5,ldr6,str1',str3',lk,ho',hw,hwo,s1,hkx,hkn,hL,g0,g4,g5,str3]
end
theorem parse_bd{c:Rd}{o:Nat}{prs:Nat→Nat→PR Nd}(h:c.Sz)(hp:PrsOk c o prs)(lev:Nat){a:Nat}(ha:a≤c.ts.length){n:Nd}{a':Nat}(r:((operandP c prs a).bind fun x a=>opsP c prs lev (c.ts.length+1) false x a)= .ok n a'):a<a'∧a'≤c.ts.length:=by
 obtain⟨x,b,h1,h2⟩:=bind_inv r
 have g1:=operand_bd hp ha h1
 have hL:=ops_loop h hp lev [] (c.ts.length+1) b false x g1.2 (by omega)
 rw[h2] at hL
 obtain⟨k1,k2,_⟩:=hL
 omega
theorem wrongP_bad{α:Type}{c:Rd}{a:Nat}{x:α}{a':Nat}:(wrongP c a:PR α)≠.ok x a':=by
 unfold wrongP
 intro h
 cases h
theorem parseP_one{c:Rd}(h:c.Sz)(lev a:Nat):parseP c 1 lev a=if(c.tok a).k≠0 then .bad 2 (c.tok a).p a else wrongP c a:=by
 unfold parseP
 by_cases h0:(c.tok a).k=0
 ·rw[if_neg (fun q=>q.2 h0),if_neg (fun q=>q h0),operandP_end h _ h0]
  rfl
 ·rw[if_pos ⟨rfl,h0⟩,if_pos h0]
theorem parseP_succ(c:Rd)(d lev a:Nat):parseP c (d+2) lev a=(operandP c (parseP c (d+1)) a).bind fun x a=>opsP c (parseP c (d+1)) lev (c.ts.length+1) false x a:=by
 show(if d+1=0∧_ then _ else _)=_
 rw[if_neg (fun q=>by omega)]
theorem prs_ok{c:Rd}(h:c.Sz):∀d,d≤100→PrsOk c (100-d) (parseP c (d+1)):=by
 intro d
 induction d with
 |zero=>
  intro _
  refine⟨fun lev a ha _=>?_,fun lev a ha x a' hr=>?_,fun lev a x a' ha hr=>?_⟩
  ·rw[parseP_one h]
   by_cases h0:(c.tok a).k=0
   ·rw[if_neg (fun q=>q h0)]
    exact parse_end h lev a ha (by omega) h0
   ·rw[if_pos h0]
    exact parse_lim h lev a ha (by omega) h0
  all_goals
   rw[parseP_one h] at hr
   split at hr
   ·cases hr
   ·exact absurd hr wrongP_bad
 |succ d ih=>
  intro hd
  have hp:=ih (by omega)
  have e:100-d=100-(d+1)+1:=by omega
  rw[e] at hp
  refine⟨fun lev a ha _=>?_,fun lev a ha x a' hr=>?_,fun lev a x a' ha hr=>?_⟩
  ·rw[parseP_succ]
   exact parse_eq h lev a ha (by omega) hp
  ·rw[parseP_succ] at hr
   exact(parse_bd h hp lev ha hr).2
  ·rw[parseP_succ] at hr
   exact(parse_bd h hp lev ha hr).1
end Go.Proofs.YtalgjkpkkdljaaaGreatDoor
namespace Go.Proofs.YtalgjkpkkdljaaaGreatDoor
open Go.Vs
def SzP(prs:Nat→Nat→PR Nd):Prop:=∀lev a x a',prs lev a= .ok x a'→x.size+2*a≤2*a'
theorem size_kids(op:Int)(nm:List UInt8)(ks:List Nd)(p:Nat):(kidsN op nm ks p).size=1+Nd.sizeL ks:=by simp[kidsN,Nd.size]
theorem size_leaf(op:Int)(nm:List UInt8)(n:Int)(p:Nat):(leafN op nm n p).size=1:=rfl
theorem size_call(nm:List UInt8)(ks:List Nd)(p:Nat):(callN nm ks p).size=1+Nd.sizeL ks:=by simp[callN,Nd.size]
theorem sizeL_two(x y:Nd):Nd.sizeL [x,y]=x.size+y.size:=by simp[Nd.sizeL]
theorem sizeL_one(x:Nd):Nd.sizeL [x]=x.size:=by simp[Nd.sizeL]
theorem sizeL_app:∀(ks:List Nd) (x:Nd),Nd.sizeL (ks++[x])=Nd.sizeL ks+x.size
 |[],x=>by simp[Nd.sizeL]
 |k::ks,x=>by
  have:=sizeL_app ks x
  simp only[List.cons_append,Nd.sizeL,this];omega
section
variable {c : Rd} {prs : Nat → Nat → PR Nd} (hs : SzP prs)
include hs
theorem quant_sz{op:Int}{p a:Nat}{x:Nd}{a':Nat}(h:quantP c prs op p a= .ok x a'):x.size+2*a≤2*a':=by
 obtain⟨e,a3,f,n1,n2,h3,n4,h5,rfl,_⟩:=quant_inv h
 have g1:=hs _ _ _ _ h3
 have g2:=hs _ _ _ _ h5
 rw[size_kids,sizeL_two]
 omega
theorem argsL_sz:∀(n a:Nat) (ks ks':List Nd) (a':Nat),argsL c prs n ks a= .ok ks' a'→Nd.sizeL ks'+2*a≤Nd.sizeL ks+2*a'
 | 0,a,ks,ks',a',h=>by cases h;omega
 |n+1,a,ks,ks',a',h=>by
  unfold argsL at h
  split at h
  ·cases h;omega
  ·obtain⟨u,b,h1,h⟩:=bind_inv h
   obtain⟨x,b2,h2,h⟩:=bind_inv h
   have g2:=hs _ _ _ _ h2
   have g4:=argsL_sz n b2 _ _ _ h
   have g5:a≤b:=by
    unfold sepP at h1
    split at h1
    ·cases h1;omega
    ·have:=(expect_inv h1).1;omega
   rw[sizeL_app] at g4
   omega
theorem primary_sz{t:Tok}{a:Nat}{n:Nd}{a':Nat}(h:primaryP c prs t a= .ok n a'):n.size+2*a≤2*a':=by
 unfold primaryP at h
 split at h
 ·cases h;rw[size_leaf];omega
 ·split at h
  ·obtain⟨m,b,h1,h⟩:=bind_inv h
   obtain⟨h3,rfl⟩:=number_bd h1
   cases h;rw[size_leaf];omega
  ·split at h
   ·obtain⟨m,b,h1,h⟩:=bind_inv h
    obtain⟨h3,rfl⟩:=number_bd h1
    cases h;rw[size_leaf];omega
   ·split at h
    ·cases h
    ·split at h
     ·unfold noneP at h
      split at h
      ·split at h
       ·obtain⟨n,b,h1,h⟩:=bind_inv h
        obtain⟨u,b2,h2,h⟩:=bind_inv h
        obtain⟨h3,rfl⟩:=number_bd h1
        obtain⟨rfl,h4⟩:=expect_inv h2
        cases h;rw[size_leaf];omega
       ·cases h
      ·cases h;rw[size_leaf];omega
     ·split at h
      ·obtain⟨m,b,h1,h⟩:=bind_inv h
       obtain⟨u,b2,h2,h⟩:=bind_inv h
       have g:=quant_sz hs h1
       obtain⟨rfl,h4⟩:=expect_inv h2
       cases h;omega
      ·split at h
       ·obtain⟨m,b,h1,h⟩:=bind_inv h
        obtain⟨u,b2,h2,h⟩:=bind_inv h
        have g:=hs _ _ _ _ h1
        obtain⟨rfl,h4⟩:=expect_inv h2
        cases h;omega
       ·obtain⟨m,b,h1,h⟩:=bind_inv h
        obtain⟨rfl,h5,h6⟩:=name_inv h1
        split at h
        ·rw[argsP_argsL] at h
         obtain⟨ks,b,h2,h⟩:=bind_inv h
         have g2:=argsL_sz hs _ _ _ _ _ h2
         obtain⟨rfl,rfl,_⟩:=node_inv h
         rw[size_call]
         simp only[Nd.sizeL] at g2
         omega
        ·cases h;rw[size_leaf];omega
omit hs in
theorem primes_sz:∀(m:Nat) (n:Nd) (a:Nat) (n':Nd) (a':Nat),primesP c m n a= .ok n' a'→n'.size+2*a≤n.size+2*a'
 | 0,n,a,n',a',h=>by cases h;omega
 |m+1,n,a,n',a',h=>by
  unfold primesP at h
  split at h
  ·obtain⟨x,b,h1,h⟩:=bind_inv h
   obtain⟨rfl,rfl,_⟩:=node_inv h1
   have:=primes_sz m _ _ n' a' h
   rw[size_kids,sizeL_one] at this
   omega
  ·cases h;omega
theorem operand_sz{a:Nat}{n:Nd}{a':Nat}(h:operandP c prs a= .ok n a'):n.size+2*a≤2*a':=by
 have key:∀{n:Nd} {a':Nat},((primaryP c prs (c.tok a) a).bind fun n a=>primesP c (c.ts.length+1) n a)= .ok n a'→n.size+2*a≤2*a':=by
  intro n a' h
  obtain⟨x,b,h1,h⟩:=bind_inv h
  have g1:=primary_sz hs h1
  have g2:=primes_sz _ _ _ _ _ h
  omega
 unfold operandP at h
 dsimp only at h
 split at h
 ·have:=quant_sz hs h;omega
 ·split at h
  ·have:=quant_sz hs h;omega
  ·split at h
   ·split at h
    ·obtain⟨x,b,h1,h⟩:=bind_inv h
     have g1:=hs _ _ _ _ h1
     obtain⟨rfl,rfl,_⟩:=node_inv h
     rw[size_kids,sizeL_one]
     omega
    ·exact key h
   ·exact key h
omit hs in
theorem joined_sz{t:Tok}{b:Bin}{x y:Nd}{a:Nat}{n:Nd}{a':Nat}(h:joinedP t b x y a= .ok n a'):n.size≤x.size+y.size+2∧a'=a:=by
 unfold joinedP at h
 split at h
 ·cases h
 ·obtain⟨m,b2,h1,h2⟩:=bind_inv h
  cases h2
  obtain⟨rfl,rfl,_⟩:=node_inv h1
  refine⟨?_,rfl⟩
  have e:Nd.sizeL (if t.t=[60,61] then[y,x] else[x,y])=x.size+y.size:=by
   split
   ·rw[sizeL_two];omega
   ·rw[sizeL_two]
  split
  ·rw[size_kids,sizeL_one,size_kids,e];omega
  ·rw[size_kids,e];omega
theorem ops_sz{lev:Nat}:∀(m:Nat) (cmp:Bool) (x:Nd) (a:Nat) (n:Nd) (a':Nat),opsP c prs lev m cmp x a= .ok n a'→n.size+2*a≤x.size+2*a'
 | 0,cmp,x,a,n,a',h=>by cases h;omega
 |m+1,cmp,x,a,n,a',h=>by
  unfold opsP at h
  dsimp only at h
  split at h
  ·cases h;omega
  ·split at h
   ·cases h;omega
   ·obtain⟨y,b,h1,h3⟩:=bind_inv h
    obtain⟨z,b2,h2,h4⟩:=bind_inv h3
    have g1:=hs _ _ _ _ h1
    have g2:=joined_sz h2
    have g3:=ops_sz m _ _ _ _ _ h4
    omega
end
theorem parseP_sz(c:Rd):∀d,SzP (parseP c d)
 | 0=>fun lev a x a' h=>absurd h wrongP_bad
 |d+1=>fun lev a x a' h=>by
  unfold parseP at h
  split at h
  ·cases h
  ·obtain⟨y,b,h1,h2⟩:=bind_inv h
   have g1:=operand_sz (parseP_sz c d) h1
   have g2:=ops_sz (parseP_sz c d) _ _ _ _ _ _ h2
   omega
def AnsC{α:Type}(g:Nat)(args:List PD)(c:Rd)(a o:Nat)(f:α→D):PR α→Prop
 | .ok x a'=>∃ex et,call pg g (.box 0 0::args.map .p) (rH c a o [] [])=some (.val (f x),rH c a' o ex et)
 | .bad e p a'=>∃o' ex et,call pg g (.box 0 0::args.map .p) (rH c a o [] [])=some (.pan (faultD e p),rH c a' o' ex et)
theorem AnsC.ans{α:Type}{g:Nat}{args:List PD}{c:Rd}(hc:c.Ok){a o:Nat}{f:α→D}(hf:∀x bi ti,(f x).ren bi ti=some (f x)){r:PR α}(h:AnsC g args c a o f r):Ans g args c a o f r:=by
 cases r with
 |ok x a'=>exact ans_ok hc (hf x) h
 |bad e p a'=>exact ans_bad hc h
theorem ansC_ok{g:Nat}{args:List PD}{c:Rd}(hc:c.Ok){a o:Nat}{fc:FC}(hl:pgL g (.box 0 0::args.map .p) (rH c a o [] [])=none)(hf:pgF g=some fc)(hn:args.length+1=fc.np)(hz:fc.frozen=true)
    {x:Nd} {a':Nat}
    (e:∃ex,finish pg.G fc.res (evS (call pg) pg.G iterX fc.body ⟨entry 0 (.box 0 0::args.map .p),⟨rC c a o::tabB::tabU::tabS::[],c.tk⟩⟩)=some (.val (.p x.pd),⟨rC c a' o::tabB::tabU::tabS::ex,c.tk⟩)):
    AnsC g args c a o (fun x:Nd=>.p x.pd) (.ok x a'):=by
 obtain⟨ex,e⟩:=e
 have e':finish pg.G fc.res (evS (call pg) pg.G iterX fc.body ⟨entry 0 (.box 0 0::args.map .p),rH c a o [] []⟩)=some (.val (.p x.pd),rH c a' o ex []):=by simpa only[rH,List.append_nil] using e
 exact⟨[],[],call_frz hl hf (by simpa using hn) hz e' (seal_rd hc rfl)⟩
theorem ansC_bad{g:Nat}{args:List PD}{c:Rd}(hc:c.Ok){a o:Nat}{fc:FC}(hl:pgL g (.box 0 0::args.map .p) (rH c a o [] [])=none)(hf:pgF g=some fc)(hn:args.length+1=fc.np)(hz:fc.frozen=true)
    {α:Type} {f:α→D} {er:Int} {p a':Nat}
    (e:∃o' ex,finish pg.G fc.res (evS (call pg) pg.G iterX fc.body ⟨entry 0 (.box 0 0::args.map .p),⟨rC c a o::tabB::tabU::tabS::[],c.tk⟩⟩)=some (.pan (faultD er p),⟨rC c a' o'::tabB::tabU::tabS::ex,c.tk⟩)):
    AnsC g args c a o f (.bad er p a'):=by
 obtain⟨o',ex,e⟩:=e
 have e':finish pg.G fc.res (evS (call pg) pg.G iterX fc.body ⟨entry 0 (.box 0 0::args.map .p),rH c a o [] []⟩)=some (.pan (faultD er p),rH c a' o' ex []):=by simpa only[rH,List.append_nil] using e
 exact⟨o',[],[],call_frz hl hf (by simpa using hn) hz e' (seal_bad hc)⟩
theorem whole_eq{c:Rd}(h:c.Sz)(a:Nat)(ha:a≤c.ts.length):AnsC 48 [] c a 0 (fun x:Nd=>.p x.pd) (wholeP c a):=by
 have hn:=h.n
 have lk:=fun bx=>look_at h.toOk a 0 (by omega) bx []
 simp only[rH,List.append_nil] at lk
 have hp:PrsOk c 0 (parseP c 101):=prs_ok h 100 (by omega)
 have s1:=hp.ans 1 a ha (by omega)
 have e1:((1 :Nat):Int)=1:=rfl
 unfold wholeP
 cases r1:parseP c 101 1 a with
 |bad e q a1=>
  obtain⟨o',s1⟩:=s1.badT r1
  have s1:=fun bx=>s1 bx []
  simp only[List.map_cons,List.map_nil,List.append_nil,e1] at s1
  refine ansC_bad h.toOk (fc:=fc48) rfl rfl rfl rfl ⟨o',?_⟩
  apply Exists.intro
  conv=>lhs;simp[fc48,evKC,evK,evGuard,put,Env.get,Env.keep,entry,Opd.ev,splice,cutAt,indexD,D.asInt?,D.asNat?,u8,binD,strBin,unD,boundsD,sliceD,iaddrD,sub,minmaxD,eqvL,PD.eqv,clsP,cls,clsR,isCl,isW,apartRW,offB,apartWW,clash,insOk,finish,evRes,evRes1,mapO,D.cells,PD.cells,D.refsL,D.refs,D.toksL,D.toks,mkAgg,pures,fillD,fillE,appendD,srcD,D.elems?,D.asPD,Int.toNat_natCast,srcH,srcBH,eqD,D.asPDL,isMapC,ld_succ,ld_zero,st_succ,st_zero,oI,oS,oN,oP,oB,oL,oT,oF,oE,ldr0,ldr1,ldr2,ldr3,ldr4,ldr5,ldr6,str1',str3',lk,s1]
 |ok x a1=>
  have s1:=fun bx=>s1.okT r1 bx []
  have hkx:=pone_kids x
  have hb1:=hp.bd 1 a ha x a1 r1
  have hsz:=parseP_sz c 101 1 a x a1 r1
  have hv:=valid_eq (a:=x) (by omega)
  have ki:=kind_eq x.op
  simp only[List.map_cons,List.map_nil,List.append_nil,pd_cells x,Nd.cells,e1] at s1 hv
  simp only[bind_ok]
  generalize c.tok a=t at *
  by_cases hk:knd x.op=3
  ·have hk':(knd x.op !=3)=false:=by simp[hk]
   rw[if_neg (by simp[hk])]
   cases hvx:validN x with
   |true=>
    rw[hvx] at hv
    rw[if_neg (by simp)]
    refine ansC_ok h.toOk (fc:=fc48) rfl rfl rfl rfl ?_
    apply Exists.intro
    rw[pd_cells x,Nd.cells]
    conv=>lhs;simp[fc48,evKC,evK,evGuard,put,Env.get,Env.keep,entry,Opd.ev,splice,cutAt,indexD,D.asInt?,D.asNat?,u8,binD,strBin,unD,boundsD,sliceD,iaddrD,sub,minmaxD,eqvL,PD.eqv,clsP,cls,clsR,isCl,isW,apartRW,offB,apartWW,clash,insOk,finish,evRes,evRes1,mapO,D.cells,PD.cells,D.refsL,D.refs,D.toksL,D.toks,mkAgg,pures,fillD,fillE,appendD,srcD,D.elems?,D.asPD,Int.toNat_natCast,srcH,srcBH,eqD,D.asPDL,isMapC,ld_succ,ld_zero,st_succ,st_zero,oI,oS,oN,oP,oB,oL,oT,oF,oE,ldr0,ldr1,ldr2,ldr3,ldr4,ldr5,ldr6,str1',str3',lk,s1,ki,hk',hv,hkx]
   |false=>
    rw[hvx] at hv
    rw[if_pos rfl]
    refine ansC_bad h.toOk (fc:=fc48) rfl rfl rfl rfl ⟨0,?_⟩
    apply Exists.intro
    conv=>lhs;simp[fc48,evKC,evK,evGuard,put,Env.get,Env.keep,entry,Opd.ev,splice,cutAt,indexD,D.asInt?,D.asNat?,u8,binD,strBin,unD,boundsD,sliceD,iaddrD,sub,minmaxD,eqvL,PD.eqv,clsP,cls,clsR,isCl,isW,apartRW,offB,apartWW,clash,insOk,finish,evRes,evRes1,mapO,D.cells,PD.cells,D.refsL,D.refs,D.toksL,D.toks,mkAgg,pures,fillD,fillE,appendD,srcD,D.elems?,D.asPD,Int.toNat_natCast,srcH,srcBH,eqD,D.asPDL,isMapC,ld_succ,ld_zero,st_succ,st_zero,oI,oS,oN,oP,oB,oL,oT,oF,oE,ldr0,ldr1,ldr2,ldr3,ldr4,ldr5,ldr6,str1',str3',lk,s1,ki,hk',hv,hkx,fail_eq]
  ·have hk':(knd x.op !=3)=true:=by simp[hk]
   rw[if_pos hk]
   refine ansC_bad h.toOk (fc:=fc48) rfl rfl rfl rfl ⟨0,?_⟩
   apply Exists.intro
   conv=>lhs;simp[fc48,evKC,evK,evGuard,put,Env.get,Env.keep,entry,Opd.ev,splice,cutAt,indexD,D.asInt?,D.asNat?,u8,binD,strBin,unD,boundsD,sliceD,iaddrD,sub,minmaxD,eqvL,PD.eqv,clsP,cls,clsR,isCl,isW,apartRW,offB,apartWW,clash,insOk,finish,evRes,evRes1,mapO,D.cells,PD.cells,D.refsL,D.refs,D.toksL,D.toks,mkAgg,pures,fillD,fillE,appendD,srcD,D.elems?,D.asPD,Int.toNat_natCast,srcH,srcBH,eqD,D.asPDL,isMapC,ld_succ,ld_zero,st_succ,st_zero,oI,oS,oN,oP,oB,oL,oT,oF,oE,ldr0,ldr1,ldr2,ldr3,ldr4,ldr5,ldr6,str1',str3',lk,s1,ki,hk',hkx,fail_eq]
end Go.Proofs.YtalgjkpkkdljaaaGreatDoor
namespace Go.Proofs.YtalgjkpkkdljaaaGreatDoor
open Go.Vs
def rM(c:Rd)(a o m1 m2 m3:Nat):List D:=.p (slP 3 (c.l.map Tok.pd)):: .p (.int .i64 a):: .p (.int .i64 c.e):: .p (.int .i64 o):: .mapr m1:: .mapr m2:: .mapr m3::c.X
theorem rM_rC(c:Rd)(a o:Nat):rM c a o 1 2 3=rC c a o:=rfl
theorem ren_rM{c:Rd}{bi ti:Nat→Option Nat}{m1 m2 m3 n1 n2 n3:Nat}(h1:bi m1=some n1)(h2:bi m2=some n2)(h3:bi m3=some n3)(h:D.renL bi ti c.X=some c.X)(a o:Nat):D.renL bi ti (rM c a o m1 m2 m3)=some (rM c a o n1 n2 n3):=by
 simp[rM,D.renL,D.ren,h1,h2,h3,h]
theorem refs_rM{c:Rd}(h:c.Ok)(a o m1 m2 m3:Nat):D.refsL (rM c a o m1 m2 m3)=[m1,m2,m3]:=by
 simp[rM,D.refsL,D.refs,h.refs]
theorem toks_rM(c:Rd)(a o m1 m2 m3:Nat):D.toksL (rM c a o m1 m2 m3)=D.toksL c.X:=by
 simp[rM,D.toksL,D.toks]
theorem set_noop{α:Type}{l:List α}{i:Nat}{x:α}(h:l[i]? =some x):l.set i x=l:=by
 apply List.ext_getElem?
 intro j
 by_cases hj:i=j
 ·subst hj
  rw[List.getElem?_set_self (List.getElem?_eq_some_iff.1 h).1,h]
 ·rw[List.getElem?_set_ne hj]
theorem nd4{i m1 m2 m3:Nat}(h:Vs.nodupB [i,m1,m2,m3]=true):i≠m1∧i≠m2∧i≠m3∧m1≠m2∧m1≠m3∧m2≠m3:=by
 simp[Vs.nodupB] at h
 omega
theorem callD_rM{g:Nat}{args:List PD}{c c':Rd}(hc:c.Ok)(hc':c'.Ok)(ht:c'.tk.length=c.tk.length){a o a' o' i m1 m2 m3:Nat}{H:Hp}{t:List Nat}
    (hn:Vs.nodupB [i,m1,m2,m3]=true) (hi:H.bx[i]? =some (rM c a o m1 m2 m3)) (g1:H.bx[m1]? =some tabB) (g2:H.bx[m2]? =some tabU) (g3:H.bx[m3]? =some tabS) (hT:H.tk=c.tk++t)
    {r:Res} {ex:List (List D)} {et:List Nat} (hd:∀bi ti,r.ren bi ti=some r) (h:call pg g (.box 0 0::args.map .p) (rH c a o [] [])=some (r,rH c' a' o' ex et)):
    callD (call pg) g (.box i 0::args.map .p) H=some (r,⟨H.bx.set i (rM c' a' o' m1 m2 m3),c'.tk++t⟩):=by
 obtain⟨n1,n2,n3,n4,n5,n6⟩:=nd4 hn
 have z0:D.refsL (D.box i 0::args.map .p)=[i]:=by simp[D.refsL,D.refs]
 have z1:D.toksL (D.box i 0::args.map .p)=[]:=by
  have :∀l:List PD,D.toksL (l.map .p)=[]:=fun l=>by induction l with |nil=>rfl |cons x l ih=>simp[D.toksL,D.toks,ih]
  simp[D.toksL,D.toks,this]
 have i1:ins [] (D.refsL (D.box i 0::args.map .p))=[i]:=by rw[z0];rfl
 have r0:boxRefs H [i]=[m1,m2,m3]:=by simp only[boxRefs,hi,refs_rM hc,List.append_nil]
 have rt:∀{m:Nat} {T:List D},H.bx[m]? =some T→D.refsL T=[]→boxRefs H [m]=[]:=fun {m T} h1 h2=>by simp only[boxRefs,h1,h2,List.append_nil]
 have r1:boxRefs H [i,m1,m2,m3]=[m1,m2,m3]:=by
  simp only[boxRefs,hi,g1,g2,g3,refs_rM hc,List.append_nil]
  rfl
 have q1:ins [i] [m1,m2,m3]=[i,m1,m2,m3]:=by
  simp[ins,Ne.symm n1,Ne.symm n2,Ne.symm n3,Ne.symm n4,Ne.symm n5,Ne.symm n6]
 have q2:ins [i,m1,m2,m3] [m1,m2,m3]=[i,m1,m2,m3]:=by simp[ins]
 have fx:∀n,reach H n [i,m1,m2,m3]=[i,m1,m2,m3]:=fun n=>by
  induction n with
  |zero=>rfl
  |succ n ih=>simp only[reach,r1,q2,ih]
 have l1:=(List.getElem?_eq_some_iff.1 hi).1
 have l2:=(List.getElem?_eq_some_iff.1 g1).1
 have e7:reach H H.bx.length [i]=[i,m1,m2,m3]:=by
  obtain⟨n,hn'⟩:∃n,H.bx.length=n+1:=⟨H.bx.length-1,by omega⟩
  rw[hn']
  simp only[reach,r0,q1,fx]
 have e3:boxToks H [i,m1,m2,m3]=D.toksL c.X:=by
  simp only[boxToks,hi,g1,g2,g3,toks_rM,List.append_nil]
  exact List.append_nil _
 have x1:idx [i,m1,m2,m3] i=some 0:=by simp[idx]
 have x2:idx [i,m1,m2,m3] m1=some 1:=by simp[idx,n1]
 have x3:idx [i,m1,m2,m3] m2=some 2:=by simp[idx,n2,n4]
 have x4:idx [i,m1,m2,m3] m3=some 3:=by simp[idx,n3,n5,n6]
 have e4:D.renL (idx [i,m1,m2,m3]) (idx (List.range c.tk.length)) (D.box i 0::args.map .p)=some (.box 0 0::args.map .p):=by
  have :∀(f g:Nat→Option Nat) (l:List PD),D.renL f g (l.map .p)=some (l.map .p):=fun f g l=>by induction l with |nil=>rfl |cons x l ih=>simp[D.renL,D.ren,ih]
  simp only[D.renL,D.ren,x1,this,Option.map_some]
 have e5:mapO (fun j=>match H.bx[j]? with |some cs=>D.renL (idx [i,m1,m2,m3]) (idx (List.range c.tk.length)) cs |none=>none) [i,m1,m2,m3]=some [rC c a o,tabB,tabU,tabS]:=by
  simp only[mapO,hi,g1,g2,g3,ren_rM (c:=c) (bi:=idx [i,m1,m2,m3]) x2 x3 x4 (hc.ren _)]
  rfl
 have e6:mapO (fun j=>H.tk[j]?) (List.range c.tk.length)=some c.tk:=by rw[hT];exact mapO_range
 have n1':(Vs.nodupB [i,m1,m2,m3]&&Vs.nodupB (List.range c.tk.length))=true:=by rw[nodup_range,hn];rfl
 have h':call pg g (.box 0 0::args.map .p) ⟨[rC c a o,tabB,tabU,tabS],c.tk⟩=some (r,rH c' a' o' ex et):=by
  have :rH c a o [] []=⟨[rC c a o,tabB,tabU,tabS],c.tk⟩:=by simp[rH]
  rw[←this];exact h
 have e8:back [i,m1,m2,m3] (List.range c.tk.length) H r (rH c' a' o' ex et)=some (r,⟨H.bx.set i (rM c' a' o' m1 m2 m3),c'.tk++t⟩):=by
  have k1:firstN (rH c' a' o' ex et).bx 4=some [rC c' a' o',tabB,tabU,tabS]:=by simp[firstN,rH]
  have k2:firstN (rH c' a' o' ex et).tk (List.range c.tk.length).length=some c'.tk:=by
   simp only[firstN,rH,List.length_range,List.length_append,ht,Nat.le_add_right,if_true]
   rw[←ht,List.take_left]
  have hb:=hc'.back (fun j=>[i,m1,m2,m3][j]?)
  rw[ht] at hb
  have k3:mapO (D.renL (fun j=>[i,m1,m2,m3][j]?) (fun t=>(List.range c.tk.length)[t]?)) [rC c' a' o',tabB,tabU,tabS]=some [rM c' a' o' m1 m2 m3,tabB,tabU,tabS]:=by
   have kk:D.renL (fun j=>[i,m1,m2,m3][j]?) (fun t=>(List.range c.tk.length)[t]?) (rC c' a' o')=some (rM c' a' o' m1 m2 m3):=by
    rw[←rM_rC]
    exact ren_rM (c:=c') (bi:=fun j=>[i,m1,m2,m3][j]?) (ti:=fun t=>(List.range c.tk.length)[t]?) (m1:=1) (m2:=2) (m3:=3) (n1:=m1) (n2:=m2) (n3:=m3) rfl rfl rfl hb a' o'
   simp only[mapO,kk]
   rfl
  simp only[back,List.length_cons,List.length_nil,k1,k2,k3,hd]
  have p1:putAll H.bx [i,m1,m2,m3] [rM c' a' o' m1 m2 m3,tabB,tabU,tabS]=H.bx.set i (rM c' a' o' m1 m2 m3):=by
   simp only[putAll]
   have w1:(H.bx.set i (rM c' a' o' m1 m2 m3))[m1]? =some tabB:=by rw[List.getElem?_set_ne n1];exact g1
   have w2:(H.bx.set i (rM c' a' o' m1 m2 m3))[m2]? =some tabU:=by rw[List.getElem?_set_ne n2];exact g2
   have w3:(H.bx.set i (rM c' a' o' m1 m2 m3))[m3]? =some tabS:=by rw[List.getElem?_set_ne n3];exact g3
   rw[set_noop w1,set_noop w2,set_noop w3]
  have p2:putAll H.tk (List.range c.tk.length) c'.tk=c'.tk++t:=by rw[hT];exact putAll_range c'.tk t c.tk ht.symm
  rw[p1,p2]
 have i2:ins [] (D.toksL c.X)=List.range c.tk.length:=hc.toks
 simp only[callD,i1,e7,z1,List.nil_append,e3,i2,n1',if_true,e4,e6]
 erw [e5]
 simp only[h',e8]
theorem AnsC.bad_at{α:Type}{g:Nat}{args:List PD}{c:Rd}(hc:c.Ok){a o:Nat}{f:α→D}{r:PR α}{er:Int}{p a':Nat}(h:AnsC g args c a o f r)(e:r= .bad er p a'):
    ∃o',∀{i m1 m2 m3:Nat} {H:Hp} {t:List Nat},Vs.nodupB [i,m1,m2,m3]=true→H.bx[i]? =some (rM c a o m1 m2 m3)→H.bx[m1]? =some tabB→H.bx[m2]? =some tabU→H.bx[m3]? =some tabS→H.tk=c.tk++t→
    callD (call pg) g (.box i 0::args.map .p) H=some (.pan (faultD er p),⟨H.bx.set i (rM c a' o' m1 m2 m3),H.tk⟩):=by
 subst e
 obtain⟨o',ex,et,h⟩:=h
 refine⟨o',fun {i m1 m2 m3 H t} hn hi g1 g2 g3 hT=>?_⟩
 rw[hT]
 exact callD_rM hc hc rfl hn hi g1 g2 g3 hT (fun bi ti=>rfl) h
end Go.Proofs.YtalgjkpkkdljaaaGreatDoor
namespace Go.Proofs.YtalgjkpkkdljaaaGreatDoor.Lx
open Go.Vs
theorem lexLoop_len(s:List UInt8):∀(n i:Nat) (acc:List Tok),i≤s.length→acc.length≤i→(lexLoop s n i acc).1.length≤s.length
 | 0,i,acc,h,k=>by simp only[lexLoop];omega
 |n+1,i,acc,h,k=>by
  simp only[lexLoop]
  split
  ·rename_i hi
   split
   ·rename_i hok
    have hpos:=tok_pos hi hok
    have hend:=tok_end h
    have:=skipTo_le hend
    exact lexLoop_len s n _ _ this.2 (by simp;omega)
   ·simp
  ·simp only;omega
theorem lex_len(s:List UInt8):(lex s).1.length≤s.length:=by
 unfold lex
 split
 ·simp
 ·exact lexLoop_len s _ _ _ (skipTo_le (Nat.zero_le _)).2 (by simp)
theorem lexLoop_mem(s:List UInt8):∀(n i:Nat) (acc:List Tok) (t:Tok),t∈(lexLoop s n i acc).1→t∈acc∨∃j,j<s.length∧t=(tokAt s j).1∧(tokAt s j).2=true
 | 0,i,acc,t,h=>by simp only[lexLoop] at h;exact .inl h
 |n+1,i,acc,t,h=>by
  simp only[lexLoop] at h
  split at h
  ·rename_i hi
   split at h
   ·rename_i hok
    rcases lexLoop_mem s n _ _ t h with q |q
    ·rcases List.mem_append.1 q with q |q
     ·exact .inl q
     ·rw[List.mem_singleton.1 q];exact .inr ⟨i,hi,rfl,hok⟩
    ·exact .inr q
   ·simp at h
  ·exact .inl h
theorem lex_mem{s:List UInt8}{t:Tok}(h:t∈(lex s).1):∃j,j<s.length∧t=(tokAt s j).1∧(tokAt s j).2=true:=by
 unfold lex at h
 split at h
 ·simp at h
 ·rcases lexLoop_mem s _ _ _ t h with q |q
  ·simp at q
  ·exact q
theorem dec_digits:∀(l:List UInt8) (acc:Nat),(∀b∈l,diB b=true)→∃n,Lib.decFrom acc l=some n
 |[],acc,_=>⟨acc,rfl⟩
 |b::l,acc,h=>by
  have hb:=h b (by simp)
  rw[isD_iff,Bool.and_eq_true] at hb
  have h1:=of_decide_eq_true hb.1
  have h2:=of_decide_eq_true hb.2
  obtain⟨n,hn⟩:=dec_digits l (acc*10+(b.toNat-48)) (fun x hx=>h x (by simp[hx]))
  refine⟨n,?_⟩
  simp only[Lib.decFrom,Lib.digitVal]
  rw[if_pos ⟨h1,h2⟩]
  exact hn
theorem tw_mem{w:UInt8→Bool}:∀{l:List UInt8} {b:UInt8},b∈l.takeWhile w→w b=true
 |[],b,h=>by simp at h
 |c::l,b,h=>by
  rw[List.takeWhile_cons] at h
  split at h
  ·rename_i hc
   rcases List.mem_cons.1 h with q |q
   ·rw[q];exact hc
   ·exact tw_mem q
  ·simp at h
theorem sub_tw(w:UInt8→Bool)(s:List UInt8)(i:Nat):sub s i (adv w s i)=(s.drop i).takeWhile w:=sub_adv w s i
theorem num_tok{s:List UInt8}{j:Nat}(hj:j<s.length)(hd:diB (ch s j)=true)(hk:numOk s j=true):∃n:Nat,Lib.atoi (sub s j (adv diB s j))=some (n:Int)∧n≤999999999∧(sub s j (adv diB s j)).length≤9:=by
 unfold numOk at hk
 rw[Bool.and_eq_true,Bool.and_eq_true] at hk
 have h9:=of_decide_eq_true hk.1.1
 rw[sub_tw] at h9⊢
 have hne:(s.drop j).takeWhile diB=ch s j::(s.drop (j+1)).takeWhile diB:=by
  rw[List.drop_eq_getElem_cons hj,ch_get2 hj,List.takeWhile_cons,if_pos hd]
 obtain⟨n,hn⟩:=dec_digits ((s.drop j).takeWhile diB) 0 (fun b hb=>tw_mem hb)
 have hlt:=Lib.decFrom_lt _ _ _ hn
 have hp:10 ^ ((s.drop j).takeWhile diB).length≤10 ^ 9:=Nat.pow_le_pow_right (by omega) h9
 refine⟨n,?_,by omega,h9⟩
 rw[hne] at hn⊢
 rw[isD_iff,Bool.and_eq_true] at hd
 have h1:=of_decide_eq_true hd.1
 have h2:=of_decide_eq_true hd.2
 have a1:(ch s j==45)=false:=by
  cases hq:(ch s j==45) with
  |false=>rfl
  |true=>rw[beq_iff_eq] at hq;rw[hq] at h1;revert h1;decide
 have a2:(ch s j==43)=false:=by
  cases hq:(ch s j==43) with
  |false=>rfl
  |true=>rw[beq_iff_eq] at hq;rw[hq] at h1;revert h1;decide
 simp only[Lib.atoi,a1,a2,Bool.false_eq_true,if_false,Lib.decNat,List.isEmpty_cons,hn,Option.map_some]
end Go.Proofs.YtalgjkpkkdljaaaGreatDoor.Lx
namespace Go.Proofs.YtalgjkpkkdljaaaGreatDoor
open Go.Vs
def toSl(l:List Tok):Sl Tok:=match l with
 |[]=>.amb
 |x::r=>.of (x::r)
theorem els_toSl(l:List Tok):els (toSl l)=l:=by cases l<;>rfl
theorem slP_toSl(l:List Tok):slP 3 ((toSl l).map Tok.pd)= .slice 3 (l.map Tok.pd):=by cases l<;>rfl
def rdF(s:List UInt8)(f:List PD):Rd:=⟨toSl (Lx.lex s).1,s.length,[.tsl 0 34 2 f,.p .nils,.p .nils,.p .nils,.p .nils],[f.length]⟩
theorem rdF_ts(s:List UInt8)(f:List PD):(rdF s f).ts=(Lx.lex s).1:=els_toSl _
theorem rdF_ok(s:List UInt8)(f:List PD):(rdF s f).Ok:=by
 refine⟨rfl,rfl,rfl,fun bi ti h=>?_,fun H=>rfl⟩
 have:=h 0 (by simp[rdF])
 simp[rdF,D.renL,D.ren,this]
theorem rdF_sz(s:List UInt8)(f:List PD)(hs:s.length≤20000):(rdF s f).Sz:=by
 have hmem:∀x∈(rdF s f).ts,∃j,j<s.length∧x=(Lx.tokAt s j).1∧(Lx.tokAt s j).2=true:=fun x hx=>by
  rw[rdF_ts] at hx;exact Lx.lex_mem hx
 refine⟨rdF_ok s f,?_,?_,fun x hx=>?_,fun x hx=>?_,fun x hx=>?_,fun x hx hk=>?_⟩
 ·rw[rdF_ts];have:=Lx.lex_len s;omega
 ·show s.length≤_;omega
 ·obtain⟨j,hj,rfl,hok⟩:=hmem x hx
  rw[Lx.tok_at];omega
 ·obtain⟨j,hj,rfl,hok⟩:=hmem x hx
  unfold Lx.tokAt
  split
  ·simp
  ·split<;>simp
 ·obtain⟨j,hj,rfl,hok⟩:=hmem x hx
  have:=Lx.tok_end (Nat.le_of_lt hj)
  omega
 ·obtain⟨j,hj,rfl,hok⟩:=hmem x hx
  revert hk hok
  unfold Lx.tokAt
  split
  ·intro _ hk;simp at hk
  ·split
   ·rename_i hd
    intro hok hk
    exact Lx.num_tok hj hd hok
   ·intro _ hk;simp at hk
section
variable {G : Nat → Option (List PD)} {bx : List (List D)} {tk : List Nat} {c : Rd} {a o m1 m2 m3 i n : Nat} {x y : PD}
theorem ld_ptr:loadD G ⟨[.box i n]::bx,tk⟩ none (.box 0 0)=some (.box i n):=rfl
theorem ld_one:loadD G ⟨[.p x]::bx,tk⟩ none (.box 0 0)=some (.p x):=rfl
theorem st_one(h:y.one=true):storeD ⟨[.p x]::bx,tk⟩ 1 (.box 0 0) (.p y)=some ⟨[.p y]::bx,tk⟩:=by
 have h1:(D.p y).one=true:=h
 have h2:(D.p y).cells=[.p y]:=by cases y<;>first |rfl |cases h
 simp[storeD,isMapC,h2,h1,splice]
theorem stM3(k:Nat):storeD ⟨rM c a o m1 m2 m3::bx,tk⟩ 1 (.box 0 3) (.p (.int .i64 k))=some ⟨rM c a k m1 m2 m3::bx,tk⟩:=by
 simp[storeD,rM,isMapC,D.cells,D.one,PD.one,splice]
end
theorem callD_of{c:CallR}{f:Nat}{args:List D}{H:Hp}(ids tks:List Nat){as1:List D}{bx:List (List D)}{tk:List Nat}{r:Res}{H':Hp}
    (h1:reach H H.bx.length (ins [] (D.refsL args))=ids) (h2:ins [] (D.toksL args++boxToks H ids)=tks) (h3:(Vs.nodupB ids&&Vs.nodupB tks)=true)
    (h4:D.renL (idx ids) (idx tks) args=some as1) (h5:mapO (fun i=>match H.bx[i]? with |some cs=>D.renL (idx ids) (idx tks) cs |none=>none) ids=some bx)
    (h6:mapO (fun t=>H.tk[t]?) tks=some tk) (h7:c f as1 ⟨bx,tk⟩=some (r,H')):callD c f args H=back ids tks H r H':=by
 simp only[callD,h1,h2,h3,h4,h6,if_true]
 erw [h5]
 simp only[h7]
end Go.Proofs.YtalgjkpkkdljaaaGreatDoor
namespace Go.Proofs.YtalgjkpkkdljaaaGreatDoor
open Go.Vs
def Rd.flt(c:Rd)(f:List PD)(Y:List D)(t:List Nat):Rd:=⟨c.l,c.e,.tsl 0 34 2 f::Y,f.length::t⟩
def dg(e:Int)(p:Nat):PD:=.agg [.int .i64 e,.int .i64 p]
def H77(c:Rd)(a o:Nat)(b:Bool)(ex:List (List D)):Hp:=⟨[.box 2 0]::[.p (.bool b)]::rM c a o 3 4 5::tabB::tabU::tabS::ex,c.tk⟩
theorem ev77(rv:D)(H:Hp):evDef (call pg) pg.D pg.G iterX 77 [rv,.box 0 0,.box 1 0] H=(match finish pg.G fc77.res (evS (call pg) pg.G iterX fc77.body ⟨[(5,rv),(0,.box 0 0),(1,.box 1 0)],H⟩) with |some (.val d,H')=>some (.val d,H') |_=>none):=rfl
theorem d77_ok(c:Rd)(a o:Nat)(b:Bool):evDef (call pg) pg.D pg.G iterX 77 [.p .nili,.box 0 0,.box 1 0] (H77 c a o b [])=some (.val .undef,H77 c a o b []):=by
 rw[ev77]
 simp[fc77,evKC,evK,put,Env.get,Env.keep,Opd.ev,finish,evRes,eqD]
section
variable {G : Nat → Option (List PD)} {bx : List (List D)} {tk : List Nat} {c : Rd} {a o m1 m2 m3 : Nat} {f g : List PD} {Y : List D} {t : List Nat}
theorem ldM7:loadD G ⟨rM (c.flt f Y t) a o m1 m2 m3::bx,tk⟩ none (.box 0 7)=some (.tsl 0 34 2 f):=rfl
theorem stM7:storeD ⟨rM (c.flt f Y t) a o m1 m2 m3::bx,tk⟩ 1 (.box 0 7) (.tsl 0 34 2 g)=some ⟨rM (c.flt g Y t) a o m1 m2 m3::bx,tk⟩:=by
 simp[storeD,rM,Rd.flt,isMapC,D.cells,D.one,splice]
theorem append_f{x:PD}(hf:f.length≤1000):appendD 34 2 16 (.tsl 0 34 2 f) [x] ⟨bx,f.length::t⟩=some (.tsl 0 34 2 (f++[x]),⟨bx,(f.length+1)::t⟩):=by
 have hr:roomy (f.length+1) 16=true:=by simp only[roomy,Bool.and_eq_true,decide_eq_true_eq];omega
 simp[appendD,hr]
theorem flt_tk:(c.flt f Y t).tk=f.length::t:=rfl
end
theorem d77_bad(c:Rd)(f:List PD)(Y:List D)(t:List Nat)(hf:f.length≤1000)(a o:Nat)(b:Bool)(e:Int)(p:Nat):
    evDef (call pg) pg.D pg.G iterX 77 [faultD e p,.box 0 0,.box 1 0] (H77 (c.flt f Y t) a o b [])=some (.val .undef,H77 (c.flt (f++[dg e p]) Y t) a 0 false [[.p (.int .i64 e),.p (.int .i64 p)]]):=by
 have ha:=fun bx x=>append_f (bx:=bx) (t:=t) (x:=x) hf
 have hs:=fun bx tk n=>stM3 (bx:=bx) (tk:=tk) (c:=c.flt (f++[dg e p]) Y t) (a:=a) (o:=o) (m1:=3) (m2:=4) (m3:=5) n
 have h0:=fun bx tk=>hs bx tk 0
 have e0:((0 :Nat):Int)=0:=rfl
 rw[e0] at h0
 rw[ev77]
 simp only[H77,flt_tk,List.length_append,List.length_cons,List.length_nil,Nat.zero_add,faultD,dg] at h0⊢
 simp[fc77,evKC,evK,put,Env.get,Env.keep,Opd.ev,splice,cutAt,unD,sub,clsP,cls,clsR,isCl,isW,apartRW,offB,apartWW,clash,insOk,finish,evRes,D.cells,PD.cells,mkAgg,pures,fillE,srcD,D.elems?,D.asPD,srcH,eqD,ld_succ,ld_zero,st_succ,st_zero,oP,ld_ptr,st_one (oB _),ldM7,stM7,ha,tassertD,h0]
theorem refsB:D.refsL tabB=[]:=rfl
theorem refsU:D.refsL tabU=[]:=rfl
theorem refsS:D.refsL tabS=[]:=rfl
theorem toksB:D.toksL tabB=[]:=rfl
theorem toksU:D.toksL tabU=[]:=rfl
theorem toksS:D.toksL tabS=[]:=rfl
theorem renB(bi ti:Nat→Option Nat):D.renL bi ti tabB=some tabB:=rfl
theorem renU(bi ti:Nat→Option Nat):D.renL bi ti tabU=some tabU:=rfl
theorem renS(bi ti:Nat→Option Nat):D.renL bi ti tabS=some tabS:=rfl
end Go.Proofs.YtalgjkpkkdljaaaGreatDoor
namespace Go.Proofs.YtalgjkpkkdljaaaGreatDoor
open Go.Vs
structure Sp where
 f:List PD
 S:List (List UInt8×Bool)
 F:List (List UInt8×List Nat×Bool)
 P:List (List UInt8×List (List UInt8×Nat)×Nd)
 A:List (List UInt8×Nd)
def sPD(x:List UInt8×Bool):PD:=.agg [.str x.1,.bool x.2]
def iPD(i:Nat):PD:=.int .i64 i
def fPD(x:List UInt8×List Nat×Bool):PD:=.agg [.str x.1,.slice 1 (x.2.1.map iPD),.bool x.2.2]
def mPD(x:List UInt8×Nat):PD:=.agg [.str x.1,.int .i64 x.2]
def pPD(x:List UInt8×List (List UInt8×Nat)×Nd):PD:=.agg (.str x.1:: .slice 2 (x.2.1.map mPD)::x.2.2.cells)
def aPD(x:List UInt8×Nd):PD:=.agg (.str x.1::x.2.cells)
def X5(f S F P A:List PD):List D:=[.tsl 0 34 2 f,.tsl 1 81 2 S,.tsl 2 70 3 F,.tsl 3 41 7 P,.tsl 4 44 6 A]
def rdX(s:List UInt8)(f S F P A:List PD):Rd:=⟨toSl (Lx.lex s).1,s.length,X5 f S F P A,[f.length,S.length,F.length,P.length,A.length]⟩
def rdS(s:List UInt8)(q:Sp):Rd:=rdX s q.f (q.S.map sPD) (q.F.map fPD) (q.P.map pPD) (q.A.map aPD)
theorem rdX_ts(s:List UInt8)(f S F P A:List PD):(rdX s f S F P A).ts=(Lx.lex s).1:=els_toSl _
theorem rdX_ok(s:List UInt8)(f S F P A:List PD):(rdX s f S F P A).Ok:=by
 refine⟨rfl,rfl,rfl,fun bi ti h=>?_,fun H=>rfl⟩
 have h0:=h 0 (by simp[rdX])
 have h1:=h 1 (by simp[rdX])
 have h2:=h 2 (by simp[rdX])
 have h3:=h 3 (by simp[rdX])
 have h4:=h 4 (by simp[rdX])
 simp[rdX,X5,D.renL,D.ren,h0,h1,h2,h3,h4]
theorem rdX_sz(s:List UInt8)(f S F P A:List PD)(hs:s.length≤20000):(rdX s f S F P A).Sz:=by
 have h:=rdF_sz s [] hs
 have e:=(rdX_ts s f S F P A).trans (rdF_ts s []).symm
 exact⟨rdX_ok s f S F P A,by rw[e];exact h.n,h.e,by rw[e];exact h.p,by rw[e];exact h.k,by rw[e];exact h.t,by rw[e];exact h.num⟩
theorem tok_X(s:List UInt8)(f S F P A:List PD)(i:Nat):(rdX s f S F P A).tok i=(rdF s []).tok i:=by
 unfold Rd.tok
 rw[rdX_ts,rdF_ts]
 rfl
section
variable {G : Nat → Option (List PD)} {bx : List (List D)} {tk t : List Nat} {s : List UInt8} {f S F P A : List PD} {a o : Nat} {x : PD} {l : List PD}
theorem ldX8:loadD G ⟨rC (rdX s f S F P A) a o::bx,tk⟩ none (.box 0 8)=some (.tsl 1 81 2 S):=rfl
theorem ldX9:loadD G ⟨rC (rdX s f S F P A) a o::bx,tk⟩ none (.box 0 9)=some (.tsl 2 70 3 F):=rfl
theorem ldX10:loadD G ⟨rC (rdX s f S F P A) a o::bx,tk⟩ none (.box 0 10)=some (.tsl 3 41 7 P):=rfl
theorem ldX11:loadD G ⟨rC (rdX s f S F P A) a o::bx,tk⟩ none (.box 0 11)=some (.tsl 4 44 6 A):=rfl
theorem stX8:storeD ⟨rC (rdX s f S F P A) a o::bx,tk⟩ 1 (.box 0 8) (.tsl 1 81 2 l)=some ⟨rC (rdX s f l F P A) a o::bx,tk⟩:=by
 simp[storeD,rC,rdX,X5,isMapC,D.cells,D.one,splice]
theorem stX9:storeD ⟨rC (rdX s f S F P A) a o::bx,tk⟩ 1 (.box 0 9) (.tsl 2 70 3 l)=some ⟨rC (rdX s f S l P A) a o::bx,tk⟩:=by
 simp[storeD,rC,rdX,X5,isMapC,D.cells,D.one,splice]
theorem stX10:storeD ⟨rC (rdX s f S F P A) a o::bx,tk⟩ 1 (.box 0 10) (.tsl 3 41 7 l)=some ⟨rC (rdX s f S F l A) a o::bx,tk⟩:=by
 simp[storeD,rC,rdX,X5,isMapC,D.cells,D.one,splice]
theorem stX11:storeD ⟨rC (rdX s f S F P A) a o::bx,tk⟩ 1 (.box 0 11) (.tsl 4 44 6 l)=some ⟨rC (rdX s f S F P l) a o::bx,tk⟩:=by
 simp[storeD,rC,rdX,X5,isMapC,D.cells,D.one,splice]
theorem apX8(h:S.length≤1000):appendD 81 2 24 (.tsl 1 81 2 S) [x] ⟨bx,(rdX s f S F P A).tk++t⟩=some (.tsl 1 81 2 (S++[x]),⟨bx,(rdX s f (S++[x]) F P A).tk++t⟩):=by
 have hr:roomy (S.length+1) 24=true:=by simp only[roomy,Bool.and_eq_true,decide_eq_true_eq];omega
 simp[appendD,hr,rdX]
theorem apX9(h:F.length≤1000):appendD 70 3 48 (.tsl 2 70 3 F) [x] ⟨bx,(rdX s f S F P A).tk++t⟩=some (.tsl 2 70 3 (F++[x]),⟨bx,(rdX s f S (F++[x]) P A).tk++t⟩):=by
 have hr:roomy (F.length+1) 48=true:=by simp only[roomy,Bool.and_eq_true,decide_eq_true_eq];omega
 simp[appendD,hr,rdX]
theorem apX10(h:P.length≤1000):appendD 41 7 104 (.tsl 3 41 7 P) [x] ⟨bx,(rdX s f S F P A).tk++t⟩=some (.tsl 3 41 7 (P++[x]),⟨bx,(rdX s f S F (P++[x]) A).tk++t⟩):=by
 have hr:roomy (P.length+1) 104=true:=by simp only[roomy,Bool.and_eq_true,decide_eq_true_eq];omega
 simp[appendD,hr,rdX]
theorem apX11(h:A.length≤1000):appendD 44 6 80 (.tsl 4 44 6 A) [x] ⟨bx,(rdX s f S F P A).tk++t⟩=some (.tsl 4 44 6 (A++[x]),⟨bx,(rdX s f S F P (A++[x])).tk++t⟩):=by
 have hr:roomy (A.length+1) 80=true:=by simp only[roomy,Bool.and_eq_true,decide_eq_true_eq];omega
 simp[appendD,hr,rdX]
end
theorem lim_ok{n most:Int}(p:Nat)(h:n<most)(H:Hp):callD (call pg) 119 [.p (.int .i64 n),.p (.int .i64 most),.p (.int .i64 p)] H=some (.val .undef,H):=by
 refine callD_any (d:=.undef) ⟨⟨[],[]⟩,call_body (fc:=fc119) rfl rfl rfl rfl ?_⟩ rfl rfl rfl rfl H
 have h':¬n≥most:=by omega
 have h2:¬most≤n:=by omega
 simp[fc119,evKC,evK,put,Env.get,Env.keep,entry,Opd.ev,binD,finish,evRes,h']
theorem lim_bad{n most:Int}(p:Nat)(h:most≤n)(H:Hp):callD (call pg) 119 [.p (.int .i64 n),.p (.int .i64 most),.p (.int .i64 p)] H=some (.pan (faultD 2 p),H):=by
 have h1:call pg 119 [.p (.int .i64 n),.p (.int .i64 most),.p (.int .i64 p)] ⟨[],[]⟩=some (.pan (faultD 2 p),⟨[],[]⟩):=by
  refine call_body (fc:=fc119) rfl rfl rfl rfl ?_
  simp[fc119,evKC,evK,put,Env.get,Env.keep,entry,Opd.ev,binD,finish,h,fail_eq]
 exact callD_pureP h1 rfl rfl rfl rfl
def AnsS(g:Nat)(args:List PD)(s:List UInt8)(q:Sp)(a:Nat):PR Sp→Prop
 | .ok q' a'=>∀bx t,callD (call pg) g (.box 0 0::args.map .p) (rH (rdS s q) a 0 bx t)=some (.val .undef,rH (rdS s q') a' 0 bx t)
 | .bad e p a'=>∃o',∀bx t,callD (call pg) g (.box 0 0::args.map .p) (rH (rdS s q) a 0 bx t)=some (.pan (faultD e p),rH (rdS s q) a' o' bx t)
theorem ansS_ok{g:Nat}{args:List PD}{s:List UInt8}{q q':Sp}{a a':Nat}(h:∃ex et,call pg g (.box 0 0::args.map .p) (rH (rdS s q) a 0 [] [])=some (.val .undef,rH (rdS s q') a' 0 ex et)):AnsS g args s q a (.ok q' a'):=by
 obtain⟨ex,et,h⟩:=h
 exact fun bx t=>callD_rd (c:=rdS s q) (c':=rdS s q') (rdX_ok ..) (rdX_ok ..) rfl (fun _ _=>rfl) h
theorem ansS_bad{g:Nat}{args:List PD}{s:List UInt8}{q:Sp}{a a':Nat}{e:Int}{p:Nat}(h:∃o' ex et,call pg g (.box 0 0::args.map .p) (rH (rdS s q) a 0 [] [])=some (.pan (faultD e p),rH (rdS s q) a' o' ex et)):AnsS g args s q a (.bad e p a'):=by
 obtain⟨o',ex,et,h⟩:=h
 exact⟨o',fun bx t=>callD_rd (c:=rdS s q) (c':=rdS s q) (rdX_ok ..) (rdX_ok ..) rfl (fun _ _=>rfl) h⟩
end Go.Proofs.YtalgjkpkkdljaaaGreatDoor
namespace Go.Proofs.YtalgjkpkkdljaaaGreatDoor
open Go.Vs
def findS(S:List (List UInt8×Bool))(t:List UInt8):Nat→Option Nat
 | 0=>none
 |n+1=>if(S[n]?).map Prod.fst=some t then some n else findS S t n
def sortP(c:Rd)(S:List (List UInt8×Bool))(a:Nat):PR Nat:=
 if namedB (c.tok a) then(match findS S (c.tok a).t S.length with
  |some i=>.ok i (a+1)
  |none=>.bad 40 (c.tok a).p a) else wrongP c a
def soH(s:List UInt8)(q:Sp)(a o:Nat)(t:Tok):Hp:=rH (rdS s q) a o [[.p (.int .i64 t.k),.p (.str t.t),.p (.int .i64 t.p)]] []
def soS(s:List UInt8)(q:Sp)(a o:Nat)(t:Tok)(i:Int):St:=⟨[(0,.box 0 0),(3,.box 4 0),(4,.p (.int .i64 i))],soH s q a o t⟩
theorem ia_S(S:List (List UInt8×Bool)){n:Nat}{x:List UInt8×Bool}(h:S[n]? =some x)(e:Nat):iaddrD none 2 (.tsl 1 e 2 (S.map sPD)) (n:Int)=some (.ro [.str x.1,.bool x.2] 0):=by
 simp[iaddrD,D.elems?,h,sPD,PD.cells]
theorem ld_ro0{G:Nat→Option (List PD)}{H:Hp}(x y:PD):loadD G H none (.ro [x,y] 0)=some (.p x):=rfl
theorem so_step(s:List UInt8)(q:Sp){a o:Nat}(ha:a≤3000000)(t:Tok){n:Nat}{x:List UInt8×Bool}(hx:q.S[n]? =some x)(hn:n≤1000000):
    (x.1≠t.t→evS (call pg) pg.G iterX fc123_b0 (soS s q a o t n)=some (.norm,soS s q a o t ((n:Int)-1)))∧
    (x.1=t.t→evS (call pg) pg.G iterX fc123_b0 (soS s q a o t n)=some (.ret,⟨[(2,.p (.int .i64 n))],soH s q (a+1) o t⟩)):=by
 have hi:=ia_S q.S hx 81
 have hw:=addw1 (a:=a) ha
 have hw2:IntKind.i64.wrap ((n:Int)-1)=(n:Int)-1:=wrap64 (by omega) (by omega)
 have l8:=fun G bx tk=>ldX8 (G:=G) (bx:=bx) (tk:=tk) (s:=s) (f:=q.f) (S:=q.S.map sPD) (F:=q.F.map fPD) (P:=q.P.map pPD) (A:=q.A.map aPD) (a:=a) (o:=o)
 simp only[soS,soH,rH,List.append_nil,rdS]
 refine⟨fun he=>?_,fun he=>?_⟩
 ·have he':(x.1==t.t)=false:=by simp[he]
  simp[fc123_b0,evKC,evK,put,Env.get,Env.keep,Opd.ev,cutAt,D.asInt?,binD,strBin,clsP,cls,clsR,isCl,isW,apartRW,offB,apartWW,clash,insOk,List.map,ld_succ,ld_zero,l8,hi,ld_ro0,he',hw2]
 ·have he':(x.1==t.t)=true:=by simp[he]
  simp[fc123_b0,evKC,evK,put,Env.get,Env.keep,Opd.ev,cutAt,D.asInt?,binD,strBin,clsP,cls,clsR,isCl,isW,apartRW,offB,apartWW,clash,insOk,List.map,ld_succ,ld_zero,ldr1,str1',l8,hi,ld_ro0,he',ldr1,hw,str1']
theorem so_end(s:List UInt8)(q:Sp){a o:Nat}(t:Tok):∃env,evS (call pg) pg.G iterX fc123_b0 (soS s q a o t (-1))=some (.exit 0,⟨env,soH s q a o t⟩)∧env.get 0= .box 0 0∧env.get 3= .box 4 0:=by
 simp only[soS,soH,rH,List.append_nil,rdS]
 apply Exists.intro
 refine⟨?_,?_,?_⟩
 ·conv=>lhs;simp[fc123_b0,evKC,evK,evGuard,put,Env.get,Env.keep,entry,Opd.ev,splice,cutAt,indexD,D.asInt?,D.asNat?,u8,binD,strBin,unD,lenD,boundsD,sliceD,sub,minmaxD,eqvL,PD.eqv,clsP,cls,clsR,isCl,isW,apartRW,offB,apartWW,clash,insOk,finish,evRes,evRes1,mapO,D.cells,PD.cells,D.refsL,D.refs,D.toksL,D.toks,mkAgg,pures,fillD,fillE,appendD,srcD,D.elems?,D.asPD,Int.toNat_natCast,srcH,srcBH,eqD,D.asPDL,isMapC,reach,boxRefs,boxToks,ins,Vs.nodupB,idx,D.renL,D.ren,back,firstN,putAll,Res.ren,locD,below,Out.ren,List.map,ld_succ,ld_zero,st_succ,st_zero,oI,oS,oN,oP,oB,oL,oT,oF,oE,ldr0,ldr1,ldr2,ldr3,ldr4,ldr5,ldr6,str1',str3']
 all_goals rfl
theorem so_loop(s:List UInt8)(q:Sp){a o:Nat}(ha:a≤3000000)(t:Tok)(hS:q.S.length≤1000000):∀n,n≤q.S.length→match findS q.S t.t n with
    |some i=>loopK (call pg) pg.G [0,3,4] fc123_b0 (soS s q a o t ((n:Int)-1))=some (.ret,⟨[(2,.p (.int .i64 i))],soH s q (a+1) o t⟩)
    |none=>∃env,loopK (call pg) pg.G [0,3,4] fc123_b0 (soS s q a o t ((n:Int)-1))=some (.exit 0,⟨env,soH s q a o t⟩)∧env.get 0= .box 0 0∧env.get 3= .box 4 0:=by
 intro n
 induction n with
 |zero=>
  intro _
  obtain⟨env,e,h1,h2⟩:=so_end s q (a:=a) (o:=o) t
  exact⟨env,loopK_out e (by simp),h1,h2⟩
 |succ n ih=>
  intro hn
  have hlt:n<q.S.length:=by omega
  have hx:q.S[n]? =some q.S[n]:=List.getElem?_eq_getElem hlt
  have hs:=so_step s q (o:=o) ha t hx (by omega)
  have e1:((n+1 :Nat):Int)-1=(n:Int):=by omega
  rw[e1]
  unfold findS
  rw[hx]
  by_cases he:q.S[n].1=t.t
  ·rw[if_pos (by simp[he])]
   exact loopK_out (hs.2 he) (by simp)
  ·rw[if_neg (by simp[he])]
   have:=ih (by omega)
   rw[show loopK (call pg) pg.G [0,3,4] fc123_b0 (soS s q a o t n)=loopK (call pg) pg.G [0,3,4] fc123_b0 (soS s q a o t ((n:Int)-1)) from loopK_norm (hs.1 he)]
   exact this
theorem sort_eq{s:List UInt8}(hs:s.length≤20000)(q:Sp)(hS:q.S.length≤1000000)(a o:Nat)(ha:a≤3000000):Ans 123 [] (rdS s q) a o (fun i:Nat=>.p (.int .i64 i)) (sortP (rdS s q) q.S a):=by
 have h:(rdS s q).Sz:=rdX_sz s _ _ _ _ _ hs
 have lk:=fun bx=>look_at h.toOk a o (by omega) bx []
 have wr:=fun bx=>wrong_eq h a o (by omega) bx []
 have nm:=named_eq ((rdS s q).tok a) (by
  rcases Nat.lt_or_ge a (rdS s q).ts.length with w |w
  ·rw[tok_in w];exact h.t _ (List.getElem_mem w)
  ·rw[tok_out w];exact Nat.zero_le _)
 have hl:=so_loop s q (a:=a) (o:=o) ha ((rdS s q).tok a) hS q.S.length (Nat.le_refl _)
 have l8:=fun G bx tk=>ldX8 (G:=G) (bx:=bx) (tk:=tk) (s:=s) (f:=q.f) (S:=q.S.map sPD) (F:=q.F.map fPD) (P:=q.P.map pPD) (A:=q.A.map aPD) (a:=a) (o:=o)
 have hlen:lenD 1 (.tsl 1 81 2 (q.S.map sPD))=some q.S.length:=by rw[lenD_tsl,List.length_map]
 have hw2:IntKind.i64.wrap ((q.S.length:Int)-1)=(q.S.length:Int)-1:=wrap64 (by omega) (by omega)
 simp only[rH,List.append_nil] at lk wr
 unfold sortP
 generalize hT:(rdS s q).tok a=x at *
 cases hb:namedB x with
 |false=>
  rw[hb] at nm
  unfold wrongP
  refine ans_bad h.toOk ⟨o,[[.p (.int .i64 x.k),.p (.str x.t),.p (.int .i64 x.p)]],[],call_body (fc:=fc123) rfl rfl rfl rfl ?_⟩
  simp only[rH,List.append_nil,hT]
  simp[fc123,evKC,evK,put,Env.get,Env.keep,entry,Opd.ev,splice,cutAt,unD,sub,finish,D.cells,D.one,PD.one,mkAgg,pures,ld_succ,ld_zero,st_succ,st_zero,lk,nm,wr]
 |true=>
  rw[hb] at nm
  rw[if_pos rfl]
  cases hf:findS q.S x.t q.S.length with
  |some i=>
   rw[hf] at hl
   refine ans_ok h.toOk (fun _ _=>rfl) ⟨[[.p (.int .i64 x.k),.p (.str x.t),.p (.int .i64 x.p)]],[],call_body (fc:=fc123) rfl rfl rfl rfl ?_⟩
   simp only[soS,soH,rH,List.append_nil,rdS] at hl lk⊢
   simp[fc123,evKC,evK,put,Env.get,Env.keep,entry,Opd.ev,splice,cutAt,binD,unD,sub,finish,evRes,evRes1,D.cells,D.one,PD.one,mkAgg,pures,ld_succ,ld_zero,st_succ,st_zero,lk,nm,l8,hlen,hw2,hl]
  |none=>
   rw[hf] at hl
   obtain⟨env,hl,g0,g3⟩:=hl
   refine ans_bad h.toOk ⟨o,[[.p (.int .i64 x.k),.p (.str x.t),.p (.int .i64 x.p)]],[],call_body (fc:=fc123) rfl rfl rfl rfl ?_⟩
   simp only[soS,soH,rH,List.append_nil,rdS] at hl lk⊢
   simp[fc123,evKC,evK,put,Env.get,Env.keep,entry,Opd.ev,splice,cutAt,binD,unD,sub,finish,D.cells,D.one,PD.one,mkAgg,pures,ld_succ,ld_zero,st_succ,st_zero,lk,nm,l8,hlen,hw2,hl,g3,fail_eq]
def blockP(c:Rd)(a:Nat):PR Nd:=(expectP c a [123]).bind fun _ a=>(wholeP c a).bind fun n a=>(expectP c a [125]).bind fun _ a=>.ok n a
theorem expect_lt{c:Rd}{a:Nat}{s:List UInt8}{u:Unit}{a':Nat}(h:expectP c a s= .ok u a'):a'=a+1∧a<c.ts.length:=by
 obtain⟨h1,h2⟩:=expect_inv h
 refine⟨h1,?_⟩
 rcases Nat.lt_or_ge a c.ts.length with q |q
 ·exact q
 ·unfold acceptB at h2
  rw[tok_out q] at h2
  simp at h2
theorem whole_lt{c:Rd}(h:c.Sz){a:Nat}(ha:a≤c.ts.length){n:Nd}{a':Nat}(hw:wholeP c a= .ok n a'):a'≤c.ts.length∧a<a'∧validN n=true∧knd n.op=3:=by
 have hp:PrsOk c 0 (parseP c 101):=prs_ok h 100 (by omega)
 unfold wholeP at hw
 obtain⟨y,b',h3,h4⟩:=bind_inv hw
 have b1:=hp.bd 1 a ha _ _ h3
 have b2:=hp.adv 1 a _ _ ha h3
 split at h4
 ·cases h4
 ·rename_i hk
  split at h4
  ·cases h4
  ·rename_i hv
   cases h4
   refine⟨b1,b2,?_,?_⟩
   ·cases q:validN n with
    |true=>rfl
    |false=>exact absurd q hv
   ·cases q:decide (knd n.op=3) with
    |true=>exact of_decide_eq_true q
    |false=>exact absurd (of_decide_eq_false q) hk
theorem block_eq{c:Rd}(h:c.Sz)(a:Nat)(ha:a≤c.ts.length):Ans 124 [] c a 0 (fun x:Nd=>.p x.pd) (blockP c a):=by
 have hn:=h.n
 have hfp:∀(x:Nd) (bi ti:Nat→Option Nat),(D.p x.pd).ren bi ti=some (.p x.pd):=fun _ _ _=>rfl
 unfold blockP
 cases r1:expectP c a [123] with
 |bad e p a1=>
  obtain⟨o',s1⟩:=(expect_eq h a 0 [123] (by omega)).badT r1
  have s1:=fun bx=>s1 bx []
  simp only[List.map_cons,List.map_nil,List.append_nil] at s1
  refine ans_frzBE h.toOk (fc:=fc124) rfl rfl rfl rfl ⟨o',?_⟩
  apply Exists.intro
  conv=>lhs;simp[fc124,evKC,evK,evGuard,put,Env.get,Env.keep,entry,Opd.ev,splice,cutAt,indexD,D.asInt?,D.asNat?,u8,binD,strBin,unD,boundsD,sliceD,iaddrD,sub,minmaxD,eqvL,PD.eqv,clsP,cls,clsR,isCl,isW,apartRW,offB,apartWW,clash,insOk,finish,evRes,evRes1,mapO,D.cells,PD.cells,D.refsL,D.refs,D.toksL,D.toks,mkAgg,pures,fillD,fillE,appendD,srcD,D.elems?,D.asPD,Int.toNat_natCast,srcH,srcBH,eqD,D.asPDL,isMapC,ld_succ,ld_zero,st_succ,st_zero,oI,oS,oN,oP,oB,oL,oT,oF,oE,ldr0,ldr1,ldr2,ldr3,ldr4,ldr5,ldr6,str1',str3',s1]
 |ok u a1=>
  have s1:=fun bx=>(expect_eq h a 0 [123] (by omega)).okT r1 bx []
  simp only[List.map_cons,List.map_nil,List.append_nil] at s1
  obtain⟨e1,hlt⟩:=expect_lt r1
  have ha1:a1≤c.ts.length:=by omega
  simp only[bind_ok]
  cases r2:wholeP c a1 with
  |bad e p a2=>
   obtain⟨o',s2⟩:=((whole_eq h a1 ha1).ans h.toOk hfp).badT r2
   have s2:=fun bx=>s2 bx []
   simp only[List.map_nil,List.append_nil] at s2
   refine ans_frzBE h.toOk (fc:=fc124) rfl rfl rfl rfl ⟨o',?_⟩
   apply Exists.intro
   conv=>lhs;simp[fc124,evKC,evK,evGuard,put,Env.get,Env.keep,entry,Opd.ev,splice,cutAt,indexD,D.asInt?,D.asNat?,u8,binD,strBin,unD,boundsD,sliceD,iaddrD,sub,minmaxD,eqvL,PD.eqv,clsP,cls,clsR,isCl,isW,apartRW,offB,apartWW,clash,insOk,finish,evRes,evRes1,mapO,D.cells,PD.cells,D.refsL,D.refs,D.toksL,D.toks,mkAgg,pures,fillD,fillE,appendD,srcD,D.elems?,D.asPD,Int.toNat_natCast,srcH,srcBH,eqD,D.asPDL,isMapC,ld_succ,ld_zero,st_succ,st_zero,oI,oS,oN,oP,oB,oL,oT,oF,oE,ldr0,ldr1,ldr2,ldr3,ldr4,ldr5,ldr6,str1',str3',s1,s2]
  |ok n a2=>
   have s2:=fun bx=>((whole_eq h a1 ha1).ans h.toOk hfp).okT r2 bx []
   obtain⟨ha2,_⟩:=whole_lt h ha1 r2
   have hkn:=pone_kids n
   have hcn:=kids_cells n
   simp only[List.map_nil,List.append_nil,pd_cells n,Nd.cells] at s2
   simp only[bind_ok]
   cases r3:expectP c a2 [125] with
   |bad e p a3=>
    obtain⟨o',s3⟩:=(expect_eq h a2 0 [125] (by omega)).badT r3
    have s3:=fun bx=>s3 bx []
    simp only[List.map_cons,List.map_nil,List.append_nil] at s3
    refine ans_frzBE h.toOk (fc:=fc124) rfl rfl rfl rfl ⟨o',?_⟩
    apply Exists.intro
    conv=>lhs;simp[fc124,evKC,evK,evGuard,put,Env.get,Env.keep,entry,Opd.ev,splice,cutAt,indexD,D.asInt?,D.asNat?,u8,binD,strBin,unD,boundsD,sliceD,iaddrD,sub,minmaxD,eqvL,PD.eqv,clsP,cls,clsR,isCl,isW,apartRW,offB,apartWW,clash,insOk,finish,evRes,evRes1,mapO,D.cells,PD.cells,D.refsL,D.refs,D.toksL,D.toks,mkAgg,pures,fillD,fillE,appendD,srcD,D.elems?,D.asPD,Int.toNat_natCast,srcH,srcBH,eqD,D.asPDL,isMapC,ld_succ,ld_zero,st_succ,st_zero,oI,oS,oN,oP,oB,oL,oT,oF,oE,ldr0,ldr1,ldr2,ldr3,ldr4,ldr5,ldr6,str1',str3',s1,s2,s3,hkn,hcn]
   |ok u3 a3=>
    have s3:=fun bx=>(expect_eq h a2 0 [125] (by omega)).okT r3 bx []
    simp only[List.map_cons,List.map_nil,List.append_nil] at s3
    simp only[bind_ok]
    refine ans_frzE h.toOk (fc:=fc124) rfl rfl rfl rfl ?_
    apply Exists.intro
    rw[pd_cells n,Nd.cells]
    conv=>lhs;simp[fc124,evKC,evK,evGuard,put,Env.get,Env.keep,entry,Opd.ev,splice,cutAt,indexD,D.asInt?,D.asNat?,u8,binD,strBin,unD,boundsD,sliceD,iaddrD,sub,minmaxD,eqvL,PD.eqv,clsP,cls,clsR,isCl,isW,apartRW,offB,apartWW,clash,insOk,finish,evRes,evRes1,mapO,D.cells,PD.cells,D.refsL,D.refs,D.toksL,D.toks,mkAgg,pures,fillD,fillE,appendD,srcD,D.elems?,D.asPD,Int.toNat_natCast,srcH,srcBH,eqD,D.asPDL,isMapC,ld_succ,ld_zero,st_succ,st_zero,oI,oS,oN,oP,oB,oL,oT,oF,oE,ldr0,ldr1,ldr2,ldr3,ldr4,ldr5,ldr6,str1',str3',s1,s2,s3,hkn,hcn]
def acN(c:Rd)(a:Nat)(s:List UInt8):Nat:=if acceptB c a s then a+1 else a
def sortDeclP(c:Rd)(q:Sp)(at_ a:Nat):PR Sp:=
 if 4≤q.S.length then .bad 2 at_ a
 else(nameP c (a+1)).bind fun t a2=>(expectP c (acN c a2 [111,114,100,101,114,101,100]) [59]).bind fun _ a4=>
  .ok {q with S:=q.S++[(t.t,acceptB c a2 [111,114,100,101,114,101,100])]} a4
theorem tok_tlen{c:Rd}(h:c.Sz)(a:Nat):(c.tok a).t.length≤1000000:=by
 rcases Nat.lt_or_ge a c.ts.length with w |w
 ·rw[tok_in w];exact h.t _ (List.getElem_mem w)
 ·rw[tok_out w];exact Nat.zero_le _
theorem acceptN_acN(c:Rd)(a:Nat)(s:List UInt8):acceptN c a s=acN c a s:=by
 unfold acceptN acN
 cases acceptB c a s<;>rfl
theorem sortDecl_eq{s:List UInt8}(hs:s.length≤20000)(q:Sp)(hS:q.S.length≤1000)(p a:Nat)(ha:a≤400000):AnsS 73 [.int .i64 p] s q a (sortDeclP (rdS s q) q p a):=by
 have h:(rdS s q).Sz:=rdX_sz s _ _ _ _ _ hs
 have l8:=fun G bx tk a o=>ldX8 (G:=G) (bx:=bx) (tk:=tk) (s:=s) (f:=q.f) (S:=q.S.map sPD) (F:=q.F.map fPD) (P:=q.P.map pPD) (A:=q.A.map aPD) (a:=a) (o:=o)
 have hlen:lenD 1 (.tsl 1 81 2 (q.S.map sPD))=some q.S.length:=by rw[lenD_tsl,List.length_map]
 unfold sortDeclP
 by_cases hq:4≤q.S.length
 ·rw[if_pos hq]
  have hl:=lim_bad (n:=(q.S.length:Int)) (most:=4) p (by omega)
  refine ansS_bad ⟨0,[],[],call_body (fc:=fc73) rfl rfl rfl rfl ?_⟩
  simp only[rH,List.append_nil,rdS]
  simp[fc73,evKC,evK,put,Env.get,entry,Opd.ev,finish,l8,hlen,hl]
 ·rw[if_neg hq]
  have hl:=lim_ok (n:=(q.S.length:Int)) (most:=4) p (by omega)
  have hw:=addw1 (a:=a) (by omega)
  cases r1:nameP (rdS s q) (a+1) with
  |bad e p2 a1=>
   obtain⟨o',s1⟩:=(rname_eq h (a+1) 0 (by omega) (tok_tlen h _)).badT r1
   have s1:=fun bx=>s1 bx []
   simp only[List.map_nil,List.append_nil,rdS] at s1
   refine ansS_bad ⟨o',[],[],call_body (fc:=fc73) rfl rfl rfl rfl ?_⟩
   simp only[rH,List.append_nil,rdS]
   simp[fc73,evKC,evK,put,Env.get,Env.keep,entry,Opd.ev,binD,finish,ldr1,str1',l8,hlen,hl,ldr1,hw,str1',s1]
  |ok t a1=>
   have s1:=fun bx=>(rname_eq h (a+1) 0 (by omega) (tok_tlen h _)).okT r1 bx []
   obtain⟨rfl,rfl,_⟩:=name_inv r1
   have ac:=fun bx=>accept_eq h.toOk (a+1+1) 0 [111,114,100,101,114,101,100] (by omega) bx []
   rw[acceptN_acN] at ac
   have hb:acN (rdS s q) (a+1+1) [111,114,100,101,114,101,100]≤a+3:=by unfold acN;split<;>omega
   simp only[bind_ok]
   generalize acceptB (rdS s q) (a+1+1) [111,114,100,101,114,101,100]=od at *
   generalize acN (rdS s q) (a+1+1) [111,114,100,101,114,101,100]=a2 at *
   generalize (rdS s q).tok (a+1)=t at *
   simp only[rH,List.map_nil,List.append_nil,Tok.pd,rdS] at s1 ac
   cases r2:expectP (rdS s q) a2 [59] with
   |bad e p2 a3=>
    obtain⟨o',s2⟩:=(expect_eq h a2 0 [59] (by omega)).badT r2
    have s2:=fun bx=>s2 bx []
    simp only[List.map_cons,List.map_nil,List.append_nil,rdS] at s2
    refine ansS_bad ⟨o',[[.p (.str t.t),.p (.bool od)]],[],call_body (fc:=fc73) rfl rfl rfl rfl ?_⟩
    simp only[rH,List.append_nil,rdS]
    simp[fc73,evKC,evK,put,Env.get,Env.keep,entry,Opd.ev,splice,cutAt,binD,finish,D.cells,D.one,PD.one,mkAgg,pures,fillD,st_succ,st_zero,ldr1,str1',l8,hlen,hl,ldr1,hw,str1',s1,ac,s2]
   |ok u a3=>
    have s2:=fun bx=>(expect_eq h a2 0 [59] (by omega)).okT r2 bx []
    simp only[List.map_cons,List.map_nil,List.append_nil,rdS] at s2
    simp only[bind_ok]
    have hap:=fun bx x=>apX8 (bx:=bx) (t:=[]) (s:=s) (f:=q.f) (S:=q.S.map sPD) (F:=q.F.map fPD) (P:=q.P.map pPD) (A:=q.A.map aPD) (x:=x) (by simpa using hS)
    simp only[List.append_nil] at hap
    refine ansS_ok ⟨[[.p (.str t.t),.p (.bool od)]],[],call_body (fc:=fc73) rfl rfl rfl rfl ?_⟩
    simp only[rH,List.append_nil,rdS,List.map_append,List.map_cons,List.map_nil]
    simp[fc73,evKC,evK,put,Env.get,Env.keep,entry,Opd.ev,splice,cutAt,binD,sub,clsP,cls,clsR,isCl,isW,apartRW,offB,apartWW,clash,insOk,finish,evRes,D.cells,D.one,PD.one,PD.cells,mkAgg,pures,fillD,fillE,srcD,D.elems?,D.asPD,srcH,ld_succ,ld_zero,st_succ,st_zero,ldr1,str1',l8,hlen,hl,ldr1,hw,str1',s1,ac,s2,hap,stX8,sPD]
def factDeclP(c:Rd)(q:Sp)(at_ a:Nat):PR Sp:=
 if 16≤q.A.length then .bad 2 at_ a
 else(nameP c (a+1)).bind fun t a2=>(blockP c a2).bind fun n a3=>.ok {q with A:=q.A++[(t.t,n)]} a3
theorem block_lt{c:Rd}(h:c.Sz){a:Nat}{n:Nd}{a':Nat}(hb:blockP c a= .ok n a'):a'≤c.ts.length∧a<a'∧validN n=true∧knd n.op=3:=by
 unfold blockP at hb
 obtain⟨u,b1,h1,hb⟩:=bind_inv hb
 obtain⟨x,b2,h2,hb⟩:=bind_inv hb
 obtain⟨u3,b3,h3,hb⟩:=bind_inv hb
 obtain⟨e1,q1⟩:=expect_lt h1
 obtain⟨w1,w2,w3,w4⟩:=whole_lt h (by omega) h2
 obtain⟨e3,q3⟩:=expect_lt h3
 cases hb
 exact⟨by omega,by omega,w3,w4⟩
theorem name_lt{c:Rd}{a:Nat}{t:Tok}{a':Nat}(h:nameP c a= .ok t a'):a'=a+1∧a<c.ts.length∧t=c.tok a:=by
 obtain⟨h1,h2,h3⟩:=name_inv h
 refine⟨h1,?_,h2⟩
 rcases Nat.lt_or_ge a c.ts.length with q |q
 ·exact q
 ·unfold namedB at h3
  rw[tok_out q] at h3
  simp at h3
theorem factDecl_eq{s:List UInt8}(hs:s.length≤20000)(q:Sp)(hA:q.A.length≤1000)(p a:Nat)(ha:a≤400000):AnsS 76 [.int .i64 p] s q a (factDeclP (rdS s q) q p a):=by
 have h:(rdS s q).Sz:=rdX_sz s _ _ _ _ _ hs
 have hfp:∀(x:Nd) (bi ti:Nat→Option Nat),(D.p x.pd).ren bi ti=some (.p x.pd):=fun _ _ _=>rfl
 have l11:=fun G bx tk a o=>ldX11 (G:=G) (bx:=bx) (tk:=tk) (s:=s) (f:=q.f) (S:=q.S.map sPD) (F:=q.F.map fPD) (P:=q.P.map pPD) (A:=q.A.map aPD) (a:=a) (o:=o)
 have hlen:lenD 1 (.tsl 4 44 6 (q.A.map aPD))=some q.A.length:=by rw[lenD_tsl,List.length_map]
 unfold factDeclP
 by_cases hq:16≤q.A.length
 ·rw[if_pos hq]
  have hl:=lim_bad (n:=(q.A.length:Int)) (most:=16) p (by omega)
  refine ansS_bad ⟨0,[],[],call_body (fc:=fc76) rfl rfl rfl rfl ?_⟩
  simp only[rH,List.append_nil,rdS]
  simp[fc76,evKC,evK,put,Env.get,entry,Opd.ev,finish,l11,hlen,hl]
 ·rw[if_neg hq]
  have hl:=lim_ok (n:=(q.A.length:Int)) (most:=16) p (by omega)
  have hw:=addw1 (a:=a) (by omega)
  cases r1:nameP (rdS s q) (a+1) with
  |bad e p2 a1=>
   obtain⟨o',s1⟩:=(rname_eq h (a+1) 0 (by omega) (tok_tlen h _)).badT r1
   have s1:=fun bx=>s1 bx []
   simp only[List.map_nil,List.append_nil,rdS] at s1
   refine ansS_bad ⟨o',[],[],call_body (fc:=fc76) rfl rfl rfl rfl ?_⟩
   simp only[rH,List.append_nil,rdS]
   simp[fc76,evKC,evK,put,Env.get,Env.keep,entry,Opd.ev,binD,finish,ldr1,str1',l11,hlen,hl,ldr1,hw,str1',s1]
  |ok t a1=>
   have s1:=fun bx=>(rname_eq h (a+1) 0 (by omega) (tok_tlen h _)).okT r1 bx []
   obtain⟨rfl,hlt,rfl⟩:=name_lt r1
   simp only[bind_ok]
   generalize (rdS s q).tok (a+1)=t at *
   have hbl:=block_eq h (a+1+1) (by omega)
   simp only[List.map_nil,List.append_nil,Tok.pd,rdS] at s1
   cases r2:blockP (rdS s q) (a+1+1) with
   |bad e p2 a3=>
    obtain⟨o',s2⟩:=hbl.badT r2
    have s2:=fun bx=>s2 bx []
    simp only[List.map_nil,List.append_nil,rdS] at s2
    refine ansS_bad ⟨o',[[.p (.str t.t),.p (.int .i64 0),.p (.str []),.p (.int .i64 0),.p .nils,.p (.int .i64 0)]],[],call_body (fc:=fc76) rfl rfl rfl rfl ?_⟩
    simp only[rH,List.append_nil,rdS]
    simp[fc76,evKC,evK,put,Env.get,Env.keep,entry,Opd.ev,splice,cutAt,binD,finish,D.cells,D.one,PD.one,mkAgg,pures,fillD,st_succ,st_zero,ldr1,str1',l11,hlen,hl,ldr1,hw,str1',s1,s2]
   |ok n a3=>
    have s2:=fun bx=>hbl.okT r2 bx []
    have hkn:=pone_kids n
    have hcn:=kids_cells n
    simp only[List.map_nil,List.append_nil,rdS,pd_cells n,Nd.cells] at s2
    simp only[bind_ok]
    have hap:=fun bx x=>apX11 (bx:=bx) (t:=[]) (s:=s) (f:=q.f) (S:=q.S.map sPD) (F:=q.F.map fPD) (P:=q.P.map pPD) (A:=q.A.map aPD) (x:=x) (by simpa using hA)
    simp only[List.append_nil] at hap
    refine ansS_ok ⟨[.p (.str t.t)::n.cells.map .p],[],call_body (fc:=fc76) rfl rfl rfl rfl ?_⟩
    simp only[rH,List.append_nil,rdS,List.map_append,List.map_cons,List.map_nil,aPD,Nd.cells]
    simp[fc76,evKC,evK,put,Env.get,Env.keep,entry,Opd.ev,splice,cutAt,binD,sub,clsP,cls,clsR,isCl,isW,apartRW,offB,apartWW,clash,insOk,finish,evRes,D.cells,PD.cells,mkAgg,pures,fillD,fillE,srcD,D.elems?,D.asPD,srcH,ld_succ,ld_zero,st_succ,st_zero,oP,ldr1,str1',l11,hlen,hl,ldr1,hw,str1',s1,s2,hap,stX11,hkn]
theorem cls_rd1{c:Rd}(h:c.Ok)(a o a' o':Nat)(bx:List (List D))(t:List Nat)(g i:Nat):∃k:Nat×Nat,(k=(1,0)∨k=(4000000012,0))∧∀env:Env,env.get i= .box 0 0→
    clsP env ⟨rC c a o::tabB::tabU::tabS::bx,c.tk++t⟩ ⟨rC c a' o'::tabB::tabU::tabS::bx,c.tk++t⟩ (.call (.c (.fn g [] [])) [.t i])=k:=by
 have hr:=reach_rH h a o bx t
 simp only[rH] at hr
 refine⟨if hpEq ⟨rC c a o::tabB::tabU::tabS::bx,c.tk++t⟩ ⟨rC c a' o'::tabB::tabU::tabS::bx,c.tk++t⟩ then(1,0) else(4000000012,0),?_,fun env he=>?_⟩
 ·cases hpEq ⟨rC c a o::tabB::tabU::tabS::bx,c.tk++t⟩ ⟨rC c a' o'::tabB::tabU::tabS::bx,c.tk++t⟩<;>simp
 ·have e1:cls env (.call (.c (.fn g [] [])) [.t i])=2:=by simp[cls,Opd.ev,he,D.refsL,D.refs]
  have e2:callIds env ⟨rC c a o::tabB::tabU::tabS::bx,c.tk++t⟩ (.call (.c (.fn g [] [])) [.t i])=[0,1,2,3]:=by
   simp only[callIds,Opd.ev,List.nil_append,List.append_nil,List.map_cons,List.map_nil,he]
   exact hr
  unfold clsP
  rw[e1,e2]
  simp[isCl,bnd]
def fdB(nm:List UInt8)(l:List PD)(v:Bool):List (List D):=[[.p (.str nm),.tsl 5 3 1 l,.p (.bool v)]]
def fdS(s:List UInt8)(q:Sp)(a o:Nat)(nm:List UInt8)(l:List Nat)(v:Bool):St:=⟨[(0,.box 0 0),(4,.box 4 0)],⟨rC (rdS s q) a o::tabB::tabU::tabS::fdB nm (l.map iPD) v,(rdS s q).tk++[l.length]⟩⟩
theorem fd_loc(s:List UInt8)(q:Sp)(a o:Nat)(nm:List UInt8)(l:List PD)(v:Bool)(ex:List (List D))(m:Nat)(out:Out)(env:Env)(ho:out.ren (below 5) (below 6)=some out):
    locD 5 6 (out,⟨env,⟨rC (rdS s q) a o::tabB::tabU::tabS::(fdB nm l v++ex),(rdS s q).tk++[m]⟩⟩)=
     (out,⟨env.map fun y=>(y.1,(y.2.ren (below 5) (below 6)).getD .dead),⟨rC (rdS s q) a o::tabB::tabU::tabS::fdB nm l v,(rdS s q).tk++[m]⟩⟩):=
 loc_rdT (rdX_ok ..) a o (fdB nm l v) _ ex [m] [] out env 5 6 rfl rfl rfl ho
theorem ap_i{s:List UInt8}{q:Sp}{l:List Nat}{i:Nat}{bx:List (List D)}(h:l.length≤1000):appendD 3 1 8 (.tsl 5 3 1 (l.map iPD)) [.int .i64 i] ⟨bx,(rdS s q).tk++[l.length]⟩=some (.tsl 5 3 1 ((l++[i]).map iPD),⟨bx,(rdS s q).tk++[(l++[i]).length]⟩):=by
 have hr:roomy (l.length+1) 8=true:=by simp only[roomy,Bool.and_eq_true,decide_eq_true_eq];omega
 simp[appendD,hr,rdS,rdX,iPD]
theorem ap_i0{s:List UInt8}{q:Sp}{i:Nat}{bx:List (List D)}:appendD 3 1 8 (.p .nils) [.int .i64 i] ⟨bx,(rdS s q).tk⟩=some (.tsl 5 3 1 ([i].map iPD),⟨bx,(rdS s q).tk++[1]⟩):=by
 have hr:roomy 1 8=true:=by decide
 simp[appendD,hr,rdS,rdX,iPD]
section
variable {s : List UInt8} (hs : s.length ≤ 20000) (q : Sp) (hS : q.S.length ≤ 1000) (nm : List UInt8) (v : Bool)
include hs hS
omit hs hS in
theorem fd_end3(a o:Nat)(l:List Nat)(hl:3≤l.length):∃env,evS (call pg) pg.G iterX fc74_b0 (fdS s q a o nm l v)=some (.exit 0,⟨env,(fdS s q a o nm l v).hp⟩)∧env.get 0= .box 0 0∧env.get 4= .box 4 0:=by
 have hlen:lenD 1 (.tsl 5 3 1 (l.map iPD))=some l.length:=by rw[lenD_tsl,List.length_map]
 have hlt:¬(l.length:Int)<3:=by omega
 have hloc:=fun env=>fd_loc s q a o nm (l.map iPD) v [] l.length (.exit 0) env rfl
 have htk:∀n:Nat,((rdS s q).tk++[n]).length=6:=fun _=>rfl
 simp only[fdS,fdB,List.append_nil] at hloc⊢
 apply Exists.intro
 refine⟨?_,?_,?_⟩
 ·conv=>lhs;simp[fc74_b0,evKC,evK,evGuard,put,Env.get,Env.keep,entry,Opd.ev,splice,cutAt,indexD,D.asInt?,D.asNat?,u8,binD,strBin,unD,boundsD,sliceD,iaddrD,sub,minmaxD,eqvL,PD.eqv,clsP,cls,clsR,isCl,isW,apartRW,offB,apartWW,clash,insOk,finish,evRes,evRes1,mapO,D.cells,PD.cells,D.refsL,D.refs,D.toksL,D.toks,mkAgg,pures,fillD,fillE,appendD,srcD,D.elems?,D.asPD,Int.toNat_natCast,srcH,srcBH,eqD,D.asPDL,isMapC,ld_succ,ld_zero,st_succ,st_zero,oI,oS,oN,oP,oB,oL,oT,oF,oE,ldr0,ldr1,ldr2,ldr3,ldr4,ldr5,ldr6,str1',str3',hlen,hlt,htk,hloc,D.ren,below,-List.length_append]
 all_goals rfl
omit hS in
theorem fd_end(a o:Nat)(ha:a≤400000)(l:List Nat)(hl:l.length<3)(hq:acceptB (rdS s q) a [45,62]=false):∃env,evS (call pg) pg.G iterX fc74_b0 (fdS s q a o nm l v)=some (.exit 0,⟨env,(fdS s q a o nm l v).hp⟩)∧env.get 0= .box 0 0∧env.get 4= .box 4 0:=by
 have h:(rdS s q).Sz:=rdX_sz s _ _ _ _ _ hs
 have ac:=fun bx t=>accept_eq h.toOk a o [45,62] (by omega) bx t
 simp only[rH,acceptN,hq,cond_false] at ac
 have hlen:lenD 1 (.tsl 5 3 1 (l.map iPD))=some l.length:=by rw[lenD_tsl,List.length_map]
 have hlt:(l.length:Int)<3:=by omega
 have hloc:=fun env=>fd_loc s q a o nm (l.map iPD) v [] l.length (.exit 0) env rfl
 have htk:∀n:Nat,((rdS s q).tk++[n]).length=6:=fun _=>rfl
 simp only[fdS,fdB,List.append_nil] at hloc⊢
 apply Exists.intro
 refine⟨?_,?_,?_⟩
 ·conv=>lhs;simp[fc74_b0,evKC,evK,evGuard,put,Env.get,Env.keep,entry,Opd.ev,splice,cutAt,indexD,D.asInt?,D.asNat?,u8,binD,strBin,unD,boundsD,sliceD,iaddrD,sub,minmaxD,eqvL,PD.eqv,clsP,cls,clsR,isCl,isW,apartRW,offB,apartWW,clash,insOk,finish,evRes,evRes1,mapO,D.cells,PD.cells,D.refsL,D.refs,D.toksL,D.toks,mkAgg,pures,fillD,fillE,appendD,srcD,D.elems?,D.asPD,Int.toNat_natCast,srcH,srcBH,eqD,D.asPDL,isMapC,ld_succ,ld_zero,st_succ,st_zero,oI,oS,oN,oP,oB,oL,oT,oF,oE,ldr0,ldr1,ldr2,ldr3,ldr4,ldr5,ldr6,str1',str3',hlen,hlt,htk,ac,hloc,D.ren,below,-List.length_append]
 all_goals rfl
theorem fd_bad(a o:Nat)(ha:a≤400000)(l:List Nat)(hl:l.length<3)(hq:acceptB (rdS s q) a [45,62]=true){e:Int}{p a':Nat}(hx:sortP (rdS s q) q.S (a+1)= .bad e p a'):
    ∃env o',evS (call pg) pg.G iterX fc74_b0 (fdS s q a o nm l v)=some (.pan (faultD e p),⟨env,(fdS s q a' o' nm l v).hp⟩):=by
 have h:(rdS s q).Sz:=rdX_sz s _ _ _ _ _ hs
 have ac:=fun bx t=>accept_eq h.toOk a o [45,62] (by omega) bx t
 simp only[rH,acceptN,hq,cond_true] at ac
 obtain⟨o',s1⟩:=(sort_eq hs q (by omega) (a+1) o (by omega)).badT hx
 have hlen:lenD 1 (.tsl 5 3 1 (l.map iPD))=some l.length:=by rw[lenD_tsl,List.length_map]
 have hlt:(l.length:Int)<3:=by omega
 have hloc:=fun env=>fd_loc s q a' o' nm (l.map iPD) v [] l.length (.pan (faultD e p)) env rfl
 have htk:∀n:Nat,((rdS s q).tk++[n]).length=6:=fun _=>rfl
 simp only[List.map_nil] at s1
 simp only[fdS,fdB,List.append_nil] at hloc⊢
 apply Exists.intro
 refine⟨o',?_⟩
 conv=>lhs;simp[fc74_b0,evKC,evK,evGuard,put,Env.get,Env.keep,entry,Opd.ev,splice,cutAt,indexD,D.asInt?,D.asNat?,u8,binD,strBin,unD,boundsD,sliceD,iaddrD,sub,minmaxD,eqvL,PD.eqv,clsP,cls,clsR,isCl,isW,apartRW,offB,apartWW,clash,insOk,finish,evRes,evRes1,mapO,D.cells,PD.cells,D.refsL,D.refs,D.toksL,D.toks,mkAgg,pures,fillD,fillE,appendD,srcD,D.elems?,D.asPD,Int.toNat_natCast,srcH,srcBH,eqD,D.asPDL,isMapC,ld_succ,ld_zero,st_succ,st_zero,oI,oS,oN,oP,oB,oL,oT,oF,oE,ldr0,ldr1,ldr2,ldr3,ldr4,ldr5,ldr6,str1',str3',hlen,hlt,htk,ac,s1,hloc,D.ren,below,-List.length_append,drP,evRest,behind,pairsOk,panOk,SO.uses,SK.slots,Opd.slots,SK.heapless]
theorem fd_step(a o:Nat)(ha:a≤400000)(l:List Nat)(hl:l.length<3)(hq:acceptB (rdS s q) a [45,62]=true){i a':Nat}(hx:sortP (rdS s q) q.S (a+1)= .ok i a'):
    evS (call pg) pg.G iterX fc74_b0 (fdS s q a o nm l v)=some (.norm,fdS s q a' o nm (l++[i]) v):=by
 have h:(rdS s q).Sz:=rdX_sz s _ _ _ _ _ hs
 have ac:=fun bx t=>accept_eq h.toOk a o [45,62] (by omega) bx t
 simp only[rH,acceptN,hq,cond_true] at ac
 have s1:=(sort_eq hs q (by omega) (a+1) o (by omega)).okT hx
 have hlen:lenD 1 (.tsl 5 3 1 (l.map iPD))=some l.length:=by rw[lenD_tsl,List.length_map]
 have hlt:(l.length:Int)<3:=by omega
 have hloc:=fun env=>fd_loc s q a' o nm ((l++[i]).map iPD) v [] (l++[i]).length .norm env rfl
 have htk:∀n:Nat,((rdS s q).tk++[n]).length=6:=fun _=>rfl
 have hap:=fun bx=>ap_i (s:=s) (q:=q) (l:=l) (i:=i) (bx:=bx) (by omega)
 obtain⟨kc,hkc,hcl⟩:=cls_rd1 h.toOk (a+1) o a' o (fdB nm (l.map iPD) v) [l.length] 123 41
 simp only[List.map_nil] at s1
 simp only[fdB] at hcl
 simp only[fdS,fdB,List.append_nil] at hloc⊢
 rcases hkc with rfl |rfl<;>simp[fc74_b0,↓hcl,evKC,evK,evGuard,put,Env.get,Env.keep,Opd.ev,splice,cutAt,binD,clsP,cls,clsR,isCl,isW,apartRW,offB,apartWW,clash,insOk,D.cells,PD.cells,fillE,srcD,D.elems?,D.asPD,srcH,ld_succ,ld_zero,st_succ,st_zero,hlen,hlt,htk,ac,s1,hap,hloc,D.ren,below,-List.length_append,-List.map_append]
end
end Go.Proofs.YtalgjkpkkdljaaaGreatDoor
namespace Go.Proofs.YtalgjkpkkdljaaaGreatDoor
open Go.Vs
def sortsP(c:Rd)(S:List (List UInt8×Bool)):Nat→List Nat→Nat→PR (List Nat)
 | 0,l,a=>.ok l a
 |n+1,l,a=>if acceptB c a [45,62] then(sortP c S (a+1)).bind fun i a=>sortsP c S n (l++[i]) a else .ok l a
theorem accept_lt'{c:Rd}{a:Nat}{s:List UInt8}(h:acceptB c a s=true):a<c.ts.length:=by
 rcases Nat.lt_or_ge a c.ts.length with q |q
 ·exact q
 ·unfold acceptB at h
  rw[tok_out q] at h
  simp at h
theorem sort_lt{c:Rd}{S:List (List UInt8×Bool)}{a i a':Nat}(h:sortP c S a= .ok i a'):a'=a+1∧a<c.ts.length∧findS S (c.tok a).t S.length=some i:=by
 unfold sortP at h
 split at h
 ·rename_i hn
  split at h
  ·rename_i hf
   cases h
   refine⟨rfl,?_,hf⟩
   rcases Nat.lt_or_ge a c.ts.length with q |q
   ·exact q
   ·unfold namedB at hn
    rw[tok_out q] at hn
    simp at hn
  ·cases h
 ·exact absurd h wrongP_bad
section
variable {s : List UInt8} (hs : s.length ≤ 20000) (q : Sp) (hS : q.S.length ≤ 1000) (nm : List UInt8) (v : Bool)
include hs hS
theorem fd_loop:∀(n:Nat) (l:List Nat) (a:Nat),n+l.length=3→a≤(rdS s q).ts.length→match sortsP (rdS s q) q.S n l a with
    | .ok l' a'=>a'≤(rdS s q).ts.length∧∃env,loopK (call pg) pg.G [0,4] fc74_b0 (fdS s q a 0 nm l v)=some (.exit 0,⟨env,(fdS s q a' 0 nm l' v).hp⟩)∧env.get 0= .box 0 0∧env.get 4= .box 4 0
    | .bad e p a'=>∃env o' l',loopK (call pg) pg.G [0,4] fc74_b0 (fdS s q a 0 nm l v)=some (.pan (faultD e p),⟨env,(fdS s q a' o' nm l' v).hp⟩):=by
 have h:(rdS s q).Sz:=rdX_sz s _ _ _ _ _ hs
 have hn:=h.n
 intro n
 induction n with
 |zero=>
  intro l a hl ha
  obtain⟨env,e,g0,g4⟩:=fd_end3 (s:=s) q nm v a 0 l (by omega)
  exact⟨ha,env,loopK_out e (by simp),g0,g4⟩
 |succ n ih=>
  intro l a hl ha
  unfold sortsP
  cases hq:acceptB (rdS s q) a [45,62] with
  |false=>
   obtain⟨env,e,g0,g4⟩:=fd_end hs q nm v a 0 (by omega) l (by omega) hq
   exact⟨ha,env,loopK_out e (by simp),g0,g4⟩
  |true=>
   simp only[if_true]
   cases hx:sortP (rdS s q) q.S (a+1) with
   |bad e p a'=>
    obtain⟨env,o',e1⟩:=fd_bad hs q hS nm v a 0 (by omega) l (by omega) hq hx
    exact⟨env,o',l,loopK_out e1 (by simp)⟩
   |ok i a'=>
    simp only[bind_ok]
    obtain⟨rfl,hlt,_⟩:=sort_lt hx
    have e1:=fd_step hs q hS nm v a 0 (by omega) l (by omega) hq hx
    have:=ih (l++[i]) (a+1+1) (by simp;omega) (by omega)
    rw[show loopK (call pg) pg.G [0,4] fc74_b0 (fdS s q a 0 nm l v)=loopK (call pg) pg.G [0,4] fc74_b0 (fdS s q (a+1+1) 0 nm (l++[i]) v) from loopK_norm e1]
    exact this
end
def fieldDeclP(c:Rd)(q:Sp)(at_ a:Nat):PR Sp:=
 if 6≤q.F.length then .bad 2 at_ a
 else(expectP c (acN c a [118,97,114]) [102,105,101,108,100]).bind fun _ a2=>(nameP c a2).bind fun t a3=>(expectP c a3 [58]).bind fun _ a4=>
  (sortP c q.S a4).bind fun i a5=>(sortsP c q.S 2 [i] a5).bind fun l a6=>(expectP c a6 [59]).bind fun _ a7=>
   .ok {q with F:=q.F++[(t.t,l,acceptB c a [118,97,114])]} a7
theorem fieldDecl_eq{s:List UInt8}(hs:s.length≤20000)(q:Sp)(hS:q.S.length≤1000)(hF:q.F.length≤1000)(p a:Nat)(ha:a≤(rdS s q).ts.length):AnsS 74 [.int .i64 p] s q a (fieldDeclP (rdS s q) q p a):=by
 have h:(rdS s q).Sz:=rdX_sz s _ _ _ _ _ hs
 have hn:=h.n
 have l9:=fun G bx tk a o=>ldX9 (G:=G) (bx:=bx) (tk:=tk) (s:=s) (f:=q.f) (S:=q.S.map sPD) (F:=q.F.map fPD) (P:=q.P.map pPD) (A:=q.A.map aPD) (a:=a) (o:=o)
 have hlen:lenD 1 (.tsl 2 70 3 (q.F.map fPD))=some q.F.length:=by rw[lenD_tsl,List.length_map]
 unfold fieldDeclP
 by_cases hq:6≤q.F.length
 ·rw[if_pos hq]
  have hl:=lim_bad (n:=(q.F.length:Int)) (most:=6) p (by omega)
  refine ansS_bad ⟨0,[],[],call_body (fc:=fc74) rfl rfl rfl rfl ?_⟩
  simp only[rH,List.append_nil,rdS]
  simp[fc74,evKC,evK,put,Env.get,entry,Opd.ev,finish,l9,hlen,hl]
 ·rw[if_neg hq]
  have hl:=lim_ok (n:=(q.F.length:Int)) (most:=6) p (by omega)
  have ac:=fun bx=>accept_eq h.toOk a 0 [118,97,114] (by omega) bx []
  rw[acceptN_acN] at ac
  have hb:acN (rdS s q) a [118,97,114]≤a+1:=by unfold acN;split<;>omega
  generalize acceptB (rdS s q) a [118,97,114]=v at *
  generalize acN (rdS s q) a [118,97,114]=a1 at *
  simp only[rH,List.append_nil,rdS] at ac
  cases r1:expectP (rdS s q) a1 [102,105,101,108,100] with
  |bad e p2 a2=>
   obtain⟨o',s1⟩:=(expect_eq h a1 0 [102,105,101,108,100] (by omega)).badT r1
   have s1:=fun bx=>s1 bx []
   simp only[List.map_cons,List.map_nil,List.append_nil,rdS] at s1
   refine ansS_bad ⟨o',[[.p (.str []),.p .nils,.p (.bool v)]],[],call_body (fc:=fc74) rfl rfl rfl rfl ?_⟩
   simp only[rH,List.append_nil,rdS]
   simp[fc74,evKC,evK,put,Env.get,Env.keep,entry,Opd.ev,splice,finish,D.cells,D.one,PD.one,mkAgg,pures,fillD,st_succ,st_zero,l9,hlen,hl,ac,s1]
  |ok u a2=>
   have s1:=fun bx=>(expect_eq h a1 0 [102,105,101,108,100] (by omega)).okT r1 bx []
   obtain⟨e2,hlt2⟩:=expect_lt r1
   simp only[List.map_cons,List.map_nil,List.append_nil,rdS] at s1
   simp only[bind_ok]
   cases r2:nameP (rdS s q) a2 with
   |bad e p2 a3=>
    obtain⟨o',s2⟩:=(rname_eq h a2 0 (by omega) (tok_tlen h _)).badT r2
    have s2:=fun bx=>s2 bx []
    simp only[List.map_nil,List.append_nil,rdS] at s2
    refine ansS_bad ⟨o',[[.p (.str []),.p .nils,.p (.bool v)]],[],call_body (fc:=fc74) rfl rfl rfl rfl ?_⟩
    simp only[rH,List.append_nil,rdS]
    simp[fc74,evKC,evK,put,Env.get,Env.keep,entry,Opd.ev,splice,finish,D.cells,D.one,PD.one,mkAgg,pures,fillD,st_succ,st_zero,l9,hlen,hl,ac,s1,s2]
   |ok t a3=>
    have s2:=fun bx=>(rname_eq h a2 0 (by omega) (tok_tlen h _)).okT r2 bx []
    obtain⟨e3,hlt3,_⟩:=name_lt r2
    simp only[List.map_nil,List.append_nil,Tok.pd,rdS] at s2
    simp only[bind_ok]
    cases r3:expectP (rdS s q) a3 [58] with
    |bad e p2 a4=>
     obtain⟨o',s3⟩:=(expect_eq h a3 0 [58] (by omega)).badT r3
     have s3:=fun bx=>s3 bx []
     simp only[List.map_cons,List.map_nil,List.append_nil,rdS] at s3
     refine ansS_bad ⟨o',[[.p (.str t.t),.p .nils,.p (.bool v)]],[],call_body (fc:=fc74) rfl rfl rfl rfl ?_⟩
     simp only[rH,List.append_nil,rdS]
     simp[fc74,evKC,evK,put,Env.get,Env.keep,entry,Opd.ev,splice,cutAt,finish,D.cells,D.one,PD.one,mkAgg,pures,fillD,st_succ,st_zero,l9,hlen,hl,ac,s1,s2,s3]
    |ok u3 a4=>
     have s3:=fun bx=>(expect_eq h a3 0 [58] (by omega)).okT r3 bx []
     obtain⟨e4,hlt4⟩:=expect_lt r3
     simp only[List.map_cons,List.map_nil,List.append_nil,rdS] at s3
     simp only[bind_ok]
     cases r4:sortP (rdS s q) q.S a4 with
     |bad e p2 a5=>
      obtain⟨o',s4⟩:=(sort_eq hs q (by omega) a4 0 (by omega)).badT r4
      have s4:=fun bx=>s4 bx []
      simp only[List.map_nil,List.append_nil,rdS] at s4
      refine ansS_bad ⟨o',[[.p (.str t.t),.p .nils,.p (.bool v)]],[],call_body (fc:=fc74) rfl rfl rfl rfl ?_⟩
      simp only[rH,List.append_nil,rdS]
      simp[fc74,evKC,evK,evGuard,put,Env.get,Env.keep,entry,Opd.ev,splice,cutAt,clsP,cls,clsR,isCl,isW,apartRW,offB,apartWW,clash,insOk,finish,D.cells,D.one,PD.one,mkAgg,pures,fillD,ld_succ,ld_zero,st_succ,st_zero,l9,hlen,hl,ac,s1,s2,s3,s4,drP,evRest,behind,pairsOk,panOk,SO.uses,SK.slots,Opd.slots,SK.heapless]
     |ok i a5=>
      have s4:=fun bx=>(sort_eq hs q (by omega) a4 0 (by omega)).okT r4 bx []
      obtain⟨e5,hlt5,_⟩:=sort_lt r4
      obtain⟨kc,hkc,hcl⟩:=cls_rd1 h.toOk a4 0 a5 0 [[.p (.str t.t),.p .nils,.p (.bool v)]] [] 123 26
      have hap:=fun bx=>ap_i0 (s:=s) (q:=q) (i:=i) (bx:=bx)
      simp only[List.map_nil,List.append_nil,rdS] at s4 hcl hap
      simp only[bind_ok]
      have hL:=fd_loop hs q hS t.t v 2 [i] a5 rfl (by omega)
      cases r5:sortsP (rdS s q) q.S 2 [i] a5 with
      |bad e p2 a6=>
       rw[r5] at hL
       obtain⟨env,o',l,hL⟩:=hL
       simp only[fdS,fdB,rdS,List.length_cons,List.length_nil,Nat.zero_add,List.map_cons,List.map_nil] at hL
       refine ansS_bad ⟨o',[[.p (.str t.t),.tsl 5 3 1 (l.map iPD),.p (.bool v)]],[l.length],call_body (fc:=fc74) rfl rfl rfl rfl ?_⟩
       simp only[rH,List.append_nil,rdS]
       rcases hkc with rfl |rfl<;>simp[fc74,↓hcl,evKC,evK,put,Env.get,Env.keep,entry,Opd.ev,splice,cutAt,clsP,cls,clsR,isCl,isW,apartRW,offB,apartWW,clash,insOk,finish,D.cells,D.one,PD.one,PD.cells,mkAgg,pures,fillD,fillE,srcD,D.elems?,D.asPD,srcH,ld_succ,ld_zero,st_succ,st_zero,l9,hlen,hl,ac,s1,s2,s3,s4,hap,hL]
      |ok l a6=>
       rw[r5] at hL
       obtain⟨hb6,env,hL,g0,g4⟩:=hL
       simp only[fdS,fdB,rdS,List.length_cons,List.length_nil,Nat.zero_add,List.map_cons,List.map_nil] at hL
       simp only[bind_ok]
       cases r6:expectP (rdS s q) a6 [59] with
       |bad e p2 a7=>
        obtain⟨o',s6⟩:=(expect_eq h a6 0 [59] (by omega)).badT r6
        simp only[List.map_cons,List.map_nil,rdS] at s6
        refine ansS_bad ⟨o',[[.p (.str t.t),.tsl 5 3 1 (l.map iPD),.p (.bool v)]],[l.length],call_body (fc:=fc74) rfl rfl rfl rfl ?_⟩
        simp only[rH,List.append_nil,rdS]
        rcases hkc with rfl |rfl<;>simp[fc74,↓hcl,evKC,evK,put,Env.get,Env.keep,entry,Opd.ev,splice,cutAt,clsP,cls,clsR,isCl,isW,apartRW,offB,apartWW,clash,insOk,finish,D.cells,D.one,PD.one,PD.cells,mkAgg,pures,fillD,fillE,srcD,D.elems?,D.asPD,srcH,ld_succ,ld_zero,st_succ,st_zero,l9,hlen,hl,ac,s1,s2,s3,s4,hap,hL,g0,s6]
       |ok u6 a7=>
        have s6:=(expect_eq h a6 0 [59] (by omega)).okT r6
        simp only[List.map_cons,List.map_nil,rdS] at s6
        simp only[bind_ok]
        have hap2:=fun bx x=>apX9 (bx:=bx) (t:=[l.length]) (s:=s) (f:=q.f) (S:=q.S.map sPD) (F:=q.F.map fPD) (P:=q.P.map pPD) (A:=q.A.map aPD) (x:=x) (by simpa using hF)
        refine ansS_ok ⟨[[.p (.str t.t),.tsl 5 3 1 (l.map iPD),.p (.bool v)]],[l.length],call_body (fc:=fc74) rfl rfl rfl rfl ?_⟩
        have hmap:(q.F++[(t.t,l,v)]).map fPD=q.F.map fPD++[.agg [.str t.t,.slice 1 (l.map iPD),.bool v]]:=by simp[fPD]
        simp only[rH,List.append_nil,rdS,hmap]
        rcases hkc with rfl |rfl<;>simp[fc74,↓hcl,evKC,evK,put,Env.get,Env.keep,entry,Opd.ev,splice,cutAt,sub,clsP,cls,clsR,isCl,isW,apartRW,offB,apartWW,clash,insOk,finish,evRes,D.cells,D.one,PD.one,PD.cells,mkAgg,pures,fillD,fillE,srcD,D.elems?,D.asPD,srcH,D.asPDL,ld_succ,ld_zero,st_succ,st_zero,l9,hlen,hl,ac,s1,s2,s3,s4,hap,hL,g0,g4,s6,hap2,stX9]
end Go.Proofs.YtalgjkpkkdljaaaGreatDoor
