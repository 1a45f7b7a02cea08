/-
  The law LassoDecodeEncode: Encode succeeds exactly within the bounds, and Decode of the encoding is the model.
-/
import Derived.Test.YtgplgbonlnodeaaGreatDoorKf
open Int renaming natCast_inj→pZ,toNat_natCast→qF
open List renaming length→oq,mem_map→dz,mem_map_of_mem→Kc
open Prod renaming mk→lB
namespace Go.Proofs.YtgplgbonlnodeaaGreatDoor
open Go.Vs
attribute [local simp] cF aN fF put Env.get Env.keep entry aw.ev ph uk aE cutAt uj D.rJ D.lC u8 vZ ui v5 kB sub v7 p8 PD.eqv jP cls gN rL bq kC nD pj eP qL finish lX qM aP D.aD D.refs D.bz D.cJ ec gU aO ov fj eF D.iR D.eM qF rK sX qJ D.jn aU A8 A9 wL Ba Bb jL B7 gives nx B2 B3 B4 pZ zz dJ below Out.ren D.ren D.ba zF B6 BK BL BM tL zA BN BO BP BQ BR BS BT zC BU BV BW BX zD wZ BZ
set_option maxRecDepth 100000
set_option maxHeartbeats 4000000
attribute [local irreducible] oT oR oS eW
theorem amg{sp:Sp}{m:Mo}{bs:Sl Bn}(_:qz sp m)(hs:tU sp m)(ok:iF sp m.a m.st bs)(hi:¬zW bs m):
    ∀H,av (call pg) 18 [.p (.agg [jg sp.so,bZ sp.fi,jh sp.pr,ji sp.fa]),.p (.agg [af m.a,.int .i64 m.st]),.p (bG bs),.p (.agg [af m.a,.int .i64 m.st,bK m.ss,.int .i64 m.lp])] H=
     some (.val (.bA [.p .aI,.p (.bool false)]),H):=by
 have lN:=hs;obtain⟨h1,h2,h3,h4,h5,h6⟩:=hs;have hb:=ok.len;have BB:=ok.mC.nf;obtain⟨r1,c1,d1⟩:=NT m.a m.a (by omega);obtain⟨r2,c2,d2⟩:=WH (so:=jg sp.so) (f3:=jh sp.pr) (f4:=ji sp.fa) (fi:=sp.fi) (a:=m.a) (ss:=m.ss) (st:=m.st) (lp:=m.lp) (gT _) (by simp) (by simp) (by simp) (by omega) (by omega) (by omega) (by omega) lN.tu ok.mC.fd;obtain⟨r3,c3,d3⟩:=WK bs m.a m.ss m.st m.lp (by omega) (by omega) (fun b hb=>by have:=ok.tu b hb;omega) lN.tu;exact ajt (by simp) (by simp) (by simp) c1 c2 c3 fun hh=>hi (d3.1 hh.2.2.2)
theorem amh(qC:∀H,av (call pg) 10 [] H=some (.val (.p (.bool true)),H))(sp:Sp)(rB:xg sp)(tv:nY sp)(bs:Sl Bn)(fA:(els bs).length<4611686018427387904)(sS:∀b∈els bs,b.lo.tu≠.cV)(m:Mo)(ha:m.a≠.cV):
    ∀H,av (call pg) 4 [.p (.agg sp.cl),.p (bG bs),.p (.agg [af m.a,.int .i64 m.st,bK m.ss,.int .i64 m.lp])] H=some (.val (.p (.bool true)),H):=by
 obtain⟨r1,c1,d1⟩:=WM sp m;have hf:=rf a4
 conv at hf=>rhs;reduce
 refine aG (aa:=[_,_,_]) hf rfl rfl rfl ?_;clear hf;cases r1 with
 |false=>simp[qC,c1]
 |true=>
 have sx:=d1.1 rfl;clear d1;obtain⟨r3,c3,d3⟩:=Ws sp rB tv m.a m.st bs (by have:=sx.2.2.2.1;omega) fA (by have:=sx.1;omega);cases r3 with
 |false=>simp[qC,c1,c3]
 |true=>
 have ok:=d3 rfl;clear d3;obtain⟨r4,c4,d4⟩:=WN sx;cases r4 with
 |false=>simp[qC,c1,c3,c4]
 |true=>
 have vx:=d4.1 rfl;clear d4;obtain⟨r6,c6,d6⟩:=WQ vx sx ok;cases r6 with
 |false=>
  have e1:=amg vx sx ok fun h=>by have:=d6.2 h;cases this
  simp[qC,c1,c3,c4,c6,e1]
 |true=>
 have ix:=d6.1 rfl;clear d6;have e1:=WR vx sx ok ix rfl rfl;obtain⟨q1,q2,q3,q4,q5⟩:=(Cv ok.mC.fd).1 vx;have eR:0≤m.lp∧m.lp<m.st:=⟨q3,q4⟩;have ie:=X5 (els sp.fi) (els bs) m.st m.lp (els m.ss);have nJ:=pP (pS (fL (els sp.fi) (els bs) m.st m.lp (els m.ss)));have Po:(els (pS (fL (els sp.fi) (els bs) m.st m.lp (els m.ss)))).length<4611686018427387904:=by
  rw[Ft,ie];have:=Pe ok;have:=FQ ok.sc.2.2.1;have:=ok.sc.2.2.2.1;unfold pR;omega
 obtain⟨m',Yq,m1,m2,m3,m4⟩:=X3 ok ha sS (pS (fL (els sp.fi) (els bs) m.st m.lp (els m.ss))) Po;have Pp:=XZ m.a m.st (by have:=ok.sc.2.2.1;omega) (by have:=ok.sc.2.2.2.1;omega) _ Po;rw[Ft] at nJ m3 m4 Pp;rw[ie] at nJ;rw[al7 eR] at m3;rw[al8 ok vx ix] at m4;have By:1<m.st→fq (fL (els sp.fi) (els bs) m.st m.lp (els m.ss)) m.st (aW m.st)=(1,m.lp):=fun h=>Ym eR h;have Yr:=X4 ok;have sx2:=sx;have Ys:(els m'.ss).length=(els m.ss).length:=by
  have:=congrArg oq m4;simpa using this
 have Yt:=amd (x:=m') (y:=m) m2 m1 m3 m4 (by rw[m2];have:=sx.2.2.2.1;omega) (by rw[Ys];have:=sx.2.2.1;omega) fun z hz=>by
  have hm:stM z∈(els m.ss).map stM:=by rw[←m4];exact Kc hz
  obtain⟨y,hy,Ib⟩:=dz.1 hm;have hs:=sx.2.2.2.2.1 y hy;have AH:(els z).length=(els y).length:=by
   have:=congrArg oq Ib;simpa[stM] using this.symm
  refine⟨by omega,fun r hr=>?_⟩;have :(r.ar,els r.tu)∈stM y:=by rw[Ib];exact Kc (f:=fun r:Rl=>(r.ar,els r.tu)) hr
  obtain⟨r',tq,he⟩:=dz.1 this;have h3:els r'.tu=els r.tu:=congrArg Prod.snd he;have:=hs.2 r' tq;rw[←h3];omega
 generalize dy (pS (fL (els sp.fi) (els bs) m.st m.lp (els m.ss)))=B at *;generalize fq (fL (els sp.fi) (els bs) m.st m.lp (els m.ss)) m.st (aW m.st)=k at *;generalize pR (els sp.fi) (els bs) m.st=n at *;clear sx2 sx vx ix q1 q2 q3 q4 q5 ie Po Ys m2 m4 ok;obtain⟨k1,k2⟩:=k;obtain⟨xa,Ad,Ae,CM⟩:=m;obtain⟨ya,J9,CN,ylp⟩:=m';dsimp only at *;subst m1 m3;by_cases h1:1<J9
 ·have hk:=By h1;simp only[lB.injEq] at hk;obtain⟨rfl,rfl⟩:=hk;have h2:¬J9=1:=by omega
  simp[qC,c1,c3,c4,c6,e1,Yq,Pp,Yr,Yt,nJ,h2]
 ·have h2:J9=1:=by omega
  subst h2;simp[qC,c1,c3,c4,c6,e1,Yq,Pp,Yr,Yt,nJ]
end Go.Proofs.YtgplgbonlnodeaaGreatDoor
