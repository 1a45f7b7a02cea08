/-
  LassoMatchesReference: the row's statement.
-/
import Derived.Test.YtgplgbonlnodeaaGreatDoorP2
import Derived.Test.YtgplgbonlnodeaaGreatDoorJ3
import Derived.Test.YtgplgbonlnodeaaGreatDoorQ3
import Derived.SevenTiedAt
import Derived.Lay
import Derived.Carry
open Option renaming some->Z,none->Y
set_option maxRecDepth 100000
open Go.Vs

namespace Go.Proofs.YtgplgbonlnodeaaGreatDoor
open Go.Proofs.Ys
open Go.ChangeShapes Go.WideShapes Go.ChangeAt Go.WideMaps Go.WideElems Go.RowKit
theorem ala{H:Type}{enc:TypeId×Value->H}{w:World}{t0 t1 t2 t3 t4 t5:TypeId}{args:Array Value}{ds:List (DataW H)}{ps:List MemPlace}(h:DataW.TrodAll enc Tryz.prog w 0 (λ_=>true) true [t0,t1,t2,t3,t4,t5] args.toList ds ps): ∃v V a b c d d0 d1 d2 d3 d4 d5,args= #[v,V,a,b,c,d]/\ds=[d0,d1,d2,d3,d4,d5]/\(∃p,DataW.Trod enc Tryz.prog w 0 (λ_=>true) true t0 v d0 p)/\(∃p,DataW.Trod enc Tryz.prog w 0 (λ_=>true) true t1 V d1 p)/\(∃p,DataW.Trod enc Tryz.prog w 0 (λ_=>true) true t2 a d2 p)/\(∃p,DataW.Trod enc Tryz.prog w 0 (λ_=>true) true t3 b d3 p)/\(∃p,DataW.Trod enc Tryz.prog w 0 (λ_=>true) true t4 c d4 p)/\(∃p,DataW.Trod enc Tryz.prog w 0 (λ_=>true) true t5 d d5 p):=by obtain⟨v,e,d0,f,P,Q,s,rfl,rfl,g,G⟩:=trodAll_cons h;obtain⟨V,i,d1,j,K,L,rfl,rfl,rfl,k,l⟩:=trodAll_cons G;obtain⟨a,m,d2,n,M,N,rfl,rfl,rfl,o,r⟩:=trodAll_cons l;obtain⟨b,t,d3,u,O,R,rfl,rfl,rfl,x,y⟩:=trodAll_cons r;obtain⟨c,z,d4,A,S,T,rfl,rfl,rfl,B,C⟩:=trodAll_cons y;obtain⟨d,E,d5,F,U,W,rfl,rfl,rfl,I,J⟩:=trodAll_cons C;obtain⟨rfl,rfl,rfl⟩:=trodAll_nil J;exact⟨v,V,a,b,c,d,d0,d1,d2,d3,d4,d5,by cases args;simp_all,rfl,⟨_,g⟩,⟨_,k⟩,⟨_,o⟩,⟨_,x⟩,⟨_,B⟩,⟨_,I⟩⟩

theorem alb(os:Os)(s:os.Started)(H:Type)(enc:TypeId×Value->H):
    ReturnsInHanded {} Tryz.checked os 3 .any (λw args=>(Rows.lassoMatchesReferenceSpec.pre enc Tryz.prog Tryz.f3 [] false w args/\laidMetH Tryz.prog zj w)/\sizedMet enc Tryz.prog Tryz.f3 (OpenSpec.ofChange Rows.lassoMatchesReferenceSpec) false w args)
     (Rows.lassoMatchesReferenceSpec.post enc Tryz.prog Tryz.f3 false true false false):=by
 refine abU (C:=Tryz.checked) (X:=λw _=>laidMetH Tryz.prog zj w) (λ_ _ _ z h=>h.of_heap z) alc s (by kernel_rfl) Tryz.func3
  (ChangeSpec.witness_shaped (enc:=enc) (C:=Tryz.checked) (os:=os) (X:=λw _=>laidMetH Tryz.prog zj w) false (World.laidAll Tryz.prog os zj) #[.agg #[.slice Y 0 0,.slice Y 0 0,.slice Y 0 0,.slice Y 0 0],.agg #[.slice Y 0 0,.int .i64 0],.slice Y 0 0,.agg #[.slice Y 0 0],.agg #[.slice Y 0 0,.int .i64 0,.slice Y 0 0,.int .i64 0],.slice Y 0 0] 8 (World.laidAll_os _ _ _) (World.shaped_of_ZipB (by kernel_rfl) (by kernel_rfl)) (by kernel_rfl) (by kernel_rfl) (by kernel_rfl) (ald os _)) ?_
 intro W c args E gs d a k f hL _;have l:∀(j:Nat) t v,Tryz.f3.params[j]? =Z t->args[j]? =Z v->Value.okWide Tryz.prog W .any c t v:=a;have b:∀(j:Nat) t v,Tryz.f3.params[j]? =Z t->args[j]? =Z v->Rd enc W t v:=f;have g:=k;obtain⟨p,q,A,F,rfl,G,I⟩:=k;have m:DataW.TrodAll enc Tryz.prog W 0 (λ_=>true) true Tryz.f3.params.toList args.toList E p:=A;rw[Tryz.params3] at m l b;obtain⟨V,n,o,r,u,x,d0,d1,d2,d3,d4,d5,rfl,rfl,⟨_,h0⟩,⟨_,h1⟩,⟨_,h2⟩,⟨_,h3⟩,⟨_,h4⟩,⟨_,h5⟩⟩:=ala m;obtain⟨rfl,rfl⟩:=trodVars_none F;obtain⟨Q,R,S,t0,U⟩:=ak2 (l 0 27 V rfl rfl) (b 0 27 V rfl rfl);obtain⟨J,P,K,L,t1⟩:=ak4 (l 1 30 n rfl rfl) (b 1 30 n rfl rfl);obtain⟨M,N,O,t2⟩:=ak3 (l 2 31 o rfl rfl) (b 2 31 o rfl rfl);obtain⟨T,r3⟩:=ak6 (l 3 34 r rfl rfl) (b 3 34 r rfl rfl);obtain⟨q4,r4,s4⟩:=ak7 (l 4 37 u rfl rfl) (b 4 37 u rfl rfl);obtain⟨q5,r5⟩:=ak5 (l 5 38 x rfl rfl) (b 5 38 x rfl rfl);obtain⟨H',hc⟩:=ale Q S t0 U J P L t1 M O t2 T q4 q5;refine(abD alf hc alg (xZ R (xZ K (xZ N (xZ r3 (xZ r4 (xZ r5 abG))))))).mono ?_;rintro e W' ⟨rfl,B⟩;refine⟨.bool true,rfl,?_⟩;refine abE (tb:=4) laidOut ?_ rfl g (by kernel_rfl) Tryz.underlying4 rfl B;intro t y;rw[Tryz.params3] at y;have i:t=27\/t=30\/t=31\/t=34\/t=37\/t=38:=by simpa using y
 rcases i with rfl |rfl |rfl |rfl |rfl |rfl
 .exact⟨by kernel_rfl,of_decide_eq_true (by kernel_rfl)⟩
 .exact⟨by kernel_rfl,of_decide_eq_true (by kernel_rfl)⟩
 .exact⟨by kernel_rfl,of_decide_eq_true (by kernel_rfl)⟩
 .exact⟨by kernel_rfl,of_decide_eq_true (by kernel_rfl)⟩
 .exact⟨by kernel_rfl,of_decide_eq_true (by kernel_rfl)⟩
 .exact⟨by kernel_rfl,of_decide_eq_true (by kernel_rfl)⟩
theorem alh:Rows.LassoMatchesReferenceSaid:=OpenClaim.holds_of_wide 3 Tryz.f3 rfl rfl rfl rfl rfl rfl rfl ⟨rfl,rfl,rfl,rfl,rfl⟩ rfl rfl rfl rfl rfl Wh Tryz.func3 ali (of_decide_eq_true (by kernel_rfl)) (by unfold Func.isWrapper;first |(rw[if_pos (by decide+kernel)];kernel_rfl) |(rw[if_neg (by decide+kernel)];exact⟨rfl,rfl⟩)) (λo s H e _=>alb o s H e)

end Go.Proofs.YtgplgbonlnodeaaGreatDoor
