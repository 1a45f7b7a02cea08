/-
  LassoDecodeEncode: the row's statement.
-/
import Derived.Test.YtgplgbonlnodeaaGreatDoorP2
import Derived.Test.YtgplgbonlnodeaaGreatDoorJ4
import Derived.Test.YtgplgbonlnodeaaGreatDoorQ4
import Derived.SevenTiedAt
import Derived.Lay
import Derived.Carry
namespace Go.Proofs.YtgplgbonlnodeaaGreatDoor
open Go.Vs Go.ChangeShapes Go.WideShapes Go.ChangeAt Go.WideMaps Go.WideElems Go.RowKit
set_option maxRecDepth 100000 in
theorem alH(os:Os)(started:os.Started)(H:Type)(enc:TypeId×Value→H):
    ReturnsInHanded {} Tryz.checked os 4 .any (fun w args=>(Rows.lassoDecodeEncodeSpec.pre enc Tryz.prog Tryz.f4 [] false w args∧laidMetH Tryz.prog tX w)∧sizedMet enc Tryz.prog Tryz.f4 (OpenSpec.ofChange Rows.lassoDecodeEncodeSpec) false w args)
     (Rows.lassoDecodeEncodeSpec.post enc Tryz.prog Tryz.f4 false true false false):=by
 refine TB (C:=Tryz.checked) (X:=fun w _=>laidMetH Tryz.prog tX w) (fun _ _ _ hh h=>h.of_heap hh) X7 started (by kernel_rfl) Tryz.func4
  (ChangeSpec.witness_shaped (enc:=enc) (C:=Tryz.checked) (os:=os) (X:=fun w _=>laidMetH Tryz.prog tX w) false (World.laidAll Tryz.prog os tX) #[.agg #[.slice none 0 0,.slice none 0 0,.slice none 0 0,.slice none 0 0],.slice none 0 0,.agg #[.slice none 0 0,.int .i64 0,.slice none 0 0,.int .i64 0]] 8 (World.laidAll_os _ _ _) (World.shaped_of_ZipB (by kernel_rfl) (by kernel_rfl)) (by kernel_rfl) (by kernel_rfl) (by kernel_rfl) (X8 os _)) ?_
 intro W base args ds gs before Pf hW Ph hL _;have hval:∀(j:Nat) t v,Tryz.f4.params[j]? =some t→args[j]? =some v→Value.okWide Tryz.prog W .any base t v:=Pf;have hZ:∀(j:Nat) t v,Tryz.f4.params[j]? =some t→args[j]? =some v→Rd enc W t v:=Ph;have Pj:=hW;obtain⟨p,q,EG,hV,rfl,BJ,gj⟩:=hW;have hA:DataW.TrodAll enc Tryz.prog W 0 (fun _=>true) true Tryz.f4.params.toList args.toList ds p:=EG;rw[Tryz.params4] at hA hval hZ;obtain⟨v0,v1,v2,d0,d1,d2,p0,p1,p2,rfl,rfl,rfl,h0,h1,h2⟩:=trodAll_three hA;obtain⟨rfl,rfl⟩:=trodVars_none hV;obtain⟨q0,r0,s0,t0,u0⟩:=WX (hval 0 27 v0 rfl rfl) (hZ 0 27 v0 rfl rfl);obtain⟨q1,r1,s1,t1⟩:=WY (hval 1 31 v1 rfl rfl) (hZ 1 31 v1 rfl rfl);obtain⟨q2,r2,s2⟩:=ajN (hval 2 37 v2 rfl rfl) (hZ 2 37 v2 rfl rfl);obtain⟨H',hc⟩:=alI q0 s0 t0 u0 q1 s1 t1 q2 s2;refine(Tm X9 hc Ya (yO r0 (yO r1 (yO r2 Tq)))).mono ?_;rintro e W' ⟨rfl,B⟩;refine⟨.bool true,rfl,?_⟩;refine To (tb:=4) laidOut ?_ rfl Pj (by kernel_rfl) Tryz.underlying4 rfl B;intro t ht;rw[Tryz.params4] at ht;have uW:t=27∨t=31∨t=37:=by simpa using ht
 rcases uW with rfl |rfl |rfl
 ·exact⟨by kernel_rfl,of_decide_eq_true (by kernel_rfl)⟩
 ·exact⟨by kernel_rfl,of_decide_eq_true (by kernel_rfl)⟩
 ·exact⟨by kernel_rfl,of_decide_eq_true (by kernel_rfl)⟩
theorem alJ:Rows.LassoDecodeEncodeSaid:=
 OpenClaim.holds_of_wide 4 Tryz.f4 rfl rfl rfl rfl rfl rfl rfl ⟨rfl,rfl,rfl,rfl,rfl⟩ rfl rfl rfl rfl rfl Yb Tryz.func4 alK
  (of_decide_eq_true (by kernel_rfl)) (by unfold Func.isWrapper;first |(rw[if_pos (by decide+kernel)];kernel_rfl) |(rw[if_neg (by decide+kernel)];exact⟨rfl,rfl⟩))
  (fun os started H enc _=>alH os started H enc)
end Go.Proofs.YtgplgbonlnodeaaGreatDoor
