/-
  LassoStates: the row's statement.
-/
import Derived.Test.YtgplgbonlnodeaaGreatDoorP2
import Derived.Test.YtgplgbonlnodeaaGreatDoorJ8
import Derived.Test.YtgplgbonlnodeaaGreatDoorQ8
import Derived.SevenTiedAt
import Derived.Lay
import Derived.Carry

namespace Go.Proofs.YtgplgbonlnodeaaGreatDoor
open Go.Vs Go.ChangeShapes Go.WideShapes Go.ChangeAt Go.WideMaps Go.WideElems Go.RowKit
theorem trodAll_five{H:Type}{enc:TypeId×Value→H}{w:World}{t0 t1 t2 t3 t4:TypeId}{args:Array Value}{ds:List (DataW H)}{ps:List MemPlace}(h:DataW.TrodAll enc Tryz.prog w 0 (fun _=>true) true [t0,t1,t2,t3,t4] args.toList ds ps):
    ∃v0 v1 v2 v3 v4 d0 d1 d2 d3 d4 p0 p1 p2 p3 p4,args= #[v0,v1,v2,v3,v4]∧ds=[d0,d1,d2,d3,d4]∧ps=p0++p1++p2++p3++p4∧DataW.Trod enc Tryz.prog w 0 (fun _=>true) true t0 v0 d0 p0∧DataW.Trod enc Tryz.prog w 0 (fun _=>true) true t1 v1 d1 p1∧DataW.Trod enc Tryz.prog w 0 (fun _=>true) true t2 v2 d2 p2∧DataW.Trod enc Tryz.prog w 0 (fun _=>true) true t3 v3 d3 p3∧DataW.Trod enc Tryz.prog w 0 (fun _=>true) true t4 v4 d4 p4:=by
 obtain⟨v0,vs,d0,ds0,p0,q0,oU,rfl,rfl,h0,uL⟩:=trodAll_cons h;obtain⟨v1,SZ,d1,YL,p1,q1,rfl,rfl,rfl,h1,hrest1⟩:=trodAll_cons uL;obtain⟨v2,vs2,d2,ds2,p2,q2,rfl,rfl,rfl,h2,hrest2⟩:=trodAll_cons hrest1;obtain⟨v3,vs3,d3,ds3,p3,q3,rfl,rfl,rfl,h3,hrest3⟩:=trodAll_cons hrest2;obtain⟨v4,vs4,d4,ds4,p4,q4,rfl,rfl,rfl,h4,hrest4⟩:=trodAll_cons hrest3;obtain⟨rfl,rfl,rfl⟩:=trodAll_nil hrest4;exact⟨v0,v1,v2,v3,v4,d0,d1,d2,d3,d4,p0,p1,p2,p3,p4,by cases args;simp_all,rfl,by simp,h0,h1,h2,h3,h4⟩

set_option maxRecDepth 100000 in
theorem law8_lifted(os:Os)(started:os.Started)(H:Type)(enc:TypeId×Value→H):
    ReturnsInHanded {} Tryz.checked os 8 .any (fun w args=>(Rows.lassoStatesSpec.pre enc Tryz.prog Tryz.f8 [] false w args∧laidMetH Tryz.prog laidL w)∧sizedMet enc Tryz.prog Tryz.f8 (OpenSpec.ofChange Rows.lassoStatesSpec) false w args)
     (Rows.lassoStatesSpec.post enc Tryz.prog Tryz.f8 false true false false):=by
 refine afa (C:=Tryz.checked) (X:=fun w _=>laidMetH Tryz.prog laidL w) (fun _ _ _ hh h=>h.of_heap hh) ownK started (by kernel_rfl) Tryz.func8
  (ChangeSpec.witness_shaped (enc:=enc) (C:=Tryz.checked) (os:=os) (X:=fun w _=>laidMetH Tryz.prog laidL w) false (World.laidAll Tryz.prog os laidL) #[.agg #[.slice none 0 0,.slice none 0 0,.slice none 0 0,.slice none 0 0],.agg #[.slice none 0 0,.int .i64 0],.slice none 0 0,.agg #[.slice none 0 0],.slice none 0 0] 8 (World.laidAll_os _ _ _) (World.shaped_of_ZipB (by kernel_rfl) (by kernel_rfl)) (by kernel_rfl) (by kernel_rfl) (by kernel_rfl) (door_met os _)) ?_
 intro W base args ds gs before hval0 hW hZ0 hL _;have hval:∀(j:Nat) t v,Tryz.f8.params[j]? =some t→args[j]? =some v→Value.okWide Tryz.prog W .any base t v:=hval0;have hZ:∀(j:Nat) t v,Tryz.f8.params[j]? =some t→args[j]? =some v→Rd enc W t v:=hZ0;have hW':=hW;obtain⟨p,q,OE,hV,rfl,zK,gA⟩:=hW;have hA:DataW.TrodAll enc Tryz.prog W 0 (fun _=>true) true Tryz.f8.params.toList args.toList ds p:=OE;rw[Tryz.params8] at hA hval hZ;obtain⟨v0,v1,v2,v3,v4,d0,d1,d2,d3,d4,p0,p1,p2,p3,p4,rfl,rfl,rfl,h0,h1,h2,h3,h4⟩:=trodAll_five hA;obtain⟨rfl,rfl⟩:=trodVars_none hV;obtain⟨q0,r0,s0,t0,u0⟩:=anF (hval 0 27 v0 rfl rfl) (hZ 0 27 v0 rfl rfl);obtain⟨q1,p1,r1,s1,t1⟩:=anH (hval 1 30 v1 rfl rfl) (hZ 1 30 v1 rfl rfl);obtain⟨q2,r2,s2,t2⟩:=anG (hval 2 31 v2 rfl rfl) (hZ 2 31 v2 rfl rfl);obtain⟨q3,r3⟩:=anJ (hval 3 34 v3 rfl rfl) (hZ 3 34 v3 rfl rfl);obtain⟨q4,r4⟩:=anI (hval 4 38 v4 rfl rfl) (hZ 4 38 v4 rfl rfl);obtain⟨H',hc⟩:=anX q0 s0 t0 u0 q1 p1 s1 t1 q2 s2 t2 q3 q4;refine(aeS anY hc globs_ok (Ee r0 (Ee r1 (Ee r2 (Ee r3 (Ee r4 aeV)))))).mono ?_;rintro e W' ⟨rfl,B⟩;refine⟨.bool true,rfl,?_⟩;refine aeT (tb:=4) laidOut ?_ rfl hW' (by kernel_rfl) Tryz.underlying4 rfl B;intro t ht;rw[Tryz.params8] at ht;have uV:t=27∨t=30∨t=31∨t=34∨t=38:=by simpa using ht
 rcases uV with rfl |rfl |rfl |rfl |rfl
 ·exact⟨by kernel_rfl,of_decide_eq_true (by kernel_rfl)⟩
 ·exact⟨by kernel_rfl,of_decide_eq_true (by kernel_rfl)⟩
 ·exact⟨by kernel_rfl,of_decide_eq_true (by kernel_rfl)⟩
 ·exact⟨by kernel_rfl,of_decide_eq_true (by kernel_rfl)⟩
 ·exact⟨by kernel_rfl,of_decide_eq_true (by kernel_rfl)⟩
theorem law8_holds:Rows.LassoStatesSaid:=
 OpenClaim.holds_of_wide 8 Tryz.f8 rfl rfl rfl rfl rfl rfl rfl ⟨rfl,rfl,rfl,rfl,rfl⟩ rfl rfl rfl rfl rfl fnn8 Tryz.func8 facts8
  (of_decide_eq_true (by kernel_rfl)) (by unfold Func.isWrapper;first |(rw[if_pos (by decide+kernel)];kernel_rfl) |(rw[if_neg (by decide+kernel)];exact⟨rfl,rfl⟩))
  (fun os started H enc _=>law8_lifted os started H enc)

end Go.Proofs.YtgplgbonlnodeaaGreatDoor
