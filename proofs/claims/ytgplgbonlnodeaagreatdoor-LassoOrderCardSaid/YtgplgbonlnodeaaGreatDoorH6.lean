/-
  LassoOrder: the row's statement.
-/
import Derived.Test.YtgplgbonlnodeaaGreatDoorP2
import Derived.Test.YtgplgbonlnodeaaGreatDoorJ6
import Derived.Test.YtgplgbonlnodeaaGreatDoorG8
import Derived.SevenTiedAt
import Derived.Lay
import Derived.Carry
namespace Go.Proofs.YtgplgbonlnodeaaGreatDoor
open Go.Vs Go.ChangeShapes Go.WideShapes Go.ChangeAt Go.WideMaps Go.WideElems Go.RowKit
set_option maxRecDepth 100000 in
theorem law6_lifted(os:Os)(started:os.Started)(H:Type)(enc:TypeId×Value→H):
    ReturnsInHanded {} Tryz.checked os 6 .any (fun w args=>(Rows.lassoOrderSpec.pre enc Tryz.prog Tryz.f6 [] false w args∧laidMetH Tryz.prog laidL w)∧sizedMet enc Tryz.prog Tryz.f6 (OpenSpec.ofChange Rows.lassoOrderSpec) false w args)
     (Rows.lassoOrderSpec.post enc Tryz.prog Tryz.f6 false true false false):=by
 refine returnsInHanded_and_sized (C:=Tryz.checked) (X:=fun w _=>laidMetH Tryz.prog laidL w) (fun _ _ _ hh h=>h.of_heap hh) ownK started (by kernel_rfl) Tryz.func6
  (ChangeSpec.witness_shaped (enc:=enc) (C:=Tryz.checked) (os:=os) (X:=fun w _=>laidMetH Tryz.prog laidL w) false (World.laidAll Tryz.prog os laidL) #[.agg #[.slice none 0 0,.slice none 0 0,.slice none 0 0,.slice none 0 0],.slice none 0 0,.agg #[.slice none 0 0,.int .i64 0,.slice none 0 0,.int .i64 0],.agg #[.slice none 0 0,.int .i64 0,.slice none 0 0,.int .i64 0]] 8 (World.laidAll_os _ _ _) (World.shaped_of_ZipB (by kernel_rfl) (by kernel_rfl)) (by kernel_rfl) (by kernel_rfl) (by kernel_rfl) (door_met os _)) ?_
 intro W base args ds gs before hval0 hW hZ0 hL _
 have hval:∀(j:Nat) t v,Tryz.f6.params[j]? =some t→args[j]? =some v→Value.okWide Tryz.prog W .any base t v:=hval0
 have hZ:∀(j:Nat) t v,Tryz.f6.params[j]? =some t→args[j]? =some v→Rd enc W t v:=hZ0
 have hW':=hW
 obtain⟨p,q,hA0,hV,rfl,hfz,hnd⟩:=hW
 have hA:DataW.TrodAll enc Tryz.prog W 0 (fun _=>true) true Tryz.f6.params.toList args.toList ds p:=hA0
 rw[Tryz.params6] at hA hval hZ
 obtain⟨v0,v1,v2,v3,d0,d1,d2,d3,p0,p1,p2,p3,rfl,rfl,rfl,h0,h1,h2,h3⟩:=trodAll_four hA
 obtain⟨rfl,rfl⟩:=trodVars_none hV
 obtain⟨q0,r0,s0,t0⟩:=rep_spec (hval 0 27 v0 rfl rfl) (hZ 0 27 v0 rfl rfl)
 obtain⟨q1,r1,s1⟩:=rep_bounds (hval 1 31 v1 rfl rfl) (hZ 1 31 v1 rfl rfl)
 obtain⟨q2,r2⟩:=rep_model (hval 2 37 v2 rfl rfl) (hZ 2 37 v2 rfl rfl)
 obtain⟨q3,r3⟩:=rep_model (hval 3 37 v3 rfl rfl) (hZ 3 37 v3 rfl rfl)
 obtain⟨H',hc⟩:=law6 q0 s0 t0 q1 s1 q2 q3
 refine(law_calls pg_ok hc globs_ok (repL_cons r0 (repL_cons r1 (repL_cons r2 (repL_cons r3 repL_nil))))).mono ?_
 rintro e W' ⟨rfl,B⟩
 refine⟨.bool true,rfl,?_⟩
 refine post_law (tb:=4) laidOut ?_ rfl hW' (by kernel_rfl) Tryz.underlying4 rfl B
 intro t ht
 rw[Tryz.params6] at ht
 have ht':t=27∨t=31∨t=37∨t=37:=by simpa using ht
 rcases ht' with rfl |rfl |rfl |rfl
 ·exact⟨by kernel_rfl,of_decide_eq_true (by kernel_rfl)⟩
 ·exact⟨by kernel_rfl,of_decide_eq_true (by kernel_rfl)⟩
 ·exact⟨by kernel_rfl,of_decide_eq_true (by kernel_rfl)⟩
 ·exact⟨by kernel_rfl,of_decide_eq_true (by kernel_rfl)⟩
theorem law6_holds:Rows.LassoOrderSaid:=
 OpenClaim.holds_of_wide 6 Tryz.f6 rfl rfl rfl rfl rfl rfl rfl ⟨rfl,rfl,rfl,rfl,rfl⟩ rfl rfl rfl rfl rfl fnn6 Tryz.func6 facts6
  (of_decide_eq_true (by kernel_rfl)) (by unfold Func.isWrapper;first |(rw[if_pos (by decide+kernel)];kernel_rfl) |(rw[if_neg (by decide+kernel)];exact⟨rfl,rfl⟩))
  (fun os started H enc _=>law6_lifted os started H enc)
end Go.Proofs.YtgplgbonlnodeaaGreatDoor
