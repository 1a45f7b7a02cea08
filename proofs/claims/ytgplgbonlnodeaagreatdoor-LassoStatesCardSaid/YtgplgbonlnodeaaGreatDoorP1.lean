/-
  The evaluator's program of the head is the cut's.
-/
import Derived.Test.YtgplgbonlnodeaaGreatDoorG5
import Derived.Test.YtgplgbonlnodeaaGreatDoorG4

namespace Go.Proofs.YtgplgbonlnodeaaGreatDoor
open Go.Vs

variable {W : World} {G : Nat → Option (List PD)}
theorem aob{fi g:Nat}(h:Bp fi cf.rg=some g):r6 Tryz.prog W G g (cf.fQ g):=by
 have EI:r6 Tryz.prog W G 68 (Ew 68):=af8;have Ow:r6 Tryz.prog W G 226 (Ew 226):=afY;have aoc:r6 Tryz.prog W G 237 (Ew 237):=agJ;show r6 Tryz.prog W G g (Ew g);have e:cf.rg=[(56,68),(59,68),(18,68),(104,226),(116,237)]:=rfl;rw[e] at h;simp only[Bp] at h;split at h
 ·cases h;exact EI
 ·split at h
  ·cases h;exact EI
  ·split at h
   ·cases h;exact EI
   ·split at h
    ·cases h;exact Ow
    ·split at h
     ·cases h;exact aoc
     ·cases h
theorem gg{n:Nat}{fn:Func}{fc:FC}(h:q n fn=some fc)(h0:Tryz.prog.funcs[n]? =some fn):zj Tryz.prog W G n fc:=ae6 h0 h fun _=>aob

set_option maxRecDepth 100000 in
theorem aod:∀f fc,Ot f=some fc→zj Tryz.prog W G f fc:=by
 intro f fc h;unfold Ot at h;split at h
 all_goals try exact gg h (by kernel_rfl)
 ·cases h

set_option maxRecDepth 100000 in
theorem aoe:∀f fc,Ou f=some fc→zj Tryz.prog W G f fc:=by
 intro f fc h;unfold Ou at h;split at h
 all_goals try exact gg h (by kernel_rfl)
 ·cases h;exact wQ.good (wQ.of Tryz.func138 (by kernel_rfl))
 ·cases h;exact wQ.good (wQ.of Tryz.func143 (by kernel_rfl))
 ·exact aod _ _ h
theorem aof:∀f x,Oq f=some x→wR Tryz.prog f x.1 x.2:=by
 intro f x h;unfold Oq at h;split at h
 ·cases h;exact wR.of Tryz.func191 (by kernel_rfl)
 ·cases h;exact wR.of Tryz.func199 (by kernel_rfl)
 ·cases h
theorem aog:Sound Tryz.prog W pg.G pg.lib:=by
 intro f args H r H' h;change Ov f args H=some (r,H') at h;unfold Ov at h;split at h
 ·exact agV h
 ·exact ag4 h
 ·cases h
theorem anY:Iz Tryz.prog W pg:=⟨by kernel_rfl,aog,aoe,aof⟩

end Go.Proofs.YtgplgbonlnodeaaGreatDoor
