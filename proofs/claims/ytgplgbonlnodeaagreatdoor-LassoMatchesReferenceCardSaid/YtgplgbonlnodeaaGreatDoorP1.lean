/-
  The evaluator's program of the head is the cut's.
-/
import Derived.Test.YtgplgbonlnodeaaGreatDoorG4
import Derived.Test.YtgplgbonlnodeaaGreatDoorG3
open Option renaming some->Z
set_option maxRecDepth 100000
open Go.Vs

namespace Go.Proofs.Ys

variable {W : World} {G : Nat -> Option (List PD)}
theorem als{fi g:Nat}(h:xT fi cf.rg=Z g):oQ Tryz.prog W G g (cf.eN g):=by have H:oQ Tryz.prog W G 68 (Bf 68):=acA;have a:oQ Tryz.prog W G 226 (Bf 226):=acm;have b:oQ Tryz.prog W G 237 (Bf 237):=adq;show oQ Tryz.prog W G g (Bf g);have e:cf.rg=[(56,68),(59,68),(18,68),(104,226),(116,237)]:=rfl;rw[e] at h;simp only[xT] at h;split at h;{cases h;exact H};split at h;{cases h;exact H};split at h;{cases h;exact H};split at h;{cases h;exact a};split at h;{cases h;exact b};cases h
theorem gg{n:Nat}{fn:Func}{f:FC}(h:q n fn=Z f)(H:Tryz.prog.funcs[n]? =Z fn):vq Tryz.prog W G n f:=abR H h λ_=>als

theorem alu:∀f fc,KC f=Z fc->vq Tryz.prog W G f fc:=by intro f fc h;unfold KC at h;split at h;(all_goals try exact gg h (by kernel_rfl));cases h

theorem alv:∀f fc,KD f=Z fc->vq Tryz.prog W G f fc:=by intro f fc h;unfold KD at h;split at h;(all_goals try exact gg h (by kernel_rfl));{cases h;exact sU.J6 (sU.of Tryz.func138 (by kernel_rfl))};{cases h;exact sU.J6 (sU.of Tryz.func143 (by kernel_rfl))};exact alu _ _ h
theorem alw:∀f x,KB f=Z x->sV Tryz.prog f x.1 x.2:=by intro f x h;unfold KB at h;split at h;{cases h;exact sV.of Tryz.func191 (by kernel_rfl)};{cases h;exact sV.of Tryz.func199 (by kernel_rfl)};cases h
theorem alx:iP Tryz.prog W pg.G pg.lib:=by intro f a H r b h;change KE f a H=Z (r,b) at h;unfold KE at h;split at h;{exact adF h};{exact adN h};cases h
theorem alf:Ey Tryz.prog W pg:=⟨by kernel_rfl,alx,alv,alw⟩

end Go.Proofs.Ys
