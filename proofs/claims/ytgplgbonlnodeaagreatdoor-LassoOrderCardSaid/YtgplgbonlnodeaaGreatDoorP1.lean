/-
  The evaluator's program of the head is the cut's.
-/
import Derived.Test.YtgplgbonlnodeaaGreatDoorG5
import Derived.Test.YtgplgbonlnodeaaGreatDoorG4
namespace Go.Proofs.YtgplgbonlnodeaaGreatDoor
open Go.Vs
variable {W : World} {G : Nat → Option (List PD)}
theorem gens_ok{fi g:Nat}(h:findS fi cf.rg=some g):GenOk Tryz.prog W G g (cf.gens g):=by
 have h68:GenOk Tryz.prog W G 68 (genG 68):=gen68_ok
 have h226:GenOk Tryz.prog W G 226 (genG 226):=gen226_ok
 have h237:GenOk Tryz.prog W G 237 (genG 237):=gen237_ok
 show GenOk Tryz.prog W G g (genG g)
 have e:cf.rg=[(56,68),(59,68),(18,68),(104,226),(116,237)]:=rfl
 rw[e] at h
 simp only[findS] at h
 split at h
 ·cases h;exact h68
 ·split at h
  ·cases h;exact h68
  ·split at h
   ·cases h;exact h68
   ·split at h
    ·cases h;exact h226
    ·split at h
     ·cases h;exact h237
     ·cases h
set_option maxRecDepth 100000 in
theorem pg_fn:∀f fc,pgF f=some fc→FGood Tryz.prog W G f fc:=by
 intro f fc h
 unfold pgF at h
 split at h
 ·exact autoF_good Tryz.func6 h fun _=>gens_ok
 ·exact autoF_good Tryz.func10 h fun _=>gens_ok
 ·exact autoF_good Tryz.func11 h fun _=>gens_ok
 ·exact autoF_good Tryz.func12 h fun _=>gens_ok
 ·exact autoF_good Tryz.func15 h fun _=>gens_ok
 ·exact autoF_good Tryz.func16 h fun _=>gens_ok
 ·exact autoF_good Tryz.func18 h fun _=>gens_ok
 ·exact autoF_good Tryz.func21 h fun _=>gens_ok
 ·exact autoF_good Tryz.func22 h fun _=>gens_ok
 ·exact autoF_good Tryz.func23 h fun _=>gens_ok
 ·exact autoF_good Tryz.func24 h fun _=>gens_ok
 ·exact autoF_good Tryz.func26 h fun _=>gens_ok
 ·exact autoF_good Tryz.func27 h fun _=>gens_ok
 ·exact autoF_good Tryz.func29 h fun _=>gens_ok
 ·exact autoF_good Tryz.func30 h fun _=>gens_ok
 ·exact autoF_good Tryz.func31 h fun _=>gens_ok
 ·exact autoF_good Tryz.func33 h fun _=>gens_ok
 ·exact autoF_good Tryz.func35 h fun _=>gens_ok
 ·exact autoF_good Tryz.func36 h fun _=>gens_ok
 ·exact autoF_good Tryz.func38 h fun _=>gens_ok
 ·exact autoF_good Tryz.func43 h fun _=>gens_ok
 ·exact autoF_good Tryz.func44 h fun _=>gens_ok
 ·exact autoF_good Tryz.func45 h fun _=>gens_ok
 ·exact autoF_good Tryz.func46 h fun _=>gens_ok
 ·exact autoF_good Tryz.func47 h fun _=>gens_ok
 ·exact autoF_good Tryz.func48 h fun _=>gens_ok
 ·exact autoF_good Tryz.func49 h fun _=>gens_ok
 ·exact autoF_good Tryz.func50 h fun _=>gens_ok
 ·exact autoF_good Tryz.func53 h fun _=>gens_ok
 ·exact autoF_good Tryz.func55 h fun _=>gens_ok
 ·exact autoF_good Tryz.func56 h fun _=>gens_ok
 ·exact autoF_good Tryz.func57 h fun _=>gens_ok
 ·exact autoF_good Tryz.func58 h fun _=>gens_ok
 ·exact autoF_good Tryz.func59 h fun _=>gens_ok
 ·exact autoF_good Tryz.func60 h fun _=>gens_ok
 ·exact autoF_good Tryz.func61 h fun _=>gens_ok
 ·exact autoF_good Tryz.func62 h fun _=>gens_ok
 ·exact autoF_good Tryz.func65 h fun _=>gens_ok
 ·exact autoF_good Tryz.func66 h fun _=>gens_ok
 ·exact autoF_good Tryz.func67 h fun _=>gens_ok
 ·exact autoF_good Tryz.func69 h fun _=>gens_ok
 ·exact autoF_good Tryz.func70 h fun _=>gens_ok
 ·exact autoF_good Tryz.func72 h fun _=>gens_ok
 ·exact autoF_good Tryz.func73 h fun _=>gens_ok
 ·exact autoF_good Tryz.func74 h fun _=>gens_ok
 ·exact autoF_good Tryz.func75 h fun _=>gens_ok
 ·exact autoF_good Tryz.func76 h fun _=>gens_ok
 ·exact autoF_good Tryz.func77 h fun _=>gens_ok
 ·exact autoF_good Tryz.func79 h fun _=>gens_ok
 ·exact autoF_good Tryz.func80 h fun _=>gens_ok
 ·exact autoF_good Tryz.func81 h fun _=>gens_ok
 ·exact autoF_good Tryz.func82 h fun _=>gens_ok
 ·exact autoF_good Tryz.func84 h fun _=>gens_ok
 ·exact autoF_good Tryz.func87 h fun _=>gens_ok
 ·exact autoF_good Tryz.func88 h fun _=>gens_ok
 ·exact autoF_good Tryz.func89 h fun _=>gens_ok
 ·exact autoF_good Tryz.func90 h fun _=>gens_ok
 ·exact autoF_good Tryz.func91 h fun _=>gens_ok
 ·exact autoF_good Tryz.func92 h fun _=>gens_ok
 ·exact autoF_good Tryz.func93 h fun _=>gens_ok
 ·exact autoF_good Tryz.func96 h fun _=>gens_ok
 ·exact autoF_good Tryz.func97 h fun _=>gens_ok
 ·exact autoF_good Tryz.func98 h fun _=>gens_ok
 ·exact autoF_good Tryz.func99 h fun _=>gens_ok
 ·exact autoF_good Tryz.func100 h fun _=>gens_ok
 ·exact autoF_good Tryz.func101 h fun _=>gens_ok
 ·exact autoF_good Tryz.func102 h fun _=>gens_ok
 ·exact autoF_good Tryz.func103 h fun _=>gens_ok
 ·exact autoF_good Tryz.func104 h fun _=>gens_ok
 ·exact autoF_good Tryz.func105 h fun _=>gens_ok
 ·exact autoF_good Tryz.func107 h fun _=>gens_ok
 ·exact autoF_good Tryz.func108 h fun _=>gens_ok
 ·exact autoF_good Tryz.func111 h fun _=>gens_ok
 ·exact autoF_good Tryz.func112 h fun _=>gens_ok
 ·exact autoF_good Tryz.func113 h fun _=>gens_ok
 ·exact autoF_good Tryz.func114 h fun _=>gens_ok
 ·exact autoF_good Tryz.func115 h fun _=>gens_ok
 ·exact autoF_good Tryz.func116 h fun _=>gens_ok
 ·exact autoF_good Tryz.func117 h fun _=>gens_ok
 ·exact autoF_good Tryz.func118 h fun _=>gens_ok
 ·exact autoF_good Tryz.func119 h fun _=>gens_ok
 ·exact autoF_good Tryz.func120 h fun _=>gens_ok
 ·exact autoF_good Tryz.func121 h fun _=>gens_ok
 ·exact autoF_good Tryz.func122 h fun _=>gens_ok
 ·exact autoF_good Tryz.func123 h fun _=>gens_ok
 ·exact autoF_good Tryz.func126 h fun _=>gens_ok
 ·exact autoF_good Tryz.func127 h fun _=>gens_ok
 ·exact autoF_good Tryz.func128 h fun _=>gens_ok
 ·exact autoF_good Tryz.func129 h fun _=>gens_ok
 ·exact autoF_good Tryz.func134 h fun _=>gens_ok
 ·exact autoF_good Tryz.func135 h fun _=>gens_ok
 ·exact autoF_good Tryz.func136 h fun _=>gens_ok
 ·cases h;exact FOk.good (FOk.of Tryz.func138 (by kernel_rfl))
 ·exact autoF_good Tryz.func141 h fun _=>gens_ok
 ·cases h;exact FOk.good (FOk.of Tryz.func143 (by kernel_rfl))
 ·exact autoF_good Tryz.func144 h fun _=>gens_ok
 ·exact autoF_good Tryz.func145 h fun _=>gens_ok
 ·exact autoF_good Tryz.func146 h fun _=>gens_ok
 ·exact autoF_good Tryz.func147 h fun _=>gens_ok
 ·exact autoF_good Tryz.func151 h fun _=>gens_ok
 ·exact autoF_good Tryz.func152 h fun _=>gens_ok
 ·exact autoF_good Tryz.func153 h fun _=>gens_ok
 ·exact autoF_good Tryz.func154 h fun _=>gens_ok
 ·exact autoF_good Tryz.func155 h fun _=>gens_ok
 ·exact autoF_good Tryz.func156 h fun _=>gens_ok
 ·exact autoF_good Tryz.func157 h fun _=>gens_ok
 ·exact autoF_good Tryz.func158 h fun _=>gens_ok
 ·exact autoF_good Tryz.func159 h fun _=>gens_ok
 ·exact autoF_good Tryz.func160 h fun _=>gens_ok
 ·exact autoF_good Tryz.func161 h fun _=>gens_ok
 ·exact autoF_good Tryz.func162 h fun _=>gens_ok
 ·exact autoF_good Tryz.func171 h fun _=>gens_ok
 ·exact autoF_good Tryz.func172 h fun _=>gens_ok
 ·exact autoF_good Tryz.func173 h fun _=>gens_ok
 ·exact autoF_good Tryz.func174 h fun _=>gens_ok
 ·exact autoF_good Tryz.func175 h fun _=>gens_ok
 ·exact autoF_good Tryz.func176 h fun _=>gens_ok
 ·exact autoF_good Tryz.func177 h fun _=>gens_ok
 ·exact autoF_good Tryz.func178 h fun _=>gens_ok
 ·exact autoF_good Tryz.func179 h fun _=>gens_ok
 ·exact autoF_good Tryz.func180 h fun _=>gens_ok
 ·exact autoF_good Tryz.func182 h fun _=>gens_ok
 ·exact autoF_good Tryz.func183 h fun _=>gens_ok
 ·exact autoF_good Tryz.func186 h fun _=>gens_ok
 ·exact autoF_good Tryz.func189 h fun _=>gens_ok
 ·exact autoF_good Tryz.func190 h fun _=>gens_ok
 ·exact autoF_good Tryz.func198 h fun _=>gens_ok
 ·exact autoF_good Tryz.func200 h fun _=>gens_ok
 ·exact autoF_good Tryz.func202 h fun _=>gens_ok
 ·exact autoF_good Tryz.func203 h fun _=>gens_ok
 ·exact autoF_good Tryz.func204 h fun _=>gens_ok
 ·exact autoF_good Tryz.func207 h fun _=>gens_ok
 ·exact autoF_good Tryz.func209 h fun _=>gens_ok
 ·exact autoF_good Tryz.func210 h fun _=>gens_ok
 ·exact autoF_good Tryz.func221 h fun _=>gens_ok
 ·exact autoF_good Tryz.func222 h fun _=>gens_ok
 ·exact autoF_good Tryz.func223 h fun _=>gens_ok
 ·exact autoF_good Tryz.func224 h fun _=>gens_ok
 ·exact autoF_good Tryz.func225 h fun _=>gens_ok
 ·exact autoF_good Tryz.func232 h fun _=>gens_ok
 ·exact autoF_good Tryz.func233 h fun _=>gens_ok
 ·exact autoF_good Tryz.func234 h fun _=>gens_ok
 ·exact autoF_good Tryz.func235 h fun _=>gens_ok
 ·exact autoF_good Tryz.func236 h fun _=>gens_ok
 ·exact autoF_good Tryz.func238 h fun _=>gens_ok
 ·exact autoF_good Tryz.func240 h fun _=>gens_ok
 ·exact autoF_good Tryz.func241 h fun _=>gens_ok
 ·exact autoF_good Tryz.func242 h fun _=>gens_ok
 ·exact autoF_good Tryz.func243 h fun _=>gens_ok
 ·exact autoF_good Tryz.func247 h fun _=>gens_ok
 ·exact autoF_good Tryz.func248 h fun _=>gens_ok
 ·exact autoF_good Tryz.func249 h fun _=>gens_ok
 ·exact autoF_good Tryz.func250 h fun _=>gens_ok
 ·exact autoF_good Tryz.func254 h fun _=>gens_ok
 ·exact autoF_good Tryz.func259 h fun _=>gens_ok
 ·exact autoF_good Tryz.func260 h fun _=>gens_ok
 ·exact autoF_good Tryz.func281 h fun _=>gens_ok
 ·exact autoF_good Tryz.func282 h fun _=>gens_ok
 ·exact autoF_good Tryz.func283 h fun _=>gens_ok
 ·exact autoF_good Tryz.func284 h fun _=>gens_ok
 ·exact autoF_good Tryz.func285 h fun _=>gens_ok
 ·exact autoF_good Tryz.func286 h fun _=>gens_ok
 ·exact autoF_good Tryz.func287 h fun _=>gens_ok
 ·exact autoF_good Tryz.func288 h fun _=>gens_ok
 ·exact autoF_good Tryz.func290 h fun _=>gens_ok
 ·exact autoF_good Tryz.func293 h fun _=>gens_ok
 ·exact autoF_good Tryz.func295 h fun _=>gens_ok
 ·exact autoF_good Tryz.func296 h fun _=>gens_ok
 ·exact autoF_good Tryz.func301 h fun _=>gens_ok
 ·exact autoF_good Tryz.func323 h fun _=>gens_ok
 ·exact autoF_good Tryz.func324 h fun _=>gens_ok
 ·exact autoF_good Tryz.func325 h fun _=>gens_ok
 ·exact autoF_good Tryz.func326 h fun _=>gens_ok
 ·exact autoF_good Tryz.func327 h fun _=>gens_ok
 ·exact autoF_good Tryz.func328 h fun _=>gens_ok
 ·exact autoF_good Tryz.func329 h fun _=>gens_ok
 ·exact autoF_good Tryz.func330 h fun _=>gens_ok
 ·exact autoF_good Tryz.func333 h fun _=>gens_ok
 ·exact autoF_good Tryz.func351 h fun _=>gens_ok
 ·exact autoF_good Tryz.func352 h fun _=>gens_ok
 ·exact autoF_good Tryz.func373 h fun _=>gens_ok
 ·cases h
theorem pg_dfn:∀f x,pgD f=some x→DOk Tryz.prog f x.1 x.2:=by
 intro f x h
 unfold pgD at h
 split at h
 ·cases h;exact DOk.of Tryz.func191 (by kernel_rfl)
 ·cases h;exact DOk.of Tryz.func199 (by kernel_rfl)
 ·cases h
theorem pg_ok:PgOk Tryz.prog W pg:=⟨by kernel_rfl,fun _ _ _ _ _ h=>(by cases h),pg_fn,pg_dfn⟩
end Go.Proofs.YtgplgbonlnodeaaGreatDoor
