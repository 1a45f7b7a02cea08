/-
  The evaluator's program of the head is the cut's.
-/
import Derived.Test.YtgplgbonlnodeaaGreatDoorG5
import Derived.Test.YtgplgbonlnodeaaGreatDoorG4
namespace Go.Proofs.YtgplgbonlnodeaaGreatDoor
open Go.Vs
variable {W : World} {G : Nat → Option (List PD)}
theorem amj{fi g:Nat}(h:AZ fi cf.rg=some g):sj Tryz.prog W G g (cf.fU g):=by
 have Ew:sj Tryz.prog W G 68 (Ei 68):=afJ;have Nl:sj Tryz.prog W G 226 (Ei 226):=afy;have amk:sj Tryz.prog W G 237 (Ei 237):=ago;show sj Tryz.prog W G g (Ei g);have e:cf.rg=[(56,68),(59,68),(18,68),(104,226),(116,237)]:=rfl;rw[e] at h;simp only[AZ] at h;split at h
 ·cases h;exact Ew
 ·split at h
  ·cases h;exact Ew
  ·split at h
   ·cases h;exact Ew
   ·split at h
    ·cases h;exact Nl
    ·split at h
     ·cases h;exact amk
     ·cases h
theorem gd{i:Nat}{f:Func}{fc:FC}(hi:Tryz.prog.funcs[i]? =some f)(h:aF i f=some fc):A7 Tryz.prog W G i fc:=ad9 hi h fun _=>amj
set_option maxRecDepth 100000 in
theorem aml:∀f fc,Nj f=some fc→A7 Tryz.prog W G f fc:=by
 intro f fc h;unfold Nj at h;split at h
 ·exact gd Tryz.func4 h
 ·exact gd Tryz.func5 h
 ·exact gd Tryz.func28 h
 ·exact gd Tryz.func54 h
 ·exact gd Tryz.func83 h
 ·exact gd Tryz.func6 h
 ·exact gd Tryz.func10 h
 ·exact gd Tryz.func11 h
 ·exact gd Tryz.func12 h
 ·exact gd Tryz.func15 h
 ·exact gd Tryz.func16 h
 ·exact gd Tryz.func18 h
 ·exact gd Tryz.func21 h
 ·exact gd Tryz.func22 h
 ·exact gd Tryz.func23 h
 ·exact gd Tryz.func24 h
 ·exact gd Tryz.func26 h
 ·exact gd Tryz.func27 h
 ·exact gd Tryz.func29 h
 ·exact gd Tryz.func30 h
 ·exact gd Tryz.func31 h
 ·exact gd Tryz.func33 h
 ·exact gd Tryz.func35 h
 ·exact gd Tryz.func36 h
 ·exact gd Tryz.func38 h
 ·exact gd Tryz.func43 h
 ·exact gd Tryz.func44 h
 ·exact gd Tryz.func45 h
 ·exact gd Tryz.func46 h
 ·exact gd Tryz.func47 h
 ·exact gd Tryz.func48 h
 ·exact gd Tryz.func49 h
 ·exact gd Tryz.func50 h
 ·exact gd Tryz.func53 h
 ·exact gd Tryz.func55 h
 ·exact gd Tryz.func56 h
 ·exact gd Tryz.func57 h
 ·exact gd Tryz.func58 h
 ·exact gd Tryz.func59 h
 ·exact gd Tryz.func60 h
 ·exact gd Tryz.func61 h
 ·exact gd Tryz.func62 h
 ·exact gd Tryz.func65 h
 ·exact gd Tryz.func66 h
 ·exact gd Tryz.func67 h
 ·exact gd Tryz.func69 h
 ·exact gd Tryz.func70 h
 ·exact gd Tryz.func72 h
 ·exact gd Tryz.func73 h
 ·exact gd Tryz.func74 h
 ·exact gd Tryz.func75 h
 ·exact gd Tryz.func76 h
 ·exact gd Tryz.func79 h
 ·exact gd Tryz.func80 h
 ·exact gd Tryz.func81 h
 ·exact gd Tryz.func82 h
 ·exact gd Tryz.func84 h
 ·exact gd Tryz.func87 h
 ·exact gd Tryz.func88 h
 ·exact gd Tryz.func89 h
 ·exact gd Tryz.func90 h
 ·exact gd Tryz.func91 h
 ·exact gd Tryz.func92 h
 ·exact gd Tryz.func93 h
 ·exact gd Tryz.func96 h
 ·exact gd Tryz.func97 h
 ·exact gd Tryz.func98 h
 ·exact gd Tryz.func99 h
 ·exact gd Tryz.func100 h
 ·exact gd Tryz.func101 h
 ·exact gd Tryz.func102 h
 ·exact gd Tryz.func103 h
 ·exact gd Tryz.func104 h
 ·exact gd Tryz.func105 h
 ·exact gd Tryz.func107 h
 ·exact gd Tryz.func108 h
 ·exact gd Tryz.func111 h
 ·exact gd Tryz.func112 h
 ·exact gd Tryz.func113 h
 ·exact gd Tryz.func114 h
 ·exact gd Tryz.func115 h
 ·exact gd Tryz.func116 h
 ·exact gd Tryz.func117 h
 ·exact gd Tryz.func118 h
 ·exact gd Tryz.func119 h
 ·exact gd Tryz.func120 h
 ·exact gd Tryz.func121 h
 ·exact gd Tryz.func122 h
 ·exact gd Tryz.func123 h
 ·exact gd Tryz.func126 h
 ·exact gd Tryz.func127 h
 ·exact gd Tryz.func128 h
 ·exact gd Tryz.func129 h
 ·exact gd Tryz.func134 h
 ·exact gd Tryz.func135 h
 ·exact gd Tryz.func136 h
 ·cases h;exact wJ.MT (wJ.of Tryz.func138 (by kernel_rfl))
 ·exact gd Tryz.func141 h
 ·cases h;exact wJ.MT (wJ.of Tryz.func143 (by kernel_rfl))
 ·exact gd Tryz.func144 h
 ·exact gd Tryz.func145 h
 ·exact gd Tryz.func146 h
 ·exact gd Tryz.func147 h
 ·exact gd Tryz.func151 h
 ·exact gd Tryz.func152 h
 ·exact gd Tryz.func153 h
 ·exact gd Tryz.func154 h
 ·exact gd Tryz.func155 h
 ·exact gd Tryz.func156 h
 ·exact gd Tryz.func157 h
 ·exact gd Tryz.func158 h
 ·exact gd Tryz.func159 h
 ·exact gd Tryz.func160 h
 ·exact gd Tryz.func161 h
 ·exact gd Tryz.func162 h
 ·exact gd Tryz.func171 h
 ·exact gd Tryz.func172 h
 ·exact gd Tryz.func173 h
 ·exact gd Tryz.func174 h
 ·exact gd Tryz.func175 h
 ·exact gd Tryz.func176 h
 ·exact gd Tryz.func177 h
 ·exact gd Tryz.func178 h
 ·exact gd Tryz.func179 h
 ·exact gd Tryz.func180 h
 ·exact gd Tryz.func182 h
 ·exact gd Tryz.func183 h
 ·exact gd Tryz.func186 h
 ·exact gd Tryz.func189 h
 ·exact gd Tryz.func190 h
 ·exact gd Tryz.func198 h
 ·exact gd Tryz.func200 h
 ·exact gd Tryz.func202 h
 ·exact gd Tryz.func203 h
 ·exact gd Tryz.func204 h
 ·exact gd Tryz.func207 h
 ·exact gd Tryz.func209 h
 ·exact gd Tryz.func210 h
 ·exact gd Tryz.func221 h
 ·exact gd Tryz.func222 h
 ·exact gd Tryz.func223 h
 ·exact gd Tryz.func224 h
 ·exact gd Tryz.func225 h
 ·exact gd Tryz.func232 h
 ·exact gd Tryz.func233 h
 ·exact gd Tryz.func234 h
 ·exact gd Tryz.func235 h
 ·exact gd Tryz.func236 h
 ·exact gd Tryz.func238 h
 ·exact gd Tryz.func240 h
 ·exact gd Tryz.func241 h
 ·exact gd Tryz.func242 h
 ·exact gd Tryz.func243 h
 ·exact gd Tryz.func247 h
 ·exact gd Tryz.func248 h
 ·exact gd Tryz.func249 h
 ·exact gd Tryz.func250 h
 ·exact gd Tryz.func254 h
 ·exact gd Tryz.func259 h
 ·exact gd Tryz.func260 h
 ·exact gd Tryz.func281 h
 ·exact gd Tryz.func282 h
 ·exact gd Tryz.func283 h
 ·exact gd Tryz.func284 h
 ·exact gd Tryz.func285 h
 ·exact gd Tryz.func286 h
 ·exact gd Tryz.func287 h
 ·exact gd Tryz.func288 h
 ·exact gd Tryz.func290 h
 ·exact gd Tryz.func293 h
 ·exact gd Tryz.func295 h
 ·exact gd Tryz.func296 h
 ·exact gd Tryz.func301 h
 ·exact gd Tryz.func323 h
 ·exact gd Tryz.func324 h
 ·exact gd Tryz.func325 h
 ·exact gd Tryz.func326 h
 ·exact gd Tryz.func327 h
 ·exact gd Tryz.func328 h
 ·exact gd Tryz.func329 h
 ·exact gd Tryz.func330 h
 ·exact gd Tryz.func333 h
 ·exact gd Tryz.func351 h
 ·exact gd Tryz.func352 h
 ·exact gd Tryz.func373 h
 ·cases h
theorem amm:∀f x,Ni f=some x→wK Tryz.prog f x.1 x.2:=by
 intro f x h;unfold Ni at h;split at h
 ·cases h;exact wK.of Tryz.func191 (by kernel_rfl)
 ·cases h;exact wK.of Tryz.func199 (by kernel_rfl)
 ·cases h
theorem amn:Sound Tryz.prog W pg.G pg.lib:=by
 intro f args H r H' h;change Nk f args H=some (r,H') at h;unfold Nk at h;split at h
 ·exact agA h
 ·cases h
theorem X9:HZ Tryz.prog W pg:=⟨by kernel_rfl,amn,aml,amm⟩
end Go.Proofs.YtgplgbonlnodeaaGreatDoor
