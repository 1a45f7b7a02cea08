/-
  A value-level evaluator for Go functions; the functions of this cut by it; plain laws. Text G5.
-/
import Derived.Test.YtgplgbonlnodeaaGreatDoorG1
import Derived.Test.YtgplgbonlnodeaaGreatDoorG4
import Derived.Test.YtgplgbonlnodeaaGreatDoorProg
import Derived.KernelRfl
import Derived.Shelf.Slices.SearchI
import Derived.Shelf.Slices.Empties
import Derived.RangeFuncKeeps
import Derived.RangeFuncLeaves
import Derived.Shelf.Abstract
import Derived.WalkKit
import Derived.OwnWalkIn
import Derived.TacticsInMore
import Derived.LoopNIn
import Derived.LoopIn
import Derived.WalkSmall
import Derived.Sort.QuietIn
import Derived.Deep.RegionHeld3
import Derived.Tactics2
import Derived.Deep.QuietTactic
import Derived.BigQuiet
import Derived.IntWalk
import Derived.Shelf.Lays2
import Derived.Shelf.Spec.SlicesInsert
import Derived.Shelf.Spec.SlicesInsertGrow
open Array renaming eq_empty_of_size_eq_zero→Pz,ext→PA,ext'→FT,getD_eq_getD_getElem?→bN,getElem?_eq_getElem→pY,getElem?_eq_some_iff→gz,getElem?_toList→CO,length_toList→qE,replicate_succ→xO,replicate_zero→xP,size_append→Px,toList_append→YE
open Bool renaming and_eq_true→bQ,false_eq_true→ob,not_true→Pw
open Int renaming natCast_inj→pZ,toNat_natCast→qF
open List renaming all_eq_true→gI,append_assoc→oc,append_nil→lA,append_toArray→xR,cons_append→jN,drop_append_of_le_length→YM,drop_drop→CP,drop_eq_getElem_cons→FX,drop_eq_nil_of_le→Kl,drop_left'→YN,drop_length→Ki,drop_of_length_le→Km,drop_zero→tZ,eq_nil_of_length_eq_zero→tY,ext_getElem?→oh,filter_cons→xK,filter_nil→FY,flatMap_cons→ub,foldl_cons→Af,getD→Kf,getD_eq_getElem?_getD→fE,getElem?_append_left→cH,getElem?_cons_zero→ew,getElem?_drop→oZ,getElem?_eq_getElem→aA,getElem?_eq_none→lU,getElem?_eq_some_iff→az,getElem?_map→cP,getElem?_take→j7,length→oq,length_append→iq,length_cons→dZ,length_drop→vR,length_map→cx,length_nil→fW,length_singleton→xL,length_take→pb,map_cons→dA,map_drop→Pv,map_inj_right→YK,map_map→uf,map_take→Pu,mem_append→cW,mem_cons→cN,mem_cons_of_mem→jD,mem_cons_self→pa,mem_map→dz,mem_of_getElem?→bS,mem_of_mem_drop→sU,mem_of_mem_take→j8,mem_singleton→mH,nil_append→jm,nodup_cons→vS,nodup_nil→Kg,not_mem_nil→mG,pairwise_cons→xM,push_toArray→xQ,range→ku,set_cons_succ→PI,set_cons_zero→PJ,size_toArray→qG,sum_append→Kk,sum_cons→CS,tail→amK,take→rI,take_add_one→PH,take_append_drop→xH,take_append_of_le_length→PK,take_length→oo,take_of_length_le→jC,take_take→YO,take_zero→vT
open Nat renaming add_assoc→vQ,add_zero→oe,eq_zero_or_pos→Kj,le_refl→aV,le_trans→gA,lt_of_lt_of_le→xF,lt_or_ge→iP,min_eq_left→ue,mul_one→Py,reduceAdd→vV,reduceSub→xN,zero_add→eS,zero_le→b9
open Option renaming map_eq_some_iff→au,map_some→eA
open Option.some renaming injEq→bI
namespace Go.Proofs.YtgplgbonlnodeaaGreatDoor
open Go.Vs
def intOf:PD→Option Int
 | .int .i64 n=>some n
 |_=>none
def wS:PD→Option (List Int)
 | .aI=>some []
 | .emp sz=>if sz=1 then some [] else none
 | .slice sz es=>if sz=1 then aP intOf es else none
 |_=>none
def yV:List Int→Bool
 |a::b::r=>decide (a≤b)&&yV (b::r)
 |_=>true
def oR(fi cap:List D)(_:Hp):Option (List (List D)):=
 match fi,cap with
 |[],[.ro [_,lo,_,up] 0]=>match wS lo,wS up with
  |some l,some u=>if yV l=true∧l.length<4611686018427387904∧u.length<4611686018427387904 then some ((u.filter fun t=>!l.contains t).map fun t=>[.p (.int .i64 t)]) else none
  |_,_=>none
 |_,_=>none
def varOf:PD→Option Bool
 | .agg [_,_,.bool v]=>some v
 |_=>none
def varsOf:PD→Option (List Bool)
 | .aI=>some []
 | .emp sz=>if sz=3 then some [] else none
 | .slice sz es=>if sz=3 then aP varOf es else none
 |_=>none
def Ij:PD→Option (Int×Int)
 | .agg [.int .i64 a,.int .i64 b]=>some (a,b)
 |_=>none
def Eh:PD→Option (List (Int×Int))
 | .aI=>some []
 | .emp sz=>if sz=2 then some [] else none
 | .slice sz es=>if sz=2 then aP Ij es else none
 |_=>none
def nT(vs:List Bool)(s:Nat)(a:Int):Bool:=decide (0<s)&& !(vs.getD a.toNat false)
def jb(vs:List Bool)(s:Nat):List (Int×Int)→Nat→List (Nat×Nat×Int×Int)
 |[],_=>[]
 |(a,b)::r,v=>if nT vs s a then jb vs s r v else(v+1,s,a,b)::jb vs s r (v+1)
def gR(vs:List Bool)(free:List (Int×Int)):Nat→Nat→Nat→List (Nat×Nat×Int×Int)
 | 0,_,_=>[]
 |n+1,s,v=>jb vs s free v++gR vs free n (s+1) (v+(jb vs s free v).length)
def aW(steps:Int):Nat:=if 1<steps then steps.toNat else 0
def sG(e:Nat×Nat×Int×Int):List D:=[.p (.agg [.int .i64 (e.1:Int),.int .i64 (e.2.1:Int),.int .i64 e.2.2.1,.int .i64 e.2.2.2])]
def oS(fi cap:List D)(_:Hp):Option (List (List D)):=
 match fi,cap with
 |[.ro [_,.int .i64 steps,_,fs,_,_,_,fr] 0],[]=>match varsOf fs,Eh fr with
  |some vs,some free=>
   if steps<4611686018427387904∧free.length<4611686018427387904∧(free.all fun p=>decide (0≤p.1∧p.1<(vs.length:Int)))=true∧aW steps+(gR vs free steps.toNat 0 (aW steps)).length<4611686018427387904 then
    some ((gR vs free steps.toNat 0 (aW steps)).map sG) else none
  |_,_=>none
 |_,_=>none
def eW(ats:List Int):List Int→Int→List Int
 |[],p=>[p]
 |s::r,p=>(ku (ats.getD s.toNat 0).toNat).flatMap fun(j:Nat)=>eW ats r (IntKind.i64.wrap (IntKind.i64.wrap (p*ats.sum)+((ats.take s.toNat).sum+(j:Int))))
def oT(fi cap:List D)(_:Hp):Option (List (List D)):=
 match fi,cap with
 |[],[.ro [sd] 0,.ro [.int .i64 p] 0,.ro [ad,_] 0]=>match wS sd,wS ad with
  |some ss,some ats=>
   if(ats.all fun a=>decide (0≤a))=true∧ats.sum<4611686018427387904∧(ss.all fun s=>decide (0≤s∧s<(ats.length:Int)))=true∧ats.length<4611686018427387904∧ss.length<4611686018427387904 then
    some ((eW ats ss p).map fun t=>[.p (.int .i64 t)]) else none
  |_,_=>none
 |_,_=>none
def Bf:D→Option Int
 | .p (.int .i64 n)=>some n
 |_=>none
def dM(l:List Int)(k:Nat)(t:Int):List Int:=l.take k++t::l.drop k
def yW(aa:List D)(H:Hp):Option (bt×Hp):=
 match aa with
 |[s,.p (.int .i64 k),.aB j 3 1 1]=>match H.bx[j]? with
  |some [.p (.int .i64 t)]=>match s with
   | .aB i 3 n 1=>match H.bx[i]? with
    |some cs=>match aP Bf (cs.take n) with
     |some l=>if i≠j∧aU cs=false∧n≤cs.length∧cs≠[]∧0≤k∧k≤(n:Int)∧n<1000000 then
         some (.val (.aB H.bx.length 3 (n+1) 1),{H with bx:=H.bx.set i []++[(dM l k.toNat t).map fun x=>.p (.int .i64 x)]}) else none
     |none=>none
    |none=>none
   |s=>match mK 1 s with
    |some es=>match aP Bf (es.map .p) with
     |some l=>if 0≤k∧k≤(es.length:Int)∧es.length<1000000 then
         some (.val (.aB H.bx.length 3 (es.length+1) 1),{H with bx:=H.bx++[(dM l k.toNat t).map fun x=>.p (.int .i64 x)]}) else none
     |none=>none
    |none=>none
  |_=>none
 |_=>none
def Ei:Nat→List D→List D→Hp→Option (List (List D))
 | 68=>oS
 | 226=>oR
 | 237=>oT
 |_=>fun _ _ _=>none
def cf:Cf:=⟨[16,24,76,248,250],[58,59,60,62,73,74,76,93,118,136,144,175,210,236,247,248,250,293,296,97],[(56,68),(59,68),(18,68),(104,226),(116,237)],Ei,[98,102,155,53,235,223,224,222,286],[(222,8,253,65),(223,3,4,1),(224,3,361,66)],[97],[24]⟩
noncomputable def aF (i:Nat) (f:Func):Option FC:=A0 Tryz.prog cf i f
noncomputable def a10:=aF 10 Tryz.f10
noncomputable def TN:=aF 15 Tryz.f15
noncomputable def a16:=aF 16 Tryz.f16
noncomputable def Bg:=aF 18 Tryz.f18
noncomputable def a21:=aF 21 Tryz.f21
noncomputable def a22:=aF 22 Tryz.f22
noncomputable def yX:=aF 23 Tryz.f23
noncomputable def a24:=aF 24 Tryz.f24
noncomputable def Il:=aF 29 Tryz.f29
noncomputable def a33:=aF 33 Tryz.f33
noncomputable def a35:=aF 35 Tryz.f35
noncomputable def a36:=aF 36 Tryz.f36
noncomputable def Im:=aF 38 Tryz.f38
noncomputable def a43:=aF 43 Tryz.f43
noncomputable def a44:=aF 44 Tryz.f44
noncomputable def a45:=aF 45 Tryz.f45
noncomputable def TO:=aF 55 Tryz.f55
noncomputable def TP:=aF 56 Tryz.f56
noncomputable def a57:=aF 57 Tryz.f57
noncomputable def a58:=aF 58 Tryz.f58
noncomputable def Bh:=aF 59 Tryz.f59
noncomputable def a60:=aF 60 Tryz.f60
noncomputable def a61:=aF 61 Tryz.f61
noncomputable def a62:=aF 62 Tryz.f62
noncomputable def Io:=aF 65 Tryz.f65
noncomputable def j2:=aF 66 Tryz.f66
noncomputable def TQ:=aF 67 Tryz.f67
noncomputable def ng:=aF 69 Tryz.f69
noncomputable def Bi:=aF 72 Tryz.f72
noncomputable def TR:=aF 73 Tryz.f73
noncomputable def Ip:=aF 74 Tryz.f74
noncomputable def TS:=aF 75 Tryz.f75
noncomputable def Nc:=aF 76 Tryz.f76
noncomputable def a87:=aF 87 Tryz.f87
noncomputable def a88:=aF 88 Tryz.f88
noncomputable def a89:=aF 89 Tryz.f89
noncomputable def a90:=aF 90 Tryz.f90
noncomputable def a91:=aF 91 Tryz.f91
noncomputable def a92:=aF 92 Tryz.f92
noncomputable def a93:=aF 93 Tryz.f93
noncomputable def yY:=aF 104 Tryz.f104
noncomputable def aeG:=aF 105 Tryz.f105
noncomputable def aeH:=aF 107 Tryz.f107
noncomputable def aeI:=aF 108 Tryz.f108
noncomputable def Iq:=aF 111 Tryz.f111
noncomputable def Nf:=aF 112 Tryz.f112
noncomputable def TT:=aF 113 Tryz.f113
noncomputable def Ir:=aF 114 Tryz.f114
noncomputable def TU:=aF 115 Tryz.f115
noncomputable def Bj:=aF 116 Tryz.f116
noncomputable def TV:=aF 118 Tryz.f118
noncomputable def vp:=aF 119 Tryz.f119
noncomputable def TW:=aF 120 Tryz.f120
noncomputable def TX:=aF 121 Tryz.f121
noncomputable def TY:=aF 122 Tryz.f122
noncomputable def Ng:=aF 123 Tryz.f123
noncomputable def aeJ:=aF 134 Tryz.f134
noncomputable def Is:=aF 135 Tryz.f135
noncomputable def aeK:=aF 136 Tryz.f136
noncomputable def aeL:=aF 141 Tryz.f141
noncomputable def aeM:=aF 144 Tryz.f144
noncomputable def aeN:=aF 145 Tryz.f145
noncomputable def aeO:=aF 146 Tryz.f146
noncomputable def aeP:=aF 147 Tryz.f147
noncomputable def TZ:=aF 159 Tryz.f159
noncomputable def aeQ:=aF 160 Tryz.f160
noncomputable def aeR:=aF 161 Tryz.f161
noncomputable def aeS:=aF 162 Tryz.f162
noncomputable def aeT:=aF 171 Tryz.f171
noncomputable def T3:=aF 172 Tryz.f172
noncomputable def Iu:=aF 173 Tryz.f173
noncomputable def T4:=aF 174 Tryz.f174
noncomputable def T5:=aF 175 Tryz.f175
noncomputable def Iv:=aF 176 Tryz.f176
noncomputable def T6:=aF 177 Tryz.f177
noncomputable def T7:=aF 178 Tryz.f178
noncomputable def yZ:=aF 179 Tryz.f179
noncomputable def T8:=aF 180 Tryz.f180
noncomputable def aeU:=aF 189 Tryz.f189
noncomputable def aeV:=aF 190 Tryz.f190
noncomputable def aeW:=aF 198 Tryz.f198
noncomputable def aeX:=aF 200 Tryz.f200
noncomputable def aeY:=aF 202 Tryz.f202
noncomputable def aeZ:=aF 203 Tryz.f203
noncomputable def ae0:=aF 204 Tryz.f204
noncomputable def ae1:=aF 207 Tryz.f207
noncomputable def ae2:=aF 209 Tryz.f209
noncomputable def ae3:=aF 210 Tryz.f210
noncomputable def y0:=aF 232 Tryz.f232
noncomputable def Bk:=aF 233 Tryz.f233
noncomputable def T9:=aF 234 Tryz.f234
noncomputable def wT:=aF 235 Tryz.f235
noncomputable def Ua:=aF 236 Tryz.f236
noncomputable def ae4:=aF 238 Tryz.f238
noncomputable def ae5:=aF 247 Tryz.f247
noncomputable def ae6:=aF 248 Tryz.f248
noncomputable def ae7:=aF 249 Tryz.f249
noncomputable def ae8:=aF 250 Tryz.f250
noncomputable def ae9:=aF 254 Tryz.f254
noncomputable def afa:=aF 259 Tryz.f259
noncomputable def afb:=aF 260 Tryz.f260
noncomputable def afc:=aF 281 Tryz.f281
noncomputable def afd:=aF 293 Tryz.f293
noncomputable def afe:=aF 295 Tryz.f295
noncomputable def aff:=aF 296 Tryz.f296
noncomputable def afg:=aF 301 Tryz.f301
noncomputable def afh:=aF 323 Tryz.f323
noncomputable def afi:=aF 333 Tryz.f333
noncomputable def afj:=aF 351 Tryz.f351
noncomputable def afk:=aF 352 Tryz.f352
noncomputable def a4:=aF 4 Tryz.f4
noncomputable def a5:=aF 5 Tryz.f5
noncomputable def pK:=aF 28 Tryz.f28
noncomputable def Ub:=aF 54 Tryz.f54
noncomputable def Uc:=aF 83 Tryz.f83
noncomputable def a6:=aF 6 Tryz.f6
noncomputable def sH:=aF 11 Tryz.f11
noncomputable def kn:=aF 12 Tryz.f12
noncomputable def jy:=aF 26 Tryz.f26
noncomputable def nU:=aF 27 Tryz.f27
noncomputable def Bl:=aF 30 Tryz.f30
noncomputable def a31:=aF 31 Tryz.f31
noncomputable def j3:=aF 46 Tryz.f46
noncomputable def Iw:=aF 47 Tryz.f47
noncomputable def Ix:=aF 48 Tryz.f48
noncomputable def kM:=aF 49 Tryz.f49
noncomputable def y9:=aF 50 Tryz.f50
noncomputable def a53:=aF 53 Tryz.f53
noncomputable def Iy:=aF 70 Tryz.f70
noncomputable def Iz:=aF 79 Tryz.f79
noncomputable def IA:=aF 80 Tryz.f80
noncomputable def zd:=aF 81 Tryz.f81
noncomputable def Ud:=aF 82 Tryz.f82
noncomputable def Ue:=aF 84 Tryz.f84
noncomputable def Bm:=aF 96 Tryz.f96
noncomputable def gS:=aF 97 Tryz.f97
noncomputable def kN:=aF 98 Tryz.f98
noncomputable def Uf:=aF 99 Tryz.f99
noncomputable def Ug:=aF 100 Tryz.f100
noncomputable def Uh:=aF 101 Tryz.f101
noncomputable def tG:=aF 102 Tryz.f102
noncomputable def afn:=aF 103 Tryz.f103
noncomputable def Ui:=aF 117 Tryz.f117
noncomputable def IB:=aF 126 Tryz.f126
noncomputable def IC:=aF 127 Tryz.f127
noncomputable def Ej:=aF 128 Tryz.f128
noncomputable def Bo:=aF 129 Tryz.f129
noncomputable def ID:=aF 151 Tryz.f151
noncomputable def Bp:=aF 152 Tryz.f152
noncomputable def Uj:=aF 153 Tryz.f153
noncomputable def IE:=aF 154 Tryz.f154
noncomputable def IF:=aF 155 Tryz.f155
noncomputable def IG:=aF 156 Tryz.f156
noncomputable def wU:=aF 157 Tryz.f157
noncomputable def zh:=aF 158 Tryz.f158
noncomputable def Uk:=aF 182 Tryz.f182
noncomputable def Bq:=aF 183 Tryz.f183
noncomputable def wV:=aF 186 Tryz.f186
noncomputable def Ul:=aF 221 Tryz.f221
noncomputable def ez:=aF 222 Tryz.f222
noncomputable def Ek:=aF 223 Tryz.f223
noncomputable def wW:=aF 224 Tryz.f224
noncomputable def II:=aF 225 Tryz.f225
noncomputable def Br:=aF 240 Tryz.f240
noncomputable def IJ:=aF 241 Tryz.f241
noncomputable def Um:=aF 242 Tryz.f242
noncomputable def El:=aF 243 Tryz.f243
noncomputable def Un:=aF 282 Tryz.f282
noncomputable def Uo:=aF 283 Tryz.f283
noncomputable def vq:=aF 284 Tryz.f284
noncomputable def jz:=aF 285 Tryz.f285
noncomputable def IK:=aF 286 Tryz.f286
noncomputable def Nh:=aF 287 Tryz.f287
noncomputable def vt:=aF 288 Tryz.f288
noncomputable def Bs:=aF 290 Tryz.f290
noncomputable def Em:=aF 324 Tryz.f324
noncomputable def Eo:=aF 325 Tryz.f325
noncomputable def Ep:=aF 326 Tryz.f326
noncomputable def sI:=aF 327 Tryz.f327
noncomputable def sJ:=aF 328 Tryz.f328
noncomputable def Es:=aF 329 Tryz.f329
noncomputable def Et:=aF 330 Tryz.f330
noncomputable def Up:=aF 373 Tryz.f373
def afo:FC where
 nt:=7
 np:=1
 res:=[.cell 2 (some 2)]
 body:=(.seq (.region [2] [⟨some 4,.move (.t 0),none⟩,⟨some 5,.call (.t 4) [],none⟩]) (.seq (.region [2] [⟨some 6,.load (some 2) (.t 2),none⟩,⟨none,.store 2 (.t 2) (.t 6),none⟩]) .ret))
 iu:=some ⟨[
  (.region [0,2] [
  ⟨some 2,.alloc [.int .i64 0,.int .i64 0],none⟩])],
  [0,2],[
  ⟨some 3,.mkfn 191 [] [(.t 2)],none⟩],
  (.t 3),[]⟩
def afp:FC where
 nt:=32
 np:=6
 res:=[.cell 12 (some 1),.cell 13 none]
 body:=(.seq (.draw [5,12,13,14] [(0,1),(0,2),(1,2),(0,5),(1,5),(2,5),(0,6),(1,6),(2,6)] [⟨some 16,.load (some 1) (.t 10),none⟩,⟨some 17,.load (some 4) (.t 6),none⟩,⟨some 18,.load (some 2) (.t 7),none⟩,⟨some 19,.move (.t 2),none⟩,⟨some 20,.move (.t 3),none⟩,⟨some 21,.load (some 2) (.t 7),none⟩,⟨some 22,.call (.c (.fn 112 [] [])) [(.t 21)],none⟩,
  ⟨some 23,.build [.aI,.aI,.aI,.aI,.aI,.aI,.int .i64 0,.aI,.int .i64 0,.int .i64 0] [(0,1,(.t 16)),(1,4,(.t 17)),(5,2,(.t 18)),(7,1,(.t 19)),(8,1,(.t 20)),(9,1,(.t 22))],none⟩,⟨some 24,.box (.t 23),none⟩,⟨some 14,.move (.t 24),none⟩]) (.seq (.region [12,13,14] [⟨some 25,.move (.t 5),none⟩,⟨some 26,.move (.t 14),none⟩,
  ⟨some 27,.call (.t 25) [(.t 26)],none⟩]) (.seq (.region [12,13] [⟨some 28,.move (.t 14),none⟩,⟨some 29,.nilCheck (.t 28),none⟩,⟨some 30,.faddr (.t 29) 0,none⟩,⟨some 31,.load (some 1) (.t 30),none⟩,⟨none,.store 1 (.t 12) (.t 31),none⟩,⟨none,.store 1 (.t 13) (.c (.p (.int .i64 0))),none⟩]) .ret)))
 iu:=some ⟨[
  (.region [2,3,5,6,7,10,12,13] [
  ⟨some 6,.box (.t 0),none⟩,
  ⟨some 7,.box (.t 1),none⟩,
  ⟨some 10,.box (.t 4),none⟩,
  ⟨some 12,.alloc [.aI],none⟩,
  ⟨some 13,.alloc [.int .i64 0],none⟩])],
  [2,3,5,6,7,10,12,13],[
  ⟨some 15,.mkfn 199 [] [(.t 10),(.t 12),(.t 13)],none⟩],
  (.t 15),[]⟩
def afq:FC where
 nt:=12
 np:=1
 res:=[]
 body:=(.seq (.region [0,4] [⟨some 4,.move (.t 4),none⟩]) (.block 0 (.seq (.region [0,4,6] [⟨some 6,.eqk 4 false (.t 4) (.c (.p .kA)),none⟩]) (.cond (.t 6) (.region [] [⟨some 1,.move (.t 4),none⟩]) (.seq (.region [0,4,8,9] [⟨some 7,.tassert 265 (.agg [.int .i64 0,.int .i64 0]) true (.t 4),none⟩,⟨some 8,.extract (.t 7) 1,none⟩,⟨some 9,.extract (.t 7) 0,none⟩])
  (.cond (.t 8) (.seq (.region [0,2] [⟨some 2,.alloc [.int .i64 0,.int .i64 0],none⟩,⟨none,.store 2 (.t 2) (.t 9),none⟩]) (.region [] [⟨some 10,.faddr (.t 2) 0,none⟩,⟨some 11,.load (some 2) (.t 10),none⟩,⟨none,.store 2 (.t 0) (.t 11),none⟩])) (.seq (.region [3] [⟨some 3,.move (.t 4),none⟩]) (.region [] [⟨some 5,.move (.t 3),none⟩,⟨none,.panic (.t 5),none⟩]))))))))
def afr:FC where
 nt:=20
 np:=3
 res:=[]
 body:=(.seq (.region [0,1,2,3] [⟨some 6,.move (.t 6),none⟩,⟨some 3,.move (.t 6),none⟩]) (.seq (.region [0,1,2,3,8] [⟨some 7,.move (.t 3),none⟩,⟨some 8,.eqk 4 true (.t 7) (.c (.p .kA)),none⟩]) (.cond (.t 8) (.seq (.region [0,1,2,3,4,5] [⟨some 10,.move (.t 3),none⟩,⟨some 11,.tassert 277 (.agg [.int .i64 0]) true (.t 10),none⟩,⟨some 9,.move (.t 11),none⟩,
  ⟨some 12,.extract (.t 9) 0,none⟩,⟨some 13,.extract (.t 9) 1,none⟩,⟨some 4,.alloc [.int .i64 0],none⟩,⟨none,.store 1 (.t 4) (.t 12),none⟩,⟨some 5,.move (.t 13),none⟩]) (.seq (.seq (.region [0,1,2,3,4,15] [⟨some 14,.move (.t 5),none⟩,⟨some 15,.un .not (.t 14),none⟩]) (.cond (.t 15) (.region [0,1,2,4] [⟨some 16,.move (.t 3),none⟩,⟨none,.panic (.t 16),none⟩]) .skip))
  (.draw [] [(0,2),(2,3)] [⟨some 17,.load (some 1) (.t 0),none⟩,⟨some 18,.faddr (.t 4) 0,none⟩,⟨some 19,.load none (.t 18),none⟩,⟨none,.store 1 (.t 1) (.t 17),none⟩,⟨none,.store 1 (.t 2) (.t 19),none⟩]))) .skip)))
def Ni:Nat→Option (Nat×FC)
 | 191=>some (4,afq)
 | 199=>some (6,afr)
 |_=>none
noncomputable def Nj:Nat→Option FC
 | 4=>a4
 | 5=>a5
 | 28=>pK
 | 54=>Ub
 | 83=>Uc
 | 6=>a6
 | 10=>a10
 | 11=>sH
 | 12=>kn
 | 15=>TN
 | 16=>a16
 | 18=>Bg
 | 21=>a21
 | 22=>a22
 | 23=>yX
 | 24=>a24
 | 26=>jy
 | 27=>nU
 | 29=>Il
 | 30=>Bl
 | 31=>a31
 | 33=>a33
 | 35=>a35
 | 36=>a36
 | 38=>Im
 | 43=>a43
 | 44=>a44
 | 45=>a45
 | 46=>j3
 | 47=>Iw
 | 48=>Ix
 | 49=>kM
 | 50=>y9
 | 53=>a53
 | 55=>TO
 | 56=>TP
 | 57=>a57
 | 58=>a58
 | 59=>Bh
 | 60=>a60
 | 61=>a61
 | 62=>a62
 | 65=>Io
 | 66=>j2
 | 67=>TQ
 | 69=>ng
 | 70=>Iy
 | 72=>Bi
 | 73=>TR
 | 74=>Ip
 | 75=>TS
 | 76=>Nc
 | 79=>Iz
 | 80=>IA
 | 81=>zd
 | 82=>Ud
 | 84=>Ue
 | 87=>a87
 | 88=>a88
 | 89=>a89
 | 90=>a90
 | 91=>a91
 | 92=>a92
 | 93=>a93
 | 96=>Bm
 | 97=>gS
 | 98=>kN
 | 99=>Uf
 | 100=>Ug
 | 101=>Uh
 | 102=>tG
 | 103=>afn
 | 104=>yY
 | 105=>aeG
 | 107=>aeH
 | 108=>aeI
 | 111=>Iq
 | 112=>Nf
 | 113=>TT
 | 114=>Ir
 | 115=>TU
 | 116=>Bj
 | 117=>Ui
 | 118=>TV
 | 119=>vp
 | 120=>TW
 | 121=>TX
 | 122=>TY
 | 123=>Ng
 | 126=>IB
 | 127=>IC
 | 128=>Ej
 | 129=>Bo
 | 134=>aeJ
 | 135=>Is
 | 136=>aeK
 | 138=>some afo
 | 141=>aeL
 | 143=>some afp
 | 144=>aeM
 | 145=>aeN
 | 146=>aeO
 | 147=>aeP
 | 151=>ID
 | 152=>Bp
 | 153=>Uj
 | 154=>IE
 | 155=>IF
 | 156=>IG
 | 157=>wU
 | 158=>zh
 | 159=>TZ
 | 160=>aeQ
 | 161=>aeR
 | 162=>aeS
 | 171=>aeT
 | 172=>T3
 | 173=>Iu
 | 174=>T4
 | 175=>T5
 | 176=>Iv
 | 177=>T6
 | 178=>T7
 | 179=>yZ
 | 180=>T8
 | 182=>Uk
 | 183=>Bq
 | 186=>wV
 | 189=>aeU
 | 190=>aeV
 | 198=>aeW
 | 200=>aeX
 | 202=>aeY
 | 203=>aeZ
 | 204=>ae0
 | 207=>ae1
 | 209=>ae2
 | 210=>ae3
 | 221=>Ul
 | 222=>ez
 | 223=>Ek
 | 224=>wW
 | 225=>II
 | 232=>y0
 | 233=>Bk
 | 234=>T9
 | 235=>wT
 | 236=>Ua
 | 238=>ae4
 | 240=>Br
 | 241=>IJ
 | 242=>Um
 | 243=>El
 | 247=>ae5
 | 248=>ae6
 | 249=>ae7
 | 250=>ae8
 | 254=>ae9
 | 259=>afa
 | 260=>afb
 | 281=>afc
 | 282=>Un
 | 283=>Uo
 | 284=>vq
 | 285=>jz
 | 286=>IK
 | 287=>Nh
 | 288=>vt
 | 290=>Bs
 | 293=>afd
 | 295=>afe
 | 296=>aff
 | 301=>afg
 | 323=>afh
 | 324=>Em
 | 325=>Eo
 | 326=>Ep
 | 327=>sI
 | 328=>sJ
 | 329=>Es
 | 330=>Et
 | 333=>afi
 | 351=>afj
 | 352=>afk
 | 373=>Up
 |_=>none
def Nk:bC
 | 77=>yW
 |_=>fun _ _=>none
noncomputable def pg:Pg:=⟨Nj,fun _=>none,Nk,Ni⟩
def isTrue:Option (bt×Hp)→Bool
 |some (.val (.p (.bool b)),_)=>b
 |_=>false
end Go.Proofs.YtgplgbonlnodeaaGreatDoor
namespace Go.Proofs.YtgplgbonlnodeaaGreatDoor
open Go.Proofs Go.Shelf
def Uq:Go.Shelf.Ren where
 f:=fun | 25=>69 | 31=>122 | 32=>123 | 37=>180 |n=>n
 t:=fun | 22=>28 | 3=>3 | 4=>4 | 40=>176 | 0=>0 |n=>n
 g:=fun n=>n
theorem Ur:Lays2.n25 Tryz.prog Uq where
 mixed:=by kernel_rfl
 f25:=Tryz.func69.trans (by kernel_rfl)
 f31:=Tryz.func122.trans (by kernel_rfl)
 f32:=Tryz.func123.trans (by kernel_rfl)
 f37:=Tryz.func180.trans (by kernel_rfl)
 t0:=Tryz.underlying0
 a0:=Tryz.isAgg0
 z0:=Tryz.sizeOf0
 v0:=Tryz.zeroValue0
 t3:=Tryz.underlying3
 a3:=Tryz.isAgg3
 z3:=Tryz.sizeOf3
 v3:=Tryz.zeroValue3
 t4:=Tryz.underlying4
 a4:=Tryz.isAgg4
 z4:=Tryz.sizeOf4
 v4:=Tryz.zeroValue4
 t22:=Tryz.underlying28
 a22:=Tryz.isAgg28
 z22:=Tryz.sizeOf28
 v22:=Tryz.zeroValue28
 t40:=Tryz.underlying176
 a40:=Tryz.isAgg176
 z40:=Tryz.sizeOf176
 v40:=Tryz.zeroValue176
end Go.Proofs.YtgplgbonlnodeaaGreatDoor
namespace Go.Proofs.YtgplgbonlnodeaaGreatDoor
open Go.Vs Go.RowKit Go.Shelf
attribute [local go_sem] Oper.semAt_some
def jc(l:List Int)(v:Value)(w:World):Prop:=∃ad cap,v= .slice ad l.length cap∧l.length≤cap∧(l≠[]→∃b o,ad=some ⟨b,o,none⟩∧∀(j:Nat) x,l[j]? =some x→w.cell? ⟨b,o+j,none⟩=some (.int .i64 x))
theorem afs{es:List PD}{l:List Int}(h:aP intOf es=some l):l.length=es.length∧∀(j:Nat) x,l[j]? =some x→es[j]? =some (.int .i64 x):=by
 obtain⟨h1,h2⟩:=oC h;refine⟨h1,fun j x hx=>?_⟩;obtain⟨e,he,hf⟩:=po h hx;rw[he];unfold intOf at hf;split at hf
 ·cases hf;rfl
 ·cases hf
theorem IL{m:Mem}{v:Value}{d:PD}(h:aZ m v d){l:List Int}(hl:wS d=some l){w:World}(hm:∀b o x,m b o=some x→w.cell? ⟨b,o,none⟩=some x):jc l v w:=by
 unfold wS at hl;split at hl
 ·cases hl;cases h;exact⟨none,0,rfl,aV _,fun h=>(h rfl).elim⟩
 ·split at hl
  ·cases hl;cases h;exact⟨_,_,rfl,b9 _,fun h=>(h rfl).elim⟩
  ·cases hl
 ·split at hl
  ·rename_i sz es aS;subst aS;obtain⟨h1,h2⟩:=afs hl;obtain⟨ad,cap,rfl,hc,aq⟩:=mQ h;refine⟨ad,cap,by rw[h1],by rw[h1];exact hc,fun pw=>?_⟩;have kf:es≠[]:=fun e=>pw (tY (by rw[h1,e];rfl));obtain⟨b,o,vs,rfl,aS,dE,kY,hr⟩:=aq kf;refine⟨b,o,rfl,fun j x hx=>?_⟩;have he:=h2 j x hx;have hj:j<es.length:=(az.1 he).1;have:=hm _ _ _ (kY j 0 hj (by decide));have hv:=(hr j _ 0 _ he rfl).iI;rw[hv] at this;simpa using this
  ·cases hl
 ·cases hl
theorem Us:∀{l:List Int},yV l=true→l.Pairwise (·≤·)
 |[],_=>.nil
 |[a],_=>by simp
 |a::b::r,h=>by
  simp only[yV,bQ,decide_eq_true_eq] at h;have q:=Us h.2;refine .cons (fun x hx=>?_) q;rcases cN.1 hx with rfl |hx
  ·exact h.1
  ·exact Int.le_trans h.1 ((xM.1 q).1 x hx)
theorem aft{l:List Int}(hs:yV l=true)(hl:l.length<4611686018427387904){v:Value}{w:World}(h:jc l v w)(x:Int):
    Calls Tryz.prog 69 #[v,.int .i64 x] w fun e w'=>∃k:Int,e= .returned (.tuple #[.int .i64 k,.bool (l.contains x)])∧∃q,w'=w.drewN q:=by
 obtain⟨ad,cap,rfl,-,aq⟩:=h;have Ut:Uq.f 25=69:=rfl;cases l with
 |nil=>
  have:=Any.slices_BinarySearch_int_empty Ur ad cap x w;rw[Ut] at this;refine this.mono ?_;rintro e w' ⟨rfl,hw⟩;exact⟨0,by simp,0,hw⟩
 |cons a r=>
  obtain⟨b,o,rfl,hc⟩:=aq (by simp);have:=Any.slices_BinarySearch_int Ur b o (a::r).length cap (a::r) x w (aV _) hl (fun j hj=>by
   have:=hc j _ (aA hj);rw[this,fE,aA hj];rfl) (by rw[oo];exact Us hs)
  rw[Ut,oo] at this;refine this.mono ?_;rintro e w' ⟨rfl,hw⟩;exact⟨_,rfl,hw⟩
def tH(n:Nat):Value→Nat
 | .int _ i=>n-i.toNat
 |_=>0
def afu(B O:Nat)(l u:List Int)(w:World):Prop:=∃vl vu,w.cell? ⟨B,O+1,none⟩=some vl∧w.cell? ⟨B,O+3,none⟩=some vu∧jc l vl w∧jc u vu w
set_option maxRecDepth 100000 in
set_option maxHeartbeats 2000000 in
theorem afv(F:Fence)(n:Nat)(Nl:F.fn 226)(h69:F.fn 69)(jx:F.round=none)(hn:1≤n)(us:List Int)(ls:List Int)(hlen:us.length<4611686018427387904)(lp B O:Nat)(J:Nat→(Nat→Prop)→World→Prop)(X:Ending→World→Prop)(w0:World)
    (hK:∀k fb A,J k fb A→afu B O ls us A) (hU:∃vu,w0.cell? ⟨B,O+3,none⟩=some vu∧∀k fb A,J k fb A→jc us vu A)
    (eg:∀A v x,jc ls v A→CallsIn F (n-1) Tryz.prog 69 #[v,.int .i64 x] A fun e w'=>∃k:Int,e= .returned (.tuple #[.int .i64 k,.bool (ls.contains x)])∧∃q,w'=A.drewN q)
    (hJ:∀k fb A B,J k fb A→RowKit.Below A.heap.size A B→J k (fun b=>fb b∨(A.heap.size≤b∧b<B.heap.size)) B)
    (hY:∀k fb x A,(us.filter fun t=>!ls.contains t)[k]? =some x→J k fb A→YieldAt F (n-1) Tryz.prog lp #[.int .i64 x] A fun e B=>(A.heap.size≤B.heap.size∧∀b,fb b→nO b A B)∧((e= .returned (.bool true)∧J (k+1) fb B)∨(e= .returned (.bool false)∧X e B)∨∃ch,e= .panicked ch∧X e B))
    (h0:J 0 (fun _=>False) w0):
    CallsIn F n Tryz.prog 226 #[.func (.yield lp) #[] #[],.pointer (some ⟨B,O,none⟩)] w0 fun e B=>((∃v,e= .returned v)∧((∃fb,J (us.filter fun t=>!ls.contains t).length fb B)∨X (.returned (.bool false)) B))∨∃ch,e= .panicked ch∧X e B:=by
 refine callsIn_of_wp Tryz.func226 rfl Nl ?_ jx;simp only[Tryz.ntmps226,qG,dZ,fW,vV,xN,xO,xP,xQ,xR,jm,jN];have t3:=Tryz.underlying3;have a3:=Tryz.isAgg3;have z3:=Tryz.sizeOf3;have v3:=Tryz.zeroValue3;have t4:=Tryz.underlying4;have a4:=Tryz.isAgg4;have z4:=Tryz.sizeOf4;have v4:=Tryz.zeroValue4;have t28:=Tryz.underlying28;have pK:=Tryz.isAgg28;have Bu:=Tryz.sizeOf28;have Bv:=Tryz.zeroValue28;have t98:=Tryz.underlying98;have kN:=Tryz.isAgg98;have z98:=Tryz.sizeOf98;have t85:=Tryz.underlying85;have a85:=Tryz.isAgg85;have z85:=Tryz.sizeOf85;have t135:=Tryz.underlying135;have Is:=Tryz.isAgg135;have Uu:=Tryz.sizeOf135;have Uv:=Tryz.zeroValue135;have u3:=run_underlying Tryz.underlying3;have u4:=run_underlying Tryz.underlying4;have Bw:=run_underlying Tryz.underlying28;have u98:=run_underlying Tryz.underlying98;have u85:=run_underlying Tryz.underlying85;have Uw:=run_underlying Tryz.underlying135;obtain⟨vu,hcu,Nm⟩:=hU;obtain⟨ad,cap,rfl,-,aq⟩:=Nm 0 _ _ h0
 gi_wp2
 gi_loopw [4,5,6,11] (fun _ _ _ v wr=>∃(i k:Nat) (fb:Nat→Prop),v= .int .i64 (i:Int)∧i≤us.length∧(us.drop i).filter (fun t=>!ls.contains t)=(us.filter fun t=>!ls.contains t).drop k∧k≤(us.filter fun t=>!ls.contains t).length∧J k fb wr)
  (fun _ _ _ v _=>tH us.length v)
 case atStart=>
  exact⟨0,0,_,rfl,b9 _,rfl,b9 _,h0⟩
 case round=>
  obtain⟨i,k,fb,rfl,hi,hk,Eu,nh⟩:=hrel;rcases iP i us.length with ah |kZ
  ·obtain⟨ad2,KH,heq,-,qU⟩:=Nm k fb wr nh;cases heq;obtain⟨b,o,rfl,hc⟩:=qU (by intro e;subst e;simp at ah);obtain⟨x,rz⟩:∃x,us[i]? =some x:=⟨_,aA ah⟩;have hx:=hc i x rz;clear hc qU;have ai:(i:Int)<(us.length:Int):=by omega
   have ae:(0 :Int)≤(i:Int):=by omega
   rw[FX ah,xK,(az.1 rz).2] at hk;obtain⟨vl,vu2,q1,q2,q3,q4⟩:=hK k fb wr nh;have mg:=eg wr vl x q3;clear Nm hcu;by_cases ei:ls.contains x=true
   ·rw[ei] at hk mg;simp only[Pw,ob,if_false] at hk
    gi_wp2_with (gi_at_call 69;refine mg.mono ?_;rintro e w' ⟨kk,rfl,q,rfl⟩)
    refine⟨fun f h=>(by cases h),?_⟩
    gi_wp2
    go_roundw
    case rel=>exact⟨i+1,k,_,by simp,ah,hk,Eu,hJ _ _ _ _ nh (below_drewN (.refl _ _) q)⟩
    case measure=>simp only[tH];omega
   ·have ei:ls.contains x=false:=by simpa using ei
    rw[ei] at hk mg;simp only[Bool.not_false,if_true] at hk;have jt:(us.filter fun t=>!ls.contains t)[k]? =some x:=by
     have:=congrArg (·[0]?) hk;simpa[oZ] using this.symm
    have uV:(us.drop (i+1)).filter (fun t=>!ls.contains t)=(us.filter fun t=>!ls.contains t).drop (k+1):=by
     have:=congrArg amK hk;simpa using this
    gi_wp2_with (gi_at_call 69;refine mg.mono ?_;rintro e w' ⟨kk,rfl,q,rfl⟩;obtain⟨fn,tmps,assign,body,hy,hR⟩:=hY k _ x _ jt (hJ _ _ _ _ nh (below_drewN (.refl _ wr) q)))
    refine hR.mono ?_;rintro e W3 ⟨-,(⟨rfl,rA⟩ |⟨rfl,pL⟩ |⟨ch,rfl,pL⟩)⟩
    ·gi_wp2
     go_roundw
     case rel=>exact⟨i+1,k+1,_,by simp,ah,uV,(az.1 jt).1,rA⟩
     case measure=>simp only[tH];omega
    ·gi_wp2
     refine bodyPost_ret (results_none rfl _ _ _) rfl ?_;exact .inl ⟨⟨_,rfl⟩,.inr pL⟩
    ·first
     |exact⟨rfl,Or.inr ⟨ch,rfl,pL⟩⟩
     |exact⟨rfl,Or.inr ⟨⟨ch,rfl⟩,pL⟩⟩
  ·have ai:¬(i:Int)<(us.length:Int):=by omega
   gi_wp2
   go_end0
   have yy:i=us.length:=by omega
   subst yy;rw[Ki] at hk;have jG:(us.filter fun t=>!ls.contains t).length≤k:=by
    have:=congrArg oq hk;rw[FY,fW,vR] at this;omega
   have DG:k=(us.filter fun t=>!ls.contains t).length:=by omega
   refine .inl ⟨⟨_,rfl⟩,.inl ⟨fb,?_⟩⟩;rw[DG] at nh;simpa using nh
theorem Ux{γ:Gh}(x:Int):cy γ #[Value.int .i64 x] [.p (.int .i64 x)]:=
 ⟨rfl,fun i d hd=>match i with
  | 0=>by simp only[ew,bI] at hd;subst hd;exact .p _ _ (.int _ _)
  |i+1=>by simp at hd⟩
variable {W : World} {G : Nat → Option (List PD)}
theorem afy:sj Tryz.prog W G 226 oR:=by
 refine⟨⟨Tryz.f226,Tryz.func226,by kernel_rfl,by kernel_rfl⟩,fun fi cap H xs hg γ w la lb I tI Ev=>?_⟩;unfold oR at hg;split at hg
 ·rename_i c0 lo c2 up;split at hg
  ·rename_i l u hl hu;split at hg
   ·rename_i hc;obtain⟨hs,ie,KF⟩:=hc;cases hg;have Nn:la= #[]:=Pz tI.1;subst Nn;obtain⟨v,rfl,hv⟩:=Ts Ev;cases hv with
    |ro b o _ _ vs hm hr=>
     have fact:∀A,Kept W G γ H (oy (.fn 226 [] [.ro [c0,lo,c2,up] 0]) H) A→A.cell? ⟨b,o+1,none⟩=some (vs 1)∧A.cell? ⟨b,o+3,none⟩=some (vs 3)∧jc l (vs 1) A∧jc u (vs 3) A:=by
      rintro A ⟨γ',H',L,I',_⟩;refine⟨I'.toInv.mem _ _ _ (L.mem _ _ _ (hm 1 (by simp))),I'.toInv.mem _ _ _ (L.mem _ _ _ (hm 3 (by simp))),?_,?_⟩
      ·exact IL ((hr 1 lo rfl).1.mono L.mem) hl I'.toInv.mem
      ·exact IL ((hr 3 up rfl).1.mono L.mem) hu I'.toInv.mem
     refine⟨fun k=>match(u.filter fun t=>!l.contains t)[k]? with |some x=>#[.int .i64 x] |none=>#[],fun k x hx=>?_,fun lp J X w0 hB zj hJ hT hX sK hY h0=>?_⟩
     ·simp only[cP,au] at hx;obtain⟨p,hp,rfl⟩:=hx;simp only[hp];exact⟨rfl,fun γ'=>Ux p⟩
     ·have f0:=fact w0 (zj 0 _ w0 h0);have h:=afv (wr none) 1 trivial trivial rfl (aV _) u l KF lp b o J X w0 (fun k fb A hj=>by
       obtain⟨q1,q2,q3,q4⟩:=fact A (zj k fb A hj);exact⟨_,_,q1,q2,q3,q4⟩) ⟨vs 3,f0.2.1,fun k fb A hj=>(fact A (zj k fb A hj)).2.2.2⟩ (fun A v x ha=>ri.2 (aft hs ie ha x)) hJ (fun k fb x A hx hj=>by
       have:=hY k fb _ A (by rw[cP,hx];rfl) hj;simp only[hx] at this;exact this) h0
      rw[cx];exact ri.2 (ri.1 h)
   ·cases hg
  ·cases hg
 ·cases hg
end Go.Proofs.YtgplgbonlnodeaaGreatDoor
namespace Go.Proofs.YtgplgbonlnodeaaGreatDoor
open Go.Vs Go.RowKit Go.Shelf
attribute [local go_sem] Oper.semAt_some
def Uy(l:List Bool)(v:Value)(w:World):Prop:=∃ad cap,v= .slice ad l.length cap∧(l≠[]→∃b o,ad=some ⟨b,o,none⟩∧∀(j:Nat) x,l[j]? =some x→w.cell? ⟨b,o+j*3+2,none⟩=some (.bool x))
def Uz(l:List (Int×Int))(v:Value)(w:World):Prop:=∃ad cap,v= .slice ad l.length cap∧(l≠[]→∃b o,ad=some ⟨b,o,none⟩∧∀(j:Nat) x,l[j]? =some x→w.cell? ⟨b,o+j*2,none⟩=some (.int .i64 x.1)∧w.cell? ⟨b,o+j*2+1,none⟩=some (.int .i64 x.2))
theorem UA{α:Type}{f:PD→Option α}{es:List PD}{l:List α}(h:aP f es=some l):l.length=es.length∧∀(j:Nat) x,l[j]? =some x→∃e,es[j]? =some e∧f e=some x:=by
 obtain⟨h1,h2⟩:=oC h;refine⟨h1,fun j x hx=>?_⟩;obtain⟨e,he,hf⟩:=po h hx;exact⟨e,he,hf⟩
theorem afz{m:Mem}{v:Value}{d:PD}(h:aZ m v d){l:List Bool}(hl:varsOf d=some l){w:World}(hm:∀b o x,m b o=some x→w.cell? ⟨b,o,none⟩=some x):Uy l v w:=by
 unfold varsOf at hl;split at hl
 ·cases hl;cases h;exact⟨none,0,rfl,fun h=>(h rfl).elim⟩
 ·split at hl
  ·cases hl;cases h;exact⟨_,_,rfl,fun h=>(h rfl).elim⟩
  ·cases hl
 ·split at hl
  ·rename_i sz es aS;subst aS;obtain⟨h1,h2⟩:=UA hl;obtain⟨ad,cap,rfl,hc,aq⟩:=mQ h;refine⟨ad,cap,by rw[h1],fun pw=>?_⟩;have kf:es≠[]:=fun e=>pw (tY (by rw[h1,e];rfl));obtain⟨b,o,vs,rfl,aS,dE,kY,hr⟩:=aq kf;refine⟨b,o,rfl,fun j x hx=>?_⟩;obtain⟨e,he,hf⟩:=h2 j x hx;have hj:j<es.length:=(az.1 he).1;unfold varOf at hf;split at hf
   ·cases hf;have:=hm _ _ _ (kY j 2 hj (by decide));have hv:=(hr j _ 2 _ he rfl).s8;rw[hv] at this;exact this
   ·cases hf
  ·cases hl
 ·cases hl
theorem afA{m:Mem}{v:Value}{d:PD}(h:aZ m v d){l:List (Int×Int)}(hl:Eh d=some l){w:World}(hm:∀b o x,m b o=some x→w.cell? ⟨b,o,none⟩=some x):Uz l v w:=by
 unfold Eh at hl;split at hl
 ·cases hl;cases h;exact⟨none,0,rfl,fun h=>(h rfl).elim⟩
 ·split at hl
  ·cases hl;cases h;exact⟨_,_,rfl,fun h=>(h rfl).elim⟩
  ·cases hl
 ·split at hl
  ·rename_i sz es aS;subst aS;obtain⟨h1,h2⟩:=UA hl;obtain⟨ad,cap,rfl,hc,aq⟩:=mQ h;refine⟨ad,cap,by rw[h1],fun pw=>?_⟩;have kf:es≠[]:=fun e=>pw (tY (by rw[h1,e];rfl));obtain⟨b,o,vs,rfl,aS,dE,kY,hr⟩:=aq kf;refine⟨b,o,rfl,fun j x hx=>?_⟩;obtain⟨e,he,hf⟩:=h2 j x hx;have hj:j<es.length:=(az.1 he).1;unfold Ij at hf;split at hf
   ·cases hf;have c0:=hm _ _ _ (kY j 0 hj (by decide));have c1:=hm _ _ _ (kY j 1 hj (by decide));have v0:=(hr j _ 0 _ he rfl).iI;have v1:=(hr j _ 1 _ he rfl).iI;rw[v0] at c0;rw[v1] at c1;exact⟨c0,c1⟩
   ·cases hf
  ·cases hl
 ·cases hl
def UB(B O:Nat)(steps:Int)(vs:List Bool)(fr:List (Int×Int))(vf vr:Value)(w:World):Prop:=w.cell? ⟨B,O+1,none⟩=some (.int .i64 steps)∧w.cell? ⟨B,O+3,none⟩=some vf∧w.cell? ⟨B,O+7,none⟩=some vr∧Uy vs vf w∧Uz fr vr w
theorem afB(F:Fence)(n:Nat)(Np:F.fn 75)(jx:F.round=none)(B O:Nat)(steps:Int)(w:World)(hc:w.cell? ⟨B,O+1,none⟩=some (.int .i64 steps)):
    CallsIn F n Tryz.prog 75 #[.pointer (some ⟨B,O,none⟩)] w fun e w'=>e= .returned (.int .i64 ((aW steps:Nat):Int))∧w'=w:=by
 refine callsIn_of_wp Tryz.func75 rfl Np ?_ jx;simp only[Tryz.ntmps75,qG,dZ,fW,vV,xN,xO,xP,xQ,xR,jm,jN];have t3:=Tryz.underlying3;have a3:=Tryz.isAgg3;have z3:=Tryz.sizeOf3;have v3:=Tryz.zeroValue3;have t119:=Tryz.underlying119;have t30:=Tryz.underlying30;have u3:=run_underlying Tryz.underlying3;have afC:=run_underlying Tryz.underlying119;have Bx:=run_underlying Tryz.underlying30;by_cases h1:1<steps
 ·have hd:((aW steps:Nat):Int)=steps:=by simp[aW,h1];omega
  rw[hd]
  gi_wp2
  refine bodyPost_ret (results_tmp rfl _ _ _) rfl ?_;exact⟨rfl,rfl⟩
 ·have hd:aW steps=0:=by simp[aW,h1]
  rw[hd]
  gi_wp2
  refine bodyPost_ret (results_tmp rfl _ _ _) rfl ?_;exact⟨rfl,rfl⟩
set_option maxRecDepth 100000 in
set_option maxHeartbeats 4000000 in
theorem afD(F:Fence)(n:Nat)(Ew:F.fn 68)(Np:F.fn 75)(jx:F.round=none)(hn:1≤n)(steps:Int)(vs:List Bool)(fr:List (Int×Int))(cC:steps<4611686018427387904)(iy:fr.length<4611686018427387904)(ei:∀(i:Nat) p,fr[i]? =some p→0≤p.1∧p.1<(vs.length:Int))
    (L:List (Nat×Nat×Int×Int)) (hL:L=gR vs fr steps.toNat 0 (aW steps)) (nN:aW steps+L.length<4611686018427387904) (lp B O:Nat) (J:Nat→(Nat→Prop)→World→Prop) (X:Ending→World→Prop) (w0:World)
    (vf vr:Value) (hK:∀k fb A,J k fb A→UB B O steps vs fr vf vr A)
    (hJ:∀k fb A B,J k fb A→RowKit.Below A.heap.size A B→J k (fun b=>fb b∨(A.heap.size≤b∧b<B.heap.size)) B)
    (hY:∀k fb (x:Nat×Nat×Int×Int) A,L[k]? =some x→J k fb A→YieldAt F (n-1) Tryz.prog lp #[.agg #[.int .i64 (x.1:Int),.int .i64 (x.2.1:Int),.int .i64 x.2.2.1,.int .i64 x.2.2.2]] A fun e B=>(A.heap.size≤B.heap.size∧∀b,fb b→nO b A B)∧((e= .returned (.bool true)∧J (k+1) fb B)∨(e= .returned (.bool false)∧X e B)∨∃ch,e= .panicked ch∧X e B))
    (h0:J 0 (fun _=>False) w0):
    CallsIn F n Tryz.prog 68 #[.pointer (some ⟨B,O,none⟩),.func (.yield lp) #[] #[]] w0 fun e B=>((∃v,e= .returned v)∧((∃fb,J L.length fb B)∨X (.returned (.bool false)) B))∨∃ch,e= .panicked ch∧X e B:=by
 refine callsIn_of_wp Tryz.func68 rfl Ew ?_ jx;simp only[Tryz.ntmps68,qG,dZ,fW,vV,xN,xO,xP,xQ,xR,jm,jN];have t3:=Tryz.underlying3;have a3:=Tryz.isAgg3;have z3:=Tryz.sizeOf3;have v3:=Tryz.zeroValue3;have t4:=Tryz.underlying4;have a4:=Tryz.isAgg4;have z4:=Tryz.sizeOf4;have v4:=Tryz.zeroValue4;have t23:=Tryz.underlying23;have yX:=Tryz.isAgg23;have z23:=Tryz.sizeOf23;have v23:=Tryz.zeroValue23;have t27:=Tryz.underlying27;have t30:=Tryz.underlying30;have t95:=Tryz.underlying95;have a95:=Tryz.isAgg95;have z95:=Tryz.sizeOf95;have t110:=Tryz.underlying110;have aoL:=Tryz.isAgg110;have aoM:=Tryz.sizeOf110;have t112:=Tryz.underlying112;have Nf:=Tryz.isAgg112;have aoN:=Tryz.sizeOf112;have aoO:=Tryz.zeroValue112;have t119:=Tryz.underlying119;have t123:=Tryz.underlying123;have Ng:=Tryz.isAgg123;have aoP:=Tryz.sizeOf123;have aoQ:=Tryz.zeroValue123;have u3:=run_underlying Tryz.underlying3;have u4:=run_underlying Tryz.underlying4;have u23:=run_underlying Tryz.underlying23;have u27:=run_underlying Tryz.underlying27;have Bx:=run_underlying Tryz.underlying30;have u95:=run_underlying Tryz.underlying95;have aoU:=run_underlying Tryz.underlying110;have aoV:=run_underlying Tryz.underlying112;have afC:=run_underlying Tryz.underlying119;have aoW:=run_underlying Tryz.underlying123;obtain⟨q1,q2,q3,q4,q5⟩:=hK 0 _ _ h0;have By:=afB F (n-1) Np jx B O steps w0 q1
 gi_wp2_with (gi_at_call 75;refine By.mono ?_;rintro e w' ⟨rfl,rfl⟩)
 clear By q2 q3 q4 q5 q1
 gi_loopw [4,5,7,15] (fun v _ _ s wr=>∃(i k:Nat) (fb:Nat→Prop),s= .int .i64 (i:Int)∧(i:Int)≤max steps 0∧v= .int .i64 ((aW steps+k:Nat):Int)∧gR vs fr (steps.toNat-i) i (aW steps+k)=L.drop k∧k≤L.length∧J k fb wr)
  (fun _ _ _ s _=>tH steps.toNat s)
 case atStart=>
  exact⟨0,0,_,rfl,by omega,by simp,by rw[hL];rfl,b9 _,h0⟩
 case round=>
  obtain⟨i,k,fb,rfl,hi,rfl,hk,Eu,nh⟩:=hrel;rcases Int.lt_or_le (i:Int) steps with ah |kZ
  ·have IM:steps.toNat-i=(steps.toNat-(i+1))+1:=by omega
   rw[IM] at hk;simp only[gR] at hk;obtain⟨q1,q2,q3,q4,q5⟩:=hK k fb wr nh;obtain⟨adr,aoY,rfl,afE⟩:=q5;clear q4
   gi_wp2
   clear q1 q2 q3 afE
   gi_loopw [4,7,23] (fun v _ j wr2=>∃(j' k2:Nat) (Bz:Nat→Prop),j= .int .i64 (j':Int)∧j'≤fr.length∧v= .int .i64 ((aW steps+k2:Nat):Int)∧jb vs i (fr.drop j') (aW steps+k2)++gR vs fr (steps.toNat-(i+1)) (i+1) (aW steps+k2+(jb vs i (fr.drop j') (aW steps+k2)).length)=L.drop k2∧k2≤L.length∧J k2 Bz wr2)
    (fun _ _ j _=>tH fr.length j)
   case atStart=>exact⟨0,k,fb,rfl,b9 _,rfl,by simpa using hk,Eu,nh⟩
   case round=>
    clear hk Eu nh;obtain⟨j,k2,Bz,rfl,hj,rfl,bW,UC,vw⟩:=hrel;rcases iP j fr.length with nL |hjg
    ·obtain⟨⟨a,b⟩,hp⟩:∃x,fr[j]? =some x:=⟨_,aA nL⟩;obtain⟨Mg,j4⟩:=ei j _ hp;simp only at Mg j4;obtain⟨q1,q2,q3,q4,q5⟩:=hK k2 Bz _ vw;obtain⟨ad2,KH,heq,qU⟩:=q5;cases heq;obtain⟨rb,ro,rfl,hc⟩:=qU (by intro e;subst e;simp at nL);obtain⟨BA,uy⟩:=hc j _ hp;clear hc qU;have ai:(j:Int)<(fr.length:Int):=by omega
     have ae:(0 :Int)≤(j:Int):=by omega
     rw[FX nL,(az.1 hp).2] at bW;simp only[jb] at bW
     gi_wp2
     clear BA uy ai ae q1 q2 q3 q4;have UD:RowKit.Below wr.heap.size wr (wr.alloc (Obj.cells #[Value.int IntKind.i64 a,Value.int IntKind.i64 b] 112)):=RowKit.Below.alloc (.refl _ _) (aV _) _;have rA:=hJ _ _ _ _ vw UD;have e0:(wr.alloc (Obj.cells #[Value.int IntKind.i64 a,Value.int IntKind.i64 b] 112)).cell? ⟨wr.heap.size,0,none⟩=some (.int .i64 a):=by simp[go_sem]
     have e1:(wr.alloc (Obj.cells #[Value.int IntKind.i64 a,Value.int IntKind.i64 b] 112)).cell? ⟨wr.heap.size,1,none⟩=some (.int .i64 b):=by simp[go_sem]
     generalize yH:wr.alloc (Obj.cells #[Value.int IntKind.i64 a,Value.int IntKind.i64 b] 112)=W1 at *;generalize HL:(fun b=>Bz b∨wr.heap.size≤b∧b<W1.heap.size)=Ey at *;generalize wr.heap.size=N1 at *;clear UD yH HL vw;obtain⟨q1,q2,q3,⟨adf,ao1,rfl,BB⟩,q5⟩:=hK _ _ _ rA;obtain⟨fb',fo,rfl,Hn⟩:=BB (by intro e;subst e;simp at j4;omega);obtain⟨x,hx⟩:∃x,vs[a.toNat]? =some x:=⟨_,aA (by omega)⟩;have hcx:=Hn _ _ hx;clear Hn BB q1 q3 q5;have oI:vs.getD a.toNat false=x:=by simp[Kf,hx]
     by_cases yJ:nT vs i a=true
     ·have mZ:0<i∧x=false:=by simpa[nT,hx] using yJ
      obtain⟨mZ,rfl⟩:=mZ;have yy:(0 :Int)<(i:Int):=by omega
      rw[if_pos yJ] at bW
      (refine wpIn_region_quiet_lit jx (by kernel_rfl) (by kernel_rfl) ?_
       repeat (gi_big_quiet_step (fail))
       refine wpQuietIn_nil ?_;intro _ hw';obtain⟨nq,hw''⟩:=hw';subst hw'')
      gi_wp2
      go_roundw
      case rel=>exact⟨j+1,k2,_,by simp,nL,rfl,bW,UC,hJ _ _ _ _ rA (below_drewN (.refl _ _) nq)⟩
      case measure=>simp only[tH];omega
     ·rw[if_neg yJ] at bW;have jt:L[k2]? =some (aW steps+k2+1,i,a,b):=by
       have:=congrArg (·[0]?) bW;simpa[oZ] using this.symm
      have uV:jb vs i (fr.drop (j+1)) (aW steps+(k2+1))++gR vs fr (steps.toNat-(i+1)) (i+1) (aW steps+(k2+1)+(jb vs i (fr.drop (j+1)) (aW steps+(k2+1))).length)=L.drop (k2+1):=by
       have:=congrArg amK bW;simpa[vQ,Nat.add_comm 1] using this
      have afG:k2<L.length:=(az.1 jt).1;clear bW;have hif:(decide (0<i)=false)∨(0<i∧x=true):=by
       cases x
       ·left;refine decide_eq_false fun hi=>?_;exact yJ (by simp[nT,hx];omega)
       ·rcases Kj i with h |h
        ·exact .inl (by simp[h])
        ·exact .inr ⟨h,rfl⟩
      clear yJ oI hx;have Ky:(0 :Int)≤(aW steps:Int)+(k2:Int):=by omega
      have rR:(aW steps:Int)+(k2:Int)+1<4611686018427387904:=by omega
      rcases hif with yy |⟨yy,rfl⟩
      all_goals
       (refine wpIn_region_quiet_lit jx (by kernel_rfl) (by kernel_rfl) ?_
        repeat (gi_big_quiet_step (fail))
        refine wpQuietIn_nil ?_;intro _ hw';obtain⟨nq,hw''⟩:=hw';subst hw'')
      all_goals have Ez:=hJ _ _ _ _ rA (below_drewN (.refl _ W1) nq)
      all_goals obtain⟨fn,tmps,assign,body,hy,hR⟩:=hY k2 _ _ _ jt Ez
      all_goals (simp at hy)
      all_goals gi_wp2
      all_goals refine hR.mono ?_
      all_goals rintro e W3 ⟨-,(⟨rfl,EA⟩ |⟨rfl,pL⟩ |⟨ch,rfl,pL⟩)⟩
      all_goals try gi_wp2
      all_goals first
       |exact⟨⟨j+1,k2+1,_,rfl,nL,congrArg (Value.int .i64) (by omega),uV,afG,EA⟩,by simp only[tH];omega⟩
       |exact⟨rfl,Or.inr ⟨ch,rfl,pL⟩⟩
       |exact⟨rfl,Or.inr ⟨⟨ch,rfl⟩,pL⟩⟩
       |(refine bodyPost_ret (results_none rfl _ _ _) rfl ?_;exact .inl ⟨⟨_,rfl⟩,.inr pL⟩)
    ·have ai:¬(j:Int)<(fr.length:Int):=by omega
     gi_wp2
     have EB:j=fr.length:=by omega
     subst EB;rw[Ki] at bW;simp only[jb,jm,fW,oe] at bW;refine⟨⟨i+1,k2,_,rfl,by omega,rfl,bW,UC,vw⟩,?_⟩;simp only[tH];omega
  ·have ai:¬(i:Int)<steps:=by omega
   gi_wp2
   go_end0
   have hz:steps.toNat-i=0:=by omega
   rw[hz] at hk;simp only[gR] at hk;have jG:L.length≤k:=by
    have:=congrArg oq hk;rw[fW,vR] at this;omega
   have DG:k=L.length:=by omega
   rw[DG,hL] at nh;exact .inl ⟨⟨_,rfl⟩,.inl ⟨fb,nh⟩⟩
theorem afI{γ:Gh}(x:Nat×Nat×Int×Int):cy γ #[Value.agg #[.int .i64 (x.1:Int),.int .i64 (x.2.1:Int),.int .i64 x.2.2.1,.int .i64 x.2.2.2]] (sG x):=
 ⟨rfl,fun i d hd=>match i with
  | 0=>by
   simp only[sG,ew,bI] at hd;subst hd;refine .p _ _ (.agg _ _ rfl (by simp[PD.one]) fun i d hd=>?_)
   match i with
   | 0=>cases hd;exact .int _ _
   | 1=>cases hd;exact .int _ _
   | 2=>cases hd;exact .int _ _
   | 3=>cases hd;exact .int _ _
   |i+4=>simp at hd
  |i+1=>by simp[sG] at hd⟩
variable {W : World} {G : Nat → Option (List PD)}
theorem afJ:sj Tryz.prog W G 68 oS:=by
 refine⟨⟨Tryz.f68,Tryz.func68,by kernel_rfl,by kernel_rfl⟩,fun fi cap H xs hg γ w la lb I tI Ev=>?_⟩;unfold oS at hg;split at hg
 ·rename_i c0 steps c2 fs c4 c5 c6 fr;split at hg
  ·rename_i vs free hv hf;split at hg
   ·rename_i hc;obtain⟨hs,fQ,ij,nN⟩:=hc;cases hg;have nJ:lb= #[]:=Pz Ev.1;subst nJ;obtain⟨v,rfl,D6⟩:=Ts tI;cases D6 with
    |ro b o _ _ cs hm hr=>
     have c1:cs 1= .int .i64 steps:=(hr 1 _ rfl).1.iI;have fact:∀A,Kept W G γ H (oy (.fn 68 [.ro [c0,.int .i64 steps,c2,fs,c4,c5,c6,fr] 0] []) H) A→UB b o steps vs free (cs 3) (cs 7) A:=by
      rintro A ⟨γ',H',L,I',_⟩;refine⟨?_,I'.toInv.mem _ _ _ (L.mem _ _ _ (hm 3 (by simp))),I'.toInv.mem _ _ _ (L.mem _ _ _ (hm 7 (by simp))),?_,?_⟩
      ·have:=I'.toInv.mem _ _ _ (L.mem _ _ _ (hm 1 (by simp)));rw[c1] at this;exact this
      ·exact afz ((hr 3 fs rfl).1.mono L.mem) hv I'.toInv.mem
      ·exact afA ((hr 7 fr rfl).1.mono L.mem) hf I'.toInv.mem
     generalize hL:gR vs free steps.toNat 0 (aW steps)=L at nN;refine⟨fun k=>match L[k]? with |some x=>#[.agg #[.int .i64 (x.1:Int),.int .i64 (x.2.1:Int),.int .i64 x.2.2.1,.int .i64 x.2.2.2]] |none=>#[],fun k x hx=>?_,fun lp J X w0 hB zj hJ hT hX sK hY h0=>?_⟩
     ·simp only[cP,au] at hx;obtain⟨p,hp,rfl⟩:=hx;simp only[hp];exact⟨rfl,fun γ'=>afI p⟩
     ·have h:=afD (wr none) 1 trivial trivial rfl (aV _) steps vs free hs fQ (fun i p hp=>by
       have:=gI.1 ij p (bS hp);exact of_decide_eq_true this) L hL.symm nN lp b o J X w0 (cs 3) (cs 7) (fun k fb A hj=>fact A (zj k fb A hj)) hJ (fun k fb x A hx hj=>by
       have:=hY k fb _ A (by rw[cP,hx];rfl) hj;simp only[hx] at this;exact this) h0
      rw[cx];exact ri.2 (ri.1 h)
   ·cases hg
  ·cases hg
 ·cases hg
end Go.Proofs.YtgplgbonlnodeaaGreatDoor
namespace Go.Proofs.YtgplgbonlnodeaaGreatDoor
open Go.Vs Go.RowKit Go.Shelf
attribute [local go_sem] Oper.semAt_some
theorem sL{w:World}{a:Addr}{v:Value}(h:w.cell? a=some v):a.block<w.heap.size:=by
 unfold World.cell? at h;split at h
 ·rename_i hb;exact(gz.1 hb).1
 ·cases h
theorem jc.below{l:List Int}{v:Value}{w w':World}(h:jc l v w)(hb:RowKit.Below w.heap.size w w'):jc l v w':=by
 obtain⟨ad,cap,rfl,dO,aq⟩:=h;refine⟨ad,cap,rfl,dO,fun hl=>?_⟩;obtain⟨b,o,e,hc⟩:=aq hl;refine⟨b,o,e,fun j x hx=>?_⟩;have:=hc j x hx;rw[hb.cell (sL this)];exact this
theorem UE{l:List Int}(h:∀x∈l,0≤x):0≤l.sum:=by
 induction l with
 |nil=>simp
 |cons a l ih=>
  have h1:=h a (by simp);have h2:=ih fun x hx=>h x (by simp[hx]);simp only[CS];omega
theorem EC{l:List Int}(h:∀x∈l,0≤x)(n:Nat):0≤(l.take n).sum∧(l.take n).sum≤l.sum:=by
 have h1:=UE (l:=l.take n) fun x hx=>h x (j8 hx);have h2:=UE (l:=l.drop n) fun x hx=>h x (sU hx);have h3:(l.take n).sum+(l.drop n).sum=l.sum:=by rw[←Kk,xH]
 exact⟨h1,by omega⟩
set_option maxRecDepth 100000 in
set_option maxHeartbeats 2000000 in
theorem UF(F:Fence)(n:Nat)(ED:F.fn 173)(jx:F.round=none)(l:List Int)(hlen:l.length<4611686018427387904)(hp:∀x∈l,0≤x)(hs:l.sum<4611686018427387904)(v:Value)(w:World)(h:jc l v w):
    CallsIn F n Tryz.prog 173 #[v] w fun e w'=>e= .returned (.int .i64 l.sum)∧w'=w:=by
 refine callsIn_of_wp Tryz.func173 rfl ED ?_ jx;simp only[Tryz.ntmps173,qG,dZ,fW,vV,xN,xO,xP,xQ,xR,jm,jN];have t3:=Tryz.underlying3;have a3:=Tryz.isAgg3;have z3:=Tryz.sizeOf3;have v3:=Tryz.zeroValue3;have t4:=Tryz.underlying4;have a4:=Tryz.isAgg4;have z4:=Tryz.sizeOf4;have v4:=Tryz.zeroValue4;have t28:=Tryz.underlying28;have pK:=Tryz.isAgg28;have Bu:=Tryz.sizeOf28;have Bv:=Tryz.zeroValue28;have u3:=run_underlying Tryz.underlying3;have u4:=run_underlying Tryz.underlying4;have Bw:=run_underlying Tryz.underlying28;obtain⟨ad,cap,rfl,-,aq⟩:=h
 gi_wp2
 gi_loopw [3,5,8] (fun a _ i w'=>∃j:Nat,i= .int .i64 (j:Int)∧j≤l.length∧a= .int .i64 (l.take j).sum∧w'=w)
  (fun _ _ i _=>tH l.length i)
 case atStart=>exact⟨0,rfl,b9 _,rfl,rfl⟩
 case round=>
  obtain⟨j,rfl,hj,rfl,rfl⟩:=hrel;rcases iP j l.length with ah |kZ
  ·obtain⟨b,o,rfl,hc⟩:=aq (by intro e;subst e;simp at ah);obtain⟨x,rz⟩:∃x,l[j]? =some x:=⟨_,aA ah⟩;have hx:=hc j x rz;clear hc aq;have ai:(j:Int)<(l.length:Int):=by omega
   have ae:(0 :Int)≤(j:Int):=by omega
   have ht:(l.take (j+1)).sum=(l.take j).sum+x:=by
    rw[PH,rz];simp
   have h1:=EC hp j;have h2:=EC hp (j+1);have rT:=hp x (bS rz);rw[ht] at h2;have h3:(l.take j).sum+x<4611686018427387904:=by omega
   gi_wp2
   go_roundw
   case rel=>exact⟨j+1,by simp,ah,by rw[ht],trivial⟩
   case measure=>simp only[tH];omega
  ·have ai:¬(j:Int)<(l.length:Int):=by omega
   have EB:j=l.length:=by omega
   subst EB
   gi_wp2
   refine bodyPost_ret (results_tmp rfl _ _ _) rfl ?_;exact⟨rfl,rfl⟩
set_option maxRecDepth 100000 in
set_option maxHeartbeats 2000000 in
theorem afK(F:Fence)(n:Nat)(afL:F.fn 112)(ED:F.fn 173)(jx:F.round=none)(hn:1≤n)(l:List Int)(hlen:l.length<4611686018427387904)(hp:∀x∈l,0≤x)(hs:l.sum<4611686018427387904)(va fV:Value)(w:World)(h:jc l va w):
    CallsIn F n Tryz.prog 112 #[.agg #[va,fV]] w fun e w'=>e= .returned (.int .i64 l.sum)∧RowKit.Below w.heap.size w w':=by
 refine callsIn_of_wp Tryz.func112 rfl afL ?_ jx;simp only[Tryz.ntmps112,qG,dZ,fW,vV,xN,xO,xP,xQ,xR,jm,jN];have t3:=Tryz.underlying3;have a3:=Tryz.isAgg3;have z3:=Tryz.sizeOf3;have t28:=Tryz.underlying28;have pK:=Tryz.isAgg28;have Bu:=Tryz.sizeOf28;have t30:=Tryz.underlying30;have Bl:=Tryz.isAgg30;have IN:=Tryz.sizeOf30;have v3:=Tryz.zeroValue3;have Bv:=Tryz.zeroValue28;have u3:=run_underlying Tryz.underlying3;have Bw:=run_underlying Tryz.underlying28;have Bx:=run_underlying Tryz.underlying30;have mg:=fun w1 (hb:RowKit.Below w.heap.size w w1)=>UF F (n-1) ED jx l hlen hp hs va w1 (h.below hb);have hB:∀o,RowKit.Below w.heap.size w (w.alloc o):=fun o=>RowKit.Below.alloc (.refl _ _) (aV _) o
 gi_wp2_with (gi_at_call 173;refine(mg _ (hB _)).mono ?_;rintro e w' ⟨rfl,rfl⟩)
 refine bodyPost_ret (results_tmp rfl _ _ _) rfl ?_;exact⟨rfl,hB _⟩
set_option maxRecDepth 100000 in
set_option maxHeartbeats 2000000 in
theorem afM(F:Fence)(n:Nat)(afN:F.fn 238)(ED:F.fn 173)(jx:F.round=none)(hn:1≤n)(l:List Int)(hlen:l.length<4611686018427387904)(hp:∀x∈l,0≤x)(hs:l.sum<4611686018427387904)(s:Int)(lN:0≤s)(iL:s<(l.length:Int))(va fV:Value)(w:World)(h:jc l va w):
    CallsIn F n Tryz.prog 238 #[.agg #[va,fV],.int .i64 s] w fun e w'=>e= .returned (.int .i64 (l.take s.toNat).sum)∧RowKit.Below w.heap.size w w':=by
 refine callsIn_of_wp Tryz.func238 rfl afN ?_ jx;simp only[Tryz.ntmps238,qG,dZ,fW,vV,xN,xO,xP,xQ,xR,jm,jN];have t3:=Tryz.underlying3;have a3:=Tryz.isAgg3;have z3:=Tryz.sizeOf3;have t28:=Tryz.underlying28;have pK:=Tryz.isAgg28;have Bu:=Tryz.sizeOf28;have t30:=Tryz.underlying30;have Bl:=Tryz.isAgg30;have IN:=Tryz.sizeOf30;have v3:=Tryz.zeroValue3;have Bv:=Tryz.zeroValue28;have u3:=run_underlying Tryz.underlying3;have Bw:=run_underlying Tryz.underlying28;have Bx:=run_underlying Tryz.underlying30;have hB:∀o,RowKit.Below w.heap.size w (w.alloc o):=fun o=>RowKit.Below.alloc (.refl _ _) (aV _) o;obtain⟨ad,cap,rfl,dO,aq⟩:=h;have pw:l≠[]:=by intro e;subst e;simp at iL;omega
 obtain⟨b,o,rfl,hc⟩:=aq pw;have ao3:s≤(cap:Int):=by omega
 have hS:∀w1,RowKit.Below w.heap.size w w1→jc (l.take s.toNat) (.slice (some ⟨b,o,none⟩) s.toNat cap) w1:=fun w1 hb=>by
  refine⟨_,_,by rw[pb,ue (by omega)],by rw[pb];omega,fun _=>⟨b,o,rfl,fun j x hx=>?_⟩⟩;have dB:l[j]? =some x:=by
   rw[j7] at hx;split at hx
   ·exact hx
   ·cases hx
  have:=hc j x dB;rw[hb.cell (sL this)];exact this
 have nV:=EC hp s.toNat;have mg:=fun w1 (hb:RowKit.Below w.heap.size w w1)=>UF F (n-1) ED jx (l.take s.toNat) (by rw[pb];omega) (fun x hx=>hp x (j8 hx)) (by omega) _ w1 (hS w1 hb)
 gi_wp2_with (gi_at_call 173;refine(mg _ (hB _)).mono ?_;rintro e w' ⟨rfl,rfl⟩)
 refine bodyPost_ret (results_tmp rfl _ _ _) rfl ?_;exact⟨rfl,hB _⟩
set_option maxRecDepth 100000 in
set_option maxHeartbeats 2000000 in
theorem afO(F:Fence)(n:Nat)(afP:F.fn 178)(jx:F.round=none)(p:Int)(va fV:Value)(ad:Option Addr)(k cap:Nat)(w:World):
    CallsIn F n Tryz.prog 178 #[.agg #[va,fV],.int .i64 p,.slice ad k cap] w fun e w'=>∃c1 c2 c3,e= .returned (.func (.func 237) #[] #[.pointer (some ⟨c1,0,none⟩),.pointer (some ⟨c2,0,none⟩),.pointer (some ⟨c3,0,none⟩)])∧RowKit.Below w.heap.size w w'∧
     (w.heap.size≤c1∧w.heap.size≤c2∧w.heap.size≤c3)∧w'.cell? ⟨c1,0,none⟩=some (.slice ad k cap)∧w'.cell? ⟨c2,0,none⟩=some (.int .i64 p)∧w'.cell? ⟨c3,0,none⟩=some va∧w'.cell? ⟨c3,1,none⟩=some fV:=by
 refine callsIn_of_wp Tryz.func178 rfl afP ?_ jx;simp only[Tryz.ntmps178,qG,dZ,fW,vV,xN,xO,xP,xQ,xR,jm,jN];have t3:=Tryz.underlying3;have a3:=Tryz.isAgg3;have z3:=Tryz.sizeOf3;have t28:=Tryz.underlying28;have pK:=Tryz.isAgg28;have Bu:=Tryz.sizeOf28;have t30:=Tryz.underlying30;have Bl:=Tryz.isAgg30;have IN:=Tryz.sizeOf30;have t245:=Tryz.underlying245;have ao4:=Tryz.isAgg245;have ao5:=Tryz.sizeOf245;have t228:=Tryz.underlying228;have ao6:=Tryz.isAgg228;have ao7:=Tryz.sizeOf228;have v3:=Tryz.zeroValue3;have Bv:=Tryz.zeroValue28;have u3:=run_underlying Tryz.underlying3;have Bw:=run_underlying Tryz.underlying28;have Bx:=run_underlying Tryz.underlying30;have ao8:=run_underlying Tryz.underlying245;have ao9:=run_underlying Tryz.underlying228
 gi_wp2
 refine bodyPost_ret (results_tmp rfl _ _ _) rfl ?_;refine⟨_,_,_,rfl,RowKit.Below.alloc (RowKit.Below.alloc (RowKit.Below.alloc (.refl _ _) (aV _) _) (by simp) _) (by simp;omega) _,⟨by omega,by omega,by omega⟩,?_,?_,?_,?_⟩
 all_goals simp[go_sem]
structure il (fb:Nat→Prop) (A:World) (C:List (Nat×Nat×Value)) (O:List (Nat×Obj)):Prop where
 cells:∀x∈C,fb x.1∧A.cell? ⟨x.1,x.2.1,none⟩=some x.2.2
 iD:∀x∈O,fb x.1∧Obj.plainO x.2=true∧A.heap[x.1]? =some x.2
section
variable {fb : Nat → Prop} {A B : World} {C C' : List (Nat × Nat × Value)} {O O' : List (Nat × Obj)}
theorem il.nil:il fb A [] []:=⟨fun _ h=>(mG h).elim,fun _ h=>(mG h).elim⟩
theorem il.app(h:il fb A C O)(h':il fb A C' O'):il fb A (C'++C) (O'++O):=
 ⟨fun x hx=>(cW.1 hx).elim (h'.cells x) (h.cells x),fun x hx=>(cW.1 hx).elim (h'.iD x) (h.iD x)⟩
theorem il.sub(h:il fb A C O)(hc:∀x∈C',x∈C)(ho:∀x∈O',x∈O):il fb A C' O':=
 ⟨fun x hx=>h.cells x (hc x hx),fun x hx=>h.iD x (ho x hx)⟩
theorem il.zk{fb':Nat→Prop}(h:il fb A C O)(hf:∀b,fb b→fb' b):il fb' A C O:=
 ⟨fun x hx=>⟨hf _ (h.cells x hx).1,(h.cells x hx).2⟩,fun x hx=>⟨hf _ (h.iD x hx).1,(h.iD x hx).2⟩⟩
theorem il.below(h:il fb A C O)(hb:RowKit.Below A.heap.size A B):il fb B C O:=
 ⟨fun x hx=>⟨(h.cells x hx).1,by rw[hb.cell (sL (h.cells x hx).2)];exact(h.cells x hx).2⟩,
  fun x hx=>⟨(h.iD x hx).1,(h.iD x hx).2.1,by rw[hb.block x.1 (gz.1 (h.iD x hx).2.2).1];exact(h.iD x hx).2.2⟩⟩
theorem il.stands(h:il fb A C O)(hs:∀b,fb b→nO b A B):il fb B C O:=
 ⟨fun x hx=>⟨(h.cells x hx).1,by rw[(hs _ (h.cells x hx).1).1];exact(h.cells x hx).2⟩,
  fun x hx=>⟨(h.iD x hx).1,(h.iD x hx).2.1,(hs _ (h.iD x hx).1).2 _ (h.iD x hx).2.2 (h.iD x hx).2.1⟩⟩
theorem il.jv(h:il fb A C O){b:Nat}{o o':Obj}(hb:A.heap[b]? =some o)(ho:Obj.plainO o=true)(hn:∀x∈O,x.1≠b):il fb (A.putObj b o') C O:=by
 refine⟨fun x hx=>⟨(h.cells x hx).1,?_⟩,fun x hx=>⟨(h.iD x hx).1,(h.iD x hx).2.1,?_⟩⟩
 ·have q:=(h.cells x hx).2;have aq:x.1≠b:=fun e=>by
   rw[e] at q;simp only[World.cell?,hb] at q;cases o<;>first |(cases ho;done) |(simp at q)
  rw[yG (w:=A) (World.putObj_heap_other aq)];exact q
 ·rw[World.putObj_heap_other (hn x hx)];exact(h.iD x hx).2.2
end
theorem afQ(l:List Int)(hlen:l.length<4611686018427387904)(hp:∀x∈l,0≤x)(hs:l.sum<4611686018427387904)(s:Int)(lN:0≤s)(iL:s<(l.length:Int))(va fV:Value)(w:World)(h:jc l va w):
    Calls Tryz.prog 238 #[.agg #[va,fV],.int .i64 s] w fun e w'=>e= .returned (.int .i64 (l.take s.toNat).sum)∧RowKit.Below w.heap.size w w':=
 ri.1 (afM (wr none) 1 trivial trivial rfl (aV _) l hlen hp hs s lN iL va fV w h)
theorem afR(l:List Int)(hlen:l.length<4611686018427387904)(hp:∀x∈l,0≤x)(hs:l.sum<4611686018427387904)(va fV:Value)(w:World)(h:jc l va w):
    Calls Tryz.prog 112 #[.agg #[va,fV]] w fun e w'=>e= .returned (.int .i64 l.sum)∧RowKit.Below w.heap.size w w':=
 ri.1 (afK (wr none) 1 trivial trivial rfl (aV _) l hlen hp hs va fV w h)
theorem afS(p:Int)(va fV:Value)(ad:Option Addr)(k cap:Nat)(w:World):
    Calls Tryz.prog 178 #[.agg #[va,fV],.int .i64 p,.slice ad k cap] w fun e w'=>∃c1 c2 c3,e= .returned (.func (.func 237) #[] #[.pointer (some ⟨c1,0,none⟩),.pointer (some ⟨c2,0,none⟩),.pointer (some ⟨c3,0,none⟩)])∧RowKit.Below w.heap.size w w'∧
     (w.heap.size≤c1∧w.heap.size≤c2∧w.heap.size≤c3)∧w'.cell? ⟨c1,0,none⟩=some (.slice ad k cap)∧w'.cell? ⟨c2,0,none⟩=some (.int .i64 p)∧w'.cell? ⟨c3,0,none⟩=some va∧w'.cell? ⟨c3,1,none⟩=some fV:=
 ri.1 (afO (wr none) 1 trivial rfl p va fV ad k cap w)
theorem EE{B:Nat}{a w:World}(h:RowKit.Below B a w):RowKit.Below B a w.drew:=⟨h.os,h.tape,h.output,h.size,h.block⟩
theorem Nq{c1 c2 c3 c4:Addr}{v1 v2 v3 v4:Value}{l:List Int}{va:Value}{W w w':World}
    (h:w.cell? c1=some v1∧w.cell? c2=some v2∧w.cell? c3=some v3∧w.cell? c4=some v4∧jc l va w∧RowKit.Below W.heap.size W w) (hb:RowKit.Below w.heap.size w w'):
    w'.cell? c1=some v1∧w'.cell? c2=some v2∧w'.cell? c3=some v3∧w'.cell? c4=some v4∧jc l va w'∧RowKit.Below W.heap.size W w':=by
 obtain⟨h1,h2,h3,h4,h5,h6⟩:=h;exact⟨by rw[hb.cell (sL h1)];exact h1,by rw[hb.cell (sL h2)];exact h2,by rw[hb.cell (sL h3)];exact h3,by rw[hb.cell (sL h4)];exact h4,h5.below hb,h6.trans (hb.mono h6.size)⟩
theorem jc.tail{s:Int}{r:List Int}{sb so cap:Nat}{A:World}{vy:Option Addr}(h:jc (s::r) (.slice (some ⟨sb,so,none⟩) (s::r).length cap) A)(IP:(if cap=1 then some (⟨sb,so,none⟩:Addr) else some ⟨sb,so+1,none⟩)=vy):jc r (.slice vy r.length (cap-1)) A:=by
 obtain⟨ad,cp,heq,hcp,aq⟩:=h;cases heq;simp only[dZ] at hcp;refine⟨_,_,rfl,by omega,fun hr=>?_⟩;have h1:cap≠1:=fun e=>hr (tY (by omega));rw[if_neg h1] at IP;obtain⟨b,o,heq,hc⟩:=aq (by simp);cases heq;refine⟨sb,so+1,IP.symm,fun j x hx=>?_⟩;have:=hc (j+1) x (by simpa using hx);rw[show so+1+j=so+(j+1) by omega];exact this
theorem EF{b:Nat}{A B C:World}(h:nO b A B)(k:nO b B C):nO b A C:=
 ⟨fun o=>(k.1 o).trans (h.1 o),fun o h1 h2=>k.2 o (h.2 o h1 h2) h2⟩
theorem Nr{b l:Nat}{A:World}{o:Obj}(h:b≠l):nO b A (A.putObj l o):=
 ⟨fun _=>yG (World.putObj_heap_other h) _,fun _ h1 _=>(World.putObj_heap_other h).trans h1⟩
def UG(p1 p2 p3:Nat×Nat)(ss:List Int)(p:Int)(ats:List Int)(vs va fV:Value)(w:World):Prop:=
 w.cell? ⟨p1.1,p1.2,none⟩=some vs∧w.cell? ⟨p2.1,p2.2,none⟩=some (.int .i64 p)∧w.cell? ⟨p3.1,p3.2,none⟩=some va∧w.cell? ⟨p3.1,p3.2+1,none⟩=some fV∧jc ss vs w∧jc ats va w
def IQ(t0 t1 t2 t3 t4 t5 t6:Value)(U:Nat→Value):Array Value:=#[t0,t1,t2,t3,t4,t5,t6,U 7,U 8,U 9,U 10,U 11,U 12,U 13,U 14,U 15,U 16,U 17,U 18,U 19,U 20,U 21,U 22,U 23,U 24,U 25,U 26,U 27,U 28,U 29,U 30,U 31,U 32,U 33,U 34,U 35,U 36,U 37,U 38,U 39,U 40,U 41,U 42,U 43,U 44,U 45,U 46,U 47]
theorem afU(t0 t1 t2 t3 t4 t5 t6:Value)(U:Nat→Value):IQ t0 t1 t2 t3 t4 t5 t6 U= #[t0,t1,t2,t3,t4,t5,t6,U 7,U 8,U 9,U 10,U 11,U 12,U 13,U 14,U 15,U 16,U 17,U 18,U 19,U 20,U 21,U 22,U 23,U 24,U 25,U 26,U 27,U 28,U 29,U 30,U 31,U 32,U 33,U 34,U 35,U 36,U 37,U 38,U 39,U 40,U 41,U 42,U 43,U 44,U 45,U 46,U 47]:=rfl
theorem UH{arr:Array Value}{ds:List Deferred}(h:arr.size=48):({tmps:=arr,defers:=ds}:Act)={tmps:=IQ (arr.getD 0 undef) (arr.getD 1 undef) (arr.getD 2 undef) (arr.getD 3 undef) (arr.getD 4 undef) (arr.getD 5 undef) (arr.getD 6 undef) (fun i=>arr.getD i undef),defers:=ds}:=by
 have e:arr=IQ (arr.getD 0 undef) (arr.getD 1 undef) (arr.getD 2 undef) (arr.getD 3 undef) (arr.getD 4 undef) (arr.getD 5 undef) (arr.getD 6 undef) (fun i=>arr.getD i undef):=by
  apply PA
  ·rw[h];rfl
  ·intro i h1 h2;have hi:i<48:=by omega
   have hg:arr[i]=arr.getD i undef:=by simp[Array.getD,h1]
   rw[hg]
   match i,hi with
   | 0,_=>rfl
   | 1,_=>rfl
   | 2,_=>rfl
   | 3,_=>rfl
   | 4,_=>rfl
   | 5,_=>rfl
   | 6,_=>rfl
   | 7,_=>rfl
   | 8,_=>rfl
   | 9,_=>rfl
   | 10,_=>rfl
   | 11,_=>rfl
   | 12,_=>rfl
   | 13,_=>rfl
   | 14,_=>rfl
   | 15,_=>rfl
   | 16,_=>rfl
   | 17,_=>rfl
   | 18,_=>rfl
   | 19,_=>rfl
   | 20,_=>rfl
   | 21,_=>rfl
   | 22,_=>rfl
   | 23,_=>rfl
   | 24,_=>rfl
   | 25,_=>rfl
   | 26,_=>rfl
   | 27,_=>rfl
   | 28,_=>rfl
   | 29,_=>rfl
   | 30,_=>rfl
   | 31,_=>rfl
   | 32,_=>rfl
   | 33,_=>rfl
   | 34,_=>rfl
   | 35,_=>rfl
   | 36,_=>rfl
   | 37,_=>rfl
   | 38,_=>rfl
   | 39,_=>rfl
   | 40,_=>rfl
   | 41,_=>rfl
   | 42,_=>rfl
   | 43,_=>rfl
   | 44,_=>rfl
   | 45,_=>rfl
   | 46,_=>rfl
   | 47,_=>rfl
   |n+48,hi=>exact absurd hi (by omega)
 exact congrArg (fun t=>({tmps:=t,defers:=ds}:Act)) e
theorem afV{P:Program}{c:Code}{Q:Exit→Act→World→Prop}{a:Act}{w:World}(h:∀Q':Exit→Act→World→Prop,(∀e a w,Q e a w→Q' e a w∨False)→c.wp P Q' a w):c.wp P Q a w:=h Q fun _ _ _ q=>.inl q
theorem afW{P:Program}{ro:Option Nat}{fid:Nat}{c:Code}{Q:Exit→Act→World→Prop}{Rel:Nat→Act→World→Prop}
    (h:∀i a w,Rel i a w→gl ro fid P c (Exit.then (fun a w=>∃i',i=i'+1∧Rel i' a w) Q) a w) {m:Nat} {a:Act} {w:World} (h0:Rel m a w):gl ro fid P (.loop c) Q a w:=by
 refine Sj (m+1) fun R _ hs=>?_;have key:∀i a w,Rel i a w→R (i+1) a w:=by
  intro i
  induction i with
  |zero=>
   intro a w hr;refine hs 0 a w (yE (h 0 a w hr) fun e a w q=>?_);cases e with
   |normal=>obtain⟨i',e,_⟩:=q;omega
   |_=>exact q
  |succ i ih=>
   intro a w hr;refine hs (i+1) a w (yE (h (i+1) a w hr) fun e a w q=>?_);cases e with
   |normal=>
    obtain⟨i',e,q⟩:=q;have :i=i':=by omega
    subst this;exact ih a w q
   |_=>exact q
 exact key m a w h0
theorem afX{P:Program}{fid:Nat}{g:Operand}{ps:Array Tmp}{ft body:Code}{Q:Exit→Act→World→Prop}{a:Act}{w:World}{gf:Nat}{la lb:Array Value}(hg:a.eval g= .func (.func gf) la lb)(rW:Vs.Enters P gf)
    (h:∀rec:Loop,rec={state:=.ready,pending:=none,fn:=fid,tmps:=a.tmps,params:=ps,assign:=ft,body,defers:=w.heap.size}→
     Calls P gf (la++ #[.func (.yield (w.heap.size+1)) #[] #[]]++lb) ((w.alloc (.deferred (some []))).alloc (.loop rec)) fun e B=>match e with
     | .returned _=>∃jump w4,(Instr.endLoop (w.heap.size+1)).run P B= .ok jump w4∧(match jump with
      |none=>Q .normal {a with defers:=Vs.mark w.heap.size::a.defers} w4
      |some c=>gl none fid P c Q {a with defers:=Vs.mark w.heap.size::a.defers} w4)
     | .panicked ch=>Q (.panic ch) {a with defers:=Vs.mark w.heap.size::a.defers} B
     | .outgrown=>False):gl none fid P (.rangeFunc g ps ft body) Q a w:=Sq hg rW (h _ rfl)
theorem afY{ro:Option Nat}{n:Nat}{P:Program}{l:Nat}{f:FuncId}{tmps:Array Value}{assign body:Code}{w:World}{R:Ending→World→Prop}(h:RoundIn (wr none) n P l f tmps assign body w R):RoundIn (wr ro) n P l f tmps assign body w R:=h
theorem Ns{P:Program}{fn:Func}{tmps:Array Value}{R:Ending→World→Prop}{u:FrameMode}{K:World→Prop}(hu:u≠.run)(hK:∀w,K w→Leaves P fn tmps R [] u w):
    ∀(ms:List Nat) (w:World),K w→ms.Nodup→(∀m∈ms,w.heap[m]? =some (.deferred (some [])))→(∀w m,m∈ms→K w→w.heap[m]? =some (.deferred (some []))→K (w.putObj m (.deferred none)))→pJ P fn tmps R (ms.map Vs.mark) u w
 |[],w,h,_,_,_=>A3 (hK w h)
 |m::ms,w,h,hn,hm,hT=>by
  obtain⟨h1,h2⟩:=vS.1 hn;have g2:=hm m (by simp);refine .inl ⟨hu,m,w.putObj m (.deferred none),rfl,run_takeDeferred g2,?_⟩;refine Ns hu hK ms _ (hT w m (by simp) h g2) h2 (fun k hk=>?_) fun w k hk=>hT w k (by simp[hk]);exact(World.putObj_heap_other (fun e=>h1 (by rw[←e];exact hk))).trans (hm k (by simp[hk]))
set_option maxRecDepth 100000 in
set_option maxHeartbeats 4000000 in
theorem UI(ats:List Int)(ij:∀x∈ats,0≤x)(nV:ats.sum<4611686018427387904)(hlen:ats.length<4611686018427387904):∀(ss:List Int),ss.length<4611686018427387904→(∀s∈ss,0≤s∧s<(ats.length:Int))→
    ∀(p:Int) (lp:Nat) (p1 p2 p3:Nat×Nat) (vs va fV:Value) (J:Nat→(Nat→Prop)→World→Prop) (X:Ending→World→Prop) (w0:World),
     (∀k fb A,J k fb A→UG p1 p2 p3 ss p ats vs va fV A)→
     (∀k fb A B,J k fb A→RowKit.Below A.heap.size A B→J k (fun b=>fb b∨(A.heap.size≤b∧b<B.heap.size)) B)→
     (∀k fb A b o o',J k fb A→fb b→A.heap[b]? =some o→Obj.plainO o=true→J k fb (A.putObj b o'))→(∀e A B,X e A→RowKit.Below A.heap.size A B→X e B)→
     (∀e A b o o',X e A→w0.heap.size≤b→A.heap[b]? =some o→Obj.plainO o=true→X e (A.putObj b o'))→
     (∀k fb x A,(eW ats ss p)[k]? =some x→J k fb A→YieldAt (wr none) 0 Tryz.prog lp #[.int .i64 x] A fun e B=>(A.heap.size≤B.heap.size∧∀b,fb b→nO b A B)∧((e= .returned (.bool true)∧J (k+1) fb B)∨(e= .returned (.bool false)∧X e B)∨∃ch,e= .panicked ch∧X e B))→
     J 0 (fun _=>False) w0→
     Calls Tryz.prog 237 #[.func (.yield lp) #[] #[],.pointer (some ⟨p1.1,p1.2,none⟩),.pointer (some ⟨p2.1,p2.2,none⟩),.pointer (some ⟨p3.1,p3.2,none⟩)] w0 fun e B=>((∃v,e= .returned v)∧((∃fb,J (eW ats ss p).length fb B)∨X (.returned (.bool false)) B))∨∃ch,e= .panicked ch∧X e B
 |[],_,_,p,lp,p1,p2,p3,vs,va,fV,J,X,w0,hK,hJ,hT,hX,sK,hY,h0=>by
  have hc:CallsIn (wr none) 1 Tryz.prog 237 #[.func (.yield lp) #[] #[],.pointer (some ⟨p1.1,p1.2,none⟩),.pointer (some ⟨p2.1,p2.2,none⟩),.pointer (some ⟨p3.1,p3.2,none⟩)] w0 fun e B=>((∃v,e= .returned v)∧((∃fb,J (eW ats [] p).length fb B)∨X (.returned (.bool false)) B))∨∃ch,e= .panicked ch∧X e B:=by
   refine callsIn_of_wp Tryz.func237 rfl trivial ?_ rfl;simp only[Tryz.ntmps237,qG,dZ,fW,vV,xN,xO,xP,xQ,xR,jm,jN];have t3:=Tryz.underlying3;have a3:=Tryz.isAgg3;have z3:=Tryz.sizeOf3;have t4:=Tryz.underlying4;have a4:=Tryz.isAgg4;have z4:=Tryz.sizeOf4;have t28:=Tryz.underlying28;have pK:=Tryz.isAgg28;have Bu:=Tryz.sizeOf28;have t30:=Tryz.underlying30;have Bl:=Tryz.isAgg30;have IN:=Tryz.sizeOf30;have t135:=Tryz.underlying135;have Is:=Tryz.isAgg135;have Uu:=Tryz.sizeOf135;have v3:=Tryz.zeroValue3;have v4:=Tryz.zeroValue4;have Bv:=Tryz.zeroValue28;have Uv:=Tryz.zeroValue135;have u3:=run_underlying Tryz.underlying3;have u4:=run_underlying Tryz.underlying4;have Bw:=run_underlying Tryz.underlying28;have Bx:=run_underlying Tryz.underlying30;have Uw:=run_underlying Tryz.underlying135;have jx:(wr none).round=none:=rfl;have uY:RowKit.Below w0.heap.size w0 (w0.alloc (Obj.cells #[Value.func (.yield lp) #[] #[]] 135)):=RowKit.Below.alloc (.refl _ _) (aV _) _;have BC:=hJ _ _ _ _ h0 uY;have hce:(w0.alloc (Obj.cells #[Value.func (.yield lp) #[] #[]] 135)).cell? ⟨w0.heap.size,0,none⟩=some (.func (.yield lp) #[] #[]):=by simp[go_sem]
   obtain⟨q1,q2,q3,q4,⟨ad,cap,rfl,dO,aq⟩,q6⟩:=hK _ _ _ BC;clear aq q6 q3 q4;obtain⟨fn,tmps,assign,body,hy,hR⟩:=hY 0 _ p _ rfl BC
   gi_wp2
   refine hR.mono ?_;rintro e W3 ⟨-,(⟨rfl,rA⟩ |⟨rfl,pL⟩ |⟨ch,rfl,pL⟩)⟩
   ·gi_wp2
    refine bodyPost_ret (results_none rfl _ _ _) rfl ?_;exact .inl ⟨⟨_,rfl⟩,.inl ⟨_,rA⟩⟩
   ·gi_wp2
    refine bodyPost_ret (results_none rfl _ _ _) rfl ?_;exact .inl ⟨⟨_,rfl⟩,.inr pL⟩
   ·gi_wp2
    first
     |exact⟨rfl,Or.inr ⟨ch,rfl,pL⟩⟩
     |exact⟨rfl,Or.inr ⟨⟨ch,rfl⟩,pL⟩⟩
  exact ri.1 hc
 |s::r,dk,ni,p,lp,p1,p2,p3,vs,va,fV,J,X,w0,hK,hJ,hT,hX,sK,hY,h0=>by
  have IH:=UI ats ij nV hlen r (by simp at dk;omega) (fun s hs=>ni s (by simp[hs]));obtain⟨lN,iL⟩:=ni s (by simp);refine ML Tryz.func237 rfl ?_;simp only[Tryz.ntmps237,qG,dZ,fW,vV,xN,xO,xP,xQ,xR,jm,jN];have t3:=Tryz.underlying3;have a3:=Tryz.isAgg3;have z3:=Tryz.sizeOf3;have t4:=Tryz.underlying4;have a4:=Tryz.isAgg4;have z4:=Tryz.sizeOf4;have t28:=Tryz.underlying28;have pK:=Tryz.isAgg28;have Bu:=Tryz.sizeOf28;have t30:=Tryz.underlying30;have Bl:=Tryz.isAgg30;have IN:=Tryz.sizeOf30;have t135:=Tryz.underlying135;have Is:=Tryz.isAgg135;have Uu:=Tryz.sizeOf135;have v3:=Tryz.zeroValue3;have v4:=Tryz.zeroValue4;have Bv:=Tryz.zeroValue28;have Uv:=Tryz.zeroValue135;have u3:=run_underlying Tryz.underlying3;have u4:=run_underlying Tryz.underlying4;have Bw:=run_underlying Tryz.underlying28;have Bx:=run_underlying Tryz.underlying30;have Uw:=run_underlying Tryz.underlying135;have uY:RowKit.Below w0.heap.size w0 (w0.alloc (Obj.cells #[Value.func (.yield lp) #[] #[]] 135)):=RowKit.Below.alloc (.refl _ _) (aV _) _;have BC:=hJ _ _ _ _ h0 uY;have hce:(w0.alloc (Obj.cells #[Value.func (.yield lp) #[] #[]] 135)).cell? ⟨w0.heap.size,0,none⟩=some (.func (.yield lp) #[] #[]):=by simp[go_sem]
  generalize hQ:ve Tryz.prog Tryz.f237 (fun e B=>((∃v,e=Ending.returned v)∧((∃fb,J (eW ats (s::r) p).length fb B)∨X (Ending.returned (Value.bool false)) B))∨∃ch,e=Ending.panicked ch∧X e B)=Q;refine tC (vd ?_)
  go_wp2
  have afZ:w0.heap.size<(w0.alloc (Obj.cells #[Value.func (.yield lp) #[] #[]] 135)).heap.size:=by simp
  have UJ:il (fun b=>False∨(w0.heap.size≤b∧b<(w0.alloc (Obj.cells #[Value.func (.yield lp) #[] #[]] 135)).heap.size)) (w0.alloc (Obj.cells #[Value.func (.yield lp) #[] #[]] 135)) [(w0.heap.size,0,.func (.yield lp) #[] #[])] []:=
   ⟨fun x hx=>by rw[mH] at hx;subst hx;exact⟨.inr ⟨aV _,afZ⟩,hce⟩,fun x hx=>(mG hx).elim⟩
  have af0:=uY.size;generalize w0.alloc (Obj.cells #[Value.func (.yield lp) #[] #[]] 135)=W1 at *;generalize (fun b=>False∨(w0.heap.size≤b∧b<W1.heap.size))=UK at *;obtain⟨q1,q2,q3,q4,q5,q6⟩:=hK _ _ _ BC;obtain⟨ad,cap,rfl,dO,aq⟩:=q5;obtain⟨sb,so,rfl,hsc⟩:=aq (by simp);have hs:=hsc 0 s rfl;rw[oe] at hs;have ym:(0 :Int)<((s::r).length:Int):=by simp
  clear hsc aq;refine tC (vd ?_)
  go_wp2
  have UL:RowKit.Below W1.heap.size W1 W1:=.refl _ _;refine tC (vd ?_)
  go_region_held3 (fun w'=>w'.cell? ⟨p1.1,p1.2,none⟩=some (.slice (some ⟨sb,so,none⟩) (s::r).length cap)∧w'.cell? ⟨p3.1,p3.2,none⟩=some va∧w'.cell? ⟨p3.1,p3.2+1,none⟩=some fV∧w'.cell? ⟨sb,so,none⟩=some (.int .i64 s)∧jc ats va w'∧RowKit.Below W1.heap.size W1 w')
   (first
    |exact⟨q1,q3,q4,hs,q6,EE (.refl _ _)⟩
    |(refine Nq ⟨q1,q3,q4,hs,q6,UL⟩ (RowKit.Below.trans (EE (.refl _ W1)) ?_);assumption))
   ((go_at_call 238;refine(afQ ats hlen ij nV s lN iL va fV _ (by assumption)).mono ?_;rintro e w2 ⟨rfl,aC⟩))
  have IU:RowKit.Below W1.heap.size W1 w2:=(EE (.refl _ W1)).trans aC;have vw:=hJ _ _ _ _ BC IU;have DK:=(UJ.below IU).zk (fb':=fun b=>UK b∨(W1.heap.size≤b∧b<w2.heap.size)) fun b h=>.inl h;have af1:w0.heap.size≤w2.heap.size:=gA af0 IU.size;generalize (fun b=>UK b∨(W1.heap.size≤b∧b<w2.heap.size))=Bz at vw DK;rename_i Nt;clear Nt aC IU UL hs q1 q2 q3 q4 q6 UJ BC hce uY;refine tC (vd ?_)
  go_wp2
  refine yF ?_;obtain⟨x,hx⟩:∃x,ats[s.toNat]? =some x:=⟨_,aA (by omega)⟩;have rT:0≤x:=ij x (bS hx);have hgx:ats.getD s.toNat 0=x:=by simp[Kf,hx]
  obtain⟨f,hf⟩:∃f,(rI s.toNat ats).sum=f:=⟨_,rfl⟩;have zp:0≤f∧f+x<4611686018427387904:=by
   have h1:=EC ij s.toNat;have h2:=EC ij (s.toNat+1);rw[PH,hx] at h2;simp only[Kk,Option.toList_some,CS,List.sum_nil] at h2;omega
  obtain⟨L,hL⟩:∃L,eW ats (s::r) p=L:=⟨_,rfl⟩;have hLe:(ku x.toNat).flatMap (fun(j:Nat)=>eW ats r (IntKind.i64.wrap (IntKind.i64.wrap (p*ats.sum)+(f+(j:Int)))))=L:=by
   rw[←hL,eW,hgx,hf]
  rw[hL] at hQ hY;have UM:∀(tm:Array Value) (w:World),((∃fb,J L.length fb w)∨X (.returned (.bool false)) w)→Leaves Tryz.prog Tryz.f237 tm (fun e B=>((∃v,e=Ending.returned v)∧((∃fb,J L.length fb B)∨X (Ending.returned (Value.bool false)) B))∨∃ch,e=Ending.panicked ch∧X e B) [] .returning w:=fun tm w hw=>by
   show ∃v,(results Tryz.f237 tm).run Tryz.prog w= .ok v w∧_;exact⟨_,results_none rfl _ _ _,.inl ⟨⟨_,rfl⟩,hw⟩⟩
  have UN:∀ch (tm:Array Value) (w:World),X (.panicked ch) w→Leaves Tryz.prog Tryz.f237 tm (fun e B=>((∃v,e=Ending.returned v)∧((∃fb,J L.length fb B)∨X (Ending.returned (Value.bool false)) B))∨∃ch,e=Ending.panicked ch∧X e B) [] (.panicking ch) w:=fun ch tm w hw=>by
   show _∨_;exact .inr ⟨ch,rfl,hw⟩
  have Nu:∀(e:Exit),(e= .normal∨e= .ret)→∀(tm:Array Value) (ms:List Nat) (A:World),ms.Nodup→(∀m∈ms,w0.heap.size≤m∧A.heap[m]? =some (.deferred (some [])))→((∃fb,J L.length fb A∧∀m∈ms,fb m)∨X (.returned (.bool false)) A)→Q e {tmps:=tm,defers:=ms.map Vs.mark} A:=by
   intro e he tm ms A gj kY Nv;rw[←hQ];have key:pJ Tryz.prog Tryz.f237 tm (fun e B=>((∃v,e=Ending.returned v)∧((∃fb,J L.length fb B)∨X (Ending.returned (Value.bool false)) B))∨∃ch,e=Ending.panicked ch∧X e B) (ms.map Vs.mark) .returning A:=by
    refine Ns (K:=fun w=>(∃fb,J L.length fb w∧∀m∈ms,fb m)∨X (.returned (.bool false)) w) (by simp) (fun w hw=>UM tm w (hw.imp (fun⟨fb,h,_⟩=>⟨fb,h⟩) id)) ms A Nv gj (fun m hm=>(kY m hm).2) fun w m hm hw hh=>?_;rcases hw with⟨fb,h1,h2⟩ |h1
    ·exact .inl ⟨fb,hT _ _ _ _ _ _ h1 (h2 m hm) hh rfl,h2⟩
    ·exact .inr (sK _ _ _ _ _ h1 (kY m hm).1 hh rfl)
   rcases he with rfl |rfl
   ·exact key
   ·exact key
  have UO:∀ch (tm:Array Value) (ms:List Nat) (A:World),ms.Nodup→(∀m∈ms,w0.heap.size≤m∧A.heap[m]? =some (.deferred (some [])))→X (.panicked ch) A→Q (.panic ch) {tmps:=tm,defers:=ms.map Vs.mark} A:=by
   intro ch tm ms A gj kY Nv;rw[←hQ];show pJ Tryz.prog Tryz.f237 tm _ (ms.map Vs.mark) (.panicking ch) A;exact Ns (K:=fun w=>X (.panicked ch) w) (by simp) (fun w hw=>UN ch tm w hw) ms A Nv gj (fun m hm=>(kY m hm).2) fun w m hm hw hh=>sK _ _ _ _ _ hw (kY m hm).1 hh rfl
  rw[hf];refine afW (Rel:=fun i a A=>∃(j k:Nat) (fb:Nat→Prop) (ms:List Nat) (U:Nat→Value),i+j=x.toNat∧
      a={tmps:=IQ (.func (.yield lp) #[] #[]) (.pointer (some ⟨p1.1,p1.2,none⟩)) (.pointer (some ⟨p2.1,p2.2,none⟩)) (.pointer (some ⟨p3.1,p3.2,none⟩)) (.pointer (some ⟨w0.heap.size,0,none⟩)) (.int .i64 f) (.int .i64 (f+(j:Int))) U,defers:=ms.map Vs.mark}∧
      ((ku x.toNat).drop j).flatMap (fun(j:Nat)=>eW ats r (IntKind.i64.wrap (IntKind.i64.wrap (p*ats.sum)+(f+(j:Int)))))=L.drop k∧k≤L.length∧J k fb A∧il fb A [(w0.heap.size,0,.func (.yield lp) #[] #[])] (ms.map fun m=>(m,.deferred (some [])))∧ms.Nodup∧(∀m∈ms,w0.heap.size≤m)∧w0.heap.size≤A.heap.size) (m:=x.toNat) ?_ ?_
  ·rintro i a A ⟨j,k,fb,ms,U,cQ,rfl,hk,Eu,nh,IV,gj,A6,EG⟩;rw[afU];obtain⟨q1,q2,q3,q4,q5,q6⟩:=hK k fb A nh;obtain⟨ada,BD,rfl,apb,UP⟩:=q6;obtain⟨ab,ao,rfl,BA⟩:=UP (by intro e;subst e;simp at hx);have hxc:=BA _ _ hx;obtain⟨ad5,apd,heq,-,UQ⟩:=q5;cases heq;obtain⟨b5,o5,heq,hsc⟩:=UQ (by simp);cases heq;have hs:=hsc 0 s rfl;rw[oe] at hs;clear hsc UQ UP BA;refine tC (vd ?_);rcases iP j x.toNat with ah |kZ
   ·have ml:(j:Int)<x:=by omega
    have kI:f+(j:Int)<f+x:=by omega
    have DW:f+x<4611686018427387904:=zp.2;have hl4:0≤f:=zp.1;have rP:IntKind.i64.wrap (f+x)=f+x:=IntWalk.i64_in _ (by omega)
    go_wp2
    go_quiet (fail)
    clear rP
    go_wp2
    have rA:=hJ _ _ _ _ nh (below_drewN (.refl _ A) nq);have Nw:=(IV.below (below_drewN (.refl _ A) nq)).zk (fb':=fun b=>fb b∨(A.heap.size≤b∧b<(A.drewN nq).heap.size)) fun b h=>.inl h;have hA1:w0.heap.size≤(A.drewN nq).heap.size:=EG;generalize (fun b=>fb b∨(A.heap.size≤b∧b<(A.drewN nq).heap.size))=Ey at rA Nw;generalize A.drewN nq=A1 at *;clear q1 q2 q3 q4 hs hxc nh IV;obtain⟨q1,q2,q3,q4,q5,q6⟩:=hK k Ey A1 rA;have af7:(r.length:Int)+1≤(cap:Int):=by simp at dO;omega
    have af8:(1 :Int)≤(r.length:Int)+1:=by omega
    have af9:(0 :Int)≤(r.length:Int)+1:=by omega
    have aga:(1 :Int)≤(cap:Int):=by omega
    obtain⟨vy,IP⟩:∃vy,(if cap=1 then some (⟨sb,so,none⟩:Addr) else some ⟨sb,so+1,none⟩)=vy:=⟨_,rfl⟩;refine tC (yF (tC (vd ?_)))
    go_region_held3 (fun w'=>w'.cell? ⟨p1.1,p1.2,none⟩=some (.slice (some ⟨sb,so,none⟩) (s::r).length cap)∧w'.cell? ⟨p3.1,p3.2,none⟩=some (.slice (some ⟨ab,ao,none⟩) ats.length BD)∧w'.cell? ⟨p3.1,p3.2+1,none⟩=some fV∧w'.cell? ⟨p2.1,p2.2,none⟩=some (.int .i64 p)∧jc ats (.slice (some ⟨ab,ao,none⟩) ats.length BD) w'∧RowKit.Below A1.heap.size A1 w')
     (first
      |exact⟨q1,q3,q4,q2,q6,EE (.refl _ _)⟩
      |(refine Nq ⟨q1,q3,q4,q2,q6,.refl _ _⟩ (RowKit.Below.trans (EE (.refl _ A1)) ?_);assumption)
      |(refine Nq (by assumption) ?_;assumption))
     ((first
      |(go_at_call 112;refine(afR ats hlen ij nV _ fV _ (by assumption)).mono ?_;rintro e w3 ⟨rfl,dW⟩)
      |(go_at_call 178;refine(afS _ _ fV _ _ _ _).mono ?_;rintro e w4 ⟨c1,c2,c3,rfl,Nx,hc4,g1,g2,g3,g4⟩)))
    rename_i Nt;obtain⟨-,-,-,-,-,IW⟩:=Nt;clear af7 af8 af9 aga ml kI DW hl4 q1 q2 q3 q4;obtain⟨p',xZ⟩:∃p',IntKind.i64.wrap (IntKind.i64.wrap (p*ats.sum)+(f+(j:Int)))=p':=⟨_,rfl⟩;rw[xZ] at g2⊢;have EH:A1.heap.size≤c1∧A1.heap.size≤c2∧A1.heap.size≤c3:=by
     have:=dW.size;have e:A1.drew.heap.size=A1.heap.size:=rfl;omega
    have Ez:=hJ _ _ _ _ rA IW;have BE:=(Nw.below IW).zk (fb':=fun b=>Ey b∨(A1.heap.size≤b∧b<w4.heap.size)) fun b h=>.inl h;have UR:il (fun b=>Ey b∨(A1.heap.size≤b∧b<w4.heap.size)) w4 [(c1,0,Value.slice vy r.length (cap-1)),(c2,0,.int .i64 p'),(c3,0,Value.slice (some ⟨ab,ao,none⟩) ats.length BD),(c3,1,fV)] []:=by
     refine⟨fun x hx=>?_,fun x hx=>(mG hx).elim⟩;simp only[cN,mG,or_false] at hx;rcases hx with rfl |rfl |rfl |rfl
     ·exact⟨.inr ⟨EH.1,sL g1⟩,g1⟩
     ·exact⟨.inr ⟨EH.2.1,sL g2⟩,g2⟩
     ·exact⟨.inr ⟨EH.2.2,sL g3⟩,g3⟩
     ·exact⟨.inr ⟨EH.2.2,sL g4⟩,g4⟩
    have BE:=BE.app UR;have US:w0.heap.size≤w4.heap.size:=gA hA1 IW.size;generalize (fun b=>Ey b∨(A1.heap.size≤b∧b<w4.heap.size))=Ny at Ez BE;clear UR Nw rA dW Nx IW hc4 EH g1 g2 g3 g4 q5 q6;refine yF (afX rfl ⟨Tryz.f237,Tryz.func237,by kernel_rfl,by kernel_rfl⟩ fun rec jZ=>?_);obtain⟨W5,BF⟩:∃W5,(w4.alloc (.deferred (some []))).alloc (.loop rec)=W5:=⟨_,rfl⟩;have UT:W5.heap[w4.heap.size+1]? =some (.loop rec):=by
     rw[←BF];have:=World.alloc_heap_new (w4.alloc (.deferred (some []))) (.loop rec);rwa [World.size_alloc] at this
    have UU:W5.heap[w4.heap.size]? =some (.deferred (some [])):=by
     rw[←BF];exact(RowKit.Below.heap_alloc _ _ _ (by simp)).trans (World.alloc_heap_new w4 _)
    have Nz:RowKit.Below w4.heap.size w4 W5:=by
     rw[←BF];exact((RowKit.Below.refl _ w4).alloc (aV _) _).alloc (by simp) _
    have hs5:W5.heap.size=w4.heap.size+2:=by rw[←BF];simp
    rw[BF];clear BF;have EA:=hJ _ _ _ _ Ez Nz;have wX:=(BE.below Nz).zk (fb':=fun b=>Ny b∨(w4.heap.size≤b∧b<W5.heap.size)) fun b h=>.inl h;have NA:∀m∈ms,m<w4.heap.size:=fun m hm=>(gz.1 (BE.iD (m,.deferred (some [])) (by simp only[cW,dz];exact .inr ⟨m,hm,rfl⟩)).2.2).1;have UW:il (fun b=>Ny b∨(w4.heap.size≤b∧b<W5.heap.size)) W5 [] [(w4.heap.size+1,.loop rec),(w4.heap.size,.deferred (some []))]:=by
     refine⟨fun x hx=>(mG hx).elim,fun x hx=>?_⟩;simp only[cN,mG,or_false] at hx;rcases hx with rfl |rfl
     ·exact⟨.inr ⟨by omega,by omega⟩,rfl,UT⟩
     ·exact⟨.inr ⟨by omega,by omega⟩,rfl,UU⟩
    have wX:=wX.app UW;generalize (fun b=>Ny b∨(w4.heap.size≤b∧b<W5.heap.size))=fb5 at EA wX;clear UW BE Ez Nz UT UU;simp only[jm,jN] at wX;obtain⟨l,hl⟩:∃l,w4.heap.size+1=l:=⟨_,rfl⟩;obtain⟨mk,nS⟩:∃mk,w4.heap.size=mk:=⟨_,rfl⟩;rw[nS] at jZ NA US;rw[hl,nS] at wX⊢;have ke:mk+1=l:=by omega
    have hs5:W5.heap.size=mk+2:=by omega
    clear hl nS;obtain⟨C5,zq⟩:∃C5,[(c1,0,Value.slice vy r.length (cap-1)),(c2,0,.int .i64 p'),(c3,0,Value.slice (some ⟨ab,ao,none⟩) ats.length BD),(c3,1,fV),(w0.heap.size,0,.func (.yield lp) #[] #[])]=C5:=⟨_,rfl⟩;obtain⟨O5,NB⟩:∃O5:List (Nat×Obj),(mk,.deferred (some []))::ms.map (fun m=>(m,.deferred (some [])))=O5:=⟨_,rfl⟩;rw[zq,NB] at wX;have zt:∀x∈O5,x.1≠l∧x.1<W5.heap.size:=by
     intro x hx;rw[←NB] at hx;rcases cN.1 hx with rfl |hx
     ·exact⟨by show mk≠l;omega,by show mk<_;omega⟩
     ·obtain⟨m,hm,rfl⟩:=dz.1 hx;have:=NA m hm;exact⟨by show m≠l;omega,by show m<_;omega⟩
    obtain⟨L',NC⟩:∃L',eW ats r p'=L':=⟨_,rfl⟩;obtain⟨rest,oJ⟩:∃rest,((ku x.toNat).drop (j+1)).flatMap (fun(j:Nat)=>eW ats r (IntKind.i64.wrap (IntKind.i64.wrap (p*ats.sum)+(f+(j:Int)))))=rest:=⟨_,rfl⟩;have ND:L'++rest=L.drop k:=by
     have hd:(ku x.toNat).drop j=j::(ku x.toNat).drop (j+1):=by
      rw[FX (by simpa using ah)];simp
     rw[←hk,hd,ub,oJ,xZ,NC]
    have hLk:∀k' y,L'[k']? =some y→L[k+k']? =some y:=fun k' y hy=>by
     have h1:(L.drop k)[k']? =some y:=by
      rw[←ND,cH (az.1 hy).1];exact hy
     rwa [oZ] at h1
    have AE:=IH p' l (c1,0) (c2,0) (c3,0) (.slice vy r.length (cap-1)) (.slice (some ⟨ab,ao,none⟩) ats.length BD) fV
     (fun k' fb' A=>∃fb,J (k+k') fb A∧(∀b,fb' b→fb b∧W5.heap.size≤b)∧il fb A C5 ((l,.loop rec)::O5))
     (fun e B=>X e B∧il (fun _=>True) B [] O5∧l<B.heap.size∧∀v,e= .returned v→B.heap[l]? =some (.loop {rec with state:=.done,pending:=some .ret}))
     W5 ?_ ?_ ?_ ?_ ?_ ?_ ?_
    ·have NF:(mk::ms).Nodup:=vS.2 ⟨fun h=>by have:=NA mk h;omega,gj⟩;have NG:∀m∈mk::ms,w0.heap.size≤m:=fun m hm=>by
      rcases cN.1 hm with rfl |hm
      ·exact US
      ·exact A6 m hm
     have NH:∀m∈mk::ms,(m,Obj.deferred (some []))∈O5:=fun m hm=>by
      rw[←NB];rcases cN.1 hm with rfl |hm
      ·exact pa
      ·exact jD _ (dz.2 ⟨m,hm,rfl⟩)
     refine Calls.mono AE ?_;rintro e B (⟨⟨v,rfl⟩,⟨fb',fb,hj,lg,hm⟩ |⟨x1,x2,x3,x4⟩⟩ |⟨ch,rfl,x1,x2,x3,x4⟩)
     ·have IX:B.heap[l]? =some (.loop rec):=(hm.iD (l,.loop rec) (by simp)).2.2;have he:=run_endLoop (P:=Tryz.prog) IX (by rw[jZ];simp);have hpd:rec.pending=none:=by rw[jZ]
      rw[hpd] at he;have fQ:fb l:=(hm.iD (l,.loop rec) (by simp)).1;rw[NC] at hj;have UX:=hT _ _ _ l _ (.loop {rec with state:=.exhausted,pending:=none}) hj fQ IX rfl;have UY:il fb (B.putObj l (.loop {rec with state:=.exhausted,pending:=none})) C5 O5:=(hm.sub (C':=C5) (O':=O5) (fun _ h=>h) (fun _ h=>jD _ h)).jv IX rfl fun x hx=>(zt x hx).1;have ah:l<B.heap.size:=(gz.1 IX).1;have UZ:w0.heap.size≤(B.putObj l (.loop {rec with state:=.exhausted,pending:=none})).heap.size:=by rw[World.putObj_size];omega
      refine⟨none,_,he,?_⟩;show gl none 237 Tryz.prog _ _ _ _;generalize B.putObj l (.loop {rec with state:=.exhausted,pending:=none})=B1 at UX UY UZ;refine vd ?_;dsimp only;have hw9:f+(j:Int)+1<4611686018427387904:=by have:=zp.2;omega
      have hw8:0≤f+(j:Int):=by have:=zp.1;omega
      have U0:IntKind.i64.wrap (f+(j:Int)+1)=f+(j:Int)+1:=IntWalk.i64_in _ (by omega);refine afV fun PQ hPQ=>?_
      go_wp2
      have e0:f+((j+1 :Nat):Int)=f+(j:Int)+1:=by omega
      have tJ:rest=L.drop (k+L'.length):=by
       have:=congrArg (List.drop L'.length) ND;rw[YM (aV _),Ki,jm,CP] at this;exact this
      have jG:k+L'.length≤L.length:=by
       have:=congrArg oq ND;rw[iq,vR] at this;omega
      refine(hPQ .normal _ _ ?_).resolve_right id;refine⟨i-1,by omega,j+1,k+L'.length,fb,mk::ms,_,by omega,(by rw[e0];exact UH rfl),(by rw[oJ];exact tJ),jG,UX,UY.sub (fun y hy=>?_) (fun y hy=>?_),NF,NG,UZ⟩
      ·rw[mH] at hy;subst hy;rw[←zq];simp
      ·obtain⟨m,hm,rfl⟩:=dz.1 hy;exact NH m hm
     ·have he:=run_endLoop (P:=Tryz.prog) (x4 _ rfl) (by simp);refine⟨some .ret,_,he,?_⟩;refine pE (wpIn_ret ?_);have x2':=x2.jv (b:=l) (o':=.loop {rec with state:=.exhausted,pending:=some .ret}) (x4 _ rfl) rfl fun x hx=>(zt x hx).1;exact Nu .ret (.inr rfl) _ (mk::ms) _ NF (fun m hm=>⟨NG m hm,(x2'.iD _ (NH m hm)).2.2⟩) (.inr (sK _ _ _ _ _ x1 (by omega) (x4 _ rfl) rfl))
     ·exact UO ch _ (mk::ms) _ NF (fun m hm=>⟨NG m hm,(x2.iD _ (NH m hm)).2.2⟩) x1
    ·rintro k' fb' B ⟨fb,hj,lg,hm⟩;have eX:=hK _ _ _ hj;obtain⟨z1,z2,z3,z4,z5,z6⟩:=eX;refine⟨?_,?_,?_,?_,z5.tail IP,z6⟩
     ·exact(hm.cells (c1,0,Value.slice vy r.length (cap-1)) (by rw[←zq];simp)).2
     ·exact(hm.cells (c2,0,.int .i64 p') (by rw[←zq];simp)).2
     ·exact(hm.cells (c3,0,Value.slice (some ⟨ab,ao,none⟩) ats.length BD) (by rw[←zq];simp)).2
     ·exact(hm.cells (c3,1,fV) (by rw[←zq];simp)).2
    ·rintro k' fb' B B' ⟨fb,hj,lg,hm⟩ hb;have aS:W5.heap.size≤B.heap.size:=by
      have h1:=(gz.1 (hm.iD (l,.loop rec) (by simp)).2.2).1;have h1:l<B.heap.size:=h1;omega
     exact⟨_,hJ _ _ _ _ hj hb,fun b h=>h.elim (fun h=>⟨.inl (lg b h).1,(lg b h).2⟩) (fun h=>⟨.inr h,by omega⟩),(hm.below hb).zk fun b h=>.inl h⟩
    ·rintro k' fb' B b o o' ⟨fb,hj,lg,hm⟩ hb ho cg;obtain⟨ai,aC⟩:=lg b hb;refine⟨fb,hT _ _ _ _ _ _ hj ai ho cg,lg,hm.jv ho cg fun x hx=>?_⟩;rcases cN.1 hx with rfl |hx
     ·show l≠b;omega
     ·have:=(zt x hx).2;omega
    ·rintro e B B' ⟨h1,h2,h3,h4⟩ hb;exact⟨hX _ _ _ h1 hb,h2.below hb,xF h3 hb.size,fun v hv=>(hb.block l h3).trans (h4 v hv)⟩
    ·rintro e B b o o' ⟨h1,h2,h3,h4⟩ hb ho cg;refine⟨sK _ _ _ _ _ h1 (by omega) ho cg,h2.jv ho cg fun x hx=>?_,by rw[World.putObj_size];exact h3,fun v hv=>(World.putObj_heap_other (by omega)).trans (h4 v hv)⟩;have:=(zt x hx).2;omega
    ·rintro k' fb' y A hy ⟨fb,hj,lg,hm⟩;have EI:A.heap[l]? =some (.loop rec):=(hm.iD (l,.loop rec) (by simp)).2.2;have fQ:fb l:=(hm.iD (l,.loop rec) (by simp)).1;have U1:=run_yield (P:=Tryz.prog) (args:=#[.int .i64 y]) EI (by rw[jZ];rfl);have DP:=run_beginRound (P:=Tryz.prog) EI (by rw[jZ]);have U2:=hT _ _ _ l _ (.loop {rec with state:=.busy}) hj fQ EI rfl;have EJ:il fb (A.putObj l (.loop {rec with state:=.busy})) C5 O5:=(hm.sub (C':=C5) (O':=O5) (fun _ h=>h) (fun _ h=>jD _ h)).jv EI rfl fun x hx=>(zt x hx).1;have wY:(A.putObj l (.loop {rec with state:=.busy})).heap[l]? =some (.loop {rec with state:=.busy}):=World.putObj_heap_same (gz.1 EI).1;have hs6:(A.putObj l (.loop {rec with state:=.busy})).heap.size=A.heap.size:=World.putObj_size;have NI:∀b,fb' b→nO b A (A.putObj l (.loop {rec with state:=.busy})):=fun b hb=>Nr (by have:=(lg b hb).2;omega);have aph:(A.putObj l (.loop {rec with state:=.busy})).cell? ⟨w0.heap.size,0,none⟩=some (.func (.yield lp) #[] #[]):=(EJ.cells (w0.heap.size,0,.func (.yield lp) #[] #[]) (by rw[←zq];simp)).2;obtain⟨fn,tmps,assign,body,hy2,BG⟩:=hY (k+k') fb y _ (hLk k' y (by rw[←NC];exact hy)) U2;have agj:∀R:Ending→World→Prop,
         (∀W7,A.heap.size≤W7.heap.size→(∀b,fb b→nO b (A.putObj l (.loop {rec with state:=.busy})) W7)→J (k+k'+1) fb W7→R (.returned (.bool true)) (W7.putObj l (.loop rec)))→
         (∀W7,A.heap.size≤W7.heap.size→(∀b,fb b→nO b (A.putObj l (.loop {rec with state:=.busy})) W7)→X (.returned (.bool false)) W7→R (.returned (.bool false)) (W7.putObj l (.loop {rec with state:=.done,pending:=some .ret})))→
         (∀ch W7,A.heap.size≤W7.heap.size→(∀b,fb b→nO b (A.putObj l (.loop {rec with state:=.busy})) W7)→X (.panicked ch) W7→R (.panicked ch) W7)→
         gl (some l) rec.fn Tryz.prog rec.assign (Exit.then (fun a₁ w₁=>∃w₂,(Instr.beginRound l).run Tryz.prog w₁= .ok () w₂∧gl (some l) rec.fn Tryz.prog rec.body (Si Tryz.prog l R) a₁ w₂) (fun _ _ _=>False))
          {tmps:=(rec.params.zip #[.int .i64 y]).foldl (fun tmps (t,a)=>tmps.setIfInBounds t a) rec.tmps,defers:=[]} A:=by
      intro R h1 h2 h3;have jx:(wr (some l)).round=some l:=rfl;have e0:=congrArg Loop.fn jZ;have e1:=congrArg Loop.assign jZ;have e2:=congrArg Loop.body jZ;have e3:=congrArg Loop.params jZ;have e4:=congrArg Loop.tmps jZ;dsimp only at e0 e1 e2 e3 e4;rw[e0,e1,e2,e3,e4];have wx:({rec with state:=.ready,pending:=none}:Loop)=rec:=by rw[jZ]
      clear e0 e1 e2 e3 e4 jZ U1 hY hJ hT hX sK IH Nu UO UM UN hK EA wX U2 EJ hm hj;generalize A.putObj l (.loop {rec with state:=.busy})=W6 at *;rw[show(#[43]:Array Nat).zip #[Value.int .i64 y]= #[(43,Value.int .i64 y)] from by first |(simp;done) |kernel_rfl |(apply PA<;>simp)];simp only[List.foldl_toArray',Af,List.foldl_nil,qG,List.setIfInBounds_toArray,PI,PJ];refine pE ?_
      gi_wp2
      refine⟨_,DP,?_⟩;refine yF (pE ?_);have IY:=afY (ro:=some l) BG
      gi_wp2
      refine⟨rfl,IY.mono ?_⟩;rintro e W7 ⟨⟨hs7,IZ⟩,hW7⟩;have vz:=(IZ l fQ).2 _ wY rfl;rcases hW7 with⟨rfl,hJ7⟩ |⟨rfl,NJ⟩ |⟨ch,rfl,NJ⟩
      ·gi_wp2
       have ju:=run_endRound (P:=Tryz.prog) none vz;dsimp only[Option.isNone_none] at ju;rw[if_pos rfl,wx] at ju;exact⟨_,_,ju,h1 W7 (by omega) IZ hJ7⟩
      ·gi_wp2
       exact⟨_,_,run_endRound (P:=Tryz.prog) (some .ret) vz,h2 W7 (by omega) IZ NJ⟩
      ·gi_wp2
       exact⟨rfl,h3 ch W7 (by omega) IZ NJ⟩
     refine⟨_,_,_,_,U1,Sk (fnc:=Tryz.f237) (by rw[jZ];exact Tryz.func237) (agj _ ?_ ?_ ?_)⟩
     ·intro W7 z1 z2 z3;refine⟨⟨by rw[World.putObj_size];exact z1,fun b hb=>EF (EF (NI b hb) (z2 b (lg b hb).1)) (Nr (by have:=(lg b hb).2;omega))⟩,.inl ⟨rfl,fb,?_,lg,?_⟩⟩
      ·exact hT _ _ _ _ _ _ z3 fQ ((z2 l fQ).2 _ wY rfl) rfl
      ·have I2:=(EJ.stands z2).jv (b:=l) (o':=.loop rec) ((z2 l fQ).2 _ wY rfl) rfl fun x hx=>(zt x hx).1;exact⟨I2.cells,fun x hx=>by
        rcases cN.1 hx with rfl |hx
        ·exact⟨fQ,rfl,World.putObj_heap_same (gz.1 ((z2 l fQ).2 _ wY rfl)).1⟩
        ·exact I2.iD x hx⟩
     ·intro W7 z1 z2 z3;have vz:=(z2 l fQ).2 _ wY rfl;refine⟨⟨by rw[World.putObj_size];exact z1,fun b hb=>EF (EF (NI b hb) (z2 b (lg b hb).1)) (Nr (by have:=(lg b hb).2;omega))⟩,.inr (.inl ⟨rfl,?_,?_,?_,?_⟩)⟩
      ·exact sK _ _ _ _ _ z3 (by omega) vz rfl
      ·exact(((EJ.stands z2).jv (b:=l) vz rfl fun x hx=>(zt x hx).1).zk fun _ _=>trivial).sub (C':=[]) (fun _ h=>(mG h).elim) (fun _ h=>h)
      ·rw[World.putObj_size];exact(gz.1 vz).1
      ·exact fun v _=>World.putObj_heap_same (gz.1 vz).1
     ·intro ch W7 z1 z2 z3;have vz:=(z2 l fQ).2 _ wY rfl;refine⟨⟨z1,fun b hb=>EF (NI b hb) (z2 b (lg b hb).1)⟩,.inr (.inr ⟨ch,rfl,z3,?_,?_,?_⟩)⟩
      ·exact((EJ.stands z2).zk fun _ _=>trivial).sub (C':=[]) (fun _ h=>(mG h).elim) (fun _ h=>h)
      ·exact(gz.1 vz).1
      ·exact fun v hv=>by cases hv
    ·exact⟨fb5,EA,fun _ h=>h.elim,wX⟩
   ·have ml:¬(j:Int)<x:=by omega
    have kI:¬f+(j:Int)<f+x:=by omega
    have rP:IntKind.i64.wrap (f+x)=f+x:=IntWalk.i64_in _ (by omega)
    go_wp2
    go_quiet (fail)
    clear rP
    go_wp2
    have EB:j=x.toNat:=by omega
    subst EB;have hkL:k=L.length:=by
     have h0:(ku x.toNat).drop x.toNat=[]:=Kl (by simp);rw[h0] at hk;have:=congrArg oq hk;rw[List.flatMap_nil,fW,vR] at this;omega
    subst hkL;refine Nu _ (.inl rfl) _ ms _ gj (fun m hm=>⟨A6 m hm,?_⟩) (.inl ⟨_,hJ _ _ _ _ nh (below_drewN (.refl _ A) nq),fun m hm=>.inl (IV.iD (m,.deferred (some [])) (dz.2 ⟨m,hm,rfl⟩)).1⟩);exact(IV.iD (m,.deferred (some [])) (dz.2 ⟨m,hm,rfl⟩)).2.2
  ·have e0:f+((0 :Nat):Int)=f:=by simp
   refine⟨0,0,Bz,[],_,by omega,by rw[e0];exact UH rfl,by rw[tZ,tZ];exact hLe,b9 _,vw,DK,Kg,fun _ h=>(mG h).elim,af1⟩
end Go.Proofs.YtgplgbonlnodeaaGreatDoor
namespace Go.Proofs.YtgplgbonlnodeaaGreatDoor
open Go.Vs Go.RowKit Go.Shelf
theorem agn{γ:Gh}{vs:Array Value}{d1 d2 d3:D}(h:cy γ vs [d1,d2,d3]):∃v1 v2 v3,vs= #[v1,v2,v3]∧aL γ v1 d1∧aL γ v2 d2∧aL γ v3 d3:=by
 obtain⟨hs,hr⟩:=h;obtain⟨l⟩:=vs
 match l,hs with
 |[v1,v2,v3],_=>exact⟨v1,v2,v3,rfl,hr 0 _ rfl,hr 1 _ rfl,hr 2 _ rfl⟩
variable {W : World} {G : Nat → Option (List PD)}
theorem ago:sj Tryz.prog W G 237 oT:=by
 refine⟨⟨Tryz.f237,Tryz.func237,by kernel_rfl,by kernel_rfl⟩,fun fi cap H xs hg γ w la lb I tI Ev=>?_⟩;unfold oT at hg;split at hg
 ·rename_i sd p ad fV;split at hg
  ·rename_i ss ats ni rU;split at hg
   ·rename_i hc;obtain⟨ij,nV,ei,hlen,dk⟩:=hc;cases hg;have Nn:la= #[]:=Pz tI.1;subst Nn;obtain⟨v1,v2,v3,rfl,r1,r2,r3⟩:=agn Ev;cases r1 with
    |ro b1 o1 _ _ jH j1 iC=>
    cases r2 with
    |ro b2 o2 _ _ Kz kL nQ=>
    cases r3 with
    |ro b3 o3 _ _ I3 I4 NK=>
     have hp:Kz 0= .int .i64 p:=(nQ 0 _ rfl).1.iI;have fact:∀A,Kept W G γ H (oy (.fn 237 [] [.ro [sd] 0,.ro [.int .i64 p] 0,.ro [ad,fV] 0]) H) A→UG (b1,o1) (b2,o2) (b3,o3) ss p ats (jH 0) (I3 0) (I3 1) A:=by
      rintro A ⟨γ',H',L,I',_⟩;refine⟨I'.toInv.mem _ _ _ (L.mem _ _ _ (j1 0 (by simp))),?_,I'.toInv.mem _ _ _ (L.mem _ _ _ (I4 0 (by simp))),I'.toInv.mem _ _ _ (L.mem _ _ _ (I4 1 (by simp))),?_,?_⟩
      ·have:=I'.toInv.mem _ _ _ (L.mem _ _ _ (kL 0 (by simp)));rw[hp] at this;exact this
      ·exact IL ((iC 0 sd rfl).1.mono L.mem) ni I'.toInv.mem
      ·exact IL ((NK 0 ad rfl).1.mono L.mem) rU I'.toInv.mem
     refine⟨fun k=>match(eW ats ss p)[k]? with |some x=>#[.int .i64 x] |none=>#[],fun k x hx=>?_,fun lp J X w0 hB zj hJ hT hX sK hY h0=>?_⟩
     ·simp only[cP,au] at hx;obtain⟨q,hq,rfl⟩:=hx;simp only[hq];exact⟨rfl,fun γ'=>Ux q⟩
     ·have h:=UI ats (fun x hx=>of_decide_eq_true (gI.1 ij x hx)) nV hlen ss dk (fun s hs=>of_decide_eq_true (gI.1 ei s hs)) p lp (b1,o1) (b2,o2) (b3,o3) (jH 0) (I3 0) (I3 1) J X w0 (fun k fb A hj=>fact A (zj k fb A hj)) hJ hT hX sK (fun k fb x A hx hj=>by
       have:=hY k fb _ A (by rw[cP,hx];rfl) hj;simp only[hx] at this;exact this) h0
      rw[cx];exact ri.2 h
   ·cases hg
  ·cases hg
 ·cases hg
end Go.Proofs.YtgplgbonlnodeaaGreatDoor
namespace Go.Proofs.YtgplgbonlnodeaaGreatDoor
open Go.Proofs Go.Shelf
def EK:Go.Shelf.Ren where
 f:=fun | 21=>77 | 27=>124 | 28=>125 | 35=>181 | 39=>239 |n=>n
 t:=fun | 22=>28 | 3=>3 | 4=>4 | 0=>0 |n=>n
 g:=fun n=>n
theorem BH:Lays2.n21 Tryz.prog EK where
 mixed:=by kernel_rfl
 f21:=Tryz.func77.trans (by kernel_rfl)
 f27:=Tryz.func124.trans (by kernel_rfl)
 f28:=Tryz.func125.trans (by kernel_rfl)
 f35:=Tryz.func181.trans (by kernel_rfl)
 f39:=Tryz.func239.trans (by kernel_rfl)
 t0:=Tryz.underlying0
 a0:=Tryz.isAgg0
 z0:=Tryz.sizeOf0
 v0:=Tryz.zeroValue0
 t3:=Tryz.underlying3
 a3:=Tryz.isAgg3
 z3:=Tryz.sizeOf3
 v3:=Tryz.zeroValue3
 t4:=Tryz.underlying4
 a4:=Tryz.isAgg4
 z4:=Tryz.sizeOf4
 v4:=Tryz.zeroValue4
 t22:=Tryz.underlying28
 a22:=Tryz.isAgg28
 z22:=Tryz.sizeOf28
 v22:=Tryz.zeroValue28
 i3:=by kernel_rfl
end Go.Proofs.YtgplgbonlnodeaaGreatDoor
namespace Go.Proofs.YtgplgbonlnodeaaGreatDoor
open Go Go.Vs Go.RowKit Go.Shelf
variable {W : World} {G : Nat → Option (List PD)}
theorem BI(b:Nat)(T:TypeId)(fr:Nat×Nat):∀(vs:List Value) (o:Nat) (cur:Array Value) (w:World),w.heap[b]? =some (.cells cur T fr)→o+vs.length≤cur.size→
    w.setCells b o vs=w.setRow b (cur.toList.take o++vs++cur.toList.drop (o+vs.length)).toArray
 |[],o,cur,w,hg,_=>by
  simp only[World.setCells,lA,fW,oe,xH,Array.toArray_toList];rw[setRow_self w b cur T fr hg]
 |v::rest,o,cur,w,hg,hl=>by
  have ih:=BI b T fr rest (o+1) (cur.setIfInBounds o v) (w.setRow b (cur.setIfInBounds o v)) (setRow_heap w b cur _ T _ hg) (by simp at hl⊢;omega);simp only[World.setCells,setCell_eq_setRow w b o cur T fr v hg,ih,setRow_setRow];congr 2
  have:=list_seg_step cur.toList o v rest (by simp at hl⊢;omega);have e2:o+(v::rest).length=o+(rest.length+1):=by simp
  have e3:o+1+rest.length=o+(rest.length+1):=by omega
  rw[e2];simpa[Array.toList_setIfInBounds,e3] using this
theorem U3(w:World)(X Y:Array Value)(T:TypeId):(w.alloc (.cells X T)).setRow w.heap.size Y=w.alloc (.cells Y T):=by
 unfold World.setRow World.alloc;congr 1
 apply PA
 ·simp
 ·intro i h1 h2;simp only[Array.getElem_modify];split
  ·rename_i h;subst h;simp
  ·rename_i h;have :i<w.heap.size:=by simp at h2;omega
   simp[Array.getElem_push,this]
theorem NL:∀{cs:List D} {l:List Int},aP Bf cs=some l→cs=l.map fun x=>.p (.int .i64 x)
 |[],l,h=>by cases h;rfl
 |c::cs,l,h=>by
  simp only[aP] at h;split at h
  ·rename_i t ht;obtain⟨l',h1,rfl⟩:=au.1 h;have e:c= .p (.int .i64 t):=by
    unfold Bf at ht;split at ht
    ·cases ht;rfl
    ·cases ht
   rw[e,NL h1];rfl
  ·cases h
def b8(l:List Int):List Value:=l.map fun x=>.int .i64 x
def kO(l:List Int):List D:=l.map fun x=>.p (.int .i64 x)
theorem NM(l:List Int):∀v∈b8 l,v.oneCell'=true:=fun v hv=>by
 obtain⟨x,_,rfl⟩:=dz.1 hv;rfl
theorem NN(l:List Int):∀c∈kO l,c.one=true:=fun v hv=>by
 obtain⟨x,_,rfl⟩:=dz.1 hv;rfl
theorem NO{γ:Gh}(l:List Int)(tl:List Value):eT γ (b8 l++tl).toArray (kO l):=by
 refine⟨by simp[b8,kO],fun k d hd=>?_⟩;unfold kO at hd;rw[cP] at hd;cases hx:l[k]? with
 |none=>rw[hx] at hd;cases hd
 |some x=>
  rw[hx] at hd;cases hd;have hk:=(az.1 hx).1;have :(b8 l++tl).toArray.getD k undef= .int .i64 x:=by
   simp[b8,bN,List.getElem?_append,hk];have:=(az.1 hx).2;exact this
  rw[this];exact .p _ _ (.int _ _)
theorem agp{γ:Gh}{vs:Array Value}{cs:List D}(r:eT γ vs cs){n:Nat}{l:List Int}(h:cs.take n=kO l)(hn:n≤cs.length):l.length=n∧∀(j:Nat) v,(b8 l)[j]? =some v→vs[j]? =some v:=by
 have hl:l.length=n:=by
  have:=congrArg oq h;rw[pb,ue hn] at this;simpa[kO] using this.symm
 refine⟨hl,fun j v hv=>?_⟩;unfold b8 at hv;rw[cP] at hv;cases hx:l[j]? with
 |none=>rw[hx] at hv;cases hv
 |some x=>
  rw[hx] at hv;cases hv;have hj:=(az.1 hx).1;have hc:cs[j]? =some (.p (.int .i64 x)):=by
   have h2:(cs.take n)[j]? =some (.p (.int .i64 x)):=by rw[h];simp[kO,hx]
   rw[j7] at h2;split at h2
   ·exact h2
   ·cases h2
  have h3:=(r.2 j _ hc).bY.iI;have U4:j<vs.size:=by have:=r.1;omega
  rw[pY U4];simpa[bN,U4] using h3
theorem agq{vs:Array Value}{l:List Int}(h:∀(j:Nat) v,(b8 l)[j]? =some v→vs[j]? =some v):vs.toList=b8 l++vs.toList.drop l.length:=by
 have h1:vs.toList.take l.length=b8 l:=by
  apply oh;intro j;rcases iP j l.length with hj |hj
  ·have oE:j<(b8 l).length:=by simpa[b8] using hj
   rw[j7,if_pos hj,aA oE,CO];exact h j _ (aA oE)
  ·rw[lU (by simp;omega),lU (by simpa[b8] using hj)]
 conv=>lhs;rw[←xH l.length vs.toList,h1]
end Go.Proofs.YtgplgbonlnodeaaGreatDoor
namespace Go.Proofs.YtgplgbonlnodeaaGreatDoor
open Go Go.Vs Go.RowKit Go.Shelf
variable {W : World} {G : Nat → Option (List PD)}
theorem agr:Vs.Enters Tryz.prog 77:=⟨Tryz.f77,Tryz.func77,by kernel_rfl,by kernel_rfl⟩
theorem NP{γ:Gh}{H:Hp}{w:World}(I:Vs.Inv G γ H w){i b:Nat}{cs:List D}(hb:γ.boxes[i]? =some b)(hc:H.bx[i]? =some cs)(hm:aU cs=false)(hn:cs≠[]){k c:Nat}(hk:k<1)(ht:γ.br b=some (2*3+k,c*1)):
    ∃(vs:Array Value) (fr:Nat×Nat),w.heap[b]? =some (.cells vs 3 fr)∧vs.size=c∧eT γ vs cs∧clear fr 0 vs.size∧(∀j,j<c→w.frozen? ⟨b,j,none⟩=false)∧w.frozen? ⟨b,c,none⟩=false∧w.shape? b=some (3,c):=by
 obtain⟨vs,T,fr,q1,q2,q3,q4⟩:=I.box i b cs hb hc;rw[iU hm] at q1;have q4:=q4 hn;obtain rfl:k=0:=by omega
 obtain⟨cv,ct,z1,z2,z3⟩:=I.br b _ _ ht;rw[q1] at z1;cases z1;rw[Py] at z2;have BJ:∀j,j<c→w.frozen? ⟨b,j,none⟩=false:=fun j hj=>by
  have:=q4 j (b9 _) (by omega);simp only[World.frozen?,q1];cases hd:(decide (fr.1≤j)&&decide (j<fr.2)) with
  |false=>rfl
  |true=>simp at hd;exact(this hd).elim
 have U5:w.frozen? ⟨b,c,none⟩=false:=by
  have h2:=(z3 rfl).1;simp only[World.frozen?,q1];have :¬c<fr.2:=by omega
  simp[this]
 exact⟨vs,fr,q1,z2,q2,q4,BJ,U5,by simp[World.shape?,q1,z2]⟩
theorem Di{γ:Gh}{vs:Array Value}{d1 d2 d3:D}(h:cy γ vs [d1,d2,d3]):∃v1 v2 v3,vs= #[v1,v2,v3]∧aL γ v1 d1∧aL γ v2 d2∧aL γ v3 d3:=by
 obtain⟨hs,hr⟩:=h;obtain⟨l⟩:=vs
 match l,hs with
 |[v1,v2,v3],_=>exact⟨v1,v2,v3,rfl,hr 0 _ rfl,hr 1 _ rfl,hr 2 _ rfl⟩
theorem U6{γ0 γ:Gh}{H0 H:Hp}{w0 w:World}(I0:bD W G γ0 H0 w0)(L:γ0.le γ)(F:Vs.Frame γ0 H0 w0 γ H w)(I:Vs.Inv G γ H w)(l:List Int)(tl:List Value)(c:Nat)(hn:l.length≤c)(gC:c≤maxLen)(hs:(b8 l++tl).length=c):
    ∃γ',γ0.le γ'∧Vs.Frame γ0 H0 w0 γ' {H with bx:=H.bx++[kO l]} (w.alloc (.cells (b8 l++tl).toArray 3))∧bD W G γ' {H with bx:=H.bx++[kO l]} (w.alloc (.cells (b8 l++tl).toArray 3))∧
     aL γ' (.slice (some ⟨w.heap.size,0,none⟩) l.length c) (.aB H.bx.length 3 l.length 1):=by
 obtain⟨γ',a1,a2,a5,a3,a4⟩:=I.Ar 3 (vs:=(b8 l++tl).toArray) (cs:=kO l) (fun _ _ _ _=>NO l tl) (NN l);have FF:=F.trans L.base a3;refine⟨γ',L.trans a1,FF,I0.up (L.trans a1) FF a4,.aB _ _ _ _ _ c a2 hn gC (k:=0) (by decide) ?_⟩;have :(b8 l++tl).toArray.size=c*1:=by simpa using hs
 rw[this] at a5;exact a5
theorem I5(l:List Int)(k:Nat)(t:Int):b8 (dM l k t)=(b8 l).take k++Value.int .i64 t::(b8 l).drop k:=by
 simp[b8,dM,Pu,Pv]
theorem U7(l:List Int)(k:Nat)(t:Int)(hk:k≤l.length):(dM l k t).length=l.length+1:=by
 simp[dM];omega
theorem U8{k:Nat}(A B C:List Value)(h:A.length=k):(A++B++C).take k=A:=by
 rw[oc,List.take_left' h]
theorem U9(w:World)(X:Array Value)(T:TypeId)(vs cs:List Value)(i:Nat)(hs:i+vs.length+cs.length≤X.size):
    ((w.alloc (.cells X T)).drew.setCells w.heap.size i vs).drew.setCells w.heap.size (i+vs.length) cs=w.drew.drew.alloc (.cells (X.toList.take i++vs++cs++X.toList.drop (i+vs.length+cs.length)).toArray T):=by
 have g:∀(w:World) (X:Array Value),(w.alloc (.cells X T)).heap[w.heap.size]? =some (.cells X T (0,0)):=fun w X=>by unfold World.alloc;simp
 have e0:(w.alloc (.cells X T)).drew=w.drew.alloc (.cells X T):=rfl;have s0:w.heap.size=w.drew.heap.size:=rfl;rw[e0,s0,BI _ T (0,0) vs i X _ (g w.drew X) (by omega),U3];generalize hY:(X.toList.take i++vs++X.toList.drop (i+vs.length)).toArray=Y;have hYs:Y.size=X.size:=by rw[←hY];simp;omega
 have e1:(w.drew.alloc (.cells Y T)).drew=w.drew.drew.alloc (.cells Y T):=rfl;have s1:w.drew.heap.size=w.drew.drew.heap.size:=rfl;rw[e1,s1,BI _ T (0,0) cs _ Y _ (g w.drew.drew Y) (by omega),U3];congr 3
 rw[←hY];have a1:(X.toList.take i++vs++X.toList.drop (i+vs.length)).take (i+vs.length)=X.toList.take i++vs:=by
  rw[PK (by simp;omega),jC (by simp;omega)]
 have a2:(X.toList.take i++vs++X.toList.drop (i+vs.length)).drop (i+vs.length+cs.length)=X.toList.drop (i+vs.length+cs.length):=by
  rw[←CP,YN (by simp;omega),CP]
 simp only[a1,a2]
set_option maxHeartbeats 1000000 in
theorem ags{γ:Gh}{H:Hp}{w:World}(I:bD W G γ H w){i j b vb n c vc k k1 k2:Nat}{cs:List D}{l:List Int}{t:Int}(cQ:i≠j)(hb:γ.boxes[i]? =some b)(zu:γ.boxes[j]? =some vb)
    (hc:H.bx[i]? =some cs) (sg:H.bx[j]? =some [.p (.int .i64 t)]) (hm:aU cs=false) (hnc:n≤cs.length) (aq:cs≠[]) (hl:cs.take n=kO l) (eh:n≤c) (gC:c≤maxLen)
    (iK:k1<1) (dP:γ.br b=some (2*3+k1,c*1)) (I6:1≤vc) (bW:k2<1) (NQ:γ.br vb=some (2*3+k2,vc*1)) (hk:k≤n) (hn:n<1000000):
    Calls Tryz.prog 77 #[.slice (some ⟨b,0,none⟩) n c,.int .i64 k,.slice (some ⟨vb,0,none⟩) 1 vc] w fun e w'=>∃γ',γ.le γ'∧Vs.Frame γ H w γ' {H with bx:=H.bx.set i []++[kO (dM l k t)]} w'∧bD W G γ' {H with bx:=H.bx.set i []++[kO (dM l k t)]} w'∧
     jU γ' (.val (.aB H.bx.length 3 (n+1) 1)) e:=by
 have agu:vb≠b:=fun h=>by
  subst h;exact cQ (I.nodup i j vb _ _ hb zu hc sg aq (by simp))
 obtain⟨vs,fr,q1,qs,q2,q4,BJ,U5,tr⟩:=NP I.toInv hb hc hm aq iK dP;obtain⟨us,Gn,u1,us1,u2,u4,Va,Vb,Vc⟩:=NP I.toInv zu sg rfl (by simp) bW NQ;obtain⟨ie,C6⟩:=agp q2 hl hnc;have NR:us[0]? =some (.int .i64 t):=by
  have h3:=(u2.2 0 _ rfl).bY.iI;have :0<us.size:=by omega
  rw[pY this];simpa[bN,this] using h3
 have mS:∀(p:Nat) v,(b8 l)[p]? =some v→w.cell? ⟨b,0+p,none⟩=some v:=fun p v hp=>by
  rw[eS];simp only[World.cell?,q1];exact C6 p v hp
 have zw:∀(p:Nat) v,[Value.int .i64 t][p]? =some v→w.cell? ⟨vb,0+p,none⟩=some v:=fun p v hp=>by
  cases p with
  |zero=>cases hp;simp only[World.cell?,u1];exact NR
  |succ p=>simp at hp
 have h1:∀v∈[Value.int .i64 t],v.oneCell'=true:=fun v hv=>by rw[mH.1 hv];rfl
 have fC:(dM l k t).length=n+1:=by rw[U7 l k t (by omega),ie]
 have lY:=agq C6;have tK:(b8 l).length=n:=by simpa[b8] using ie
 have Vd:(γ.boxes++[b])[H.bx.length]? =some b:=by rw[←I.cT];simp
 have place:n+1≤c→∀w',w'=w.drew.setRow b (b8 (dM l k t)++vs.toList.drop (n+1)).toArray∨w'=w.setRow b (b8 (dM l k t)++vs.toList.drop (n+1)).toArray→∃γ',γ.le γ'∧Vs.Frame γ H w γ' {H with bx:=H.bx.set i []++[kO (dM l k t)]} w'∧bD W G γ' {H with bx:=H.bx.set i []++[kO (dM l k t)]} w'∧
     jU γ' (.val (.aB H.bx.length 3 (n+1) 1)) (.returned (.slice (some ⟨b,0,none⟩) (n+1) c)):=by
  intro hr w' hw';have aS:(b8 (dM l k t)++vs.toList.drop (n+1)).toArray.size=vs.size:=by
   simp only[qG,iq,vR,qE];have :(b8 (dM l k t)).length=n+1:=by simpa[b8] using fC
   omega
  rcases hw' with rfl |rfl
  ·obtain⟨g1,g2,g3⟩:=I.toInv.drew.K7 hb hc aq hm q1 q4 aS dP (NO (dM l k t) (vs.toList.drop (n+1))) (NN _);have FF:=(Vs.Frame.drew γ H w).trans rfl g2;exact⟨_,g1,FF,I.up g1 FF g3,_,rfl,.aB _ _ _ _ b c Vd hr gC iK dP⟩
  ·obtain⟨g1,g2,g3⟩:=I.toInv.K7 hb hc aq hm q1 q4 aS dP (NO (dM l k t) (vs.toList.drop (n+1))) (NN _);exact⟨_,g1,g2,I.up g1 g2 g3,_,rfl,.aB _ _ _ _ b c Vd hr gC iK dP⟩
 have fresh:∀w0 w' (tl:List Value) (c':Nat),w0.heap.size=w.heap.size→(Vs.Inv G γ H w→Vs.Inv G γ H w0)→Vs.Frame γ H w γ H w0→n+1≤c'→c'≤maxLen→(b8 (dM l k t)++tl).length=c'→w'=w0.alloc (.cells (b8 (dM l k t)++tl).toArray 3)→
     ∃γ',γ.le γ'∧Vs.Frame γ H w γ' {H with bx:=H.bx.set i []++[kO (dM l k t)]} w'∧bD W G γ' {H with bx:=H.bx.set i []++[kO (dM l k t)]} w'∧jU γ' (.val (.aB H.bx.length 3 (n+1) 1)) (.returned (.slice (some ⟨w.heap.size,0,none⟩) (n+1) c')):=by
  rintro w0 w' tl c' lN hI hF h2 h3 h4 rfl;obtain⟨f1,I1⟩:=(hI I.toInv).K6 hb hc aq dP;obtain⟨γ',a1,a2,a3,a4⟩:=U6 I (.refl γ) (hF.trans rfl f1) I1 (dM l k t) tl c' (by omega) h3 h4;rw[fC,List.length_set,lN] at a4;exact⟨γ',a1,a2,a3,_,rfl,a4⟩
 have cw:vs.toList.take n=b8 l:=by
  rw[lY,PK (by omega),jC (by omega)]
 have iB:∀p,p<c→(w.cell? ⟨b,p,none⟩).isSome=true:=fun p hp=>by
  simp only[World.cell?,q1];rw[pY (by omega)];rfl
 have GO:c≤9223372036854775807:=by simpa[maxLen] using gC
 by_cases ju:k=n
 ·subst ju;have jJ:b8 (dM l k t)=b8 l++[Value.int .i64 t]:=by
   rw[I5,jC (by omega),Km (by omega)]
  by_cases hr:k+1≤c
  ·refine(Any2.slices_Insert_int_end_room BH b 0 k c vb 0 1 vc [.int .i64 t] w (by decide) hr GO rfl (fun p hp=>?_) (fun p hp=>?_) zw h1).mono ?_
   ·obtain rfl:p=0:=by omega
    rw[eS];exact iB _ (by omega)
   ·obtain rfl:p=0:=by omega
    rw[eS];exact BJ _ (by omega)
   ·rintro e w' ⟨rfl,rfl⟩;refine place hr _ (.inr ?_);rw[eS,BI b 3 fr _ _ vs w q1 (by simp;omega),cw,jJ];rfl
  ·have zy:=grownCap_ge w (k+1) c 3;have yU:=grownCap_le_maxLen w (k+1) c 3 (by simp only[maxLen];omega);refine(Any2.slices_Insert_int_end_grow BH (some ⟨b,0,none⟩) k c vb 0 1 vc (b8 l) [.int .i64 t] w (by decide) eh (by omega) (by omega) tK rfl (fun h=>by cases h) (fun a ha p v hp=>by cases ha;rw[Addr.add_lit];exact mS p v hp) zw h1).mono ?_;rintro e w' ⟨rfl,rfl⟩;refine fresh w.drew _ (Builtin.zeroCells (Value.int .i64 0).cells (grownCap w (k+1) c 3-(k+1))).toList _ rfl (fun I=>I.drew) (Vs.Frame.drew γ H w) zy yU ?_ ?_
   ·have :(b8 (dM l k t)).length=k+1:=by simpa[b8] using fC
    rw[iq,this,qE,size_zeroCells];have :(Value.int IntKind.i64 0).cells.size=1:=rfl;have e3:EK.t 3=3:=rfl;rw[this,e3];omega
   ·rw[jJ];congr 2
    apply FT;simp;rfl
 ·have iA:k<n:=by omega
  have jJ:b8 (dM l k t)=(b8 l).take k++Value.int .i64 t::(b8 l).drop k:=I5 l k t;have qV:((b8 l).drop k).length=n-k:=by rw[vR,tK]
  by_cases hr:n+1≤c
  ·refine(Any2.slices_Insert_int_shift BH b 0 n c k vb 0 1 vc (b8 l) [.int .i64 t] w iA (by decide) hr GO agu tK rfl mS (fun p hp=>?_) (fun p hp=>?_) zw (NM l) h1 3 3 vc c Vc tr (by omega) (Va 0 (by omega)) Vb).mono ?_
   ·rw[eS];exact iB _ (by omega)
   ·rw[eS];exact BJ _ (by omega)
   ·rintro e w' ⟨rfl,rfl⟩;refine place hr _ (.inl ?_);have EL:w.drew.heap[b]? =some (.cells vs 3 fr):=q1;rw[eS,eS,BI b 3 fr _ _ vs w.drew EL (by rw[qV];omega)];rw[BI b 3 fr _ _ _ _ (setRow_heap w.drew b vs _ 3 fr EL) (by simp only[qG,iq,pb,vR,qE,qV,xL];omega),setRow_setRow];congr 2
    simp only;rw[jJ,qV,show k+1+(n-k)=n+1 by omega];have e1:(vs.toList.take (k+1)++(b8 l).drop k++vs.toList.drop (n+1)).take k=(b8 l).take k:=by
     rw[oc,PK (by simp;omega),YO,ue (by omega),←cw,YO,ue (by omega)]
    have e2:(vs.toList.take (k+1)++(b8 l).drop k++vs.toList.drop (n+1)).drop (k+1)=(b8 l).drop k++vs.toList.drop (n+1):=by
     rw[oc,YM (by simp;omega),Km (by simp;omega),jm]
    have e3:k+[Value.int IntKind.i64 t].length=k+1:=rfl;rw[e1,e3,e2];simp
  ·have zy:=grownCap_ge w (n+1) c 3;have yU:=grownCap_le_maxLen w (n+1) c 3 (by simp only[maxLen];omega);refine(Any2.slices_Insert_int_grow BH b 0 n c k vb 0 1 vc (b8 l) [.int .i64 t] w iA (by decide) eh (by omega) (by omega) tK rfl mS zw (NM l) h1).mono ?_;rintro e w' ⟨rfl,rfl⟩;refine fresh w.drew.drew _ (Builtin.zeroCells (Value.int .i64 0).cells (grownCap w (n+1) c 3-(n+1))).toList _ rfl (fun I=>I.drew.drew) ((Vs.Frame.drew γ H w).trans rfl (Vs.Frame.drew γ H w.drew)) zy yU ?_ ?_
   ·have :(b8 (dM l k t)).length=n+1:=by simpa[b8] using fC
    rw[iq,this,qE,size_zeroCells];have :(Value.int IntKind.i64 0).cells.size=1:=rfl;have e3:EK.t 3=3:=rfl;rw[this,e3];omega
   ·have e3:EK.t 3=3:=rfl;have z1:(Value.int IntKind.i64 0).cells.size=1:=rfl;have jG:((b8 l).take k).length=k:=by rw[pb,tK];omega
    refine(U9 w _ _ [.int .i64 t] ((b8 l).drop k) k ?_).trans ?_
    ·simp only[Px,qG,size_zeroCells,z1,jG,qV,xL];omega
    ·rw[e3,jJ];congr 2
     simp only[YE,xL,qV];rw[U8 _ _ _ jG,show k+1+(n-k)=n+1 by omega,YN (by
      rw[iq,jG,qE,size_zeroCells,z1];omega)]
     simp
end Go.Proofs.YtgplgbonlnodeaaGreatDoor
namespace Go.Proofs.YtgplgbonlnodeaaGreatDoor
open Go Go.Vs Go.RowKit Go.Shelf
variable {W : World} {G : Nat → Option (List PD)}
theorem agw{γ:Gh}{v:Value}{s:D}{sz:Nat}{es:List PD}(r:aL γ v s)(h:mK sz s=some es):∃base,v= .slice base es.length es.length∧aZ γ.mem (.slice base es.length es.length) (.slice sz es):=by
 unfold mK at h;split at h
 ·cases h;exact⟨none,r.bY.qg,.kD _ _ _⟩
 ·split at h
  ·cases h;cases r with
   |ff a _=>exact⟨a,rfl,.kD _ _ _⟩
  ·cases h
 ·split at h
  ·rename_i hs;subst hs;cases h;cases r with
   |cI b n e sz es hb ht hn hr=>subst hn;exact⟨_,rfl,hr⟩
  ·cases h
 ·split at h
  ·rename_i hs;subst hs;cases h;cases r with
   |gK a n sz es hn hr=>subst hn;exact⟨_,rfl,hr⟩
  ·cases h
 ·cases h
theorem agx{γ:Gh}{H:Hp}{w:World}(I:Vs.Inv G γ H w){base:Option Addr}{l:List Int}{n:Nat}(hn:l.length=n)(r:aZ γ.mem (.slice base n n) (.slice 1 (l.map fun x=>.int .i64 x))):
    l=[]∨∃b off,base=some ⟨b,off,none⟩∧∀(p:Nat) v,(b8 l)[p]? =some v→w.cell? ⟨b,off+p,none⟩=some v:=by
 generalize dC:l.map (fun x=>PD.int .i64 x)=es at r;generalize hv:Value.slice base n n=v at r;cases r with
 |kD a cap sz=>
  left;simpa using dC
 |sl b o cap sz es vs hc aS dE hm hr=>
  right;cases hv;refine⟨b,o,rfl,fun p v hp=>?_⟩;unfold b8 at hp;rw[cP] at hp;cases hx:l[p]? with
  |none=>rw[hx] at hp;cases hp
  |some x=>
   rw[hx] at hp;cases hp;have he:es[p]? =some (.int .i64 x):=by rw[←dC,cP,hx];rfl
   have cg:p<es.length:=(az.1 he).1;have h1:=I.mem _ _ _ (hm p 0 cg (by decide));have h2:=(hr p _ 0 _ he rfl).iI;rw[h2] at h1;simpa using h1
set_option maxHeartbeats 1000000 in
theorem agy{γ:Gh}{H:Hp}{w:World}(I:bD W G γ H w){j vb n k vc k2:Nat}{l:List Int}{t:Int}{base:Option Addr}(zu:γ.boxes[j]? =some vb)(sg:H.bx[j]? =some [.p (.int .i64 t)])(I6:1≤vc)(bW:k2<1)(NQ:γ.br vb=some (2*3+k2,vc*1))
    (ie:l.length=n) (hr:aZ γ.mem (.slice base n n) (.slice 1 (l.map fun x=>.int .i64 x))) (hk:k≤n) (hn:n<1000000):
    Calls Tryz.prog 77 #[.slice base n n,.int .i64 k,.slice (some ⟨vb,0,none⟩) 1 vc] w fun e w'=>∃γ',γ.le γ'∧Vs.Frame γ H w γ' {H with bx:=H.bx++[kO (dM l k t)]} w'∧bD W G γ' {H with bx:=H.bx++[kO (dM l k t)]} w'∧
     jU γ' (.val (.aB H.bx.length 3 (n+1) 1)) e:=by
 obtain⟨us,Gn,u1,us1,u2,u4,Va,Vb,Vc⟩:=NP I.toInv zu sg rfl (by simp) bW NQ;have NR:us[0]? =some (.int .i64 t):=by
  have h3:=(u2.2 0 _ rfl).bY.iI;have :0<us.size:=by omega
  rw[pY this];simpa[bN,this] using h3
 have zw:∀(p:Nat) v,[Value.int .i64 t][p]? =some v→w.cell? ⟨vb,0+p,none⟩=some v:=fun p v hp=>by
  cases p with
  |zero=>cases hp;simp only[World.cell?,u1];exact NR
  |succ p=>simp at hp
 have h1:∀v∈[Value.int .i64 t],v.oneCell'=true:=fun v hv=>by rw[mH.1 hv];rfl
 have fC:(dM l k t).length=n+1:=by rw[U7 l k t (by omega),ie]
 have agz:(b8 (dM l k t)).length=n+1:=by simpa[b8] using fC
 have tK:(b8 l).length=n:=by simpa[b8] using ie
 have uG:=agx I.toInv ie hr;have z1:(Value.int IntKind.i64 0).cells.size=1:=rfl;have e3:EK.t 3=3:=rfl;have zy:=grownCap_ge w (n+1) n 3;have yU:=grownCap_le_maxLen w (n+1) n 3 (by simp only[maxLen];omega);have fresh:∀w0 w',w0.heap.size=w.heap.size→(Vs.Inv G γ H w→Vs.Inv G γ H w0)→Vs.Frame γ H w γ H w0→
     w'=w0.alloc (.cells (b8 (dM l k t)++(Builtin.zeroCells (Value.int .i64 0).cells (grownCap w (n+1) n 3-(n+1))).toList).toArray 3)→
     ∃γ',γ.le γ'∧Vs.Frame γ H w γ' {H with bx:=H.bx++[kO (dM l k t)]} w'∧bD W G γ' {H with bx:=H.bx++[kO (dM l k t)]} w'∧jU γ' (.val (.aB H.bx.length 3 (n+1) 1)) (.returned (.slice (some ⟨w.heap.size,0,none⟩) (n+1) (grownCap w (n+1) n 3))):=by
  rintro w0 w' lN hI hF rfl;have zl:(Builtin.zeroCells (Value.int .i64 0).cells (grownCap w (n+1) n 3-(n+1))).toList.length=grownCap w (n+1) n 3-(n+1):=by
   rw[qE,size_zeroCells,z1];omega
  obtain⟨γ',a1,a2,a3,a4⟩:=U6 I (.refl γ) hF (hI I.toInv) (dM l k t) (Builtin.zeroCells (Value.int .i64 0).cells (grownCap w (n+1) n 3-(n+1))).toList (grownCap w (n+1) n 3) (by omega) yU (by
   rw[iq,agz,zl];omega)
  rw[fC,lN] at a4;exact⟨γ',a1,a2,a3,_,rfl,a4⟩
 by_cases ju:k=n
 ·subst ju;have jJ:b8 (dM l k t)=b8 l++[Value.int .i64 t]:=by
   rw[I5,jC (by omega),Km (by omega)]
  refine(Any2.slices_Insert_int_end_grow BH base k k vb 0 1 vc (b8 l) [.int .i64 t] w (by decide) (by omega) (by omega) (by omega) tK rfl (fun h=>?_) (fun a ha p v hp=>?_) zw h1).mono ?_
  ·rcases uG with rfl |⟨b,off,h2,_⟩
   ·simpa using ie.symm
   ·rw[h] at h2;cases h2
  ·rcases uG with rfl |⟨b,off,h2,h3⟩
   ·simp[b8] at hp
   ·rw[h2] at ha;cases ha;rw[Addr.add_lit];exact h3 p v hp
  ·rintro e w' ⟨rfl,rfl⟩;refine fresh w.drew _ rfl (fun I=>I.drew) (Vs.Frame.drew γ H w) ?_;rw[jJ];congr 2
   apply FT;simp;rfl
 ·have iA:k<n:=by omega
  have jJ:b8 (dM l k t)=(b8 l).take k++Value.int .i64 t::(b8 l).drop k:=I5 l k t;have qV:((b8 l).drop k).length=n-k:=by rw[vR,tK]
  rcases uG with rfl |⟨b,off,rfl,mS⟩
  ·simp at ie;omega
  refine(Any2.slices_Insert_int_grow BH b off n n k vb 0 1 vc (b8 l) [.int .i64 t] w iA (by decide) (by omega) (by omega) (by omega) tK rfl mS zw (NM l) h1).mono ?_;rintro e w' ⟨rfl,rfl⟩;refine fresh w.drew.drew _ rfl (fun I=>I.drew.drew) ((Vs.Frame.drew γ H w).trans rfl (Vs.Frame.drew γ H w.drew)) ?_;have jG:((b8 l).take k).length=k:=by rw[pb,tK];omega
  refine(U9 w _ _ [.int .i64 t] ((b8 l).drop k) k ?_).trans ?_
  ·simp only[Px,qG,size_zeroCells,z1,jG,qV,xL];omega
  ·rw[e3,jJ];congr 2
   simp only[YE,xL,qV];rw[U8 _ _ _ jG,show k+1+(n-k)=n+1 by omega,YN (by
    rw[iq,jG,qE,size_zeroCells,z1];omega)]
   simp
theorem agA{aa:List D}{H:Hp}{r:bt}{H':Hp}(h:yW aa H=some (r,H')):yv Tryz.prog W G 77 aa H r H':=by
 refine⟨agr,fun γ w vs I r0=>?_⟩;unfold yW at h;split at h
 ·rename_i s k j;obtain⟨v1,v2,v3,rfl,r1,r2,r3⟩:=Di r0;have r2:=r2.bY.iI;subst r2;split at h
  ·rename_i t sg;cases r3 with
   |aB _ _ _ _ vb vc zu I6 hvm bW vA=>
   split at h
   ·rename_i i n;split at h
    ·rename_i cs hc;split at h
     ·rename_i l hl;split at h
      ·rename_i hh;obtain⟨a1,a2,a3,a4,a5,a6,a7⟩:=hh;cases h;cases r1 with
       |aB _ _ _ _ b c hb eh gC iK dP=>
       obtain⟨k',rfl⟩:∃k':Nat,k=(k':Int):=⟨k.toNat,by omega⟩;exact ags I a1 hb zu hc sg a2 a3 a4 (NL hl) eh gC iK dP I6 bW vA (by omega) a7
      ·cases h
     ·cases h
    ·cases h
   ·split at h
    ·rename_i es hf;split at h
     ·rename_i l hl;split at h
      ·rename_i hk;obtain⟨a5,a6,a7⟩:=hk;cases h;obtain⟨base,rfl,hr⟩:=agw r1 hf;have he:es=l.map fun x=>.int .i64 x:=by
        have h2:=NL hl;have h3:es.map D.p=(l.map fun x=>PD.int .i64 x).map D.p:=by rw[h2,uf];rfl
        exact YK (fun a b h=>by cases h;rfl) |>.1 h3
       have ie:l.length=es.length:=by rw[he,cx]
       obtain⟨k',rfl⟩:∃k':Nat,k=(k':Int):=⟨k.toNat,by omega⟩;exact agy I zu sg I6 bW vA ie (by rw[←he];exact hr) (by omega) a7
      ·cases h
     ·cases h
    ·cases h
  ·cases h
 ·cases h
end Go.Proofs.YtgplgbonlnodeaaGreatDoor
namespace Go.Proofs.YtgplgbonlnodeaaGreatDoor
open Go.Vs
theorem rf{α:Sort _}(a:α):a=a:=rfl
def EM:SC→List (List Nat×SC)
 | .loop k b=>(k,b)::EM b
 | .seq a b | .cond _ a b | .mJ _ _ _ _ a b=>EM a++EM b
 | .block _ b | .scope b | .loc b | .mI b=>EM b
 |_=>[]
noncomputable def bd (x:Option FC) (n:Nat):SC:=(((x.map fun f=>EM f.body).getD []).getD n ([],.skip)).2
def post(Q:Out→Env→Hp→Prop):Option (Out×St)→Prop
 |some (o,⟨e,H⟩)=>Q o e H
 |none=>False
@[simp] theorem agB(Q:Out→Env→Hp→Prop)(o:Out)(e:Env)(H:Hp):post Q (some (o,⟨e,H⟩))↔Q o e H:=Iff.rfl
theorem bJ{Q:Out→Env→Hp→Prop}{x:Option (Out×St)}(h:post Q x):∃o e H,x=some (o,⟨e,H⟩)∧Q o e H:=by
 cases x with
 |none=>exact h.elim
 |some y=>obtain⟨o,e,H⟩:=y;exact⟨o,e,H,rfl,h⟩
theorem aX{Q R:Out→Env→Hp→Prop}{x:Option (Out×St)}(h:post Q x)(hq:∀o e H,Q o e H→R o e H):post R x:=by
 cases x with
 |none=>exact h.elim
 |some y=>obtain⟨o,e,H⟩:=y;exact hq _ _ _ h
variable {c : bC} {G : Nat → Option (List PD)}
@[simp] theorem zz(x:PD):(D.p x).one=x.one:=rfl
theorem BK{x:PD}(h:x.one=true):(D.p x).cells=[.p x]:=by cases x<;>first |rfl |cases h
theorem BL{x:PD}(h:x.one=true):x.cells=[x]:=by cases x<;>first |rfl |cases h
theorem BM(cs:List PD):(D.p (.agg cs)).cells=cs.map .p:=rfl
theorem tL(cs:List PD):(PD.agg cs).cells=cs:=rfl
theorem zA(cs:List D):(D.agg cs).cells=cs:=rfl
theorem BN(i o:Nat):(D.box i o).cells=[.box i o]:=rfl
theorem BO(t e sz:Nat)(es:List PD):(D.bk t e sz es).cells=[.bk t e sz es]:=rfl
theorem BP(e sz:Nat)(es:List PD):(D.cI e sz es).cells=[.cI e sz es]:=rfl
theorem BQ(i e n sz:Nat):(D.aB i e n sz).cells=[.aB i e n sz]:=rfl
theorem BR(i o n:Nat)(c:Option Nat)(sz:Nat):(D.bu i o n c sz).cells=[.bu i o n c sz]:=rfl
theorem BS(f:Nat)(a c:List D):(D.fn f a c).cells=[.fn f a c]:=rfl
theorem BT(i:Nat):(D.bU i).cells=[.bU i]:=rfl
theorem zC(k:IntKind)(n:Int):(D.p (.int k n)).cells=[.p (.int k n)]:=rfl
theorem BU(b:Bool):(D.p (.bool b)).cells=[.p (.bool b)]:=rfl
theorem BV(s:List UInt8):(D.p (.str s)).cells=[.p (.str s)]:=rfl
theorem BW(sz:Nat)(es:List PD):(D.p (.slice sz es)).cells=[.p (.slice sz es)]:=rfl
theorem BX:(D.p .aI).cells=[.p .aI]:=rfl
theorem zD(k:IntKind)(n:Int):(PD.int k n).cells=[.int k n]:=rfl
theorem wZ(b:Bool):(PD.bool b).cells=[.bool b]:=rfl
theorem BZ(s:List UInt8):(PD.str s).cells=[.str s]:=rfl
@[simp] theorem apm(sz:Nat):(PD.emp sz).one=true:=rfl
@[simp] theorem apn:PD.iQ.one=true:=rfl
theorem B2(b:Bool)(x y:SC)(s:St):HW c G (.p (.bool b)) x y s=if b=true then ay c G bf x s else ay c G bf y s:=rfl
theorem B3(keep:List Nat)(b:Bool)(o:SO)(r:List SO)(env:Env)(H:Hp):A2 c G keep (some b) o r env H=if b=true then opsV c G keep (cF c G env H o.k) o.dst r env else sv c G keep r (put o.dst .undef env) H:=by
 cases b<;>rfl
theorem B4(keep:List Nat)(ax:List (Nat×Nat))(un:Env)(b:Bool)(o:SO)(r:List SO)(env:Env)(H:Hp)(acc:List (Nat×Nat)):yL c G keep ax un (some b) o r env H acc=if b=true then yK c G keep ax un (cF c G env H o.k) o r env H acc else mm c G keep ax un r (put o.dst .undef env) H (acc++[(0,0)]):=by
 cases b<;>rfl
theorem Ve{α:Type}{Q:α→Out→Env→Hp→Prop}{x:Option (Out×St)}(h:post (fun o e H=>∃r,Q r o e H) x):∃r,post (Q r) x:=by
 obtain⟨o,e,H,hx,r,hr⟩:=bJ h;exact⟨r,by rw[hx];exact hr⟩
theorem agC{Q:Out→Env→Hp→Prop}{x:Option (Out×St)}{b:SC}(h:post (fun o e H=>post Q (sw c G (some (o,⟨e,H⟩)) b)) x):post Q (sw c G x b):=by
 obtain⟨o,e,H,hx,hr⟩:=bJ h;rw[hx];exact hr
theorem agD{Q:Out→Env→Hp→Prop}{x:Option (Out×St)}{k:Nat}(h:post (fun o e H=>post Q (sy k (some (o,⟨e,H⟩)))) x):post Q (sy k x):=by
 obtain⟨o,e,H,hx,hr⟩:=bJ h;rw[hx];exact hr
def nx(keep:List Nat)(E:Env)(H:Hp):Out→Env→Hp→Prop:=fun o e H'=>o= .norm∧H'=H∧e.keep keep=E.keep keep
theorem Vf{keep:List Nat}{b:SC}{env gi:Env}{H:Hp}(h:env.keep keep=gi.keep keep):eu c G keep b ⟨env,H⟩=eu c G keep b ⟨gi,H⟩:=
 Tb (by dsimp only;rw[h])
theorem eY{σ:Type}{keep:List Nat}{b:SC}(E:σ→Env)(Hh:σ→Hp)(m:σ→Nat)(I:σ→Prop)(Q:Out→Env→Hp→Prop)
    (h:∀s,I s→post (fun o e H=>(∃s',I s'∧m s'<m s∧nx keep (E s') (Hh s') o e H)∨(o≠.norm∧Q o e H)) (ay c G bf b ⟨(E s).keep keep,Hh s⟩)):
    ∀s,I s→post Q (eu c G keep b ⟨E s,Hh s⟩):=by
 have key:∀n s,m s=n→I s→post Q (eu c G keep b ⟨E s,Hh s⟩):=by
  intro n
  induction n using Nat.strongRecOn with
  |_ n ih=>
   intro s hm hi;obtain⟨o,e,H,hx,hq⟩:=bJ (h s hi);rcases hq with⟨s',fk,KW,ho,hH,he⟩ |⟨ho,hq⟩
   ·subst ho;rw[Tc hx,Vf he,hH];exact ih (m s') (hm▸KW) s' rfl fk
   ·rw[Td hx ho];exact hq
 exact fun s=>key (m s) s rfl
theorem jd{keep:List Nat}{b:SC}(E:Nat→Env)(Hh:Nat→Hp)(n:Nat)(I:Nat→Prop)(Q:Out→Env→Hp→Prop)(h0:I 0)
    (h:∀i,i<n→I i→post (fun o e H=>(I (i+1)∧nx keep (E (i+1)) (Hh (i+1)) o e H)∨(o≠.norm∧Q o e H)) (ay c G bf b ⟨(E i).keep keep,Hh i⟩))
    (hn:I n→post (fun o e H=>o≠.norm∧Q o e H) (ay c G bf b ⟨(E n).keep keep,Hh n⟩)):
    post Q (eu c G keep b ⟨E 0,Hh 0⟩):=by
 refine eY E Hh (fun i=>n-i) (fun i=>i≤n∧I i) Q ?_ 0 ⟨b9 _,h0⟩;rintro i ⟨hi,hI⟩;rcases iP i n with ah |kZ
 ·refine aX (h i ah hI) ?_;rintro o e H (⟨h1,h2⟩ |h1)
  ·exact .inl ⟨i+1,⟨ah,h1⟩,by omega,h2⟩
  ·exact .inr h1
 ·have :i=n:=by omega
  subst this;exact aX (hn hI) fun o e H h=>.inr h
theorem B5{keep:List Nat}{b:SC}{E0 E1:Env}{H0 H1:Hp}{Q:Out→Env→Hp→Prop}(h:post (nx keep E1 H1) (ay c G bf b ⟨E0.keep keep,H0⟩))(h2:post Q (eu c G keep b ⟨E1,H1⟩)):post Q (eu c G keep b ⟨E0,H0⟩):=by
 obtain⟨o,e,H,hx,rfl,rfl,he⟩:=bJ h;rw[Tc hx,Vf he];exact h2
theorem agE{keep:List Nat}{b:SC}{E0:Env}{H0:Hp}{Q:Out→Env→Hp→Prop}(h:post (fun o e H=>o≠.norm∧Q o e H) (ay c G bf b ⟨E0.keep keep,H0⟩)):post Q (eu c G keep b ⟨E0,H0⟩):=by
 obtain⟨o,e,H,hx,ho,hq⟩:=bJ h;rw[Td hx ho];exact hq
theorem I7{keep:List Nat}{b:SC}(E:Nat→Env)(H:Hp)(n:Nat)(P:Nat→Prop)(x:Nat)(Q R:Env→Prop)
    (h:∀i,i<n→(∀j,j<i→P j)→P i→post (nx keep (E (i+1)) H) (ay c G bf b ⟨(E i).keep keep,H⟩))
    (hr:∀i,i<n→(∀j,j<i→P j)→¬P i→post (fun o e H'=>o= .ret∧H'=H∧R e) (ay c G bf b ⟨(E i).keep keep,H⟩))
    (hn:post (fun o e H'=>o= .exit x∧H'=H∧Q e) (ay c G bf b ⟨(E n).keep keep,H⟩)):
    (∃e,eu c G keep b ⟨E 0,H⟩=some (.exit x,⟨e,H⟩)∧Q e∧∀i,i<n→P i)∨(∃e,eu c G keep b ⟨E 0,H⟩=some (.ret,⟨e,H⟩)∧R e∧¬∀i,i<n→P i):=by
 have:=jd (c:=c) (G:=G) (keep:=keep) (b:=b) E (fun _=>H) n (fun i=>∀j,j<i→P j) (fun o e H'=>H'=H∧((o= .exit x∧Q e∧∀i,i<n→P i)∨(o= .ret∧R e∧¬∀i,i<n→P i))) (fun j hj=>by omega) ?_ ?_
 ·obtain⟨o,e,H',hx,rfl,hq⟩:=bJ this;rcases hq with⟨rfl,h1,h2⟩ |⟨rfl,h1,h2⟩
  ·exact .inl ⟨e,hx,h1,h2⟩
  ·exact .inr ⟨e,hx,h1,h2⟩
 ·intro i hi hI;by_cases hp:P i
  ·refine aX (h i hi hI hp) fun o e H' hh=>.inl ⟨fun j hj=>?_,hh⟩;rcases iP j i with h1 |h1
   ·exact hI j h1
   ·have :j=i:=by omega
    exact this▸hp
  ·refine aX (hr i hi hI hp) fun o e H' hh=>.inr ?_;obtain⟨rfl,rfl,h1⟩:=hh;exact⟨by simp,rfl,.inr ⟨rfl,h1,fun hh=>hp (hh i hi)⟩⟩
 ·intro hI;refine aX hn fun o e H' hh=>?_;obtain⟨rfl,rfl,h1⟩:=hh;exact⟨by simp,rfl,.inl ⟨rfl,h1,hI⟩⟩
theorem ko{keep:List Nat}{b:SC}(E:Nat→Env)(H:Hp)(n:Nat)(P:Nat→Prop)(x:Nat)(Q R:Env→Prop)
    (h:∀i,i<n→P i→post (nx keep (E (i+1)) H) (ay c G bf b ⟨(E i).keep keep,H⟩))
    (hr:∀i,i<n→¬P i→post (fun o e H'=>o= .ret∧H'=H∧R e) (ay c G bf b ⟨(E i).keep keep,H⟩))
    (hn:post (fun o e H'=>o= .exit x∧H'=H∧Q e) (ay c G bf b ⟨(E n).keep keep,H⟩)):
    (∃e,eu c G keep b ⟨E 0,H⟩=some (.exit x,⟨e,H⟩)∧Q e∧∀i,i<n→P i)∨(∃e,eu c G keep b ⟨E 0,H⟩=some (.ret,⟨e,H⟩)∧R e∧¬∀i,i<n→P i):=
 I7 E H n P x Q R (fun i hi _=>h i hi) (fun i hi _=>hr i hi) hn
theorem tM{keep:List Nat}{b:SC}(E:Nat→Env)(H:Hp)(n:Nat)(P:Nat→Prop)(x:Nat)(Q R:Env→Prop)
    (h:∀i,i<n→post (fun o e H'=>(P i∧nx keep (E (i+1)) H o e H')∨(o= .ret∧H'=H∧R e)) (ay c G bf b ⟨(E i).keep keep,H⟩))
    (hn:post (fun o e H'=>o= .exit x∧H'=H∧Q e) (ay c G bf b ⟨(E n).keep keep,H⟩)):
    (∃e,eu c G keep b ⟨E 0,H⟩=some (.exit x,⟨e,H⟩)∧Q e∧∀i,i<n→P i)∨(∃e,eu c G keep b ⟨E 0,H⟩=some (.ret,⟨e,H⟩)∧R e):=by
 have:=jd (c:=c) (G:=G) (keep:=keep) (b:=b) E (fun _=>H) n (fun i=>∀j,j<i→P j) (fun o e H'=>H'=H∧((o= .exit x∧Q e∧∀i,i<n→P i)∨(o= .ret∧R e))) (fun j hj=>by omega) ?_ ?_
 ·obtain⟨o,e,H',hx,rfl,hq⟩:=bJ this;rcases hq with⟨rfl,h1,h2⟩ |⟨rfl,h1⟩
  ·exact .inl ⟨e,hx,h1,h2⟩
  ·exact .inr ⟨e,hx,h1⟩
 ·intro i hi hI;refine aX (h i hi) ?_;rintro o e H' (⟨hp,hh⟩ |⟨rfl,rfl,h1⟩)
  ·refine .inl ⟨fun j hj=>?_,hh⟩;rcases iP j i with h1 |h1
   ·exact hI j h1
   ·have :j=i:=by omega
    exact this▸hp
  ·exact .inr ⟨by simp,rfl,.inr ⟨rfl,h1⟩⟩
 ·intro hI;refine aX hn fun o e H' hh=>?_;obtain⟨rfl,rfl,h1⟩:=hh;exact⟨by simp,rfl,.inl ⟨rfl,h1,hI⟩⟩
def fin(aH:Bool)(d:D)(H:Hp)(y:D):Prop:=∃d1,(if aH then(d.aH 0 H 8).ren (below 0) some else some d)=some d1∧d1.ren (fun _=>none) (fun _=>none)=some y
@[simp] theorem apo(aH:Bool)(x y:PD)(H:Hp):fin aH (.p x) H (.p y)↔x=y:=by
 unfold fin;cases aH
 ·simp[D.ren]
 ·simp[D.aH,D.ren]
@[simp] theorem apq(aH:Bool)(t e sz:Nat)(es:List PD)(H:Hp)(y:D):fin aH (.bk t e sz es) H y↔y= .p (.slice sz es):=by
 unfold fin;cases aH
 ·simp[D.ren,eq_comm]
 ·simp[D.aH,D.ren,eq_comm]
theorem lQ(k:Nat)(H:Hp):∀(n:Nat) (x:PD),(D.p x).aH k H n= .p x
 | 0,_=>by unfold D.aH;rfl
 |n+1,_=>by unfold D.aH;rfl
theorem Vg(aH:Bool)(xs:List PD)(H:Hp):fin aH (.bA (xs.map .p)) H (.bA (xs.map .p)):=by
 have h1:∀f g,(D.bA (xs.map .p)).ren f g=some (.bA (xs.map .p)):=fun f g=>by simp[D.ren]
 unfold fin;refine⟨.bA (xs.map .p),?_,h1 _ _⟩;cases aH
 ·rfl
 ·have h2:(D.bA (xs.map .p)).aH 0 H 8= .bA (xs.map .p):=by
   unfold D.aH;simp[lQ]
  rw[if_pos rfl,h2,h1]
@[simp] theorem apr(aH:Bool)(a b c d:PD)(H:Hp):fin aH (.bA [.p a,.p b]) H (.bA [.p c,.p d])↔a=c∧b=d:=by
 constructor
 ·intro h;obtain⟨d1,h1,h2⟩:=h;obtain⟨d2,h3,h4⟩:=Vg aH [a,b] H;have e:d1=d2:=by
   rw[show[D.p a,D.p b]=[a,b].map D.p from rfl] at h1;rw[h1] at h3;cases h3;rfl
  subst e;rw[h2] at h4;simp at h4;exact⟨h4.1.symm,h4.2.symm⟩
 ·rintro⟨rfl,rfl⟩;exact Vg aH [a,b] H
theorem Vh(k:Nat)(H:Hp)(t e sz:Nat)(es:List PD):∀n:Nat,(D.bk t e sz es).aH k H n= .bk t e sz es
 | 0=>by unfold D.aH;rfl
 |n+1=>by unfold D.aH;rfl
theorem B6(aH:Bool)(a:PD)(t e sz:Nat)(es:List PD)(H:Hp)(y:D):fin aH (.agg [.p a,.bk t e sz es]) H y↔y= .agg [.p a,.p (.slice sz es)]:=by
 have h1:(D.agg [.p a,.bk t e sz es]).aH 0 H 8= .agg [.p a,.bk t e sz es]:=by
  unfold D.aH;simp[lQ,Vh,ec,gU]
 unfold fin;rw[h1];constructor
 ·rintro⟨d1,g1,g2⟩;have :d1= .agg [.p a,.bk t e sz es]:=by
   cases aH
   ·cases g1;rfl
   ·simp[D.ren,D.ba] at g1;exact g1.symm
  subst this;simp[D.ren,D.ba] at g2;exact g2.symm
 ·rintro rfl;refine⟨.agg [.p a,.bk t e sz es],?_,by simp[D.ren,D.ba]⟩;cases aH
  ·rfl
  ·simp[D.ren,D.ba]
def gives(aH:Bool)(res:List ou)(y:D):Out→Env→Hp→Prop:=fun o e H=>(o= .ret∨o= .norm)∧∃d,lX pg.G e H res=some d∧fin aH d H y
theorem tN{f:Nat}{fc:FC}{aa:List D}{y:D}(hF:pg.F f=some fc)(kP:pg.lib f aa ⟨[],[]⟩=none)(hn:aa.length=fc.np)(hd:fc.iu=none)(hr:D.aD aa=[])(ht:D.bz aa=[])(ha:D.ba (idx []) (idx []) aa=some aa)
    (h:post (gives fc.aH fc.res y) (ay (call pg) pg.G bf fc.body ⟨entry 0 aa,⟨[],[]⟩⟩)):
    ∀H,av (call pg) f aa H=some (.val y,H):=by
 intro H;obtain⟨o,e,H1,hx,ho,d,iC,d1,h1,h2⟩:=bJ h;have dY:finish pg.G fc.res (some (o,⟨e,H1⟩))=some (.val d,H1):=by
  rcases ho with rfl |rfl
  ·simp only[finish,iC]
  ·simp only[finish,iC]
 have hc:∃Hl,call pg f aa ⟨[],[]⟩=some (.val d1,Hl):=by
  cases hz:fc.aH with
  |false=>
   rw[hz] at h1;cases h1;exact⟨H1,tF kP hF hn (by simp only[hz,mO,iT,hd,hx,dY];rfl)⟩
  |true=>
   rw[hz,if_pos rfl] at h1;exact⟨⟨[],H1.tk⟩,tF kP hF hn (by
    simp only[hz,mO,iT,hd,hx,dY,if_true,eA,rM,fW,vT,aP,bt.aH,bt.ren,h1,b9])⟩
 obtain⟨Hl,hc⟩:=hc;exact HX hc hr ht ha h2
theorem aG{f:Nat}{fc:FC}{aa:List PD}{y:D}(hF:pg.F f=some fc)(kP:pg.lib f (aa.map .p) ⟨[],[]⟩=none)(hn:aa.length=fc.np)(hd:fc.iu=none)
    (h:post (gives fc.aH fc.res y) (ay (call pg) pg.G bf fc.body ⟨entry 0 (aa.map .p),⟨[],[]⟩⟩)):
    ∀H,av (call pg) f (aa.map .p) H=some (.val y,H):=
 tN hF kP (by simpa using hn) hd (oO aa) (sC aa) (iM _ _ aa) h
theorem zE{α:Type}{y:α→D}{R:α→Prop}{f:Nat}{fc:FC}{aa:List PD}(hF:pg.F f=some fc)(kP:pg.lib f (aa.map .p) ⟨[],[]⟩=none)(hn:aa.length=fc.np)(hd:fc.iu=none)
    (h:post (fun o e H=>∃r,R r∧gives fc.aH fc.res (y r) o e H) (ay (call pg) pg.G bf fc.body ⟨entry 0 (aa.map .p),⟨[],[]⟩⟩)):
    ∃r,(∀H,av (call pg) f (aa.map .p) H=some (.val (y r),H))∧R r:=by
 obtain⟨r,hr⟩:=Ve h;obtain⟨_,_,_,_,h2⟩:=bJ hr;exact⟨r,aG hF kP hn hd (aX hr fun _ _ _ h=>h.2),h2.1⟩
theorem Vi{α:Type}{y:α→D}{f:Nat}{fc:FC}{aa:List PD}(hF:pg.F f=some fc)(kP:pg.lib f (aa.map .p) ⟨[],[]⟩=none)(hn:aa.length=fc.np)(hd:fc.iu=none)
    (h:post (fun o e H=>∃r,gives fc.aH fc.res (y r) o e H) (ay (call pg) pg.G bf fc.body ⟨entry 0 (aa.map .p),⟨[],[]⟩⟩)):
    ∃r,∀H,av (call pg) f (aa.map .p) H=some (.val (y r),H):=by
 obtain⟨r,hr⟩:=Ve h;exact⟨r,aG hF kP hn hd hr⟩
theorem zF(f g:Nat→Option Nat):∀(e:Env) (s:Nat),Env.get (e.map fun y=>(y.1,(y.2.ren f g).getD .dead)) s=((e.get s).ren f g).getD .dead
 |[],s=>by simp[Env.get,D.ren]
 |(t,d)::e,s=>by
  simp only[dA,Env.get];split
  ·rfl
  ·exact zF f g e s
end Go.Proofs.YtgplgbonlnodeaaGreatDoor
namespace Go.Proofs.YtgplgbonlnodeaaGreatDoor
open Go.Vs
set_option maxRecDepth 100000
theorem jL(n sz b o:Nat)(i:Int):eN (some n) sz (.box b o) i=if 0≤i∧i<n then some (.box b (o+i.toNat*sz)) else none:=rfl
theorem B7(n sz:Nat)(cs:List PD)(o:Nat)(i:Int):eN (some n) sz (.ro cs o) i=if 0≤i∧i<n then some (.ro cs (o+i.toNat*sz)) else none:=rfl
attribute [local simp] cF aN fF put Env.get Env.keep entry aw.ev ph uk aE cutAt uj D.rJ D.lC u8 vZ ui v5 kB sub v7 p8 PD.eqv jP cls gN rL bq kC nD pj eP qL finish lX qM aP D.aD D.refs D.bz D.cJ ec gU aO ov fj eF D.iR D.eM qF rK sX qJ D.jn aU A8 A9 wL Ba Bb jL B7 gives nx B2 B3 B4 pZ zz dJ below Out.ren D.ren D.ba zF B6 BK BL BM tL zA BN BO BP BQ BR BS BT zC BU BV BW BX zD wZ BZ
def af(a:Sl Int):PD:=fD 1 (a.map (PD.int .i64))
theorem aR(a:Sl Int):fg 1 (.p (af a))=some (els a).length:=sA 1 _ a
theorem cK{a:Sl Int}{k:Nat}(h:k<(els a).length):eN none 1 (.p (af a)) (k:Int)=some (.ro [.int .i64 (els a)[k]] 0):=sB h
@[simp] theorem aps(a:Sl Int):(D.p (af a)).one=true:=adZ 1 _
@[simp] theorem apt(a:Sl Int):(af a).one=true:=rp 1 _
structure Rl where
 ar:Int
 tu:Sl Int
def Rl.p(r:Rl):PD:=.agg [.int .i64 r.ar,af r.tu]
def iN(s:Sl Rl):PD:=fD 2 (s.map Rl.p)
theorem je(s:Sl Rl):fg 1 (.p (iN s))=some (els s).length:=sA 2 _ s
theorem mn{s:Sl Rl}{k:Nat}(h:k<(els s).length):eN none 2 (.p (iN s)) (k:Int)=some (.ro [.int .i64 (els s)[k].ar,af (els s)[k].tu] 0):=sB h
@[simp] theorem apu(a:Sl Rl):(iN a).one=true:=rp 2 _
def bK(s:Sl (Sl Rl)):PD:=fD 1 (s.map iN)
theorem eJ(s:Sl (Sl Rl)):fg 1 (.p (bK s))=some (els s).length:=sA 1 _ s
theorem NS(a:Sl Rl):(iN a).cells=[iN a]:=by
 unfold iN;cases a with
 |nil=>rfl
 |cV=>rfl
 |of l=>cases l<;>rfl
theorem jf{s:Sl (Sl Rl)}{k:Nat}(h:k<(els s).length):eN none 1 (.p (bK s)) (k:Int)=some (.ro [iN (els s)[k]] 0):=by
 have:=sB (sz:=1) (f:=iN) h;rw[NS] at this;exact this
@[simp] theorem apv(a:Sl (Sl Rl)):(bK a).one=true:=rp 1 _
structure Fi where
 nm:List UInt8
 so:Sl Int
 va:Bool
def Fi.p(f:Fi):PD:=.agg [.str f.nm,af f.so,.bool f.va]
def bZ(s:Sl Fi):PD:=fD 3 (s.map Fi.p)
theorem dg(s:Sl Fi):fg 1 (.p (bZ s))=some (els s).length:=sA 3 _ s
theorem lR{s:Sl Fi}{k:Nat}(h:k<(els s).length):eN none 3 (.p (bZ s)) (k:Int)=some (.ro [.str (els s)[k].nm,af (els s)[k].so,.bool (els s)[k].va] 0):=sB h
@[simp] theorem EN(a:Sl Fi):(bZ a).one=true:=rp 3 _
structure Bn where
 lo:Rl
 up:Rl
def Bn.p(b:Bn):PD:=.agg [.int .i64 b.lo.ar,af b.lo.tu,.int .i64 b.up.ar,af b.up.tu]
def bG(s:Sl Bn):PD:=fD 4 (s.map Bn.p)
theorem gp(s:Sl Bn):fg 1 (.p (bG s))=some (els s).length:=sA 4 _ s
theorem pM{s:Sl Bn}{k:Nat}(h:k<(els s).length):eN none 4 (.p (bG s)) (k:Int)=some (.ro [.int .i64 (els s)[k].lo.ar,af (els s)[k].lo.tu,.int .i64 (els s)[k].up.ar,af (els s)[k].up.tu] 0):=sB h
@[simp] theorem apw(a:Sl Bn):(bG a).one=true:=rp 4 _
theorem agF(a b:Sl Int)(ha:(els a).length<4611686018427387904):
    ∃r:Bool,(∀H,av (call pg) 29 [.p (af a),.p (af b)] H=some (.val (.p (.bool r)),H))∧(r=true↔els a=els b):=by
 have ae:=rf (bd Il 0)
 conv at ae=>rhs;reduce
 have hf:=rf Il
 conv at hf=>rhs;reduce
 rw[←ae] at hf;by_cases hl:(els a).length=(els b).length
 ·have key:=ko (c:=call pg) (G:=pg.G) (keep:=[0,1,5]) (b:=bd Il 0) (fun i=>[(0,.p (af a)),(1,.p (af b)),(5,.p (.int .i64 (i:Int)))]) ⟨[],[]⟩ (els a).length
   (fun i=>(els a)[i]? =(els b)[i]?) 0 (fun _=>True) (fun e=>e.get 4= .p (.bool false)) ?_ ?_ ?_
  ·rcases key with⟨e,hx,-,hp⟩ |⟨e,hx,hr,hp⟩
   ·refine⟨true,aG (aa:=[_,_]) hf rfl rfl rfl ?_,iff_of_true rfl ?_⟩
    ·simp[aR,hl] at hx⊢;simp[hx]
    ·refine oh fun i=>?_;rcases iP i (els a).length with h |h
     ·exact hp i h
     ·rw[lU h,lU (hl▸h)]
   ·refine⟨false,aG (aa:=[_,_]) hf rfl rfl rfl ?_,iff_of_false (by simp) fun hh=>hp fun i _=>by rw[hh]⟩;simp[aR,hl] at hx⊢;simp[hx,hr]
  ·intro i hi hP;rw[ae];clear hf ae;have bp:i<(els b).length:=hl▸hi;rw[aA hi,aA bp,bI] at hP;simp[aR,cK hi,cK bp,hi,hP,bw (k:=i) (by omega)]
  ·intro i hi hP;rw[ae];clear hf ae;have bp:i<(els b).length:=hl▸hi;rw[aA hi,aA bp,bI] at hP;simp[aR,cK hi,cK bp,hi,hP]
  ·rw[ae];clear hf ae;simp[aR]
 ·refine⟨false,aG (aa:=[_,_]) hf rfl rfl rfl ?_,iff_of_false (by simp) fun h=>hl (by rw[h])⟩;simp[aR,hl]
end Go.Proofs.YtgplgbonlnodeaaGreatDoor
