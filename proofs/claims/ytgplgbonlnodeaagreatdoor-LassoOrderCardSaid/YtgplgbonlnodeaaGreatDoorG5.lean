/-
  A value-level evaluator for Go functions; the functions of this cut by it; plain laws. Text G5.
-/
import Derived.Test.YtgplgbonlnodeaaGreatDoorG1
import Derived.Test.YtgplgbonlnodeaaGreatDoorG4
import Derived.Test.YtgplgbonlnodeaaGreatDoorProg
import Derived.KernelRfl
import Derived.Shelf.Slices.SearchI
import Derived.Shelf.Slices.Empties
import Derived.RangeFuncKeeps
import Derived.RangeFuncLeaves
import Derived.Shelf.Abstract
import Derived.WalkKit
import Derived.OwnWalkIn
import Derived.TacticsInMore
import Derived.LoopNIn
import Derived.LoopIn
import Derived.WalkSmall
import Derived.Sort.QuietIn
import Derived.Deep.RegionHeld3
import Derived.Tactics2
import Derived.Deep.QuietTactic
import Derived.BigQuiet
import Derived.IntWalk
namespace Go.Proofs.YtgplgbonlnodeaaGreatDoor
open Go.Vs
def intOf:PD→Option Int
 | .int .i64 n=>some n
 |_=>none
def intsOf:PD→Option (List Int)
 | .nils=>some []
 | .emp sz=>if sz=1 then some [] else none
 | .slice sz es=>if sz=1 then mapO intOf es else none
 |_=>none
def srtd:List Int→Bool
 |a::b::r=>decide (a≤b)&&srtd (b::r)
 |_=>true
def gen226(fi cap:List D)(_:Hp):Option (List (List D)):=
 match fi,cap with
 |[],[.ro [_,lo,_,up] 0]=>match intsOf lo,intsOf up with
  |some l,some u=>if srtd l=true∧l.length<4611686018427387904∧u.length<4611686018427387904 then some ((u.filter fun t=>!l.contains t).map fun t=>[.p (.int .i64 t)]) else none
  |_,_=>none
 |_,_=>none
def varOf:PD→Option Bool
 | .agg [_,_,.bool v]=>some v
 |_=>none
def varsOf:PD→Option (List Bool)
 | .nils=>some []
 | .emp sz=>if sz=3 then some [] else none
 | .slice sz es=>if sz=3 then mapO varOf es else none
 |_=>none
def pairOf:PD→Option (Int×Int)
 | .agg [.int .i64 a,.int .i64 b]=>some (a,b)
 |_=>none
def pairsOf:PD→Option (List (Int×Int))
 | .nils=>some []
 | .emp sz=>if sz=2 then some [] else none
 | .slice sz es=>if sz=2 then mapO pairOf es else none
 |_=>none
def skipE(vs:List Bool)(s:Nat)(a:Int):Bool:=decide (0<s)&& !(vs.getD a.toNat false)
def ents(vs:List Bool)(s:Nat):List (Int×Int)→Nat→List (Nat×Nat×Int×Int)
 |[],_=>[]
 |(a,b)::r,v=>if skipE vs s a then ents vs s r v else(v+1,s,a,b)::ents vs s r (v+1)
def entsA(vs:List Bool)(free:List (Int×Int)):Nat→Nat→Nat→List (Nat×Nat×Int×Int)
 | 0,_,_=>[]
 |n+1,s,v=>ents vs s free v++entsA vs free n (s+1) (v+(ents vs s free v).length)
def selN(steps:Int):Nat:=if 1<steps then steps.toNat else 0
def entD(e:Nat×Nat×Int×Int):List D:=[.p (.agg [.int .i64 (e.1:Int),.int .i64 (e.2.1:Int),.int .i64 e.2.2.1,.int .i64 e.2.2.2])]
def gen68(fi cap:List D)(_:Hp):Option (List (List D)):=
 match fi,cap with
 |[.ro [_,.int .i64 steps,_,fs,_,_,_,fr] 0],[]=>match varsOf fs,pairsOf fr with
  |some vs,some free=>
   if steps<4611686018427387904∧free.length<4611686018427387904∧(free.all fun p=>decide (0≤p.1∧p.1<(vs.length:Int)))=true∧selN steps+(entsA vs free steps.toNat 0 (selN steps)).length<4611686018427387904 then
    some ((entsA vs free steps.toNat 0 (selN steps)).map entD) else none
  |_,_=>none
 |_,_=>none
def tupL(ats:List Int):List Int→Int→List Int
 |[],p=>[p]
 |s::r,p=>(List.range (ats.getD s.toNat 0).toNat).flatMap fun(j:Nat)=>tupL ats r (IntKind.i64.wrap (IntKind.i64.wrap (p*ats.sum)+((ats.take s.toNat).sum+(j:Int))))
def gen237(fi cap:List D)(_:Hp):Option (List (List D)):=
 match fi,cap with
 |[],[.ro [sd] 0,.ro [.int .i64 p] 0,.ro [ad,_] 0]=>match intsOf sd,intsOf ad with
  |some ss,some ats=>
   if(ats.all fun a=>decide (0≤a))=true∧ats.sum<4611686018427387904∧(ss.all fun s=>decide (0≤s∧s<(ats.length:Int)))=true∧ats.length<4611686018427387904∧ss.length<4611686018427387904 then
    some ((tupL ats ss p).map fun t=>[.p (.int .i64 t)]) else none
  |_,_=>none
 |_,_=>none
def genG:Nat→List D→List D→Hp→Option (List (List D))
 | 68=>gen68
 | 226=>gen226
 | 237=>gen237
 |_=>fun _ _ _=>none
def cf:Cf:=⟨[16,24,248,250],[58,59,60,62,73,76,93,118,136,144,175,210,236,247,248,250,293,296,97],[(56,68),(59,68),(18,68),(104,226),(116,237)],genG,[98,102,155,53,235,223,224,222,286],[(222,8,253,65),(223,3,4,1),(224,3,361,66)],[97]⟩
noncomputable def a10:Option FC:=autoF Tryz.prog cf 10 Tryz.f10
noncomputable def a15:Option FC:=autoF Tryz.prog cf 15 Tryz.f15
noncomputable def a16:Option FC:=autoF Tryz.prog cf 16 Tryz.f16
noncomputable def a18:Option FC:=autoF Tryz.prog cf 18 Tryz.f18
noncomputable def a21:Option FC:=autoF Tryz.prog cf 21 Tryz.f21
noncomputable def a22:Option FC:=autoF Tryz.prog cf 22 Tryz.f22
noncomputable def a23:Option FC:=autoF Tryz.prog cf 23 Tryz.f23
noncomputable def a24:Option FC:=autoF Tryz.prog cf 24 Tryz.f24
noncomputable def a29:Option FC:=autoF Tryz.prog cf 29 Tryz.f29
noncomputable def a33:Option FC:=autoF Tryz.prog cf 33 Tryz.f33
noncomputable def a35:Option FC:=autoF Tryz.prog cf 35 Tryz.f35
noncomputable def a36:Option FC:=autoF Tryz.prog cf 36 Tryz.f36
noncomputable def a38:Option FC:=autoF Tryz.prog cf 38 Tryz.f38
noncomputable def a43:Option FC:=autoF Tryz.prog cf 43 Tryz.f43
noncomputable def a44:Option FC:=autoF Tryz.prog cf 44 Tryz.f44
noncomputable def a45:Option FC:=autoF Tryz.prog cf 45 Tryz.f45
noncomputable def a55:Option FC:=autoF Tryz.prog cf 55 Tryz.f55
noncomputable def a56:Option FC:=autoF Tryz.prog cf 56 Tryz.f56
noncomputable def a57:Option FC:=autoF Tryz.prog cf 57 Tryz.f57
noncomputable def a58:Option FC:=autoF Tryz.prog cf 58 Tryz.f58
noncomputable def a59:Option FC:=autoF Tryz.prog cf 59 Tryz.f59
noncomputable def a60:Option FC:=autoF Tryz.prog cf 60 Tryz.f60
noncomputable def a61:Option FC:=autoF Tryz.prog cf 61 Tryz.f61
noncomputable def a62:Option FC:=autoF Tryz.prog cf 62 Tryz.f62
noncomputable def a65:Option FC:=autoF Tryz.prog cf 65 Tryz.f65
noncomputable def a66:Option FC:=autoF Tryz.prog cf 66 Tryz.f66
noncomputable def a67:Option FC:=autoF Tryz.prog cf 67 Tryz.f67
noncomputable def a69:Option FC:=autoF Tryz.prog cf 69 Tryz.f69
noncomputable def a72:Option FC:=autoF Tryz.prog cf 72 Tryz.f72
noncomputable def a73:Option FC:=autoF Tryz.prog cf 73 Tryz.f73
noncomputable def a74:Option FC:=autoF Tryz.prog cf 74 Tryz.f74
noncomputable def a75:Option FC:=autoF Tryz.prog cf 75 Tryz.f75
noncomputable def a76:Option FC:=autoF Tryz.prog cf 76 Tryz.f76
noncomputable def a77:Option FC:=autoF Tryz.prog cf 77 Tryz.f77
noncomputable def a87:Option FC:=autoF Tryz.prog cf 87 Tryz.f87
noncomputable def a88:Option FC:=autoF Tryz.prog cf 88 Tryz.f88
noncomputable def a89:Option FC:=autoF Tryz.prog cf 89 Tryz.f89
noncomputable def a90:Option FC:=autoF Tryz.prog cf 90 Tryz.f90
noncomputable def a91:Option FC:=autoF Tryz.prog cf 91 Tryz.f91
noncomputable def a92:Option FC:=autoF Tryz.prog cf 92 Tryz.f92
noncomputable def a93:Option FC:=autoF Tryz.prog cf 93 Tryz.f93
noncomputable def a104:Option FC:=autoF Tryz.prog cf 104 Tryz.f104
noncomputable def a105:Option FC:=autoF Tryz.prog cf 105 Tryz.f105
noncomputable def a107:Option FC:=autoF Tryz.prog cf 107 Tryz.f107
noncomputable def a108:Option FC:=autoF Tryz.prog cf 108 Tryz.f108
noncomputable def a111:Option FC:=autoF Tryz.prog cf 111 Tryz.f111
noncomputable def a112:Option FC:=autoF Tryz.prog cf 112 Tryz.f112
noncomputable def a113:Option FC:=autoF Tryz.prog cf 113 Tryz.f113
noncomputable def a114:Option FC:=autoF Tryz.prog cf 114 Tryz.f114
noncomputable def a115:Option FC:=autoF Tryz.prog cf 115 Tryz.f115
noncomputable def a116:Option FC:=autoF Tryz.prog cf 116 Tryz.f116
noncomputable def a118:Option FC:=autoF Tryz.prog cf 118 Tryz.f118
noncomputable def a119:Option FC:=autoF Tryz.prog cf 119 Tryz.f119
noncomputable def a120:Option FC:=autoF Tryz.prog cf 120 Tryz.f120
noncomputable def a121:Option FC:=autoF Tryz.prog cf 121 Tryz.f121
noncomputable def a122:Option FC:=autoF Tryz.prog cf 122 Tryz.f122
noncomputable def a123:Option FC:=autoF Tryz.prog cf 123 Tryz.f123
noncomputable def a134:Option FC:=autoF Tryz.prog cf 134 Tryz.f134
noncomputable def a135:Option FC:=autoF Tryz.prog cf 135 Tryz.f135
noncomputable def a136:Option FC:=autoF Tryz.prog cf 136 Tryz.f136
noncomputable def a141:Option FC:=autoF Tryz.prog cf 141 Tryz.f141
noncomputable def a144:Option FC:=autoF Tryz.prog cf 144 Tryz.f144
noncomputable def a145:Option FC:=autoF Tryz.prog cf 145 Tryz.f145
noncomputable def a146:Option FC:=autoF Tryz.prog cf 146 Tryz.f146
noncomputable def a147:Option FC:=autoF Tryz.prog cf 147 Tryz.f147
noncomputable def a159:Option FC:=autoF Tryz.prog cf 159 Tryz.f159
noncomputable def a160:Option FC:=autoF Tryz.prog cf 160 Tryz.f160
noncomputable def a161:Option FC:=autoF Tryz.prog cf 161 Tryz.f161
noncomputable def a162:Option FC:=autoF Tryz.prog cf 162 Tryz.f162
noncomputable def a171:Option FC:=autoF Tryz.prog cf 171 Tryz.f171
noncomputable def a172:Option FC:=autoF Tryz.prog cf 172 Tryz.f172
noncomputable def a173:Option FC:=autoF Tryz.prog cf 173 Tryz.f173
noncomputable def a174:Option FC:=autoF Tryz.prog cf 174 Tryz.f174
noncomputable def a175:Option FC:=autoF Tryz.prog cf 175 Tryz.f175
noncomputable def a176:Option FC:=autoF Tryz.prog cf 176 Tryz.f176
noncomputable def a177:Option FC:=autoF Tryz.prog cf 177 Tryz.f177
noncomputable def a178:Option FC:=autoF Tryz.prog cf 178 Tryz.f178
noncomputable def a179:Option FC:=autoF Tryz.prog cf 179 Tryz.f179
noncomputable def a180:Option FC:=autoF Tryz.prog cf 180 Tryz.f180
noncomputable def a189:Option FC:=autoF Tryz.prog cf 189 Tryz.f189
noncomputable def a190:Option FC:=autoF Tryz.prog cf 190 Tryz.f190
noncomputable def a198:Option FC:=autoF Tryz.prog cf 198 Tryz.f198
noncomputable def a200:Option FC:=autoF Tryz.prog cf 200 Tryz.f200
noncomputable def a202:Option FC:=autoF Tryz.prog cf 202 Tryz.f202
noncomputable def a203:Option FC:=autoF Tryz.prog cf 203 Tryz.f203
noncomputable def a204:Option FC:=autoF Tryz.prog cf 204 Tryz.f204
noncomputable def a207:Option FC:=autoF Tryz.prog cf 207 Tryz.f207
noncomputable def a209:Option FC:=autoF Tryz.prog cf 209 Tryz.f209
noncomputable def a210:Option FC:=autoF Tryz.prog cf 210 Tryz.f210
noncomputable def a232:Option FC:=autoF Tryz.prog cf 232 Tryz.f232
noncomputable def a233:Option FC:=autoF Tryz.prog cf 233 Tryz.f233
noncomputable def a234:Option FC:=autoF Tryz.prog cf 234 Tryz.f234
noncomputable def a235:Option FC:=autoF Tryz.prog cf 235 Tryz.f235
noncomputable def a236:Option FC:=autoF Tryz.prog cf 236 Tryz.f236
noncomputable def a238:Option FC:=autoF Tryz.prog cf 238 Tryz.f238
noncomputable def a247:Option FC:=autoF Tryz.prog cf 247 Tryz.f247
noncomputable def a248:Option FC:=autoF Tryz.prog cf 248 Tryz.f248
noncomputable def a249:Option FC:=autoF Tryz.prog cf 249 Tryz.f249
noncomputable def a250:Option FC:=autoF Tryz.prog cf 250 Tryz.f250
noncomputable def a254:Option FC:=autoF Tryz.prog cf 254 Tryz.f254
noncomputable def a259:Option FC:=autoF Tryz.prog cf 259 Tryz.f259
noncomputable def a260:Option FC:=autoF Tryz.prog cf 260 Tryz.f260
noncomputable def a281:Option FC:=autoF Tryz.prog cf 281 Tryz.f281
noncomputable def a293:Option FC:=autoF Tryz.prog cf 293 Tryz.f293
noncomputable def a295:Option FC:=autoF Tryz.prog cf 295 Tryz.f295
noncomputable def a296:Option FC:=autoF Tryz.prog cf 296 Tryz.f296
noncomputable def a301:Option FC:=autoF Tryz.prog cf 301 Tryz.f301
noncomputable def a323:Option FC:=autoF Tryz.prog cf 323 Tryz.f323
noncomputable def a333:Option FC:=autoF Tryz.prog cf 333 Tryz.f333
noncomputable def a351:Option FC:=autoF Tryz.prog cf 351 Tryz.f351
noncomputable def a352:Option FC:=autoF Tryz.prog cf 352 Tryz.f352
noncomputable def a6:Option FC:=autoF Tryz.prog cf 6 Tryz.f6
noncomputable def a11:Option FC:=autoF Tryz.prog cf 11 Tryz.f11
noncomputable def a12:Option FC:=autoF Tryz.prog cf 12 Tryz.f12
noncomputable def a26:Option FC:=autoF Tryz.prog cf 26 Tryz.f26
noncomputable def a27:Option FC:=autoF Tryz.prog cf 27 Tryz.f27
noncomputable def a30:Option FC:=autoF Tryz.prog cf 30 Tryz.f30
noncomputable def a31:Option FC:=autoF Tryz.prog cf 31 Tryz.f31
noncomputable def a46:Option FC:=autoF Tryz.prog cf 46 Tryz.f46
noncomputable def a47:Option FC:=autoF Tryz.prog cf 47 Tryz.f47
noncomputable def a48:Option FC:=autoF Tryz.prog cf 48 Tryz.f48
noncomputable def a49:Option FC:=autoF Tryz.prog cf 49 Tryz.f49
noncomputable def a50:Option FC:=autoF Tryz.prog cf 50 Tryz.f50
noncomputable def a53:Option FC:=autoF Tryz.prog cf 53 Tryz.f53
noncomputable def a70:Option FC:=autoF Tryz.prog cf 70 Tryz.f70
noncomputable def a79:Option FC:=autoF Tryz.prog cf 79 Tryz.f79
noncomputable def a80:Option FC:=autoF Tryz.prog cf 80 Tryz.f80
noncomputable def a81:Option FC:=autoF Tryz.prog cf 81 Tryz.f81
noncomputable def a82:Option FC:=autoF Tryz.prog cf 82 Tryz.f82
noncomputable def a84:Option FC:=autoF Tryz.prog cf 84 Tryz.f84
noncomputable def a96:Option FC:=autoF Tryz.prog cf 96 Tryz.f96
noncomputable def a97:Option FC:=autoF Tryz.prog cf 97 Tryz.f97
noncomputable def a98:Option FC:=autoF Tryz.prog cf 98 Tryz.f98
noncomputable def a99:Option FC:=autoF Tryz.prog cf 99 Tryz.f99
noncomputable def a100:Option FC:=autoF Tryz.prog cf 100 Tryz.f100
noncomputable def a101:Option FC:=autoF Tryz.prog cf 101 Tryz.f101
noncomputable def a102:Option FC:=autoF Tryz.prog cf 102 Tryz.f102
noncomputable def a103:Option FC:=autoF Tryz.prog cf 103 Tryz.f103
noncomputable def a117:Option FC:=autoF Tryz.prog cf 117 Tryz.f117
noncomputable def a126:Option FC:=autoF Tryz.prog cf 126 Tryz.f126
noncomputable def a127:Option FC:=autoF Tryz.prog cf 127 Tryz.f127
noncomputable def a128:Option FC:=autoF Tryz.prog cf 128 Tryz.f128
noncomputable def a129:Option FC:=autoF Tryz.prog cf 129 Tryz.f129
noncomputable def a151:Option FC:=autoF Tryz.prog cf 151 Tryz.f151
noncomputable def a152:Option FC:=autoF Tryz.prog cf 152 Tryz.f152
noncomputable def a153:Option FC:=autoF Tryz.prog cf 153 Tryz.f153
noncomputable def a154:Option FC:=autoF Tryz.prog cf 154 Tryz.f154
noncomputable def a155:Option FC:=autoF Tryz.prog cf 155 Tryz.f155
noncomputable def a156:Option FC:=autoF Tryz.prog cf 156 Tryz.f156
noncomputable def a157:Option FC:=autoF Tryz.prog cf 157 Tryz.f157
noncomputable def a158:Option FC:=autoF Tryz.prog cf 158 Tryz.f158
noncomputable def a182:Option FC:=autoF Tryz.prog cf 182 Tryz.f182
noncomputable def a183:Option FC:=autoF Tryz.prog cf 183 Tryz.f183
noncomputable def a186:Option FC:=autoF Tryz.prog cf 186 Tryz.f186
noncomputable def a221:Option FC:=autoF Tryz.prog cf 221 Tryz.f221
noncomputable def a222:Option FC:=autoF Tryz.prog cf 222 Tryz.f222
noncomputable def a223:Option FC:=autoF Tryz.prog cf 223 Tryz.f223
noncomputable def a224:Option FC:=autoF Tryz.prog cf 224 Tryz.f224
noncomputable def a225:Option FC:=autoF Tryz.prog cf 225 Tryz.f225
noncomputable def a240:Option FC:=autoF Tryz.prog cf 240 Tryz.f240
noncomputable def a241:Option FC:=autoF Tryz.prog cf 241 Tryz.f241
noncomputable def a242:Option FC:=autoF Tryz.prog cf 242 Tryz.f242
noncomputable def a243:Option FC:=autoF Tryz.prog cf 243 Tryz.f243
noncomputable def a282:Option FC:=autoF Tryz.prog cf 282 Tryz.f282
noncomputable def a283:Option FC:=autoF Tryz.prog cf 283 Tryz.f283
noncomputable def a284:Option FC:=autoF Tryz.prog cf 284 Tryz.f284
noncomputable def a285:Option FC:=autoF Tryz.prog cf 285 Tryz.f285
noncomputable def a286:Option FC:=autoF Tryz.prog cf 286 Tryz.f286
noncomputable def a287:Option FC:=autoF Tryz.prog cf 287 Tryz.f287
noncomputable def a288:Option FC:=autoF Tryz.prog cf 288 Tryz.f288
noncomputable def a290:Option FC:=autoF Tryz.prog cf 290 Tryz.f290
noncomputable def a324:Option FC:=autoF Tryz.prog cf 324 Tryz.f324
noncomputable def a325:Option FC:=autoF Tryz.prog cf 325 Tryz.f325
noncomputable def a326:Option FC:=autoF Tryz.prog cf 326 Tryz.f326
noncomputable def a327:Option FC:=autoF Tryz.prog cf 327 Tryz.f327
noncomputable def a328:Option FC:=autoF Tryz.prog cf 328 Tryz.f328
noncomputable def a329:Option FC:=autoF Tryz.prog cf 329 Tryz.f329
noncomputable def a330:Option FC:=autoF Tryz.prog cf 330 Tryz.f330
noncomputable def a373:Option FC:=autoF Tryz.prog cf 373 Tryz.f373
def fc138:FC where
 nt:=7
 np:=1
 res:=[.cell 2 (some 2)]
 body:=(.seq (.region [2] [⟨some 4,.move (.t 0),none⟩,⟨some 5,.call (.t 4) [],none⟩]) (.seq (.region [2] [⟨some 6,.load (some 2) (.t 2),none⟩,⟨none,.store 2 (.t 2) (.t 6),none⟩]) .ret))
 dfr:=some ⟨[
  (.region [0,2] [
  ⟨some 2,.alloc [.int .i64 0,.int .i64 0],none⟩])],
  [0,2],[
  ⟨some 3,.mkfn 191 [] [(.t 2)],none⟩],
  (.t 3),[]⟩
def fc143:FC where
 nt:=32
 np:=6
 res:=[.cell 12 (some 1),.cell 13 none]
 body:=(.seq (.draw [5,12,13,14] [(0,1),(0,2),(1,2),(0,5),(1,5),(2,5),(0,6),(1,6),(2,6)] [⟨some 16,.load (some 1) (.t 10),none⟩,⟨some 17,.load (some 4) (.t 6),none⟩,⟨some 18,.load (some 2) (.t 7),none⟩,⟨some 19,.move (.t 2),none⟩,⟨some 20,.move (.t 3),none⟩,⟨some 21,.load (some 2) (.t 7),none⟩,⟨some 22,.call (.c (.fn 112 [] [])) [(.t 21)],none⟩,
  ⟨some 23,.build [.nils,.nils,.nils,.nils,.nils,.nils,.int .i64 0,.nils,.int .i64 0,.int .i64 0] [(0,1,(.t 16)),(1,4,(.t 17)),(5,2,(.t 18)),(7,1,(.t 19)),(8,1,(.t 20)),(9,1,(.t 22))],none⟩,⟨some 24,.box (.t 23),none⟩,⟨some 14,.move (.t 24),none⟩]) (.seq (.region [12,13,14] [⟨some 25,.move (.t 5),none⟩,⟨some 26,.move (.t 14),none⟩,
  ⟨some 27,.call (.t 25) [(.t 26)],none⟩]) (.seq (.region [12,13] [⟨some 28,.move (.t 14),none⟩,⟨some 29,.nilCheck (.t 28),none⟩,⟨some 30,.faddr (.t 29) 0,none⟩,⟨some 31,.load (some 1) (.t 30),none⟩,⟨none,.store 1 (.t 12) (.t 31),none⟩,⟨none,.store 1 (.t 13) (.c (.p (.int .i64 0))),none⟩]) .ret)))
 dfr:=some ⟨[
  (.region [2,3,5,6,7,10,12,13] [
  ⟨some 6,.box (.t 0),none⟩,
  ⟨some 7,.box (.t 1),none⟩,
  ⟨some 10,.box (.t 4),none⟩,
  ⟨some 12,.alloc [.nils],none⟩,
  ⟨some 13,.alloc [.int .i64 0],none⟩])],
  [2,3,5,6,7,10,12,13],[
  ⟨some 15,.mkfn 199 [] [(.t 10),(.t 12),(.t 13)],none⟩],
  (.t 15),[]⟩
def fc191:FC where
 nt:=12
 np:=1
 res:=[]
 body:=(.seq (.region [0,4] [⟨some 4,.move (.t 4),none⟩]) (.block 0 (.seq (.region [0,4,6] [⟨some 6,.eqk 4 false (.t 4) (.c (.p (.nili))),none⟩]) (.cond (.t 6) (.region [] [⟨some 1,.move (.t 4),none⟩]) (.seq (.region [0,4,8,9] [⟨some 7,.tassert 265 (.agg [.int .i64 0,.int .i64 0]) true (.t 4),none⟩,⟨some 8,.extract (.t 7) 1,none⟩,⟨some 9,.extract (.t 7) 0,none⟩])
  (.cond (.t 8) (.seq (.region [0,2] [⟨some 2,.alloc [.int .i64 0,.int .i64 0],none⟩,⟨none,.store 2 (.t 2) (.t 9),none⟩]) (.region [] [⟨some 10,.faddr (.t 2) 0,none⟩,⟨some 11,.load (some 2) (.t 10),none⟩,⟨none,.store 2 (.t 0) (.t 11),none⟩])) (.seq (.region [3] [⟨some 3,.move (.t 4),none⟩]) (.region [] [⟨some 5,.move (.t 3),none⟩,⟨none,.panic (.t 5),none⟩]))))))))
def fc199:FC where
 nt:=20
 np:=3
 res:=[]
 body:=(.seq (.region [0,1,2,3] [⟨some 6,.move (.t 6),none⟩,⟨some 3,.move (.t 6),none⟩]) (.seq (.region [0,1,2,3,8] [⟨some 7,.move (.t 3),none⟩,⟨some 8,.eqk 4 true (.t 7) (.c (.p (.nili))),none⟩]) (.cond (.t 8) (.seq (.region [0,1,2,3,4,5] [⟨some 10,.move (.t 3),none⟩,⟨some 11,.tassert 277 (.agg [.int .i64 0]) true (.t 10),none⟩,⟨some 9,.move (.t 11),none⟩,
  ⟨some 12,.extract (.t 9) 0,none⟩,⟨some 13,.extract (.t 9) 1,none⟩,⟨some 4,.alloc [.int .i64 0],none⟩,⟨none,.store 1 (.t 4) (.t 12),none⟩,⟨some 5,.move (.t 13),none⟩]) (.seq (.seq (.region [0,1,2,3,4,15] [⟨some 14,.move (.t 5),none⟩,⟨some 15,.un .not (.t 14),none⟩]) (.cond (.t 15) (.region [0,1,2,4] [⟨some 16,.move (.t 3),none⟩,⟨none,.panic (.t 16),none⟩]) .skip))
  (.draw [] [(0,2),(2,3)] [⟨some 17,.load (some 1) (.t 0),none⟩,⟨some 18,.faddr (.t 4) 0,none⟩,⟨some 19,.load none (.t 18),none⟩,⟨none,.store 1 (.t 1) (.t 17),none⟩,⟨none,.store 1 (.t 2) (.t 19),none⟩]))) .skip)))
def pgD:Nat→Option (Nat×FC)
 | 191=>some (4,fc191)
 | 199=>some (6,fc199)
 |_=>none
noncomputable def pgF:Nat→Option FC
 | 6=>a6
 | 10=>a10
 | 11=>a11
 | 12=>a12
 | 15=>a15
 | 16=>a16
 | 18=>a18
 | 21=>a21
 | 22=>a22
 | 23=>a23
 | 24=>a24
 | 26=>a26
 | 27=>a27
 | 29=>a29
 | 30=>a30
 | 31=>a31
 | 33=>a33
 | 35=>a35
 | 36=>a36
 | 38=>a38
 | 43=>a43
 | 44=>a44
 | 45=>a45
 | 46=>a46
 | 47=>a47
 | 48=>a48
 | 49=>a49
 | 50=>a50
 | 53=>a53
 | 55=>a55
 | 56=>a56
 | 57=>a57
 | 58=>a58
 | 59=>a59
 | 60=>a60
 | 61=>a61
 | 62=>a62
 | 65=>a65
 | 66=>a66
 | 67=>a67
 | 69=>a69
 | 70=>a70
 | 72=>a72
 | 73=>a73
 | 74=>a74
 | 75=>a75
 | 76=>a76
 | 77=>a77
 | 79=>a79
 | 80=>a80
 | 81=>a81
 | 82=>a82
 | 84=>a84
 | 87=>a87
 | 88=>a88
 | 89=>a89
 | 90=>a90
 | 91=>a91
 | 92=>a92
 | 93=>a93
 | 96=>a96
 | 97=>a97
 | 98=>a98
 | 99=>a99
 | 100=>a100
 | 101=>a101
 | 102=>a102
 | 103=>a103
 | 104=>a104
 | 105=>a105
 | 107=>a107
 | 108=>a108
 | 111=>a111
 | 112=>a112
 | 113=>a113
 | 114=>a114
 | 115=>a115
 | 116=>a116
 | 117=>a117
 | 118=>a118
 | 119=>a119
 | 120=>a120
 | 121=>a121
 | 122=>a122
 | 123=>a123
 | 126=>a126
 | 127=>a127
 | 128=>a128
 | 129=>a129
 | 134=>a134
 | 135=>a135
 | 136=>a136
 | 138=>some fc138
 | 141=>a141
 | 143=>some fc143
 | 144=>a144
 | 145=>a145
 | 146=>a146
 | 147=>a147
 | 151=>a151
 | 152=>a152
 | 153=>a153
 | 154=>a154
 | 155=>a155
 | 156=>a156
 | 157=>a157
 | 158=>a158
 | 159=>a159
 | 160=>a160
 | 161=>a161
 | 162=>a162
 | 171=>a171
 | 172=>a172
 | 173=>a173
 | 174=>a174
 | 175=>a175
 | 176=>a176
 | 177=>a177
 | 178=>a178
 | 179=>a179
 | 180=>a180
 | 182=>a182
 | 183=>a183
 | 186=>a186
 | 189=>a189
 | 190=>a190
 | 198=>a198
 | 200=>a200
 | 202=>a202
 | 203=>a203
 | 204=>a204
 | 207=>a207
 | 209=>a209
 | 210=>a210
 | 221=>a221
 | 222=>a222
 | 223=>a223
 | 224=>a224
 | 225=>a225
 | 232=>a232
 | 233=>a233
 | 234=>a234
 | 235=>a235
 | 236=>a236
 | 238=>a238
 | 240=>a240
 | 241=>a241
 | 242=>a242
 | 243=>a243
 | 247=>a247
 | 248=>a248
 | 249=>a249
 | 250=>a250
 | 254=>a254
 | 259=>a259
 | 260=>a260
 | 281=>a281
 | 282=>a282
 | 283=>a283
 | 284=>a284
 | 285=>a285
 | 286=>a286
 | 287=>a287
 | 288=>a288
 | 290=>a290
 | 293=>a293
 | 295=>a295
 | 296=>a296
 | 301=>a301
 | 323=>a323
 | 324=>a324
 | 325=>a325
 | 326=>a326
 | 327=>a327
 | 328=>a328
 | 329=>a329
 | 330=>a330
 | 333=>a333
 | 351=>a351
 | 352=>a352
 | 373=>a373
 |_=>none
noncomputable def pg:Pg:=⟨pgF,fun _=>none,fun _ _ _=>none,pgD⟩
def isTrue:Option (Res×Hp)→Bool
 |some (.val (.p (.bool b)),_)=>b
 |_=>false
end Go.Proofs.YtgplgbonlnodeaaGreatDoor
namespace Go.Proofs.YtgplgbonlnodeaaGreatDoor
open Go.Proofs Go.Shelf
def ren25:Go.Shelf.Ren where
 f:=fun | 25=>69 | 31=>122 | 32=>123 | 37=>180 |n=>n
 t:=fun | 22=>28 | 3=>3 | 4=>4 | 40=>176 | 0=>0 |n=>n
 g:=fun n=>n
theorem lays25:Lays2.n25 Tryz.prog ren25 where
 mixed:=by kernel_rfl
 f25:=Tryz.func69.trans (by kernel_rfl)
 f31:=Tryz.func122.trans (by kernel_rfl)
 f32:=Tryz.func123.trans (by kernel_rfl)
 f37:=Tryz.func180.trans (by kernel_rfl)
 t0:=Tryz.underlying0
 a0:=Tryz.isAgg0
 z0:=Tryz.sizeOf0
 v0:=Tryz.zeroValue0
 t3:=Tryz.underlying3
 a3:=Tryz.isAgg3
 z3:=Tryz.sizeOf3
 v3:=Tryz.zeroValue3
 t4:=Tryz.underlying4
 a4:=Tryz.isAgg4
 z4:=Tryz.sizeOf4
 v4:=Tryz.zeroValue4
 t22:=Tryz.underlying28
 a22:=Tryz.isAgg28
 z22:=Tryz.sizeOf28
 v22:=Tryz.zeroValue28
 t40:=Tryz.underlying176
 a40:=Tryz.isAgg176
 z40:=Tryz.sizeOf176
 v40:=Tryz.zeroValue176
end Go.Proofs.YtgplgbonlnodeaaGreatDoor
namespace Go.Proofs.YtgplgbonlnodeaaGreatDoor
open Go.Vs Go.RowKit Go.Shelf
attribute [local go_sem] Oper.semAt_some
def SlAt(l:List Int)(v:Value)(w:World):Prop:=∃ad cap,v= .slice ad l.length cap∧l.length≤cap∧(l≠[]→∃b o,ad=some ⟨b,o,none⟩∧∀(j:Nat) x,l[j]? =some x→w.cell? ⟨b,o+j,none⟩=some (.int .i64 x))
theorem mapO_int{es:List PD}{l:List Int}(h:mapO intOf es=some l):l.length=es.length∧∀(j:Nat) x,l[j]? =some x→es[j]? =some (.int .i64 x):=by
 obtain⟨h1,h2⟩:=mapO_get h
 refine⟨h1,fun j x hx=>?_⟩
 obtain⟨e,he,hf⟩:=mapO_back h hx
 rw[he]
 unfold intOf at hf
 split at hf
 ·cases hf;rfl
 ·cases hf
theorem intsOf_rep{m:Mem}{v:Value}{d:PD}(h:RepP m v d){l:List Int}(hl:intsOf d=some l){w:World}(hm:∀b o x,m b o=some x→w.cell? ⟨b,o,none⟩=some x):SlAt l v w:=by
 unfold intsOf at hl
 split at hl
 ·cases hl;cases h;exact⟨none,0,rfl,Nat.le_refl _,fun h=>(h rfl).elim⟩
 ·split at hl
  ·cases hl;cases h;exact⟨_,_,rfl,Nat.zero_le _,fun h=>(h rfl).elim⟩
  ·cases hl
 ·split at hl
  ·rename_i sz es hsz
   subst hsz
   obtain⟨h1,h2⟩:=mapO_int hl
   obtain⟨ad,cap,rfl,hc,hne⟩:=slice_inv h
   refine⟨ad,cap,by rw[h1],by rw[h1];exact hc,fun hl0=>?_⟩
   have he0:es≠[]:=fun e=>hl0 (List.eq_nil_of_length_eq_zero (by rw[h1,e];rfl))
   obtain⟨b,o,vs,rfl,hsz,hone,hmm,hr⟩:=hne he0
   refine⟨b,o,rfl,fun j x hx=>?_⟩
   have he:=h2 j x hx
   have hj:j<es.length:=(List.getElem?_eq_some_iff.1 he).1
   have:=hm _ _ _ (hmm j 0 hj (by decide))
   have hv:=(hr j _ 0 _ he rfl).int_inv
   rw[hv] at this
   simpa using this
  ·cases hl
 ·cases hl
theorem srtd_pair:∀{l:List Int},srtd l=true→l.Pairwise (·≤·)
 |[],_=>.nil
 |[a],_=>by simp
 |a::b::r,h=>by
  simp only[srtd,Bool.and_eq_true,decide_eq_true_eq] at h
  have q:=srtd_pair h.2
  refine .cons (fun x hx=>?_) q
  rcases List.mem_cons.1 hx with rfl |hx
  ·exact h.1
  ·exact Int.le_trans h.1 ((List.pairwise_cons.1 q).1 x hx)
theorem search_call{l:List Int}(hs:srtd l=true)(hl:l.length<4611686018427387904){v:Value}{w:World}(h:SlAt l v w)(x:Int):
    Calls Tryz.prog 69 #[v,.int .i64 x] w fun e w'=>∃k:Int,e= .returned (.tuple #[.int .i64 k,.bool (l.contains x)])∧∃q,w'=w.drewN q:=by
 obtain⟨ad,cap,rfl,-,hne⟩:=h
 have e25:ren25.f 25=69:=rfl
 cases l with
 |nil=>
  have:=Any.slices_BinarySearch_int_empty lays25 ad cap x w
  rw[e25] at this
  refine this.mono ?_
  rintro e w' ⟨rfl,hw⟩
  exact⟨0,by simp,0,hw⟩
 |cons a r=>
  obtain⟨b,o,rfl,hc⟩:=hne (by simp)
  have:=Any.slices_BinarySearch_int lays25 b o (a::r).length cap (a::r) x w (Nat.le_refl _) hl (fun j hj=>by
   have:=hc j _ (List.getElem?_eq_getElem hj)
   rw[this,List.getD_eq_getElem?_getD,List.getElem?_eq_getElem hj];rfl) (by rw[List.take_length];exact srtd_pair hs)
  rw[e25,List.take_length] at this
  refine this.mono ?_
  rintro e w' ⟨rfl,hw⟩
  exact⟨_,rfl,hw⟩
def restN(n:Nat):Value→Nat
 | .int _ i=>n-i.toNat
 |_=>0
def At226(B O:Nat)(l u:List Int)(w:World):Prop:=∃vl vu,w.cell? ⟨B,O+1,none⟩=some vl∧w.cell? ⟨B,O+3,none⟩=some vu∧SlAt l vl w∧SlAt u vu w
set_option maxRecDepth 100000 in
set_option maxHeartbeats 2000000 in
theorem walk226(F:Fence)(n:Nat)(h226:F.fn 226)(h69:F.fn 69)(hro:F.round=none)(hn:1≤n)(us:List Int)(ls:List Int)(hlen:us.length<4611686018427387904)(lp B O:Nat)(J:Nat→(Nat→Prop)→World→Prop)(X:Ending→World→Prop)(w0:World)
    (hK:∀k fb A,J k fb A→At226 B O ls us A) (hU:∃vu,w0.cell? ⟨B,O+3,none⟩=some vu∧∀k fb A,J k fb A→SlAt us vu A)
    (hbs:∀A v x,SlAt ls v A→CallsIn F (n-1) Tryz.prog 69 #[v,.int .i64 x] A fun e w'=>∃k:Int,e= .returned (.tuple #[.int .i64 k,.bool (ls.contains x)])∧∃q,w'=A.drewN q)
    (hJ:∀k fb A B,J k fb A→RowKit.Below A.heap.size A B→J k (fun b=>fb b∨(A.heap.size≤b∧b<B.heap.size)) B)
    (hY:∀k fb x A,(us.filter fun t=>!ls.contains t)[k]? =some x→J k fb A→YieldAt F (n-1) Tryz.prog lp #[.int .i64 x] A fun e B=>(A.heap.size≤B.heap.size∧∀b,fb b→Stands b A B)∧((e= .returned (.bool true)∧J (k+1) fb B)∨(e= .returned (.bool false)∧X e B)∨∃ch,e= .panicked ch∧X e B))
    (h0:J 0 (fun _=>False) w0):
    CallsIn F n Tryz.prog 226 #[.func (.yield lp) #[] #[],.pointer (some ⟨B,O,none⟩)] w0 fun e B=>((∃v,e= .returned v)∧((∃fb,J (us.filter fun t=>!ls.contains t).length fb B)∨X (.returned (.bool false)) B))∨∃ch,e= .panicked ch∧X e B:=by
 refine callsIn_of_wp Tryz.func226 rfl h226 ?_ hro
 simp only[Tryz.ntmps226,List.size_toArray,List.length_cons,List.length_nil,Nat.reduceAdd,Nat.reduceSub,Array.replicate_succ,Array.replicate_zero,List.push_toArray,List.append_toArray,List.nil_append,List.cons_append]
 have t3:=Tryz.underlying3;have a3:=Tryz.isAgg3;have z3:=Tryz.sizeOf3;have v3:=Tryz.zeroValue3;have t4:=Tryz.underlying4;have a4:=Tryz.isAgg4;have z4:=Tryz.sizeOf4;have v4:=Tryz.zeroValue4;have t28:=Tryz.underlying28;have a28:=Tryz.isAgg28;have z28:=Tryz.sizeOf28;have v28:=Tryz.zeroValue28;have t98:=Tryz.underlying98;have a98:=Tryz.isAgg98;have z98:=Tryz.sizeOf98;have t85:=Tryz.underlying85;have a85:=Tryz.isAgg85;have z85:=Tryz.sizeOf85;have t135:=Tryz.underlying135;have a135:=Tryz.isAgg135;have z135:=Tryz.sizeOf135;have v135:=Tryz.zeroValue135
 have u3:=run_underlying Tryz.underlying3;have u4:=run_underlying Tryz.underlying4;have u28:=run_underlying Tryz.underlying28;have u98:=run_underlying Tryz.underlying98;have u85:=run_underlying Tryz.underlying85;have u135:=run_underlying Tryz.underlying135
 obtain⟨vu,hcu,hsu⟩:=hU
 obtain⟨ad,cap,rfl,-,hne⟩:=hsu 0 _ _ h0
 gi_wp2
 gi_loopw [4,5,6,11] (fun _ _ _ v wr=>∃(i k:Nat) (fb:Nat→Prop),v= .int .i64 (i:Int)∧i≤us.length∧(us.drop i).filter (fun t=>!ls.contains t)=(us.filter fun t=>!ls.contains t).drop k∧k≤(us.filter fun t=>!ls.contains t).length∧J k fb wr)
  (fun _ _ _ v _=>restN us.length v)
 case atStart=>
  exact⟨0,0,_,rfl,Nat.zero_le _,rfl,Nat.zero_le _,h0⟩
 case round=>
  obtain⟨i,k,fb,rfl,hi,hk,hkle,hJk⟩:=hrel
  rcases Nat.lt_or_ge i us.length with hlt |hge
  ·obtain⟨ad2,cap2,heq,-,hne2⟩:=hsu k fb wr hJk
   cases heq
   obtain⟨b,o,rfl,hc⟩:=hne2 (by intro e;subst e;simp at hlt)
   obtain⟨x,hxi⟩:∃x,us[i]? =some x:=⟨_,List.getElem?_eq_getElem hlt⟩
   have hx:=hc i x hxi
   clear hc hne2
   have hb1:(i:Int)<(us.length:Int):=by omega
   have hb0:(0 :Int)≤(i:Int):=by omega
   rw[List.drop_eq_getElem_cons hlt,List.filter_cons,(List.getElem?_eq_some_iff.1 hxi).2] at hk
   obtain⟨vl,vu2,q1,q2,q3,q4⟩:=hK k fb wr hJk
   have hcall:=hbs wr vl x q3
   clear hsu hcu
   by_cases hin:ls.contains x=true
   ·rw[hin] at hk hcall
    simp only[Bool.not_true,Bool.false_eq_true,if_false] at hk
    gi_wp2_with (gi_at_call 69;refine hcall.mono ?_;rintro e w' ⟨kk,rfl,q,rfl⟩)
    refine⟨fun f h=>(by cases h),?_⟩
    gi_wp2
    go_roundw
    case rel=>exact⟨i+1,k,_,by simp,hlt,hk,hkle,hJ _ _ _ _ hJk (below_drewN (.refl _ _) q)⟩
    case measure=>simp only[restN];omega
   ·have hin:ls.contains x=false:=by simpa using hin
    rw[hin] at hk hcall
    simp only[Bool.not_false,if_true] at hk
    have hget:(us.filter fun t=>!ls.contains t)[k]? =some x:=by
     have:=congrArg (·[0]?) hk
     simpa[List.getElem?_drop] using this.symm
    have hnext:(us.drop (i+1)).filter (fun t=>!ls.contains t)=(us.filter fun t=>!ls.contains t).drop (k+1):=by
     have:=congrArg List.tail hk
     simpa using this
    gi_wp2_with (gi_at_call 69;refine hcall.mono ?_;rintro e w' ⟨kk,rfl,q,rfl⟩;obtain⟨fn,tmps,assign,body,hy,hR⟩:=hY k _ x _ hget (hJ _ _ _ _ hJk (below_drewN (.refl _ wr) q)))
    refine hR.mono ?_
    rintro e W3 ⟨-,(⟨rfl,hJ3⟩ |⟨rfl,hX3⟩ |⟨ch,rfl,hX3⟩)⟩
    ·gi_wp2
     go_roundw
     case rel=>exact⟨i+1,k+1,_,by simp,hlt,hnext,(List.getElem?_eq_some_iff.1 hget).1,hJ3⟩
     case measure=>simp only[restN];omega
    ·gi_wp2
     refine bodyPost_ret (results_none rfl _ _ _) rfl ?_
     exact .inl ⟨⟨_,rfl⟩,.inr hX3⟩
    ·first
     |exact⟨rfl,Or.inr ⟨ch,rfl,hX3⟩⟩
     |exact⟨rfl,Or.inr ⟨⟨ch,rfl⟩,hX3⟩⟩
  ·have hb1:¬(i:Int)<(us.length:Int):=by omega
   gi_wp2
   go_end0
   have hii:i=us.length:=by omega
   subst hii
   rw[List.drop_length] at hk
   have hkl:(us.filter fun t=>!ls.contains t).length≤k:=by
    have:=congrArg List.length hk
    rw[List.filter_nil,List.length_nil,List.length_drop] at this
    omega
   have hke:k=(us.filter fun t=>!ls.contains t).length:=by omega
   refine .inl ⟨⟨_,rfl⟩,.inl ⟨fb,?_⟩⟩
   rw[hke] at hJk
   simpa using hJk
theorem int_en{γ:Gh}(x:Int):RepL γ #[Value.int .i64 x] [.p (.int .i64 x)]:=
 ⟨rfl,fun i d hd=>match i with
  | 0=>by simp only[List.getElem?_cons_zero,Option.some.injEq] at hd;subst hd;exact .p _ _ (.int _ _)
  |i+1=>by simp at hd⟩
variable {W : World} {G : Nat → Option (List PD)}
theorem gen226_ok:GenOk Tryz.prog W G 226 gen226:=by
 refine⟨⟨Tryz.f226,Tryz.func226,by kernel_rfl,by kernel_rfl⟩,fun fi cap H xs hg γ w la lb I hra hrb=>?_⟩
 unfold gen226 at hg
 split at hg
 ·rename_i c0 lo c2 up
  split at hg
  ·rename_i l u hl hu
   split at hg
   ·rename_i hc
    obtain⟨hs,hll,hul⟩:=hc
    cases hg
    have hla:la= #[]:=Array.eq_empty_of_size_eq_zero hra.1
    subst hla
    obtain⟨v,rfl,hv⟩:=repL_one hrb
    cases hv with
    |ro b o _ _ vs hm hr=>
     have fact:∀A,Kept W G γ H (capIds (.fn 226 [] [.ro [c0,lo,c2,up] 0]) H) A→A.cell? ⟨b,o+1,none⟩=some (vs 1)∧A.cell? ⟨b,o+3,none⟩=some (vs 3)∧SlAt l (vs 1) A∧SlAt u (vs 3) A:=by
      rintro A ⟨γ',H',L,I',_⟩
      refine⟨I'.toInv.mem _ _ _ (L.mem _ _ _ (hm 1 (by simp))),I'.toInv.mem _ _ _ (L.mem _ _ _ (hm 3 (by simp))),?_,?_⟩
      ·exact intsOf_rep ((hr 1 lo rfl).1.mono L.mem) hl I'.toInv.mem
      ·exact intsOf_rep ((hr 3 up rfl).1.mono L.mem) hu I'.toInv.mem
     refine⟨fun k=>match(u.filter fun t=>!l.contains t)[k]? with |some x=>#[.int .i64 x] |none=>#[],fun k x hx=>?_,fun lp J X w0 hB hKp hJ hT hX hXT hY h0=>?_⟩
     ·simp only[List.getElem?_map,Option.map_eq_some_iff] at hx
      obtain⟨p,hp,rfl⟩:=hx
      simp only[hp]
      exact⟨rfl,fun γ'=>int_en p⟩
     ·have f0:=fact w0 (hKp 0 _ w0 h0)
      have h:=walk226 (wr none) 1 trivial trivial rfl (Nat.le_refl _) u l hul lp b o J X w0 (fun k fb A hj=>by
       obtain⟨q1,q2,q3,q4⟩:=fact A (hKp k fb A hj)
       exact⟨_,_,q1,q2,q3,q4⟩) ⟨vs 3,f0.2.1,fun k fb A hj=>(fact A (hKp k fb A hj)).2.2.2⟩ (fun A v x ha=>callsIn_wr.2 (search_call hs hll ha x)) hJ (fun k fb x A hx hj=>by
       have:=hY k fb _ A (by rw[List.getElem?_map,hx];rfl) hj
       simp only[hx] at this
       exact this) h0
      rw[List.length_map]
      exact callsIn_wr.2 (callsIn_wr.1 h)
   ·cases hg
  ·cases hg
 ·cases hg
end Go.Proofs.YtgplgbonlnodeaaGreatDoor
namespace Go.Proofs.YtgplgbonlnodeaaGreatDoor
open Go.Vs Go.RowKit Go.Shelf
attribute [local go_sem] Oper.semAt_some
def VarsAt(l:List Bool)(v:Value)(w:World):Prop:=∃ad cap,v= .slice ad l.length cap∧(l≠[]→∃b o,ad=some ⟨b,o,none⟩∧∀(j:Nat) x,l[j]? =some x→w.cell? ⟨b,o+j*3+2,none⟩=some (.bool x))
def PairsAt(l:List (Int×Int))(v:Value)(w:World):Prop:=∃ad cap,v= .slice ad l.length cap∧(l≠[]→∃b o,ad=some ⟨b,o,none⟩∧∀(j:Nat) x,l[j]? =some x→w.cell? ⟨b,o+j*2,none⟩=some (.int .i64 x.1)∧w.cell? ⟨b,o+j*2+1,none⟩=some (.int .i64 x.2))
theorem mapO_f{α:Type}{f:PD→Option α}{es:List PD}{l:List α}(h:mapO f es=some l):l.length=es.length∧∀(j:Nat) x,l[j]? =some x→∃e,es[j]? =some e∧f e=some x:=by
 obtain⟨h1,h2⟩:=mapO_get h
 refine⟨h1,fun j x hx=>?_⟩
 obtain⟨e,he,hf⟩:=mapO_back h hx
 exact⟨e,he,hf⟩
theorem varsOf_rep{m:Mem}{v:Value}{d:PD}(h:RepP m v d){l:List Bool}(hl:varsOf d=some l){w:World}(hm:∀b o x,m b o=some x→w.cell? ⟨b,o,none⟩=some x):VarsAt l v w:=by
 unfold varsOf at hl
 split at hl
 ·cases hl;cases h;exact⟨none,0,rfl,fun h=>(h rfl).elim⟩
 ·split at hl
  ·cases hl;cases h;exact⟨_,_,rfl,fun h=>(h rfl).elim⟩
  ·cases hl
 ·split at hl
  ·rename_i sz es hsz
   subst hsz
   obtain⟨h1,h2⟩:=mapO_f hl
   obtain⟨ad,cap,rfl,hc,hne⟩:=slice_inv h
   refine⟨ad,cap,by rw[h1],fun hl0=>?_⟩
   have he0:es≠[]:=fun e=>hl0 (List.eq_nil_of_length_eq_zero (by rw[h1,e];rfl))
   obtain⟨b,o,vs,rfl,hsz,hone,hmm,hr⟩:=hne he0
   refine⟨b,o,rfl,fun j x hx=>?_⟩
   obtain⟨e,he,hf⟩:=h2 j x hx
   have hj:j<es.length:=(List.getElem?_eq_some_iff.1 he).1
   unfold varOf at hf
   split at hf
   ·cases hf
    have:=hm _ _ _ (hmm j 2 hj (by decide))
    have hv:=(hr j _ 2 _ he rfl).bool_inv
    rw[hv] at this
    exact this
   ·cases hf
  ·cases hl
 ·cases hl
theorem pairsOf_rep{m:Mem}{v:Value}{d:PD}(h:RepP m v d){l:List (Int×Int)}(hl:pairsOf d=some l){w:World}(hm:∀b o x,m b o=some x→w.cell? ⟨b,o,none⟩=some x):PairsAt l v w:=by
 unfold pairsOf at hl
 split at hl
 ·cases hl;cases h;exact⟨none,0,rfl,fun h=>(h rfl).elim⟩
 ·split at hl
  ·cases hl;cases h;exact⟨_,_,rfl,fun h=>(h rfl).elim⟩
  ·cases hl
 ·split at hl
  ·rename_i sz es hsz
   subst hsz
   obtain⟨h1,h2⟩:=mapO_f hl
   obtain⟨ad,cap,rfl,hc,hne⟩:=slice_inv h
   refine⟨ad,cap,by rw[h1],fun hl0=>?_⟩
   have he0:es≠[]:=fun e=>hl0 (List.eq_nil_of_length_eq_zero (by rw[h1,e];rfl))
   obtain⟨b,o,vs,rfl,hsz,hone,hmm,hr⟩:=hne he0
   refine⟨b,o,rfl,fun j x hx=>?_⟩
   obtain⟨e,he,hf⟩:=h2 j x hx
   have hj:j<es.length:=(List.getElem?_eq_some_iff.1 he).1
   unfold pairOf at hf
   split at hf
   ·cases hf
    have c0:=hm _ _ _ (hmm j 0 hj (by decide))
    have c1:=hm _ _ _ (hmm j 1 hj (by decide))
    have v0:=(hr j _ 0 _ he rfl).int_inv
    have v1:=(hr j _ 1 _ he rfl).int_inv
    rw[v0] at c0
    rw[v1] at c1
    exact⟨c0,c1⟩
   ·cases hf
  ·cases hl
 ·cases hl
def At68(B O:Nat)(steps:Int)(vs:List Bool)(fr:List (Int×Int))(vf vr:Value)(w:World):Prop:=w.cell? ⟨B,O+1,none⟩=some (.int .i64 steps)∧w.cell? ⟨B,O+3,none⟩=some vf∧w.cell? ⟨B,O+7,none⟩=some vr∧VarsAt vs vf w∧PairsAt fr vr w
theorem walk75(F:Fence)(n:Nat)(h75:F.fn 75)(hro:F.round=none)(B O:Nat)(steps:Int)(w:World)(hc:w.cell? ⟨B,O+1,none⟩=some (.int .i64 steps)):
    CallsIn F n Tryz.prog 75 #[.pointer (some ⟨B,O,none⟩)] w fun e w'=>e= .returned (.int .i64 ((selN steps:Nat):Int))∧w'=w:=by
 refine callsIn_of_wp Tryz.func75 rfl h75 ?_ hro
 simp only[Tryz.ntmps75,List.size_toArray,List.length_cons,List.length_nil,Nat.reduceAdd,Nat.reduceSub,Array.replicate_succ,Array.replicate_zero,List.push_toArray,List.append_toArray,List.nil_append,List.cons_append]
 have t3:=Tryz.underlying3;have a3:=Tryz.isAgg3;have z3:=Tryz.sizeOf3;have v3:=Tryz.zeroValue3;have t119:=Tryz.underlying119;have t30:=Tryz.underlying30
 have u3:=run_underlying Tryz.underlying3;have u119:=run_underlying Tryz.underlying119;have u30:=run_underlying Tryz.underlying30
 by_cases h1:1<steps
 ·have hd:((selN steps:Nat):Int)=steps:=by simp[selN,h1];omega
  rw[hd]
  gi_wp2
  refine bodyPost_ret (results_tmp rfl _ _ _) rfl ?_
  exact⟨rfl,rfl⟩
 ·have hd:selN steps=0:=by simp[selN,h1]
  rw[hd]
  gi_wp2
  refine bodyPost_ret (results_tmp rfl _ _ _) rfl ?_
  exact⟨rfl,rfl⟩
set_option maxRecDepth 100000 in
set_option maxHeartbeats 4000000 in
theorem walk68(F:Fence)(n:Nat)(h68:F.fn 68)(h75:F.fn 75)(hro:F.round=none)(hn:1≤n)(steps:Int)(vs:List Bool)(fr:List (Int×Int))(hst:steps<4611686018427387904)(hfr:fr.length<4611686018427387904)(hin:∀(i:Nat) p,fr[i]? =some p→0≤p.1∧p.1<(vs.length:Int))
    (L:List (Nat×Nat×Int×Int)) (hL:L=entsA vs fr steps.toNat 0 (selN steps)) (hbd:selN steps+L.length<4611686018427387904) (lp B O:Nat) (J:Nat→(Nat→Prop)→World→Prop) (X:Ending→World→Prop) (w0:World)
    (vf vr:Value) (hK:∀k fb A,J k fb A→At68 B O steps vs fr vf vr A)
    (hJ:∀k fb A B,J k fb A→RowKit.Below A.heap.size A B→J k (fun b=>fb b∨(A.heap.size≤b∧b<B.heap.size)) B)
    (hY:∀k fb (x:Nat×Nat×Int×Int) A,L[k]? =some x→J k fb A→YieldAt F (n-1) Tryz.prog lp #[.agg #[.int .i64 (x.1:Int),.int .i64 (x.2.1:Int),.int .i64 x.2.2.1,.int .i64 x.2.2.2]] A fun e B=>(A.heap.size≤B.heap.size∧∀b,fb b→Stands b A B)∧((e= .returned (.bool true)∧J (k+1) fb B)∨(e= .returned (.bool false)∧X e B)∨∃ch,e= .panicked ch∧X e B))
    (h0:J 0 (fun _=>False) w0):
    CallsIn F n Tryz.prog 68 #[.pointer (some ⟨B,O,none⟩),.func (.yield lp) #[] #[]] w0 fun e B=>((∃v,e= .returned v)∧((∃fb,J L.length fb B)∨X (.returned (.bool false)) B))∨∃ch,e= .panicked ch∧X e B:=by
 refine callsIn_of_wp Tryz.func68 rfl h68 ?_ hro
 simp only[Tryz.ntmps68,List.size_toArray,List.length_cons,List.length_nil,Nat.reduceAdd,Nat.reduceSub,Array.replicate_succ,Array.replicate_zero,List.push_toArray,List.append_toArray,List.nil_append,List.cons_append]
 have t3:=Tryz.underlying3;have a3:=Tryz.isAgg3;have z3:=Tryz.sizeOf3;have v3:=Tryz.zeroValue3;have t4:=Tryz.underlying4;have a4:=Tryz.isAgg4;have z4:=Tryz.sizeOf4;have v4:=Tryz.zeroValue4;have t23:=Tryz.underlying23;have a23:=Tryz.isAgg23;have z23:=Tryz.sizeOf23;have v23:=Tryz.zeroValue23;have t27:=Tryz.underlying27;have t30:=Tryz.underlying30;have t95:=Tryz.underlying95;have a95:=Tryz.isAgg95;have z95:=Tryz.sizeOf95;have t110:=Tryz.underlying110;have a110:=Tryz.isAgg110;have z110:=Tryz.sizeOf110;have t112:=Tryz.underlying112;have a112:=Tryz.isAgg112;have z112:=Tryz.sizeOf112;have v112:=Tryz.zeroValue112;have t119:=Tryz.underlying119;have t123:=Tryz.underlying123;have a123:=Tryz.isAgg123;have z123:=Tryz.sizeOf123;have v123:=Tryz.zeroValue123
 have u3:=run_underlying Tryz.underlying3;have u4:=run_underlying Tryz.underlying4;have u23:=run_underlying Tryz.underlying23;have u27:=run_underlying Tryz.underlying27;have u30:=run_underlying Tryz.underlying30;have u95:=run_underlying Tryz.underlying95;have u110:=run_underlying Tryz.underlying110;have u112:=run_underlying Tryz.underlying112;have u119:=run_underlying Tryz.underlying119;have u123:=run_underlying Tryz.underlying123
 obtain⟨q1,q2,q3,q4,q5⟩:=hK 0 _ _ h0
 have hsel:=walk75 F (n-1) h75 hro B O steps w0 q1
 gi_wp2_with (gi_at_call 75;refine hsel.mono ?_;rintro e w' ⟨rfl,rfl⟩)
 clear hsel q2 q3 q4 q5 q1
 gi_loopw [4,5,7,15] (fun v _ _ s wr=>∃(i k:Nat) (fb:Nat→Prop),s= .int .i64 (i:Int)∧(i:Int)≤max steps 0∧v= .int .i64 ((selN steps+k:Nat):Int)∧entsA vs fr (steps.toNat-i) i (selN steps+k)=L.drop k∧k≤L.length∧J k fb wr)
  (fun _ _ _ s _=>restN steps.toNat s)
 case atStart=>
  exact⟨0,0,_,rfl,by omega,by simp,by rw[hL];rfl,Nat.zero_le _,h0⟩
 case round=>
  obtain⟨i,k,fb,rfl,hi,rfl,hk,hkle,hJk⟩:=hrel
  rcases Int.lt_or_le (i:Int) steps with hlt |hge
  ·have hst1:steps.toNat-i=(steps.toNat-(i+1))+1:=by omega
   rw[hst1] at hk
   simp only[entsA] at hk
   obtain⟨q1,q2,q3,q4,q5⟩:=hK k fb wr hJk
   obtain⟨adr,capr,rfl,hner⟩:=q5
   clear q4
   gi_wp2
   clear q1 q2 q3 hner
   gi_loopw [4,7,23] (fun v _ j wr2=>∃(j' k2:Nat) (fb2:Nat→Prop),j= .int .i64 (j':Int)∧j'≤fr.length∧v= .int .i64 ((selN steps+k2:Nat):Int)∧ents vs i (fr.drop j') (selN steps+k2)++entsA vs fr (steps.toNat-(i+1)) (i+1) (selN steps+k2+(ents vs i (fr.drop j') (selN steps+k2)).length)=L.drop k2∧k2≤L.length∧J k2 fb2 wr2)
    (fun _ _ j _=>restN fr.length j)
   case atStart=>exact⟨0,k,fb,rfl,Nat.zero_le _,rfl,by simpa using hk,hkle,hJk⟩
   case round=>
    clear hk hkle hJk
    obtain⟨j,k2,fb2,rfl,hj,rfl,hk2,hkle2,hJ2⟩:=hrel
    rcases Nat.lt_or_ge j fr.length with hjl |hjg
    ·obtain⟨⟨a,b⟩,hp⟩:∃x,fr[j]? =some x:=⟨_,List.getElem?_eq_getElem hjl⟩
     obtain⟨ha0,ha1⟩:=hin j _ hp
     simp only at ha0 ha1
     obtain⟨q1,q2,q3,q4,q5⟩:=hK k2 fb2 _ hJ2
     obtain⟨ad2,cap2,heq,hne2⟩:=q5
     cases heq
     obtain⟨rb,ro,rfl,hc⟩:=hne2 (by intro e;subst e;simp at hjl)
     obtain⟨hca,hcb⟩:=hc j _ hp
     clear hc hne2
     have hb1:(j:Int)<(fr.length:Int):=by omega
     have hb0:(0 :Int)≤(j:Int):=by omega
     rw[List.drop_eq_getElem_cons hjl,(List.getElem?_eq_some_iff.1 hp).2] at hk2
     simp only[ents] at hk2
     gi_wp2
     clear hca hcb hb1 hb0 q1 q2 q3 q4
     have hBel:RowKit.Below wr.heap.size wr (wr.alloc (Obj.cells #[Value.int IntKind.i64 a,Value.int IntKind.i64 b] 112)):=RowKit.Below.alloc (.refl _ _) (Nat.le_refl _) _
     have hJ3:=hJ _ _ _ _ hJ2 hBel
     have e0:(wr.alloc (Obj.cells #[Value.int IntKind.i64 a,Value.int IntKind.i64 b] 112)).cell? ⟨wr.heap.size,0,none⟩=some (.int .i64 a):=by simp[go_sem]
     have e1:(wr.alloc (Obj.cells #[Value.int IntKind.i64 a,Value.int IntKind.i64 b] 112)).cell? ⟨wr.heap.size,1,none⟩=some (.int .i64 b):=by simp[go_sem]
     generalize hW1:wr.alloc (Obj.cells #[Value.int IntKind.i64 a,Value.int IntKind.i64 b] 112)=W1 at *
     generalize hfb:(fun b=>fb2 b∨wr.heap.size≤b∧b<W1.heap.size)=fb3 at *
     generalize wr.heap.size=N1 at *
     clear hBel hW1 hfb hJ2
     obtain⟨q1,q2,q3,⟨adf,capf,rfl,hnf⟩,q5⟩:=hK _ _ _ hJ3
     obtain⟨fb',fo,rfl,hcf⟩:=hnf (by intro e;subst e;simp at ha1;omega)
     obtain⟨x,hx⟩:∃x,vs[a.toNat]? =some x:=⟨_,List.getElem?_eq_getElem (by omega)⟩
     have hcx:=hcf _ _ hx
     clear hcf hnf q1 q3 q5
     have hgd:vs.getD a.toNat false=x:=by simp[List.getD,hx]
     by_cases hsk:skipE vs i a=true
     ·have hi0:0<i∧x=false:=by simpa[skipE,hx] using hsk
      obtain⟨hi0,rfl⟩:=hi0
      have hii:(0 :Int)<(i:Int):=by omega
      rw[if_pos hsk] at hk2
      (refine wpIn_region_quiet_lit hro (by kernel_rfl) (by kernel_rfl) ?_
       repeat (gi_big_quiet_step (fail))
       refine wpQuietIn_nil ?_
       intro _ hw'
       obtain⟨nq,hw''⟩:=hw'
       subst hw'')
      gi_wp2
      go_roundw
      case rel=>exact⟨j+1,k2,_,by simp,hjl,rfl,hk2,hkle2,hJ _ _ _ _ hJ3 (below_drewN (.refl _ _) nq)⟩
      case measure=>simp only[restN];omega
     ·rw[if_neg hsk] at hk2
      have hget:L[k2]? =some (selN steps+k2+1,i,a,b):=by
       have:=congrArg (·[0]?) hk2
       simpa[List.getElem?_drop] using this.symm
      have hnext:ents vs i (fr.drop (j+1)) (selN steps+(k2+1))++entsA vs fr (steps.toNat-(i+1)) (i+1) (selN steps+(k2+1)+(ents vs i (fr.drop (j+1)) (selN steps+(k2+1))).length)=L.drop (k2+1):=by
       have:=congrArg List.tail hk2
       simpa[Nat.add_assoc,Nat.add_comm 1] using this
      have hk2lt:k2<L.length:=(List.getElem?_eq_some_iff.1 hget).1
      clear hk2
      have hif:(decide (0<i)=false)∨(0<i∧x=true):=by
       cases x
       ·left
        refine decide_eq_false fun hi=>?_
        exact hsk (by simp[skipE,hx];omega)
       ·rcases Nat.eq_zero_or_pos i with h |h
        ·exact .inl (by simp[h])
        ·exact .inr ⟨h,rfl⟩
      clear hsk hgd hx
      have hv1:(0 :Int)≤(selN steps:Int)+(k2:Int):=by omega
      have hv2:(selN steps:Int)+(k2:Int)+1<4611686018427387904:=by omega
      rcases hif with hii |⟨hii,rfl⟩
      all_goals
       (refine wpIn_region_quiet_lit hro (by kernel_rfl) (by kernel_rfl) ?_
        repeat (gi_big_quiet_step (fail))
        refine wpQuietIn_nil ?_
        intro _ hw'
        obtain⟨nq,hw''⟩:=hw'
        subst hw'')
      all_goals have hJ4:=hJ _ _ _ _ hJ3 (below_drewN (.refl _ W1) nq)
      all_goals obtain⟨fn,tmps,assign,body,hy,hR⟩:=hY k2 _ _ _ hget hJ4
      all_goals (simp at hy)
      all_goals gi_wp2
      all_goals refine hR.mono ?_
      all_goals rintro e W3 ⟨-,(⟨rfl,hJ5⟩ |⟨rfl,hX3⟩ |⟨ch,rfl,hX3⟩)⟩
      all_goals try gi_wp2
      all_goals first
       |exact⟨⟨j+1,k2+1,_,rfl,hjl,congrArg (Value.int .i64) (by omega),hnext,hk2lt,hJ5⟩,by simp only[restN];omega⟩
       |exact⟨rfl,Or.inr ⟨ch,rfl,hX3⟩⟩
       |exact⟨rfl,Or.inr ⟨⟨ch,rfl⟩,hX3⟩⟩
       |(refine bodyPost_ret (results_none rfl _ _ _) rfl ?_;exact .inl ⟨⟨_,rfl⟩,.inr hX3⟩)
    ·have hb1:¬(j:Int)<(fr.length:Int):=by omega
     gi_wp2
     have hje:j=fr.length:=by omega
     subst hje
     rw[List.drop_length] at hk2
     simp only[ents,List.nil_append,List.length_nil,Nat.add_zero] at hk2
     refine⟨⟨i+1,k2,_,rfl,by omega,rfl,hk2,hkle2,hJ2⟩,?_⟩
     simp only[restN]
     omega
  ·have hb1:¬(i:Int)<steps:=by omega
   gi_wp2
   go_end0
   have hz:steps.toNat-i=0:=by omega
   rw[hz] at hk
   simp only[entsA] at hk
   have hkl:L.length≤k:=by
    have:=congrArg List.length hk
    rw[List.length_nil,List.length_drop] at this
    omega
   have hke:k=L.length:=by omega
   rw[hke,hL] at hJk
   exact .inl ⟨⟨_,rfl⟩,.inl ⟨fb,hJk⟩⟩
theorem ent_en{γ:Gh}(x:Nat×Nat×Int×Int):RepL γ #[Value.agg #[.int .i64 (x.1:Int),.int .i64 (x.2.1:Int),.int .i64 x.2.2.1,.int .i64 x.2.2.2]] (entD x):=
 ⟨rfl,fun i d hd=>match i with
  | 0=>by
   simp only[entD,List.getElem?_cons_zero,Option.some.injEq] at hd
   subst hd
   refine .p _ _ (.agg _ _ rfl (by simp[PD.one]) fun i d hd=>?_)
   match i with
   | 0=>cases hd;exact .int _ _
   | 1=>cases hd;exact .int _ _
   | 2=>cases hd;exact .int _ _
   | 3=>cases hd;exact .int _ _
   |i+4=>simp at hd
  |i+1=>by simp[entD] at hd⟩
variable {W : World} {G : Nat → Option (List PD)}
theorem gen68_ok:GenOk Tryz.prog W G 68 gen68:=by
 refine⟨⟨Tryz.f68,Tryz.func68,by kernel_rfl,by kernel_rfl⟩,fun fi cap H xs hg γ w la lb I hra hrb=>?_⟩
 unfold gen68 at hg
 split at hg
 ·rename_i c0 steps c2 fs c4 c5 c6 fr
  split at hg
  ·rename_i vs free hv hf
   split at hg
   ·rename_i hc
    obtain⟨hs,hfl,hal,hbd⟩:=hc
    cases hg
    have hlb:lb= #[]:=Array.eq_empty_of_size_eq_zero hrb.1
    subst hlb
    obtain⟨v,rfl,hv0⟩:=repL_one hra
    cases hv0 with
    |ro b o _ _ cs hm hr=>
     have c1:cs 1= .int .i64 steps:=(hr 1 _ rfl).1.int_inv
     have fact:∀A,Kept W G γ H (capIds (.fn 68 [.ro [c0,.int .i64 steps,c2,fs,c4,c5,c6,fr] 0] []) H) A→At68 b o steps vs free (cs 3) (cs 7) A:=by
      rintro A ⟨γ',H',L,I',_⟩
      refine⟨?_,I'.toInv.mem _ _ _ (L.mem _ _ _ (hm 3 (by simp))),I'.toInv.mem _ _ _ (L.mem _ _ _ (hm 7 (by simp))),?_,?_⟩
      ·have:=I'.toInv.mem _ _ _ (L.mem _ _ _ (hm 1 (by simp)))
       rw[c1] at this
       exact this
      ·exact varsOf_rep ((hr 3 fs rfl).1.mono L.mem) hv I'.toInv.mem
      ·exact pairsOf_rep ((hr 7 fr rfl).1.mono L.mem) hf I'.toInv.mem
     generalize hL:entsA vs free steps.toNat 0 (selN steps)=L at hbd
     refine⟨fun k=>match L[k]? with |some x=>#[.agg #[.int .i64 (x.1:Int),.int .i64 (x.2.1:Int),.int .i64 x.2.2.1,.int .i64 x.2.2.2]] |none=>#[],fun k x hx=>?_,fun lp J X w0 hB hKp hJ hT hX hXT hY h0=>?_⟩
     ·simp only[List.getElem?_map,Option.map_eq_some_iff] at hx
      obtain⟨p,hp,rfl⟩:=hx
      simp only[hp]
      exact⟨rfl,fun γ'=>ent_en p⟩
     ·have h:=walk68 (wr none) 1 trivial trivial rfl (Nat.le_refl _) steps vs free hs hfl (fun i p hp=>by
       have:=List.all_eq_true.1 hal p (List.mem_of_getElem? hp)
       exact of_decide_eq_true this) L hL.symm hbd lp b o J X w0 (cs 3) (cs 7) (fun k fb A hj=>fact A (hKp k fb A hj)) hJ (fun k fb x A hx hj=>by
       have:=hY k fb _ A (by rw[List.getElem?_map,hx];rfl) hj
       simp only[hx] at this
       exact this) h0
      rw[List.length_map]
      exact callsIn_wr.2 (callsIn_wr.1 h)
   ·cases hg
  ·cases hg
 ·cases hg
end Go.Proofs.YtgplgbonlnodeaaGreatDoor
namespace Go.Proofs.YtgplgbonlnodeaaGreatDoor
open Go.Vs Go.RowKit Go.Shelf
attribute [local go_sem] Oper.semAt_some
theorem cell_lt{w:World}{a:Addr}{v:Value}(h:w.cell? a=some v):a.block<w.heap.size:=by
 unfold World.cell? at h
 split at h
 ·rename_i hb;exact(Array.getElem?_eq_some_iff.1 hb).1
 ·cases h
theorem SlAt.below{l:List Int}{v:Value}{w w':World}(h:SlAt l v w)(hb:RowKit.Below w.heap.size w w'):SlAt l v w':=by
 obtain⟨ad,cap,rfl,hcap,hne⟩:=h
 refine⟨ad,cap,rfl,hcap,fun hl=>?_⟩
 obtain⟨b,o,e,hc⟩:=hne hl
 refine⟨b,o,e,fun j x hx=>?_⟩
 have:=hc j x hx
 rw[hb.cell (cell_lt this)]
 exact this
theorem sumG_nonneg{l:List Int}(h:∀x∈l,0≤x):0≤l.sum:=by
 induction l with
 |nil=>simp
 |cons a l ih=>
  have h1:=h a (by simp)
  have h2:=ih fun x hx=>h x (by simp[hx])
  simp only[List.sum_cons]
  omega
theorem sum_take_le{l:List Int}(h:∀x∈l,0≤x)(n:Nat):0≤(l.take n).sum∧(l.take n).sum≤l.sum:=by
 have h1:=sumG_nonneg (l:=l.take n) fun x hx=>h x (List.mem_of_mem_take hx)
 have h2:=sumG_nonneg (l:=l.drop n) fun x hx=>h x (List.mem_of_mem_drop hx)
 have h3:(l.take n).sum+(l.drop n).sum=l.sum:=by rw[←List.sum_append,List.take_append_drop]
 exact⟨h1,by omega⟩
set_option maxRecDepth 100000 in
set_option maxHeartbeats 2000000 in
theorem sum_call(F:Fence)(n:Nat)(h173:F.fn 173)(hro:F.round=none)(l:List Int)(hlen:l.length<4611686018427387904)(hp:∀x∈l,0≤x)(hs:l.sum<4611686018427387904)(v:Value)(w:World)(h:SlAt l v w):
    CallsIn F n Tryz.prog 173 #[v] w fun e w'=>e= .returned (.int .i64 l.sum)∧w'=w:=by
 refine callsIn_of_wp Tryz.func173 rfl h173 ?_ hro
 simp only[Tryz.ntmps173,List.size_toArray,List.length_cons,List.length_nil,Nat.reduceAdd,Nat.reduceSub,Array.replicate_succ,Array.replicate_zero,List.push_toArray,List.append_toArray,List.nil_append,List.cons_append]
 have t3:=Tryz.underlying3;have a3:=Tryz.isAgg3;have z3:=Tryz.sizeOf3;have v3:=Tryz.zeroValue3;have t4:=Tryz.underlying4;have a4:=Tryz.isAgg4;have z4:=Tryz.sizeOf4;have v4:=Tryz.zeroValue4;have t28:=Tryz.underlying28;have a28:=Tryz.isAgg28;have z28:=Tryz.sizeOf28;have v28:=Tryz.zeroValue28
 have u3:=run_underlying Tryz.underlying3;have u4:=run_underlying Tryz.underlying4;have u28:=run_underlying Tryz.underlying28
 obtain⟨ad,cap,rfl,-,hne⟩:=h
 gi_wp2
 gi_loopw [3,5,8] (fun a _ i w'=>∃j:Nat,i= .int .i64 (j:Int)∧j≤l.length∧a= .int .i64 (l.take j).sum∧w'=w)
  (fun _ _ i _=>restN l.length i)
 case atStart=>exact⟨0,rfl,Nat.zero_le _,rfl,rfl⟩
 case round=>
  obtain⟨j,rfl,hj,rfl,rfl⟩:=hrel
  rcases Nat.lt_or_ge j l.length with hlt |hge
  ·obtain⟨b,o,rfl,hc⟩:=hne (by intro e;subst e;simp at hlt)
   obtain⟨x,hxi⟩:∃x,l[j]? =some x:=⟨_,List.getElem?_eq_getElem hlt⟩
   have hx:=hc j x hxi
   clear hc hne
   have hb1:(j:Int)<(l.length:Int):=by omega
   have hb0:(0 :Int)≤(j:Int):=by omega
   have ht:(l.take (j+1)).sum=(l.take j).sum+x:=by
    rw[List.take_add_one,hxi]
    simp
   have h1:=sum_take_le hp j
   have h2:=sum_take_le hp (j+1)
   have hx0:=hp x (List.mem_of_getElem? hxi)
   rw[ht] at h2
   have h3:(l.take j).sum+x<4611686018427387904:=by omega
   gi_wp2
   go_roundw
   case rel=>exact⟨j+1,by simp,hlt,by rw[ht],trivial⟩
   case measure=>simp only[restN];omega
  ·have hb1:¬(j:Int)<(l.length:Int):=by omega
   have hje:j=l.length:=by omega
   subst hje
   gi_wp2
   refine bodyPost_ret (results_tmp rfl _ _ _) rfl ?_
   exact⟨rfl,rfl⟩
set_option maxRecDepth 100000 in
set_option maxHeartbeats 2000000 in
theorem atomsG_call(F:Fence)(n:Nat)(h112:F.fn 112)(h173:F.fn 173)(hro:F.round=none)(hn:1≤n)(l:List Int)(hlen:l.length<4611686018427387904)(hp:∀x∈l,0≤x)(hs:l.sum<4611686018427387904)(va vst:Value)(w:World)(h:SlAt l va w):
    CallsIn F n Tryz.prog 112 #[.agg #[va,vst]] w fun e w'=>e= .returned (.int .i64 l.sum)∧RowKit.Below w.heap.size w w':=by
 refine callsIn_of_wp Tryz.func112 rfl h112 ?_ hro
 simp only[Tryz.ntmps112,List.size_toArray,List.length_cons,List.length_nil,Nat.reduceAdd,Nat.reduceSub,Array.replicate_succ,Array.replicate_zero,List.push_toArray,List.append_toArray,List.nil_append,List.cons_append]
 have t3:=Tryz.underlying3;have a3:=Tryz.isAgg3;have z3:=Tryz.sizeOf3;have t28:=Tryz.underlying28;have a28:=Tryz.isAgg28;have z28:=Tryz.sizeOf28;have t30:=Tryz.underlying30;have a30:=Tryz.isAgg30;have z30:=Tryz.sizeOf30
 have v3:=Tryz.zeroValue3;have v28:=Tryz.zeroValue28
 have u3:=run_underlying Tryz.underlying3;have u28:=run_underlying Tryz.underlying28;have u30:=run_underlying Tryz.underlying30
 have hcall:=fun w1 (hb:RowKit.Below w.heap.size w w1)=>sum_call F (n-1) h173 hro l hlen hp hs va w1 (h.below hb)
 have hB:∀o,RowKit.Below w.heap.size w (w.alloc o):=fun o=>RowKit.Below.alloc (.refl _ _) (Nat.le_refl _) o
 gi_wp2_with (gi_at_call 173;refine(hcall _ (hB _)).mono ?_;rintro e w' ⟨rfl,rfl⟩)
 refine bodyPost_ret (results_tmp rfl _ _ _) rfl ?_
 exact⟨rfl,hB _⟩
set_option maxRecDepth 100000 in
set_option maxHeartbeats 2000000 in
theorem first_call(F:Fence)(n:Nat)(h238:F.fn 238)(h173:F.fn 173)(hro:F.round=none)(hn:1≤n)(l:List Int)(hlen:l.length<4611686018427387904)(hp:∀x∈l,0≤x)(hs:l.sum<4611686018427387904)(s:Int)(hs0:0≤s)(hs1:s<(l.length:Int))(va vst:Value)(w:World)(h:SlAt l va w):
    CallsIn F n Tryz.prog 238 #[.agg #[va,vst],.int .i64 s] w fun e w'=>e= .returned (.int .i64 (l.take s.toNat).sum)∧RowKit.Below w.heap.size w w':=by
 refine callsIn_of_wp Tryz.func238 rfl h238 ?_ hro
 simp only[Tryz.ntmps238,List.size_toArray,List.length_cons,List.length_nil,Nat.reduceAdd,Nat.reduceSub,Array.replicate_succ,Array.replicate_zero,List.push_toArray,List.append_toArray,List.nil_append,List.cons_append]
 have t3:=Tryz.underlying3;have a3:=Tryz.isAgg3;have z3:=Tryz.sizeOf3;have t28:=Tryz.underlying28;have a28:=Tryz.isAgg28;have z28:=Tryz.sizeOf28;have t30:=Tryz.underlying30;have a30:=Tryz.isAgg30;have z30:=Tryz.sizeOf30
 have v3:=Tryz.zeroValue3;have v28:=Tryz.zeroValue28
 have u3:=run_underlying Tryz.underlying3;have u28:=run_underlying Tryz.underlying28;have u30:=run_underlying Tryz.underlying30
 have hB:∀o,RowKit.Below w.heap.size w (w.alloc o):=fun o=>RowKit.Below.alloc (.refl _ _) (Nat.le_refl _) o
 obtain⟨ad,cap,rfl,hcap,hne⟩:=h
 have hl0:l≠[]:=by intro e;subst e;simp at hs1;omega
 obtain⟨b,o,rfl,hc⟩:=hne hl0
 have hcap1:s≤(cap:Int):=by omega
 have hS:∀w1,RowKit.Below w.heap.size w w1→SlAt (l.take s.toNat) (.slice (some ⟨b,o,none⟩) s.toNat cap) w1:=fun w1 hb=>by
  refine⟨_,_,by rw[List.length_take,Nat.min_eq_left (by omega)],by rw[List.length_take];omega,fun _=>⟨b,o,rfl,fun j x hx=>?_⟩⟩
  have hx':l[j]? =some x:=by
   rw[List.getElem?_take] at hx
   split at hx
   ·exact hx
   ·cases hx
  have:=hc j x hx'
  rw[hb.cell (cell_lt this)]
  exact this
 have hsum:=sum_take_le hp s.toNat
 have hcall:=fun w1 (hb:RowKit.Below w.heap.size w w1)=>sum_call F (n-1) h173 hro (l.take s.toNat) (by rw[List.length_take];omega) (fun x hx=>hp x (List.mem_of_mem_take hx)) (by omega) _ w1 (hS w1 hb)
 gi_wp2_with (gi_at_call 173;refine(hcall _ (hB _)).mono ?_;rintro e w' ⟨rfl,rfl⟩)
 refine bodyPost_ret (results_tmp rfl _ _ _) rfl ?_
 exact⟨rfl,hB _⟩
set_option maxRecDepth 100000 in
set_option maxHeartbeats 2000000 in
theorem tuples_call(F:Fence)(n:Nat)(h178:F.fn 178)(hro:F.round=none)(p:Int)(va vst:Value)(ad:Option Addr)(k cap:Nat)(w:World):
    CallsIn F n Tryz.prog 178 #[.agg #[va,vst],.int .i64 p,.slice ad k cap] w fun e w'=>∃c1 c2 c3,e= .returned (.func (.func 237) #[] #[.pointer (some ⟨c1,0,none⟩),.pointer (some ⟨c2,0,none⟩),.pointer (some ⟨c3,0,none⟩)])∧RowKit.Below w.heap.size w w'∧
     (w.heap.size≤c1∧w.heap.size≤c2∧w.heap.size≤c3)∧w'.cell? ⟨c1,0,none⟩=some (.slice ad k cap)∧w'.cell? ⟨c2,0,none⟩=some (.int .i64 p)∧w'.cell? ⟨c3,0,none⟩=some va∧w'.cell? ⟨c3,1,none⟩=some vst:=by
 refine callsIn_of_wp Tryz.func178 rfl h178 ?_ hro
 simp only[Tryz.ntmps178,List.size_toArray,List.length_cons,List.length_nil,Nat.reduceAdd,Nat.reduceSub,Array.replicate_succ,Array.replicate_zero,List.push_toArray,List.append_toArray,List.nil_append,List.cons_append]
 have t3:=Tryz.underlying3;have a3:=Tryz.isAgg3;have z3:=Tryz.sizeOf3;have t28:=Tryz.underlying28;have a28:=Tryz.isAgg28;have z28:=Tryz.sizeOf28;have t30:=Tryz.underlying30;have a30:=Tryz.isAgg30;have z30:=Tryz.sizeOf30;have t245:=Tryz.underlying245;have a245:=Tryz.isAgg245;have z245:=Tryz.sizeOf245;have t228:=Tryz.underlying228;have a228:=Tryz.isAgg228;have z228:=Tryz.sizeOf228
 have v3:=Tryz.zeroValue3;have v28:=Tryz.zeroValue28
 have u3:=run_underlying Tryz.underlying3;have u28:=run_underlying Tryz.underlying28;have u30:=run_underlying Tryz.underlying30;have u245:=run_underlying Tryz.underlying245;have u228:=run_underlying Tryz.underlying228
 gi_wp2
 refine bodyPost_ret (results_tmp rfl _ _ _) rfl ?_
 refine⟨_,_,_,rfl,RowKit.Below.alloc (RowKit.Below.alloc (RowKit.Below.alloc (.refl _ _) (Nat.le_refl _) _) (by simp) _) (by simp;omega) _,⟨by omega,by omega,by omega⟩,?_,?_,?_,?_⟩
 all_goals simp[go_sem]
end Go.Proofs.YtgplgbonlnodeaaGreatDoor
namespace Go.Proofs.YtgplgbonlnodeaaGreatDoor
open Go.Vs Go.RowKit Go.Shelf
attribute [local go_sem] Oper.semAt_some
structure Mine (fb:Nat→Prop) (A:World) (C:List (Nat×Nat×Value)) (O:List (Nat×Obj)):Prop where
 cells:∀x∈C,fb x.1∧A.cell? ⟨x.1,x.2.1,none⟩=some x.2.2
 objs:∀x∈O,fb x.1∧Obj.plainO x.2=true∧A.heap[x.1]? =some x.2
section
variable {fb : Nat → Prop} {A B : World} {C C' : List (Nat × Nat × Value)} {O O' : List (Nat × Obj)}
theorem Mine.nil:Mine fb A [] []:=⟨fun _ h=>(List.not_mem_nil h).elim,fun _ h=>(List.not_mem_nil h).elim⟩
theorem Mine.app(h:Mine fb A C O)(h':Mine fb A C' O'):Mine fb A (C'++C) (O'++O):=
 ⟨fun x hx=>(List.mem_append.1 hx).elim (h'.cells x) (h.cells x),fun x hx=>(List.mem_append.1 hx).elim (h'.objs x) (h.objs x)⟩
theorem Mine.sub(h:Mine fb A C O)(hc:∀x∈C',x∈C)(ho:∀x∈O',x∈O):Mine fb A C' O':=
 ⟨fun x hx=>h.cells x (hc x hx),fun x hx=>h.objs x (ho x hx)⟩
theorem Mine.fbs{fb':Nat→Prop}(h:Mine fb A C O)(hf:∀b,fb b→fb' b):Mine fb' A C O:=
 ⟨fun x hx=>⟨hf _ (h.cells x hx).1,(h.cells x hx).2⟩,fun x hx=>⟨hf _ (h.objs x hx).1,(h.objs x hx).2⟩⟩
theorem Mine.below(h:Mine fb A C O)(hb:RowKit.Below A.heap.size A B):Mine fb B C O:=
 ⟨fun x hx=>⟨(h.cells x hx).1,by rw[hb.cell (cell_lt (h.cells x hx).2)];exact(h.cells x hx).2⟩,
  fun x hx=>⟨(h.objs x hx).1,(h.objs x hx).2.1,by rw[hb.block x.1 (Array.getElem?_eq_some_iff.1 (h.objs x hx).2.2).1];exact(h.objs x hx).2.2⟩⟩
theorem Mine.stands(h:Mine fb A C O)(hs:∀b,fb b→Stands b A B):Mine fb B C O:=
 ⟨fun x hx=>⟨(h.cells x hx).1,by rw[(hs _ (h.cells x hx).1).1];exact(h.cells x hx).2⟩,
  fun x hx=>⟨(h.objs x hx).1,(h.objs x hx).2.1,(hs _ (h.objs x hx).1).2 _ (h.objs x hx).2.2 (h.objs x hx).2.1⟩⟩
theorem Mine.turn(h:Mine fb A C O){b:Nat}{o o':Obj}(hb:A.heap[b]? =some o)(ho:Obj.plainO o=true)(hn:∀x∈O,x.1≠b):Mine fb (A.putObj b o') C O:=by
 refine⟨fun x hx=>⟨(h.cells x hx).1,?_⟩,fun x hx=>⟨(h.objs x hx).1,(h.objs x hx).2.1,?_⟩⟩
 ·have q:=(h.cells x hx).2
  have hne:x.1≠b:=fun e=>by
   rw[e] at q
   simp only[World.cell?,hb] at q
   cases o<;>first |(cases ho;done) |(simp at q)
  rw[cellO (w:=A) (World.putObj_heap_other hne)]
  exact q
 ·rw[World.putObj_heap_other (hn x hx)]
  exact(h.objs x hx).2.2
end
theorem first_call'(l:List Int)(hlen:l.length<4611686018427387904)(hp:∀x∈l,0≤x)(hs:l.sum<4611686018427387904)(s:Int)(hs0:0≤s)(hs1:s<(l.length:Int))(va vst:Value)(w:World)(h:SlAt l va w):
    Calls Tryz.prog 238 #[.agg #[va,vst],.int .i64 s] w fun e w'=>e= .returned (.int .i64 (l.take s.toNat).sum)∧RowKit.Below w.heap.size w w':=
 callsIn_wr.1 (first_call (wr none) 1 trivial trivial rfl (Nat.le_refl _) l hlen hp hs s hs0 hs1 va vst w h)
theorem atomsG_call'(l:List Int)(hlen:l.length<4611686018427387904)(hp:∀x∈l,0≤x)(hs:l.sum<4611686018427387904)(va vst:Value)(w:World)(h:SlAt l va w):
    Calls Tryz.prog 112 #[.agg #[va,vst]] w fun e w'=>e= .returned (.int .i64 l.sum)∧RowKit.Below w.heap.size w w':=
 callsIn_wr.1 (atomsG_call (wr none) 1 trivial trivial rfl (Nat.le_refl _) l hlen hp hs va vst w h)
theorem tuples_call'(p:Int)(va vst:Value)(ad:Option Addr)(k cap:Nat)(w:World):
    Calls Tryz.prog 178 #[.agg #[va,vst],.int .i64 p,.slice ad k cap] w fun e w'=>∃c1 c2 c3,e= .returned (.func (.func 237) #[] #[.pointer (some ⟨c1,0,none⟩),.pointer (some ⟨c2,0,none⟩),.pointer (some ⟨c3,0,none⟩)])∧RowKit.Below w.heap.size w w'∧
     (w.heap.size≤c1∧w.heap.size≤c2∧w.heap.size≤c3)∧w'.cell? ⟨c1,0,none⟩=some (.slice ad k cap)∧w'.cell? ⟨c2,0,none⟩=some (.int .i64 p)∧w'.cell? ⟨c3,0,none⟩=some va∧w'.cell? ⟨c3,1,none⟩=some vst:=
 callsIn_wr.1 (tuples_call (wr none) 1 trivial rfl p va vst ad k cap w)
theorem below_drew{B:Nat}{a w:World}(h:RowKit.Below B a w):RowKit.Below B a w.drew:=⟨h.os,h.tape,h.output,h.size,h.block⟩
theorem keep3{c1 c2 c3 c4:Addr}{v1 v2 v3 v4:Value}{l:List Int}{va:Value}{W w w':World}
    (h:w.cell? c1=some v1∧w.cell? c2=some v2∧w.cell? c3=some v3∧w.cell? c4=some v4∧SlAt l va w∧RowKit.Below W.heap.size W w) (hb:RowKit.Below w.heap.size w w'):
    w'.cell? c1=some v1∧w'.cell? c2=some v2∧w'.cell? c3=some v3∧w'.cell? c4=some v4∧SlAt l va w'∧RowKit.Below W.heap.size W w':=by
 obtain⟨h1,h2,h3,h4,h5,h6⟩:=h
 exact⟨by rw[hb.cell (cell_lt h1)];exact h1,by rw[hb.cell (cell_lt h2)];exact h2,by rw[hb.cell (cell_lt h3)];exact h3,by rw[hb.cell (cell_lt h4)];exact h4,h5.below hb,h6.trans (hb.mono h6.size)⟩
theorem SlAt.tail{s:Int}{r:List Int}{sb so cap:Nat}{A:World}{adn:Option Addr}(h:SlAt (s::r) (.slice (some ⟨sb,so,none⟩) (s::r).length cap) A)(hadn:(if cap=1 then some (⟨sb,so,none⟩:Addr) else some ⟨sb,so+1,none⟩)=adn):SlAt r (.slice adn r.length (cap-1)) A:=by
 obtain⟨ad,cp,heq,hcp,hne⟩:=h
 cases heq
 simp only[List.length_cons] at hcp
 refine⟨_,_,rfl,by omega,fun hr=>?_⟩
 have h1:cap≠1:=fun e=>hr (List.eq_nil_of_length_eq_zero (by omega))
 rw[if_neg h1] at hadn
 obtain⟨b,o,heq,hc⟩:=hne (by simp)
 cases heq
 refine⟨sb,so+1,hadn.symm,fun j x hx=>?_⟩
 have:=hc (j+1) x (by simpa using hx)
 rw[show so+1+j=so+(j+1) by omega]
 exact this
theorem stands_trans{b:Nat}{A B C:World}(h:Stands b A B)(k:Stands b B C):Stands b A C:=
 ⟨fun o=>(k.1 o).trans (h.1 o),fun o h1 h2=>k.2 o (h.2 o h1 h2) h2⟩
theorem stands_put{b l:Nat}{A:World}{o:Obj}(h:b≠l):Stands b A (A.putObj l o):=
 ⟨fun _=>cellO (World.putObj_heap_other h) _,fun _ h1 _=>(World.putObj_heap_other h).trans h1⟩
def At237(p1 p2 p3:Nat×Nat)(ss:List Int)(p:Int)(ats:List Int)(vs va vst:Value)(w:World):Prop:=
 w.cell? ⟨p1.1,p1.2,none⟩=some vs∧w.cell? ⟨p2.1,p2.2,none⟩=some (.int .i64 p)∧w.cell? ⟨p3.1,p3.2,none⟩=some va∧w.cell? ⟨p3.1,p3.2+1,none⟩=some vst∧SlAt ss vs w∧SlAt ats va w
def tm237(t0 t1 t2 t3 t4 t5 t6:Value)(U:Nat→Value):Array Value:=#[t0,t1,t2,t3,t4,t5,t6,U 7,U 8,U 9,U 10,U 11,U 12,U 13,U 14,U 15,U 16,U 17,U 18,U 19,U 20,U 21,U 22,U 23,U 24,U 25,U 26,U 27,U 28,U 29,U 30,U 31,U 32,U 33,U 34,U 35,U 36,U 37,U 38,U 39,U 40,U 41,U 42,U 43,U 44,U 45,U 46,U 47]
theorem tm237_def(t0 t1 t2 t3 t4 t5 t6:Value)(U:Nat→Value):tm237 t0 t1 t2 t3 t4 t5 t6 U= #[t0,t1,t2,t3,t4,t5,t6,U 7,U 8,U 9,U 10,U 11,U 12,U 13,U 14,U 15,U 16,U 17,U 18,U 19,U 20,U 21,U 22,U 23,U 24,U 25,U 26,U 27,U 28,U 29,U 30,U 31,U 32,U 33,U 34,U 35,U 36,U 37,U 38,U 39,U 40,U 41,U 42,U 43,U 44,U 45,U 46,U 47]:=rfl
theorem act237_eq{arr:Array Value}{ds:List Deferred}(h:arr.size=48):({tmps:=arr,defers:=ds}:Act)={tmps:=tm237 (arr.getD 0 undef) (arr.getD 1 undef) (arr.getD 2 undef) (arr.getD 3 undef) (arr.getD 4 undef) (arr.getD 5 undef) (arr.getD 6 undef) (fun i=>arr.getD i undef),defers:=ds}:=by
 have e:arr=tm237 (arr.getD 0 undef) (arr.getD 1 undef) (arr.getD 2 undef) (arr.getD 3 undef) (arr.getD 4 undef) (arr.getD 5 undef) (arr.getD 6 undef) (fun i=>arr.getD i undef):=by
  apply Array.ext
  ·rw[h];rfl
  ·intro i h1 h2
   have hi:i<48:=by omega
   have hg:arr[i]=arr.getD i undef:=by simp[Array.getD,h1]
   rw[hg]
   match i,hi with
   | 0,_=>rfl
   | 1,_=>rfl
   | 2,_=>rfl
   | 3,_=>rfl
   | 4,_=>rfl
   | 5,_=>rfl
   | 6,_=>rfl
   | 7,_=>rfl
   | 8,_=>rfl
   | 9,_=>rfl
   | 10,_=>rfl
   | 11,_=>rfl
   | 12,_=>rfl
   | 13,_=>rfl
   | 14,_=>rfl
   | 15,_=>rfl
   | 16,_=>rfl
   | 17,_=>rfl
   | 18,_=>rfl
   | 19,_=>rfl
   | 20,_=>rfl
   | 21,_=>rfl
   | 22,_=>rfl
   | 23,_=>rfl
   | 24,_=>rfl
   | 25,_=>rfl
   | 26,_=>rfl
   | 27,_=>rfl
   | 28,_=>rfl
   | 29,_=>rfl
   | 30,_=>rfl
   | 31,_=>rfl
   | 32,_=>rfl
   | 33,_=>rfl
   | 34,_=>rfl
   | 35,_=>rfl
   | 36,_=>rfl
   | 37,_=>rfl
   | 38,_=>rfl
   | 39,_=>rfl
   | 40,_=>rfl
   | 41,_=>rfl
   | 42,_=>rfl
   | 43,_=>rfl
   | 44,_=>rfl
   | 45,_=>rfl
   | 46,_=>rfl
   | 47,_=>rfl
   |n+48,hi=>exact absurd hi (by omega)
 exact congrArg (fun t=>({tmps:=t,defers:=ds}:Act)) e
theorem wp_behind{P:Program}{c:Code}{Q:Exit→Act→World→Prop}{a:Act}{w:World}(h:∀Q':Exit→Act→World→Prop,(∀e a w,Q e a w→Q' e a w∨False)→c.wp P Q' a w):c.wp P Q a w:=h Q fun _ _ _ q=>.inl q
theorem wpR_loop_rel{P:Program}{ro:Option Nat}{fid:Nat}{c:Code}{Q:Exit→Act→World→Prop}{Rel:Nat→Act→World→Prop}
    (h:∀i a w,Rel i a w→wpR ro fid P c (Exit.then (fun a w=>∃i',i=i'+1∧Rel i' a w) Q) a w) {m:Nat} {a:Act} {w:World} (h0:Rel m a w):wpR ro fid P (.loop c) Q a w:=by
 refine wpR_loop (m+1) fun R _ hs=>?_
 have key:∀i a w,Rel i a w→R (i+1) a w:=by
  intro i
  induction i with
  |zero=>
   intro a w hr
   refine hs 0 a w (wpR_mono (h 0 a w hr) fun e a w q=>?_)
   cases e with
   |normal=>obtain⟨i',e,_⟩:=q;omega
   |_=>exact q
  |succ i ih=>
   intro a w hr
   refine hs (i+1) a w (wpR_mono (h (i+1) a w hr) fun e a w q=>?_)
   cases e with
   |normal=>
    obtain⟨i',e,q⟩:=q
    have :i=i':=by omega
    subst this
    exact ih a w q
   |_=>exact q
 exact key m a w h0
theorem wpR_range'{P:Program}{fid:Nat}{g:Operand}{ps:Array Tmp}{asg body:Code}{Q:Exit→Act→World→Prop}{a:Act}{w:World}{gf:Nat}{la lb:Array Value}(hg:a.eval g= .func (.func gf) la lb)(hent:Vs.Enters P gf)
    (h:∀rec:Loop,rec={state:=.ready,pending:=none,fn:=fid,tmps:=a.tmps,params:=ps,assign:=asg,body,defers:=w.heap.size}→
     Calls P gf (la++ #[.func (.yield (w.heap.size+1)) #[] #[]]++lb) ((w.alloc (.deferred (some []))).alloc (.loop rec)) fun e B=>match e with
     | .returned _=>∃jump w4,(Instr.endLoop (w.heap.size+1)).run P B= .ok jump w4∧(match jump with
      |none=>Q .normal {a with defers:=Vs.mark w.heap.size::a.defers} w4
      |some c=>wpR none fid P c Q {a with defers:=Vs.mark w.heap.size::a.defers} w4)
     | .panicked ch=>Q (.panic ch) {a with defers:=Vs.mark w.heap.size::a.defers} B
     | .outgrown=>False):wpR none fid P (.rangeFunc g ps asg body) Q a w:=wpR_range hg hent (h _ rfl)
theorem roundIn_wr{ro:Option Nat}{n:Nat}{P:Program}{l:Nat}{f:FuncId}{tmps:Array Value}{assign body:Code}{w:World}{R:Ending→World→Prop}(h:RoundIn (wr none) n P l f tmps assign body w R):RoundIn (wr ro) n P l f tmps assign body w R:=h
theorem leaves_own{P:Program}{fn:Func}{tmps:Array Value}{R:Ending→World→Prop}{u:FrameMode}{K:World→Prop}(hu:u≠.run)(hK:∀w,K w→Leaves P fn tmps R [] u w):
    ∀(ms:List Nat) (w:World),K w→ms.Nodup→(∀m∈ms,w.heap[m]? =some (.deferred (some [])))→(∀w m,m∈ms→K w→w.heap[m]? =some (.deferred (some []))→K (w.putObj m (.deferred none)))→LvM P fn tmps R (ms.map Vs.mark) u w
 |[],w,h,_,_,_=>lvM_of (hK w h)
 |m::ms,w,h,hn,hm,hT=>by
  obtain⟨h1,h2⟩:=List.nodup_cons.1 hn
  have g2:=hm m (by simp)
  refine .inl ⟨hu,m,w.putObj m (.deferred none),rfl,run_takeDeferred g2,?_⟩
  refine leaves_own hu hK ms _ (hT w m (by simp) h g2) h2 (fun k hk=>?_) fun w k hk=>hT w k (by simp[hk])
  exact(World.putObj_heap_other (fun e=>h1 (by rw[←e];exact hk))).trans (hm k (by simp[hk]))
set_option maxRecDepth 100000 in
set_option maxHeartbeats 4000000 in
theorem walk237(ats:List Int)(hal:∀x∈ats,0≤x)(hsum:ats.sum<4611686018427387904)(hlen:ats.length<4611686018427387904):∀(ss:List Int),ss.length<4611686018427387904→(∀s∈ss,0≤s∧s<(ats.length:Int))→
    ∀(p:Int) (lp:Nat) (p1 p2 p3:Nat×Nat) (vs va vst:Value) (J:Nat→(Nat→Prop)→World→Prop) (X:Ending→World→Prop) (w0:World),
     (∀k fb A,J k fb A→At237 p1 p2 p3 ss p ats vs va vst A)→
     (∀k fb A B,J k fb A→RowKit.Below A.heap.size A B→J k (fun b=>fb b∨(A.heap.size≤b∧b<B.heap.size)) B)→
     (∀k fb A b o o',J k fb A→fb b→A.heap[b]? =some o→Obj.plainO o=true→J k fb (A.putObj b o'))→(∀e A B,X e A→RowKit.Below A.heap.size A B→X e B)→
     (∀e A b o o',X e A→w0.heap.size≤b→A.heap[b]? =some o→Obj.plainO o=true→X e (A.putObj b o'))→
     (∀k fb x A,(tupL ats ss p)[k]? =some x→J k fb A→YieldAt (wr none) 0 Tryz.prog lp #[.int .i64 x] A fun e B=>(A.heap.size≤B.heap.size∧∀b,fb b→Stands b A B)∧((e= .returned (.bool true)∧J (k+1) fb B)∨(e= .returned (.bool false)∧X e B)∨∃ch,e= .panicked ch∧X e B))→
     J 0 (fun _=>False) w0→
     Calls Tryz.prog 237 #[.func (.yield lp) #[] #[],.pointer (some ⟨p1.1,p1.2,none⟩),.pointer (some ⟨p2.1,p2.2,none⟩),.pointer (some ⟨p3.1,p3.2,none⟩)] w0 fun e B=>((∃v,e= .returned v)∧((∃fb,J (tupL ats ss p).length fb B)∨X (.returned (.bool false)) B))∨∃ch,e= .panicked ch∧X e B
 |[],_,_,p,lp,p1,p2,p3,vs,va,vst,J,X,w0,hK,hJ,hT,hX,hXT,hY,h0=>by
  have hc:CallsIn (wr none) 1 Tryz.prog 237 #[.func (.yield lp) #[] #[],.pointer (some ⟨p1.1,p1.2,none⟩),.pointer (some ⟨p2.1,p2.2,none⟩),.pointer (some ⟨p3.1,p3.2,none⟩)] w0 fun e B=>((∃v,e= .returned v)∧((∃fb,J (tupL ats [] p).length fb B)∨X (.returned (.bool false)) B))∨∃ch,e= .panicked ch∧X e B:=by
   refine callsIn_of_wp Tryz.func237 rfl trivial ?_ rfl
   simp only[Tryz.ntmps237,List.size_toArray,List.length_cons,List.length_nil,Nat.reduceAdd,Nat.reduceSub,Array.replicate_succ,Array.replicate_zero,List.push_toArray,List.append_toArray,List.nil_append,List.cons_append]
   have t3:=Tryz.underlying3;have a3:=Tryz.isAgg3;have z3:=Tryz.sizeOf3;have t4:=Tryz.underlying4;have a4:=Tryz.isAgg4;have z4:=Tryz.sizeOf4;have t28:=Tryz.underlying28;have a28:=Tryz.isAgg28;have z28:=Tryz.sizeOf28;have t30:=Tryz.underlying30;have a30:=Tryz.isAgg30;have z30:=Tryz.sizeOf30;have t135:=Tryz.underlying135;have a135:=Tryz.isAgg135;have z135:=Tryz.sizeOf135;have v3:=Tryz.zeroValue3;have v4:=Tryz.zeroValue4;have v28:=Tryz.zeroValue28;have v135:=Tryz.zeroValue135;have u3:=run_underlying Tryz.underlying3;have u4:=run_underlying Tryz.underlying4;have u28:=run_underlying Tryz.underlying28;have u30:=run_underlying Tryz.underlying30;have u135:=run_underlying Tryz.underlying135
   have hro:(wr none).round=none:=rfl
   have hB1:RowKit.Below w0.heap.size w0 (w0.alloc (Obj.cells #[Value.func (.yield lp) #[] #[]] 135)):=RowKit.Below.alloc (.refl _ _) (Nat.le_refl _) _
   have hJ1:=hJ _ _ _ _ h0 hB1
   have hce:(w0.alloc (Obj.cells #[Value.func (.yield lp) #[] #[]] 135)).cell? ⟨w0.heap.size,0,none⟩=some (.func (.yield lp) #[] #[]):=by simp[go_sem]
   obtain⟨q1,q2,q3,q4,⟨ad,cap,rfl,hcap,hne⟩,q6⟩:=hK _ _ _ hJ1
   clear hne q6 q3 q4
   obtain⟨fn,tmps,assign,body,hy,hR⟩:=hY 0 _ p _ rfl hJ1
   gi_wp2
   refine hR.mono ?_
   rintro e W3 ⟨-,(⟨rfl,hJ3⟩ |⟨rfl,hX3⟩ |⟨ch,rfl,hX3⟩)⟩
   ·gi_wp2
    refine bodyPost_ret (results_none rfl _ _ _) rfl ?_
    exact .inl ⟨⟨_,rfl⟩,.inl ⟨_,hJ3⟩⟩
   ·gi_wp2
    refine bodyPost_ret (results_none rfl _ _ _) rfl ?_
    exact .inl ⟨⟨_,rfl⟩,.inr hX3⟩
   ·gi_wp2
    first
     |exact⟨rfl,Or.inr ⟨ch,rfl,hX3⟩⟩
     |exact⟨rfl,Or.inr ⟨⟨ch,rfl⟩,hX3⟩⟩
  exact callsIn_wr.1 hc
 |s::r,hsl,hss,p,lp,p1,p2,p3,vs,va,vst,J,X,w0,hK,hJ,hT,hX,hXT,hY,h0=>by
  have IH:=walk237 ats hal hsum hlen r (by simp at hsl;omega) (fun s hs=>hss s (by simp[hs]))
  obtain⟨hs0,hs1⟩:=hss s (by simp)
  refine calls_of_R Tryz.func237 rfl ?_
  simp only[Tryz.ntmps237,List.size_toArray,List.length_cons,List.length_nil,Nat.reduceAdd,Nat.reduceSub,Array.replicate_succ,Array.replicate_zero,List.push_toArray,List.append_toArray,List.nil_append,List.cons_append]
  have t3:=Tryz.underlying3;have a3:=Tryz.isAgg3;have z3:=Tryz.sizeOf3;have t4:=Tryz.underlying4;have a4:=Tryz.isAgg4;have z4:=Tryz.sizeOf4;have t28:=Tryz.underlying28;have a28:=Tryz.isAgg28;have z28:=Tryz.sizeOf28;have t30:=Tryz.underlying30;have a30:=Tryz.isAgg30;have z30:=Tryz.sizeOf30;have t135:=Tryz.underlying135;have a135:=Tryz.isAgg135;have z135:=Tryz.sizeOf135;have v3:=Tryz.zeroValue3;have v4:=Tryz.zeroValue4;have v28:=Tryz.zeroValue28;have v135:=Tryz.zeroValue135;have u3:=run_underlying Tryz.underlying3;have u4:=run_underlying Tryz.underlying4;have u28:=run_underlying Tryz.underlying28;have u30:=run_underlying Tryz.underlying30;have u135:=run_underlying Tryz.underlying135
  have hB1:RowKit.Below w0.heap.size w0 (w0.alloc (Obj.cells #[Value.func (.yield lp) #[] #[]] 135)):=RowKit.Below.alloc (.refl _ _) (Nat.le_refl _) _
  have hJ1:=hJ _ _ _ _ h0 hB1
  have hce:(w0.alloc (Obj.cells #[Value.func (.yield lp) #[] #[]] 135)).cell? ⟨w0.heap.size,0,none⟩=some (.func (.yield lp) #[] #[]):=by simp[go_sem]
  generalize hQ:bodyM Tryz.prog Tryz.f237 (fun e B=>((∃v,e=Ending.returned v)∧((∃fb,J (tupL ats (s::r) p).length fb B)∨X (Ending.returned (Value.bool false)) B))∨∃ch,e=Ending.panicked ch∧X e B)=Q
  refine wpR_seq (wpR_of_wp ?_)
  go_wp2
  have hsz1:w0.heap.size<(w0.alloc (Obj.cells #[Value.func (.yield lp) #[] #[]] 135)).heap.size:=by simp
  have hM1:Mine (fun b=>False∨(w0.heap.size≤b∧b<(w0.alloc (Obj.cells #[Value.func (.yield lp) #[] #[]] 135)).heap.size)) (w0.alloc (Obj.cells #[Value.func (.yield lp) #[] #[]] 135)) [(w0.heap.size,0,.func (.yield lp) #[] #[])] []:=
   ⟨fun x hx=>by rw[List.mem_singleton] at hx;subst hx;exact⟨.inr ⟨Nat.le_refl _,hsz1⟩,hce⟩,fun x hx=>(List.not_mem_nil hx).elim⟩
  have hw01:=hB1.size
  generalize w0.alloc (Obj.cells #[Value.func (.yield lp) #[] #[]] 135)=W1 at *
  generalize (fun b=>False∨(w0.heap.size≤b∧b<W1.heap.size))=fb1 at *
  obtain⟨q1,q2,q3,q4,q5,q6⟩:=hK _ _ _ hJ1
  obtain⟨ad,cap,rfl,hcap,hne⟩:=q5
  obtain⟨sb,so,rfl,hsc⟩:=hne (by simp)
  have hs:=hsc 0 s rfl
  rw[Nat.add_zero] at hs
  have hln:(0 :Int)<((s::r).length:Int):=by simp
  clear hsc hne
  refine wpR_seq (wpR_of_wp ?_)
  go_wp2
  have hBB:RowKit.Below W1.heap.size W1 W1:=.refl _ _
  refine wpR_seq (wpR_of_wp ?_)
  go_region_held3 (fun w'=>w'.cell? ⟨p1.1,p1.2,none⟩=some (.slice (some ⟨sb,so,none⟩) (s::r).length cap)∧w'.cell? ⟨p3.1,p3.2,none⟩=some va∧w'.cell? ⟨p3.1,p3.2+1,none⟩=some vst∧w'.cell? ⟨sb,so,none⟩=some (.int .i64 s)∧SlAt ats va w'∧RowKit.Below W1.heap.size W1 w')
   (first
    |exact⟨q1,q3,q4,hs,q6,below_drew (.refl _ _)⟩
    |(refine keep3 ⟨q1,q3,q4,hs,q6,hBB⟩ (RowKit.Below.trans (below_drew (.refl _ W1)) ?_);assumption))
   ((go_at_call 238;refine(first_call' ats hlen hal hsum s hs0 hs1 va vst _ (by assumption)).mono ?_;rintro e w2 ⟨rfl,hb2⟩))
  have hB2:RowKit.Below W1.heap.size W1 w2:=(below_drew (.refl _ W1)).trans hb2
  have hJ2:=hJ _ _ _ _ hJ1 hB2
  have hM2:=(hM1.below hB2).fbs (fb':=fun b=>fb1 b∨(W1.heap.size≤b∧b<w2.heap.size)) fun b h=>.inl h
  have hw02:w0.heap.size≤w2.heap.size:=Nat.le_trans hw01 hB2.size
  generalize (fun b=>fb1 b∨(W1.heap.size≤b∧b<w2.heap.size))=fb2 at hJ2 hM2
  rename_i hHeld
  clear hHeld hb2 hB2 hBB hs q1 q2 q3 q4 q6 hM1 hJ1 hce hB1
  refine wpR_seq (wpR_of_wp ?_)
  go_wp2
  refine wpR_block ?_
  obtain⟨x,hx⟩:∃x,ats[s.toNat]? =some x:=⟨_,List.getElem?_eq_getElem (by omega)⟩
  have hx0:0≤x:=hal x (List.mem_of_getElem? hx)
  have hgx:ats.getD s.toNat 0=x:=by simp[List.getD,hx]
  obtain⟨f,hf⟩:∃f,(List.take s.toNat ats).sum=f:=⟨_,rfl⟩
  have hf0:0≤f∧f+x<4611686018427387904:=by
   have h1:=sum_take_le hal s.toNat
   have h2:=sum_take_le hal (s.toNat+1)
   rw[List.take_add_one,hx] at h2
   simp only[List.sum_append,Option.toList_some,List.sum_cons,List.sum_nil] at h2
   omega
  obtain⟨L,hL⟩:∃L,tupL ats (s::r) p=L:=⟨_,rfl⟩
  have hLe:(List.range x.toNat).flatMap (fun(j:Nat)=>tupL ats r (IntKind.i64.wrap (IntKind.i64.wrap (p*ats.sum)+(f+(j:Int)))))=L:=by
   rw[←hL,tupL,hgx,hf]
  rw[hL] at hQ hY
  have hLe1:∀(tm:Array Value) (w:World),((∃fb,J L.length fb w)∨X (.returned (.bool false)) w)→Leaves Tryz.prog Tryz.f237 tm (fun e B=>((∃v,e=Ending.returned v)∧((∃fb,J L.length fb B)∨X (Ending.returned (Value.bool false)) B))∨∃ch,e=Ending.panicked ch∧X e B) [] .returning w:=fun tm w hw=>by
   show ∃v,(results Tryz.f237 tm).run Tryz.prog w= .ok v w∧_
   exact⟨_,results_none rfl _ _ _,.inl ⟨⟨_,rfl⟩,hw⟩⟩
  have hLe2:∀ch (tm:Array Value) (w:World),X (.panicked ch) w→Leaves Tryz.prog Tryz.f237 tm (fun e B=>((∃v,e=Ending.returned v)∧((∃fb,J L.length fb B)∨X (Ending.returned (Value.bool false)) B))∨∃ch,e=Ending.panicked ch∧X e B) [] (.panicking ch) w:=fun ch tm w hw=>by
   show _∨_
   exact .inr ⟨ch,rfl,hw⟩
  have hEnd:∀(e:Exit),(e= .normal∨e= .ret)→∀(tm:Array Value) (ms:List Nat) (A:World),ms.Nodup→(∀m∈ms,w0.heap.size≤m∧A.heap[m]? =some (.deferred (some [])))→((∃fb,J L.length fb A∧∀m∈ms,fb m)∨X (.returned (.bool false)) A)→Q e {tmps:=tm,defers:=ms.map Vs.mark} A:=by
   intro e he tm ms A hnd hmm hK0
   rw[←hQ]
   have key:LvM Tryz.prog Tryz.f237 tm (fun e B=>((∃v,e=Ending.returned v)∧((∃fb,J L.length fb B)∨X (Ending.returned (Value.bool false)) B))∨∃ch,e=Ending.panicked ch∧X e B) (ms.map Vs.mark) .returning A:=by
    refine leaves_own (K:=fun w=>(∃fb,J L.length fb w∧∀m∈ms,fb m)∨X (.returned (.bool false)) w) (by simp) (fun w hw=>hLe1 tm w (hw.imp (fun⟨fb,h,_⟩=>⟨fb,h⟩) id)) ms A hK0 hnd (fun m hm=>(hmm m hm).2) fun w m hm hw hh=>?_
    rcases hw with⟨fb,h1,h2⟩ |h1
    ·exact .inl ⟨fb,hT _ _ _ _ _ _ h1 (h2 m hm) hh rfl,h2⟩
    ·exact .inr (hXT _ _ _ _ _ h1 (hmm m hm).1 hh rfl)
   rcases he with rfl |rfl
   ·exact key
   ·exact key
  have hPan:∀ch (tm:Array Value) (ms:List Nat) (A:World),ms.Nodup→(∀m∈ms,w0.heap.size≤m∧A.heap[m]? =some (.deferred (some [])))→X (.panicked ch) A→Q (.panic ch) {tmps:=tm,defers:=ms.map Vs.mark} A:=by
   intro ch tm ms A hnd hmm hK0
   rw[←hQ]
   show LvM Tryz.prog Tryz.f237 tm _ (ms.map Vs.mark) (.panicking ch) A
   exact leaves_own (K:=fun w=>X (.panicked ch) w) (by simp) (fun w hw=>hLe2 ch tm w hw) ms A hK0 hnd (fun m hm=>(hmm m hm).2) fun w m hm hw hh=>hXT _ _ _ _ _ hw (hmm m hm).1 hh rfl
  rw[hf]
  refine wpR_loop_rel (Rel:=fun i a A=>∃(j k:Nat) (fb:Nat→Prop) (ms:List Nat) (U:Nat→Value),i+j=x.toNat∧
      a={tmps:=tm237 (.func (.yield lp) #[] #[]) (.pointer (some ⟨p1.1,p1.2,none⟩)) (.pointer (some ⟨p2.1,p2.2,none⟩)) (.pointer (some ⟨p3.1,p3.2,none⟩)) (.pointer (some ⟨w0.heap.size,0,none⟩)) (.int .i64 f) (.int .i64 (f+(j:Int))) U,defers:=ms.map Vs.mark}∧
      ((List.range x.toNat).drop j).flatMap (fun(j:Nat)=>tupL ats r (IntKind.i64.wrap (IntKind.i64.wrap (p*ats.sum)+(f+(j:Int)))))=L.drop k∧k≤L.length∧J k fb A∧Mine fb A [(w0.heap.size,0,.func (.yield lp) #[] #[])] (ms.map fun m=>(m,.deferred (some [])))∧ms.Nodup∧(∀m∈ms,w0.heap.size≤m)∧w0.heap.size≤A.heap.size) (m:=x.toNat) ?_ ?_
  ·rintro i a A ⟨j,k,fb,ms,U,hij,rfl,hk,hkle,hJk,hMk,hnd,hms,hA0⟩
   rw[tm237_def]
   obtain⟨q1,q2,q3,q4,q5,q6⟩:=hK k fb A hJk
   obtain⟨ada,capa,rfl,hcapa,hnea⟩:=q6
   obtain⟨ab,ao,rfl,hca⟩:=hnea (by intro e;subst e;simp at hx)
   have hxc:=hca _ _ hx
   obtain⟨ad5,cap5,heq,-,hne5⟩:=q5
   cases heq
   obtain⟨b5,o5,heq,hsc⟩:=hne5 (by simp)
   cases heq
   have hs:=hsc 0 s rfl
   rw[Nat.add_zero] at hs
   clear hsc hne5 hnea hca
   refine wpR_seq (wpR_of_wp ?_)
   rcases Nat.lt_or_ge j x.toNat with hlt |hge
   ·have hl1:(j:Int)<x:=by omega
    have hl2:f+(j:Int)<f+x:=by omega
    have hl3:f+x<4611686018427387904:=hf0.2
    have hl4:0≤f:=hf0.1
    have hw1:IntKind.i64.wrap (f+x)=f+x:=IntWalk.i64_in _ (by omega)
    go_wp2
    go_quiet (fail)
    clear hw1
    go_wp2
    have hJ3:=hJ _ _ _ _ hJk (below_drewN (.refl _ A) nq)
    have hM3:=(hMk.below (below_drewN (.refl _ A) nq)).fbs (fb':=fun b=>fb b∨(A.heap.size≤b∧b<(A.drewN nq).heap.size)) fun b h=>.inl h
    have hA1:w0.heap.size≤(A.drewN nq).heap.size:=hA0
    generalize (fun b=>fb b∨(A.heap.size≤b∧b<(A.drewN nq).heap.size))=fb3 at hJ3 hM3
    generalize A.drewN nq=A1 at *
    clear q1 q2 q3 q4 hs hxc hJk hMk
    obtain⟨q1,q2,q3,q4,q5,q6⟩:=hK k fb3 A1 hJ3
    have hcp1:(r.length:Int)+1≤(cap:Int):=by simp at hcap;omega
    have hcp2:(1 :Int)≤(r.length:Int)+1:=by omega
    have hcp3:(0 :Int)≤(r.length:Int)+1:=by omega
    have hcp4:(1 :Int)≤(cap:Int):=by omega
    obtain⟨adn,hadn⟩:∃adn,(if cap=1 then some (⟨sb,so,none⟩:Addr) else some ⟨sb,so+1,none⟩)=adn:=⟨_,rfl⟩
    refine wpR_seq (wpR_block (wpR_seq (wpR_of_wp ?_)))
    go_region_held3 (fun w'=>w'.cell? ⟨p1.1,p1.2,none⟩=some (.slice (some ⟨sb,so,none⟩) (s::r).length cap)∧w'.cell? ⟨p3.1,p3.2,none⟩=some (.slice (some ⟨ab,ao,none⟩) ats.length capa)∧w'.cell? ⟨p3.1,p3.2+1,none⟩=some vst∧w'.cell? ⟨p2.1,p2.2,none⟩=some (.int .i64 p)∧SlAt ats (.slice (some ⟨ab,ao,none⟩) ats.length capa) w'∧RowKit.Below A1.heap.size A1 w')
     (first
      |exact⟨q1,q3,q4,q2,q6,below_drew (.refl _ _)⟩
      |(refine keep3 ⟨q1,q3,q4,q2,q6,.refl _ _⟩ (RowKit.Below.trans (below_drew (.refl _ A1)) ?_);assumption)
      |(refine keep3 (by assumption) ?_;assumption))
     ((first
      |(go_at_call 112;refine(atomsG_call' ats hlen hal hsum _ vst _ (by assumption)).mono ?_;rintro e w3 ⟨rfl,hb3⟩)
      |(go_at_call 178;refine(tuples_call' _ _ vst _ _ _ _).mono ?_;rintro e w4 ⟨c1,c2,c3,rfl,hb4,hc4,g1,g2,g3,g4⟩)))
    rename_i hHeld
    obtain⟨-,-,-,-,-,hb5⟩:=hHeld
    clear hcp1 hcp2 hcp3 hcp4 hl1 hl2 hl3 hl4 q1 q2 q3 q4
    obtain⟨p',hp'⟩:∃p',IntKind.i64.wrap (IntKind.i64.wrap (p*ats.sum)+(f+(j:Int)))=p':=⟨_,rfl⟩
    rw[hp'] at g2⊢
    have hc4':A1.heap.size≤c1∧A1.heap.size≤c2∧A1.heap.size≤c3:=by
     have:=hb3.size
     have e:A1.drew.heap.size=A1.heap.size:=rfl
     omega
    have hJ4:=hJ _ _ _ _ hJ3 hb5
    have hM4:=(hM3.below hb5).fbs (fb':=fun b=>fb3 b∨(A1.heap.size≤b∧b<w4.heap.size)) fun b h=>.inl h
    have hM4c:Mine (fun b=>fb3 b∨(A1.heap.size≤b∧b<w4.heap.size)) w4 [(c1,0,Value.slice adn r.length (cap-1)),(c2,0,.int .i64 p'),(c3,0,Value.slice (some ⟨ab,ao,none⟩) ats.length capa),(c3,1,vst)] []:=by
     refine⟨fun x hx=>?_,fun x hx=>(List.not_mem_nil hx).elim⟩
     simp only[List.mem_cons,List.not_mem_nil,or_false] at hx
     rcases hx with rfl |rfl |rfl |rfl
     ·exact⟨.inr ⟨hc4'.1,cell_lt g1⟩,g1⟩
     ·exact⟨.inr ⟨hc4'.2.1,cell_lt g2⟩,g2⟩
     ·exact⟨.inr ⟨hc4'.2.2,cell_lt g3⟩,g3⟩
     ·exact⟨.inr ⟨hc4'.2.2,cell_lt g4⟩,g4⟩
    have hM4:=hM4.app hM4c
    have hA4:w0.heap.size≤w4.heap.size:=Nat.le_trans hA1 hb5.size
    generalize (fun b=>fb3 b∨(A1.heap.size≤b∧b<w4.heap.size))=fb4 at hJ4 hM4
    clear hM4c hM3 hJ3 hb3 hb4 hb5 hc4 hc4' g1 g2 g3 g4 q5 q6
    refine wpR_block (wpR_range' rfl ⟨Tryz.f237,Tryz.func237,by kernel_rfl,by kernel_rfl⟩ fun rec hrec=>?_)
    obtain⟨W5,hW5⟩:∃W5,(w4.alloc (.deferred (some []))).alloc (.loop rec)=W5:=⟨_,rfl⟩
    have hl5:W5.heap[w4.heap.size+1]? =some (.loop rec):=by
     rw[←hW5];have:=World.alloc_heap_new (w4.alloc (.deferred (some []))) (.loop rec);rwa [World.size_alloc] at this
    have hk5:W5.heap[w4.heap.size]? =some (.deferred (some [])):=by
     rw[←hW5];exact(RowKit.Below.heap_alloc _ _ _ (by simp)).trans (World.alloc_heap_new w4 _)
    have hB5:RowKit.Below w4.heap.size w4 W5:=by
     rw[←hW5];exact((RowKit.Below.refl _ w4).alloc (Nat.le_refl _) _).alloc (by simp) _
    have hs5:W5.heap.size=w4.heap.size+2:=by rw[←hW5];simp
    rw[hW5]
    clear hW5
    have hJ5:=hJ _ _ _ _ hJ4 hB5
    have hM5:=(hM4.below hB5).fbs (fb':=fun b=>fb4 b∨(w4.heap.size≤b∧b<W5.heap.size)) fun b h=>.inl h
    have hms4:∀m∈ms,m<w4.heap.size:=fun m hm=>(Array.getElem?_eq_some_iff.1 (hM4.objs (m,.deferred (some [])) (by simp only[List.mem_append,List.mem_map];exact .inr ⟨m,hm,rfl⟩)).2.2).1
    have hM5o:Mine (fun b=>fb4 b∨(w4.heap.size≤b∧b<W5.heap.size)) W5 [] [(w4.heap.size+1,.loop rec),(w4.heap.size,.deferred (some []))]:=by
     refine⟨fun x hx=>(List.not_mem_nil hx).elim,fun x hx=>?_⟩
     simp only[List.mem_cons,List.not_mem_nil,or_false] at hx
     rcases hx with rfl |rfl
     ·exact⟨.inr ⟨by omega,by omega⟩,rfl,hl5⟩
     ·exact⟨.inr ⟨by omega,by omega⟩,rfl,hk5⟩
    have hM5:=hM5.app hM5o
    generalize (fun b=>fb4 b∨(w4.heap.size≤b∧b<W5.heap.size))=fb5 at hJ5 hM5
    clear hM5o hM4 hJ4 hB5 hl5 hk5
    simp only[List.nil_append,List.cons_append] at hM5
    obtain⟨l,hl⟩:∃l,w4.heap.size+1=l:=⟨_,rfl⟩
    obtain⟨mk,hmk⟩:∃mk,w4.heap.size=mk:=⟨_,rfl⟩
    rw[hmk] at hrec hms4 hA4
    rw[hl,hmk] at hM5⊢
    have hml:mk+1=l:=by omega
    have hs5:W5.heap.size=mk+2:=by omega
    clear hl hmk
    obtain⟨C5,hC5⟩:∃C5,[(c1,0,Value.slice adn r.length (cap-1)),(c2,0,.int .i64 p'),(c3,0,Value.slice (some ⟨ab,ao,none⟩) ats.length capa),(c3,1,vst),(w0.heap.size,0,.func (.yield lp) #[] #[])]=C5:=⟨_,rfl⟩
    obtain⟨O5,hO5⟩:∃O5:List (Nat×Obj),(mk,.deferred (some []))::ms.map (fun m=>(m,.deferred (some [])))=O5:=⟨_,rfl⟩
    rw[hC5,hO5] at hM5
    have hO5l:∀x∈O5,x.1≠l∧x.1<W5.heap.size:=by
     intro x hx
     rw[←hO5] at hx
     rcases List.mem_cons.1 hx with rfl |hx
     ·exact⟨by show mk≠l;omega,by show mk<_;omega⟩
     ·obtain⟨m,hm,rfl⟩:=List.mem_map.1 hx
      have:=hms4 m hm
      exact⟨by show m≠l;omega,by show m<_;omega⟩
    obtain⟨L',hL'⟩:∃L',tupL ats r p'=L':=⟨_,rfl⟩
    obtain⟨rest,hrest⟩:∃rest,((List.range x.toNat).drop (j+1)).flatMap (fun(j:Nat)=>tupL ats r (IntKind.i64.wrap (IntKind.i64.wrap (p*ats.sum)+(f+(j:Int)))))=rest:=⟨_,rfl⟩
    have hsplit:L'++rest=L.drop k:=by
     have hd:(List.range x.toNat).drop j=j::(List.range x.toNat).drop (j+1):=by
      rw[List.drop_eq_getElem_cons (by simpa using hlt)]
      simp
     rw[←hk,hd,List.flatMap_cons,hrest,hp',hL']
    have hLk:∀k' y,L'[k']? =some y→L[k+k']? =some y:=fun k' y hy=>by
     have h1:(L.drop k)[k']? =some y:=by
      rw[←hsplit,List.getElem?_append_left (List.getElem?_eq_some_iff.1 hy).1]
      exact hy
     rwa [List.getElem?_drop] at h1
    have hih:=IH p' l (c1,0) (c2,0) (c3,0) (.slice adn r.length (cap-1)) (.slice (some ⟨ab,ao,none⟩) ats.length capa) vst
     (fun k' fb' A=>∃fb,J (k+k') fb A∧(∀b,fb' b→fb b∧W5.heap.size≤b)∧Mine fb A C5 ((l,.loop rec)::O5))
     (fun e B=>X e B∧Mine (fun _=>True) B [] O5∧l<B.heap.size∧∀v,e= .returned v→B.heap[l]? =some (.loop {rec with state:=.done,pending:=some .ret}))
     W5 ?_ ?_ ?_ ?_ ?_ ?_ ?_
    ·have hndm:(mk::ms).Nodup:=List.nodup_cons.2 ⟨fun h=>by have:=hms4 mk h;omega,hnd⟩
     have hmsm:∀m∈mk::ms,w0.heap.size≤m:=fun m hm=>by
      rcases List.mem_cons.1 hm with rfl |hm
      ·exact hA4
      ·exact hms m hm
     have hO5m:∀m∈mk::ms,(m,Obj.deferred (some []))∈O5:=fun m hm=>by
      rw[←hO5]
      rcases List.mem_cons.1 hm with rfl |hm
      ·exact List.mem_cons_self
      ·exact List.mem_cons_of_mem _ (List.mem_map.2 ⟨m,hm,rfl⟩)
     refine Calls.mono hih ?_
     rintro e B (⟨⟨v,rfl⟩,⟨fb',fb,hj,hsub,hm⟩ |⟨x1,x2,x3,x4⟩⟩ |⟨ch,rfl,x1,x2,x3,x4⟩)
     ·have hlB:B.heap[l]? =some (.loop rec):=(hm.objs (l,.loop rec) (by simp)).2.2
      have he:=run_endLoop (P:=Tryz.prog) hlB (by rw[hrec];simp)
      have hpd:rec.pending=none:=by rw[hrec]
      rw[hpd] at he
      have hfl:fb l:=(hm.objs (l,.loop rec) (by simp)).1
      rw[hL'] at hj
      have hJB:=hT _ _ _ l _ (.loop {rec with state:=.exhausted,pending:=none}) hj hfl hlB rfl
      have hMB:Mine fb (B.putObj l (.loop {rec with state:=.exhausted,pending:=none})) C5 O5:=(hm.sub (C':=C5) (O':=O5) (fun _ h=>h) (fun _ h=>List.mem_cons_of_mem _ h)).turn hlB rfl fun x hx=>(hO5l x hx).1
      have hlt:l<B.heap.size:=(Array.getElem?_eq_some_iff.1 hlB).1
      have hAB:w0.heap.size≤(B.putObj l (.loop {rec with state:=.exhausted,pending:=none})).heap.size:=by rw[World.putObj_size];omega
      refine⟨none,_,he,?_⟩
      show wpR none 237 Tryz.prog _ _ _ _
      generalize B.putObj l (.loop {rec with state:=.exhausted,pending:=none})=B1 at hJB hMB hAB
      refine wpR_of_wp ?_
      dsimp only
      have hw9:f+(j:Int)+1<4611686018427387904:=by have:=hf0.2;omega
      have hw8:0≤f+(j:Int):=by have:=hf0.1;omega
      have hwf:IntKind.i64.wrap (f+(j:Int)+1)=f+(j:Int)+1:=IntWalk.i64_in _ (by omega)
      refine wp_behind fun PQ hPQ=>?_
      go_wp2
      have e0:f+((j+1 :Nat):Int)=f+(j:Int)+1:=by omega
      have hrl:rest=L.drop (k+L'.length):=by
       have:=congrArg (List.drop L'.length) hsplit
       rw[List.drop_append_of_le_length (Nat.le_refl _),List.drop_length,List.nil_append,List.drop_drop] at this
       exact this
      have hkl:k+L'.length≤L.length:=by
       have:=congrArg List.length hsplit
       rw[List.length_append,List.length_drop] at this
       omega
      refine(hPQ .normal _ _ ?_).resolve_right id
      refine⟨i-1,by omega,j+1,k+L'.length,fb,mk::ms,_,by omega,(by rw[e0];exact act237_eq rfl),(by rw[hrest];exact hrl),hkl,hJB,hMB.sub (fun y hy=>?_) (fun y hy=>?_),hndm,hmsm,hAB⟩
      ·rw[List.mem_singleton] at hy
       subst hy
       rw[←hC5]
       simp
      ·obtain⟨m,hm,rfl⟩:=List.mem_map.1 hy
       exact hO5m m hm
     ·have he:=run_endLoop (P:=Tryz.prog) (x4 _ rfl) (by simp)
      refine⟨some .ret,_,he,?_⟩
      refine wpR_of_in (wpIn_ret ?_)
      have x2':=x2.turn (b:=l) (o':=.loop {rec with state:=.exhausted,pending:=some .ret}) (x4 _ rfl) rfl fun x hx=>(hO5l x hx).1
      exact hEnd .ret (.inr rfl) _ (mk::ms) _ hndm (fun m hm=>⟨hmsm m hm,(x2'.objs _ (hO5m m hm)).2.2⟩) (.inr (hXT _ _ _ _ _ x1 (by omega) (x4 _ rfl) rfl))
     ·exact hPan ch _ (mk::ms) _ hndm (fun m hm=>⟨hmsm m hm,(x2.objs _ (hO5m m hm)).2.2⟩) x1
    ·rintro k' fb' B ⟨fb,hj,hsub,hm⟩
     have hat:=hK _ _ _ hj
     obtain⟨z1,z2,z3,z4,z5,z6⟩:=hat
     refine⟨?_,?_,?_,?_,z5.tail hadn,z6⟩
     ·exact(hm.cells (c1,0,Value.slice adn r.length (cap-1)) (by rw[←hC5];simp)).2
     ·exact(hm.cells (c2,0,.int .i64 p') (by rw[←hC5];simp)).2
     ·exact(hm.cells (c3,0,Value.slice (some ⟨ab,ao,none⟩) ats.length capa) (by rw[←hC5];simp)).2
     ·exact(hm.cells (c3,1,vst) (by rw[←hC5];simp)).2
    ·rintro k' fb' B B' ⟨fb,hj,hsub,hm⟩ hb
     have hsz:W5.heap.size≤B.heap.size:=by
      have h1:=(Array.getElem?_eq_some_iff.1 (hm.objs (l,.loop rec) (by simp)).2.2).1
      have h1:l<B.heap.size:=h1
      omega
     exact⟨_,hJ _ _ _ _ hj hb,fun b h=>h.elim (fun h=>⟨.inl (hsub b h).1,(hsub b h).2⟩) (fun h=>⟨.inr h,by omega⟩),(hm.below hb).fbs fun b h=>.inl h⟩
    ·rintro k' fb' B b o o' ⟨fb,hj,hsub,hm⟩ hb ho hpl
     obtain⟨hb1,hb2⟩:=hsub b hb
     refine⟨fb,hT _ _ _ _ _ _ hj hb1 ho hpl,hsub,hm.turn ho hpl fun x hx=>?_⟩
     rcases List.mem_cons.1 hx with rfl |hx
     ·show l≠b;omega
     ·have:=(hO5l x hx).2;omega
    ·rintro e B B' ⟨h1,h2,h3,h4⟩ hb
     exact⟨hX _ _ _ h1 hb,h2.below hb,Nat.lt_of_lt_of_le h3 hb.size,fun v hv=>(hb.block l h3).trans (h4 v hv)⟩
    ·rintro e B b o o' ⟨h1,h2,h3,h4⟩ hb ho hpl
     refine⟨hXT _ _ _ _ _ h1 (by omega) ho hpl,h2.turn ho hpl fun x hx=>?_,by rw[World.putObj_size];exact h3,fun v hv=>(World.putObj_heap_other (by omega)).trans (h4 v hv)⟩
     have:=(hO5l x hx).2
     omega
    ·rintro k' fb' y A hy ⟨fb,hj,hsub,hm⟩
     have hlA:A.heap[l]? =some (.loop rec):=(hm.objs (l,.loop rec) (by simp)).2.2
     have hfl:fb l:=(hm.objs (l,.loop rec) (by simp)).1
     have hyl:=run_yield (P:=Tryz.prog) (args:=#[.int .i64 y]) hlA (by rw[hrec];rfl)
     have hbr:=run_beginRound (P:=Tryz.prog) hlA (by rw[hrec])
     have hJ6:=hT _ _ _ l _ (.loop {rec with state:=.busy}) hj hfl hlA rfl
     have hM6:Mine fb (A.putObj l (.loop {rec with state:=.busy})) C5 O5:=(hm.sub (C':=C5) (O':=O5) (fun _ h=>h) (fun _ h=>List.mem_cons_of_mem _ h)).turn hlA rfl fun x hx=>(hO5l x hx).1
     have hl6:(A.putObj l (.loop {rec with state:=.busy})).heap[l]? =some (.loop {rec with state:=.busy}):=World.putObj_heap_same (Array.getElem?_eq_some_iff.1 hlA).1
     have hs6:(A.putObj l (.loop {rec with state:=.busy})).heap.size=A.heap.size:=World.putObj_size
     have hst6:∀b,fb' b→Stands b A (A.putObj l (.loop {rec with state:=.busy})):=fun b hb=>stands_put (by have:=(hsub b hb).2;omega)
     have hce6:(A.putObj l (.loop {rec with state:=.busy})).cell? ⟨w0.heap.size,0,none⟩=some (.func (.yield lp) #[] #[]):=(hM6.cells (w0.heap.size,0,.func (.yield lp) #[] #[]) (by rw[←hC5];simp)).2
     obtain⟨fn,tmps,assign,body,hy2,hR2⟩:=hY (k+k') fb y _ (hLk k' y (by rw[←hL'];exact hy)) hJ6
     have hcore:∀R:Ending→World→Prop,
         (∀W7,A.heap.size≤W7.heap.size→(∀b,fb b→Stands b (A.putObj l (.loop {rec with state:=.busy})) W7)→J (k+k'+1) fb W7→R (.returned (.bool true)) (W7.putObj l (.loop rec)))→
         (∀W7,A.heap.size≤W7.heap.size→(∀b,fb b→Stands b (A.putObj l (.loop {rec with state:=.busy})) W7)→X (.returned (.bool false)) W7→R (.returned (.bool false)) (W7.putObj l (.loop {rec with state:=.done,pending:=some .ret})))→
         (∀ch W7,A.heap.size≤W7.heap.size→(∀b,fb b→Stands b (A.putObj l (.loop {rec with state:=.busy})) W7)→X (.panicked ch) W7→R (.panicked ch) W7)→
         wpR (some l) rec.fn Tryz.prog rec.assign (Exit.then (fun a₁ w₁=>∃w₂,(Instr.beginRound l).run Tryz.prog w₁= .ok () w₂∧wpR (some l) rec.fn Tryz.prog rec.body (roundEnd Tryz.prog l R) a₁ w₂) (fun _ _ _=>False))
          {tmps:=(rec.params.zip #[.int .i64 y]).foldl (fun tmps (t,a)=>tmps.setIfInBounds t a) rec.tmps,defers:=[]} A:=by
      intro R h1 h2 h3
      have hro:(wr (some l)).round=some l:=rfl
      have e0:=congrArg Loop.fn hrec
      have e1:=congrArg Loop.assign hrec
      have e2:=congrArg Loop.body hrec
      have e3:=congrArg Loop.params hrec
      have e4:=congrArg Loop.tmps hrec
      dsimp only at e0 e1 e2 e3 e4
      rw[e0,e1,e2,e3,e4]
      have hre:({rec with state:=.ready,pending:=none}:Loop)=rec:=by rw[hrec]
      clear e0 e1 e2 e3 e4 hrec hyl hY hJ hT hX hXT IH hEnd hPan hLe1 hLe2 hK hJ5 hM5 hJ6 hM6 hm hj
      generalize A.putObj l (.loop {rec with state:=.busy})=W6 at *
      rw[show(#[43]:Array Nat).zip #[Value.int .i64 y]= #[(43,Value.int .i64 y)] from by first |(simp;done) |kernel_rfl |(apply Array.ext<;>simp)]
      simp only[List.foldl_toArray',List.foldl_cons,List.foldl_nil,List.size_toArray,List.setIfInBounds_toArray,List.set_cons_succ,List.set_cons_zero]
      refine wpR_of_in ?_
      gi_wp2
      refine⟨_,hbr,?_⟩
      refine wpR_block (wpR_of_in ?_)
      have hR3:=roundIn_wr (ro:=some l) hR2
      gi_wp2
      refine⟨rfl,hR3.mono ?_⟩
      rintro e W7 ⟨⟨hs7,hst7⟩,hW7⟩
      have hl7:=(hst7 l hfl).2 _ hl6 rfl
      rcases hW7 with⟨rfl,hJ7⟩ |⟨rfl,hX7⟩ |⟨ch,rfl,hX7⟩
      ·gi_wp2
       have hend:=run_endRound (P:=Tryz.prog) none hl7
       dsimp only[Option.isNone_none] at hend
       rw[if_pos rfl,hre] at hend
       exact⟨_,_,hend,h1 W7 (by omega) hst7 hJ7⟩
      ·gi_wp2
       exact⟨_,_,run_endRound (P:=Tryz.prog) (some .ret) hl7,h2 W7 (by omega) hst7 hX7⟩
      ·gi_wp2
       exact⟨rfl,h3 ch W7 (by omega) hst7 hX7⟩
     refine⟨_,_,_,_,hyl,round_of_wp (fnc:=Tryz.f237) (by rw[hrec];exact Tryz.func237) (hcore _ ?_ ?_ ?_)⟩
     ·intro W7 z1 z2 z3
      refine⟨⟨by rw[World.putObj_size];exact z1,fun b hb=>stands_trans (stands_trans (hst6 b hb) (z2 b (hsub b hb).1)) (stands_put (by have:=(hsub b hb).2;omega))⟩,.inl ⟨rfl,fb,?_,hsub,?_⟩⟩
      ·exact hT _ _ _ _ _ _ z3 hfl ((z2 l hfl).2 _ hl6 rfl) rfl
      ·have hm7:=(hM6.stands z2).turn (b:=l) (o':=.loop rec) ((z2 l hfl).2 _ hl6 rfl) rfl fun x hx=>(hO5l x hx).1
       exact⟨hm7.cells,fun x hx=>by
        rcases List.mem_cons.1 hx with rfl |hx
        ·exact⟨hfl,rfl,World.putObj_heap_same (Array.getElem?_eq_some_iff.1 ((z2 l hfl).2 _ hl6 rfl)).1⟩
        ·exact hm7.objs x hx⟩
     ·intro W7 z1 z2 z3
      have hl7:=(z2 l hfl).2 _ hl6 rfl
      refine⟨⟨by rw[World.putObj_size];exact z1,fun b hb=>stands_trans (stands_trans (hst6 b hb) (z2 b (hsub b hb).1)) (stands_put (by have:=(hsub b hb).2;omega))⟩,.inr (.inl ⟨rfl,?_,?_,?_,?_⟩)⟩
      ·exact hXT _ _ _ _ _ z3 (by omega) hl7 rfl
      ·exact(((hM6.stands z2).turn (b:=l) hl7 rfl fun x hx=>(hO5l x hx).1).fbs fun _ _=>trivial).sub (C':=[]) (fun _ h=>(List.not_mem_nil h).elim) (fun _ h=>h)
      ·rw[World.putObj_size];exact(Array.getElem?_eq_some_iff.1 hl7).1
      ·exact fun v _=>World.putObj_heap_same (Array.getElem?_eq_some_iff.1 hl7).1
     ·intro ch W7 z1 z2 z3
      have hl7:=(z2 l hfl).2 _ hl6 rfl
      refine⟨⟨z1,fun b hb=>stands_trans (hst6 b hb) (z2 b (hsub b hb).1)⟩,.inr (.inr ⟨ch,rfl,z3,?_,?_,?_⟩)⟩
      ·exact((hM6.stands z2).fbs fun _ _=>trivial).sub (C':=[]) (fun _ h=>(List.not_mem_nil h).elim) (fun _ h=>h)
      ·exact(Array.getElem?_eq_some_iff.1 hl7).1
      ·exact fun v hv=>by cases hv
    ·exact⟨fb5,hJ5,fun _ h=>h.elim,hM5⟩
   ·have hl1:¬(j:Int)<x:=by omega
    have hl2:¬f+(j:Int)<f+x:=by omega
    have hw1:IntKind.i64.wrap (f+x)=f+x:=IntWalk.i64_in _ (by omega)
    go_wp2
    go_quiet (fail)
    clear hw1
    go_wp2
    have hje:j=x.toNat:=by omega
    subst hje
    have hkL:k=L.length:=by
     have h0:(List.range x.toNat).drop x.toNat=[]:=List.drop_eq_nil_of_le (by simp)
     rw[h0] at hk
     have:=congrArg List.length hk
     rw[List.flatMap_nil,List.length_nil,List.length_drop] at this
     omega
    subst hkL
    refine hEnd _ (.inl rfl) _ ms _ hnd (fun m hm=>⟨hms m hm,?_⟩) (.inl ⟨_,hJ _ _ _ _ hJk (below_drewN (.refl _ A) nq),fun m hm=>.inl (hMk.objs (m,.deferred (some [])) (List.mem_map.2 ⟨m,hm,rfl⟩)).1⟩)
    exact(hMk.objs (m,.deferred (some [])) (List.mem_map.2 ⟨m,hm,rfl⟩)).2.2
  ·have e0:f+((0 :Nat):Int)=f:=by simp
   refine⟨0,0,fb2,[],_,by omega,by rw[e0];exact act237_eq rfl,by rw[List.drop_zero,List.drop_zero];exact hLe,Nat.zero_le _,hJ2,hM2,List.nodup_nil,fun _ h=>(List.not_mem_nil h).elim,hw02⟩
end Go.Proofs.YtgplgbonlnodeaaGreatDoor
namespace Go.Proofs.YtgplgbonlnodeaaGreatDoor
open Go.Vs Go.RowKit Go.Shelf
theorem repL_three{γ:Gh}{vs:Array Value}{d1 d2 d3:D}(h:RepL γ vs [d1,d2,d3]):∃v1 v2 v3,vs= #[v1,v2,v3]∧RepD γ v1 d1∧RepD γ v2 d2∧RepD γ v3 d3:=by
 obtain⟨hs,hr⟩:=h
 obtain⟨l⟩:=vs
 match l,hs with
 |[v1,v2,v3],_=>exact⟨v1,v2,v3,rfl,hr 0 _ rfl,hr 1 _ rfl,hr 2 _ rfl⟩
variable {W : World} {G : Nat → Option (List PD)}
theorem gen237_ok:GenOk Tryz.prog W G 237 gen237:=by
 refine⟨⟨Tryz.f237,Tryz.func237,by kernel_rfl,by kernel_rfl⟩,fun fi cap H xs hg γ w la lb I hra hrb=>?_⟩
 unfold gen237 at hg
 split at hg
 ·rename_i sd p ad vst
  split at hg
  ·rename_i ss ats hss hats
   split at hg
   ·rename_i hc
    obtain⟨hal,hsum,hin,hlen,hsl⟩:=hc
    cases hg
    have hla:la= #[]:=Array.eq_empty_of_size_eq_zero hra.1
    subst hla
    obtain⟨v1,v2,v3,rfl,r1,r2,r3⟩:=repL_three hrb
    cases r1 with
    |ro b1 o1 _ _ cs1 hm1 hr1=>
    cases r2 with
    |ro b2 o2 _ _ cs2 hm2 hr2=>
    cases r3 with
    |ro b3 o3 _ _ cs3 hm3 hr3=>
     have hp:cs2 0= .int .i64 p:=(hr2 0 _ rfl).1.int_inv
     have fact:∀A,Kept W G γ H (capIds (.fn 237 [] [.ro [sd] 0,.ro [.int .i64 p] 0,.ro [ad,vst] 0]) H) A→At237 (b1,o1) (b2,o2) (b3,o3) ss p ats (cs1 0) (cs3 0) (cs3 1) A:=by
      rintro A ⟨γ',H',L,I',_⟩
      refine⟨I'.toInv.mem _ _ _ (L.mem _ _ _ (hm1 0 (by simp))),?_,I'.toInv.mem _ _ _ (L.mem _ _ _ (hm3 0 (by simp))),I'.toInv.mem _ _ _ (L.mem _ _ _ (hm3 1 (by simp))),?_,?_⟩
      ·have:=I'.toInv.mem _ _ _ (L.mem _ _ _ (hm2 0 (by simp)))
       rw[hp] at this
       exact this
      ·exact intsOf_rep ((hr1 0 sd rfl).1.mono L.mem) hss I'.toInv.mem
      ·exact intsOf_rep ((hr3 0 ad rfl).1.mono L.mem) hats I'.toInv.mem
     refine⟨fun k=>match(tupL ats ss p)[k]? with |some x=>#[.int .i64 x] |none=>#[],fun k x hx=>?_,fun lp J X w0 hB hKp hJ hT hX hXT hY h0=>?_⟩
     ·simp only[List.getElem?_map,Option.map_eq_some_iff] at hx
      obtain⟨q,hq,rfl⟩:=hx
      simp only[hq]
      exact⟨rfl,fun γ'=>int_en q⟩
     ·have h:=walk237 ats (fun x hx=>of_decide_eq_true (List.all_eq_true.1 hal x hx)) hsum hlen ss hsl (fun s hs=>of_decide_eq_true (List.all_eq_true.1 hin s hs)) p lp (b1,o1) (b2,o2) (b3,o3) (cs1 0) (cs3 0) (cs3 1) J X w0 (fun k fb A hj=>fact A (hKp k fb A hj)) hJ hT hX hXT (fun k fb x A hx hj=>by
       have:=hY k fb _ A (by rw[List.getElem?_map,hx];rfl) hj
       simp only[hx] at this
       exact this) h0
      rw[List.length_map]
      exact callsIn_wr.2 h
   ·cases hg
  ·cases hg
 ·cases hg
end Go.Proofs.YtgplgbonlnodeaaGreatDoor
namespace Go.Proofs.YtgplgbonlnodeaaGreatDoor
open Go.Vs
def loopsOf:SC→List (List Nat×SC)
 | .loop k b=>(k,b)::loopsOf b
 | .seq a b | .cond _ a b | .rangef _ _ _ _ a b=>loopsOf a++loopsOf b
 | .block _ b | .scope b | .loc b | .locz b=>loopsOf b
 |_=>[]
noncomputable def bd (x:Option FC) (n:Nat):SC:=(((x.map fun f=>loopsOf f.body).getD []).getD n ([],.skip)).2
def post(Q:Out→Env→Hp→Prop):Option (Out×St)→Prop
 |some (o,⟨e,H⟩)=>Q o e H
 |none=>False
@[simp] theorem post_some(Q:Out→Env→Hp→Prop)(o:Out)(e:Env)(H:Hp):post Q (some (o,⟨e,H⟩))↔Q o e H:=Iff.rfl
theorem post_get{Q:Out→Env→Hp→Prop}{x:Option (Out×St)}(h:post Q x):∃o e H,x=some (o,⟨e,H⟩)∧Q o e H:=by
 cases x with
 |none=>exact h.elim
 |some y=>obtain⟨o,e,H⟩:=y;exact⟨o,e,H,rfl,h⟩
theorem post_mono{Q R:Out→Env→Hp→Prop}{x:Option (Out×St)}(h:post Q x)(hq:∀o e H,Q o e H→R o e H):post R x:=by
 cases x with
 |none=>exact h.elim
 |some y=>obtain⟨o,e,H⟩:=y;exact hq _ _ _ h
variable {c : CallR} {G : Nat → Option (List PD)}
@[simp] theorem one_p(x:PD):(D.p x).one=x.one:=rfl
theorem cells_of_one{x:PD}(h:x.one=true):(D.p x).cells=[.p x]:=by cases x<;>first |rfl |cases h
theorem pcells_of_one{x:PD}(h:x.one=true):x.cells=[x]:=by cases x<;>first |rfl |cases h
theorem cells_pagg(cs:List PD):(D.p (.agg cs)).cells=cs.map .p:=rfl
theorem pcells_agg(cs:List PD):(PD.agg cs).cells=cs:=rfl
theorem cells_dagg(cs:List D):(D.agg cs).cells=cs:=rfl
theorem cells_box(i o:Nat):(D.box i o).cells=[.box i o]:=rfl
theorem cells_tsl(t e sz:Nat)(es:List PD):(D.tsl t e sz es).cells=[.tsl t e sz es]:=rfl
theorem cells_fsl(e sz:Nat)(es:List PD):(D.fsl e sz es).cells=[.fsl e sz es]:=rfl
theorem cells_gsl(i e n sz:Nat):(D.gsl i e n sz).cells=[.gsl i e n sz]:=rfl
theorem cells_msl(i o n:Nat)(c:Option Nat)(sz:Nat):(D.msl i o n c sz).cells=[.msl i o n c sz]:=rfl
theorem cells_fn(f:Nat)(a c:List D):(D.fn f a c).cells=[.fn f a c]:=rfl
theorem cells_mapr(i:Nat):(D.mapr i).cells=[.mapr i]:=rfl
theorem cells_pint(k:IntKind)(n:Int):(D.p (.int k n)).cells=[.p (.int k n)]:=rfl
theorem cells_pbool(b:Bool):(D.p (.bool b)).cells=[.p (.bool b)]:=rfl
theorem cells_pstr(s:List UInt8):(D.p (.str s)).cells=[.p (.str s)]:=rfl
theorem cells_pslice(sz:Nat)(es:List PD):(D.p (.slice sz es)).cells=[.p (.slice sz es)]:=rfl
theorem cells_pnils:(D.p .nils).cells=[.p .nils]:=rfl
theorem pcells_int(k:IntKind)(n:Int):(PD.int k n).cells=[.int k n]:=rfl
theorem pcells_bool(b:Bool):(PD.bool b).cells=[.bool b]:=rfl
theorem pcells_str(s:List UInt8):(PD.str s).cells=[.str s]:=rfl
@[simp] theorem pone_emp(sz:Nat):(PD.emp sz).one=true:=rfl
@[simp] theorem pone_nilp:PD.nilp.one=true:=rfl
theorem condK_if(b:Bool)(x y:SC)(s:St):condK c G (.p (.bool b)) x y s=if b=true then evS c G iterX x s else evS c G iterX y s:=rfl
theorem opsG_if(keep:List Nat)(b:Bool)(o:SO)(r:List SO)(env:Env)(H:Hp):opsG c G keep (some b) o r env H=if b=true then opsV c G keep (evKC c G env H o.k) o.dst r env else opsX c G keep r (put o.dst .undef env) H:=by
 cases b<;>rfl
theorem drG_if(keep:List Nat)(pairs:List (Nat×Nat))(un:Env)(b:Bool)(o:SO)(r:List SO)(env:Env)(H:Hp)(acc:List (Nat×Nat)):drG c G keep pairs un (some b) o r env H acc=if b=true then drV c G keep pairs un (evKC c G env H o.k) o r env H acc else drX c G keep pairs un r (put o.dst .undef env) H (acc++[(0,0)]):=by
 cases b<;>rfl
theorem post_ex{α:Type}{Q:α→Out→Env→Hp→Prop}{x:Option (Out×St)}(h:post (fun o e H=>∃r,Q r o e H) x):∃r,post (Q r) x:=by
 obtain⟨o,e,H,hx,r,hr⟩:=post_get h
 exact⟨r,by rw[hx];exact hr⟩
theorem post_seq{Q:Out→Env→Hp→Prop}{x:Option (Out×St)}{b:SC}(h:post (fun o e H=>post Q (seqK c G (some (o,⟨e,H⟩)) b)) x):post Q (seqK c G x b):=by
 obtain⟨o,e,H,hx,hr⟩:=post_get h
 rw[hx];exact hr
theorem post_block{Q:Out→Env→Hp→Prop}{x:Option (Out×St)}{k:Nat}(h:post (fun o e H=>post Q (blockK k (some (o,⟨e,H⟩)))) x):post Q (blockK k x):=by
 obtain⟨o,e,H,hx,hr⟩:=post_get h
 rw[hx];exact hr
def nx(keep:List Nat)(E:Env)(H:Hp):Out→Env→Hp→Prop:=fun o e H'=>o= .norm∧H'=H∧e.keep keep=E.keep keep
theorem loopK_keep{keep:List Nat}{b:SC}{env env':Env}{H:Hp}(h:env.keep keep=env'.keep keep):loopK c G keep b ⟨env,H⟩=loopK c G keep b ⟨env',H⟩:=
 iterX_same (by dsimp only;rw[h])
theorem loopW{σ:Type}{keep:List Nat}{b:SC}(E:σ→Env)(Hh:σ→Hp)(m:σ→Nat)(I:σ→Prop)(Q:Out→Env→Hp→Prop)
    (h:∀s,I s→post (fun o e H=>(∃s',I s'∧m s'<m s∧nx keep (E s') (Hh s') o e H)∨(o≠.norm∧Q o e H)) (evS c G iterX b ⟨(E s).keep keep,Hh s⟩)):
    ∀s,I s→post Q (loopK c G keep b ⟨E s,Hh s⟩):=by
 have key:∀n s,m s=n→I s→post Q (loopK c G keep b ⟨E s,Hh s⟩):=by
  intro n
  induction n using Nat.strongRecOn with
  |_ n ih=>
   intro s hm hi
   obtain⟨o,e,H,hx,hq⟩:=post_get (h s hi)
   rcases hq with⟨s',hi',hm',ho,hH,he⟩ |⟨ho,hq⟩
   ·subst ho
    rw[loopK_norm hx,loopK_keep he,hH]
    exact ih (m s') (hm▸hm') s' rfl hi'
   ·rw[loopK_out hx ho]
    exact hq
 exact fun s=>key (m s) s rfl
theorem loopN{keep:List Nat}{b:SC}(E:Nat→Env)(Hh:Nat→Hp)(n:Nat)(I:Nat→Prop)(Q:Out→Env→Hp→Prop)(h0:I 0)
    (h:∀i,i<n→I i→post (fun o e H=>(I (i+1)∧nx keep (E (i+1)) (Hh (i+1)) o e H)∨(o≠.norm∧Q o e H)) (evS c G iterX b ⟨(E i).keep keep,Hh i⟩))
    (hn:I n→post (fun o e H=>o≠.norm∧Q o e H) (evS c G iterX b ⟨(E n).keep keep,Hh n⟩)):
    post Q (loopK c G keep b ⟨E 0,Hh 0⟩):=by
 refine loopW E Hh (fun i=>n-i) (fun i=>i≤n∧I i) Q ?_ 0 ⟨Nat.zero_le _,h0⟩
 rintro i ⟨hi,hI⟩
 rcases Nat.lt_or_ge i n with hlt |hge
 ·refine post_mono (h i hlt hI) ?_
  rintro o e H (⟨h1,h2⟩ |h1)
  ·exact .inl ⟨i+1,⟨hlt,h1⟩,by omega,h2⟩
  ·exact .inr h1
 ·have :i=n:=by omega
  subst this
  exact post_mono (hn hI) fun o e H h=>.inr h
theorem loop_step{keep:List Nat}{b:SC}{E0 E1:Env}{H0 H1:Hp}{Q:Out→Env→Hp→Prop}(h:post (nx keep E1 H1) (evS c G iterX b ⟨E0.keep keep,H0⟩))(h2:post Q (loopK c G keep b ⟨E1,H1⟩)):post Q (loopK c G keep b ⟨E0,H0⟩):=by
 obtain⟨o,e,H,hx,rfl,rfl,he⟩:=post_get h
 rw[loopK_norm hx,loopK_keep he]
 exact h2
theorem loop_last{keep:List Nat}{b:SC}{E0:Env}{H0:Hp}{Q:Out→Env→Hp→Prop}(h:post (fun o e H=>o≠.norm∧Q o e H) (evS c G iterX b ⟨E0.keep keep,H0⟩)):post Q (loopK c G keep b ⟨E0,H0⟩):=by
 obtain⟨o,e,H,hx,ho,hq⟩:=post_get h
 rw[loopK_out hx ho]
 exact hq
theorem loopB{keep:List Nat}{b:SC}(E:Nat→Env)(H:Hp)(n:Nat)(P:Nat→Prop)(x:Nat)(Q R:Env→Prop)
    (h:∀i,i<n→(∀j,j<i→P j)→P i→post (nx keep (E (i+1)) H) (evS c G iterX b ⟨(E i).keep keep,H⟩))
    (hr:∀i,i<n→(∀j,j<i→P j)→¬P i→post (fun o e H'=>o= .ret∧H'=H∧R e) (evS c G iterX b ⟨(E i).keep keep,H⟩))
    (hn:post (fun o e H'=>o= .exit x∧H'=H∧Q e) (evS c G iterX b ⟨(E n).keep keep,H⟩)):
    (∃e,loopK c G keep b ⟨E 0,H⟩=some (.exit x,⟨e,H⟩)∧Q e∧∀i,i<n→P i)∨(∃e,loopK c G keep b ⟨E 0,H⟩=some (.ret,⟨e,H⟩)∧R e∧¬∀i,i<n→P i):=by
 have:=loopN (c:=c) (G:=G) (keep:=keep) (b:=b) E (fun _=>H) n (fun i=>∀j,j<i→P j) (fun o e H'=>H'=H∧((o= .exit x∧Q e∧∀i,i<n→P i)∨(o= .ret∧R e∧¬∀i,i<n→P i))) (fun j hj=>by omega) ?_ ?_
 ·obtain⟨o,e,H',hx,rfl,hq⟩:=post_get this
  rcases hq with⟨rfl,h1,h2⟩ |⟨rfl,h1,h2⟩
  ·exact .inl ⟨e,hx,h1,h2⟩
  ·exact .inr ⟨e,hx,h1,h2⟩
 ·intro i hi hI
  by_cases hp:P i
  ·refine post_mono (h i hi hI hp) fun o e H' hh=>.inl ⟨fun j hj=>?_,hh⟩
   rcases Nat.lt_or_ge j i with h1 |h1
   ·exact hI j h1
   ·have :j=i:=by omega
    exact this▸hp
  ·refine post_mono (hr i hi hI hp) fun o e H' hh=>.inr ?_
   obtain⟨rfl,rfl,h1⟩:=hh
   exact⟨by simp,rfl,.inr ⟨rfl,h1,fun hh=>hp (hh i hi)⟩⟩
 ·intro hI
  refine post_mono hn fun o e H' hh=>?_
  obtain⟨rfl,rfl,h1⟩:=hh
  exact⟨by simp,rfl,.inl ⟨rfl,h1,hI⟩⟩
theorem loopA{keep:List Nat}{b:SC}(E:Nat→Env)(H:Hp)(n:Nat)(P:Nat→Prop)(x:Nat)(Q R:Env→Prop)
    (h:∀i,i<n→P i→post (nx keep (E (i+1)) H) (evS c G iterX b ⟨(E i).keep keep,H⟩))
    (hr:∀i,i<n→¬P i→post (fun o e H'=>o= .ret∧H'=H∧R e) (evS c G iterX b ⟨(E i).keep keep,H⟩))
    (hn:post (fun o e H'=>o= .exit x∧H'=H∧Q e) (evS c G iterX b ⟨(E n).keep keep,H⟩)):
    (∃e,loopK c G keep b ⟨E 0,H⟩=some (.exit x,⟨e,H⟩)∧Q e∧∀i,i<n→P i)∨(∃e,loopK c G keep b ⟨E 0,H⟩=some (.ret,⟨e,H⟩)∧R e∧¬∀i,i<n→P i):=
 loopB E H n P x Q R (fun i hi _=>h i hi) (fun i hi _=>hr i hi) hn
theorem loopC{keep:List Nat}{b:SC}(E:Nat→Env)(H:Hp)(n:Nat)(P:Nat→Prop)(x:Nat)(Q R:Env→Prop)
    (h:∀i,i<n→post (fun o e H'=>(P i∧nx keep (E (i+1)) H o e H')∨(o= .ret∧H'=H∧R e)) (evS c G iterX b ⟨(E i).keep keep,H⟩))
    (hn:post (fun o e H'=>o= .exit x∧H'=H∧Q e) (evS c G iterX b ⟨(E n).keep keep,H⟩)):
    (∃e,loopK c G keep b ⟨E 0,H⟩=some (.exit x,⟨e,H⟩)∧Q e∧∀i,i<n→P i)∨(∃e,loopK c G keep b ⟨E 0,H⟩=some (.ret,⟨e,H⟩)∧R e):=by
 have:=loopN (c:=c) (G:=G) (keep:=keep) (b:=b) E (fun _=>H) n (fun i=>∀j,j<i→P j) (fun o e H'=>H'=H∧((o= .exit x∧Q e∧∀i,i<n→P i)∨(o= .ret∧R e))) (fun j hj=>by omega) ?_ ?_
 ·obtain⟨o,e,H',hx,rfl,hq⟩:=post_get this
  rcases hq with⟨rfl,h1,h2⟩ |⟨rfl,h1⟩
  ·exact .inl ⟨e,hx,h1,h2⟩
  ·exact .inr ⟨e,hx,h1⟩
 ·intro i hi hI
  refine post_mono (h i hi) ?_
  rintro o e H' (⟨hp,hh⟩ |⟨rfl,rfl,h1⟩)
  ·refine .inl ⟨fun j hj=>?_,hh⟩
   rcases Nat.lt_or_ge j i with h1 |h1
   ·exact hI j h1
   ·have :j=i:=by omega
    exact this▸hp
  ·exact .inr ⟨by simp,rfl,.inr ⟨rfl,h1⟩⟩
 ·intro hI
  refine post_mono hn fun o e H' hh=>?_
  obtain⟨rfl,rfl,h1⟩:=hh
  exact⟨by simp,rfl,.inl ⟨rfl,h1,hI⟩⟩
def fin(frz:Bool)(d:D)(H:Hp)(y:D):Prop:=∃d1,(if frz then(d.frz 0 H 8).ren (below 0) some else some d)=some d1∧d1.ren (fun _=>none) (fun _=>none)=some y
@[simp] theorem fin_p(frz:Bool)(x y:PD)(H:Hp):fin frz (.p x) H (.p y)↔x=y:=by
 unfold fin
 cases frz
 ·simp[D.ren]
 ·simp[D.frz,D.ren]
@[simp] theorem fin_tsl(frz:Bool)(t e sz:Nat)(es:List PD)(H:Hp)(y:D):fin frz (.tsl t e sz es) H y↔y= .p (.slice sz es):=by
 unfold fin
 cases frz
 ·simp[D.ren,eq_comm]
 ·simp[D.frz,D.ren,eq_comm]
theorem frz_p(k:Nat)(H:Hp):∀(n:Nat) (x:PD),(D.p x).frz k H n= .p x
 | 0,_=>by unfold D.frz;rfl
 |n+1,_=>by unfold D.frz;rfl
theorem fin_tup(frz:Bool)(xs:List PD)(H:Hp):fin frz (.tup (xs.map .p)) H (.tup (xs.map .p)):=by
 have h1:∀f g,(D.tup (xs.map .p)).ren f g=some (.tup (xs.map .p)):=fun f g=>by simp[D.ren]
 unfold fin
 refine⟨.tup (xs.map .p),?_,h1 _ _⟩
 cases frz
 ·rfl
 ·have h2:(D.tup (xs.map .p)).frz 0 H 8= .tup (xs.map .p):=by
   unfold D.frz
   simp[frz_p]
  rw[if_pos rfl,h2,h1]
@[simp] theorem fin_tup2(frz:Bool)(a b c d:PD)(H:Hp):fin frz (.tup [.p a,.p b]) H (.tup [.p c,.p d])↔a=c∧b=d:=by
 constructor
 ·intro h
  obtain⟨d1,h1,h2⟩:=h
  obtain⟨d2,h3,h4⟩:=fin_tup frz [a,b] H
  have e:d1=d2:=by
   rw[show[D.p a,D.p b]=[a,b].map D.p from rfl] at h1
   rw[h1] at h3
   cases h3;rfl
  subst e
  rw[h2] at h4
  simp at h4
  exact⟨h4.1.symm,h4.2.symm⟩
 ·rintro⟨rfl,rfl⟩
  exact fin_tup frz [a,b] H
theorem frz_tsl(k:Nat)(H:Hp)(t e sz:Nat)(es:List PD):∀n:Nat,(D.tsl t e sz es).frz k H n= .tsl t e sz es
 | 0=>by unfold D.frz;rfl
 |n+1=>by unfold D.frz;rfl
theorem fin_agg2(frz:Bool)(a:PD)(t e sz:Nat)(es:List PD)(H:Hp)(y:D):fin frz (.agg [.p a,.tsl t e sz es]) H y↔y= .agg [.p a,.p (.slice sz es)]:=by
 have h1:(D.agg [.p a,.tsl t e sz es]).frz 0 H 8= .agg [.p a,.tsl t e sz es]:=by
  unfold D.frz
  simp[frz_p,frz_tsl,mkAgg,pures]
 unfold fin
 rw[h1]
 constructor
 ·rintro⟨d1,g1,g2⟩
  have :d1= .agg [.p a,.tsl t e sz es]:=by
   cases frz
   ·cases g1;rfl
   ·simp[D.ren,D.renL] at g1
    exact g1.symm
  subst this
  simp[D.ren,D.renL] at g2
  exact g2.symm
 ·rintro rfl
  refine⟨.agg [.p a,.tsl t e sz es],?_,by simp[D.ren,D.renL]⟩
  cases frz
  ·rfl
  ·simp[D.ren,D.renL]
def gives(frz:Bool)(res:List SRes)(y:D):Out→Env→Hp→Prop:=fun o e H=>(o= .ret∨o= .norm)∧∃d,evRes pg.G e H res=some d∧fin frz d H y
theorem callQ{f:Nat}{fc:FC}{aa:List D}{y:D}(hF:pg.F f=some fc)(hlib:pg.lib f aa ⟨[],[]⟩=none)(hn:aa.length=fc.np)(hd:fc.dfr=none)(hr:D.refsL aa=[])(ht:D.toksL aa=[])(ha:D.renL (idx []) (idx []) aa=some aa)
    (h:post (gives fc.frz fc.res y) (evS (call pg) pg.G iterX fc.body ⟨entry 0 aa,⟨[],[]⟩⟩)):
    ∀H,callD (call pg) f aa H=some (.val y,H):=by
 intro H
 obtain⟨o,e,H1,hx,ho,d,hr1,d1,h1,h2⟩:=post_get h
 have hfin:finish pg.G fc.res (some (o,⟨e,H1⟩))=some (.val d,H1):=by
  rcases ho with rfl |rfl
  ·simp only[finish,hr1]
  ·simp only[finish,hr1]
 have hc:∃Hl,call pg f aa ⟨[],[]⟩=some (.val d1,Hl):=by
  cases hz:fc.frz with
  |false=>
   rw[hz] at h1
   cases h1
   exact⟨H1,call_runF hlib hF hn (by simp only[hz,closeF,runF,hd,hx,hfin];rfl)⟩
  |true=>
   rw[hz,if_pos rfl] at h1
   exact⟨⟨[],H1.tk⟩,call_runF hlib hF hn (by
    simp only[hz,closeF,runF,hd,hx,hfin,if_true,Option.map_some,sealF,List.length_nil,List.take_zero,mapO,Res.frz,Res.ren,h1,Nat.zero_le])⟩
 obtain⟨Hl,hc⟩:=hc
 exact callD_pure hc hr ht ha h2
theorem callP{f:Nat}{fc:FC}{aa:List PD}{y:D}(hF:pg.F f=some fc)(hlib:pg.lib f (aa.map .p) ⟨[],[]⟩=none)(hn:aa.length=fc.np)(hd:fc.dfr=none)
    (h:post (gives fc.frz fc.res y) (evS (call pg) pg.G iterX fc.body ⟨entry 0 (aa.map .p),⟨[],[]⟩⟩)):
    ∀H,callD (call pg) f (aa.map .p) H=some (.val y,H):=
 callQ hF hlib (by simpa using hn) hd (refsL_p aa) (toksL_p aa) (renL_p _ _ aa) h
theorem callE{α:Type}{y:α→D}{R:α→Prop}{f:Nat}{fc:FC}{aa:List PD}(hF:pg.F f=some fc)(hlib:pg.lib f (aa.map .p) ⟨[],[]⟩=none)(hn:aa.length=fc.np)(hd:fc.dfr=none)
    (h:post (fun o e H=>∃r,R r∧gives fc.frz fc.res (y r) o e H) (evS (call pg) pg.G iterX fc.body ⟨entry 0 (aa.map .p),⟨[],[]⟩⟩)):
    ∃r,(∀H,callD (call pg) f (aa.map .p) H=some (.val (y r),H))∧R r:=by
 obtain⟨r,hr⟩:=post_ex h
 obtain⟨_,_,_,_,h2⟩:=post_get hr
 exact⟨r,callP hF hlib hn hd (post_mono hr fun _ _ _ h=>h.2),h2.1⟩
theorem callE1{α:Type}{y:α→D}{f:Nat}{fc:FC}{aa:List PD}(hF:pg.F f=some fc)(hlib:pg.lib f (aa.map .p) ⟨[],[]⟩=none)(hn:aa.length=fc.np)(hd:fc.dfr=none)
    (h:post (fun o e H=>∃r,gives fc.frz fc.res (y r) o e H) (evS (call pg) pg.G iterX fc.body ⟨entry 0 (aa.map .p),⟨[],[]⟩⟩)):
    ∃r,∀H,callD (call pg) f (aa.map .p) H=some (.val (y r),H):=by
 obtain⟨r,hr⟩:=post_ex h
 exact⟨r,callP hF hlib hn hd hr⟩
theorem get_ren(f g:Nat→Option Nat):∀(e:Env) (s:Nat),Env.get (e.map fun y=>(y.1,(y.2.ren f g).getD .dead)) s=((e.get s).ren f g).getD .dead
 |[],s=>by simp[Env.get,D.ren]
 |(t,d)::e,s=>by
  simp only[List.map_cons,Env.get]
  split
  ·rfl
  ·exact get_ren f g e s
end Go.Proofs.YtgplgbonlnodeaaGreatDoor
namespace Go.Proofs.YtgplgbonlnodeaaGreatDoor
open Go.Vs
set_option maxRecDepth 100000
theorem iaddr_box(n sz b o:Nat)(i:Int):iaddrD (some n) sz (.box b o) i=if 0≤i∧i<n then some (.box b (o+i.toNat*sz)) else none:=rfl
theorem iaddr_ro(n sz:Nat)(cs:List PD)(o:Nat)(i:Int):iaddrD (some n) sz (.ro cs o) i=if 0≤i∧i<n then some (.ro cs (o+i.toNat*sz)) else none:=rfl
attribute [local simp] evKC evK evGuard put Env.get Env.keep entry Opd.ev loadD storeD splice cutAt indexD D.asInt? D.asNat? u8 binD strBin unD boundsD sub minmaxD eqvL PD.eqv clsP cls clsR isCl isW apartRW offB apartWW clash insOk finish evRes evRes1 mapO D.refsL D.refs D.toksL D.toks mkAgg pures fillD fillE appendD srcD D.elems? D.asPD Int.toNat_natCast srcH srcBH eqD D.asPDL isMapC lenD_str lenD_nils lenD_sl lenD_fsl lenD_tsl iaddr_box iaddr_ro gives nx condK_if opsG_if drG_if Int.natCast_inj one_p locD below Out.ren D.ren D.renL get_ren fin_agg2 cells_of_one pcells_of_one cells_pagg pcells_agg cells_dagg cells_box cells_tsl cells_fsl cells_gsl cells_msl cells_fn cells_mapr cells_pint cells_pbool cells_pstr cells_pslice cells_pnils pcells_int pcells_bool pcells_str
def intsP(a:Sl Int):PD:=slP 1 (a.map (PD.int .i64))
theorem len_ints(a:Sl Int):lenD 1 (.p (intsP a))=some (els a).length:=len_map 1 _ a
theorem ia_ints{a:Sl Int}{k:Nat}(h:k<(els a).length):iaddrD none 1 (.p (intsP a)) (k:Int)=some (.ro [.int .i64 (els a)[k]] 0):=ia_map h
@[simp] theorem one_ints(a:Sl Int):(D.p (intsP a)).one=true:=one_slP 1 _
@[simp] theorem pone_ints(a:Sl Int):(intsP a).one=true:=pone_slP 1 _
structure Rl where
 ar:Int
 tu:Sl Int
def Rl.p(r:Rl):PD:=.agg [.int .i64 r.ar,intsP r.tu]
def relsP(s:Sl Rl):PD:=slP 2 (s.map Rl.p)
theorem len_rels(s:Sl Rl):lenD 1 (.p (relsP s))=some (els s).length:=len_map 2 _ s
theorem ia_rels{s:Sl Rl}{k:Nat}(h:k<(els s).length):iaddrD none 2 (.p (relsP s)) (k:Int)=some (.ro [.int .i64 (els s)[k].ar,intsP (els s)[k].tu] 0):=ia_map h
@[simp] theorem pone_rels(a:Sl Rl):(relsP a).one=true:=pone_slP 2 _
def statesP(s:Sl (Sl Rl)):PD:=slP 1 (s.map relsP)
theorem len_states(s:Sl (Sl Rl)):lenD 1 (.p (statesP s))=some (els s).length:=len_map 1 _ s
theorem cells_rels(a:Sl Rl):(relsP a).cells=[relsP a]:=by
 unfold relsP
 cases a with
 |nil=>rfl
 |amb=>rfl
 |of l=>cases l<;>rfl
theorem ia_states{s:Sl (Sl Rl)}{k:Nat}(h:k<(els s).length):iaddrD none 1 (.p (statesP s)) (k:Int)=some (.ro [relsP (els s)[k]] 0):=by
 have:=ia_map (sz:=1) (f:=relsP) h
 rw[cells_rels] at this
 exact this
@[simp] theorem pone_states(a:Sl (Sl Rl)):(statesP a).one=true:=pone_slP 1 _
structure Fi where
 nm:List UInt8
 so:Sl Int
 va:Bool
def Fi.p(f:Fi):PD:=.agg [.str f.nm,intsP f.so,.bool f.va]
def fieldsP(s:Sl Fi):PD:=slP 3 (s.map Fi.p)
theorem len_fields(s:Sl Fi):lenD 1 (.p (fieldsP s))=some (els s).length:=len_map 3 _ s
theorem ia_fields{s:Sl Fi}{k:Nat}(h:k<(els s).length):iaddrD none 3 (.p (fieldsP s)) (k:Int)=some (.ro [.str (els s)[k].nm,intsP (els s)[k].so,.bool (els s)[k].va] 0):=ia_map h
@[simp] theorem pone_fields(a:Sl Fi):(fieldsP a).one=true:=pone_slP 3 _
structure Bn where
 lo:Rl
 up:Rl
def Bn.p(b:Bn):PD:=.agg [.int .i64 b.lo.ar,intsP b.lo.tu,.int .i64 b.up.ar,intsP b.up.tu]
def boundsP(s:Sl Bn):PD:=slP 4 (s.map Bn.p)
theorem len_bounds(s:Sl Bn):lenD 1 (.p (boundsP s))=some (els s).length:=len_map 4 _ s
theorem ia_bounds{s:Sl Bn}{k:Nat}(h:k<(els s).length):iaddrD none 4 (.p (boundsP s)) (k:Int)=some (.ro [.int .i64 (els s)[k].lo.ar,intsP (els s)[k].lo.tu,.int .i64 (els s)[k].up.ar,intsP (els s)[k].up.tu] 0):=ia_map h
@[simp] theorem pone_bounds(a:Sl Bn):(boundsP a).one=true:=pone_slP 4 _
theorem ints_call(a b:Sl Int)(ha:(els a).length<4611686018427387904):
    ∃r:Bool,(∀H,callD (call pg) 29 [.p (intsP a),.p (intsP b)] H=some (.val (.p (.bool r)),H))∧(r=true↔els a=els b):=by
 have hb0:bd a29 0=bd a29 0:=rfl
 conv at hb0=>rhs;reduce
 have hf:a29=a29:=rfl
 conv at hf=>rhs;reduce
 rw[←hb0] at hf
 by_cases hl:(els a).length=(els b).length
 ·have key:=loopA (c:=call pg) (G:=pg.G) (keep:=[0,1,5]) (b:=bd a29 0) (fun i=>[(0,.p (intsP a)),(1,.p (intsP b)),(5,.p (.int .i64 (i:Int)))]) ⟨[],[]⟩ (els a).length
   (fun i=>(els a)[i]? =(els b)[i]?) 0 (fun _=>True) (fun e=>e.get 4= .p (.bool false)) ?_ ?_ ?_
  ·rcases key with⟨e,hx,-,hp⟩ |⟨e,hx,hr,hp⟩
   ·refine⟨true,callP (aa:=[_,_]) hf rfl rfl rfl ?_,iff_of_true rfl ?_⟩
    ·simp[len_ints,hl] at hx⊢
     simp[hx]
    ·refine List.ext_getElem? fun i=>?_
     rcases Nat.lt_or_ge i (els a).length with h |h
     ·exact hp i h
     ·rw[List.getElem?_eq_none h,List.getElem?_eq_none (hl▸h)]
   ·refine⟨false,callP (aa:=[_,_]) hf rfl rfl rfl ?_,iff_of_false (by simp) fun hh=>hp fun i _=>by rw[hh]⟩
    simp[len_ints,hl] at hx⊢
    simp[hx,hr]
  ·intro i hi hP
   rw[hb0];clear hf hb0
   have hi2:i<(els b).length:=hl▸hi
   rw[List.getElem?_eq_getElem hi,List.getElem?_eq_getElem hi2,Option.some.injEq] at hP
   simp[len_ints,ia_ints hi,ia_ints hi2,hi,hP,inc64 (k:=i) (by omega)]
  ·intro i hi hP
   rw[hb0];clear hf hb0
   have hi2:i<(els b).length:=hl▸hi
   rw[List.getElem?_eq_getElem hi,List.getElem?_eq_getElem hi2,Option.some.injEq] at hP
   simp[len_ints,ia_ints hi,ia_ints hi2,hi,hP]
  ·rw[hb0];clear hf hb0
   simp[len_ints]
 ·refine⟨false,callP (aa:=[_,_]) hf rfl rfl rfl ?_,iff_of_false (by simp) fun h=>hl (by rw[h])⟩
  simp[len_ints,hl]
end Go.Proofs.YtgplgbonlnodeaaGreatDoor
