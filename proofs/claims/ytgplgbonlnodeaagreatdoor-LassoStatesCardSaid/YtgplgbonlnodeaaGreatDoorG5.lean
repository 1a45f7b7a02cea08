/-
  A value-level evaluator for Go functions; the functions of this cut by it; plain laws. Text G5.
-/
import Derived.Test.YtgplgbonlnodeaaGreatDoorG1
import Derived.Test.YtgplgbonlnodeaaGreatDoorG3
import Derived.Test.YtgplgbonlnodeaaGreatDoorProg
import Derived.KernelRfl
import Derived.Shelf.Slices.SearchI
import Derived.Shelf.Slices.Empties
import Derived.Test.YtgplgbonlnodeaaGreatDoorG4
import Derived.RangeFuncKeeps
import Derived.RangeFuncLeaves
import Derived.Shelf.Abstract
import Derived.WalkKit
import Derived.OwnWalkIn
import Derived.TacticsInMore
import Derived.LoopNIn
import Derived.LoopIn
import Derived.WalkSmall
import Derived.Sort.QuietIn
import Derived.Deep.RegionHeld3
import Derived.Tactics2
import Derived.Deep.QuietTactic
import Derived.BigQuiet
import Derived.IntWalk
import Derived.Shelf.SlSortCmp.WholeK
import Derived.Shelf.Lays2
import Derived.Shelf.Spec.SlicesInsert
import Derived.Shelf.Spec.SlicesInsertGrow
open Array renaming eq_empty_of_size_eq_zero->Gc,ext->Lb,ext'->Av,getD_eq_getD_getElem?->bP,getElem?_eq_getElem->rC,getElem?_eq_some_iff->fG,getElem?_toList->CQ,getElem_modify->aoL,length_toList->qq,replicate_succ->x5,replicate_zero->x6,size_append->Q4,toList_append->Z2
open Bool renaming and_eq_true->bL,false_eq_true->qp,not_false->Q9
open Classical renaming byContradiction->pL
open Int renaming natCast_inj->rF,toNat_natCast->sQ
open List renaming all_eq_true->gV,append_assoc->j2,append_nil->iQ,append_toArray->x8,cons_append->jo,drop_append_of_le_length->Z8,drop_drop->CS,drop_eq_getElem_cons->CZ,drop_eq_nil_of_le->Rc,drop_left'->Z9,drop_length->C0,drop_of_length_le->Gd,drop_zero->pM,eq_nil_of_length_eq_zero->sO,ext_getElem?->lO,filter_cons->Az,filter_nil->Ra,flatMap_cons->sP,foldl_cons->tU,getD->aoK,getD_eq_getElem?_getD->im,getElem?_append_left->aT,getElem?_append_right->cR,getElem?_cons_zero->ey,getElem?_drop->lN,getElem?_eq_getElem->aD,getElem?_eq_none->nS,getElem?_eq_some_iff->af,getElem?_map->cG,getElem?_take->gL,length->oI,length_append->gG,length_cons->ew,length_drop->wj,length_map->bT,length_nil->fH,length_set->Ge,length_singleton->AA,length_take->kY,map_cons->cB,map_inj_right->Z7,map_map->pO,mem_append->cx,mem_cons->cq,mem_cons_of_mem->kA,mem_cons_self->rD,mem_map->cA,mem_of_getElem?->bB,mem_of_mem_drop->tT,mem_of_mem_take->jn,mem_singleton->nT,nil_append->fF,nodup_cons->tW,not_mem_nil->iC,pairwise_cons->pP,pairwise_iff_getElem->C1,pairwise_map->AB,push_toArray->x7,range->j3,size_toArray->pQ,sum_append->Rb,sum_cons->Lf,tail->aoJ,take->rE,take_add_one->ub,take_append_drop->Aw,take_append_of_le_length->Re,take_length->lQ,take_of_length_le->fK,take_take->Q8,take_zero->tY
open Nat renaming add_assoc->wb,add_comm->CT,add_zero->nO,le_refl->aK,le_trans->fW,lt_of_lt_of_le->vZ,lt_or_ge->fA,min_eq_left->x9,reduceAdd->wk,reduceSub->xZ,zero_add->ez,zero_le->bD
open Option renaming map_eq_some_iff->ak,map_some->fy
open Option.some renaming injEq->bM
open Prod renaming fst->wm
open List renaming length->O
open Option renaming some->Z,none->Y
set_option maxHeartbeats 4000000
set_option maxRecDepth 100000
open Go.Vs

namespace Go.Proofs.YtgplgbonlnodeaaGreatDoor
def intOf:PD->Option Int
 | .int .i64 n=>Z n
 |_=>Y
def wZ:PD->Option (List Int)
 | .aj=>Z []
 | .emp sz=>if sz=1 then Z [] else Y
 | .slice sz es=>if sz=1 then aH intOf es else Y
 |_=>Y
def zz:List Int->Bool
 |a::b::r=>decide (a<=b)&&zz (b::r)
 |_=>true
def nz(fi cap:List D)(_:Hp):Option (List (List D)):=
 match fi,cap with
 |[],[.ro [_,lo,_,up] 0]=>match wZ lo,wZ up with
  |some l,Z u=>if zz l=true/\O l<4611686018427387904/\O u<4611686018427387904 then Z ((u.filter λt=>!l.contains t).map λt=>[.p (.int .i64 t)]) else Y
  |_,_=>Y
 |_,_=>Y
def varOf:PD->Option Bool
 | .agg [_,_,.bool v]=>Z v
 |_=>Y
def varsOf:PD->Option (List Bool)
 | .aj=>Z []
 | .emp sz=>if sz=3 then Z [] else Y
 | .slice sz es=>if sz=3 then aH varOf es else Y
 |_=>Y
def IZ:PD->Option (Int×Int)
 | .agg [.int .i64 a,.int .i64 b]=>Z (a,b)
 |_=>Y
def Eu:PD->Option (List (Int×Int))
 | .aj=>Z []
 | .emp sz=>if sz=2 then Z [] else Y
 | .slice sz es=>if sz=2 then aH IZ es else Y
 |_=>Y
def pq(vs:List Bool)(s:Nat)(a:Int):Bool:=decide (0<s)&& !(vs.getD a.toNat false)
def jg(vs:List Bool)(s:Nat):List (Int×Int)->Nat->List (Nat×Nat×Int×Int)
 |[],_=>[]
 |(a,b)::r,v=>if pq vs s a then jg vs s r v else(v+1,s,a,b)::jg vs s r (v+1)
def gC(vs:List Bool)(free:List (Int×Int)):Nat->Nat->Nat->List (Nat×Nat×Int×Int)
 | 0,_,_=>[]
 |n+1,s,v=>jg vs s free v++gC vs free n (s+1) (v+O (jg vs s free v))
def bF(steps:Int):Nat:=if 1<steps then steps.toNat else 0
def qU(e:Nat×Nat×Int×Int):List D:=[.p (.agg [.int .i64 (e.1:Int),.int .i64 (e.2.1:Int),.int .i64 e.2.2.1,.int .i64 e.2.2.2])]
def nA(fi cap:List D)(_:Hp):Option (List (List D)):=
 match fi,cap with
 |[.ro [_,.int .i64 steps,_,fs,_,_,_,fr] 0],[]=>match varsOf fs,Eu fr with
  |some vs,Z free=>
   if steps<4611686018427387904/\O free<4611686018427387904/\(free.all λp=>decide (0<=p.1/\p.1<(O vs:Int)))=true/\bF steps+O (gC vs free steps.toNat 0 (bF steps))<4611686018427387904 then
    Z ((gC vs free steps.toNat 0 (bF steps)).map qU) else Y
  |_,_=>Y
 |_,_=>Y
def jt(ats:List Int):List Int->Int->List Int
 |[],p=>[p]
 |s::r,p=>(j3 (ats.getD s.toNat 0).toNat).flatMap fun(j:Nat)=>jt ats r (IntKind.i64.wrap (IntKind.i64.wrap (p*ats.sum)+((ats.take s.toNat).sum+(j:Int))))
def pw(fi cap:List D)(_:Hp):Option (List (List D)):=
 match fi,cap with
 |[],[.ro [sd] 0,.ro [.int .i64 p] 0,.ro [ad,_] 0]=>match wZ sd,wZ ad with
  |some ss,Z ats=>
   if(ats.all λa=>decide (0<=a))=true/\ats.sum<4611686018427387904/\(ss.all λs=>decide (0<=s/\s<(O ats:Int)))=true/\O ats<4611686018427387904/\O ss<4611686018427387904 then
    Z ((jt ats ss p).map λt=>[.p (.int .i64 t)]) else Y
  |_,_=>Y
 |_,_=>Y
def BB:D->Option Int
 | .p (.int .i64 n)=>Z n
 |_=>Y
def dO(l:List Int)(k:Nat)(t:Int):List Int:=l.take k++t::l.drop k
def zA(aa:List D)(H:Hp):Option (bR×Hp):=
 match aa with
 |[s,.p (.int .i64 k),.ae j 3 1 1]=>match H.bx[j]? with
  |some [.p (.int .i64 t)]=>match s with
   | .ae i 3 n 1=>match H.bx[i]? with
    |some cs=>match aH BB (cs.take n) with
     |some l=>if i≠j/\ay cs=false/\n<=O cs/\cs≠[]/\0<=k/\k<=(n:Int)/\n<1000000 then
         Z (.val (.ae (O H.bx) 3 (n+1) 1),{H with bx:=H.bx.set i []++[(dO l k.toNat t).map λx=>.p (.int .i64 x)]}) else Y
     |none=>Y
    |none=>Y
   |s=>match iT 1 s with
    |some es=>match aH BB (es.map .p) with
     |some l=>if 0<=k/\k<=(O es:Int)/\O es<1000000 then
         Z (.val (.ae (O H.bx) 3 (O es+1) 1),{H with bx:=H.bx++[(dO l k.toNat t).map λx=>.p (.int .i64 x)]}) else Y
     |none=>Y
    |none=>Y
  |_=>Y
 |_=>Y
def qV(x:Int×Int):List (Int×Int)->List (Int×Int)
 |[]=>[x]
 |y::l=>if x.1<=y.1 then x::y::l else y::qV x l
def eY:List (Int×Int)->List (Int×Int)
 |[]=>[]
 |x::l=>qV x (eY l)
def cw:List (Int×Int)->List D
 |[]=>[]
 |x::l=>.p (.int .i64 x.1):: .p (.int .i64 x.2)::cw l
def BC:List D->Option (List (Int×Int))
 |[]=>Z []
 | .p (.int .i64 a):: .p (.int .i64 b)::l=>(BC l).map λr=>(a,b)::r
 |_=>Y
def xf:List (Int×Int)->Bool
 |x::y::l=>decide (x.1<y.1)&&xf (y::l)
 |_=>true
def BD(l:List (Int×Int)):Bool:=l.all λx=>decide (0<=x.1/\x.1<4611686018427387904)
def Ev(aa:List D)(H:Hp):Option (bR×Hp):=
 match aa with
 |[.ae i 102 n 2,.fn f [] []]=>match H.bx[i]? with
  |some cs=>match BC (cs.take (n*2)) with
   |some l=>if f=62/\ay cs=false/\n*2<=O cs/\cs≠[]/\n<1000000/\xf (eY l)=true/\BD l=true then
       Z (.val .undef,{H with bx:=H.bx.set i (Vs.aw cs 0 (cw (eY l)))}) else Y
   |none=>Y
  |none=>Y
 |_=>Y
def Ew:Nat->List D->List D->Hp->Option (List (List D))
 | 68=>nA
 | 226=>nz
 | 237=>pw
 |_=>λ_ _ _=>Y
def cf:Cf:=⟨[16,24,76,248,250],[58,59,60,62,106,73,74,76,93,118,136,144,175,210,236,247,248,250,293,296,97],[(56,68),(59,68),(18,68),(104,226),(116,237)],Ew,[98,102,155,53,235,223,224,222,286],[(222,8,253,65),(223,3,4,1),(224,3,361,66)],[97],[24]⟩

noncomputable section
open Tryz
def q(n:Nat)(f:Func):Option FC:=Bq prog cf n f
def a8:=q 8 f8
def a13:=q 13 f13
def Oc:=q 14 f14
def a37:=q 37 f37
def a39:=q 39 f39
def a51:=q 51 f51
def a52:=q 52 f52
def Od:=q 94 f94
def Oe:=q 106 f106
def Og:=q 10 f10
def a15:=q 15 f15
def Oh:=q 16 f16
def a18:=q 18 f18
def a22:=q 22 f22
def a23:=q 23 f23
def a24:=q 24 f24
def a29:=q 29 f29
def Oi:=q 36 f36
def I4:=q 38 f38
def a45:=q 45 f45
def a55:=q 55 f55
def Vf:=q 56 f56
def Oj:=q 57 f57
def a58:=q 58 f58
def a59:=q 59 f59
def a60:=q 60 f60
def a62:=q 62 f62
def a65:=q 65 f65
def a66:=q 66 f66
def a67:=q 67 f67
def mJ:=q 69 f69
def a72:=q 72 f72
def Vg:=q 73 f73
def I5:=q 74 f74
def a75:=q 75 f75
def a76:=q 76 f76
def a93:=q 93 f93
def zC:=q 104 f104
def a105:=q 105 f105
def afx:=q 111 f111
def Vh:=q 112 f112
def afy:=q 113 f113
def afz:=q 114 f114
def afA:=q 115 f115
def a116:=q 116 f116
def afB:=q 118 f118
def a119:=q 119 f119
def afC:=q 120 f120
def afD:=q 121 f121
def Vi:=q 122 f122
def Ol:=q 123 f123
def I6:=q 135 f135
def a159:=q 159 f159
def a160:=q 160 f160
def Om:=q 161 f161
def afE:=q 172 f172
def a173:=q 173 f173
def afF:=q 174 f174
def a175:=q 175 f175
def afG:=q 176 f176
def afH:=q 177 f177
def afI:=q 178 f178
def afJ:=q 179 f179
def Vj:=q 180 f180
def a232:=q 232 f232
def a233:=q 233 f233
def a234:=q 234 f234
def afK:=q 235 f235
def a236:=q 236 f236
def a4:=q 4 f4
def a5:=q 5 f5
def a28:=q 28 f28
def a54:=q 54 f54
def a83:=q 83 f83
def a6:=q 6 f6
def qc:=q 11 f11
def a12:=q 12 f12
def a26:=q 26 f26
def a27:=q 27 f27
def BF:=q 30 f30
def a31:=q 31 f31
def a46:=q 46 f46
def I7:=q 47 f47
def I8:=q 48 f48
def a49:=q 49 f49
def a50:=q 50 f50
def a53:=q 53 f53
def a70:=q 70 f70
def a79:=q 79 f79
def a80:=q 80 f80
def a81:=q 81 f81
def a82:=q 82 f82
def Vk:=q 84 f84
def BG:=q 96 f96
def gK:=q 97 f97
def ki:=q 98 f98
def Vl:=q 99 f99
def Vm:=q 100 f100
def Vn:=q 101 f101
def tE:=q 102 f102
def I9:=q 103 f103
def a117:=q 117 f117
def Ja:=q 126 f126
def a127:=q 127 f127
def Ey:=q 128 f128
def BH:=q 129 f129
def Jb:=q 151 f151
def a152:=q 152 f152
def Vo:=q 153 f153
def a154:=q 154 f154
def Jc:=q 155 f155
def a156:=q 156 f156
def a157:=q 157 f157
def zD:=q 158 f158
def a182:=q 182 f182
def a183:=q 183 f183
def xg:=q 186 f186
def Vp:=q 221 f221
def a222:=q 222 f222
def Ez:=q 223 f223
def xh:=q 224 f224
def Jd:=q 225 f225
def BI:=q 240 f240
def Je:=q 241 f241
def Vq:=q 242 f242
def EA:=q 243 f243
def Vt:=q 282 f282
def Vu:=q 283 f283
def vq:=q 284 f284
def jh:=q 285 f285
def Jf:=q 286 f286
def Oo:=q 287 f287
def vt:=q 288 f288
def BJ:=q 290 f290
def EB:=q 324 f324
def EC:=q 325 f325
def ED:=q 326 f326
def su:=q 327 f327
def sw:=q 328 f328
def EE:=q 329 f329
def EF:=q 330 f330
def Vv:=q 373 f373
def afO:FC where
 nt:=7
 np:=1
 res:=[.cell 2 (Z 2)]
 body:=(.seq (.region [2] [zm 4 0,zo 5 (.call (.t 4) [])]) (.seq (.region [2] [zL 6 2 2,zs 2 2 6]) .ret))
 gW:=Z ⟨[.region [0,2] [zo 2 (.alloc [.int .i64 0,.int .i64 0])]],[0,2],[zo 3 (.mkfn 191 [] [.t 2])],.t 3,[]⟩
def afP:FC where
 nt:=32
 np:=6
 res:=[.cell 12 (Z 1),.cell 13 Y]
 body:=(.seq (.draw [5,12,13,14] [(0,1),(0,2),(1,2),(0,5),(1,5),(2,5),(0,6),(1,6),(2,6)] [zL 16 1 10,zL 17 4 6,zL 18 2 7,zm 19 2,zm 20 3,zL 21 2 7,zc 22 112 [.t 21],zo 23 (.build [.aj,.aj,.aj,.aj,.aj,.aj,.int .i64 0,.aj,.int .i64 0,.int .i64 0] [(0,1,.t 16),(1,4,.t 17),(5,2,.t 18),(7,1,.t 19),(8,1,.t 20),(9,1,.t 22)]),zo 24 (.box (.t 23)),zm 14 24])
  (.seq (.region [12,13,14] [zm 25 5,zm 26 14,zo 27 (.call (.t 25) [.t 26])]) (.seq (.region [12,13] [zm 28 14,zn 29 28,zf 30 29 0,zL 31 1 30,zs 1 12 31,zv (.store 1 (.t 13) (zI 0))]) .ret)))
 gW:=Z ⟨[.region [2,3,5,6,7,10,12,13] [zo 6 (.box (.t 0)),zo 7 (.box (.t 1)),zo 10 (.box (.t 4)),zo 12 (.alloc [.aj]),zo 13 (.alloc [.int .i64 0])]],[2,3,5,6,7,10,12,13],[zo 15 (.mkfn 199 [] [.t 10,.t 12,.t 13])],.t 15,[]⟩
def afQ:FC where
 nt:=12
 np:=1
 res:=[]
 body:=(.seq (.region [0,4] [zm 4 4]) (.block 0 (.seq (.region [0,4,6] [zo 6 (.eqk 4 false (.t 4) (.c (.p .j5)))]) (.cond (.t 6) (.region [] [zm 1 4]) (.seq (.region [0,4,8,9] [zo 7 (.tassert 265 (.agg [.int .i64 0,.int .i64 0]) true (.t 4)),zx 8 7 1,zx 9 7 0]) (.cond (.t 8) (.seq (.region [0,2] [zo 2 (.alloc [.int .i64 0,.int .i64 0]),zs 2 2 9]) (.region [] [zf 10 2 0,
  zL 11 2 10,zs 2 0 11])) (.seq (.region [3] [zm 3 4]) (.region [] [zm 5 3,zv (.panic (.t 5))]))))))))
def afR:FC where
 nt:=20
 np:=3
 res:=[]
 body:=(.seq (.region [0,1,2,3] [zm 6 6,zm 3 6]) (.seq (.region [0,1,2,3,8] [zm 7 3,zo 8 (.eqk 4 true (.t 7) (.c (.p .j5)))]) (.cond (.t 8) (.seq (.region [0,1,2,3,4,5] [zm 10 3,zo 11 (.tassert 277 (.agg [.int .i64 0]) true (.t 10)),zm 9 11,zx 12 9 0,zx 13 9 1,zo 4 (.alloc [.int .i64 0]),zs 1 4 12,zm 5 13]) (.seq (.seq (.region [0,1,2,3,4,15] [zm 14 5,zo 15 (.un .not
  (.t 14))]) (.cond (.t 15) (.region [0,1,2,4] [zm 16 3,zv (.panic (.t 16))]) .skip)) (.draw [] [(0,2),(2,3)] [zL 17 1 0,zf 18 4 0,zl 19 18,zs 1 1 17,zs 1 2 19]))) .skip)))
def Oq:Nat->Option (Nat×FC)
 | 191=>Z (4,afQ)
 | 199=>Z (6,afR)
 |_=>Y
def Ot:Nat->Option FC
 | 145=>q 145 f145
 | 146=>q 146 f146
 | 147=>q 147 f147
 | 151=>Jb
 | 152=>a152
 | 153=>Vo
 | 154=>a154
 | 155=>Jc
 | 156=>a156
 | 157=>a157
 | 158=>zD
 | 159=>a159
 | 160=>a160
 | 161=>Om
 | 162=>q 162 f162
 | 171=>q 171 f171
 | 172=>afE
 | 173=>a173
 | 174=>afF
 | 175=>a175
 | 176=>afG
 | 177=>afH
 | 178=>afI
 | 179=>afJ
 | 180=>Vj
 | 182=>a182
 | 183=>a183
 | 186=>xg
 | 189=>q 189 f189
 | 190=>q 190 f190
 | 198=>q 198 f198
 | 200=>q 200 f200
 | 202=>q 202 f202
 | 203=>q 203 f203
 | 204=>q 204 f204
 | 207=>q 207 f207
 | 209=>q 209 f209
 | 210=>q 210 f210
 | 221=>Vp
 | 222=>a222
 | 223=>Ez
 | 224=>xh
 | 225=>Jd
 | 232=>a232
 | 233=>a233
 | 234=>a234
 | 235=>afK
 | 236=>a236
 | 238=>q 238 f238
 | 240=>BI
 | 241=>Je
 | 242=>Vq
 | 243=>EA
 | 247=>q 247 f247
 | 248=>q 248 f248
 | 249=>q 249 f249
 | 250=>q 250 f250
 | 254=>q 254 f254
 | 259=>q 259 f259
 | 260=>q 260 f260
 | 281=>q 281 f281
 | 282=>Vt
 | 283=>Vu
 | 284=>vq
 | 285=>jh
 | 286=>Jf
 | 287=>Oo
 | 288=>vt
 | 290=>BJ
 | 293=>q 293 f293
 | 295=>q 295 f295
 | 296=>q 296 f296
 | 301=>q 301 f301
 | 323=>q 323 f323
 | 324=>EB
 | 325=>EC
 | 326=>ED
 | 327=>su
 | 328=>sw
 | 329=>EE
 | 330=>EF
 | 333=>q 333 f333
 | 351=>q 351 f351
 | 352=>q 352 f352
 | 373=>Vv
 | 8=>a8
 | 13=>a13
 | 14=>Oc
 | 37=>a37
 | 39=>a39
 | 51=>a51
 | 52=>a52
 | 94=>Od
 | 106=>Oe
 |_=>Y
def Ou:Nat->Option FC
 | 4=>a4
 | 5=>a5
 | 28=>a28
 | 54=>a54
 | 83=>a83
 | 6=>a6
 | 10=>Og
 | 11=>qc
 | 12=>a12
 | 15=>a15
 | 16=>Oh
 | 18=>a18
 | 21=>q 21 f21
 | 22=>a22
 | 23=>a23
 | 24=>a24
 | 26=>a26
 | 27=>a27
 | 29=>a29
 | 30=>BF
 | 31=>a31
 | 33=>q 33 f33
 | 35=>q 35 f35
 | 36=>Oi
 | 38=>I4
 | 43=>q 43 f43
 | 44=>q 44 f44
 | 45=>a45
 | 46=>a46
 | 47=>I7
 | 48=>I8
 | 49=>a49
 | 50=>a50
 | 53=>a53
 | 55=>a55
 | 56=>Vf
 | 57=>Oj
 | 58=>a58
 | 59=>a59
 | 60=>a60
 | 61=>q 61 f61
 | 62=>a62
 | 65=>a65
 | 66=>a66
 | 67=>a67
 | 69=>mJ
 | 70=>a70
 | 72=>a72
 | 73=>Vg
 | 74=>I5
 | 75=>a75
 | 76=>a76
 | 79=>a79
 | 80=>a80
 | 81=>a81
 | 82=>a82
 | 84=>Vk
 | 87=>q 87 f87
 | 88=>q 88 f88
 | 89=>q 89 f89
 | 90=>q 90 f90
 | 91=>q 91 f91
 | 92=>q 92 f92
 | 93=>a93
 | 96=>BG
 | 97=>gK
 | 98=>ki
 | 99=>Vl
 | 100=>Vm
 | 101=>Vn
 | 102=>tE
 | 103=>I9
 | 104=>zC
 | 105=>a105
 | 107=>q 107 f107
 | 108=>q 108 f108
 | 111=>afx
 | 112=>Vh
 | 113=>afy
 | 114=>afz
 | 115=>afA
 | 116=>a116
 | 117=>a117
 | 118=>afB
 | 119=>a119
 | 120=>afC
 | 121=>afD
 | 122=>Vi
 | 123=>Ol
 | 126=>Ja
 | 127=>a127
 | 128=>Ey
 | 129=>BH
 | 134=>q 134 f134
 | 135=>I6
 | 136=>q 136 f136
 | 138=>Z afO
 | 141=>q 141 f141
 | 143=>Z afP
 | 144=>q 144 f144
 |n=>Ot n
def Ov:br
 | 77=>zA
 | 61=>Ev
 |_=>λ_ _=>Y
def pg:Pg:=⟨Ou,λ_=>Y,Ov,Oq⟩
def isTrue:Option (bR×Hp)->Bool
 |some (.val (.p (.bool b)),_)=>b
 |_=>false

end
end Go.Proofs.YtgplgbonlnodeaaGreatDoor

namespace Go.Proofs.YtgplgbonlnodeaaGreatDoor
open Go.Proofs Go.Shelf
def Vw:Go.Shelf.Ren where
 f:=λ| 25=>69 | 31=>122 | 32=>123 | 37=>180 |n=>n
 t:=λ| 22=>28 | 3=>3 | 4=>4 | 40=>176 | 0=>0 |n=>n
 g:=λn=>n
theorem Vx:Lays2.n25 Tryz.prog Vw where
 mixed:=by kernel_rfl
 f25:=Tryz.func69.trans (by kernel_rfl)
 f31:=Tryz.func122.trans (by kernel_rfl)
 f32:=Tryz.func123.trans (by kernel_rfl)
 f37:=Tryz.func180.trans (by kernel_rfl)
 t0:=Tryz.underlying0
 a0:=Tryz.isAgg0
 z0:=Tryz.sizeOf0
 v0:=Tryz.zeroValue0
 t3:=Tryz.underlying3
 a3:=Tryz.isAgg3
 z3:=Tryz.sizeOf3
 v3:=Tryz.zeroValue3
 t4:=Tryz.underlying4
 a4:=Tryz.isAgg4
 z4:=Tryz.sizeOf4
 v4:=Tryz.zeroValue4
 t22:=Tryz.underlying28
 a22:=Tryz.isAgg28
 z22:=Tryz.sizeOf28
 v22:=Tryz.zeroValue28
 t40:=Tryz.underlying176
 a40:=Tryz.isAgg176
 z40:=Tryz.sizeOf176
 v40:=Tryz.zeroValue176

end Go.Proofs.YtgplgbonlnodeaaGreatDoor

namespace Go.Proofs.YtgplgbonlnodeaaGreatDoor
open Go.RowKit Go.Shelf

attribute [local go_sem] Oper.semAt_some
def iK(l:List Int)(v:Value)(w:World):Prop:=∃ad cap,v= .slice ad (O l) cap/\O l<=cap/\(l≠[]->∃b o,ad=Z ⟨b,o,Y⟩/\∀(j:Nat) x,l[j]? =Z x->w.cell? ⟨b,o+j,Y⟩=Z (.int .i64 x))
variable{l:List Int}{v:Value}{w:World}
theorem afS{es:List PD}(h:aH intOf es=Z l):O l=O es/\∀(j:Nat) x,l[j]? =Z x->es[j]? =Z (.int .i64 x):=by
 obtain⟨h1,h2⟩:=og h;refine⟨h1,λj x hx=>?_⟩;obtain⟨e,he,hf⟩:=oP h hx;rw[he];unfold intOf at hf;split at hf
 .cases hf;rfl
 .cases hf
theorem Jg{m:Mem}{d:PD}(h:aQ m v d)(hl:wZ d=Z l)(hm:∀b o x,m b o=Z x->w.cell? ⟨b,o,Y⟩=Z x):iK l v w:=by
 unfold wZ at hl;split at hl
 .cases hl;cases h;exact⟨Y,0,rfl,aK _,λh=>(h rfl).elim⟩
 .split at hl
  .cases hl;cases h;exact⟨_,_,rfl,bD _,λh=>(h rfl).elim⟩
  .cases hl
 .split at hl
  .rename_i sz es hsz;subst hsz;obtain⟨h1,h2⟩:=afS hl;obtain⟨ad,cap,rfl,hc,hne⟩:=p6 h;refine⟨ad,cap,by rw[h1],by rw[h1];exact hc,λhl0=>?_⟩;have kQ:es≠[]:=λe=>hl0 (sO (by rw[h1,e];rfl));obtain⟨b,o,vs,rfl,hsz,dP,jL,hr⟩:=hne kQ;refine⟨b,o,rfl,λj x hx=>?_⟩;have he:=h2 j x hx;have hj:j<O es:=(af.1 he).1;have:=hm _ _ _ (jL j 0 hj (by decide));have hv:=(hr j _ 0 _ he rfl).jK;rw[hv] at this;simpa using this
  .cases hl
 .cases hl
theorem Vy:∀{l:List Int},zz l=true->l.Pairwise (·<=·)
 |[],_=>.nil
 |[a],_=>by simp
 |a::b::r,h=>by
  simp only[zz,bL,decide_eq_true_eq] at h;have q:=Vy h.2;refine .cons (λx hx=>?_) q;rcases cq.1 hx with rfl |hx
  .exact h.1
  .exact Int.le_trans h.1 ((pP.1 q).1 x hx)
theorem afT(hs:zz l=true)(hl:O l<4611686018427387904)(h:iK l v w)(x:Int):
    Calls Tryz.prog 69 #[v,.int .i64 x] w λe w'=>∃k:Int,e= .returned (.tuple #[.int .i64 k,.bool (l.contains x)])/\∃q,w'=w.drewN q:=by
 obtain⟨ad,cap,rfl,-,hne⟩:=h;have Vz:Vw.f 25=69:=rfl;cases l with
 |nil=>
  have:=Any.slices_BinarySearch_int_empty Vx ad cap x w;rw[Vz] at this;refine this.mono ?_;rintro e w' ⟨rfl,hw⟩;exact⟨0,by simp,0,hw⟩
 |cons a r=>
  obtain⟨b,o,rfl,hc⟩:=hne (by simp);have:=Any.slices_BinarySearch_int Vx b o (O (a::r)) cap (a::r) x w (aK _) hl (λj hj=>by
   have:=hc j _ (aD hj);rw[this,im,aD hj];rfl) (by rw[lQ];exact Vy hs)
  rw[Vz,lQ] at this;refine this.mono ?_;rintro e w' ⟨rfl,hw⟩;exact⟨_,rfl,hw⟩
def tF(n:Nat):Value->Nat
 | .int _ i=>n-i.toNat
 |_=>0
def afU(B Zx:Nat)(l u:List Int)(w:World):Prop:=∃vl vu,w.cell? ⟨B,Zx+1,Y⟩=Z vl/\w.cell? ⟨B,Zx+3,Y⟩=Z vu/\iK l vl w/\iK u vu w

theorem afV(F:Fence)(n:Nat)(Ow:F.fn 226)(h69:F.fn 69)(hro:F.round=Y)(hn:1<=n)(us:List Int)(ls:List Int)(hlen:O us<4611686018427387904)(lp B Zx:Nat)(J:Nat->(Nat->Prop)->World->Prop)(X:Ending->World->Prop)(w0:World)
    (hK:∀k fb A,J k fb A->afU B Zx ls us A) (hU:∃vu,w0.cell? ⟨B,Zx+3,Y⟩=Z vu/\∀k fb A,J k fb A->iK us vu A)
    (eU:∀A v x,iK ls v A->CallsIn F (n-1) Tryz.prog 69 #[v,.int .i64 x] A λe w'=>∃k:Int,e= .returned (.tuple #[.int .i64 k,.bool (ls.contains x)])/\∃q,w'=A.drewN q)
    (hJ:∀k fb A B,J k fb A->RowKit.Below A.heap.size A B->J k (λb=>fb b\/(A.heap.size<=b/\b<B.heap.size)) B)
    (hY:∀k fb x A,(us.filter λt=>!ls.contains t)[k]? =Z x->J k fb A->YieldAt F (n-1) Tryz.prog lp #[.int .i64 x] A λe B=>(A.heap.size<=B.heap.size/\∀b,fb b->ng b A B)/\((e= .returned (.bool true)/\J (k+1) fb B)\/(e= .returned (.bool false)/\X e B)\/∃ch,e= .panicked ch/\X e B))
    (h0:J 0 (λ_=>False) w0):
    CallsIn F n Tryz.prog 226 #[.func (.yield lp) #[] #[],.pointer (Z ⟨B,Zx,Y⟩)] w0 λe B=>((∃v,e= .returned v)/\((∃fb,J (O (us.filter λt=>!ls.contains t)) fb B)\/X (.returned (.bool false)) B))\/∃ch,e= .panicked ch/\X e B:=by
 refine callsIn_of_wp Tryz.func226 rfl Ow ?_ hro;simp only[Tryz.ntmps226,pQ,ew,fH,wk,xZ,x5,x6,x7,x8,fF,jo];have t3:=Tryz.underlying3;have a3:=Tryz.isAgg3;have z3:=Tryz.sizeOf3;have v3:=Tryz.zeroValue3;have t4:=Tryz.underlying4;have a4:=Tryz.isAgg4;have z4:=Tryz.sizeOf4;have v4:=Tryz.zeroValue4;have t28:=Tryz.underlying28;have a28:=Tryz.isAgg28;have z28:=Tryz.sizeOf28;have v28:=Tryz.zeroValue28;have t98:=Tryz.underlying98;have ki:=Tryz.isAgg98;have z98:=Tryz.sizeOf98;have t85:=Tryz.underlying85;have a85:=Tryz.isAgg85;have z85:=Tryz.sizeOf85;have t135:=Tryz.underlying135;have I6:=Tryz.isAgg135;have VA:=Tryz.sizeOf135;have VB:=Tryz.zeroValue135;have u3:=run_underlying Tryz.underlying3;have u4:=run_underlying Tryz.underlying4;have u28:=run_underlying Tryz.underlying28;have u98:=run_underlying Tryz.underlying98;have u85:=run_underlying Tryz.underlying85;have VC:=run_underlying Tryz.underlying135;obtain⟨vu,hcu,hsu⟩:=hU;obtain⟨ad,cap,rfl,-,hne⟩:=hsu 0 _ _ h0
 gi_wp2
 gi_loopw [4,5,6,11] (λ_ _ _ v wr=>∃(i k:Nat) (fb:Nat->Prop),v= .int .i64 (i:Int)/\i<=O us/\(us.drop i).filter (λt=>!ls.contains t)=(us.filter λt=>!ls.contains t).drop k/\k<=O (us.filter λt=>!ls.contains t)/\J k fb wr)
  (λ_ _ _ v _=>tF (O us) v)
 case atStart=>
  exact⟨0,0,_,rfl,bD _,rfl,bD _,h0⟩
 case round=>
  obtain⟨i,k,fb,rfl,hi,hk,EG,mK⟩:=hrel;rcases fA i (O us) with hlt |kH
  .obtain⟨ad2,RP,heq,-,ot⟩:=hsu k fb wr mK;cases heq;obtain⟨b,o,rfl,hc⟩:=ot (by intro e;subst e;simp at hlt);obtain⟨x,BK⟩:∃x,us[i]? =Z x:=⟨_,aD hlt⟩;have hx:=hc i x BK;clear hc ot;have hb1:(i:Int)<(O us:Int):=by omega
   have hb0:(0 :Int)<=(i:Int):=by omega
   rw[CZ hlt,Az,(af.1 BK).2] at hk;obtain⟨vl,vu2,q1,q2,q3,q4⟩:=hK k fb wr mK;have jB:=eU wr vl x q3;clear hsu hcu;by_cases cU:ls.contains x=true
   .rw[cU] at hk jB;simp only[Bool.not_true,qp,if_false] at hk
    gi_wp2_with (gi_at_call 69;refine jB.mono ?_;rintro e w' ⟨kk,rfl,q,rfl⟩)
    refine⟨λf h=>(by cases h),?_⟩
    gi_wp2
    go_roundw
    case rel=>exact⟨i+1,k,_,by simp,hlt,hk,EG,hJ _ _ _ _ mK (below_drewN (.refl _ _) q)⟩
    case measure=>simp only[tF];omega
   .have cU:ls.contains x=false:=by simpa using cU
    rw[cU] at hk jB;simp only[Q9,if_true] at hk;have j9:(us.filter λt=>!ls.contains t)[k]? =Z x:=by
     have:=congrArg (·[0]?) hk;simpa[lN] using this.symm
    have qJ:(us.drop (i+1)).filter (λt=>!ls.contains t)=(us.filter λt=>!ls.contains t).drop (k+1):=by
     have:=congrArg aoJ hk;simpa using this
    gi_wp2_with (gi_at_call 69;refine jB.mono ?_;rintro e w' ⟨kk,rfl,q,rfl⟩;obtain⟨fn,tmps,assign,body,hy,hR⟩:=hY k _ x _ j9 (hJ _ _ _ _ mK (below_drewN (.refl _ wr) q)))
    refine hR.mono ?_;rintro e W3 ⟨-,(⟨rfl,hJ3⟩ |⟨rfl,px⟩ |⟨ch,rfl,px⟩)⟩
    .gi_wp2
     go_roundw
     case rel=>exact⟨i+1,k+1,_,by simp,hlt,qJ,(af.1 j9).1,hJ3⟩
     case measure=>simp only[tF];omega
    .gi_wp2
     refine bodyPost_ret (results_none rfl _ _ _) rfl ?_;exact .inl ⟨⟨_,rfl⟩,.inr px⟩
    .first
     |exact⟨rfl,Or.inr ⟨ch,rfl,px⟩⟩
     |exact⟨rfl,Or.inr ⟨⟨ch,rfl⟩,px⟩⟩
  .have hb1:¬(i:Int)<(O us:Int):=by omega
   gi_wp2
   go_end0
   have yM:i=O us:=by omega
   subst yM;rw[C0] at hk;have eM:O (us.filter λt=>!ls.contains t)<=k:=by
    have:=congrArg oI hk;rw[Ra,fH,wj] at this;omega
   have tq:k=O (us.filter λt=>!ls.contains t):=by omega
   refine .inl ⟨⟨_,rfl⟩,.inl ⟨fb,?_⟩⟩;rw[tq] at mK;simpa using mK
theorem VD{γ:Gh}(x:Int):cv γ #[Value.int .i64 x] [.p (.int .i64 x)]:=
 ⟨rfl,λi d hd=>match i with
  | 0=>by simp only[ey,bM] at hd;subst hd;exact .p _ _ (.int _ _)
  |i+1=>by simp at hd⟩

variable {W : World} {G : Nat -> Option (List PD)}
theorem afY:r6 Tryz.prog W G 226 nz:=by
 refine⟨⟨Tryz.f226,Tryz.func226,by kernel_rfl,by kernel_rfl⟩,λfi cap H xs hg γ w la lb I tG EH=>?_⟩;unfold nz at hg;split at hg
 .rename_i c0 lo c2 up;split at hg
  .rename_i l u hl hu;split at hg
   .rename_i hc;obtain⟨hs,jc,LD⟩:=hc;cases hg;have Jh:la= #[]:=Gc tG.1;subst Jh;obtain⟨v,rfl,hv⟩:=UJ EH;cases hv with
    |ro b o _ _ vs hm hr=>
     have fact:∀A,Kept W G γ H (nX (.fn 226 [] [.ro [c0,lo,c2,up] 0]) H) A->A.cell? ⟨b,o+1,Y⟩=Z (vs 1)/\A.cell? ⟨b,o+3,Y⟩=Z (vs 3)/\iK l (vs 1) A/\iK u (vs 3) A:=by
      rintro A ⟨γ',H',L,I',_⟩;refine⟨I'.toInv.mem _ _ _ (L.mem _ _ _ (hm 1 (by simp))),I'.toInv.mem _ _ _ (L.mem _ _ _ (hm 3 (by simp))),?_,?_⟩
      .exact Jg ((hr 1 lo rfl).1.mono L.mem) hl I'.toInv.mem
      .exact Jg ((hr 3 up rfl).1.mono L.mem) hu I'.toInv.mem
     refine⟨λk=>match(u.filter λt=>!l.contains t)[k]? with |some x=>#[.int .i64 x] |none=>#[],λk x hx=>?_,λlp J X w0 hB zE hJ hT hX sx hY h0=>?_⟩
     .simp only[cG,ak] at hx;obtain⟨p,hp,rfl⟩:=hx;simp only[hp];exact⟨rfl,λγ'=>VD p⟩
     .have f0:=fact w0 (zE 0 _ w0 h0);have h:=afV (wr Y) 1 trivial trivial rfl (aK _) u l LD lp b o J X w0 (λk fb A hj=>by
       obtain⟨q1,q2,q3,q4⟩:=fact A (zE k fb A hj);exact⟨_,_,q1,q2,q3,q4⟩) ⟨vs 3,f0.2.1,λk fb A hj=>(fact A (zE k fb A hj)).2.2.2⟩ (λA v x ha=>qK.2 (afT hs jc ha x)) hJ (λk fb x A hx hj=>by
       have:=hY k fb _ A (by rw[cG,hx];rfl) hj;simp only[hx] at this;exact this) h0
      rw[bT];exact qK.2 (qK.1 h)
   .cases hg
  .cases hg
 .cases hg

end Go.Proofs.YtgplgbonlnodeaaGreatDoor

namespace Go.Proofs.YtgplgbonlnodeaaGreatDoor
open Go.RowKit Go.Shelf

attribute [local go_sem] Oper.semAt_some
def VE(l:List Bool)(v:Value)(w:World):Prop:=∃ad cap,v= .slice ad (O l) cap/\(l≠[]->∃b o,ad=Z ⟨b,o,Y⟩/\∀(j:Nat) x,l[j]? =Z x->w.cell? ⟨b,o+j*3+2,Y⟩=Z (.bool x))
def VF(l:List (Int×Int))(v:Value)(w:World):Prop:=∃ad cap,v= .slice ad (O l) cap/\(l≠[]->∃b o,ad=Z ⟨b,o,Y⟩/\∀(j:Nat) x,l[j]? =Z x->w.cell? ⟨b,o+j*2,Y⟩=Z (.int .i64 x.1)/\w.cell? ⟨b,o+j*2+1,Y⟩=Z (.int .i64 x.2))
theorem VG{α:Type}{f:PD->Option α}{es:List PD}{l:List α}(h:aH f es=Z l):O l=O es/\∀(j:Nat) x,l[j]? =Z x->∃e,es[j]? =Z e/\f e=Z x:=by
 obtain⟨h1,h2⟩:=og h;refine⟨h1,λj x hx=>?_⟩;obtain⟨e,he,hf⟩:=oP h hx;exact⟨e,he,hf⟩
variable{m:Mem}{v:Value}{w:World}
theorem afZ{d:PD}(h:aQ m v d){l:List Bool}(hl:varsOf d=Z l)(hm:∀b o x,m b o=Z x->w.cell? ⟨b,o,Y⟩=Z x):VE l v w:=by
 unfold varsOf at hl;split at hl
 .cases hl;cases h;exact⟨Y,0,rfl,λh=>(h rfl).elim⟩
 .split at hl
  .cases hl;cases h;exact⟨_,_,rfl,λh=>(h rfl).elim⟩
  .cases hl
 .split at hl
  .rename_i sz es hsz;subst hsz;obtain⟨h1,h2⟩:=VG hl;obtain⟨ad,cap,rfl,hc,hne⟩:=p6 h;refine⟨ad,cap,by rw[h1],λhl0=>?_⟩;have kQ:es≠[]:=λe=>hl0 (sO (by rw[h1,e];rfl));obtain⟨b,o,vs,rfl,hsz,dP,jL,hr⟩:=hne kQ;refine⟨b,o,rfl,λj x hx=>?_⟩;obtain⟨e,he,hf⟩:=h2 j x hx;have hj:j<O es:=(af.1 he).1;unfold varOf at hf;split at hf
   .cases hf;have:=hm _ _ _ (jL j 2 hj (by decide));have hv:=(hr j _ 2 _ he rfl).sX;rw[hv] at this;exact this
   .cases hf
  .cases hl
 .cases hl
theorem af0{d:PD}(h:aQ m v d){l:List (Int×Int)}(hl:Eu d=Z l)(hm:∀b o x,m b o=Z x->w.cell? ⟨b,o,Y⟩=Z x):VF l v w:=by
 unfold Eu at hl;split at hl
 .cases hl;cases h;exact⟨Y,0,rfl,λh=>(h rfl).elim⟩
 .split at hl
  .cases hl;cases h;exact⟨_,_,rfl,λh=>(h rfl).elim⟩
  .cases hl
 .split at hl
  .rename_i sz es hsz;subst hsz;obtain⟨h1,h2⟩:=VG hl;obtain⟨ad,cap,rfl,hc,hne⟩:=p6 h;refine⟨ad,cap,by rw[h1],λhl0=>?_⟩;have kQ:es≠[]:=λe=>hl0 (sO (by rw[h1,e];rfl));obtain⟨b,o,vs,rfl,hsz,dP,jL,hr⟩:=hne kQ;refine⟨b,o,rfl,λj x hx=>?_⟩;obtain⟨e,he,hf⟩:=h2 j x hx;have hj:j<O es:=(af.1 he).1;unfold IZ at hf;split at hf
   .cases hf;have c0:=hm _ _ _ (jL j 0 hj (by decide));have c1:=hm _ _ _ (jL j 1 hj (by decide));have v0:=(hr j _ 0 _ he rfl).jK;have v1:=(hr j _ 1 _ he rfl).jK;rw[v0] at c0;rw[v1] at c1;exact⟨c0,c1⟩
   .cases hf
  .cases hl
 .cases hl
def VH(B Zx:Nat)(steps:Int)(vs:List Bool)(fr:List (Int×Int))(vf vr:Value)(w:World):Prop:=w.cell? ⟨B,Zx+1,Y⟩=Z (.int .i64 steps)/\w.cell? ⟨B,Zx+3,Y⟩=Z vf/\w.cell? ⟨B,Zx+7,Y⟩=Z vr/\VE vs vf w/\VF fr vr w
theorem af1(F:Fence)(n:Nat)(Ox:F.fn 75)(hro:F.round=Y)(B Zx:Nat)(steps:Int)(w:World)(hc:w.cell? ⟨B,Zx+1,Y⟩=Z (.int .i64 steps)):
    CallsIn F n Tryz.prog 75 #[.pointer (Z ⟨B,Zx,Y⟩)] w λe w'=>e= .returned (.int .i64 ((bF steps:Nat):Int))/\w'=w:=by
 refine callsIn_of_wp Tryz.func75 rfl Ox ?_ hro;simp only[Tryz.ntmps75,pQ,ew,fH,wk,xZ,x5,x6,x7,x8,fF,jo];have t3:=Tryz.underlying3;have a3:=Tryz.isAgg3;have z3:=Tryz.sizeOf3;have v3:=Tryz.zeroValue3;have t119:=Tryz.underlying119;have t30:=Tryz.underlying30;have u3:=run_underlying Tryz.underlying3;have af2:=run_underlying Tryz.underlying119;have BL:=run_underlying Tryz.underlying30;by_cases h1:1<steps
 .have hd:((bF steps:Nat):Int)=steps:=by simp[bF,h1];omega
  rw[hd]
  gi_wp2
  refine bodyPost_ret (results_tmp rfl _ _ _) rfl ?_;exact⟨rfl,rfl⟩
 .have hd:bF steps=0:=by simp[bF,h1]
  rw[hd]
  gi_wp2
  refine bodyPost_ret (results_tmp rfl _ _ _) rfl ?_;exact⟨rfl,rfl⟩

theorem af3(F:Fence)(n:Nat)(EI:F.fn 68)(Ox:F.fn 75)(hro:F.round=Y)(hn:1<=n)(steps:Int)(vs:List Bool)(fr:List (Int×Int))(hst:steps<4611686018427387904)(gQ:O fr<4611686018427387904)(cU:∀(i:Nat) p,fr[i]? =Z p->0<=p.1/\p.1<(O vs:Int))
    (L:List (Nat×Nat×Int×Int)) (hL:L=gC vs fr steps.toNat 0 (bF steps)) (o0:bF steps+O L<4611686018427387904) (lp B Zx:Nat) (J:Nat->(Nat->Prop)->World->Prop) (X:Ending->World->Prop) (w0:World)
    (vf vr:Value) (hK:∀k fb A,J k fb A->VH B Zx steps vs fr vf vr A)
    (hJ:∀k fb A B,J k fb A->RowKit.Below A.heap.size A B->J k (λb=>fb b\/(A.heap.size<=b/\b<B.heap.size)) B)
    (hY:∀k fb (x:Nat×Nat×Int×Int) A,L[k]? =Z x->J k fb A->YieldAt F (n-1) Tryz.prog lp #[.agg #[.int .i64 (x.1:Int),.int .i64 (x.2.1:Int),.int .i64 x.2.2.1,.int .i64 x.2.2.2]] A λe B=>(A.heap.size<=B.heap.size/\∀b,fb b->ng b A B)/\((e= .returned (.bool true)/\J (k+1) fb B)\/(e= .returned (.bool false)/\X e B)\/∃ch,e= .panicked ch/\X e B))
    (h0:J 0 (λ_=>False) w0):
    CallsIn F n Tryz.prog 68 #[.pointer (Z ⟨B,Zx,Y⟩),.func (.yield lp) #[] #[]] w0 λe B=>((∃v,e= .returned v)/\((∃fb,J (O L) fb B)\/X (.returned (.bool false)) B))\/∃ch,e= .panicked ch/\X e B:=by
 refine callsIn_of_wp Tryz.func68 rfl EI ?_ hro;simp only[Tryz.ntmps68,pQ,ew,fH,wk,xZ,x5,x6,x7,x8,fF,jo];have t3:=Tryz.underlying3;have a3:=Tryz.isAgg3;have z3:=Tryz.sizeOf3;have v3:=Tryz.zeroValue3;have t4:=Tryz.underlying4;have a4:=Tryz.isAgg4;have z4:=Tryz.sizeOf4;have v4:=Tryz.zeroValue4;have t23:=Tryz.underlying23;have a23:=Tryz.isAgg23;have z23:=Tryz.sizeOf23;have v23:=Tryz.zeroValue23;have t27:=Tryz.underlying27;have t30:=Tryz.underlying30;have t95:=Tryz.underlying95;have a95:=Tryz.isAgg95;have z95:=Tryz.sizeOf95;have t110:=Tryz.underlying110;have aqw:=Tryz.isAgg110;have aqx:=Tryz.sizeOf110;have t112:=Tryz.underlying112;have Vh:=Tryz.isAgg112;have aqy:=Tryz.sizeOf112;have aqz:=Tryz.zeroValue112;have t119:=Tryz.underlying119;have t123:=Tryz.underlying123;have Ol:=Tryz.isAgg123;have aqA:=Tryz.sizeOf123;have aqB:=Tryz.zeroValue123;have u3:=run_underlying Tryz.underlying3;have u4:=run_underlying Tryz.underlying4;have u23:=run_underlying Tryz.underlying23;have u27:=run_underlying Tryz.underlying27;have BL:=run_underlying Tryz.underlying30;have u95:=run_underlying Tryz.underlying95;have aqE:=run_underlying Tryz.underlying110;have aqF:=run_underlying Tryz.underlying112;have af2:=run_underlying Tryz.underlying119;have aqG:=run_underlying Tryz.underlying123;obtain⟨q1,q2,q3,q4,q5⟩:=hK 0 _ _ h0;have Ji:=af1 F (n-1) Ox hro B Zx steps w0 q1
 gi_wp2_with (gi_at_call 75;refine Ji.mono ?_;rintro e w' ⟨rfl,rfl⟩)
 clear Ji q2 q3 q4 q5 q1
 gi_loopw [4,5,7,15] (λv _ _ s wr=>∃(i k:Nat) (fb:Nat->Prop),s= .int .i64 (i:Int)/\(i:Int)<=max steps 0/\v= .int .i64 ((bF steps+k:Nat):Int)/\gC vs fr (steps.toNat-i) i (bF steps+k)=L.drop k/\k<=O L/\J k fb wr)
  (λ_ _ _ s _=>tF steps.toNat s)
 case atStart=>
  exact⟨0,0,_,rfl,by omega,by simp,by rw[hL];rfl,bD _,h0⟩
 case round=>
  obtain⟨i,k,fb,rfl,hi,rfl,hk,EG,mK⟩:=hrel;rcases Int.lt_or_le (i:Int) steps with hlt |kH
  .have af4:steps.toNat-i=(steps.toNat-(i+1))+1:=by omega
   rw[af4] at hk;simp only[gC] at hk;obtain⟨q1,q2,q3,q4,q5⟩:=hK k fb wr mK;obtain⟨adr,aqI,rfl,af5⟩:=q5;clear q4
   gi_wp2
   clear q1 q2 q3 af5
   gi_loopw [4,7,23] (λv _ j wr2=>∃(j' k2:Nat) (BM:Nat->Prop),j= .int .i64 (j':Int)/\j'<=O fr/\v= .int .i64 ((bF steps+k2:Nat):Int)/\jg vs i (fr.drop j') (bF steps+k2)++gC vs fr (steps.toNat-(i+1)) (i+1) (bF steps+k2+O (jg vs i (fr.drop j') (bF steps+k2)))=L.drop k2/\k2<=O L/\J k2 BM wr2)
    (λ_ _ j _=>tF (O fr) j)
   case atStart=>exact⟨0,k,fb,rfl,bD _,rfl,by simpa using hk,EG,mK⟩
   case round=>
    clear hk EG mK;obtain⟨j,k2,BM,rfl,hj,rfl,hk2,VI,hJ2⟩:=hrel;rcases fA j (O fr) with jz |hjg
    .obtain⟨⟨a,b⟩,hp⟩:∃x,fr[j]? =Z x:=⟨_,aD jz⟩;obtain⟨ha0,ha1⟩:=cU j _ hp;simp only at ha0 ha1;obtain⟨q1,q2,q3,q4,q5⟩:=hK k2 BM _ hJ2;obtain⟨ad2,RP,heq,ot⟩:=q5;cases heq;obtain⟨rb,ro,rfl,hc⟩:=ot (by intro e;subst e;simp at jz);obtain⟨wY,hcb⟩:=hc j _ hp;clear hc ot;have hb1:(j:Int)<(O fr:Int):=by omega
     have hb0:(0 :Int)<=(j:Int):=by omega
     rw[CZ jz,(af.1 hp).2] at hk2;simp only[jg] at hk2
     gi_wp2
     clear wY hcb hb1 hb0 q1 q2 q3 q4;have VJ:RowKit.Below wr.heap.size wr (wr.alloc (Obj.cells #[Value.int IntKind.i64 a,Value.int IntKind.i64 b] 112)):=RowKit.Below.alloc (.refl _ _) (aK _) _;have hJ3:=hJ _ _ _ _ hJ2 VJ;have e0:(wr.alloc (Obj.cells #[Value.int IntKind.i64 a,Value.int IntKind.i64 b] 112)).cell? ⟨wr.heap.size,0,Y⟩=Z (.int .i64 a):=by simp[go_sem]
     have e1:(wr.alloc (Obj.cells #[Value.int IntKind.i64 a,Value.int IntKind.i64 b] 112)).cell? ⟨wr.heap.size,1,Y⟩=Z (.int .i64 b):=by simp[go_sem]
     generalize hW1:wr.alloc (Obj.cells #[Value.int IntKind.i64 a,Value.int IntKind.i64 b] 112)=W1 at *;generalize Ij:(λb=>BM b\/wr.heap.size<=b/\b<W1.heap.size)=EJ at *;generalize wr.heap.size=N1 at *;clear VJ hW1 Ij hJ2;obtain⟨q1,q2,q3,⟨adf,aqL,rfl,zF⟩,q5⟩:=hK _ _ _ hJ3;obtain⟨fb',fo,rfl,HJ⟩:=zF (by intro e;subst e;simp at ha1;omega);obtain⟨x,hx⟩:∃x,vs[a.toNat]? =Z x:=⟨_,aD (by omega)⟩;have hcx:=HJ _ _ hx;clear HJ zF q1 q3 q5;have hgd:vs.getD a.toNat false=x:=by simp[aoK,hx]
     by_cases hsk:pq vs i a=true
     .have uS:0<i/\x=false:=by simpa[pq,hx] using hsk
      obtain⟨uS,rfl⟩:=uS;have yM:(0 :Int)<(i:Int):=by omega
      rw[if_pos hsk] at hk2
      (refine wpIn_region_quiet_lit hro (by kernel_rfl) (by kernel_rfl) ?_
       repeat (gi_big_quiet_step (fail))
       refine wpQuietIn_nil ?_;intro _ hw';obtain⟨nq,hw''⟩:=hw';subst hw'')
      gi_wp2
      go_roundw
      case rel=>exact⟨j+1,k2,_,by simp,jz,rfl,hk2,VI,hJ _ _ _ _ hJ3 (below_drewN (.refl _ _) nq)⟩
      case measure=>simp only[tF];omega
     .rw[if_neg hsk] at hk2;have j9:L[k2]? =Z (bF steps+k2+1,i,a,b):=by
       have:=congrArg (·[0]?) hk2;simpa[lN] using this.symm
      have qJ:jg vs i (fr.drop (j+1)) (bF steps+(k2+1))++gC vs fr (steps.toNat-(i+1)) (i+1) (bF steps+(k2+1)+O (jg vs i (fr.drop (j+1)) (bF steps+(k2+1))))=L.drop (k2+1):=by
       have:=congrArg aoJ hk2;simpa[wb,CT 1] using this
      have af6:k2<O L:=(af.1 j9).1;clear hk2;have BN:(decide (0<i)=false)\/(0<i/\x=true):=by
       cases x
       .left;refine decide_eq_false λhi=>?_;exact hsk (by simp[pq,hx];omega)
       .rcases Nat.eq_zero_or_pos i with h |h
        .exact .inl (by simp[h])
        .exact .inr ⟨h,rfl⟩
      clear hsk hgd hx;have Lr:(0 :Int)<=(bF steps:Int)+(k2:Int):=by omega
      have hv2:(bF steps:Int)+(k2:Int)+1<4611686018427387904:=by omega
      rcases BN with yM |⟨yM,rfl⟩
      all_goals
       (refine wpIn_region_quiet_lit hro (by kernel_rfl) (by kernel_rfl) ?_
        repeat (gi_big_quiet_step (fail))
        refine wpQuietIn_nil ?_;intro _ hw';obtain⟨nq,hw''⟩:=hw';subst hw'')
      all_goals have EK:=hJ _ _ _ _ hJ3 (below_drewN (.refl _ W1) nq)
      all_goals obtain⟨fn,tmps,assign,body,hy,hR⟩:=hY k2 _ _ _ j9 EK
      all_goals (simp at hy)
      all_goals gi_wp2
      all_goals refine hR.mono ?_
      all_goals rintro e W3 ⟨-,(⟨rfl,EL⟩ |⟨rfl,px⟩ |⟨ch,rfl,px⟩)⟩
      all_goals try gi_wp2
      all_goals first
       |exact⟨⟨j+1,k2+1,_,rfl,jz,congrArg (Value.int .i64) (by omega),qJ,af6,EL⟩,by simp only[tF];omega⟩
       |exact⟨rfl,Or.inr ⟨ch,rfl,px⟩⟩
       |exact⟨rfl,Or.inr ⟨⟨ch,rfl⟩,px⟩⟩
       |(refine bodyPost_ret (results_none rfl _ _ _) rfl ?_;exact .inl ⟨⟨_,rfl⟩,.inr px⟩)
    .have hb1:¬(j:Int)<(O fr:Int):=by omega
     gi_wp2
     have EM:j=O fr:=by omega
     subst EM;rw[C0] at hk2;simp only[jg,fF,fH,nO] at hk2;refine⟨⟨i+1,k2,_,rfl,by omega,rfl,hk2,VI,hJ2⟩,?_⟩;simp only[tF];omega
  .have hb1:¬(i:Int)<steps:=by omega
   gi_wp2
   go_end0
   have hz:steps.toNat-i=0:=by omega
   rw[hz] at hk;simp only[gC] at hk;have eM:O L<=k:=by
    have:=congrArg oI hk;rw[fH,wj] at this;omega
   have tq:k=O L:=by omega
   rw[tq,hL] at mK;exact .inl ⟨⟨_,rfl⟩,.inl ⟨fb,mK⟩⟩
theorem af7{γ:Gh}(x:Nat×Nat×Int×Int):cv γ #[Value.agg #[.int .i64 (x.1:Int),.int .i64 (x.2.1:Int),.int .i64 x.2.2.1,.int .i64 x.2.2.2]] (qU x):=
 ⟨rfl,λi d hd=>match i with
  | 0=>by
   simp only[qU,ey,bM] at hd;subst hd;refine .p _ _ (.agg _ _ rfl (by simp[PD.one]) λi d hd=>?_)
   match i with
   | 0=>cases hd;exact .int _ _
   | 1=>cases hd;exact .int _ _
   | 2=>cases hd;exact .int _ _
   | 3=>cases hd;exact .int _ _
   |i+4=>simp at hd
  |i+1=>by simp[qU] at hd⟩

variable {W : World} {G : Nat -> Option (List PD)}
theorem af8:r6 Tryz.prog W G 68 nA:=by
 refine⟨⟨Tryz.f68,Tryz.func68,by kernel_rfl,by kernel_rfl⟩,λfi cap H xs hg γ w la lb I tG EH=>?_⟩;unfold nA at hg;split at hg
 .rename_i c0 steps c2 fs c4 c5 c6 fr;split at hg
  .rename_i vs free hv hf;split at hg
   .rename_i hc;obtain⟨hs,dZ,nB,o0⟩:=hc;cases hg;have uI:lb= #[]:=Gc EH.1;subst uI;obtain⟨v,rfl,hv0⟩:=UJ tG;cases hv0 with
    |ro b o _ _ cs hm hr=>
     have c1:cs 1= .int .i64 steps:=(hr 1 _ rfl).1.jK;have fact:∀A,Kept W G γ H (nX (.fn 68 [.ro [c0,.int .i64 steps,c2,fs,c4,c5,c6,fr] 0] []) H) A->VH b o steps vs free (cs 3) (cs 7) A:=by
      rintro A ⟨γ',H',L,I',_⟩;refine⟨?_,I'.toInv.mem _ _ _ (L.mem _ _ _ (hm 3 (by simp))),I'.toInv.mem _ _ _ (L.mem _ _ _ (hm 7 (by simp))),?_,?_⟩
      .have:=I'.toInv.mem _ _ _ (L.mem _ _ _ (hm 1 (by simp)));rw[c1] at this;exact this
      .exact afZ ((hr 3 fs rfl).1.mono L.mem) hv I'.toInv.mem
      .exact af0 ((hr 7 fr rfl).1.mono L.mem) hf I'.toInv.mem
     generalize hL:gC vs free steps.toNat 0 (bF steps)=L at o0;refine⟨λk=>match L[k]? with |some x=>#[.agg #[.int .i64 (x.1:Int),.int .i64 (x.2.1:Int),.int .i64 x.2.2.1,.int .i64 x.2.2.2]] |none=>#[],λk x hx=>?_,λlp J X w0 hB zE hJ hT hX sx hY h0=>?_⟩
     .simp only[cG,ak] at hx;obtain⟨p,hp,rfl⟩:=hx;simp only[hp];exact⟨rfl,λγ'=>af7 p⟩
     .have h:=af3 (wr Y) 1 trivial trivial rfl (aK _) steps vs free hs dZ (λi p hp=>by
       have:=gV.1 nB p (bB hp);exact of_decide_eq_true this) L hL.symm o0 lp b o J X w0 (cs 3) (cs 7) (λk fb A hj=>fact A (zE k fb A hj)) hJ (λk fb x A hx hj=>by
       have:=hY k fb _ A (by rw[cG,hx];rfl) hj;simp only[hx] at this;exact this) h0
      rw[bT];exact qK.2 (qK.1 h)
   .cases hg
  .cases hg
 .cases hg

end Go.Proofs.YtgplgbonlnodeaaGreatDoor

namespace Go.Proofs.YtgplgbonlnodeaaGreatDoor
open Go.RowKit Go.Shelf

attribute [local go_sem] Oper.semAt_some
variable{a:Act}{body:Code}{Q:Exit->Act->World->Prop}{l:List Int}{b fid:Nat}{o:Obj}{ro:Option Nat}{P:Program}{v:Value}{w w' A B:World}
theorem sy{a:Addr}(h:w.cell? a=Z v):a.block<w.heap.size:=by
 unfold World.cell? at h;split at h
 .rename_i hb;exact(fG.1 hb).1
 .cases h
theorem iK.below(h:iK l v w)(hb:RowKit.Below w.heap.size w w'):iK l v w':=by
 obtain⟨ad,cap,rfl,dQ,hne⟩:=h;refine⟨ad,cap,rfl,dQ,λhl=>?_⟩;obtain⟨b,o,e,hc⟩:=hne hl;refine⟨b,o,e,λj x hx=>?_⟩;have:=hc j x hx;rw[hb.cell (sy this)];exact this
theorem VK(h:∀x∈l,0<=x):0<=l.sum:=by
 induction l with
 |nil=>simp
 |cons a l ih=>
  have h1:=h a (by simp);have h2:=ih λx hx=>h x (by simp[hx]);simp only[Lf];omega
theorem EN(h:∀x∈l,0<=x)(n:Nat):0<=(l.take n).sum/\(l.take n).sum<=l.sum:=by
 have h1:=VK (l:=l.take n) λx hx=>h x (jn hx);have h2:=VK (l:=l.drop n) λx hx=>h x (tT hx);have h3:(l.take n).sum+(l.drop n).sum=l.sum:=by rw[<-Rb,Aw]
 exact⟨h1,by omega⟩

theorem VL(F:Fence)(n:Nat)(EO:F.fn 173)(hro:F.round=Y)(l:List Int)(hlen:O l<4611686018427387904)(hp:∀x∈l,0<=x)(hs:l.sum<4611686018427387904)(v:Value)(w:World)(h:iK l v w):
    CallsIn F n Tryz.prog 173 #[v] w λe w'=>e= .returned (.int .i64 l.sum)/\w'=w:=by
 refine callsIn_of_wp Tryz.func173 rfl EO ?_ hro;simp only[Tryz.ntmps173,pQ,ew,fH,wk,xZ,x5,x6,x7,x8,fF,jo];have t3:=Tryz.underlying3;have a3:=Tryz.isAgg3;have z3:=Tryz.sizeOf3;have v3:=Tryz.zeroValue3;have t4:=Tryz.underlying4;have a4:=Tryz.isAgg4;have z4:=Tryz.sizeOf4;have v4:=Tryz.zeroValue4;have t28:=Tryz.underlying28;have a28:=Tryz.isAgg28;have z28:=Tryz.sizeOf28;have v28:=Tryz.zeroValue28;have u3:=run_underlying Tryz.underlying3;have u4:=run_underlying Tryz.underlying4;have u28:=run_underlying Tryz.underlying28;obtain⟨ad,cap,rfl,-,hne⟩:=h
 gi_wp2
 gi_loopw [3,5,8] (λa _ i w'=>∃j:Nat,i= .int .i64 (j:Int)/\j<=O l/\a= .int .i64 (l.take j).sum/\w'=w)
  (λ_ _ i _=>tF (O l) i)
 case atStart=>exact⟨0,rfl,bD _,rfl,rfl⟩
 case round=>
  obtain⟨j,rfl,hj,rfl,rfl⟩:=hrel;rcases fA j (O l) with hlt |kH
  .obtain⟨b,o,rfl,hc⟩:=hne (by intro e;subst e;simp at hlt);obtain⟨x,BK⟩:∃x,l[j]? =Z x:=⟨_,aD hlt⟩;have hx:=hc j x BK;clear hc hne;have hb1:(j:Int)<(O l:Int):=by omega
   have hb0:(0 :Int)<=(j:Int):=by omega
   have ht:(l.take (j+1)).sum=(l.take j).sum+x:=by
    rw[ub,BK];simp
   have h1:=EN hp j;have h2:=EN hp (j+1);have hx0:=hp x (bB BK);rw[ht] at h2;have h3:(l.take j).sum+x<4611686018427387904:=by omega
   gi_wp2
   go_roundw
   case rel=>exact⟨j+1,by simp,hlt,by rw[ht],trivial⟩
   case measure=>simp only[tF];omega
  .have hb1:¬(j:Int)<(O l:Int):=by omega
   have EM:j=O l:=by omega
   subst EM
   gi_wp2
   refine bodyPost_ret (results_tmp rfl _ _ _) rfl ?_;exact⟨rfl,rfl⟩

theorem af9(F:Fence)(n:Nat)(aga:F.fn 112)(EO:F.fn 173)(hro:F.round=Y)(hn:1<=n)(l:List Int)(hlen:O l<4611686018427387904)(hp:∀x∈l,0<=x)(hs:l.sum<4611686018427387904)(va fS:Value)(w:World)(h:iK l va w):
    CallsIn F n Tryz.prog 112 #[.agg #[va,fS]] w λe w'=>e= .returned (.int .i64 l.sum)/\RowKit.Below w.heap.size w w':=by
 refine callsIn_of_wp Tryz.func112 rfl aga ?_ hro;simp only[Tryz.ntmps112,pQ,ew,fH,wk,xZ,x5,x6,x7,x8,fF,jo];have t3:=Tryz.underlying3;have a3:=Tryz.isAgg3;have z3:=Tryz.sizeOf3;have t28:=Tryz.underlying28;have a28:=Tryz.isAgg28;have z28:=Tryz.sizeOf28;have t30:=Tryz.underlying30;have BF:=Tryz.isAgg30;have Jj:=Tryz.sizeOf30;have v3:=Tryz.zeroValue3;have v28:=Tryz.zeroValue28;have u3:=run_underlying Tryz.underlying3;have u28:=run_underlying Tryz.underlying28;have BL:=run_underlying Tryz.underlying30;have jB:=λw1 (hb:RowKit.Below w.heap.size w w1)=>VL F (n-1) EO hro l hlen hp hs va w1 (h.below hb);have hB:∀o,RowKit.Below w.heap.size w (w.alloc o):=λo=>RowKit.Below.alloc (.refl _ _) (aK _) o
 gi_wp2_with (gi_at_call 173;refine(jB _ (hB _)).mono ?_;rintro e w' ⟨rfl,rfl⟩)
 refine bodyPost_ret (results_tmp rfl _ _ _) rfl ?_;exact⟨rfl,hB _⟩

theorem agb(F:Fence)(n:Nat)(agc:F.fn 238)(EO:F.fn 173)(hro:F.round=Y)(hn:1<=n)(l:List Int)(hlen:O l<4611686018427387904)(hp:∀x∈l,0<=x)(hs:l.sum<4611686018427387904)(s:Int)(hs0:0<=s)(hs1:s<(O l:Int))(va fS:Value)(w:World)(h:iK l va w):
    CallsIn F n Tryz.prog 238 #[.agg #[va,fS],.int .i64 s] w λe w'=>e= .returned (.int .i64 (l.take s.toNat).sum)/\RowKit.Below w.heap.size w w':=by
 refine callsIn_of_wp Tryz.func238 rfl agc ?_ hro;simp only[Tryz.ntmps238,pQ,ew,fH,wk,xZ,x5,x6,x7,x8,fF,jo];have t3:=Tryz.underlying3;have a3:=Tryz.isAgg3;have z3:=Tryz.sizeOf3;have t28:=Tryz.underlying28;have a28:=Tryz.isAgg28;have z28:=Tryz.sizeOf28;have t30:=Tryz.underlying30;have BF:=Tryz.isAgg30;have Jj:=Tryz.sizeOf30;have v3:=Tryz.zeroValue3;have v28:=Tryz.zeroValue28;have u3:=run_underlying Tryz.underlying3;have u28:=run_underlying Tryz.underlying28;have BL:=run_underlying Tryz.underlying30;have hB:∀o,RowKit.Below w.heap.size w (w.alloc o):=λo=>RowKit.Below.alloc (.refl _ _) (aK _) o;obtain⟨ad,cap,rfl,dQ,hne⟩:=h;have hl0:l≠[]:=by intro e;subst e;simp at hs1;omega
 obtain⟨b,o,rfl,hc⟩:=hne hl0;have aqN:s<=(cap:Int):=by omega
 have hS:∀w1,RowKit.Below w.heap.size w w1->iK (l.take s.toNat) (.slice (Z ⟨b,o,Y⟩) s.toNat cap) w1:=λw1 hb=>by
  refine⟨_,_,by rw[kY,x9 (by omega)],by rw[kY];omega,λ_=>⟨b,o,rfl,λj x hx=>?_⟩⟩;have gz:l[j]? =Z x:=by
   rw[gL] at hx;split at hx
   .exact hx
   .cases hx
  have:=hc j x gz;rw[hb.cell (sy this)];exact this
 have BO:=EN hp s.toNat;have jB:=λw1 (hb:RowKit.Below w.heap.size w w1)=>VL F (n-1) EO hro (l.take s.toNat) (by rw[kY];omega) (λx hx=>hp x (jn hx)) (by omega) _ w1 (hS w1 hb)
 gi_wp2_with (gi_at_call 173;refine(jB _ (hB _)).mono ?_;rintro e w' ⟨rfl,rfl⟩)
 refine bodyPost_ret (results_tmp rfl _ _ _) rfl ?_;exact⟨rfl,hB _⟩

theorem agd(F:Fence)(n:Nat)(age:F.fn 178)(hro:F.round=Y)(p:Int)(va fS:Value)(ad:Option Addr)(k cap:Nat)(w:World):
    CallsIn F n Tryz.prog 178 #[.agg #[va,fS],.int .i64 p,.slice ad k cap] w λe w'=>∃c1 c2 c3,e= .returned (.func (.func 237) #[] #[.pointer (Z ⟨c1,0,Y⟩),.pointer (Z ⟨c2,0,Y⟩),.pointer (Z ⟨c3,0,Y⟩)])/\RowKit.Below w.heap.size w w'/\
     (w.heap.size<=c1/\w.heap.size<=c2/\w.heap.size<=c3)/\w'.cell? ⟨c1,0,Y⟩=Z (.slice ad k cap)/\w'.cell? ⟨c2,0,Y⟩=Z (.int .i64 p)/\w'.cell? ⟨c3,0,Y⟩=Z va/\w'.cell? ⟨c3,1,Y⟩=Z fS:=by
 refine callsIn_of_wp Tryz.func178 rfl age ?_ hro;simp only[Tryz.ntmps178,pQ,ew,fH,wk,xZ,x5,x6,x7,x8,fF,jo];have t3:=Tryz.underlying3;have a3:=Tryz.isAgg3;have z3:=Tryz.sizeOf3;have t28:=Tryz.underlying28;have a28:=Tryz.isAgg28;have z28:=Tryz.sizeOf28;have t30:=Tryz.underlying30;have BF:=Tryz.isAgg30;have Jj:=Tryz.sizeOf30;have t245:=Tryz.underlying245;have aqO:=Tryz.isAgg245;have aqP:=Tryz.sizeOf245;have t228:=Tryz.underlying228;have a228:=Tryz.isAgg228;have z228:=Tryz.sizeOf228;have v3:=Tryz.zeroValue3;have v28:=Tryz.zeroValue28;have u3:=run_underlying Tryz.underlying3;have u28:=run_underlying Tryz.underlying28;have BL:=run_underlying Tryz.underlying30;have aqQ:=run_underlying Tryz.underlying245;have aqR:=run_underlying Tryz.underlying228
 gi_wp2
 refine bodyPost_ret (results_tmp rfl _ _ _) rfl ?_;refine⟨_,_,_,rfl,RowKit.Below.alloc (RowKit.Below.alloc (RowKit.Below.alloc (.refl _ _) (aK _) _) (by simp) _) (by simp;omega) _,⟨by omega,by omega,by omega⟩,?_,?_,?_,?_⟩
 all_goals simp[go_sem]
structure Mine (fb:Nat->Prop) (A:World) (C:List (Nat×Nat×Value)) (Zx:List (Nat×Obj)):Prop where
 cells:∀x∈C,fb x.1/\A.cell? ⟨x.1,x.2.1,Y⟩=Z x.2.2
 ig:∀x∈Zx,fb x.1/\Obj.plainO x.2=true/\A.heap[x.1]? =Z x.2

section
variable{fb : Nat -> Prop}  {C C' : List (Nat × Nat × Value)} {Zx O' : List (Nat × Obj)}
theorem Mine.nil:Mine fb A [] []:=⟨λ_ h=>(iC h).elim,λ_ h=>(iC h).elim⟩
theorem Mine.app(h:Mine fb A C Zx)(h':Mine fb A C' O'):Mine fb A (C'++C) (O'++Zx):=
 ⟨λx hx=>(cx.1 hx).elim (h'.cells x) (h.cells x),λx hx=>(cx.1 hx).elim (h'.ig x) (h.ig x)⟩
theorem Mine.sub(h:Mine fb A C Zx)(hc:∀x∈C',x∈C)(ho:∀x∈O',x∈Zx):Mine fb A C' O':=
 ⟨λx hx=>h.cells x (hc x hx),λx hx=>h.ig x (ho x hx)⟩
theorem Mine.zG{fb':Nat->Prop}(h:Mine fb A C Zx)(hf:∀b,fb b->fb' b):Mine fb' A C Zx:=
 ⟨λx hx=>⟨hf _ (h.cells x hx).1,(h.cells x hx).2⟩,λx hx=>⟨hf _ (h.ig x hx).1,(h.ig x hx).2⟩⟩
theorem Mine.below(h:Mine fb A C Zx)(hb:RowKit.Below A.heap.size A B):Mine fb B C Zx:=
 ⟨λx hx=>⟨(h.cells x hx).1,by rw[hb.cell (sy (h.cells x hx).2)];exact(h.cells x hx).2⟩,
  λx hx=>⟨(h.ig x hx).1,(h.ig x hx).2.1,by rw[hb.block x.1 (fG.1 (h.ig x hx).2.2).1];exact(h.ig x hx).2.2⟩⟩
theorem Mine.stands(h:Mine fb A C Zx)(hs:∀b,fb b->ng b A B):Mine fb B C Zx:=
 ⟨λx hx=>⟨(h.cells x hx).1,by rw[(hs _ (h.cells x hx).1).1];exact(h.cells x hx).2⟩,
  λx hx=>⟨(h.ig x hx).1,(h.ig x hx).2.1,(hs _ (h.ig x hx).1).2 _ (h.ig x hx).2.2 (h.ig x hx).2.1⟩⟩
theorem Mine.turn(h:Mine fb A C Zx){o':Obj}(hb:A.heap[b]? =Z o)(ho:Obj.plainO o=true)(hn:∀x∈Zx,x.1≠b):Mine fb (A.putObj b o') C Zx:=by
 refine⟨λx hx=>⟨(h.cells x hx).1,?_⟩,λx hx=>⟨(h.ig x hx).1,(h.ig x hx).2.1,?_⟩⟩
 .have q:=(h.cells x hx).2;have hne:x.1≠b:=λe=>by
   rw[e] at q;simp only[World.cell?,hb] at q;cases o<;>first |(cases ho;done) |(simp at q)
  rw[yX (w:=A) (World.putObj_heap_other hne)];exact q
 .rw[World.putObj_heap_other (hn x hx)];exact(h.ig x hx).2.2
end
theorem agf(l:List Int)(hlen:O l<4611686018427387904)(hp:∀x∈l,0<=x)(hs:l.sum<4611686018427387904)(s:Int)(hs0:0<=s)(hs1:s<(O l:Int))(va fS:Value)(w:World)(h:iK l va w):
    Calls Tryz.prog 238 #[.agg #[va,fS],.int .i64 s] w λe w'=>e= .returned (.int .i64 (l.take s.toNat).sum)/\RowKit.Below w.heap.size w w':=
 qK.1 (agb (wr Y) 1 trivial trivial rfl (aK _) l hlen hp hs s hs0 hs1 va fS w h)
theorem agh(l:List Int)(hlen:O l<4611686018427387904)(hp:∀x∈l,0<=x)(hs:l.sum<4611686018427387904)(va fS:Value)(w:World)(h:iK l va w):
    Calls Tryz.prog 112 #[.agg #[va,fS]] w λe w'=>e= .returned (.int .i64 l.sum)/\RowKit.Below w.heap.size w w':=
 qK.1 (af9 (wr Y) 1 trivial trivial rfl (aK _) l hlen hp hs va fS w h)
theorem agi(p:Int)(va fS:Value)(ad:Option Addr)(k cap:Nat)(w:World):
    Calls Tryz.prog 178 #[.agg #[va,fS],.int .i64 p,.slice ad k cap] w λe w'=>∃c1 c2 c3,e= .returned (.func (.func 237) #[] #[.pointer (Z ⟨c1,0,Y⟩),.pointer (Z ⟨c2,0,Y⟩),.pointer (Z ⟨c3,0,Y⟩)])/\RowKit.Below w.heap.size w w'/\
     (w.heap.size<=c1/\w.heap.size<=c2/\w.heap.size<=c3)/\w'.cell? ⟨c1,0,Y⟩=Z (.slice ad k cap)/\w'.cell? ⟨c2,0,Y⟩=Z (.int .i64 p)/\w'.cell? ⟨c3,0,Y⟩=Z va/\w'.cell? ⟨c3,1,Y⟩=Z fS:=
 qK.1 (agd (wr Y) 1 trivial rfl p va fS ad k cap w)
theorem EP{B:Nat}{a:World}(h:RowKit.Below B a w):RowKit.Below B a w.drew:=⟨h.os,h.tape,h.output,h.size,h.block⟩
theorem Oy{c1 c2 c3 c4:Addr}{v1 v2 v3 v4:Value}{va:Value}{W:World}
    (h:w.cell? c1=Z v1/\w.cell? c2=Z v2/\w.cell? c3=Z v3/\w.cell? c4=Z v4/\iK l va w/\RowKit.Below W.heap.size W w) (hb:RowKit.Below w.heap.size w w'):
    w'.cell? c1=Z v1/\w'.cell? c2=Z v2/\w'.cell? c3=Z v3/\w'.cell? c4=Z v4/\iK l va w'/\RowKit.Below W.heap.size W w':=by
 obtain⟨h1,h2,h3,h4,h5,h6⟩:=h;exact⟨by rw[hb.cell (sy h1)];exact h1,by rw[hb.cell (sy h2)];exact h2,by rw[hb.cell (sy h3)];exact h3,by rw[hb.cell (sy h4)];exact h4,h5.below hb,h6.trans (hb.mono h6.size)⟩
theorem iK.tail{s:Int}{r:List Int}{sb so cap:Nat}{vw:Option Addr}(h:iK (s::r) (.slice (Z ⟨sb,so,Y⟩) (O (s::r)) cap) A)(Jk:(if cap=1 then Z (⟨sb,so,Y⟩:Addr) else Z ⟨sb,so+1,Y⟩)=vw):iK r (.slice vw (O r) (cap-1)) A:=by
 obtain⟨ad,cp,heq,hcp,hne⟩:=h;cases heq;simp only[ew] at hcp;refine⟨_,_,rfl,by omega,λhr=>?_⟩;have h1:cap≠1:=λe=>hr (sO (by omega));rw[if_neg h1] at Jk;obtain⟨b,o,heq,hc⟩:=hne (by simp);cases heq;refine⟨sb,so+1,Jk.symm,λj x hx=>?_⟩;have:=hc (j+1) x (by simpa using hx);rw[show so+1+j=so+(j+1) by omega];exact this
theorem ER{C:World}(h:ng b A B)(k:ng b B C):ng b A C:=
 ⟨λo=>(k.1 o).trans (h.1 o),λo h1 h2=>k.2 o (h.2 o h1 h2) h2⟩
theorem Oz{l:Nat}(h:b≠l):ng b A (A.putObj l o):=
 ⟨λ_=>yX (World.putObj_heap_other h) _,λ_ h1 _=>(World.putObj_heap_other h).trans h1⟩
def VM(p1 p2 p3:Nat×Nat)(ss:List Int)(p:Int)(ats:List Int)(vs va fS:Value)(w:World):Prop:=
 w.cell? ⟨p1.1,p1.2,Y⟩=Z vs/\w.cell? ⟨p2.1,p2.2,Y⟩=Z (.int .i64 p)/\w.cell? ⟨p3.1,p3.2,Y⟩=Z va/\w.cell? ⟨p3.1,p3.2+1,Y⟩=Z fS/\iK ss vs w/\iK ats va w
def Jl(t0 t1 t2 t3 t4 t5 t6:Value)(U:Nat->Value):Array Value:=#[t0,t1,t2,t3,t4,t5,t6,U 7,U 8,U 9,U 10,U 11,U 12,U 13,U 14,U 15,U 16,U 17,U 18,U 19,U 20,U 21,U 22,U 23,U 24,U 25,U 26,U 27,U 28,U 29,U 30,U 31,U 32,U 33,U 34,U 35,U 36,U 37,U 38,U 39,U 40,U 41,U 42,U 43,U 44,U 45,U 46,U 47]
theorem agk(t0 t1 t2 t3 t4 t5 t6:Value)(U:Nat->Value):Jl t0 t1 t2 t3 t4 t5 t6 U= #[t0,t1,t2,t3,t4,t5,t6,U 7,U 8,U 9,U 10,U 11,U 12,U 13,U 14,U 15,U 16,U 17,U 18,U 19,U 20,U 21,U 22,U 23,U 24,U 25,U 26,U 27,U 28,U 29,U 30,U 31,U 32,U 33,U 34,U 35,U 36,U 37,U 38,U 39,U 40,U 41,U 42,U 43,U 44,U 45,U 46,U 47]:=rfl
theorem VN{arr:Array Value}{ds:List Deferred}(h:arr.size=48):({tmps:=arr,defers:=ds}:Act)={tmps:=Jl (arr.getD 0 undef) (arr.getD 1 undef) (arr.getD 2 undef) (arr.getD 3 undef) (arr.getD 4 undef) (arr.getD 5 undef) (arr.getD 6 undef) (λi=>arr.getD i undef),defers:=ds}:=by
 have e:arr=Jl (arr.getD 0 undef) (arr.getD 1 undef) (arr.getD 2 undef) (arr.getD 3 undef) (arr.getD 4 undef) (arr.getD 5 undef) (arr.getD 6 undef) (λi=>arr.getD i undef):=by
  apply Lb
  .rw[h];rfl
  .intro i h1 h2;have hi:i<48:=by omega
   have hg:arr[i]=arr.getD i undef:=by simp[Array.getD,h1]
   rw[hg]
   match i,hi with
   | 0,_=>rfl
   | 1,_=>rfl
   | 2,_=>rfl
   | 3,_=>rfl
   | 4,_=>rfl
   | 5,_=>rfl
   | 6,_=>rfl
   | 7,_=>rfl
   | 8,_=>rfl
   | 9,_=>rfl
   | 10,_=>rfl
   | 11,_=>rfl
   | 12,_=>rfl
   | 13,_=>rfl
   | 14,_=>rfl
   | 15,_=>rfl
   | 16,_=>rfl
   | 17,_=>rfl
   | 18,_=>rfl
   | 19,_=>rfl
   | 20,_=>rfl
   | 21,_=>rfl
   | 22,_=>rfl
   | 23,_=>rfl
   | 24,_=>rfl
   | 25,_=>rfl
   | 26,_=>rfl
   | 27,_=>rfl
   | 28,_=>rfl
   | 29,_=>rfl
   | 30,_=>rfl
   | 31,_=>rfl
   | 32,_=>rfl
   | 33,_=>rfl
   | 34,_=>rfl
   | 35,_=>rfl
   | 36,_=>rfl
   | 37,_=>rfl
   | 38,_=>rfl
   | 39,_=>rfl
   | 40,_=>rfl
   | 41,_=>rfl
   | 42,_=>rfl
   | 43,_=>rfl
   | 44,_=>rfl
   | 45,_=>rfl
   | 46,_=>rfl
   | 47,_=>rfl
   |n+48,hi=>exact absurd hi (by omega)
 exact congrArg (λt=>({tmps:=t,defers:=ds}:Act)) e
theorem agl{c:Code}(h:∀Q':Exit->Act->World->Prop,(∀e a w,Q e a w->Q' e a w\/False)->c.wp P Q' a w):c.wp P Q a w:=h Q λ_ _ _ q=>.inl q
theorem agm{c:Code}{Rel:Nat->Act->World->Prop}
    (h:∀i a w,Rel i a w->gm ro fid P c (Exit.then (λa w=>∃i',i=i'+1/\Rel i' a w) Q) a w) {m:Nat}   (h0:Rel m a w):gm ro fid P (.loop c) Q a w:=by
 refine TN (m+1) λR _ hs=>?_;have key:∀i a w,Rel i a w->R (i+1) a w:=by
  intro i
  induction i with
  |zero=>
   intro a w hr;refine hs 0 a w (yU (h 0 a w hr) λe a w q=>?_);cases e with
   |normal=>obtain⟨i',e,_⟩:=q;omega
   |_=>exact q
  |succ i ih=>
   intro a w hr;refine hs (i+1) a w (yU (h (i+1) a w hr) λe a w q=>?_);cases e with
   |normal=>
    obtain⟨i',e,q⟩:=q;have :i=i':=by omega
    subst this;exact ih a w q
   |_=>exact q
 exact key m a w h0
theorem agn{g:Operand}{ps:Array Tmp}{fe:Code}{gf:Nat}{la lb:Array Value}(hg:a.eval g= .func (.func gf) la lb)(rR:Vs.Enters P gf)
    (h:∀rec:Loop,rec={state:=.ready,pending:=Y,fn:=fid,tmps:=a.tmps,params:=ps,assign:=fe,body,defers:=w.heap.size}->
     Calls P gf (la++ #[.func (.yield (w.heap.size+1)) #[] #[]]++lb) ((w.alloc (.deferred (Z []))).alloc (.loop rec)) λe B=>match e with
     | .returned _=>∃jump w4,(Instr.endLoop (w.heap.size+1)).run P B= .ok jump w4/\(match jump with
      |none=>Q .normal {a with defers:=Vs.mark w.heap.size::a.defers} w4
      |some c=>gm Y fid P c Q {a with defers:=Vs.mark w.heap.size::a.defers} w4)
     | .panicked ch=>Q (.panic ch) {a with defers:=Vs.mark w.heap.size::a.defers} B
     | .outgrown=>False):gm Y fid P (.rangeFunc g ps fe body) Q a w:=TS hg rR (h _ rfl)
theorem ago{n:Nat}{l:Nat}{f:FuncId}{tmps:Array Value}{assign:Code}{R:Ending->World->Prop}(h:RoundIn (wr Y) n P l f tmps assign body w R):RoundIn (wr ro) n P l f tmps assign body w R:=h
theorem OA{P:Program}{fn:Func}{tmps:Array Value}{R:Ending->World->Prop}{u:FrameMode}{K:World->Prop}(hu:u≠.run)(hK:∀w,K w->Leaves P fn tmps R [] u w):
    ∀(ms:List Nat) (w:World),K w->ms.Nodup->(∀m∈ms,w.heap[m]? =Z (.deferred (Z [])))->(∀w m,m∈ms->K w->w.heap[m]? =Z (.deferred (Z []))->K (w.putObj m (.deferred Y)))->pk P fn tmps R (ms.map Vs.mark) u w
 |[],w,h,_,_,_=>Bu (hK w h)
 |m::ms,w,h,hn,hm,hT=>by
  obtain⟨h1,h2⟩:=tW.1 hn;have g2:=hm m (by simp);refine .inl ⟨hu,m,w.putObj m (.deferred Y),rfl,run_takeDeferred g2,?_⟩;refine OA hu hK ms _ (hT w m (by simp) h g2) h2 (λk hk=>?_) λw k hk=>hT w k (by simp[hk]);exact(World.putObj_heap_other (λe=>h1 (by rw[<-e];exact hk))).trans (hm k (by simp[hk]))

theorem VO(ats:List Int)(nB:∀x∈ats,0<=x)(BO:ats.sum<4611686018427387904)(hlen:O ats<4611686018427387904):∀(ss:List Int),O ss<4611686018427387904->(∀s∈ss,0<=s/\s<(O ats:Int))->
    ∀(p:Int) (lp:Nat) (p1 p2 p3:Nat×Nat) (vs va fS:Value) (J:Nat->(Nat->Prop)->World->Prop) (X:Ending->World->Prop) (w0:World),
     (∀k fb A,J k fb A->VM p1 p2 p3 ss p ats vs va fS A)->
     (∀k fb A B,J k fb A->RowKit.Below A.heap.size A B->J k (λb=>fb b\/(A.heap.size<=b/\b<B.heap.size)) B)->
     (∀k fb A b o o',J k fb A->fb b->A.heap[b]? =Z o->Obj.plainO o=true->J k fb (A.putObj b o'))->(∀e A B,X e A->RowKit.Below A.heap.size A B->X e B)->
     (∀e A b o o',X e A->w0.heap.size<=b->A.heap[b]? =Z o->Obj.plainO o=true->X e (A.putObj b o'))->
     (∀k fb x A,(jt ats ss p)[k]? =Z x->J k fb A->YieldAt (wr Y) 0 Tryz.prog lp #[.int .i64 x] A λe B=>(A.heap.size<=B.heap.size/\∀b,fb b->ng b A B)/\((e= .returned (.bool true)/\J (k+1) fb B)\/(e= .returned (.bool false)/\X e B)\/∃ch,e= .panicked ch/\X e B))->
     J 0 (λ_=>False) w0->
     Calls Tryz.prog 237 #[.func (.yield lp) #[] #[],.pointer (Z ⟨p1.1,p1.2,Y⟩),.pointer (Z ⟨p2.1,p2.2,Y⟩),.pointer (Z ⟨p3.1,p3.2,Y⟩)] w0 λe B=>((∃v,e= .returned v)/\((∃fb,J (O (jt ats ss p)) fb B)\/X (.returned (.bool false)) B))\/∃ch,e= .panicked ch/\X e B
 |[],_,_,p,lp,p1,p2,p3,vs,va,fS,J,X,w0,hK,hJ,hT,hX,sx,hY,h0=>by
  have hc:CallsIn (wr Y) 1 Tryz.prog 237 #[.func (.yield lp) #[] #[],.pointer (Z ⟨p1.1,p1.2,Y⟩),.pointer (Z ⟨p2.1,p2.2,Y⟩),.pointer (Z ⟨p3.1,p3.2,Y⟩)] w0 λe B=>((∃v,e= .returned v)/\((∃fb,J (O (jt ats [] p)) fb B)\/X (.returned (.bool false)) B))\/∃ch,e= .panicked ch/\X e B:=by
   refine callsIn_of_wp Tryz.func237 rfl trivial ?_ rfl;simp only[Tryz.ntmps237,pQ,ew,fH,wk,xZ,x5,x6,x7,x8,fF,jo];have t3:=Tryz.underlying3;have a3:=Tryz.isAgg3;have z3:=Tryz.sizeOf3;have t4:=Tryz.underlying4;have a4:=Tryz.isAgg4;have z4:=Tryz.sizeOf4;have t28:=Tryz.underlying28;have a28:=Tryz.isAgg28;have z28:=Tryz.sizeOf28;have t30:=Tryz.underlying30;have BF:=Tryz.isAgg30;have Jj:=Tryz.sizeOf30;have t135:=Tryz.underlying135;have I6:=Tryz.isAgg135;have VA:=Tryz.sizeOf135;have v3:=Tryz.zeroValue3;have v4:=Tryz.zeroValue4;have v28:=Tryz.zeroValue28;have VB:=Tryz.zeroValue135;have u3:=run_underlying Tryz.underlying3;have u4:=run_underlying Tryz.underlying4;have u28:=run_underlying Tryz.underlying28;have BL:=run_underlying Tryz.underlying30;have VC:=run_underlying Tryz.underlying135;have hro:(wr Y).round=Y:=rfl;have uX:RowKit.Below w0.heap.size w0 (w0.alloc (Obj.cells #[Value.func (.yield lp) #[] #[]] 135)):=RowKit.Below.alloc (.refl _ _) (aK _) _;have BP:=hJ _ _ _ _ h0 uX;have hce:(w0.alloc (Obj.cells #[Value.func (.yield lp) #[] #[]] 135)).cell? ⟨w0.heap.size,0,Y⟩=Z (.func (.yield lp) #[] #[]):=by simp[go_sem]
   obtain⟨q1,q2,q3,q4,⟨ad,cap,rfl,dQ,hne⟩,q6⟩:=hK _ _ _ BP;clear hne q6 q3 q4;obtain⟨fn,tmps,assign,body,hy,hR⟩:=hY 0 _ p _ rfl BP
   gi_wp2
   refine hR.mono ?_;rintro e W3 ⟨-,(⟨rfl,hJ3⟩ |⟨rfl,px⟩ |⟨ch,rfl,px⟩)⟩
   .gi_wp2
    refine bodyPost_ret (results_none rfl _ _ _) rfl ?_;exact .inl ⟨⟨_,rfl⟩,.inl ⟨_,hJ3⟩⟩
   .gi_wp2
    refine bodyPost_ret (results_none rfl _ _ _) rfl ?_;exact .inl ⟨⟨_,rfl⟩,.inr px⟩
   .gi_wp2
    first
     |exact⟨rfl,Or.inr ⟨ch,rfl,px⟩⟩
     |exact⟨rfl,Or.inr ⟨⟨ch,rfl⟩,px⟩⟩
  exact qK.1 hc
 |s::r,bW,vx,p,lp,p1,p2,p3,vs,va,fS,J,X,w0,hK,hJ,hT,hX,sx,hY,h0=>by
  have IH:=VO ats nB BO hlen r (by simp at bW;omega) (λs hs=>vx s (by simp[hs]));obtain⟨hs0,hs1⟩:=vx s (by simp);refine NB Tryz.func237 rfl ?_;simp only[Tryz.ntmps237,pQ,ew,fH,wk,xZ,x5,x6,x7,x8,fF,jo];have t3:=Tryz.underlying3;have a3:=Tryz.isAgg3;have z3:=Tryz.sizeOf3;have t4:=Tryz.underlying4;have a4:=Tryz.isAgg4;have z4:=Tryz.sizeOf4;have t28:=Tryz.underlying28;have a28:=Tryz.isAgg28;have z28:=Tryz.sizeOf28;have t30:=Tryz.underlying30;have BF:=Tryz.isAgg30;have Jj:=Tryz.sizeOf30;have t135:=Tryz.underlying135;have I6:=Tryz.isAgg135;have VA:=Tryz.sizeOf135;have v3:=Tryz.zeroValue3;have v4:=Tryz.zeroValue4;have v28:=Tryz.zeroValue28;have VB:=Tryz.zeroValue135;have u3:=run_underlying Tryz.underlying3;have u4:=run_underlying Tryz.underlying4;have u28:=run_underlying Tryz.underlying28;have BL:=run_underlying Tryz.underlying30;have VC:=run_underlying Tryz.underlying135;have uX:RowKit.Below w0.heap.size w0 (w0.alloc (Obj.cells #[Value.func (.yield lp) #[] #[]] 135)):=RowKit.Below.alloc (.refl _ _) (aK _) _;have BP:=hJ _ _ _ _ h0 uX;have hce:(w0.alloc (Obj.cells #[Value.func (.yield lp) #[] #[]] 135)).cell? ⟨w0.heap.size,0,Y⟩=Z (.func (.yield lp) #[] #[]):=by simp[go_sem]
  generalize hQ:ve Tryz.prog Tryz.f237 (λe B=>((∃v,e=Ending.returned v)/\((∃fb,J (O (jt ats (s::r) p)) fb B)\/X (Ending.returned (Value.bool false)) B))\/∃ch,e=Ending.panicked ch/\X e B)=Q;refine tz (vd ?_)
  go_wp2
  have agp:w0.heap.size<(w0.alloc (Obj.cells #[Value.func (.yield lp) #[] #[]] 135)).heap.size:=by simp
  have VP:Mine (λb=>False\/(w0.heap.size<=b/\b<(w0.alloc (Obj.cells #[Value.func (.yield lp) #[] #[]] 135)).heap.size)) (w0.alloc (Obj.cells #[Value.func (.yield lp) #[] #[]] 135)) [(w0.heap.size,0,.func (.yield lp) #[] #[])] []:=
   ⟨λx hx=>by rw[nT] at hx;subst hx;exact⟨.inr ⟨aK _,agp⟩,hce⟩,λx hx=>(iC hx).elim⟩
  have agq:=uX.size;generalize w0.alloc (Obj.cells #[Value.func (.yield lp) #[] #[]] 135)=W1 at *;generalize (λb=>False\/(w0.heap.size<=b/\b<W1.heap.size))=VQ at *;obtain⟨q1,q2,q3,q4,q5,q6⟩:=hK _ _ _ BP;obtain⟨ad,cap,rfl,dQ,hne⟩:=q5;obtain⟨sb,so,rfl,hsc⟩:=hne (by simp);have hs:=hsc 0 s rfl;rw[nO] at hs;have qD:(0 :Int)<(O (s::r):Int):=by simp
  clear hsc hne;refine tz (vd ?_)
  go_wp2
  have VR:RowKit.Below W1.heap.size W1 W1:=.refl _ _;refine tz (vd ?_)
  go_region_held3 (λw'=>w'.cell? ⟨p1.1,p1.2,Y⟩=Z (.slice (Z ⟨sb,so,Y⟩) (O (s::r)) cap)/\w'.cell? ⟨p3.1,p3.2,Y⟩=Z va/\w'.cell? ⟨p3.1,p3.2+1,Y⟩=Z fS/\w'.cell? ⟨sb,so,Y⟩=Z (.int .i64 s)/\iK ats va w'/\RowKit.Below W1.heap.size W1 w')
   (first
    |exact⟨q1,q3,q4,hs,q6,EP (.refl _ _)⟩
    |(refine Oy ⟨q1,q3,q4,hs,q6,VR⟩ (RowKit.Below.trans (EP (.refl _ W1)) ?_);assumption))
   ((go_at_call 238;refine(agf ats hlen nB BO s hs0 hs1 va fS _ (by assumption)).mono ?_;rintro e w2 ⟨rfl,hb2⟩))
  have Jm:RowKit.Below W1.heap.size W1 w2:=(EP (.refl _ W1)).trans hb2;have hJ2:=hJ _ _ _ _ BP Jm;have DN:=(VP.below Jm).zG (fb':=λb=>VQ b\/(W1.heap.size<=b/\b<w2.heap.size)) λb h=>.inl h;have agr:w0.heap.size<=w2.heap.size:=fW agq Jm.size;generalize (λb=>VQ b\/(W1.heap.size<=b/\b<w2.heap.size))=BM at hJ2 DN;rename_i hHeld;clear hHeld hb2 Jm VR hs q1 q2 q3 q4 q6 VP BP hce uX;refine tz (vd ?_)
  go_wp2
  refine yV ?_;obtain⟨x,hx⟩:∃x,ats[s.toNat]? =Z x:=⟨_,aD (by omega)⟩;have hx0:0<=x:=nB x (bB hx);have hgx:ats.getD s.toNat 0=x:=by simp[aoK,hx]
  obtain⟨f,hf⟩:∃f,(rE s.toNat ats).sum=f:=⟨_,rfl⟩;have Jn:0<=f/\f+x<4611686018427387904:=by
   have h1:=EN nB s.toNat;have h2:=EN nB (s.toNat+1);rw[ub,hx] at h2;simp only[Rb,Option.toList_some,Lf,List.sum_nil] at h2;omega
  obtain⟨L,hL⟩:∃L,jt ats (s::r) p=L:=⟨_,rfl⟩;have OB:(j3 x.toNat).flatMap (fun(j:Nat)=>jt ats r (IntKind.i64.wrap (IntKind.i64.wrap (p*ats.sum)+(f+(j:Int)))))=L:=by
   rw[<-hL,jt,hgx,hf]
  rw[hL] at hQ hY;have VS:∀(tm:Array Value) (w:World),((∃fb,J (O L) fb w)\/X (.returned (.bool false)) w)->Leaves Tryz.prog Tryz.f237 tm (λe B=>((∃v,e=Ending.returned v)/\((∃fb,J (O L) fb B)\/X (Ending.returned (Value.bool false)) B))\/∃ch,e=Ending.panicked ch/\X e B) [] .returning w:=λtm w hw=>by
   show ∃v,(results Tryz.f237 tm).run Tryz.prog w= .ok v w/\_;exact⟨_,results_none rfl _ _ _,.inl ⟨⟨_,rfl⟩,hw⟩⟩
  have VT:∀ch (tm:Array Value) (w:World),X (.panicked ch) w->Leaves Tryz.prog Tryz.f237 tm (λe B=>((∃v,e=Ending.returned v)/\((∃fb,J (O L) fb B)\/X (Ending.returned (Value.bool false)) B))\/∃ch,e=Ending.panicked ch/\X e B) [] (.panicking ch) w:=λch tm w hw=>by
   show _\/_;exact .inr ⟨ch,rfl,hw⟩
  have OC:∀(e:Exit),(e= .normal\/e= .ret)->∀(tm:Array Value) (ms:List Nat) (A:World),ms.Nodup->(∀m∈ms,w0.heap.size<=m/\A.heap[m]? =Z (.deferred (Z [])))->((∃fb,J (O L) fb A/\∀m∈ms,fb m)\/X (.returned (.bool false)) A)->Q e {tmps:=tm,defers:=ms.map Vs.mark} A:=by
   intro e he tm ms A gA jL OD;rw[<-hQ];have key:pk Tryz.prog Tryz.f237 tm (λe B=>((∃v,e=Ending.returned v)/\((∃fb,J (O L) fb B)\/X (Ending.returned (Value.bool false)) B))\/∃ch,e=Ending.panicked ch/\X e B) (ms.map Vs.mark) .returning A:=by
    refine OA (K:=λw=>(∃fb,J (O L) fb w/\∀m∈ms,fb m)\/X (.returned (.bool false)) w) (by simp) (λw hw=>VS tm w (hw.imp (λ⟨fb,h,_⟩=>⟨fb,h⟩) id)) ms A OD gA (λm hm=>(jL m hm).2) λw m hm hw hh=>?_;rcases hw with⟨fb,h1,h2⟩ |h1
    .exact .inl ⟨fb,hT _ _ _ _ _ _ h1 (h2 m hm) hh rfl,h2⟩
    .exact .inr (sx _ _ _ _ _ h1 (jL m hm).1 hh rfl)
   rcases he with rfl |rfl
   .exact key
   .exact key
  have VU:∀ch (tm:Array Value) (ms:List Nat) (A:World),ms.Nodup->(∀m∈ms,w0.heap.size<=m/\A.heap[m]? =Z (.deferred (Z [])))->X (.panicked ch) A->Q (.panic ch) {tmps:=tm,defers:=ms.map Vs.mark} A:=by
   intro ch tm ms A gA jL OD;rw[<-hQ];show pk Tryz.prog Tryz.f237 tm _ (ms.map Vs.mark) (.panicking ch) A;exact OA (K:=λw=>X (.panicked ch) w) (by simp) (λw hw=>VT ch tm w hw) ms A OD gA (λm hm=>(jL m hm).2) λw m hm hw hh=>sx _ _ _ _ _ hw (jL m hm).1 hh rfl
  rw[hf];refine agm (Rel:=λi a A=>∃(j k:Nat) (fb:Nat->Prop) (ms:List Nat) (U:Nat->Value),i+j=x.toNat/\
      a={tmps:=Jl (.func (.yield lp) #[] #[]) (.pointer (Z ⟨p1.1,p1.2,Y⟩)) (.pointer (Z ⟨p2.1,p2.2,Y⟩)) (.pointer (Z ⟨p3.1,p3.2,Y⟩)) (.pointer (Z ⟨w0.heap.size,0,Y⟩)) (.int .i64 f) (.int .i64 (f+(j:Int))) U,defers:=ms.map Vs.mark}/\
      ((j3 x.toNat).drop j).flatMap (fun(j:Nat)=>jt ats r (IntKind.i64.wrap (IntKind.i64.wrap (p*ats.sum)+(f+(j:Int)))))=L.drop k/\k<=O L/\J k fb A/\Mine fb A [(w0.heap.size,0,.func (.yield lp) #[] #[])] (ms.map λm=>(m,.deferred (Z [])))/\ms.Nodup/\(∀m∈ms,w0.heap.size<=m)/\w0.heap.size<=A.heap.size) (m:=x.toNat) ?_ ?_
  .rintro i a A ⟨j,k,fb,ms,U,cI,rfl,hk,EG,mK,Jo,gA,zh,OE⟩;rw[agk];obtain⟨q1,q2,q3,q4,q5,q6⟩:=hK k fb A mK;obtain⟨ada,BQ,rfl,aqT,VV⟩:=q6;obtain⟨ab,ao,rfl,wY⟩:=VV (by intro e;subst e;simp at hx);have hxc:=wY _ _ hx;obtain⟨ad5,aqV,heq,-,VW⟩:=q5;cases heq;obtain⟨b5,o5,heq,hsc⟩:=VW (by simp);cases heq;have hs:=hsc 0 s rfl;rw[nO] at hs;clear hsc VW VV wY;refine tz (vd ?_);rcases fA j x.toNat with hlt |kH
   .have jO:(j:Int)<x:=by omega
    have hl2:f+(j:Int)<f+x:=by omega
    have D3:f+x<4611686018427387904:=Jn.2;have hl4:0<=f:=Jn.1;have rM:IntKind.i64.wrap (f+x)=f+x:=IntWalk.i64_in _ (by omega)
    go_wp2
    go_quiet (fail)
    clear rM
    go_wp2
    have hJ3:=hJ _ _ _ _ mK (below_drewN (.refl _ A) nq);have OG:=(Jo.below (below_drewN (.refl _ A) nq)).zG (fb':=λb=>fb b\/(A.heap.size<=b/\b<(A.drewN nq).heap.size)) λb h=>.inl h;have hA1:w0.heap.size<=(A.drewN nq).heap.size:=OE;generalize (λb=>fb b\/(A.heap.size<=b/\b<(A.drewN nq).heap.size))=EJ at hJ3 OG;generalize A.drewN nq=A1 at *;clear q1 q2 q3 q4 hs hxc mK Jo;obtain⟨q1,q2,q3,q4,q5,q6⟩:=hK k EJ A1 hJ3;have agu:(O r:Int)+1<=(cap:Int):=by simp at dQ;omega
    have agv:(1 :Int)<=(O r:Int)+1:=by omega
    have agw:(0 :Int)<=(O r:Int)+1:=by omega
    have agx:(1 :Int)<=(cap:Int):=by omega
    obtain⟨vw,Jk⟩:∃vw,(if cap=1 then Z (⟨sb,so,Y⟩:Addr) else Z ⟨sb,so+1,Y⟩)=vw:=⟨_,rfl⟩;refine tz (yV (tz (vd ?_)))
    go_region_held3 (λw'=>w'.cell? ⟨p1.1,p1.2,Y⟩=Z (.slice (Z ⟨sb,so,Y⟩) (O (s::r)) cap)/\w'.cell? ⟨p3.1,p3.2,Y⟩=Z (.slice (Z ⟨ab,ao,Y⟩) (O ats) BQ)/\w'.cell? ⟨p3.1,p3.2+1,Y⟩=Z fS/\w'.cell? ⟨p2.1,p2.2,Y⟩=Z (.int .i64 p)/\iK ats (.slice (Z ⟨ab,ao,Y⟩) (O ats) BQ) w'/\RowKit.Below A1.heap.size A1 w')
     (first
      |exact⟨q1,q3,q4,q2,q6,EP (.refl _ _)⟩
      |(refine Oy ⟨q1,q3,q4,q2,q6,.refl _ _⟩ (RowKit.Below.trans (EP (.refl _ A1)) ?_);assumption)
      |(refine Oy (by assumption) ?_;assumption))
     ((first
      |(go_at_call 112;refine(agh ats hlen nB BO _ fS _ (by assumption)).mono ?_;rintro e w3 ⟨rfl,hb3⟩)
      |(go_at_call 178;refine(agi _ _ fS _ _ _ _).mono ?_;rintro e w4 ⟨c1,c2,c3,rfl,hb4,hc4,g1,g2,g3,g4⟩)))
    rename_i hHeld;obtain⟨-,-,-,-,-,Jp⟩:=hHeld;clear agu agv agw agx jO hl2 D3 hl4 q1 q2 q3 q4;obtain⟨p',yn⟩:∃p',IntKind.i64.wrap (IntKind.i64.wrap (p*ats.sum)+(f+(j:Int)))=p':=⟨_,rfl⟩;rw[yn] at g2|-;have ES:A1.heap.size<=c1/\A1.heap.size<=c2/\A1.heap.size<=c3:=by
     have:=hb3.size;have e:A1.drew.heap.size=A1.heap.size:=rfl;omega
    have EK:=hJ _ _ _ _ hJ3 Jp;have BR:=(OG.below Jp).zG (fb':=λb=>EJ b\/(A1.heap.size<=b/\b<w4.heap.size)) λb h=>.inl h;have VX:Mine (λb=>EJ b\/(A1.heap.size<=b/\b<w4.heap.size)) w4 [(c1,0,Value.slice vw (O r) (cap-1)),(c2,0,.int .i64 p'),(c3,0,Value.slice (Z ⟨ab,ao,Y⟩) (O ats) BQ),(c3,1,fS)] []:=by
     refine⟨λx hx=>?_,λx hx=>(iC hx).elim⟩;simp only[cq,iC,or_false] at hx;rcases hx with rfl |rfl |rfl |rfl
     .exact⟨.inr ⟨ES.1,sy g1⟩,g1⟩
     .exact⟨.inr ⟨ES.2.1,sy g2⟩,g2⟩
     .exact⟨.inr ⟨ES.2.2,sy g3⟩,g3⟩
     .exact⟨.inr ⟨ES.2.2,sy g4⟩,g4⟩
    have BR:=BR.app VX;have VY:w0.heap.size<=w4.heap.size:=fW hA1 Jp.size;generalize (λb=>EJ b\/(A1.heap.size<=b/\b<w4.heap.size))=OH at EK BR;clear VX OG hJ3 hb3 hb4 Jp hc4 ES g1 g2 g3 g4 q5 q6;refine yV (agn rfl ⟨Tryz.f237,Tryz.func237,by kernel_rfl,by kernel_rfl⟩ λrec jF=>?_);obtain⟨W5,BS⟩:∃W5,(w4.alloc (.deferred (Z []))).alloc (.loop rec)=W5:=⟨_,rfl⟩;have VZ:W5.heap[w4.heap.size+1]? =Z (.loop rec):=by
     rw[<-BS];have:=World.alloc_heap_new (w4.alloc (.deferred (Z []))) (.loop rec);rwa [World.size_alloc] at this
    have V0:W5.heap[w4.heap.size]? =Z (.deferred (Z [])):=by
     rw[<-BS];exact(RowKit.Below.heap_alloc _ _ _ (by simp)).trans (World.alloc_heap_new w4 _)
    have OI:RowKit.Below w4.heap.size w4 W5:=by
     rw[<-BS];exact((RowKit.Below.refl _ w4).alloc (aK _) _).alloc (by simp) _
    have hs5:W5.heap.size=w4.heap.size+2:=by rw[<-BS];simp
    rw[BS];clear BS;have EL:=hJ _ _ _ _ EK OI;have xj:=(BR.below OI).zG (fb':=λb=>OH b\/(w4.heap.size<=b/\b<W5.heap.size)) λb h=>.inl h;have OJ:∀m∈ms,m<w4.heap.size:=λm hm=>(fG.1 (BR.ig (m,.deferred (Z [])) (by simp only[cx,cA];exact .inr ⟨m,hm,rfl⟩)).2.2).1;have V1:Mine (λb=>OH b\/(w4.heap.size<=b/\b<W5.heap.size)) W5 [] [(w4.heap.size+1,.loop rec),(w4.heap.size,.deferred (Z []))]:=by
     refine⟨λx hx=>(iC hx).elim,λx hx=>?_⟩;simp only[cq,iC,or_false] at hx;rcases hx with rfl |rfl
     .exact⟨.inr ⟨by omega,by omega⟩,rfl,VZ⟩
     .exact⟨.inr ⟨by omega,by omega⟩,rfl,V0⟩
    have xj:=xj.app V1;generalize (λb=>OH b\/(w4.heap.size<=b/\b<W5.heap.size))=fb5 at EL xj;clear V1 BR EK OI VZ V0;simp only[fF,jo] at xj;obtain⟨l,hl⟩:∃l,w4.heap.size+1=l:=⟨_,rfl⟩;obtain⟨mk,qQ⟩:∃mk,w4.heap.size=mk:=⟨_,rfl⟩;rw[qQ] at jF OJ VY;rw[hl,qQ] at xj|-;have dN:mk+1=l:=by omega
    have hs5:W5.heap.size=mk+2:=by omega
    clear hl qQ;obtain⟨C5,zH⟩:∃C5,[(c1,0,Value.slice vw (O r) (cap-1)),(c2,0,.int .i64 p'),(c3,0,Value.slice (Z ⟨ab,ao,Y⟩) (O ats) BQ),(c3,1,fS),(w0.heap.size,0,.func (.yield lp) #[] #[])]=C5:=⟨_,rfl⟩;obtain⟨O5,OL⟩:∃O5:List (Nat×Obj),(mk,.deferred (Z []))::ms.map (λm=>(m,.deferred (Z [])))=O5:=⟨_,rfl⟩;rw[zH,OL] at xj;have zJ:∀x∈O5,x.1≠l/\x.1<W5.heap.size:=by
     intro x hx;rw[<-OL] at hx;rcases cq.1 hx with rfl |hx
     .exact⟨by show mk≠l;omega,by show mk<_;omega⟩
     .obtain⟨m,hm,rfl⟩:=cA.1 hx;have:=OJ m hm;exact⟨by show m≠l;omega,by show m<_;omega⟩
    obtain⟨L',OM⟩:∃L',jt ats r p'=L':=⟨_,rfl⟩;obtain⟨rest,uL⟩:∃rest,((j3 x.toNat).drop (j+1)).flatMap (fun(j:Nat)=>jt ats r (IntKind.i64.wrap (IntKind.i64.wrap (p*ats.sum)+(f+(j:Int)))))=rest:=⟨_,rfl⟩;have OO:L'++rest=L.drop k:=by
     have hd:(j3 x.toNat).drop j=j::(j3 x.toNat).drop (j+1):=by
      rw[CZ (by simpa using hlt)];simp
     rw[<-hk,hd,sP,uL,yn,OM]
    have hLk:∀k' y,L'[k']? =Z y->L[k+k']? =Z y:=λk' y hy=>by
     have h1:(L.drop k)[k']? =Z y:=by
      rw[<-OO,aT (af.1 hy).1];exact hy
     rwa [lN] at h1
    have GV:=IH p' l (c1,0) (c2,0) (c3,0) (.slice vw (O r) (cap-1)) (.slice (Z ⟨ab,ao,Y⟩) (O ats) BQ) fS
     (λk' fb' A=>∃fb,J (k+k') fb A/\(∀b,fb' b->fb b/\W5.heap.size<=b)/\Mine fb A C5 ((l,.loop rec)::O5))
     (λe B=>X e B/\Mine (λ_=>True) B [] O5/\l<B.heap.size/\∀v,e= .returned v->B.heap[l]? =Z (.loop {rec with state:=.done,pending:=Z .ret}))
     W5 ?_ ?_ ?_ ?_ ?_ ?_ ?_
    .have OP:(mk::ms).Nodup:=tW.2 ⟨λh=>by have:=OJ mk h;omega,gA⟩;have OQ:∀m∈mk::ms,w0.heap.size<=m:=λm hm=>by
      rcases cq.1 hm with rfl |hm
      .exact VY
      .exact zh m hm
     have OS:∀m∈mk::ms,(m,Obj.deferred (Z []))∈O5:=λm hm=>by
      rw[<-OL];rcases cq.1 hm with rfl |hm
      .exact rD
      .exact kA _ (cA.2 ⟨m,hm,rfl⟩)
     refine Calls.mono GV ?_;rintro e B (⟨⟨v,rfl⟩,⟨fb',fb,hj,jR,hm⟩ |⟨x1,x2,x3,x4⟩⟩ |⟨ch,rfl,x1,x2,x3,x4⟩)
     .have Jq:B.heap[l]? =Z (.loop rec):=(hm.ig (l,.loop rec) (by simp)).2.2;have he:=run_endLoop (P:=Tryz.prog) Jq (by rw[jF];simp);have hpd:rec.pending=Y:=by rw[jF]
      rw[hpd] at he;have dZ:fb l:=(hm.ig (l,.loop rec) (by simp)).1;rw[OM] at hj;have V5:=hT _ _ _ l _ (.loop {rec with state:=.exhausted,pending:=Y}) hj dZ Jq rfl;have V6:Mine fb (B.putObj l (.loop {rec with state:=.exhausted,pending:=Y})) C5 O5:=(hm.sub (C':=C5) (O':=O5) (λ_ h=>h) (λ_ h=>kA _ h)).turn Jq rfl λx hx=>(zJ x hx).1;have hlt:l<B.heap.size:=(fG.1 Jq).1;have V7:w0.heap.size<=(B.putObj l (.loop {rec with state:=.exhausted,pending:=Y})).heap.size:=by rw[World.putObj_size];omega
      refine⟨Y,_,he,?_⟩;show gm Y 237 Tryz.prog _ _ _ _;generalize B.putObj l (.loop {rec with state:=.exhausted,pending:=Y})=B1 at V5 V6 V7;refine vd ?_;dsimp only;have hw9:f+(j:Int)+1<4611686018427387904:=by have:=Jn.2;omega
      have hw8:0<=f+(j:Int):=by have:=Jn.1;omega
      have V8:IntKind.i64.wrap (f+(j:Int)+1)=f+(j:Int)+1:=IntWalk.i64_in _ (by omega);refine agl λPQ hPQ=>?_
      go_wp2
      have e0:f+((j+1 :Nat):Int)=f+(j:Int)+1:=by omega
      have ny:rest=L.drop (k+O L'):=by
       have:=congrArg (List.drop (O L')) OO;rw[Z8 (aK _),C0,fF,CS] at this;exact this
      have eM:k+O L'<=O L:=by
       have:=congrArg oI OO;rw[gG,wj] at this;omega
      refine(hPQ .normal _ _ ?_).resolve_right id;refine⟨i-1,by omega,j+1,k+O L',fb,mk::ms,_,by omega,(by rw[e0];exact VN rfl),(by rw[uL];exact ny),eM,V5,V6.sub (λy hy=>?_) (λy hy=>?_),OP,OQ,V7⟩
      .rw[nT] at hy;subst hy;rw[<-zH];simp
      .obtain⟨m,hm,rfl⟩:=cA.1 hy;exact OS m hm
     .have he:=run_endLoop (P:=Tryz.prog) (x4 _ rfl) (by simp);refine⟨Z .ret,_,he,?_⟩;refine o7 (wpIn_ret ?_);have x2':=x2.turn (b:=l) (o':=.loop {rec with state:=.exhausted,pending:=Z .ret}) (x4 _ rfl) rfl λx hx=>(zJ x hx).1;exact OC .ret (.inr rfl) _ (mk::ms) _ OP (λm hm=>⟨OQ m hm,(x2'.ig _ (OS m hm)).2.2⟩) (.inr (sx _ _ _ _ _ x1 (by omega) (x4 _ rfl) rfl))
     .exact VU ch _ (mk::ms) _ OP (λm hm=>⟨OQ m hm,(x2.ig _ (OS m hm)).2.2⟩) x1
    .rintro k' fb' B ⟨fb,hj,jR,hm⟩;have hat:=hK _ _ _ hj;obtain⟨z1,z2,z3,z4,z5,z6⟩:=hat;refine⟨?_,?_,?_,?_,z5.tail Jk,z6⟩
     .exact(hm.cells (c1,0,Value.slice vw (O r) (cap-1)) (by rw[<-zH];simp)).2
     .exact(hm.cells (c2,0,.int .i64 p') (by rw[<-zH];simp)).2
     .exact(hm.cells (c3,0,Value.slice (Z ⟨ab,ao,Y⟩) (O ats) BQ) (by rw[<-zH];simp)).2
     .exact(hm.cells (c3,1,fS) (by rw[<-zH];simp)).2
    .rintro k' fb' B B' ⟨fb,hj,jR,hm⟩ hb;have hsz:W5.heap.size<=B.heap.size:=by
      have h1:=(fG.1 (hm.ig (l,.loop rec) (by simp)).2.2).1;have h1:l<B.heap.size:=h1;omega
     exact⟨_,hJ _ _ _ _ hj hb,λb h=>h.elim (λh=>⟨.inl (jR b h).1,(jR b h).2⟩) (λh=>⟨.inr h,by omega⟩),(hm.below hb).zG λb h=>.inl h⟩
    .rintro k' fb' B b o o' ⟨fb,hj,jR,hm⟩ hb ho hpl;obtain⟨hb1,hb2⟩:=jR b hb;refine⟨fb,hT _ _ _ _ _ _ hj hb1 ho hpl,jR,hm.turn ho hpl λx hx=>?_⟩;rcases cq.1 hx with rfl |hx
     .show l≠b;omega
     .have:=(zJ x hx).2;omega
    .rintro e B B' ⟨h1,h2,h3,h4⟩ hb;exact⟨hX _ _ _ h1 hb,h2.below hb,vZ h3 hb.size,λv hv=>(hb.block l h3).trans (h4 v hv)⟩
    .rintro e B b o o' ⟨h1,h2,h3,h4⟩ hb ho hpl;refine⟨sx _ _ _ _ _ h1 (by omega) ho hpl,h2.turn ho hpl λx hx=>?_,by rw[World.putObj_size];exact h3,λv hv=>(World.putObj_heap_other (by omega)).trans (h4 v hv)⟩;have:=(zJ x hx).2;omega
    .rintro k' fb' y A hy ⟨fb,hj,jR,hm⟩;have ET:A.heap[l]? =Z (.loop rec):=(hm.ig (l,.loop rec) (by simp)).2.2;have dZ:fb l:=(hm.ig (l,.loop rec) (by simp)).1;have V9:=run_yield (P:=Tryz.prog) (args:=#[.int .i64 y]) ET (by rw[jF];rfl);have hbr:=run_beginRound (P:=Tryz.prog) ET (by rw[jF]);have Wa:=hT _ _ _ l _ (.loop {rec with state:=.busy}) hj dZ ET rfl;have EU:Mine fb (A.putObj l (.loop {rec with state:=.busy})) C5 O5:=(hm.sub (C':=C5) (O':=O5) (λ_ h=>h) (λ_ h=>kA _ h)).turn ET rfl λx hx=>(zJ x hx).1;have tH:(A.putObj l (.loop {rec with state:=.busy})).heap[l]? =Z (.loop {rec with state:=.busy}):=World.putObj_heap_same (fG.1 ET).1;have hs6:(A.putObj l (.loop {rec with state:=.busy})).heap.size=A.heap.size:=World.putObj_size;have OT:∀b,fb' b->ng b A (A.putObj l (.loop {rec with state:=.busy})):=λb hb=>Oz (by have:=(jR b hb).2;omega);have aqZ:(A.putObj l (.loop {rec with state:=.busy})).cell? ⟨w0.heap.size,0,Y⟩=Z (.func (.yield lp) #[] #[]):=(EU.cells (w0.heap.size,0,.func (.yield lp) #[] #[]) (by rw[<-zH];simp)).2;obtain⟨fn,tmps,assign,body,hy2,BU⟩:=hY (k+k') fb y _ (hLk k' y (by rw[<-OM];exact hy)) Wa;have agE:∀R:Ending->World->Prop,
         (∀W7,A.heap.size<=W7.heap.size->(∀b,fb b->ng b (A.putObj l (.loop {rec with state:=.busy})) W7)->J (k+k'+1) fb W7->R (.returned (.bool true)) (W7.putObj l (.loop rec)))->
         (∀W7,A.heap.size<=W7.heap.size->(∀b,fb b->ng b (A.putObj l (.loop {rec with state:=.busy})) W7)->X (.returned (.bool false)) W7->R (.returned (.bool false)) (W7.putObj l (.loop {rec with state:=.done,pending:=Z .ret})))->
         (∀ch W7,A.heap.size<=W7.heap.size->(∀b,fb b->ng b (A.putObj l (.loop {rec with state:=.busy})) W7)->X (.panicked ch) W7->R (.panicked ch) W7)->
         gm (Z l) rec.fn Tryz.prog rec.assign (Exit.then (λa₁ w₁=>∃w₂,(Instr.beginRound l).run Tryz.prog w₁= .ok () w₂/\gm (Z l) rec.fn Tryz.prog rec.body (roundEnd Tryz.prog l R) a₁ w₂) (λ_ _ _=>False))
          {tmps:=(rec.params.zip #[.int .i64 y]).foldl (λtmps (t,a)=>tmps.setIfInBounds t a) rec.tmps,defers:=[]} A:=by
      intro R h1 h2 h3;have hro:(wr (Z l)).round=Z l:=rfl;have e0:=congrArg Loop.fn jF;have e1:=congrArg Loop.assign jF;have e2:=congrArg Loop.body jF;have e3:=congrArg Loop.params jF;have e4:=congrArg Loop.tmps jF;dsimp only at e0 e1 e2 e3 e4;rw[e0,e1,e2,e3,e4];have uE:({rec with state:=.ready,pending:=Y}:Loop)=rec:=by rw[jF]
      clear e0 e1 e2 e3 e4 jF V9 hY hJ hT hX sx IH OC VU VS VT hK EL xj Wa EU hm hj;generalize A.putObj l (.loop {rec with state:=.busy})=W6 at *;rw[show(#[43]:Array Nat).zip #[Value.int .i64 y]= #[(43,Value.int .i64 y)] from by first |(simp;done) |kernel_rfl |(apply Lb<;>simp)];simp only[List.foldl_toArray',tU,List.foldl_nil,pQ,List.setIfInBounds_toArray,List.set_cons_succ,List.set_cons_zero];refine o7 ?_
      gi_wp2
      refine⟨_,hbr,?_⟩;refine yV (o7 ?_);have Jr:=ago (ro:=Z l) BU
      gi_wp2
      refine⟨rfl,Jr.mono ?_⟩;rintro e W7 ⟨⟨hs7,Js⟩,hW7⟩;have vy:=(Js l dZ).2 _ tH rfl;rcases hW7 with⟨rfl,hJ7⟩ |⟨rfl,OU⟩ |⟨ch,rfl,OU⟩
      .gi_wp2
       have hend:=run_endRound (P:=Tryz.prog) Y vy;dsimp only[Option.isNone_none] at hend;rw[if_pos rfl,uE] at hend;exact⟨_,_,hend,h1 W7 (by omega) Js hJ7⟩
      .gi_wp2
       exact⟨_,_,run_endRound (P:=Tryz.prog) (Z .ret) vy,h2 W7 (by omega) Js OU⟩
      .gi_wp2
       exact⟨rfl,h3 ch W7 (by omega) Js OU⟩
     refine⟨_,_,_,_,V9,TP (fnc:=Tryz.f237) (by rw[jF];exact Tryz.func237) (agE _ ?_ ?_ ?_)⟩
     .intro W7 z1 z2 z3;refine⟨⟨by rw[World.putObj_size];exact z1,λb hb=>ER (ER (OT b hb) (z2 b (jR b hb).1)) (Oz (by have:=(jR b hb).2;omega))⟩,.inl ⟨rfl,fb,?_,jR,?_⟩⟩
      .exact hT _ _ _ _ _ _ z3 dZ ((z2 l dZ).2 _ tH rfl) rfl
      .have Jt:=(EU.stands z2).turn (b:=l) (o':=.loop rec) ((z2 l dZ).2 _ tH rfl) rfl λx hx=>(zJ x hx).1;exact⟨Jt.cells,λx hx=>by
        rcases cq.1 hx with rfl |hx
        .exact⟨dZ,rfl,World.putObj_heap_same (fG.1 ((z2 l dZ).2 _ tH rfl)).1⟩
        .exact Jt.ig x hx⟩
     .intro W7 z1 z2 z3;have vy:=(z2 l dZ).2 _ tH rfl;refine⟨⟨by rw[World.putObj_size];exact z1,λb hb=>ER (ER (OT b hb) (z2 b (jR b hb).1)) (Oz (by have:=(jR b hb).2;omega))⟩,.inr (.inl ⟨rfl,?_,?_,?_,?_⟩)⟩
      .exact sx _ _ _ _ _ z3 (by omega) vy rfl
      .exact(((EU.stands z2).turn (b:=l) vy rfl λx hx=>(zJ x hx).1).zG λ_ _=>trivial).sub (C':=[]) (λ_ h=>(iC h).elim) (λ_ h=>h)
      .rw[World.putObj_size];exact(fG.1 vy).1
      .exact λv _=>World.putObj_heap_same (fG.1 vy).1
     .intro ch W7 z1 z2 z3;have vy:=(z2 l dZ).2 _ tH rfl;refine⟨⟨z1,λb hb=>ER (OT b hb) (z2 b (jR b hb).1)⟩,.inr (.inr ⟨ch,rfl,z3,?_,?_,?_⟩)⟩
      .exact((EU.stands z2).zG λ_ _=>trivial).sub (C':=[]) (λ_ h=>(iC h).elim) (λ_ h=>h)
      .exact(fG.1 vy).1
      .exact λv hv=>by cases hv
    .exact⟨fb5,EL,λ_ h=>h.elim,xj⟩
   .have jO:¬(j:Int)<x:=by omega
    have hl2:¬f+(j:Int)<f+x:=by omega
    have rM:IntKind.i64.wrap (f+x)=f+x:=IntWalk.i64_in _ (by omega)
    go_wp2
    go_quiet (fail)
    clear rM
    go_wp2
    have EM:j=x.toNat:=by omega
    subst EM;have hkL:k=O L:=by
     have h0:(j3 x.toNat).drop x.toNat=[]:=Rc (by simp);rw[h0] at hk;have:=congrArg oI hk;rw[List.flatMap_nil,fH,wj] at this;omega
    subst hkL;refine OC _ (.inl rfl) _ ms _ gA (λm hm=>⟨zh m hm,?_⟩) (.inl ⟨_,hJ _ _ _ _ mK (below_drewN (.refl _ A) nq),λm hm=>.inl (Jo.ig (m,.deferred (Z [])) (cA.2 ⟨m,hm,rfl⟩)).1⟩);exact(Jo.ig (m,.deferred (Z [])) (cA.2 ⟨m,hm,rfl⟩)).2.2
  .have e0:f+((0 :Nat):Int)=f:=by simp
   refine⟨0,0,BM,[],_,by omega,by rw[e0];exact VN rfl,by rw[pM,pM];exact OB,bD _,hJ2,DN,List.nodup_nil,λ_ h=>(iC h).elim,agr⟩

end Go.Proofs.YtgplgbonlnodeaaGreatDoor

namespace Go.Proofs.YtgplgbonlnodeaaGreatDoor
open Go.RowKit Go.Shelf
theorem agI{γ:Gh}{vs:Array Value}{d1 d2 d3:D}(h:cv γ vs [d1,d2,d3]):∃v1 v2 v3,vs= #[v1,v2,v3]/\aB γ v1 d1/\aB γ v2 d2/\aB γ v3 d3:=by
 obtain⟨hs,hr⟩:=h;obtain⟨l⟩:=vs
 match l,hs with
 |[v1,v2,v3],_=>exact⟨v1,v2,v3,rfl,hr 0 _ rfl,hr 1 _ rfl,hr 2 _ rfl⟩

variable {W : World} {G : Nat -> Option (List PD)}
theorem agJ:r6 Tryz.prog W G 237 pw:=by
 refine⟨⟨Tryz.f237,Tryz.func237,by kernel_rfl,by kernel_rfl⟩,λfi cap H xs hg γ w la lb I tG EH=>?_⟩;unfold pw at hg;split at hg
 .rename_i sd p ad fS;split at hg
  .rename_i ss ats vx yD;split at hg
   .rename_i hc;obtain⟨nB,BO,cU,hlen,bW⟩:=hc;cases hg;have Jh:la= #[]:=Gc tG.1;subst Jh;obtain⟨v1,v2,v3,rfl,r1,r2,r3⟩:=agI EH;cases r1 with
    |ro b1 o1 _ _ cs1 iA hr1=>
    cases r2 with
    |ro b2 o2 _ _ GA kN hr2=>
    cases r3 with
    |ro b3 o3 _ _ Ju Jv hr3=>
     have hp:GA 0= .int .i64 p:=(hr2 0 _ rfl).1.jK;have fact:∀A,Kept W G γ H (nX (.fn 237 [] [.ro [sd] 0,.ro [.int .i64 p] 0,.ro [ad,fS] 0]) H) A->VM (b1,o1) (b2,o2) (b3,o3) ss p ats (cs1 0) (Ju 0) (Ju 1) A:=by
      rintro A ⟨γ',H',L,I',_⟩;refine⟨I'.toInv.mem _ _ _ (L.mem _ _ _ (iA 0 (by simp))),?_,I'.toInv.mem _ _ _ (L.mem _ _ _ (Jv 0 (by simp))),I'.toInv.mem _ _ _ (L.mem _ _ _ (Jv 1 (by simp))),?_,?_⟩
      .have:=I'.toInv.mem _ _ _ (L.mem _ _ _ (kN 0 (by simp)));rw[hp] at this;exact this
      .exact Jg ((hr1 0 sd rfl).1.mono L.mem) vx I'.toInv.mem
      .exact Jg ((hr3 0 ad rfl).1.mono L.mem) yD I'.toInv.mem
     refine⟨λk=>match(jt ats ss p)[k]? with |some x=>#[.int .i64 x] |none=>#[],λk x hx=>?_,λlp J X w0 hB zE hJ hT hX sx hY h0=>?_⟩
     .simp only[cG,ak] at hx;obtain⟨q,hq,rfl⟩:=hx;simp only[hq];exact⟨rfl,λγ'=>VD q⟩
     .have h:=VO ats (λx hx=>of_decide_eq_true (gV.1 nB x hx)) BO hlen ss bW (λs hs=>of_decide_eq_true (gV.1 cU s hs)) p lp (b1,o1) (b2,o2) (b3,o3) (cs1 0) (Ju 0) (Ju 1) J X w0 (λk fb A hj=>fact A (zE k fb A hj)) hJ hT hX sx (λk fb x A hx hj=>by
       have:=hY k fb _ A (by rw[cG,hx];rfl) hj;simp only[hx] at this;exact this) h0
      rw[bT];exact qK.2 h
   .cases hg
  .cases hg
 .cases hg

end Go.Proofs.YtgplgbonlnodeaaGreatDoor

namespace Go.Proofs.YtgplgbonlnodeaaGreatDoor
open Go.Proofs Go.Shelf
def Wb:Go.Shelf.Ren where
 f:=λ| 6=>61 | 15=>108 | 14=>107 | 28=>170 | 29=>171 | 20=>162 | 21=>163 | 22=>164 | 23=>165 | 24=>166 | 25=>167 | 26=>168 | 27=>169 | 46=>227 | 47=>228 | 48=>229 | 49=>230 | 50=>231 | 57=>289 |n=>n
 t:=λ| 22=>80 | 24=>102 | 25=>127 | 3=>3 | 39=>176 | 0=>0 | 53=>240 | 55=>242 | 4=>4 | 46=>234 | 45=>233 | 50=>130 | 5=>5 | 9=>9 | 66=>302 | 70=>306 | 76=>362 | 77=>56 |n=>n
 g:=λn=>n
theorem agK:SlLaysF0.n6 Tryz.prog Wb where
 mixed:=by kernel_rfl
 f6:=⟨ "slices.SortFunc[[]armature/api.Cell,armature/api.Cell]",by decide,Tryz.func61.trans (by kernel_rfl)⟩
 f14:=⟨ "slices.pdqsortCmpFunc[armature/api.Cell]",by decide,Tryz.func107.trans (by kernel_rfl)⟩
 f15:=Tryz.func108.trans (by kernel_rfl)
 f20:=⟨ "slices.insertionSortCmpFunc[armature/api.Cell]",by decide,Tryz.func162.trans (by kernel_rfl)⟩
 f21:=⟨ "slices.heapSortCmpFunc[armature/api.Cell]",by decide,Tryz.func163.trans (by kernel_rfl)⟩
 f22:=⟨ "slices.breakPatternsCmpFunc[armature/api.Cell]",by decide,Tryz.func164.trans (by kernel_rfl)⟩
 f23:=⟨ "slices.choosePivotCmpFunc[armature/api.Cell]",by decide,Tryz.func165.trans (by kernel_rfl)⟩
 f24:=⟨ "slices.reverseRangeCmpFunc[armature/api.Cell]",by decide,Tryz.func166.trans (by kernel_rfl)⟩
 f25:=⟨ "slices.partialInsertionSortCmpFunc[armature/api.Cell]",by decide,Tryz.func167.trans (by kernel_rfl)⟩
 f26:=⟨ "slices.partitionEqualCmpFunc[armature/api.Cell]",by decide,Tryz.func168.trans (by kernel_rfl)⟩
 f27:=⟨ "slices.partitionCmpFunc[armature/api.Cell]",by decide,Tryz.func169.trans (by kernel_rfl)⟩
 f28:=Tryz.func170.trans (by kernel_rfl)
 f29:=Tryz.func171.trans (by kernel_rfl)
 f46:=⟨ "slices.siftDownCmpFunc[armature/api.Cell]",by decide,Tryz.func227.trans (by kernel_rfl)⟩
 f47:=Tryz.func228.trans (by kernel_rfl)
 f48:=Tryz.func229.trans (by kernel_rfl)
 f49:=⟨ "slices.medianAdjacentCmpFunc[armature/api.Cell]",by decide,Tryz.func230.trans (by kernel_rfl)⟩
 f50:=⟨ "slices.medianCmpFunc[armature/api.Cell]",by decide,Tryz.func231.trans (by kernel_rfl)⟩
 f57:=⟨ "slices.order2CmpFunc[armature/api.Cell]",by decide,Tryz.func289.trans (by kernel_rfl)⟩
 t0:=Tryz.underlying0
 a0:=Tryz.isAgg0
 z0:=Tryz.sizeOf0
 v0:=Tryz.zeroValue0
 t3:=Tryz.underlying3
 a3:=Tryz.isAgg3
 z3:=Tryz.sizeOf3
 v3:=Tryz.zeroValue3
 t4:=Tryz.underlying4
 a4:=Tryz.isAgg4
 z4:=Tryz.sizeOf4
 v4:=Tryz.zeroValue4
 t5:=Tryz.underlying5
 a5:=Tryz.isAgg5
 z5:=Tryz.sizeOf5
 v5:=Tryz.zeroValue5
 t9:=Tryz.underlying9
 a9:=Tryz.isAgg9
 z9:=Tryz.sizeOf9
 v9:=Tryz.zeroValue9
 t22:=Tryz.underlying80
 a22:=Tryz.isAgg80
 z22:=Tryz.sizeOf80
 v22:=Tryz.zeroValue80
 t25:=Tryz.underlying127
 a25:=Tryz.isAgg127
 z25:=Tryz.sizeOf127
 v25:=Tryz.zeroValue127
 t39:=Tryz.underlying176
 a39:=Tryz.isAgg176
 z39:=Tryz.sizeOf176
 v39:=Tryz.zeroValue176
 t45:=Tryz.underlying233
 a45:=Tryz.isAgg233
 z45:=Tryz.sizeOf233
 v45:=Tryz.zeroValue233
 t46:=Tryz.underlying234
 a46:=Tryz.isAgg234
 z46:=Tryz.sizeOf234
 v46:=Tryz.zeroValue234
 t50:=Tryz.underlying130
 a50:=Tryz.isAgg130
 z50:=Tryz.sizeOf130
 v50:=Tryz.zeroValue130
 t53:=Tryz.underlying240
 a53:=Tryz.isAgg240
 z53:=Tryz.sizeOf240
 v53:=Tryz.zeroValue240
 t55:=Tryz.underlying242
 a55:=Tryz.isAgg242
 z55:=Tryz.sizeOf242
 v55:=Tryz.zeroValue242
 t66:=Tryz.underlying302
 a66:=Tryz.isAgg302
 z66:=Tryz.sizeOf302
 v66:=Tryz.zeroValue302
 t70:=Tryz.underlying306
 a70:=Tryz.isAgg306
 z70:=Tryz.sizeOf306
 v70:=Tryz.zeroValue306
 t76:=Tryz.underlying362
 a76:=Tryz.isAgg362
 z76:=Tryz.sizeOf362
 v76:=Tryz.zeroValue362
 t77:=Tryz.underlying56
 a77:=Tryz.isAgg56
 z77:=Tryz.sizeOf56
 v77:=Tryz.zeroValue56
def EW:Go.Shelf.Ren where
 f:=λ| 21=>77 | 27=>124 | 28=>125 | 35=>181 | 39=>239 |n=>n
 t:=λ| 22=>28 | 3=>3 | 4=>4 | 0=>0 |n=>n
 g:=λn=>n
theorem BV:Lays2.n21 Tryz.prog EW where
 mixed:=by kernel_rfl
 f21:=Tryz.func77.trans (by kernel_rfl)
 f27:=Tryz.func124.trans (by kernel_rfl)
 f28:=Tryz.func125.trans (by kernel_rfl)
 f35:=Tryz.func181.trans (by kernel_rfl)
 f39:=Tryz.func239.trans (by kernel_rfl)
 t0:=Tryz.underlying0
 a0:=Tryz.isAgg0
 z0:=Tryz.sizeOf0
 v0:=Tryz.zeroValue0
 t3:=Tryz.underlying3
 a3:=Tryz.isAgg3
 z3:=Tryz.sizeOf3
 v3:=Tryz.zeroValue3
 t4:=Tryz.underlying4
 a4:=Tryz.isAgg4
 z4:=Tryz.sizeOf4
 v4:=Tryz.zeroValue4
 t22:=Tryz.underlying28
 a22:=Tryz.isAgg28
 z22:=Tryz.sizeOf28
 v22:=Tryz.zeroValue28
 i3:=by kernel_rfl

end Go.Proofs.YtgplgbonlnodeaaGreatDoor

namespace Go.Proofs.YtgplgbonlnodeaaGreatDoor
open Go Go.RowKit Go.Shelf

variable {W : World} {G : Nat -> Option (List PD)}
theorem BW(b:Nat)(T:TypeId)(fr:Nat×Nat):∀(vs:List Value) (o:Nat) (cur:Array Value) (w:World),w.heap[b]? =Z (.cells cur T fr)->o+O vs<=cur.size->
    w.setCells b o vs=w.setRow b (cur.toList.take o++vs++cur.toList.drop (o+O vs)).toArray
 |[],o,cur,w,hg,_=>by
  simp only[World.setCells,iQ,fH,nO,Aw,Array.toArray_toList];rw[setRow_self w b cur T fr hg]
 |v::rest,o,cur,w,hg,hl=>by
  have ih:=BW b T fr rest (o+1) (cur.setIfInBounds o v) (w.setRow b (cur.setIfInBounds o v)) (setRow_heap w b cur _ T _ hg) (by simp at hl|-;omega);simp only[World.setCells,setCell_eq_setRow w b o cur T fr v hg,ih,setRow_setRow];congr 2
  have:=list_seg_step cur.toList o v rest (by simp at hl|-;omega);have e2:o+O (v::rest)=o+(O rest+1):=by simp
  have e3:o+1+O rest=o+(O rest+1):=by omega
  rw[e2];simpa[Array.toList_setIfInBounds,e3] using this
theorem Wc(w:World)(X Zq:Array Value)(T:TypeId):(w.alloc (.cells X T)).setRow w.heap.size Zq=w.alloc (.cells Zq T):=by
 unfold World.setRow World.alloc;congr 1
 apply Lb
 .simp
 .intro i h1 h2;simp only[aoL];split
  .rename_i h;subst h;simp
  .rename_i h;have :i<w.heap.size:=by simp at h2;omega
   simp[Array.getElem_push,this]
theorem OV:∀{cs:List D} {l:List Int},aH BB cs=Z l->cs=l.map λx=>.p (.int .i64 x)
 |[],l,h=>by cases h;rfl
 |c::cs,l,h=>by
  simp only[aH] at h;split at h
  .rename_i t ht;obtain⟨l',h1,rfl⟩:=ak.1 h;have e:c= .p (.int .i64 t):=by
    unfold BB at ht;split at ht
    .cases ht;rfl
    .cases ht
   rw[e,OV h1];rfl
  .cases h
def bA(l:List Int):List Value:=l.map λx=>.int .i64 x
def ij(l:List Int):List D:=l.map λx=>.p (.int .i64 x)
theorem OW(l:List Int):∀v∈bA l,v.oneCell'=true:=λv hv=>by
 obtain⟨x,_,rfl⟩:=cA.1 hv;rfl
theorem Jw(l:List Int):∀c∈ij l,c.one=true:=λv hv=>by
 obtain⟨x,_,rfl⟩:=cA.1 hv;rfl
variable{vs:Array Value}{γ:Gh}{l:List Int}
theorem Jx(l:List Int)(tl:List Value):eI γ (bA l++tl).toArray (ij l):=by
 refine⟨by simp[bA,ij],λk d hd=>?_⟩;unfold ij at hd;rw[cG] at hd;cases hx:l[k]? with
 |none=>rw[hx] at hd;cases hd
 |some x=>
  rw[hx] at hd;cases hd;have hk:=(af.1 hx).1;have :(bA l++tl).toArray.getD k undef= .int .i64 x:=by
   simp[bA,bP,List.getElem?_append,hk];have:=(af.1 hx).2;exact this
  rw[this];exact .p _ _ (.int _ _)
theorem Wd{cs:List D}(r:eI γ vs cs){n:Nat}(h:cs.take n=ij l)(hn:n<=O cs):O l=n/\∀(j:Nat) v,(bA l)[j]? =Z v->vs[j]? =Z v:=by
 have hl:O l=n:=by
  have:=congrArg oI h;rw[kY,x9 hn] at this;simpa[ij] using this.symm
 refine⟨hl,λj v hv=>?_⟩;unfold bA at hv;rw[cG] at hv;cases hx:l[j]? with
 |none=>rw[hx] at hv;cases hv
 |some x=>
  rw[hx] at hv;cases hv;have hj:=(af.1 hx).1;have hc:cs[j]? =Z (.p (.int .i64 x)):=by
   have h2:(cs.take n)[j]? =Z (.p (.int .i64 x)):=by rw[h];simp[ij,hx]
   rw[gL] at h2;split at h2
   .exact h2
   .cases h2
  have h3:=(r.2 j _ hc).cu.jK;have We:j<vs.size:=by have:=r.1;omega
  rw[rC We];simpa[bP,We] using h3
theorem agL(h:∀(j:Nat) v,(bA l)[j]? =Z v->vs[j]? =Z v):vs.toList=bA l++vs.toList.drop (O l):=by
 have h1:vs.toList.take (O l)=bA l:=by
  apply lO;intro j;rcases fA j (O l) with hj |hj
  .have oT:j<O (bA l):=by simpa[bA] using hj
   rw[gL,if_pos hj,aD oT,CQ];exact h j _ (aD oT)
  .rw[nS (by simp;omega),nS (by simpa[bA] using hj)]
 conv=>lhs;rw[<-Aw (O l) vs.toList,h1]

end Go.Proofs.YtgplgbonlnodeaaGreatDoor

namespace Go.Proofs.YtgplgbonlnodeaaGreatDoor
open Go Go.RowKit Go.Shelf

variable {W : World} {G : Nat -> Option (List PD)}
theorem agM:Vs.Enters Tryz.prog 77:=⟨Tryz.f77,Tryz.func77,by kernel_rfl,by kernel_rfl⟩
variable{γ:Gh}{H:Hp}{cs:List D}{i b:Nat}{w:World}
theorem OX(I:Vs.Inv G γ H w)(hb:γ.boxes[i]? =Z b)(hc:H.bx[i]? =Z cs)(hm:ay cs=false)(hn:cs≠[]){k c:Nat}(hk:k<1)(ht:γ.aY b=Z (2*3+k,c*1)):
    ∃(vs:Array Value) (fr:Nat×Nat),w.heap[b]? =Z (.cells vs 3 fr)/\vs.size=c/\eI γ vs cs/\clear fr 0 vs.size/\(∀j,j<c->w.frozen? ⟨b,j,Y⟩=false)/\w.frozen? ⟨b,c,Y⟩=false/\w.shape? b=Z (3,c):=by
 obtain⟨vs,T,fr,q1,q2,q3,q4⟩:=I.box i b cs hb hc;rw[iu hm] at q1;have q4:=q4 hn;obtain rfl:k=0:=by omega
 obtain⟨cL,ct,z1,z2,z3⟩:=I.aY b _ _ ht;rw[q1] at z1;cases z1;rw[Nat.mul_one] at z2;have zK:∀j,j<c->w.frozen? ⟨b,j,Y⟩=false:=λj hj=>by
  have:=q4 j (bD _) (by omega);simp only[World.frozen?,q1];cases hd:(decide (fr.1<=j)&&decide (j<fr.2)) with
  |false=>rfl
  |true=>simp at hd;exact(this hd).elim
 have xk:w.frozen? ⟨b,c,Y⟩=false:=by
  have h2:=(z3 rfl).1;simp only[World.frozen?,q1];have :¬c<fr.2:=by omega
  simp[this]
 exact⟨vs,fr,q1,z2,q2,q4,zK,xk,by simp[World.shape?,q1,z2]⟩
theorem Dp{vs:Array Value}{d1 d2 d3:D}(h:cv γ vs [d1,d2,d3]):∃v1 v2 v3,vs= #[v1,v2,v3]/\aB γ v1 d1/\aB γ v2 d2/\aB γ v3 d3:=by
 obtain⟨hs,hr⟩:=h;obtain⟨l⟩:=vs
 match l,hs with
 |[v1,v2,v3],_=>exact⟨v1,v2,v3,rfl,hr 0 _ rfl,hr 1 _ rfl,hr 2 _ rfl⟩
theorem Wh{γ0:Gh}{H0:Hp}{w0:World}(I0:bw W G γ0 H0 w0)(L:γ0.le γ)(F:Vs.Frame γ0 H0 w0 γ H w)(I:Vs.Inv G γ H w)(l:List Int)(tl:List Value)(c:Nat)(hn:O l<=c)(hcm:c<=maxLen)(hs:O (bA l++tl)=c):
    ∃γ',γ0.le γ'/\Vs.Frame γ0 H0 w0 γ' {H with bx:=H.bx++[ij l]} (w.alloc (.cells (bA l++tl).toArray 3))/\bw W G γ' {H with bx:=H.bx++[ij l]} (w.alloc (.cells (bA l++tl).toArray 3))/\
     aB γ' (.slice (Z ⟨w.heap.size,0,Y⟩) (O l) c) (.ae (O H.bx) 3 (O l) 1):=by
 obtain⟨γ',a1,a2,a5,a3,a4⟩:=I.De 3 (vs:=(bA l++tl).toArray) (cs:=ij l) (λ_ _ _ _=>Jx l tl) (Jw l);have FF:=F.trans L.base a3;refine⟨γ',L.trans a1,FF,I0.up (L.trans a1) FF a4,.ae _ _ _ _ _ c a2 hn hcm (k:=0) (by decide) ?_⟩;have :(bA l++tl).toArray.size=c*1:=by simpa using hs
 rw[this] at a5;exact a5
theorem Jy(l:List Int)(k:Nat)(t:Int):bA (dO l k t)=(bA l).take k++Value.int .i64 t::(bA l).drop k:=by
 simp[bA,dO,List.map_take,List.map_drop]
theorem Wi(l:List Int)(k:Nat)(t:Int)(hk:k<=O l):O (dO l k t)=O l+1:=by
 simp[dO];omega
theorem Wj{k:Nat}(A B C:List Value)(h:O A=k):(A++B++C).take k=A:=by
 rw[j2,List.take_left' h]
theorem Wl(w:World)(X:Array Value)(T:TypeId)(vs cs:List Value)(i:Nat)(hs:i+O vs+O cs<=X.size):
    ((w.alloc (.cells X T)).drew.setCells w.heap.size i vs).drew.setCells w.heap.size (i+O vs) cs=w.drew.drew.alloc (.cells (X.toList.take i++vs++cs++X.toList.drop (i+O vs+O cs)).toArray T):=by
 have g:∀(w:World) (X:Array Value),(w.alloc (.cells X T)).heap[w.heap.size]? =Z (.cells X T (0,0)):=λw X=>by unfold World.alloc;simp
 have e0:(w.alloc (.cells X T)).drew=w.drew.alloc (.cells X T):=rfl;have s0:w.heap.size=w.drew.heap.size:=rfl;rw[e0,s0,BW _ T (0,0) vs i X _ (g w.drew X) (by omega),Wc];generalize hY:(X.toList.take i++vs++X.toList.drop (i+O vs)).toArray=Zq;have hYs:Zq.size=X.size:=by rw[<-hY];simp;omega
 have e1:(w.drew.alloc (.cells Zq T)).drew=w.drew.drew.alloc (.cells Zq T):=rfl;have s1:w.drew.heap.size=w.drew.drew.heap.size:=rfl;rw[e1,s1,BW _ T (0,0) cs _ Zq _ (g w.drew.drew Zq) (by omega),Wc];congr 3
 rw[<-hY];have a1:(X.toList.take i++vs++X.toList.drop (i+O vs)).take (i+O vs)=X.toList.take i++vs:=by
  rw[Re (by simp;omega),fK (by simp;omega)]
 have a2:(X.toList.take i++vs++X.toList.drop (i+O vs)).drop (i+O vs+O cs)=X.toList.drop (i+O vs+O cs):=by
  rw[<-CS,Z9 (by simp;omega),CS]
 simp only[a1,a2]

theorem agN(I:bw W G γ H w){j vb n c vc k k1 k2:Nat}{l:List Int}{t:Int}(cI:i≠j)(hb:γ.boxes[i]? =Z b)(zM:γ.boxes[j]? =Z vb)
    (hc:H.bx[i]? =Z cs) (r5:H.bx[j]? =Z [.p (.int .i64 t)]) (hm:ay cs=false) (hnc:n<=O cs) (hne:cs≠[]) (hl:cs.take n=ij l) (hcc:n<=c) (hcm:c<=maxLen)
    (eF:k1<1) (dY:γ.aY b=Z (2*3+k1,c*1)) (Jz:1<=vc) (hk2:k2<1) (OY:γ.aY vb=Z (2*3+k2,vc*1)) (hk:k<=n) (hn:n<1000000):
    Calls Tryz.prog 77 #[.slice (Z ⟨b,0,Y⟩) n c,.int .i64 k,.slice (Z ⟨vb,0,Y⟩) 1 vc] w λe w'=>∃γ',γ.le γ'/\Vs.Frame γ H w γ' {H with bx:=H.bx.set i []++[ij (dO l k t)]} w'/\bw W G γ' {H with bx:=H.bx.set i []++[ij (dO l k t)]} w'/\
     jA γ' (.val (.ae (O H.bx) 3 (n+1) 1)) e:=by
 have agP:vb≠b:=λh=>by
  subst h;exact cI (I.nodup i j vb _ _ hb zM hc r5 hne (by simp))
 obtain⟨vs,fr,q1,qs,q2,q4,zK,xk,oX⟩:=OX I.toInv hb hc hm hne eF dY;obtain⟨us,Lt,u1,us1,u2,u4,Wm,Wn,Wo⟩:=OX I.toInv zM r5 rfl (by simp) hk2 OY;obtain⟨jc,n9⟩:=Wd q2 hl hnc;have OZ:us[0]? =Z (.int .i64 t):=by
  have h3:=(u2.2 0 _ rfl).cu.jK;have :0<us.size:=by omega
  rw[rC this];simpa[bP,this] using h3
 have hcell:∀(p:Nat) v,(bA l)[p]? =Z v->w.cell? ⟨b,0+p,Y⟩=Z v:=λp v hp=>by
  rw[ez];simp only[World.cell?,q1];exact n9 p v hp
 have zN:∀(p:Nat) v,[Value.int .i64 t][p]? =Z v->w.cell? ⟨vb,0+p,Y⟩=Z v:=λp v hp=>by
  cases p with
  |zero=>cases hp;simp only[World.cell?,u1];exact OZ
  |succ p=>simp at hp
 have h1:∀v∈[Value.int .i64 t],v.oneCell'=true:=λv hv=>by rw[nT.1 hv];rfl
 have cW:O (dO l k t)=n+1:=by rw[Wi l k t (by omega),jc]
 have lT:=agL n9;have tI:O (bA l)=n:=by simpa[bA] using jc
 have Wp:(γ.boxes++[b])[O H.bx]? =Z b:=by rw[<-I.cS];simp
 -- in place
 have place:n+1<=c->∀w',w'=w.drew.setRow b (bA (dO l k t)++vs.toList.drop (n+1)).toArray\/w'=w.setRow b (bA (dO l k t)++vs.toList.drop (n+1)).toArray->∃γ',γ.le γ'/\Vs.Frame γ H w γ' {H with bx:=H.bx.set i []++[ij (dO l k t)]} w'/\bw W G γ' {H with bx:=H.bx.set i []++[ij (dO l k t)]} w'/\
     jA γ' (.val (.ae (O H.bx) 3 (n+1) 1)) (.returned (.slice (Z ⟨b,0,Y⟩) (n+1) c)):=by
  intro hr w' hw';have hsz:(bA (dO l k t)++vs.toList.drop (n+1)).toArray.size=vs.size:=by
   simp only[pQ,gG,wj,qq];have :O (bA (dO l k t))=n+1:=by simpa[bA] using cW
   omega
  rcases hw' with rfl |rfl
  .obtain⟨g1,g2,g3⟩:=I.toInv.drew.L5 hb hc hne hm q1 q4 hsz dY (Jx (dO l k t) (vs.toList.drop (n+1))) (Jw _);have FF:=(Vs.Frame.drew γ H w).trans rfl g2;exact⟨_,g1,FF,I.up g1 FF g3,_,rfl,.ae _ _ _ _ b c Wp hr hcm eF dY⟩
  .obtain⟨g1,g2,g3⟩:=I.toInv.L5 hb hc hne hm q1 q4 hsz dY (Jx (dO l k t) (vs.toList.drop (n+1))) (Jw _);exact⟨_,g1,g2,I.up g1 g2 g3,_,rfl,.ae _ _ _ _ b c Wp hr hcm eF dY⟩
 -- a new row
 have fresh:∀w0 w' (tl:List Value) (c':Nat),w0.heap.size=w.heap.size->(Vs.Inv G γ H w->Vs.Inv G γ H w0)->Vs.Frame γ H w γ H w0->n+1<=c'->c'<=maxLen->O (bA (dO l k t)++tl)=c'->w'=w0.alloc (.cells (bA (dO l k t)++tl).toArray 3)->
     ∃γ',γ.le γ'/\Vs.Frame γ H w γ' {H with bx:=H.bx.set i []++[ij (dO l k t)]} w'/\bw W G γ' {H with bx:=H.bx.set i []++[ij (dO l k t)]} w'/\jA γ' (.val (.ae (O H.bx) 3 (n+1) 1)) (.returned (.slice (Z ⟨w.heap.size,0,Y⟩) (n+1) c')):=by
  rintro w0 w' tl c' hs0 hI hF h2 h3 h4 rfl;obtain⟨f1,I1⟩:=(hI I.toInv).LZ hb hc hne dY;obtain⟨γ',a1,a2,a3,a4⟩:=Wh I (.refl γ) (hF.trans rfl f1) I1 (dO l k t) tl c' (by omega) h3 h4;rw[cW,Ge,hs0] at a4;exact⟨γ',a1,a2,a3,_,rfl,a4⟩
 have aO:vs.toList.take n=bA l:=by
  rw[lT,Re (by omega),fK (by omega)]
 have hsp:∀p,p<c->(w.cell? ⟨b,p,Y⟩).isSome=true:=λp hp=>by
  simp only[World.cell?,q1];rw[rC (by omega)];rfl
 have h63:c<=9223372036854775807:=by simpa[maxLen] using hcm
 by_cases hend:k=n
 .subst hend;have iG:bA (dO l k t)=bA l++[Value.int .i64 t]:=by
   rw[Jy,fK (by omega),Gd (by omega)]
  by_cases hr:k+1<=c
  .refine(Any2.slices_Insert_int_end_room BV b 0 k c vb 0 1 vc [.int .i64 t] w (by decide) hr h63 rfl (λp hp=>?_) (λp hp=>?_) zN h1).mono ?_
   .obtain rfl:p=0:=by omega
    rw[ez];exact hsp _ (by omega)
   .obtain rfl:p=0:=by omega
    rw[ez];exact zK _ (by omega)
   .rintro e w' ⟨rfl,rfl⟩;refine place hr _ (.inr ?_);rw[ez,BW b 3 fr _ _ vs w q1 (by simp;omega),aO,iG];rfl
  .have hg1:=grownCap_ge w (k+1) c 3;have hg2:=grownCap_le_maxLen w (k+1) c 3 (by simp only[maxLen];omega);refine(Any2.slices_Insert_int_end_grow BV (Z ⟨b,0,Y⟩) k c vb 0 1 vc (bA l) [.int .i64 t] w (by decide) hcc (by omega) (by omega) tI rfl (λh=>by cases h) (λa ha p v hp=>by cases ha;rw[Addr.add_lit];exact hcell p v hp) zN h1).mono ?_;rintro e w' ⟨rfl,rfl⟩;refine fresh w.drew _ (Builtin.zeroCells (Value.int .i64 0).cells (grownCap w (k+1) c 3-(k+1))).toList _ rfl (λI=>I.drew) (Vs.Frame.drew γ H w) hg1 hg2 ?_ ?_
   .have :O (bA (dO l k t))=k+1:=by simpa[bA] using cW
    rw[gG,this,qq,size_zeroCells];have :(Value.int IntKind.i64 0).cells.size=1:=rfl;have e3:EW.t 3=3:=rfl;rw[this,e3];omega
   .rw[iG];congr 2
    apply Av;simp;rfl
 .have iw:k<n:=by omega
  have iG:bA (dO l k t)=(bA l).take k++Value.int .i64 t::(bA l).drop k:=Jy l k t;have s9:O ((bA l).drop k)=n-k:=by rw[wj,tI]
  by_cases hr:n+1<=c
  .refine(Any2.slices_Insert_int_shift BV b 0 n c k vb 0 1 vc (bA l) [.int .i64 t] w iw (by decide) hr h63 agP tI rfl hcell (λp hp=>?_) (λp hp=>?_) zN (OW l) h1 3 3 vc c Wo oX (by omega) (Wm 0 (by omega)) Wn).mono ?_
   .rw[ez];exact hsp _ (by omega)
   .rw[ez];exact zK _ (by omega)
   .rintro e w' ⟨rfl,rfl⟩;refine place hr _ (.inl ?_);have xl:w.drew.heap[b]? =Z (.cells vs 3 fr):=q1;rw[ez,ez,BW b 3 fr _ _ vs w.drew xl (by rw[s9];omega)];rw[BW b 3 fr _ _ _ _ (setRow_heap w.drew b vs _ 3 fr xl) (by simp only[pQ,gG,kY,wj,qq,s9,AA];omega),setRow_setRow];congr 2
    simp only;rw[iG,s9,show k+1+(n-k)=n+1 by omega];have e1:(vs.toList.take (k+1)++(bA l).drop k++vs.toList.drop (n+1)).take k=(bA l).take k:=by
     rw[j2,Re (by simp;omega),Q8,x9 (by omega),<-aO,Q8,x9 (by omega)]
    have e2:(vs.toList.take (k+1)++(bA l).drop k++vs.toList.drop (n+1)).drop (k+1)=(bA l).drop k++vs.toList.drop (n+1):=by
     rw[j2,Z8 (by simp;omega),Gd (by simp;omega),fF]
    have e3:k+[Value.int IntKind.i64 t].length=k+1:=rfl;rw[e1,e3,e2];simp
  .have hg1:=grownCap_ge w (n+1) c 3;have hg2:=grownCap_le_maxLen w (n+1) c 3 (by simp only[maxLen];omega);refine(Any2.slices_Insert_int_grow BV b 0 n c k vb 0 1 vc (bA l) [.int .i64 t] w iw (by decide) hcc (by omega) (by omega) tI rfl hcell zN (OW l) h1).mono ?_;rintro e w' ⟨rfl,rfl⟩;refine fresh w.drew.drew _ (Builtin.zeroCells (Value.int .i64 0).cells (grownCap w (n+1) c 3-(n+1))).toList _ rfl (λI=>I.drew.drew) ((Vs.Frame.drew γ H w).trans rfl (Vs.Frame.drew γ H w.drew)) hg1 hg2 ?_ ?_
   .have :O (bA (dO l k t))=n+1:=by simpa[bA] using cW
    rw[gG,this,qq,size_zeroCells];have :(Value.int IntKind.i64 0).cells.size=1:=rfl;have e3:EW.t 3=3:=rfl;rw[this,e3];omega
   .have e3:EW.t 3=3:=rfl;have z1:(Value.int IntKind.i64 0).cells.size=1:=rfl;have eM:O ((bA l).take k)=k:=by rw[kY,tI];omega
    refine(Wl w _ _ [.int .i64 t] ((bA l).drop k) k ?_).trans ?_
    .simp only[Q4,pQ,size_zeroCells,z1,eM,s9,AA];omega
    .rw[e3,iG];congr 2
     simp only[Z2,AA,s9];rw[Wj _ _ _ eM,show k+1+(n-k)=n+1 by omega,Z9 (by
      rw[gG,eM,qq,size_zeroCells,z1];omega)]
     simp

end Go.Proofs.YtgplgbonlnodeaaGreatDoor

namespace Go.Proofs.YtgplgbonlnodeaaGreatDoor
open Go Go.RowKit Go.Shelf

variable {W : World} {G : Nat -> Option (List PD)}
variable{γ:Gh}{H:Hp}{l:List Int}{base:Option Addr}{w:World}
theorem agR{v:Value}{s:D}{sz:Nat}{es:List PD}(r:aB γ v s)(h:iT sz s=Z es):∃base,v= .slice base (O es) (O es)/\aQ γ.mem (.slice base (O es) (O es)) (.slice sz es):=by
 unfold iT at h;split at h
 .cases h;exact⟨Y,r.cu.sY,.lq _ _ _⟩
 .split at h
  .cases h;cases r with
   |fL a _=>exact⟨a,rfl,.lq _ _ _⟩
  .cases h
 .split at h
  .rename_i hs;subst hs;cases h;cases r with
   |cC b n e sz es hb ht hn hr=>subst hn;exact⟨_,rfl,hr⟩
  .cases h
 .split at h
  .rename_i hs;subst hs;cases h;cases r with
   |fB a n sz es hn hr=>subst hn;exact⟨_,rfl,hr⟩
  .cases h
 .cases h
theorem agS(I:Vs.Inv G γ H w){n:Nat}(hn:O l=n)(r:aQ γ.mem (.slice base n n) (.slice 1 (l.map λx=>.int .i64 x))):
    l=[]\/∃b off,base=Z ⟨b,off,Y⟩/\∀(p:Nat) v,(bA l)[p]? =Z v->w.cell? ⟨b,off+p,Y⟩=Z v:=by
 generalize hes:l.map (λx=>PD.int .i64 x)=es at r;generalize hv:Value.slice base n n=v at r;cases r with
 |lq a cap sz=>
  left;simpa using hes
 |sl b o cap sz es vs hc hsz dP hm hr=>
  right;cases hv;refine⟨b,o,rfl,λp v hp=>?_⟩;unfold bA at hp;rw[cG] at hp;cases hx:l[p]? with
  |none=>rw[hx] at hp;cases hp
  |some x=>
   rw[hx] at hp;cases hp;have he:es[p]? =Z (.int .i64 x):=by rw[<-hes,cG,hx];rfl
   have hpl:p<O es:=(af.1 he).1;have h1:=I.mem _ _ _ (hm p 0 hpl (by decide));have h2:=(hr p _ 0 _ he rfl).jK;rw[h2] at h1;simpa using h1

theorem agT(I:bw W G γ H w){j vb n k vc k2:Nat}{t:Int}(zM:γ.boxes[j]? =Z vb)(r5:H.bx[j]? =Z [.p (.int .i64 t)])(Jz:1<=vc)(hk2:k2<1)(OY:γ.aY vb=Z (2*3+k2,vc*1))
    (jc:O l=n) (hr:aQ γ.mem (.slice base n n) (.slice 1 (l.map λx=>.int .i64 x))) (hk:k<=n) (hn:n<1000000):
    Calls Tryz.prog 77 #[.slice base n n,.int .i64 k,.slice (Z ⟨vb,0,Y⟩) 1 vc] w λe w'=>∃γ',γ.le γ'/\Vs.Frame γ H w γ' {H with bx:=H.bx++[ij (dO l k t)]} w'/\bw W G γ' {H with bx:=H.bx++[ij (dO l k t)]} w'/\
     jA γ' (.val (.ae (O H.bx) 3 (n+1) 1)) e:=by
 obtain⟨us,Lt,u1,us1,u2,u4,Wm,Wn,Wo⟩:=OX I.toInv zM r5 rfl (by simp) hk2 OY;have OZ:us[0]? =Z (.int .i64 t):=by
  have h3:=(u2.2 0 _ rfl).cu.jK;have :0<us.size:=by omega
  rw[rC this];simpa[bP,this] using h3
 have zN:∀(p:Nat) v,[Value.int .i64 t][p]? =Z v->w.cell? ⟨vb,0+p,Y⟩=Z v:=λp v hp=>by
  cases p with
  |zero=>cases hp;simp only[World.cell?,u1];exact OZ
  |succ p=>simp at hp
 have h1:∀v∈[Value.int .i64 t],v.oneCell'=true:=λv hv=>by rw[nT.1 hv];rfl
 have cW:O (dO l k t)=n+1:=by rw[Wi l k t (by omega),jc]
 have agU:O (bA (dO l k t))=n+1:=by simpa[bA] using cW
 have tI:O (bA l)=n:=by simpa[bA] using jc
 have uF:=agS I.toInv jc hr;have z1:(Value.int IntKind.i64 0).cells.size=1:=rfl;have e3:EW.t 3=3:=rfl;have hg1:=grownCap_ge w (n+1) n 3;have hg2:=grownCap_le_maxLen w (n+1) n 3 (by simp only[maxLen];omega);have fresh:∀w0 w',w0.heap.size=w.heap.size->(Vs.Inv G γ H w->Vs.Inv G γ H w0)->Vs.Frame γ H w γ H w0->
     w'=w0.alloc (.cells (bA (dO l k t)++(Builtin.zeroCells (Value.int .i64 0).cells (grownCap w (n+1) n 3-(n+1))).toList).toArray 3)->
     ∃γ',γ.le γ'/\Vs.Frame γ H w γ' {H with bx:=H.bx++[ij (dO l k t)]} w'/\bw W G γ' {H with bx:=H.bx++[ij (dO l k t)]} w'/\jA γ' (.val (.ae (O H.bx) 3 (n+1) 1)) (.returned (.slice (Z ⟨w.heap.size,0,Y⟩) (n+1) (grownCap w (n+1) n 3))):=by
  rintro w0 w' hs0 hI hF rfl;have zl:O (Builtin.zeroCells (Value.int .i64 0).cells (grownCap w (n+1) n 3-(n+1))).toList=grownCap w (n+1) n 3-(n+1):=by
   rw[qq,size_zeroCells,z1];omega
  obtain⟨γ',a1,a2,a3,a4⟩:=Wh I (.refl γ) hF (hI I.toInv) (dO l k t) (Builtin.zeroCells (Value.int .i64 0).cells (grownCap w (n+1) n 3-(n+1))).toList (grownCap w (n+1) n 3) (by omega) hg2 (by
   rw[gG,agU,zl];omega)
  rw[cW,hs0] at a4;exact⟨γ',a1,a2,a3,_,rfl,a4⟩
 by_cases hend:k=n
 .subst hend;have iG:bA (dO l k t)=bA l++[Value.int .i64 t]:=by
   rw[Jy,fK (by omega),Gd (by omega)]
  refine(Any2.slices_Insert_int_end_grow BV base k k vb 0 1 vc (bA l) [.int .i64 t] w (by decide) (by omega) (by omega) (by omega) tI rfl (λh=>?_) (λa ha p v hp=>?_) zN h1).mono ?_
  .rcases uF with rfl |⟨b,off,h2,_⟩
   .simpa using jc.symm
   .rw[h] at h2;cases h2
  .rcases uF with rfl |⟨b,off,h2,h3⟩
   .simp[bA] at hp
   .rw[h2] at ha;cases ha;rw[Addr.add_lit];exact h3 p v hp
  .rintro e w' ⟨rfl,rfl⟩;refine fresh w.drew _ rfl (λI=>I.drew) (Vs.Frame.drew γ H w) ?_;rw[iG];congr 2
   apply Av;simp;rfl
 .have iw:k<n:=by omega
  have iG:bA (dO l k t)=(bA l).take k++Value.int .i64 t::(bA l).drop k:=Jy l k t;have s9:O ((bA l).drop k)=n-k:=by rw[wj,tI]
  rcases uF with rfl |⟨b,off,rfl,hcell⟩
  .simp at jc;omega
  refine(Any2.slices_Insert_int_grow BV b off n n k vb 0 1 vc (bA l) [.int .i64 t] w iw (by decide) (by omega) (by omega) (by omega) tI rfl hcell zN (OW l) h1).mono ?_;rintro e w' ⟨rfl,rfl⟩;refine fresh w.drew.drew _ rfl (λI=>I.drew.drew) ((Vs.Frame.drew γ H w).trans rfl (Vs.Frame.drew γ H w.drew)) ?_;have eM:O ((bA l).take k)=k:=by rw[kY,tI];omega
  refine(Wl w _ _ [.int .i64 t] ((bA l).drop k) k ?_).trans ?_
  .simp only[Q4,pQ,size_zeroCells,z1,eM,s9,AA];omega
  .rw[e3,iG];congr 2
   simp only[Z2,AA,s9];rw[Wj _ _ _ eM,show k+1+(n-k)=n+1 by omega,Z9 (by
    rw[gG,eM,qq,size_zeroCells,z1];omega)]
   simp
theorem agV{aa:List D}{r:bR}{H':Hp}(h:zA aa H=Z (r,H')):wJ Tryz.prog W G 77 aa H r H':=by
 refine⟨agM,λγ w vs I r0=>?_⟩;unfold zA at h;split at h
 .rename_i s k j;obtain⟨v1,v2,v3,rfl,r1,r2,r3⟩:=Dp r0;have r2:=r2.cu.jK;subst r2;split at h
  .rename_i t r5;cases r3 with
   |ae _ _ _ _ vb vc zM Jz hvm hk2 tJ=>
   split at h
   .rename_i i n;split at h
    .rename_i cs hc;split at h
     .rename_i l hl;split at h
      .rename_i hh;obtain⟨a1,a2,a3,a4,a5,a6,a7⟩:=hh;cases h;cases r1 with
       |ae _ _ _ _ b c hb hcc hcm eF dY=>
       obtain⟨k',rfl⟩:∃k':Nat,k=(k':Int):=⟨k.toNat,by omega⟩;exact agN I a1 hb zM hc r5 a2 a3 a4 (OV hl) hcc hcm eF dY Jz hk2 tJ (by omega) a7
      .cases h
     .cases h
    .cases h
   .split at h
    .rename_i es hf;split at h
     .rename_i l hl;split at h
      .rename_i hk;obtain⟨a5,a6,a7⟩:=hk;cases h;obtain⟨base,rfl,hr⟩:=agR r1 hf;have he:es=l.map λx=>.int .i64 x:=by
        have h2:=OV hl;have h3:es.map D.p=(l.map λx=>PD.int .i64 x).map D.p:=by rw[h2,pO];rfl
        exact Z7 (λa b h=>by cases h;rfl) |>.1 h3
       have jc:O l=O es:=by rw[he,bT]
       obtain⟨k',rfl⟩:∃k':Nat,k=(k':Int):=⟨k.toNat,by omega⟩;exact agT I zM r5 Jz hk2 tJ jc (by rw[<-he];exact hr) (by omega) a7
      .cases h
     .cases h
    .cases h
  .cases h
 .cases h

end Go.Proofs.YtgplgbonlnodeaaGreatDoor

namespace Go.Proofs.YtgplgbonlnodeaaGreatDoor
open Go Go.RowKit Go.Shelf

variable {W : World} {G : Nat -> Option (List PD)}
abbrev PS:Type:={p:Int×Int//0<=p.1/\p.1<4611686018427387904}
instance:Inhabited PS:=⟨⟨(0,0),by decide⟩⟩
def zO(x:PS):List Value:=[.int .i64 x.1.1,.int .i64 x.1.2]
def EX(x y:PS):Int:=x.1.1-y.1.1
theorem agW(x y:Int×Int)(W:World):Calls Tryz.prog 62 #[.agg #[.int .i64 x.1,.int .i64 x.2],.agg #[.int .i64 y.1,.int .i64 y.2]] W λe w'=>e= .returned (.int .i64 (RowKit.wrap64 (x.1-y.1)))/\∃q os',w'=Sort.grow (W.drewN q) os':=by
 go_enter Tryz.func62,Tryz.ntmps62
 go_wp2
 go_ret
 exact⟨rfl,0,_,by rw[Sort.alloc_eq_grow,Sort.alloc_eq_grow,Sort.grow_grow];rfl⟩
theorem agX(blk off size:Nat)(w:World):CmpLays Tryz.prog 62 #[] zO 2 EX blk off size w:=by
 intro m os dk _ x y;refine(agW x.1 y.1 _).mono ?_;rintro e w' ⟨rfl,h⟩;refine⟨?_,h⟩;have hx:=x.2;have hy:=y.2;have :RowKit.wrap64 (x.1.1-y.1.1)=x.1.1-y.1.1:=by unfold RowKit.wrap64;omega
 rw[this];rfl
theorem JA(x y:PS):ltOf EX x y=decide (x.1.1<y.1.1):=by
 unfold ltOf EX;by_cases h:x.1.1<y.1.1
 .simp[h];omega
 .simp[h];omega
theorem agY:Sort.SWO (ltOf EX) where
 irrefl x:=by rw[JA];simp
 trans x y z h1 h2:=by rw[JA] at *;simp at *;omega
 ntrans x y z h1 h2:=by rw[JA] at *;simp at *;omega
def jS:List (Int×Int)->List Int
 |[]=>[]
 |p::l=>p.1::p.2::jS l
theorem EY:∀l:List (Int×Int),O (jS l)=O l*2
 |[]=>rfl
 |p::l=>by simp only[jS,ew,EY l];omega
theorem Wq:∀(l:List (Int×Int)) (i:Nat),(jS l)[i*2]? =(l[i]?).map wm/\(jS l)[i*2+1]? =(l[i]?).map Prod.snd
 |[],i=>by simp[jS]
 |p::l,0=>by simp[jS]
 |p::l,i+1=>by
  obtain⟨h1,h2⟩:=Wq l i;have e1:(i+1)*2=i*2+1+1:=by omega
  rw[e1];exact⟨by simpa[jS] using h1,by simpa[jS] using h2⟩
theorem O0:∀l:List (Int×Int),cw l=ij (jS l)
 |[]=>rfl
 |p::l=>by
  have:=O0 l;unfold ij at this|-;simp only[cw,jS,cB,this]
theorem Ws:∀(cs:List D) {l:List (Int×Int)},BC cs=Z l->cs=cw l
 |[],l,h=>by cases h;rfl
 | .p (.int .i64 a):: .p (.int .i64 b)::r,l,h=>by
  simp only[BC] at h;obtain⟨l',h1,rfl⟩:=ak.1 h;rw[Ws r h1];rfl
theorem Wt(ps:List PS):Sort.flatK zO 2 ps.toArray=(bA (jS (ps.map Subtype.val))).toArray:=by
 have hl:O (bA (jS (ps.map Subtype.val)))=O ps*2:=by simp[bA,EY]
 refine Sort.ext_get! (by simp[hl]) λt ht=>?_;have uV:t<O ps*2:=by simpa using ht
 rw[Sort.get_flatK _ _ _ t (by simpa using uV)];have hi:t/2<O ps:=by omega
 obtain⟨q1,q2⟩:=Wq (ps.map Subtype.val) (t/2);have hg:(ps.map Subtype.val)[t/2]? =Z (ps[t/2]).val:=by simp[hi]
 rw[hg] at q1 q2;have hp:ps.toArray[t/2]! =ps[t/2]:=by simp[hi]
 rw[hp];rcases(by omega:t=t/2*2\/t=t/2*2+1) with h |h
 .have hm:t%2=0:=by omega
  rw[<-h] at q1;rw[hm];simp[bA,q1,zO]
 .have hm:t%2=1:=by omega
  rw[<-h] at q2;rw[hm];simp[bA,q2,zO]
theorem Wu:∀{l:List (Int×Int)},BD l=true->∃ps:List PS,ps.map Subtype.val=l
 |[],_=>⟨[],rfl⟩
 |x::l,h=>by
  unfold BD at h;rw[List.all_cons,bL] at h;obtain⟨ps,hp⟩:=Wu (l:=l) h.2;exact⟨⟨x,by simpa using h.1⟩::ps,by rw[cB,hp]⟩
theorem Wv(x:Int×Int):∀l,(qV x l).Perm (x::l)
 |[]=>.refl _
 |y::l=>by
  simp only[qV];split
  .exact .refl _
  .exact((Wv x l).cons y).trans (.swap x y l)
theorem O1:∀l,(eY l).Perm l
 |[]=>.refl _
 |x::l=>(Wv x _).trans ((O1 l).cons x)
theorem Ww:∀{l:List (Int×Int)},xf l=true->l.Pairwise λa b=>a.1<b.1
 |[],_=>.nil
 |[x],_=>by simp
 |x::y::l,h=>by
  simp only[xf,bL,decide_eq_true_eq] at h;have ih:=Ww (l:=y::l) h.2;refine pP.2 ⟨λz hz=>?_,ih⟩;rcases cq.1 hz with rfl |hz
  .exact h.1
  .have:=(pP.1 ih).1 z hz;omega
theorem Wx:∀{s t:List (Int×Int)},s.Perm t->s.Pairwise (λa b=>a.1<=b.1)->t.Pairwise (λa b=>a.1<b.1)->s=t
 |s,[],hp,_,_=>hp.eq_nil
 |[],x::t,hp,_,_=>absurd hp.length_eq (by simp)
 |y::s,x::t,hp,hs,ht=>by
  obtain⟨s1,s2⟩:=pP.1 hs;obtain⟨t1,t2⟩:=pP.1 ht;have lG:y=x:=by
   refine pL λhne=>?_;have h1:y∈t:=by
    rcases cq.1 (hp.mem_iff.1 (rD ..)) with h |h
    .exact absurd h hne
    .exact h
   have h2:x∈s:=by
    rcases cq.1 (hp.mem_iff.2 (rD ..)) with h |h
    .exact absurd h.symm hne
    .exact h
   have:=t1 y h1;have:=s1 x h2;omega
  subst lG;rw[Wx hp.cons_inv s2 t2]
theorem agZ:Vs.Enters Tryz.prog 61:=⟨Tryz.f61,Tryz.func61,by kernel_rfl,by kernel_rfl⟩
variable{γ:Gh}{H:Hp}{b:Nat}{w:World}
theorem Inv.ahead(I:Vs.Inv G γ H w)(n:Nat):Vs.Inv G γ H (Sort.ahead w n):=⟨I.size,I.aY,I.jq,I.mem,I.jv,I.cS,I.nodup,I.box,I.gZ,I.js,I.fZ,I.row,I.jx,I.free⟩
theorem Frame.ahead(γ:Gh)(H:Hp)(w:World)(n:Nat):Vs.Frame γ H w γ H (Sort.ahead w n):=⟨rfl,rfl,rfl,aK _,λ_ _ _=>⟨λ_=>rfl,.refl _ _⟩,λ_ _ _ _=>rfl,λ_ h=>.inl h,λ_ _ h=>.inl h,λ_ h=>.inl h⟩
theorem ag0(w:World)(o:Obj)(l:List Obj):Sort.grow w (o::l).toArray=Sort.grow (w.alloc o) l.toArray:=by
 unfold Sort.grow World.alloc;congr 1
 apply Av;simp
theorem Wy{γ:Gh}{H:Hp}:∀(l:List Obj) {w:World},Vs.Inv G γ H w->Vs.Frame γ H w γ H (Sort.grow w l.toArray)/\Vs.Inv G γ H (Sort.grow w l.toArray)
 |[],w,I=>by
  have :Sort.grow w ([]:List Obj).toArray=w:=Sort.grow_empty w;rw[this];exact⟨.refl γ H w,I⟩
 |o::l,w,I=>by
  obtain⟨F,J⟩:=I.RJ o;obtain⟨F2,J2⟩:=Wy l J;rw[ag0];exact⟨F.trans rfl F2,J2⟩
theorem ag1{vs:Array Value}{T:TypeId}{fr:Nat×Nat}(hb:w.heap[b]? =Z (.cells vs T fr))(l:List Value)(hl:O l<=vs.size):
    Sort.putRow id w b 0 l.toArray=w.setRow b (vs.toList.take 0++l++vs.toList.drop (0+O l)).toArray:=by
 have hbv:=(fG.1 hb).2;unfold Sort.putRow Sort.mapBlock World.setRow;congr 1
 apply Lb
 .simp
 .intro i h1 h2;simp only[aoL];split
  .rename_i h;subst h;rw[hbv];simp only[Sort.onCells];congr 1
   apply Av;apply lO;intro k;simp only[Sort.putCells,Array.toList_mapIdx,List.getElem?_mapIdx,bD,true_and,ez,Nat.sub_zero,pQ,tY,fF,id];by_cases hk:k<O l
   .rw[aT (by omega)];have hv:k<O vs.toList:=by simpa using vZ hk hl
    rw[aD hv];simp[hk]
   .rw[cR (by omega),lN,show O l+(k-O l)=k by omega];simp only[hk,if_false];simp
  .rfl
theorem ag3(I:Vs.Inv G γ H w){i:Nat}{cs:List D}(hb:γ.boxes[i]? =Z b)(hc:H.bx[i]? =Z cs)(hm:ay cs=false)(hn:cs≠[]){k c:Nat}(hk:k<1)(ht:γ.aY b=Z (2*102+k,c*2)):
    ∃(vs:Array Value) (fr:Nat×Nat),w.heap[b]? =Z (.cells vs 102 fr)/\vs.size=c*2/\eI γ vs cs/\clear fr 0 vs.size/\(∀j,j<c*2->w.frozen? ⟨b,j,Y⟩=false):=by
 obtain⟨vs,T,fr,q1,q2,q3,q4⟩:=I.box i b cs hb hc;rw[iu hm] at q1;have q4:=q4 hn;obtain rfl:k=0:=by omega
 obtain⟨cL,ct,z1,z2,z3⟩:=I.aY b _ _ ht;rw[q1] at z1;cases z1;refine⟨vs,fr,q1,z2,q2,q4,λj hj=>?_⟩;have:=q4 j (bD _) (by omega);simp only[World.frozen?,q1];cases hd:(decide (fr.1<=j)&&decide (j<fr.2)) with
 |false=>rfl
 |true=>simp at hd;exact(this hd).elim
theorem ag4{aa:List D}{r:bR}{H':Hp}(h:Ev aa H=Z (r,H')):wJ Tryz.prog W G 61 aa H r H':=by
 refine⟨agZ,λγ w vs I r0=>?_⟩;unfold Ev at h;split at h
 .rename_i i n f;split at h
  .rename_i cs hc;split at h
   .rename_i l hl;split at h
    .rename_i hh;obtain⟨rfl,hm,hn,hne,hlt,ag5,hsm⟩:=hh;cases h;obtain⟨v,v2,rfl,hv,hv2⟩:∃v v2,vs= #[v,v2]/\aB γ v (.ae i 102 n 2)/\aB γ v2 (.fn 62 [] []):=by
      obtain⟨hs,hr⟩:=r0;obtain⟨l⟩:=vs
      match l,hs with
      |[v,v2],_=>exact⟨v,v2,rfl,hr 0 _ rfl,hr 1 _ rfl⟩
     cases hv2 with
     |fn _ a1 cb _ _ ha uJ kl kr=>
     obtain rfl:a1= #[]:=Gc (by simpa using ha);obtain rfl:cb= #[]:=Gc (by simpa using kl);cases hv with
     |ae _ _ _ _ b c hb hcc hcm hk ht=>
     obtain⟨us,fr,q1,qs,q2,q4,zK⟩:=ag3 I.toInv hb hc hm hne hk ht;have hcs:cs.take (n*2)=ij (jS l):=by rw[Ws _ hl,O0]
     obtain⟨jc,n9⟩:=Wd q2 hcs hn;rw[EY] at jc;have qD:O l=n:=by omega
     have Mf:b<w.heap.size:=(fG.1 q1).1;have GY:n*2<=us.size:=by omega
     obtain⟨ps,jM⟩:=Wu hsm;have hpl:O ps=n:=by rw[<-qD,<-jM,bT]
     have Wz:=Wt ps;rw[jM] at Wz;have e1:Wb.f 6=61:=rfl;have eg:∀args w,(callFunc 62 args).run Tryz.prog w= .ok (.enter 62 args) w:=enters_of Tryz.func62 (by kernel_rfl) rfl;have:=AnyQ.slices_SortFunc agK 2 Tryz.isAgg102 Tryz.sizeOf102 zO (λ_=>rfl) (λx v hv=>by simp[zO] at hv;rcases hv with rfl |rfl<;>rfl) EX agY 62 #[] b 0 c ps.toArray w eg (agX b 0 _ w) (by
      intro j hj;rw[Wz] at hj|-;have hj':j<O (bA (jS l)):=by simpa using hj
      have oT:j<n*2:=by rw[<-jc];simpa[bA,EY] using hj'
      rw[ez];refine⟨?_,zK j (by omega)⟩;simp only[World.cell?,q1];have h3:=n9 j _ (aD hj');rw[h3];simp[hj']) Mf (by simp;omega)
     rw[e1] at this;have hsz:ps.toArray.size=n:=by simpa using hpl
     rw[hsz] at this;refine this.mono ?_;rintro e w' ⟨rfl,d',m,os,hp,hs,rfl⟩;have I1:=Inv.ahead I.toInv m;have F1:=Frame.ahead γ H w m;have xl:(Sort.ahead w m).heap[b]? =Z (.cells us 102 fr):=q1
     -- the order
     have hd:d'.toList.map Subtype.val=eY l:=by
      obtain⟨p1,-,p3⟩:=hp;have p4:d'.toList.Perm ps:=by
       have e2:d'.extract 0 n=d':=by rw[<-hsz,<-p1];simp
       have e3:ps.toArray.extract 0 n=ps.toArray:=by rw[<-hsz];simp
       rw[e2,e3] at p3;exact p3
      have p5:=(p4.map Subtype.val);rw[jM] at p5;refine Wx (p5.trans (O1 l).symm) ?_ (Ww ag5);refine AB.2 (C1.2 λi j hi hj cI=>?_);have hj':j<d'.size:=by simpa using hj
      have h5:=hs i j (bD _) cI (by rw[<-hsz,<-p1];exact hj');rw[JA,getElem!_pos d' j hj',getElem!_pos d' i (by omega)] at h5;simp at h5;simpa using h5
     have WA:=Wt d'.toList;rw[hd] at WA;have dZ:O (bA (jS (eY l)))=n*2:=by
      have:=(O1 l).length_eq;simp[bA,EY];omega
     obtain⟨F2,I2⟩:=I1.store (off:=0) hb hc (us:=bA (jS (eY l))) (ds:=ij (jS (eY l))) (by
      refine⟨by simp[bA,ij],λk d hd=>?_⟩;have h2:=(Jx (γ:=γ) (jS (eY l)) []).2 k d hd;simpa only[iQ] using h2) (Jw _) (by
      have :O (ij (jS (eY l)))=n*2:=by rw[<-dZ];simp[ij,bA]
      rw[this,ez];exact hn) xl q4 q2 hm hne
     rw[<-ag1 xl (bA (jS (eY l))) (by omega)] at F2 I2;have hpk:Sort.putRowK zO 2 (Sort.ahead w m) b 0 d'=Sort.putRow id (Sort.ahead w m) b 0 (bA (jS (eY l))).toArray:=by
      unfold Sort.putRowK;rw[<-WA]
     rw[<-hpk,<-O0] at F2 I2;obtain⟨F3,I3⟩:=Wy os.toList I2;have FF:=(F1.trans rfl F2).trans rfl F3;refine⟨γ,.refl γ,FF,I.up (.refl γ) FF I3,_,rfl,?_⟩;exact .undef
    .cases h
   .cases h
  .cases h
 .cases h

end Go.Proofs.YtgplgbonlnodeaaGreatDoor

namespace Go.Proofs.YtgplgbonlnodeaaGreatDoor
theorem rf{α:Sort _}(a:α):a=a:=rfl
def EZ:SC->List (List Nat×SC)
 | .loop k b=>(k,b)::EZ b
 | .seq a b | .cond _ a b | .mA _ _ _ _ a b=>EZ a++EZ b
 | .block _ b | .scope b | .loc b | .mz b=>EZ b
 |_=>[]

noncomputable def bd (x:Option FC) (n:Nat):SC:=(((x.map λf=>EZ f.body).getD []).getD n ([],.skip)).2
def post(Q:Out->Env->Hp->Prop):Option (Out×St)->Prop
 |some (o,⟨e,H⟩)=>Q o e H
 |none=>False

@[simp] theorem aq4(Q:Out->Env->Hp->Prop)(o:Out)(e:Env)(H:Hp):post Q (Z (o,⟨e,H⟩))↔Q o e H:=Iff.rfl
variable{E0:Env}{fc:FC}{H0:Hp}{aa:List PD}{f:Nat}{x:Option (Out×St)}{Q:Out->Env->Hp->Prop}{b:SC}{α:Type}{y:α->D}
theorem bC(h:post Q x):∃o e H,x=Z (o,⟨e,H⟩)/\Q o e H:=by
 cases x with
 |none=>exact h.elim
 |some y=>obtain⟨o,e,H⟩:=y;exact⟨o,e,H,rfl,h⟩
theorem aG{R:Out->Env->Hp->Prop}(h:post Q x)(hq:∀o e H,Q o e H->R o e H):post R x:=by
 cases x with
 |none=>exact h.elim
 |some y=>obtain⟨o,e,H⟩:=y;exact hq _ _ _ h

variable {c : br} {G : Nat -> Option (List PD)}

@[simp] theorem E4(x:PD):(D.p x).one=x.one:=rfl
theorem JB{x:PD}(h:x.one=true):(D.p x).cells=[.p x]:=by cases x<;>first |rfl |cases h
theorem qW{x:PD}(h:x.one=true):x.cells=[x]:=by cases x<;>first |rfl |cases h
theorem JC(cs:List PD):(D.p (.agg cs)).cells=cs.map .p:=rfl
theorem xm(cs:List PD):(PD.agg cs).cells=cs:=rfl
theorem JD(cs:List D):(D.agg cs).cells=cs:=rfl
theorem JE(i o:Nat):(D.box i o).cells=[.box i o]:=rfl
theorem JF(t e sz:Nat)(es:List PD):(D.aX t e sz es).cells=[.aX t e sz es]:=rfl
theorem JG(e sz:Nat)(es:List PD):(D.cC e sz es).cells=[.cC e sz es]:=rfl
theorem JH(i e n sz:Nat):(D.ae i e n sz).cells=[.ae i e n sz]:=rfl
theorem JI(i o n:Nat)(c:Option Nat)(sz:Nat):(D.bH i o n c sz).cells=[.bH i o n c sz]:=rfl
theorem JJ(f:Nat)(a c:List D):(D.fn f a c).cells=[.fn f a c]:=rfl
theorem JK(i:Nat):(D.dD i).cells=[.dD i]:=rfl
theorem E5(k:IntKind)(n:Int):(D.p (.int k n)).cells=[.p (.int k n)]:=rfl
theorem JL(b:Bool):(D.p (.bool b)).cells=[.p (.bool b)]:=rfl
theorem JM(s:List UInt8):(D.p (.str s)).cells=[.p (.str s)]:=rfl
theorem JN(sz:Nat)(es:List PD):(D.p (.slice sz es)).cells=[.p (.slice sz es)]:=rfl
theorem JO:(D.p .aj).cells=[.p .aj]:=rfl
theorem JP(k:IntKind)(n:Int):(PD.int k n).cells=[.int k n]:=rfl
theorem BX(b:Bool):(PD.bool b).cells=[.bool b]:=rfl
theorem JQ(s:List UInt8):(PD.str s).cells=[.str s]:=rfl
@[simp] theorem aq5(sz:Nat):(PD.emp sz).one=true:=rfl
@[simp] theorem aq6:PD.kB.one=true:=rfl
theorem JR(b:Bool)(x y:SC)(s:St):Iy c G (.p (.bool b)) x y s=if b=true then aq c G aM x s else aq c G aM y s:=rfl
theorem JS(keep:List Nat)(b:Bool)(o:SO)(r:List SO)(env:Env)(H:Hp):Br c G keep (Z b) o r env H=if b=true then opsV c G keep (cH c G env H o.k) o.dst r env else r9 c G keep r (put o.dst .undef env) H:=by
 cases b<;>rfl
theorem JT(keep:List Nat)(pairs:List (Nat×Nat))(un:Env)(b:Bool)(o:SO)(r:List SO)(env:Env)(H:Hp)(acc:List (Nat×Nat)):y0 c G keep pairs un (Z b) o r env H acc=if b=true then yZ c G keep pairs un (cH c G env H o.k) o r env H acc else l9 c G keep pairs un r (put o.dst .undef env) H (acc++[(0,0)]):=by
 cases b<;>rfl
theorem WB{Q:α->Out->Env->Hp->Prop}(h:post (λo e H=>∃r,Q r o e H) x):∃r,post (Q r) x:=by
 obtain⟨o,e,H,hx,r,hr⟩:=bC h;exact⟨r,by rw[hx];exact hr⟩
theorem ag7(h:post (λo e H=>post Q (se c G (Z (o,⟨e,H⟩)) b)) x):post Q (se c G x b):=by
 obtain⟨o,e,H,hx,hr⟩:=bC h;rw[hx];exact hr
theorem ag8{k:Nat}(h:post (λo e H=>post Q (sf k (Z (o,⟨e,H⟩)))) x):post Q (sf k x):=by
 obtain⟨o,e,H,hx,hr⟩:=bC h;rw[hx];exact hr
def nx(keep:List Nat)(E:Env)(H:Hp):Out->Env->Hp->Prop:=λo e H'=>o= .norm/\H'=H/\e.keep keep=E.keep keep
theorem WC{keep:List Nat}{env gj:Env}{H:Hp}(h:env.keep keep=gj.keep keep):dB c G keep b ⟨env,H⟩=dB c G keep b ⟨gj,H⟩:=
 Uv (by dsimp only;rw[h])
theorem dT{σ:Type}{keep:List Nat}(E:σ->Env)(Hh:σ->Hp)(m:σ->Nat)(I:σ->Prop)(Q:Out->Env->Hp->Prop)
    (h:∀s,I s->post (λo e H=>(∃s',I s'/\m s'<m s/\nx keep (E s') (Hh s') o e H)\/(o≠.norm/\Q o e H)) (aq c G aM b ⟨(E s).keep keep,Hh s⟩)):
    ∀s,I s->post Q (dB c G keep b ⟨E s,Hh s⟩):=by
 have key:∀n s,m s=n->I s->post Q (dB c G keep b ⟨E s,Hh s⟩):=by
  intro n
  induction n using Nat.strongRecOn with
  |_ n ih=>
   intro s hm hi;obtain⟨o,e,H,hx,hq⟩:=bC (h s hi);rcases hq with⟨s',hi',LR,ho,hH,he⟩ |⟨ho,hq⟩
   .subst ho;rw[Uw hx,WC he,hH];exact ih (m s') (hm▸LR) s' rfl hi'
   .rw[Ux hx ho];exact hq
 exact λs=>key (m s) s rfl
theorem lI{keep:List Nat}(E:Nat->Env)(Hh:Nat->Hp)(n:Nat)(I:Nat->Prop)(Q:Out->Env->Hp->Prop)(h0:I 0)
    (h:∀i,i<n->I i->post (λo e H=>(I (i+1)/\nx keep (E (i+1)) (Hh (i+1)) o e H)\/(o≠.norm/\Q o e H)) (aq c G aM b ⟨(E i).keep keep,Hh i⟩))
    (hn:I n->post (λo e H=>o≠.norm/\Q o e H) (aq c G aM b ⟨(E n).keep keep,Hh n⟩)):
    post Q (dB c G keep b ⟨E 0,Hh 0⟩):=by
 refine dT E Hh (λi=>n-i) (λi=>i<=n/\I i) Q ?_ 0 ⟨bD _,h0⟩;rintro i ⟨hi,hI⟩;rcases fA i n with hlt |kH
 .refine aG (h i hlt hI) ?_;rintro o e H (⟨h1,h2⟩ |h1)
  .exact .inl ⟨i+1,⟨hlt,h1⟩,by omega,h2⟩
  .exact .inr h1
 .have :i=n:=by omega
  subst this;exact aG (hn hI) λo e H h=>.inr h
theorem BZ{keep:List Nat}{E1:Env}{H1:Hp}(h:post (nx keep E1 H1) (aq c G aM b ⟨E0.keep keep,H0⟩))(h2:post Q (dB c G keep b ⟨E1,H1⟩)):post Q (dB c G keep b ⟨E0,H0⟩):=by
 obtain⟨o,e,H,hx,rfl,rfl,he⟩:=bC h;rw[Uw hx,WC he];exact h2
theorem ag9{keep:List Nat}(h:post (λo e H=>o≠.norm/\Q o e H) (aq c G aM b ⟨E0.keep keep,H0⟩)):post Q (dB c G keep b ⟨E0,H0⟩):=by
 obtain⟨o,e,H,hx,ho,hq⟩:=bC h;rw[Ux hx ho];exact hq
theorem aha{keep:List Nat}(E:Nat->Env)(H:Hp)(n:Nat)(P:Nat->Prop)(x:Nat)(Q R:Env->Prop)
    (h:∀i,i<n->(∀j,j<i->P j)->P i->post (nx keep (E (i+1)) H) (aq c G aM b ⟨(E i).keep keep,H⟩))
    (hr:∀i,i<n->(∀j,j<i->P j)->¬P i->post (λo e H'=>o= .ret/\H'=H/\R e) (aq c G aM b ⟨(E i).keep keep,H⟩))
    (hn:post (λo e H'=>o= .exit x/\H'=H/\Q e) (aq c G aM b ⟨(E n).keep keep,H⟩)):
    (∃e,dB c G keep b ⟨E 0,H⟩=Z (.exit x,⟨e,H⟩)/\Q e/\∀i,i<n->P i)\/(∃e,dB c G keep b ⟨E 0,H⟩=Z (.ret,⟨e,H⟩)/\R e/\¬∀i,i<n->P i):=by
 have:=lI (c:=c) (G:=G) (keep:=keep) (b:=b) E (λ_=>H) n (λi=>∀j,j<i->P j) (λo e H'=>H'=H/\((o= .exit x/\Q e/\∀i,i<n->P i)\/(o= .ret/\R e/\¬∀i,i<n->P i))) (λj hj=>by omega) ?_ ?_
 .obtain⟨o,e,H',hx,rfl,hq⟩:=bC this;rcases hq with⟨rfl,h1,h2⟩ |⟨rfl,h1,h2⟩
  .exact .inl ⟨e,hx,h1,h2⟩
  .exact .inr ⟨e,hx,h1,h2⟩
 .intro i hi hI;by_cases hp:P i
  .refine aG (h i hi hI hp) λo e H' hh=>.inl ⟨λj hj=>?_,hh⟩;rcases fA j i with h1 |h1
   .exact hI j h1
   .have :j=i:=by omega
    exact this▸hp
  .refine aG (hr i hi hI hp) λo e H' hh=>.inr ?_;obtain⟨rfl,rfl,h1⟩:=hh;exact⟨by simp,rfl,.inr ⟨rfl,h1,λhh=>hp (hh i hi)⟩⟩
 .intro hI;refine aG hn λo e H' hh=>?_;obtain⟨rfl,rfl,h1⟩:=hh;exact⟨by simp,rfl,.inl ⟨rfl,h1,hI⟩⟩
theorem zP{keep:List Nat}(E:Nat->Env)(H:Hp)(n:Nat)(P:Nat->Prop)(x:Nat)(Q R:Env->Prop)
    (h:∀i,i<n->P i->post (nx keep (E (i+1)) H) (aq c G aM b ⟨(E i).keep keep,H⟩))
    (hr:∀i,i<n->¬P i->post (λo e H'=>o= .ret/\H'=H/\R e) (aq c G aM b ⟨(E i).keep keep,H⟩))
    (hn:post (λo e H'=>o= .exit x/\H'=H/\Q e) (aq c G aM b ⟨(E n).keep keep,H⟩)):
    (∃e,dB c G keep b ⟨E 0,H⟩=Z (.exit x,⟨e,H⟩)/\Q e/\∀i,i<n->P i)\/(∃e,dB c G keep b ⟨E 0,H⟩=Z (.ret,⟨e,H⟩)/\R e/\¬∀i,i<n->P i):=
 aha E H n P x Q R (λi hi _=>h i hi) (λi hi _=>hr i hi) hn
theorem mL{keep:List Nat}(E:Nat->Env)(H:Hp)(n:Nat)(P:Nat->Prop)(x:Nat)(Q R:Env->Prop)
    (h:∀i,i<n->post (λo e H'=>(P i/\nx keep (E (i+1)) H o e H')\/(o= .ret/\H'=H/\R e)) (aq c G aM b ⟨(E i).keep keep,H⟩))
    (hn:post (λo e H'=>o= .exit x/\H'=H/\Q e) (aq c G aM b ⟨(E n).keep keep,H⟩)):
    (∃e,dB c G keep b ⟨E 0,H⟩=Z (.exit x,⟨e,H⟩)/\Q e/\∀i,i<n->P i)\/(∃e,dB c G keep b ⟨E 0,H⟩=Z (.ret,⟨e,H⟩)/\R e):=by
 have:=lI (c:=c) (G:=G) (keep:=keep) (b:=b) E (λ_=>H) n (λi=>∀j,j<i->P j) (λo e H'=>H'=H/\((o= .exit x/\Q e/\∀i,i<n->P i)\/(o= .ret/\R e))) (λj hj=>by omega) ?_ ?_
 .obtain⟨o,e,H',hx,rfl,hq⟩:=bC this;rcases hq with⟨rfl,h1,h2⟩ |⟨rfl,h1⟩
  .exact .inl ⟨e,hx,h1,h2⟩
  .exact .inr ⟨e,hx,h1⟩
 .intro i hi hI;refine aG (h i hi) ?_;rintro o e H' (⟨hp,hh⟩ |⟨rfl,rfl,h1⟩)
  .refine .inl ⟨λj hj=>?_,hh⟩;rcases fA j i with h1 |h1
   .exact hI j h1
   .have :j=i:=by omega
    exact this▸hp
  .exact .inr ⟨by simp,rfl,.inr ⟨rfl,h1⟩⟩
 .intro hI;refine aG hn λo e H' hh=>?_;obtain⟨rfl,rfl,h1⟩:=hh;exact⟨by simp,rfl,.inl ⟨rfl,h1,hI⟩⟩
def fin(av:Bool)(d:D)(H:Hp)(y:D):Prop:=∃d1,(if av then(d.av 0 H 8).ren (below 0) Z else Z d)=Z d1/\d1.ren (λ_=>Y) (λ_=>Y)=Z y

@[simp] theorem ahb(av:Bool)(x y:PD)(H:Hp):fin av (.p x) H (.p y)↔x=y:=by
 unfold fin;cases av
 .simp[D.ren]
 .simp[D.av,D.ren]

@[simp] theorem aq7(av:Bool)(t e sz:Nat)(es:List PD)(H:Hp)(y:D):fin av (.aX t e sz es) H y↔y= .p (.slice sz es):=by
 unfold fin;cases av
 .simp[D.ren,eq_comm]
 .simp[D.av,D.ren,eq_comm]
theorem kj(k:Nat)(H:Hp):∀(n:Nat) (x:PD),(D.p x).av k H n= .p x
 | 0,_=>by unfold D.av;rfl
 |n+1,_=>by unfold D.av;rfl
theorem WD(av:Bool)(xs:List PD)(H:Hp):fin av (.ba (xs.map .p)) H (.ba (xs.map .p)):=by
 have h1:∀f g,(D.ba (xs.map .p)).ren f g=Z (.ba (xs.map .p)):=λf g=>by simp[D.ren]
 unfold fin;refine⟨.ba (xs.map .p),?_,h1 _ _⟩;cases av
 .rfl
 .have h2:(D.ba (xs.map .p)).av 0 H 8= .ba (xs.map .p):=by
   unfold D.av;simp[kj]
  rw[if_pos rfl,h2,h1]

@[simp] theorem aq8(av:Bool)(a b c d:PD)(H:Hp):fin av (.ba [.p a,.p b]) H (.ba [.p c,.p d])↔a=c/\b=d:=by
 constructor
 .intro h;obtain⟨d1,h1,h2⟩:=h;obtain⟨d2,h3,h4⟩:=WD av [a,b] H;have e:d1=d2:=by
   rw[show[D.p a,D.p b]=[a,b].map D.p from rfl] at h1;rw[h1] at h3;cases h3;rfl
  subst e;rw[h2] at h4;simp at h4;exact⟨h4.1.symm,h4.2.symm⟩
 .rintro⟨rfl,rfl⟩;exact WD av [a,b] H
theorem ahc(k:Nat)(H:Hp)(t e sz:Nat)(es:List PD):∀n:Nat,(D.aX t e sz es).av k H n= .aX t e sz es
 | 0=>by unfold D.av;rfl
 |n+1=>by unfold D.av;rfl
theorem JU(av:Bool)(a:PD)(t e sz:Nat)(es:List PD)(H:Hp)(y:D):fin av (.agg [.p a,.aX t e sz es]) H y↔y= .agg [.p a,.p (.slice sz es)]:=by
 have h1:(D.agg [.p a,.aX t e sz es]).av 0 H 8= .agg [.p a,.aX t e sz es]:=by
  unfold D.av;simp[kj,ahc,cX,gI]
 unfold fin;rw[h1];constructor
 .rintro⟨d1,g1,g2⟩;have :d1= .agg [.p a,.aX t e sz es]:=by
   cases av
   .cases g1;rfl
   .simp[D.ren,D.aZ] at g1;exact g1.symm
  subst this;simp[D.ren,D.aZ] at g2;exact g2.symm
 .rintro rfl;refine⟨.agg [.p a,.aX t e sz es],?_,by simp[D.ren,D.aZ]⟩;cases av
  .rfl
  .simp[D.ren,D.aZ]
def gives(av:Bool)(res:List pS)(y:D):Out->Env->Hp->Prop:=λo e H=>(o= .ret\/o= .norm)/\∃d,mD pg.G e H res=Z d/\fin av d H y
theorem zQ{aa:List D}{y:D}(hF:pg.F f=Z fc)(kn:pg.lib f aa ⟨[],[]⟩=Y)(hn:O aa=fc.np)(hd:fc.gW=Y)(hr:D.ai aa=[])(ht:D.aC aa=[])(ha:D.aZ (idx []) (idx []) aa=Z aa)
    (h:post (gives fc.av fc.res y) (aq (call pg) pg.G aM fc.body ⟨entry 0 aa,⟨[],[]⟩⟩)):
    ∀H,au (call pg) f aa H=Z (.val y,H):=by
 intro H;obtain⟨o,e,H1,hx,ho,d,hr1,d1,h1,h2⟩:=bC h;have fu:finish pg.G fc.res (Z (o,⟨e,H1⟩))=Z (.val d,H1):=by
  rcases ho with rfl |rfl
  .simp only[finish,hr1]
  .simp only[finish,hr1]
 have hc:∃Hl,call pg f aa ⟨[],[]⟩=Z (.val d1,Hl):=by
  cases hz:fc.av with
  |false=>
   rw[hz] at h1;cases h1;exact⟨H1,tD kn hF hn (by simp only[hz,mE,iE,hd,hx,fu];rfl)⟩
  |true=>
   rw[hz,if_pos rfl] at h1;exact⟨⟨[],H1.tk⟩,tD kn hF hn (by
    simp only[hz,mE,iE,hd,hx,fu,if_true,fy,ui,fH,tY,aH,bR.av,bR.ren,h1,bD])⟩
 obtain⟨Hl,hc⟩:=hc;exact NA hc hr ht ha h2
theorem aR{y:D}(hF:pg.F f=Z fc)(kn:pg.lib f (aa.map .p) ⟨[],[]⟩=Y)(hn:O aa=fc.np)(hd:fc.gW=Y)
    (h:post (gives fc.av fc.res y) (aq (call pg) pg.G aM fc.body ⟨entry 0 (aa.map .p),⟨[],[]⟩⟩)):
    ∀H,au (call pg) f (aa.map .p) H=Z (.val y,H):=
 zQ hF kn (by simpa using hn) hd (qP aa) (tB aa) (qO _ _ aa) h
theorem xn{R:α->Prop}(hF:pg.F f=Z fc)(kn:pg.lib f (aa.map .p) ⟨[],[]⟩=Y)(hn:O aa=fc.np)(hd:fc.gW=Y)
    (h:post (λo e H=>∃r,R r/\gives fc.av fc.res (y r) o e H) (aq (call pg) pg.G aM fc.body ⟨entry 0 (aa.map .p),⟨[],[]⟩⟩)):
    ∃r,(∀H,au (call pg) f (aa.map .p) H=Z (.val (y r),H))/\R r:=by
 obtain⟨r,hr⟩:=WB h;obtain⟨_,_,_,_,h2⟩:=bC hr;exact⟨r,aR hF kn hn hd (aG hr λ_ _ _ h=>h.2),h2.1⟩
theorem WE(hF:pg.F f=Z fc)(kn:pg.lib f (aa.map .p) ⟨[],[]⟩=Y)(hn:O aa=fc.np)(hd:fc.gW=Y)
    (h:post (λo e H=>∃r,gives fc.av fc.res (y r) o e H) (aq (call pg) pg.G aM fc.body ⟨entry 0 (aa.map .p),⟨[],[]⟩⟩)):
    ∃r,∀H,au (call pg) f (aa.map .p) H=Z (.val (y r),H):=by
 obtain⟨r,hr⟩:=WB h;exact⟨r,aR hF kn hn hd hr⟩
theorem E6(f g:Nat->Option Nat):∀(e:Env) (s:Nat),Env.get (e.map λy=>(y.1,(y.2.ren f g).getD .dead)) s=((e.get s).ren f g).getD .dead
 |[],s=>by simp[Env.get,D.ren]
 |(t,d)::e,s=>by
  simp only[cB,Env.get];split
  .rfl
  .exact E6 f g e s

end Go.Proofs.YtgplgbonlnodeaaGreatDoor

namespace Go.Proofs.YtgplgbonlnodeaaGreatDoor
theorem jT(n sz b o:Nat)(i:Int):dE (Z n) sz (.box b o) i=if 0<=i/\i<n then Z (.box b (o+i.toNat*sz)) else Y:=rfl
theorem JV(n sz:Nat)(cs:List PD)(o:Nat)(i:Int):dE (Z n) sz (.ro cs o) i=if 0<=i/\i<n then Z (.ro cs (o+i.toNat*sz)) else Y:=rfl
attribute [local simp] cH aP fY put Env.get Env.keep entry aA.ev pU yi aw cutAt yg D.uf D.lS u8 AG ye AH kD sub AJ rG PD.eqv j7 cls gY ug aV lg oL qx eR sT finish mD rJ aH D.ai D.refs D.aC D.bk cX gI aF pT fg dJ D.iR D.eZ sQ yh sS D.j6 ay IB IC Bw ID IE jT JV gives nx JR JS JT rF E4 bX below Out.ren D.ren D.aZ E6 JU JB qW JC xm JD JE JF JG JH JI JJ JK E5 JL JM JN JO JP BX JQ
def ax(a:Sl Int):PD:=eh 1 (a.map (PD.int .i64))
theorem bG(a:Sl Int):dF 1 (.p (ax a))=Z (O (els a)):=nh 1 _ a
theorem eK{a:Sl Int}{k:Nat}(h:k<O (els a)):dE Y 1 (.p (ax a)) (k:Int)=Z (.ro [.int .i64 (els a)[k]] 0):=ni h
@[simp] theorem aq9(a:Sl Int):(D.p (ax a)).one=true:=aeY 1 _
@[simp] theorem ara(a:Sl Int):(ax a).one=true:=nj 1 _
structure Rl where
 ar:Int
 tu:Sl Int
def Rl.p(r:Rl):PD:=.agg [.int .i64 r.ar,ax r.tu]
def oA(s:Sl Rl):PD:=eh 2 (s.map Rl.p)
theorem ahd(s:Sl Rl):dF 1 (.p (oA s))=Z (O (els s)):=nh 2 _ s
theorem ahe{s:Sl Rl}{k:Nat}(h:k<O (els s)):dE Y 2 (.p (oA s)) (k:Int)=Z (.ro [.int .i64 (els s)[k].ar,ax (els s)[k].tu] 0):=ni h
@[simp] theorem arb(a:Sl Rl):(oA a).one=true:=nj 2 _
def qd(s:Sl (Sl Rl)):PD:=eh 1 (s.map oA)
theorem ahf(s:Sl (Sl Rl)):dF 1 (.p (qd s))=Z (O (els s)):=nh 1 _ s
theorem O2(a:Sl Rl):(oA a).cells=[oA a]:=by
 unfold oA;cases a with
 |nil=>rfl
 |cJ=>rfl
 |of l=>cases l<;>rfl
theorem WG{s:Sl (Sl Rl)}{k:Nat}(h:k<O (els s)):dE Y 1 (.p (qd s)) (k:Int)=Z (.ro [oA (els s)[k]] 0):=by
 have:=ni (sz:=1) (f:=oA) h;rw[O2] at this;exact this
@[simp] theorem arc(a:Sl (Sl Rl)):(qd a).one=true:=nj 1 _
structure Fi where
 nm:List UInt8
 so:Sl Int
 va:Bool
def Fi.p(f:Fi):PD:=.agg [.str f.nm,ax f.so,.bool f.va]
def fT(s:Sl Fi):PD:=eh 3 (s.map Fi.p)
theorem il(s:Sl Fi):dF 1 (.p (fT s))=Z (O (els s)):=nh 3 _ s
theorem py{s:Sl Fi}{k:Nat}(h:k<O (els s)):dE Y 3 (.p (fT s)) (k:Int)=Z (.ro [.str (els s)[k].nm,ax (els s)[k].so,.bool (els s)[k].va] 0):=ni h
@[simp] theorem ard(a:Sl Fi):(fT a).one=true:=nj 3 _
structure Bn where
 lo:Rl
 up:Rl
def Bn.p(b:Bn):PD:=.agg [.int .i64 b.lo.ar,ax b.lo.tu,.int .i64 b.up.ar,ax b.up.tu]
def cM(s:Sl Bn):PD:=eh 4 (s.map Bn.p)
theorem iL(s:Sl Bn):dF 1 (.p (cM s))=Z (O (els s)):=nh 4 _ s
theorem pz{s:Sl Bn}{k:Nat}(h:k<O (els s)):dE Y 4 (.p (cM s)) (k:Int)=Z (.ro [.int .i64 (els s)[k].lo.ar,ax (els s)[k].lo.tu,.int .i64 (els s)[k].up.ar,ax (els s)[k].up.tu] 0):=ni h
@[simp] theorem arf(a:Sl Bn):(cM a).one=true:=nj 4 _

end Go.Proofs.YtgplgbonlnodeaaGreatDoor

namespace Go.Proofs.YtgplgbonlnodeaaGreatDoor
open Go
def ahg:SC:=
 (.seq (.region [0,3,7,8,9] [zo 9 (.bin .lss (.t 8) (.t 7))]) (.seq (.cond (.t 9) .skip (.exit 0)) (.seq (.block 1 (.seq (.region [0,3,5,7,8] [zm 10 8,zm 5 10]) (.seq (.draw [0,3,5,7,8,16] [(0,4)] [zL 11 3 3,zm 12 0,zm 13 5,zo 14 (.iaddr Y 3 (.t 12) (.t 13)),zL 15 3 14,zo 16 (.eqs false [1,1,1] (.t 11) (.t 15))]) (.cond (.t 16) (.seq (.region [4] [zm 17 5,
 zm 4 17]) .ret) .skip)))) (.region [0,3,7,8] [zo 18 (.bin .add (.t 8) (zI 1)),zm 8 18]))))
def ahh:FC where
 nt:=19
 np:=2
 res:=[.t 4]
 body:=(.seq (.region [0,3] [zo 3 (.box (.t 1)),zi 4 0]) (.seq (.seq (.region [0,3,7,8] [zm 6 0,ze 7 1 6,zi 8 0]) (.block 0 (.loop [0,3,7,8] ahg))) (.seq (.region [4] [zi 4 (-1)]) .ret)))
 av:=true
def ahi:SC:=
 (.seq (.seq (.region [4,5,6,8,11,12,13,14,15,87] [zm 83 15,zf 84 12 0,zl 85 84,ze 86 1 85,zo 87 (.bin .lss (.t 83) (.t 86))]) (.cond (.t 87) .skip (.exit 0))) (.seq (.block 1 (.seq (.draw [4,5,6,8,11,12,13,14,15,123] [(7,12),(10,12),(7,15),(10,15)] [zm 90 15,zf 91 8 0,zl 92 91,ze 93 1 92,zo 94 (.bin .lss (.t 90) (.t 93)),zm 95 94,zg 96 (.faddr (.t 12) 0) 95 true,zg 97
 (.load Y (.t 96)) 95 true,zg 98 (.move (.t 15)) 95 true,zg 99 (.iaddr Y 3 (.t 97) (.t 98)) 95 true,zg 100 (.load (Z 3) (.t 99)) 95 true,zg 101 (.faddr (.t 8) 0) 95 true,zg 102 (.load Y (.t 101)) 95 true,zg 103 (.move (.t 15)) 95 true,zg 104 (.iaddr Y 3 (.t 102) (.t 103)) 95 true,zg 105 (.load (Z 3) (.t 104)) 95 true,zg 106 (.eqs true [1,1,1] (.t 100)
 (.t 105)) 95 true,za 107 95 106,zm 108 107,zg 109 (.move (.t 15)) 108 false,zg 110 (.faddr (.t 8) 0) 108 false,zg 111 (.load Y (.t 110)) 108 false,zg 112 (.len 1 (.t 111)) 108 false,zg 113 (.bin .geq (.t 109) (.t 112)) 108 false,zg 114 (.move (.t 113)) 108 false,zg 115 (.faddr (.t 12) 0) 114 true,zg 116 (.load Y (.t 115)) 114 true,zg 117 (.move (.t 15)) 114 true,zg 118
 (.iaddr Y 3 (.t 116) (.t 117)) 114 true,zg 119 (.faddr (.t 118) 0) 114 true,zg 120 (.load Y (.t 119)) 114 true,zg 121 (.bin .neq (.t 120) (zI 1)) 114 true,zg 122 (.pick (.t 114) (.t 121) (zB false)) 108 false,zb 123 108 122]) (.cond (.t 123) (.seq (.region [10] [zo 10 (.move (zB false))]) .ret) .skip))) (.region [4,5,6,8,11,12,13,14,15] [zm 88 15,zo 89 (.bin .add
 (.t 88) (zI 1)),zm 15 89])))
def ahj:SC:=
 (.loc (.seq (.seq (.region [4,5,6,11,12,13,14,16,17,155] [zm 151 17,zf 152 5 1,zl 153 152,ze 154 1 153,zo 155 (.bin .lss (.t 151) (.t 154))]) (.cond (.t 155) .skip (.exit 4))) (.seq (.block 5 (.seq (.draw [4,5,6,11,12,13,14,16,17,189] [(0,4),(0,7),(11,15),(11,18),(11,22),(15,22),(18,22),(20,22),(11,25),(15,25),(18,25),(20,25),(11,28),(15,28),(18,28),(20,28)] [zL 158 1 12,
 zm 159 13,zm 160 16,zo 161 (.iaddr Y 1 (.t 159) (.t 160)),zl 162 161,zm 163 17,zo 164 (.iaddr Y 2 (.t 162) (.t 163)),zL 165 2 164,zc 166 37 [.t 158,.t 165],zo 167 (.un .not (.t 166)),zm 168 167,zg 169 (.load (Z 1) (.t 12)) 168 false,zg 170 (.move (.t 13)) 168 false,zg 171 (.move (.t 16)) 168 false,zg 172 (.iaddr Y 1 (.t 170) (.t 171)) 168 false,zg 173 (.load Y
 (.t 172)) 168 false,zg 174 (.move (.t 17)) 168 false,zg 175 (.iaddr Y 2 (.t 173) (.t 174)) 168 false,zg 176 (.load (Z 2) (.t 175)) 168 false,zg 177 (.move (.t 4)) 168 false,zg 178 (.call (.c (.fn 39 [] [])) [.t 169,.t 176,.t 177]) 168 false,zg 179 (.faddr (.t 14) 2) 168 false,zg 180 (.load Y (.t 179)) 168 false,zg 181 (.move (.t 16)) 168 false,zg 182 (.iaddr Y 1
 (.t 180) (.t 181)) 168 false,zg 183 (.load Y (.t 182)) 168 false,zg 184 (.move (.t 17)) 168 false,zg 185 (.iaddr Y 2 (.t 183) (.t 184)) 168 false,zg 186 (.load (Z 2) (.t 185)) 168 false,zg 187 (.call (.c (.fn 38 [] [])) [.t 178,.t 186]) 168 false,zg 188 (.un .not (.t 187)) 168 false,zb 189 168 188]) (.cond (.t 189) (.seq (.region [10] [zo 10 (.move
 (zB false))]) .ret) .skip))) (.region [4,5,6,11,12,13,14,16,17] [zm 156 17,zo 157 (.bin .add (.t 156) (zI 1)),zm 17 157]))))
def ahk:SC:=
 (.loc (.seq (.seq (.region [4,5,6,11,12,13,14,16,127] [zm 124 16,zf 125 6 1,zl 126 125,zo 127 (.bin .lss (.t 124) (.t 126))]) (.cond (.t 127) .skip (.exit 2))) (.seq (.block 3 (.seq (.seq (.draw [4,5,6,11,12,13,14,16,150] [(3,6),(11,17),(14,17)] [zm 130 13,zm 131 16,zo 132 (.iaddr Y 1 (.t 130) (.t 131)),zl 133 132,ze 134 1 133,zf 135 5 1,zl 136 135,ze 137 1 136,zo 138
 (.bin .neq (.t 134) (.t 137)),zm 139 138,zg 140 (.faddr (.t 14) 2) 139 false,zg 141 (.load Y (.t 140)) 139 false,zg 142 (.move (.t 16)) 139 false,zg 143 (.iaddr Y 1 (.t 141) (.t 142)) 139 false,zg 144 (.load Y (.t 143)) 139 false,zg 145 (.len 1 (.t 144)) 139 false,zg 146 (.faddr (.t 5) 1) 139 false,zg 147 (.load Y (.t 146)) 139 false,zg 148 (.len 1
 (.t 147)) 139 false,zg 149 (.bin .neq (.t 145) (.t 148)) 139 false,zb 150 139 149]) (.cond (.t 150) (.seq (.region [10] [zo 10 (.move (zB false))]) .ret) .skip)) (.seq (.region [4,5,6,11,12,13,14,16,17] [zi 17 0]) (.block 4 (.loop [4,5,6,11,12,13,14,16,17] ahj))))) (.region [4,5,6,11,12,13,14,16] [zm 128 16,zo 129 (.bin .add (.t 128) (zI 1)),zm 16 129]))))
def fc8:FC where
 nt:=191
 np:=5
 res:=[.t 10]
 body:=(.seq (.region [2,4,5,6,8] [zo 5 (.box (.t 0)),zo 6 (.box (.t 1)),zo 8 (.box (.t 3)),zo 10 (.move (zB false))]) (.seq (.region [2,4,5,6,8,11] [zc 18 10 [],zm 11 18]) (.seq (.seq (.region [2,4,5,6,8,11,46] [zL 19 4 5,zL 20 2 6,zm 21 2,zc 22 11 [.t 19,.t 20,.t 21],zo 23 (.un .not (.t 22)),zm 24 23,zg 25 (.move (.t 4)) 24 false,zg 26 (.len 1 (.t 25)) 24 false,zg 27
  (.bin .gtr (.t 26) (zI 200)) 24 false,zb 28 24 27,zm 29 28,zg 30 (.faddr (.t 8) 0) 29 false,zg 31 (.load Y (.t 30)) 29 false,zg 32 (.len 1 (.t 31)) 29 false,zg 33 (.bin .gtr (.t 32) (zI 60)) 29 false,zb 34 29 33,zm 35 34,zg 36 (.load (Z 1) (.t 8)) 35 false,zg 37 (.call (.c (.fn 13 [] [])) [.t 36]) 35 false,zg 38 (.un .not (.t 37)) 35 false,zb 39 35 38,zm 40 39,zg 41
  (.load (Z 4) (.t 5)) 40 false,zg 42 (.load (Z 2) (.t 6)) 40 false,zg 43 (.move (.t 2)) 40 false,zg 44 (.call (.c (.fn 14 [] [])) [.t 41,.t 42,.t 43]) 40 false,zg 45 (.bin .gtr (.t 44) (zI 200)) 40 false,zb 46 40 45]) (.cond (.t 46) (.seq (.region [10] [zm 47 11,zm 10 47]) .ret) .skip)) (.seq (.region [2,4,5,6,8,11,12,13] [zL 49 4 5,zL 50 2 6,zm 51 2,zL 52 1 8,zc 53 16
  [.t 49,.t 50,.t 51,.t 52],zm 48 53,zx 54 48 0,zx 55 48 1,zo 12 (.alloc [.aj]),zs 1 12 54,zm 13 55]) (.seq (.region [4,5,6,8,11,12,13,14] [zL 56 4 5,zL 57 2 6,zm 58 2,zm 59 4,zc 60 24 [.t 56,.t 57,.t 58,.t 59],zo 14 (.alloc [.aj,.int .i64 0,.aj,.int .i64 0]),zs 4 14 60]) (.seq (.seq (.region [4,5,6,8,11,12,13,14,82] [zf 61 12 0,zl 62 61,ze 63 1 62,zf 64 8 0,zl 65 64,
  ze 66 1 65,zo 67 (.bin .lss (.t 63) (.t 66)),zm 68 67,zg 69 (.move (.t 13)) 68 false,zg 70 (.len 1 (.t 69)) 68 false,zg 71 (.faddr (.t 6) 1) 68 false,zg 72 (.load Y (.t 71)) 68 false,zg 73 (.bin .neq (.t 70) (.t 72)) 68 false,zb 74 68 73,zm 75 74,zg 76 (.faddr (.t 14) 2) 75 false,zg 77 (.load Y (.t 76)) 75 false,zg 78 (.len 1 (.t 77)) 75 false,zg 79 (.faddr
  (.t 6) 1) 75 false,zg 80 (.load Y (.t 79)) 75 false,zg 81 (.bin .neq (.t 78) (.t 80)) 75 false,zb 82 75 81]) (.cond (.t 82) (.seq (.region [10] [zo 10 (.move (zB false))]) .ret) .skip)) (.seq (.seq (.region [4,5,6,8,11,12,13,14,15] [zi 15 0]) (.block 0 (.loop [4,5,6,8,11,12,13,14,15] ahi))) (.seq (.seq (.region [4,5,6,11,12,13,14,16] [zi 16 0]) (.block 2 (.loop
  [4,5,6,11,12,13,14,16] ahk))) (.seq (.region [10] [zm 190 11,zm 10 190]) .ret)))))))))
 av:=true
def ahm:SC:=
 (.seq (.seq (.region [2,3,5,10] [zm 6 5,zf 7 2 0,zl 8 7,ze 9 1 8,zo 10 (.bin .lss (.t 6) (.t 9))]) (.cond (.t 10) .skip (.exit 0))) (.seq (.block 1 (.seq (.draw [2,3,5,19] [(1,5),(4,5)] [zf 13 2 0,zl 14 13,zm 15 5,zo 16 (.iaddr Y 3 (.t 14) (.t 15)),zL 17 3 16,zL 18 3 3,zo 19 (.eqs false [1,1,1] (.t 17) (.t 18))]) (.cond (.t 19) (.seq (.region [4] [zm 20 5,
 zm 4 20]) .ret) .skip))) (.region [2,3,5] [zm 11 5,zo 12 (.bin .add (.t 11) (zI 1)),zm 5 12])))
def ahn:FC where
 nt:=21
 np:=2
 res:=[.t 4]
 body:=(.seq (.region [2,3] [zo 2 (.box (.t 0)),zo 3 (.box (.t 1)),zi 4 0]) (.seq (.seq (.region [2,3,5] [zi 5 0]) (.block 0 (.loop [2,3,5] ahm))) (.seq (.region [4] [zi 4 (-1)]) .ret)))
 av:=true
def aho:SC:=
 (.loc (.seq (.seq (.region [1,3,28] [zm 24 3,zf 25 1 0,zl 26 25,ze 27 1 26,zo 28 (.bin .lss (.t 24) (.t 27))]) (.cond (.t 28) .skip (.exit 0))) (.seq (.block 1 (.seq (.region [1,3,4] [zf 31 1 0,zl 32 31,zm 33 3,zo 34 (.iaddr Y 3 (.t 32) (.t 33)),zL 35 3 34,zm 36 3,zc 37 51 [.t 35,.t 36],zm 4 37]) (.seq (.draw [1,3,4,5] [(0,2),(0,5)] [zL 38 1 1,zf 39 1 0,zl 40 39,zm 41 3,
 zo 42 (.iaddr Y 3 (.t 40) (.t 41)),zL 43 3 42,zc 44 52 [.t 38,.t 43],zm 5 44]) (.seq (.region [1,3,51] [zm 45 4,zo 46 (.un .not (.t 45)),zm 47 46,zg 48 (.move (.t 5)) 47 false,zg 49 (.move (.t 3)) 47 false,zg 50 (.bin .lss (.t 48) (.t 49)) 47 false,zb 51 47 50]) (.cond (.t 51) (.seq (.region [2] [zo 2 (.move (zB false))]) .ret) .skip))))) (.region [1,3] [zm 29 3,zo 30
 (.bin .add (.t 29) (zI 1)),zm 3 30]))))
def ahp:FC where
 nt:=52
 np:=1
 res:=[.t 2]
 body:=(.seq (.region [1] [zo 1 (.box (.t 0)),zo 2 (.move (zB false))]) (.seq (.seq (.region [1,23] [zf 6 1 0,zl 7 6,ze 8 1 7,zo 9 (.bin .eql (.t 8) (zI 0)),zm 10 9,zg 11 (.faddr (.t 1) 0) 10 false,zg 12 (.load Y (.t 11)) 10 false,zg 13 (.len 1 (.t 12)) 10 false,zg 14 (.bin .gtr (.t 13) (zI 20000)) 10 false,zb 15 10 14,zm 16 15,zg 17 (.faddr (.t 1) 0) 16 false,zg 18
  (.load Y (.t 17)) 16 false,zg 19 (.iaddr Y 3 (.t 18) (zI 0)) 16 false,zg 20 (.load (Z 3) (.t 19)) 16 false,zg 21 (.build [.int .i64 0,.int .i64 0,.int .i64 0] []) 16 false,zg 22 (.eqs true [1,1,1] (.t 20) (.t 21)) 16 false,zb 23 16 22]) (.cond (.t 23) (.seq (.region [2] [zo 2 (.move (zB false))]) .ret) .skip)) (.seq (.seq (.region [1,3] [zi 3 1]) (.block 0 (.loop
  [1,3] aho))) (.seq (.region [2] [zo 2 (.move (zB true))]) .ret))))
 av:=true
def WH:{x:Option FC//Om=x}:=by
 apply Subtype.mk
 case property=>conv=>lhs;reduce
def WI:{x:Option FC//a105=x}:=by
 apply Subtype.mk
 case property=>conv=>lhs;reduce
def WJ:{x:Option FC//Oj=x}:=by
 apply Subtype.mk
 case property=>conv=>lhs;reduce
def WK:{x:Option FC//a51=x}:=by
 apply Subtype.mk
 case property=>conv=>lhs;reduce
def WL:{x:Option FC//a54=x}:=by
 apply Subtype.mk
 case property=>conv=>lhs;reduce
def WM:{x:Option FC//Oc=x}:=by
 apply Subtype.mk
 case property=>conv=>lhs;reduce
def WN:{x:Option FC//Oi=x}:=by
 apply Subtype.mk
 case property=>conv=>lhs;reduce
def WO:{x:Option FC//a93=x}:=by
 apply Subtype.mk
 case property=>conv=>lhs;reduce
def WQ:{x:Option FC//a37=x}:=by
 apply Subtype.mk
 case property=>conv=>lhs;reduce
def WR:{x:Option FC//Od=x}:=by
 apply Subtype.mk
 case property=>conv=>lhs;reduce
def WS:{x:Option FC//a39=x}:=by
 apply Subtype.mk
 case property=>conv=>lhs;reduce
def WT:{x:Option FC//a58=x}:=by
 apply Subtype.mk
 case property=>conv=>lhs;reduce
def WU:{x:Option FC//Oe=x}:=by
 apply Subtype.mk
 case property=>conv=>lhs;reduce
def WV:{x:Option FC//a60=x}:=by
 apply Subtype.mk
 case property=>conv=>lhs;reduce
def WW:{x:Option FC//Oh=x}:=by
 apply Subtype.mk
 case property=>conv=>lhs;reduce
def sA:Option FC:=Z ahh
def O3:Option FC:=WH.1
def E7:Option FC:=WI.1
def O4:Option FC:=WJ.1
def eO:Option FC:=Z fc8
def xp:Option FC:=Z ahn
def O6:Option FC:=WK.1
def nC:Option FC:=Z ahp
def O7:Option FC:=WL.1
def vz:Option FC:=WM.1
def pA:Option FC:=WN.1
def O8:Option FC:=WO.1
def xq:Option FC:=WQ.1
def O9:Option FC:=WR.1
def mf:Option FC:=WS.1
def xr:Option FC:=WT.1
def E8:Option FC:=WU.1
def Pb:Option FC:=WV.1
def dH:Option FC:=WW.1
theorem WX:pg.F 160=sA:=by kernel_rfl
theorem ahq:pg.F 161=O3:=(show pg.F 161=Om by kernel_rfl).trans WH.2
theorem WY:pg.F 105=E7:=(show pg.F 105=a105 by kernel_rfl).trans WI.2
theorem e57:pg.F 57=O4:=(show pg.F 57=Oj by kernel_rfl).trans WJ.2
theorem e8:pg.F 8=eO:=by kernel_rfl
theorem WZ:pg.F 52=xp:=by kernel_rfl
theorem e51:pg.F 51=O6:=(show pg.F 51=a51 by kernel_rfl).trans WK.2
theorem JW:pg.F 13=nC:=by kernel_rfl
theorem e54:pg.F 54=O7:=(show pg.F 54=a54 by kernel_rfl).trans WL.2
theorem e14:pg.F 14=vz:=(show pg.F 14=Oc by kernel_rfl).trans WM.2
theorem e36:pg.F 36=pA:=(show pg.F 36=Oi by kernel_rfl).trans WN.2
theorem e93:pg.F 93=O8:=(show pg.F 93=a93 by kernel_rfl).trans WO.2
theorem e37:pg.F 37=xq:=(show pg.F 37=a37 by kernel_rfl).trans WQ.2
theorem e94:pg.F 94=O9:=(show pg.F 94=Od by kernel_rfl).trans WR.2
theorem e39:pg.F 39=mf:=(show pg.F 39=a39 by kernel_rfl).trans WS.2
theorem e58:pg.F 58=xr:=(show pg.F 58=a58 by kernel_rfl).trans WT.2
theorem W4:pg.F 106=E8:=(show pg.F 106=Oe by kernel_rfl).trans WU.2
theorem e60:pg.F 60=Pb:=(show pg.F 60=a60 by kernel_rfl).trans WV.2
theorem e16:pg.F 16=dH:=(show pg.F 16=Oh by kernel_rfl).trans WW.2
end Go.Proofs.YtgplgbonlnodeaaGreatDoor
