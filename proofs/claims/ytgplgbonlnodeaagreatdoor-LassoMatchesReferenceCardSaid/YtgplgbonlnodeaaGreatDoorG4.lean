/-
  A value-level evaluator for Go functions; the functions of this cut by it; plain laws. Text G4.
-/
import Derived.Test.YtgplgbonlnodeaaGreatDoorG1
import Derived.Test.YtgplgbonlnodeaaGreatDoorG3
import Derived.Test.YtgplgbonlnodeaaGreatDoorProg
import Derived.KernelRfl
import Derived.Shelf.Slices.SearchI
import Derived.Shelf.Slices.Empties
import Derived.RangeFuncKeeps
import Derived.RangeFuncLeaves
import Derived.Shelf.Abstract
import Derived.WalkKit
import Derived.OwnWalkIn
import Derived.TacticsInMore
import Derived.LoopNIn
import Derived.LoopIn
import Derived.WalkSmall
import Derived.Sort.QuietIn
import Derived.Deep.RegionHeld3
import Derived.Tactics2
import Derived.Deep.QuietTactic
import Derived.BigQuiet
import Derived.IntWalk
import Derived.Shelf.SlSortCmp.WholeK
import Derived.Shelf.Lays2
import Derived.Shelf.Spec.SlicesInsert
import Derived.Shelf.Spec.SlicesInsertGrow
open Array renaming eq_empty_of_size_eq_zero->CD,ext->G9,ext'->wC,getD_eq_getD_getElem?->cg,getElem?_eq_getElem->oz,getElem?_eq_some_iff->gp,getElem?_toList->G6,getElem_modify->al1,length_toList->pF,replicate_succ->ud,replicate_zero->ue,size_append->MW,toList_append->Wr
open Bool renaming and_eq_true->bG,false_eq_true->lh,not_false->CE
open Classical renaming byContradiction->mM
open Int renaming natCast_inj->oC,toNat_natCast->nH
open List renaming all_eq_true->fy,append_assoc->jE,append_nil->gu,append_toArray->ug,cons_append->gy,drop_append_of_le_length->M2,drop_drop->zk,drop_eq_getElem_cons->wG,drop_eq_nil_of_le->Hm,drop_left'->WA,drop_length->zw,drop_of_length_le->Hh,drop_zero->pH,eq_nil_of_length_eq_zero->pE,ext_getElem?->j2,filter_cons->qu,filter_nil->CG,flatMap_cons->nG,foldl_cons->tY,getD->al0,getD_eq_getElem?_getD->dP,getElem?_append_left->bF,getElem?_append_right->dO,getElem?_cons_zero->iY,getElem?_drop->lT,getElem?_eq_getElem->aw,getElem?_eq_none->kH,getElem?_eq_some_iff->ak,getElem?_map->cC,getElem?_take->jF,length->gQ,length_append->dF,length_cons->cY,length_drop->qq,length_map->bL,length_nil->dG,length_set->CH,length_singleton->ua,length_take->im,map_cons->bQ,map_drop->MT,map_inj_right->Wy,map_map->lV,map_take->G7,mem_append->cu,mem_cons->bJ,mem_cons_of_mem->fX,mem_cons_self->lx,mem_map->cv,mem_of_getElem?->bK,mem_of_mem_drop->qp,mem_of_mem_take->gP,mem_singleton->jn,nil_append->eD,nodup_cons->qt,nodup_nil->He,not_mem_nil->iZ,pairwise_cons->j3,pairwise_iff_getElem->zz,pairwise_map->wI,push_toArray->uf,range->dH,set_cons_succ->M1,set_cons_zero->M0,size_toArray->mN,sum_append->Hj,sum_cons->zy,tail->alZ,take->nK,take_add_one->si,take_append_drop->tX,take_append_of_le_length->M3,take_length->fY,take_of_length_le->fg,take_take->Wz,take_zero->oA
open Nat renaming add_assoc->oy,add_comm->wD,add_zero->lU,eq_zero_or_pos->Hi,le_refl->aS,le_trans->eR,lt_of_lt_of_le->r8,lt_or_ge->dI,min_eq_left->oB,reduceAdd->sg,reduceSub->ub,zero_add->dD,zero_le->bA
open Option renaming map_eq_some_iff->au,map_some->eZ
open Option.some renaming injEq->cH
open Prod renaming fst->wH
open List renaming length->O
open Option renaming some->Z,none->Y
set_option maxHeartbeats 4000000
set_option maxRecDepth 100000
open Go.Vs
namespace Go.Proofs.Ys
section
def intOf:PD->Option Int| .int .i64 n=>Z n|_=>Y
def s7:PD->Option (List Int)| .aj=>Z []| .bW sz=>if sz=1 then Z [] else Y| .slice sz es=>if sz=1 then aF intOf es else Y|_=>Y
def vA:List Int->Bool|a::b::r=>decide (a<=b)&&vA (b::r)|_=>true
def hD(fi cap:List D)(_:Hp):Option (List (List D)):=match fi,cap with|[],[.ro [_,lo,_,U] 0]=>(match s7 lo,s7 U with|some l,Z u=>if vA l=true/\O l<4611686018427387904/\O u<4611686018427387904 then Z ((u.filter λt=>!l.contains t).map λt=>[.p (.int .i64 t)]) else Y|_,_=>Y)|_,_=>Y
def varOf:PD->Option Bool| .agg [_,_,.bool v]=>Z v|_=>Y
def varsOf:PD->Option (List Bool)| .aj=>Z []| .bW sz=>if sz=3 then Z [] else Y| .slice sz es=>if sz=3 then aF varOf es else Y|_=>Y
def EO:PD->Option (Int×Int)| .agg [.int .i64 a,.int .i64 b]=>Z (a,b)|_=>Y
def Bd:PD->Option (List (Int×Int))| .aj=>Z []| .bW sz=>if sz=2 then Z [] else Y| .slice sz es=>if sz=2 then aF EO es else Y|_=>Y
def fT(vs:List Bool)(s:Nat)(a:Int):Bool:=decide (0<s)&& !(vs.getD a.toNat false)
def fl(vs:List Bool)(s:Nat):List (Int×Int)->Nat->List (Nat×Nat×Int×Int)|[],_=>[]|(a,b)::r,v=>if fT vs s a then fl vs s r v else(v+1,s,a,b)::fl vs s r (v+1)
def ew(vs:List Bool)(f:List (Int×Int)):Nat->Nat->Nat->List (Nat×Nat×Int×Int)| 0,_,_=>[]|n+1,s,v=>fl vs s f v++ew vs f n (s+1) (v+O (fl vs s f v))
def av(s:Int):Nat:=if 1<s then s.toNat else 0
def o7(e:Nat×Nat×Int×Int):List D:=[.p (.agg [.int .i64 (e.1:Int),.int .i64 (e.2.1:Int),.int .i64 e.2.2.1,.int .i64 e.2.2.2])]
def hZ(fi cap:List D)(_:Hp):Option (List (List D)):=match fi,cap with|[.ro [_,.int .i64 s,_,fs,_,_,_,fr] 0],[]=>(match varsOf fs,Bd fr with|some vs,Z f=>if s<4611686018427387904/\O f<4611686018427387904/\(f.all λp=>decide (0<=p.1/\p.1<(O vs:Int)))=true/\av s+O (ew vs f s.toNat 0 (av s))<4611686018427387904 then Z ((ew vs f s.toNat 0 (av s)).map o7) else Y|_,_=>Y)|_,_=>Y
def dz(ats:List Int):List Int->Int->List Int|[],p=>[p]|s::r,p=>(dH (ats.getD s.toNat 0).toNat).flatMap fun(j:Nat)=>dz ats r (IntKind.i64.wrap (IntKind.i64.wrap (p*ats.sum)+((ats.take s.toNat).sum+(j:Int))))
def ic(fi cap:List D)(_:Hp):Option (List (List D)):=match fi,cap with|[],[.ro [sd] 0,.ro [.int .i64 p] 0,.ro [ad,_] 0]=>(match s7 sd,s7 ad with|some ss,Z ats=>if(ats.all λa=>decide (0<=a))=true/\ats.sum<4611686018427387904/\(ss.all λs=>decide (0<=s/\s<(O ats:Int)))=true/\O ats<4611686018427387904/\O ss<4611686018427387904 then Z ((dz ats ss p).map λt=>[.p (.int .i64 t)]) else Y|_,_=>Y)|_,_=>Y
def yb:D->Option Int| .p (.int .i64 n)=>Z n|_=>Y
def dn(l:List Int)(k:Nat)(t:Int):List Int:=l.take k++t::l.drop k
def vC(aa:List D)(H:Hp):Option (bB×Hp):=match aa with|[s,.p (.int .i64 k),.af j 3 1 1]=>(match H.bx[j]? with|some [.p (.int .i64 t)]=>(match s with| .af i 3 n 1=>(match H.bx[i]? with|some cs=>(match aF yb (cs.take n) with|some l=>if i≠j/\az cs=false/\n<=O cs/\cs≠[]/\0<=k/\k<=(n:Int)/\n<1000000 then Z (.val (.af (O H.bx) 3 (n+1) 1),{H with bx:=H.bx.set i []++[(dn l k.toNat t).map λx=>.p (.int .i64 x)]}) else Y|none=>Y)|none=>Y)|s=>(match gS 1 s with|some es=>(match aF yb (es.map .p) with|some l=>if 0<=k/\k<=(O es:Int)/\O es<1000000 then Z (.val (.af (O H.bx) 3 (O es+1) 1),{H with bx:=H.bx++[(dn l k.toNat t).map λx=>.p (.int .i64 x)]}) else Y|none=>Y)|none=>Y))|_=>Y)|_=>Y
def oo(x:Int×Int):List (Int×Int)->List (Int×Int)|[]=>[x]|y::l=>if x.1<=y.1 then x::y::l else y::oo x l
def eH:List (Int×Int)->List (Int×Int)|[]=>[]|x::l=>oo x (eH l)
def cG:List (Int×Int)->List D|[]=>[]|x::l=>.p (.int .i64 x.1):: .p (.int .i64 x.2)::cG l
def yd:List D->Option (List (Int×Int))|[]=>Z []| .p (.int .i64 a):: .p (.int .i64 b)::l=>(yd l).map λr=>(a,b)::r|_=>Y
def s8:List (Int×Int)->Bool|x::y::l=>decide (x.1<y.1)&&s8 (y::l)|_=>true
def ye(l:List (Int×Int)):Bool:=l.all λx=>decide (0<=x.1/\x.1<4611686018427387904)
def Be(aa:List D)(H:Hp):Option (bB×Hp):=match aa with|[.af i 102 n 2,.fn f [] []]=>(match H.bx[i]? with|some cs=>(match yd (cs.take (n*2)) with|some l=>if f=62/\az cs=false/\n*2<=O cs/\cs≠[]/\n<1000000/\s8 (eH l)=true/\ye l=true then Z (.val .undef,{H with bx:=H.bx.set i (Vs.aA cs 0 (cG (eH l)))}) else Y|none=>Y)|none=>Y)|_=>Y
def Bf:Nat->List D->List D->Hp->Option (List (List D))| 68=>hZ| 226=>hD| 237=>ic|_=>λ_ _ _=>Y
def cf:Cf:=⟨[16,24,25,64,76,248,250],[58,59,60,62,106,73,74,76,93,118,136,144,175,210,236,247,248,250,293,296,97],[(56,68),(59,68),(18,68),(104,226),(116,237)],Bf,[17,98,102,155,53,235,223,224,222,286],[(222,8,253,65),(223,3,4,1),(224,3,361,66)],[97],[24]⟩
noncomputable section
open Tryz
def q(n:Nat)(f:Func):Option FC:=xU prog cf n f
def a8:=q 8 f8
def a13:=q 13 f13
def Kr:=q 14 f14
def a37:=q 37 f37
def a39:=q 39 f39
def a51:=q 51 f51
def a52:=q 52 f52
def a94:=q 94 f94
def Ks:=q 106 f106
def Kt:=q 10 f10
def QW:=q 15 f15
def Ku:=q 16 f16
def yf:=q 18 f18
def a22:=q 22 f22
def a23:=q 23 f23
def a24:=q 24 f24
def EP:=q 29 f29
def a36:=q 36 f36
def ER:=q 38 f38
def a45:=q 45 f45
def a55:=q 55 f55
def QX:=q 56 f56
def Kv:=q 57 f57
def a58:=q 58 f58
def a59:=q 59 f59
def a60:=q 60 f60
def a62:=q 62 f62
def ES:=q 65 f65
def a66:=q 66 f66
def a67:=q 67 f67
def kz:=q 69 f69
def a72:=q 72 f72
def QY:=q 73 f73
def ET:=q 74 f74
def a75:=q 75 f75
def a76:=q 76 f76
def a93:=q 93 f93
def vD:=q 104 f104
def a105:=q 105 f105
def EU:=q 111 f111
def Kw:=q 112 f112
def QZ:=q 113 f113
def EV:=q 114 f114
def Q0:=q 115 f115
def a116:=q 116 f116
def Q1:=q 118 f118
def a119:=q 119 f119
def Q2:=q 120 f120
def Q3:=q 121 f121
def Q4:=q 122 f122
def Ky:=q 123 f123
def EW:=q 135 f135
def a159:=q 159 f159
def a160:=q 160 f160
def Kz:=q 161 f161
def Q5:=q 172 f172
def a173:=q 173 f173
def Q6:=q 174 f174
def a175:=q 175 f175
def EX:=q 176 f176
def Q7:=q 177 f177
def Q8:=q 178 f178
def vF:=q 179 f179
def Q9:=q 180 f180
def a232:=q 232 f232
def a233:=q 233 f233
def a234:=q 234 f234
def s9:=q 235 f235
def a236:=q 236 f236
def a4:=q 4 f4
def a5:=q 5 f5
def a28:=q 28 f28
def a54:=q 54 f54
def Ra:=q 83 f83
def a6:=q 6 f6
def nA:=q 11 f11
def a12:=q 12 f12
def a26:=q 26 f26
def kY:=q 27 f27
def yg:=q 30 f30
def a31:=q 31 f31
def a46:=q 46 f46
def EY:=q 47 f47
def EZ:=q 48 f48
def a49:=q 49 f49
def a50:=q 50 f50
def a53:=q 53 f53
def a70:=q 70 f70
def a79:=q 79 f79
def a80:=q 80 f80
def vG:=q 81 f81
def a82:=q 82 f82
def Rb:=q 84 f84
def yh:=q 96 f96
def fp:=q 97 f97
def iR:=q 98 f98
def Rc:=q 99 f99
def Re:=q 100 f100
def Rf:=q 101 f101
def p8:=q 102 f102
def E4:=q 103 f103
def a117:=q 117 f117
def E5:=q 126 f126
def a127:=q 127 f127
def Bg:=q 128 f128
def yi:=q 129 f129
def E6:=q 151 f151
def a152:=q 152 f152
def Rg:=q 153 f153
def a154:=q 154 f154
def E7:=q 155 f155
def a156:=q 156 f156
def a157:=q 157 f157
def vI:=q 158 f158
def a182:=q 182 f182
def a183:=q 183 f183
def td:=q 186 f186
def Rh:=q 221 f221
def a222:=q 222 f222
def Bh:=q 223 f223
def th:=q 224 f224
def E8:=q 225 f225
def yj:=q 240 f240
def E9:=q 241 f241
def Ri:=q 242 f242
def Bi:=q 243 f243
def Rj:=q 282 f282
def Rk:=q 283 f283
def rH:=q 284 f284
def gC:=q 285 f285
def Fb:=q 286 f286
def KA:=q 287 f287
def rI:=q 288 f288
def yk:=q 290 f290
def Bj:=q 324 f324
def Bk:=q 325 f325
def Bl:=q 326 f326
def pa:=q 327 f327
def pb:=q 328 f328
def Bm:=q 329 f329
def Bo:=q 330 f330
def Rm:=q 373 f373
def a3:=q 3 f3
def a21:=q 21 f21
def a17:=q 17 f17
def kZ:=q 19 f19
def a20:=q 20 f20
def a25:=q 25 f25
def Rn:=q 63 f63
def a64:=q 64 f64
def gM:=q 71 f71
def a78:=q 78 f78
def a109:=q 109 f109
def tj:=q 110 f110
def acb:FC where
 nt:=7
 np:=1
 res:=[.cell 2 (Z 2)]
 body:=(.seq (.region [2] [zm 4 0,zo 5 (.call (.t 4) [])]) (.seq (.region [2] [zL 6 2 2,zs 2 2 6]) .ret))
 fN:=Z ⟨[.region [0,2] [zo 2 (.alloc [.int .i64 0,.int .i64 0])]],[0,2],[zo 3 (.mkfn 191 [] [.t 2])],.t 3,[]⟩
def acd:FC where
 nt:=32
 np:=6
 res:=[.cell 12 (Z 1),.cell 13 Y]
 body:=(.seq (.draw [5,12,13,14] [(0,1),(0,2),(1,2),(0,5),(1,5),(2,5),(0,6),(1,6),(2,6)] [zL 16 1 10,zL 17 4 6,zL 18 2 7,zm 19 2,zm 20 3,zL 21 2 7,zc 22 112 [.t 21],zo 23 (.build [.aj,.aj,.aj,.aj,.aj,.aj,.int .i64 0,.aj,.int .i64 0,.int .i64 0] [(0,1,.t 16),(1,4,.t 17),(5,2,.t 18),(7,1,.t 19),(8,1,.t 20),(9,1,.t 22)]),zo 24 (.box (.t 23)),zm 14 24])
  (.seq (.region [12,13,14] [zm 25 5,zm 26 14,zo 27 (.call (.t 25) [.t 26])]) (.seq (.region [12,13] [zm 28 14,zn 29 28,zf 30 29 0,zL 31 1 30,zs 1 12 31,zv (.store 1 (.t 13) (zI 0))]) .ret)))
 fN:=Z ⟨[.region [2,3,5,6,7,10,12,13] [zo 6 (.box (.t 0)),zo 7 (.box (.t 1)),zo 10 (.box (.t 4)),zo 12 (.alloc [.aj]),zo 13 (.alloc [.int .i64 0])]],[2,3,5,6,7,10,12,13],[zo 15 (.mkfn 199 [] [.t 10,.t 12,.t 13])],.t 15,[]⟩
def ace:FC where
 nt:=12
 np:=1
 res:=[]
 body:=(.seq (.region [0,4] [zm 4 4]) (.block 0 (.seq (.region [0,4,6] [zo 6 (.eqk 4 false (.t 4) (.c (.p .iH)))]) (.cond (.t 6) (.region [] [zm 1 4]) (.seq (.region [0,4,8,9] [zo 7 (.tassert 265 (.agg [.int .i64 0,.int .i64 0]) true (.t 4)),zx 8 7 1,zx 9 7 0]) (.cond (.t 8) (.seq (.region [0,2] [zo 2 (.alloc [.int .i64 0,.int .i64 0]),zs 2 2 9]) (.region [] [zf 10 2 0,
  zL 11 2 10,zs 2 0 11])) (.seq (.region [3] [zm 3 4]) (.region [] [zm 5 3,zv (.panic (.t 5))]))))))))
def acf:FC where
 nt:=20
 np:=3
 res:=[]
 body:=(.seq (.region [0,1,2,3] [zm 6 6,zm 3 6]) (.seq (.region [0,1,2,3,8] [zm 7 3,zo 8 (.eqk 4 true (.t 7) (.c (.p .iH)))]) (.cond (.t 8) (.seq (.region [0,1,2,3,4,5] [zm 10 3,zo 11 (.tassert 277 (.agg [.int .i64 0]) true (.t 10)),zm 9 11,zx 12 9 0,zx 13 9 1,zo 4 (.alloc [.int .i64 0]),zs 1 4 12,zm 5 13]) (.seq (.seq (.region [0,1,2,3,4,15] [zm 14 5,zo 15 (.un .not
  (.t 14))]) (.cond (.t 15) (.region [0,1,2,4] [zm 16 3,zv (.panic (.t 16))]) .skip)) (.draw [] [(0,2),(2,3)] [zL 17 1 0,zf 18 4 0,zl 19 18,zs 1 1 17,zs 1 2 19]))) .skip)))
def KB:Nat->Option (Nat×FC)| 191=>Z (4,ace)| 199=>Z (6,acf)|_=>Y
def KC:Nat->Option FC| 145=>q 145 f145| 146=>q 146 f146| 147=>q 147 f147| 151=>E6| 152=>a152| 153=>Rg| 154=>a154| 155=>E7| 156=>a156| 157=>a157| 158=>vI| 159=>a159| 160=>a160| 161=>Kz| 162=>q 162 f162| 171=>q 171 f171| 172=>Q5| 173=>a173| 174=>Q6| 175=>a175| 176=>EX| 177=>Q7| 178=>Q8| 179=>vF| 180=>Q9| 182=>a182| 183=>a183| 186=>td| 189=>q 189 f189| 190=>q 190 f190| 198=>q 198 f198| 200=>q 200 f200| 202=>q 202 f202| 203=>q 203 f203| 204=>q 204 f204| 207=>q 207 f207| 209=>q 209 f209| 210=>q 210 f210| 221=>Rh| 222=>a222| 223=>Bh| 224=>th| 225=>E8| 232=>a232| 233=>a233| 234=>a234| 235=>s9| 236=>a236| 238=>q 238 f238| 240=>yj| 241=>E9| 242=>Ri| 243=>Bi| 247=>q 247 f247| 248=>q 248 f248| 249=>q 249 f249| 250=>q 250 f250| 254=>q 254 f254| 259=>q 259 f259| 260=>q 260 f260| 281=>q 281 f281| 282=>Rj| 283=>Rk| 284=>rH| 285=>gC| 286=>Fb| 287=>KA| 288=>rI| 290=>yk| 293=>q 293 f293| 295=>q 295 f295| 296=>q 296 f296| 301=>q 301 f301| 323=>q 323 f323| 324=>Bj| 325=>Bk| 326=>Bl| 327=>pa| 328=>pb| 329=>Bm| 330=>Bo| 333=>q 333 f333| 351=>q 351 f351| 352=>q 352 f352| 373=>Rm| 8=>a8| 13=>a13| 14=>Kr| 37=>a37| 39=>a39| 51=>a51| 52=>a52| 94=>a94| 106=>Ks| 3=>a3| 17=>a17| 19=>kZ| 20=>a20| 25=>a25| 63=>Rn| 64=>a64| 71=>gM| 78=>a78| 109=>a109| 110=>tj|_=>Y
def KD:Nat->Option FC| 4=>a4| 5=>a5| 28=>a28| 54=>a54| 83=>Ra| 6=>a6| 10=>Kt| 11=>nA| 12=>a12| 15=>QW| 16=>Ku| 18=>yf| 21=>a21| 22=>a22| 23=>a23| 24=>a24| 26=>a26| 27=>kY| 29=>EP| 30=>yg| 31=>a31| 33=>q 33 f33| 35=>q 35 f35| 36=>a36| 38=>ER| 43=>q 43 f43| 44=>q 44 f44| 45=>a45| 46=>a46| 47=>EY| 48=>EZ| 49=>a49| 50=>a50| 53=>a53| 55=>a55| 56=>QX| 57=>Kv| 58=>a58| 59=>a59| 60=>a60| 61=>q 61 f61| 62=>a62| 65=>ES| 66=>a66| 67=>a67| 69=>kz| 70=>a70| 72=>a72| 73=>QY| 74=>ET| 75=>a75| 76=>a76| 79=>a79| 80=>a80| 81=>vG| 82=>a82| 84=>Rb| 87=>q 87 f87| 88=>q 88 f88| 89=>q 89 f89| 90=>q 90 f90| 91=>q 91 f91| 92=>q 92 f92| 93=>a93| 96=>yh| 97=>fp| 98=>iR| 99=>Rc| 100=>Re| 101=>Rf| 102=>p8| 103=>E4| 104=>vD| 105=>a105| 107=>q 107 f107| 108=>q 108 f108| 111=>EU| 112=>Kw| 113=>QZ| 114=>EV| 115=>Q0| 116=>a116| 117=>a117| 118=>Q1| 119=>a119| 120=>Q2| 121=>Q3| 122=>Q4| 123=>Ky| 126=>E5| 127=>a127| 128=>Bg| 129=>yi| 134=>q 134 f134| 135=>EW| 136=>q 136 f136| 138=>Z acb| 141=>q 141 f141| 143=>Z acd| 144=>q 144 f144|n=>KC n
def KE:bt| 77=>vC| 61=>Be|_=>λ_ _=>Y
def pg:Pg:=⟨KD,λ_=>Y,KE,KB⟩
def isTrue:Option (bB×Hp)->Bool|some (.val (.p (.bool b)),_)=>b|_=>false
end
end
section
open Go.Proofs Go.Shelf
def Ro:Go.Shelf.Ren where
 f:=λ| 25=>69 | 31=>122 | 32=>123 | 37=>180 |n=>n
 t:=λ| 22=>28 | 3=>3 | 4=>4 | 40=>176 | 0=>0 |n=>n
 g:=λn=>n
theorem Rp:Lays2.n25 Tryz.prog Ro where
 mixed:=by kernel_rfl
 f25:=Tryz.func69.trans (by kernel_rfl)
 f31:=Tryz.func122.trans (by kernel_rfl)
 f32:=Tryz.func123.trans (by kernel_rfl)
 f37:=Tryz.func180.trans (by kernel_rfl)
 t0:=Tryz.underlying0
 a0:=Tryz.isAgg0
 z0:=Tryz.sizeOf0
 v0:=Tryz.zeroValue0
 t3:=Tryz.underlying3
 a3:=Tryz.isAgg3
 z3:=Tryz.sizeOf3
 v3:=Tryz.zeroValue3
 t4:=Tryz.underlying4
 a4:=Tryz.isAgg4
 z4:=Tryz.sizeOf4
 v4:=Tryz.zeroValue4
 t22:=Tryz.underlying28
 a22:=Tryz.isAgg28
 z22:=Tryz.sizeOf28
 v22:=Tryz.zeroValue28
 t40:=Tryz.underlying176
 a40:=Tryz.isAgg176
 z40:=Tryz.sizeOf176
 v40:=Tryz.zeroValue176
end
section
open Go.RowKit Go.Shelf
attribute [local go_sem] Oper.semAt_some
def gv(l:List Int)(v:Value)(w:World):Prop:=∃ad cap,v= .slice ad (O l) cap/\O l<=cap/\(l≠[]->∃b o,ad=Z ⟨b,o,Y⟩/\∀(j:Nat) x,l[j]? =Z x->w.cell? ⟨b,o+j,Y⟩=Z (.int .i64 x))
variable{l:List Int}{v:Value}{w:World}
theorem acg{es:List PD}(h:aF intOf es=Z l):O l=O es/\∀(j:Nat) x,l[j]? =Z x->es[j]? =Z (.int .i64 x):=by obtain⟨H,c⟩:=lD h;refine⟨H,λj x a=>?_⟩;obtain⟨e,b,f⟩:=l7 h a;rw[b];unfold intOf at f;split at f;{cases f;rfl};cases f
theorem Fc{m:Mem}{d:PD}(h:aU m v d)(H:s7 d=Z l)(r:∀b o x,m b o=Z x->w.cell? ⟨b,o,Y⟩=Z x):gv l v w:=by unfold s7 at H;split at H;{cases H;cases h;exact⟨Y,0,rfl,aS _,λh=>(h rfl).elim⟩};{split at H;{cases H;cases h;exact⟨_,_,rfl,bA _,λh=>(h rfl).elim⟩};cases H};{split at H;{rename_i sz es s;subst s;obtain⟨a,t⟩:=acg H;obtain⟨A,c,rfl,u,n⟩:=nc h;refine⟨A,c,by rw[a],by rw[a];exact u,λf=>?_⟩;have g:es≠[]:=λe=>f (pE (by rw[a,e];rfl));obtain⟨b,o,V,rfl,s,k,i,y⟩:=n g;refine⟨b,o,rfl,λj x z=>?_⟩;have p:=t j x z;have B:j<O es:=(ak.1 p).1;have:=r _ _ _ (i j 0 B (by decide));have C:=(y j _ 0 _ p rfl).iu;rw[C] at this;simpa using this};cases H};cases H
theorem Rq:∀{l:List Int},vA l=true->l.Pairwise (·<=·)|[],_=>.nil|[a],_=>by simp|a::b::r,h=>by simp only[vA,bG,decide_eq_true_eq] at h;have q:=Rq h.2;refine .cons (λx H=>?_) q;rcases bJ.1 H with rfl |H;{exact h.1};exact Int.le_trans h.1 ((j3.1 q).1 x H)
theorem ach(s:vA l=true)(f:O l<4611686018427387904)(h:gv l v w)(x:Int): Calls Tryz.prog 69 #[v,.int .i64 x] w λe w'=>∃k:Int,e= .returned (.tuple #[.int .i64 k,.bool (l.contains x)])/\∃q,w'=w.drewN q:=by obtain⟨A,c,rfl,-,dt⟩:=h;have E:Ro.f 25=69:=rfl;cases l with|nil=>have:=Any.slices_BinarySearch_int_empty Rp A c x w;rw[E] at this;refine this.mono ?_;rintro e w' ⟨rfl,H⟩;exact⟨0,by simp,0,H⟩|cons a r=>obtain⟨b,o,rfl,g⟩:=dt (by simp);have:=Any.slices_BinarySearch_int Rp b o (O (a::r)) c (a::r) x w (aS _) f (λj d=>by have:=g j _ (aw d);rw[this,dP,aw d];rfl) (by rw[fY];exact Rq s);rw[E,fY] at this;refine this.mono ?_;rintro e w' ⟨rfl,H⟩;exact⟨_,rfl,H⟩
def p9(n:Nat):Value->Nat| .int _ i=>n-i.toNat|_=>0
def aci(B Zz:Nat)(l u:List Int)(w:World):Prop:=∃v V,w.cell? ⟨B,Zz+1,Y⟩=Z v/\w.cell? ⟨B,Zz+3,Y⟩=Z V/\gv l v w/\gv u V w
theorem acj(F:Fence)(n:Nat)(p:F.fn 226)(h69:F.fn 69)(y:F.round=Y)(hn:1<=n)(us:List Int)(l:List Int)(M:O us<4611686018427387904)(lp B z:Nat)(J:Nat->(Nat->Prop)->World->Prop)(X:Ending->World->Prop)(W:World) (hK:∀k fb A,J k fb A->aci B z l us A) (hU:∃V,W.cell? ⟨B,z+3,Y⟩=Z V/\∀k fb A,J k fb A->gv us V A) (E:∀A v x,gv l v A->CallsIn F (n-1) Tryz.prog 69 #[v,.int .i64 x] A λe w'=>∃k:Int,e= .returned (.tuple #[.int .i64 k,.bool (l.contains x)])/\∃q,w'=A.drewN q) (N:∀k fb A B,J k fb A->RowKit.Below A.heap.size A B->J k (λb=>fb b\/(A.heap.size<=b/\b<B.heap.size)) B) (hY:∀k fb x A,(us.filter λt=>!l.contains t)[k]? =Z x->J k fb A->YieldAt F (n-1) Tryz.prog lp #[.int .i64 x] A λe B=>(A.heap.size<=B.heap.size/\∀b,fb b->kT b A B)/\((e= .returned (.bool true)/\J (k+1) fb B)\/(e= .returned (.bool false)/\X e B)\/∃C,e= .panicked C/\X e B)) (P:J 0 (λ_=>False) W): CallsIn F n Tryz.prog 226 #[.func (.yield lp) #[] #[],.pointer (Z ⟨B,z,Y⟩)] W λe B=>((∃v,e= .returned v)/\((∃fb,J (O (us.filter λt=>!l.contains t)) fb B)\/X (.returned (.bool false)) B))\/∃C,e= .panicked C/\X e B:=by refine callsIn_of_wp Tryz.func226 rfl p ?_ y;simp only[Tryz.ntmps226,mN,cY,dG,sg,ub,ud,ue,uf,ug,eD,gy];have t3:=Tryz.underlying3;have a3:=Tryz.isAgg3;have z3:=Tryz.sizeOf3;have v3:=Tryz.zeroValue3;have t4:=Tryz.underlying4;have a4:=Tryz.isAgg4;have z4:=Tryz.sizeOf4;have v4:=Tryz.zeroValue4;have t28:=Tryz.underlying28;have a28:=Tryz.isAgg28;have z28:=Tryz.sizeOf28;have v28:=Tryz.zeroValue28;have t98:=Tryz.underlying98;have iR:=Tryz.isAgg98;have z98:=Tryz.sizeOf98;have t85:=Tryz.underlying85;have a85:=Tryz.isAgg85;have z85:=Tryz.sizeOf85;have t135:=Tryz.underlying135;have EW:=Tryz.isAgg135;have Q:=Tryz.sizeOf135;have R:=Tryz.zeroValue135;have u3:=run_underlying Tryz.underlying3;have u4:=run_underlying Tryz.underlying4;have Rr:=run_underlying Tryz.underlying28;have u98:=run_underlying Tryz.underlying98;have u85:=run_underlying Tryz.underlying85;have U:=run_underlying Tryz.underlying135;obtain⟨V,G,s⟩:=hU;obtain⟨ad,cap,rfl,-,dt⟩:=s 0 _ _ P;gi_wp2;gi_loopw [4,5,6,11] (λ_ _ _ v wr=>∃(i k:Nat) (fb:Nat->Prop),v= .int .i64 (i:Int)/\i<=O us/\(us.drop i).filter (λt=>!l.contains t)=(us.filter λt=>!l.contains t).drop k/\k<=O (us.filter λt=>!l.contains t)/\J k fb wr) (λ_ _ _ v _=>p9 (O us) v);(case atStart=>exact⟨0,0,_,rfl,bA _,rfl,bA _,P⟩);case round=>obtain⟨i,k,fb,rfl,hi,d,r,H⟩:=hrel;rcases dI i (O us) with a |ka;{obtain⟨ad2,Nx,heq,-,AW⟩:=s k fb wr H;cases heq;obtain⟨b,o,rfl,S⟩:=AW (by intro e;subst e;simp at a);obtain⟨x,u⟩:∃x,us[i]? =Z x:=⟨_,aw a⟩;have hx:=S i x u;clear S AW;(have I:(i:Int)<(O us:Int):=by omega);(have sL:(0 :Int)<=(i:Int):=by omega);rw[wG a,qu,(ak.1 u).2] at d;obtain⟨vl,vu2,q1,q2,q3,q4⟩:=hK k fb wr H;have c:=E wr vl x q3;clear s G;by_cases g:l.contains x=true;{rw[g] at d c;simp only[Bool.not_true,lh,if_false] at d;gi_wp2_with (gi_at_call 69;refine c.mono ?_;rintro e w' ⟨kk,rfl,q,rfl⟩);refine⟨λf h=>(by cases h),?_⟩;gi_wp2;go_roundw;(case rel=>exact⟨i+1,k,_,by simp,a,d,r,N _ _ _ _ H (below_drewN (.refl _ _) q)⟩);case measure=>simp only[p9];omega};(have g:l.contains x=false:=by simpa using g);rw[g] at d c;simp only[CE,if_true] at d;(have j:(us.filter λt=>!l.contains t)[k]? =Z x:=by have:=congrArg (·[0]?) d;simpa[lT] using this.symm);(have m:(us.drop (i+1)).filter (λt=>!l.contains t)=(us.filter λt=>!l.contains t).drop (k+1):=by have:=congrArg alZ d;simpa using this);gi_wp2_with (gi_at_call 69;refine c.mono ?_;rintro e w' ⟨kk,rfl,q,rfl⟩;obtain⟨fn,T,w,body,hy,hR⟩:=hY k _ x _ j (N _ _ _ _ H (below_drewN (.refl _ wr) q)));refine hR.mono ?_;rintro e W3 ⟨-,(⟨rfl,tq⟩ |⟨rfl,mA⟩ |⟨C,rfl,mA⟩)⟩;{gi_wp2;go_roundw;(case rel=>exact⟨i+1,k+1,_,by simp,a,m,(ak.1 j).1,tq⟩);case measure=>simp only[p9];omega};{gi_wp2;refine bodyPost_ret (results_none rfl _ _ _) rfl ?_;exact .inl ⟨⟨_,rfl⟩,.inr mA⟩};first|exact⟨rfl,Or.inr ⟨C,rfl,mA⟩⟩|exact⟨rfl,Or.inr ⟨⟨C,rfl⟩,mA⟩⟩};(have I:¬(i:Int)<(O us:Int):=by omega);gi_wp2;go_end0;(have K:i=O us:=by omega);subst K;rw[zw] at d;(have pU:O (us.filter λt=>!l.contains t)<=k:=by have:=congrArg gQ d;rw[CG,dG,qq] at this;omega);(have L:k=O (us.filter λt=>!l.contains t):=by omega);refine .inl ⟨⟨_,rfl⟩,.inl ⟨fb,?_⟩⟩;rw[L] at H;simpa using H
theorem Rs{γ:Gh}(x:Int):cp γ #[Value.int .i64 x] [.p (.int .i64 x)]:=⟨rfl,λi d h=>match i with| 0=>by simp only[iY,cH] at h;subst h;exact .p _ _ (.int _ _)|i+1=>by simp at h⟩
variable{W:World}{G:Nat->Option (List PD)}
theorem acm:oQ Tryz.prog W G 226 hD:=by refine⟨⟨Tryz.f226,Tryz.func226,by kernel_rfl,by kernel_rfl⟩,λfi E H xs g M w N lb I r d=>?_⟩;unfold hD at g;split at g;{rename_i c0 lo c2 up;split at g;{rename_i l u hl hu;split at g;{rename_i hc;obtain⟨O,e,i⟩:=hc;cases g;have m:N= #[]:=CD r.1;subst m;obtain⟨v,rfl,P⟩:=Qx d;cases P with|ro b o _ _ s z B=>(have f:∀A,Kept W G M H (lz (.fn 226 [] [.ro [c0,lo,c2,up] 0]) H) A->A.cell? ⟨b,o+1,Y⟩=Z (s 1)/\A.cell? ⟨b,o+3,Y⟩=Z (s 3)/\gv l (s 1) A/\gv u (s 3) A:=by rintro A ⟨n,H',L,c,_⟩;refine⟨c.toInv.mem _ _ _ (L.mem _ _ _ (z 1 (by simp))),c.toInv.mem _ _ _ (L.mem _ _ _ (z 3 (by simp))),?_,?_⟩;{exact Fc ((B 1 lo rfl).1.mono L.mem) hl c.toInv.mem};exact Fc ((B 3 up rfl).1.mono L.mem) hu c.toInv.mem);refine⟨λk=>match(u.filter λt=>!l.contains t)[k]? with |some x=>#[.int .i64 x] |none=>#[],λk x a=>?_,λQ J X y hB K R hT hX T S C=>?_⟩;{simp only[cC,au] at a;obtain⟨p,U,rfl⟩:=a;simp only[U];exact⟨rfl,λn=>Rs p⟩};have f0:=f y (K 0 _ y C);have h:=acj (wr Y) 1 trivial trivial rfl (aS _) u l i Q b o J X y (λk F A j=>by obtain⟨V,q2,q3,q4⟩:=f A (K k F A j);exact⟨_,_,V,q2,q3,q4⟩) ⟨s 3,f0.2.1,λk F A j=>(f A (K k F A j)).2.2.2⟩ (λA v x ha=>oc.2 (ach O e ha x)) R (λk F x A a j=>by have:=S k F _ A (by rw[cC,a];rfl) j;simp only[a] at this;exact this) C;rw[bL];exact oc.2 (oc.1 h)};cases g};cases g};cases g
end
section
open Go.RowKit Go.Shelf
attribute [local go_sem] Oper.semAt_some
def Ru(l:List Bool)(v:Value)(w:World):Prop:=∃ad cap,v= .slice ad (O l) cap/\(l≠[]->∃b o,ad=Z ⟨b,o,Y⟩/\∀(j:Nat) x,l[j]? =Z x->w.cell? ⟨b,o+j*3+2,Y⟩=Z (.bool x))
def Rv(l:List (Int×Int))(v:Value)(w:World):Prop:=∃ad cap,v= .slice ad (O l) cap/\(l≠[]->∃b o,ad=Z ⟨b,o,Y⟩/\∀(j:Nat) x,l[j]? =Z x->w.cell? ⟨b,o+j*2,Y⟩=Z (.int .i64 x.1)/\w.cell? ⟨b,o+j*2+1,Y⟩=Z (.int .i64 x.2))
theorem Rx{a:Type}{f:PD->Option a}{es:List PD}{l:List a}(h:aF f es=Z l):O l=O es/\∀(j:Nat) x,l[j]? =Z x->∃e,es[j]? =Z e/\f e=Z x:=by obtain⟨H,g⟩:=lD h;refine⟨H,λj x b=>?_⟩;obtain⟨e,c,d⟩:=l7 h b;exact⟨e,c,d⟩
variable{m:Mem}{v:Value}{w:World}
theorem acn{d:PD}(h:aU m v d){l:List Bool}(H:varsOf d=Z l)(t:∀b o x,m b o=Z x->w.cell? ⟨b,o,Y⟩=Z x):Ru l v w:=by unfold varsOf at H;split at H;{cases H;cases h;exact⟨Y,0,rfl,λh=>(h rfl).elim⟩};{split at H;{cases H;cases h;exact⟨_,_,rfl,λh=>(h rfl).elim⟩};cases H};{split at H;{rename_i sz es s;subst s;obtain⟨k,u⟩:=Rx H;obtain⟨A,c,rfl,E,n⟩:=nc h;refine⟨A,c,by rw[k],λa=>?_⟩;have g:es≠[]:=λe=>a (pE (by rw[k,e];rfl));obtain⟨b,o,V,rfl,s,p,i,y⟩:=n g;refine⟨b,o,rfl,λj x z=>?_⟩;obtain⟨e,r,f⟩:=u j x z;have B:j<O es:=(ak.1 r).1;unfold varOf at f;split at f;{cases f;have:=t _ _ _ (i j 2 B (by decide));have C:=(y j _ 2 _ r rfl).pR;rw[C] at this;exact this};cases f};cases H};cases H
theorem aco{d:PD}(h:aU m v d){l:List (Int×Int)}(H:Bd d=Z l)(p:∀b o x,m b o=Z x->w.cell? ⟨b,o,Y⟩=Z x):Rv l v w:=by unfold Bd at H;split at H;{cases H;cases h;exact⟨Y,0,rfl,λh=>(h rfl).elim⟩};{split at H;{cases H;cases h;exact⟨_,_,rfl,λh=>(h rfl).elim⟩};cases H};{split at H;{rename_i sz es s;subst s;obtain⟨r,A⟩:=Rx H;obtain⟨B,c,rfl,G,n⟩:=nc h;refine⟨B,c,by rw[r],λg=>?_⟩;have i:es≠[]:=λe=>g (pE (by rw[r,e];rfl));obtain⟨b,o,I,rfl,s,t,a,u⟩:=n i;refine⟨b,o,rfl,λj x E=>?_⟩;obtain⟨e,k,f⟩:=A j x E;have y:j<O es:=(ak.1 k).1;unfold EO at f;split at f;{cases f;have C:=p _ _ _ (a j 0 y (by decide));have z:=p _ _ _ (a j 1 y (by decide));have V:=(u j _ 0 _ k rfl).iu;have F:=(u j _ 1 _ k rfl).iu;rw[V] at C;rw[F] at z;exact⟨C,z⟩};cases f};cases H};cases H
def Ry(B Zz:Nat)(s:Int)(vs:List Bool)(fr:List (Int×Int))(v r:Value)(w:World):Prop:=w.cell? ⟨B,Zz+1,Y⟩=Z (.int .i64 s)/\w.cell? ⟨B,Zz+3,Y⟩=Z v/\w.cell? ⟨B,Zz+7,Y⟩=Z r/\Ru vs v w/\Rv fr r w
theorem acp(F:Fence)(n:Nat)(h:F.fn 75)(r:F.round=Y)(B z:Nat)(s:Int)(w:World)(c:w.cell? ⟨B,z+1,Y⟩=Z (.int .i64 s)): CallsIn F n Tryz.prog 75 #[.pointer (Z ⟨B,z,Y⟩)] w λe w'=>e= .returned (.int .i64 ((av s:Nat):Int))/\w'=w:=by refine callsIn_of_wp Tryz.func75 rfl h ?_ r;simp only[Tryz.ntmps75,mN,cY,dG,sg,ub,ud,ue,uf,ug,eD,gy];have t3:=Tryz.underlying3;have a3:=Tryz.isAgg3;have a:=Tryz.sizeOf3;have v:=Tryz.zeroValue3;have t119:=Tryz.underlying119;have t30:=Tryz.underlying30;have b:=run_underlying Tryz.underlying3;have u:=run_underlying Tryz.underlying119;have U:=run_underlying Tryz.underlying30;by_cases H:1<s;{(have hd:((av s:Nat):Int)=s:=by simp[av,H];omega);rw[hd];gi_wp2;refine bodyPost_ret (results_tmp rfl _ _ _) rfl ?_;exact⟨rfl,rfl⟩};(have hd:av s=0:=by simp[av,H]);rw[hd];gi_wp2;refine bodyPost_ret (results_tmp rfl _ _ _) rfl ?_;exact⟨rfl,rfl⟩
theorem acq(F:Fence)(n:Nat)(h68:F.fn 68)(h75:F.fn 75)(r:F.round=Y)(hn:1<=n)(S:Int)(vs:List Bool)(fr:List (Int×Int))(j8:S<4611686018427387904)(xo:O fr<4611686018427387904)(Fe:∀(i:Nat) p,fr[i]? =Z p->0<=p.1/\p.1<(O vs:Int)) (L:List (Nat×Nat×Int×Int)) (hL:L=ew vs fr S.toNat 0 (av S)) (oP:av S+O L<4611686018427387904) (lp B Zz:Nat) (J:Nat->(Nat->Prop)->World->Prop) (X:Ending->World->Prop) (w0:World) (vf vr:Value) (hK:∀k fb A,J k fb A->Ry B Zz S vs fr vf vr A) (hJ:∀k fb A B,J k fb A->RowKit.Below A.heap.size A B->J k (λb=>fb b\/(A.heap.size<=b/\b<B.heap.size)) B) (hY:∀k fb (x:Nat×Nat×Int×Int) A,L[k]? =Z x->J k fb A->YieldAt F (n-1) Tryz.prog lp #[.agg #[.int .i64 (x.1:Int),.int .i64 (x.2.1:Int),.int .i64 x.2.2.1,.int .i64 x.2.2.2]] A λe B=>(A.heap.size<=B.heap.size/\∀b,fb b->kT b A B)/\((e= .returned (.bool true)/\J (k+1) fb B)\/(e= .returned (.bool false)/\X e B)\/∃T,e= .panicked T/\X e B)) (h0:J 0 (λ_=>False) w0): CallsIn F n Tryz.prog 68 #[.pointer (Z ⟨B,Zz,Y⟩),.func (.yield lp) #[] #[]] w0 λe B=>((∃v,e= .returned v)/\((∃fb,J (O L) fb B)\/X (.returned (.bool false)) B))\/∃T,e= .panicked T/\X e B:=by refine callsIn_of_wp Tryz.func68 rfl h68 ?_ r;simp only[Tryz.ntmps68,mN,cY,dG,sg,ub,ud,ue,uf,ug,eD,gy];have t3:=Tryz.underlying3;have a3:=Tryz.isAgg3;have z3:=Tryz.sizeOf3;have v3:=Tryz.zeroValue3;have t4:=Tryz.underlying4;have a4:=Tryz.isAgg4;have z4:=Tryz.sizeOf4;have v4:=Tryz.zeroValue4;have t23:=Tryz.underlying23;have a23:=Tryz.isAgg23;have z23:=Tryz.sizeOf23;have v23:=Tryz.zeroValue23;have t27:=Tryz.underlying27;have t30:=Tryz.underlying30;have t95:=Tryz.underlying95;have a95:=Tryz.isAgg95;have z95:=Tryz.sizeOf95;have t110:=Tryz.underlying110;have tj:=Tryz.isAgg110;have an3:=Tryz.sizeOf110;have t112:=Tryz.underlying112;have Kw:=Tryz.isAgg112;have an4:=Tryz.sizeOf112;have an6:=Tryz.zeroValue112;have t119:=Tryz.underlying119;have t123:=Tryz.underlying123;have Ky:=Tryz.isAgg123;have an7:=Tryz.sizeOf123;have an8:=Tryz.zeroValue123;have u3:=run_underlying Tryz.underlying3;have u4:=run_underlying Tryz.underlying4;have u23:=run_underlying Tryz.underlying23;have u27:=run_underlying Tryz.underlying27;have Rz:=run_underlying Tryz.underlying30;have u95:=run_underlying Tryz.underlying95;have aoc:=run_underlying Tryz.underlying110;have aod:=run_underlying Tryz.underlying112;have aoe:=run_underlying Tryz.underlying119;have aof:=run_underlying Tryz.underlying123;obtain⟨Q,U,C,V,E⟩:=hK 0 _ _ h0;have o:=acp F (n-1) h75 r B Zz S w0 Q;gi_wp2_with (gi_at_call 75;refine o.mono ?_;rintro e w' ⟨rfl,rfl⟩);clear o U C V E Q;gi_loopw [4,5,7,15] (λv _ _ s wr=>∃(i k:Nat) (fb:Nat->Prop),s= .int .i64 (i:Int)/\(i:Int)<=max S 0/\v= .int .i64 ((av S+k:Nat):Int)/\ew vs fr (S.toNat-i) i (av S+k)=L.drop k/\k<=O L/\J k fb wr) (λ_ _ _ s _=>p9 S.toNat s);(case atStart=>exact⟨0,0,_,rfl,by omega,by simp,by rw[hL];rfl,bA _,h0⟩);case round=>obtain⟨i,k,fb,rfl,hi,rfl,G,t,c⟩:=hrel;rcases Int.lt_or_le (i:Int) S with dZ |ka;{(have acu:S.toNat-i=(S.toNat-(i+1))+1:=by omega);rw[acu] at G;simp only[ew] at G;obtain⟨Q,U,C,V,E⟩:=hK k fb wr c;obtain⟨adr,aoh,rfl,W⟩:=E;clear V;gi_wp2;clear Q U C W;gi_loopw [4,7,23] (λv _ j wr2=>∃(j' K:Nat) (g:Nat->Prop),j= .int .i64 (j':Int)/\j'<=O fr/\v= .int .i64 ((av S+K:Nat):Int)/\fl vs i (fr.drop j') (av S+K)++ew vs fr (S.toNat-(i+1)) (i+1) (av S+K+O (fl vs i (fr.drop j') (av S+K)))=L.drop K/\K<=O L/\J K g wr2) (λ_ _ j _=>p9 (O fr) j);(case atStart=>exact⟨0,k,fb,rfl,bA _,rfl,by simpa using G,t,c⟩);case round=>clear G t c;obtain⟨j,K,g,rfl,hj,rfl,H,d,m⟩:=hrel;rcases dI j (O fr) with l |hjg;{obtain⟨⟨a,b⟩,hp⟩:∃x,fr[j]? =Z x:=⟨_,aw l⟩;obtain⟨ha0,RA⟩:=Fe j _ hp;simp only at ha0 RA;obtain⟨Q,U,C,V,E⟩:=hK K g _ m;obtain⟨ad2,Nx,heq,u⟩:=E;cases heq;obtain⟨rb,ro,rfl,hc⟩:=u (by intro e;subst e;simp at l);obtain⟨Ff,hcb⟩:=hc j _ hp;clear hc u;(have I:(j:Int)<(O fr:Int):=by omega);(have sL:(0 :Int)<=(j:Int):=by omega);rw[wG l,(ak.1 hp).2] at H;simp only[fl] at H;gi_wp2;clear Ff hcb I sL Q U C V;have y:RowKit.Below wr.heap.size wr (wr.alloc (Obj.cells #[Value.int IntKind.i64 a,Value.int IntKind.i64 b] 112)):=RowKit.Below.alloc (.refl _ _) (aS _) _;have M:=hJ _ _ _ _ m y;(have e0:(wr.alloc (Obj.cells #[Value.int IntKind.i64 a,Value.int IntKind.i64 b] 112)).cell? ⟨wr.heap.size,0,Y⟩=Z (.int .i64 a):=by simp[go_sem]);(have e1:(wr.alloc (Obj.cells #[Value.int IntKind.i64 a,Value.int IntKind.i64 b] 112)).cell? ⟨wr.heap.size,1,Y⟩=Z (.int .i64 b):=by simp[go_sem]);generalize vd:wr.alloc (Obj.cells #[Value.int IntKind.i64 a,Value.int IntKind.i64 b] 112)=W1 at *;generalize Eh:(λb=>g b\/wr.heap.size<=b/\b<W1.heap.size)=Bp at *;generalize wr.heap.size=N1 at *;clear y vd Eh m;obtain⟨Q,U,C,⟨adf,aok,rfl,RB⟩,E⟩:=hK _ _ _ M;obtain⟨fb',fo,rfl,DY⟩:=RB (by intro e;subst e;simp at RA;omega);obtain⟨x,hx⟩:∃x,vs[a.toNat]? =Z x:=⟨_,aw (by omega)⟩;have hcx:=DY _ _ hx;clear DY RB Q C E;(have qX:vs.getD a.toNat false=x:=by simp[al0,hx]);by_cases f:fT vs i a=true;{(have nu:0<i/\x=false:=by simpa[fT,hx] using f);obtain⟨nu,rfl⟩:=nu;(have Ai:(0 :Int)<(i:Int):=by omega);rw[if_pos f] at H;(refine wpIn_region_quiet_lit r (by kernel_rfl) (by kernel_rfl) ?_;(repeat (gi_big_quiet_step (fail)));refine wpQuietIn_nil ?_;intro _ N;obtain⟨nq,w⟩:=N;subst w);gi_wp2;go_roundw;(case rel=>exact⟨j+1,K,_,by simp,l,rfl,H,d,hJ _ _ _ _ M (below_drewN (.refl _ _) nq)⟩);case measure=>simp only[p9];omega};rw[if_neg f] at H;(have z:L[K]? =Z (av S+K+1,i,a,b):=by have:=congrArg (·[0]?) H;simpa[lT] using this.symm);(have P:fl vs i (fr.drop (j+1)) (av S+(K+1))++ew vs fr (S.toNat-(i+1)) (i+1) (av S+(K+1)+O (fl vs i (fr.drop (j+1)) (av S+(K+1))))=L.drop (K+1):=by have:=congrArg alZ H;simpa[oy,wD 1] using this);have R:K<O L:=(ak.1 z).1;clear H;(have hif:(decide (0<i)=false)\/(0<i/\x=true):=by cases x;{left;refine decide_eq_false λhi=>?_;exact f (by simp[fT,hx];omega)};rcases Hi i with h |h;{exact .inl (by simp[h])};exact .inr ⟨h,rfl⟩);clear f qX hx;(have hv1:(0 :Int)<=(av S:Int)+(K:Int):=by omega);(have RC:(av S:Int)+(K:Int)+1<4611686018427387904:=by omega);rcases hif with Ai |⟨Ai,rfl⟩;(all_goals (refine wpIn_region_quiet_lit r (by kernel_rfl) (by kernel_rfl) ?_;(repeat (gi_big_quiet_step (fail)));refine wpQuietIn_nil ?_;intro _ N;obtain⟨nq,w⟩:=N;subst w));(all_goals have Bq:=hJ _ _ _ _ M (below_drewN (.refl _ W1) nq));(all_goals obtain⟨fn,tmps,assign,body,hy,hR⟩:=hY K _ _ _ z Bq);(all_goals (simp at hy));(all_goals gi_wp2);(all_goals refine hR.mono ?_);(all_goals rintro e W3 ⟨-,(⟨rfl,Br⟩ |⟨rfl,mA⟩ |⟨T,rfl,mA⟩)⟩);(all_goals try gi_wp2);all_goals first|exact⟨⟨j+1,K+1,_,rfl,l,congrArg (Value.int .i64) (by omega),P,R,Br⟩,by simp only[p9];omega⟩|exact⟨rfl,Or.inr ⟨T,rfl,mA⟩⟩|exact⟨rfl,Or.inr ⟨⟨T,rfl⟩,mA⟩⟩|(refine bodyPost_ret (results_none rfl _ _ _) rfl ?_;exact .inl ⟨⟨_,rfl⟩,.inr mA⟩)};(have I:¬(j:Int)<(O fr:Int):=by omega);gi_wp2;(have KF:j=O fr:=by omega);subst KF;rw[zw] at H;simp only[fl,eD,dG,lU] at H;refine⟨⟨i+1,K,_,rfl,by omega,rfl,H,d,m⟩,?_⟩;simp only[p9];omega};(have I:¬(i:Int)<S:=by omega);gi_wp2;go_end0;(have hz:S.toNat-i=0:=by omega);rw[hz] at G;simp only[ew] at G;(have pU:O L<=k:=by have:=congrArg gQ G;rw[dG,qq] at this;omega);(have Jd:k=O L:=by omega);rw[Jd,hL] at c;exact .inl ⟨⟨_,rfl⟩,.inl ⟨fb,c⟩⟩
theorem acz{γ:Gh}(x:Nat×Nat×Int×Int):cp γ #[Value.agg #[.int .i64 (x.1:Int),.int .i64 (x.2.1:Int),.int .i64 x.2.2.1,.int .i64 x.2.2.2]] (o7 x):=⟨rfl,λi d h=>match i with| 0=>(by simp only[o7,iY,cH] at h;subst h;refine .p _ _ (.agg _ _ rfl (by simp[PD.one]) λi d h=>?_);(match i with| 0=>cases h;exact .int _ _| 1=>cases h;exact .int _ _| 2=>cases h;exact .int _ _| 3=>cases h;exact .int _ _|i+4=>simp at h))|i+1=>by simp[o7] at h⟩
variable{W:World}{G:Nat->Option (List PD)}
theorem acA:oQ Tryz.prog W G 68 hZ:=by refine⟨⟨Tryz.f68,Tryz.func68,by kernel_rfl,by kernel_rfl⟩,λZ C H xs g E w la M I r j=>?_⟩;unfold hZ at g;split at g;{rename_i c0 steps c2 fs c4 c5 c6 fr;split at g;{rename_i vs free hv hf;split at g;{rename_i hc;obtain⟨N,l,m,d⟩:=hc;cases g;have n:M= #[]:=CD j.1;subst n;obtain⟨v,rfl,s⟩:=Qx r;cases s with|ro b o _ _ c t u=>have O:c 1= .int .i64 steps:=(u 1 _ rfl).1.iu;(have f:∀A,Kept W G E H (lz (.fn 68 [.ro [c0,.int .i64 steps,c2,fs,c4,c5,c6,fr] 0] []) H) A->Ry b o steps vs free (c 3) (c 7) A:=by rintro A ⟨y,H',L,a,_⟩;refine⟨?_,a.toInv.mem _ _ _ (L.mem _ _ _ (t 3 (by simp))),a.toInv.mem _ _ _ (L.mem _ _ _ (t 7 (by simp))),?_,?_⟩;{have:=a.toInv.mem _ _ _ (L.mem _ _ _ (t 1 (by simp)));rw[O] at this;exact this};{exact acn ((u 3 fs rfl).1.mono L.mem) hv a.toInv.mem};exact aco ((u 7 fr rfl).1.mono L.mem) hf a.toInv.mem);generalize P:ew vs free steps.toNat 0 (av steps)=L at d;refine⟨λk=>match L[k]? with |some x=>#[.agg #[.int .i64 (x.1:Int),.int .i64 (x.2.1:Int),.int .i64 x.2.2.1,.int .i64 x.2.2.2]] |none=>#[],λk x e=>?_,λQ J X R hB K S hT hX T U V=>?_⟩;{simp only[cC,au] at e;obtain⟨p,z,rfl⟩:=e;simp only[z];exact⟨rfl,λy=>acz p⟩};have h:=acq (wr Y) 1 trivial trivial rfl (aS _) steps vs free N l (λi p z=>by have:=fy.1 m p (bK z);exact of_decide_eq_true this) L P.symm d Q b o J X R (c 3) (c 7) (λk F A B=>f A (K k F A B)) S (λk F x A e B=>by have:=U k F _ A (by rw[cC,e];rfl) B;simp only[e] at this;exact this) V;rw[bL];exact oc.2 (oc.1 h)};cases g};cases g};cases g
end
section
open Go.RowKit Go.Shelf
attribute [local go_sem] Oper.semAt_some
variable{a:Act}{body:Code}{Q:Exit->Act->World->Prop}{l:List Int}{b fid:Nat}{o:Obj}{ro:Option Nat}{P:Program}{v:Value}{w w' A B:World}
theorem ph{a:Addr}(h:w.cell? a=Z v):a.block<w.heap.size:=by unfold World.cell? at h;split at h;{rename_i hb;exact(gp.1 hb).1};cases h
theorem gv.below(h:gv l v w)(H:RowKit.Below w.heap.size w w'):gv l v w':=by obtain⟨a,p,rfl,c,n⟩:=h;refine⟨a,p,rfl,c,λd=>?_⟩;obtain⟨b,o,e,f⟩:=n d;refine⟨b,o,e,λj x g=>?_⟩;have:=f j x g;rw[H.cell (ph this)];exact this
theorem RD(h:∀x∈l,0<=x):0<=l.sum:=by induction l with|nil=>simp|cons a l i=>have b:=h a (by simp);have c:=i λx H=>h x (by simp[H]);simp only[zy];omega
theorem Bs(h:∀x∈l,0<=x)(n:Nat):0<=(l.take n).sum/\(l.take n).sum<=l.sum:=by
 have a:=RD (l:=l.take n) λx H=>h x (gP H);have b:=RD (l:=l.drop n) λx H=>h x (qp H);have c:(l.take n).sum+(l.drop n).sum=l.sum:=by rw[<-Hj,tX]
 exact⟨a,by omega⟩
theorem RE(F:Fence)(n:Nat)(c:F.fn 173)(r:F.round=Y)(l:List Int)(g:O l<4611686018427387904)(p:∀x∈l,0<=x)(B:l.sum<4611686018427387904)(v:Value)(w:World)(h:gv l v w): CallsIn F n Tryz.prog 173 #[v] w λe w'=>e= .returned (.int .i64 l.sum)/\w'=w:=by refine callsIn_of_wp Tryz.func173 rfl c ?_ r;simp only[Tryz.ntmps173,mN,cY,dG,sg,ub,ud,ue,uf,ug,eD,gy];have t3:=Tryz.underlying3;have a3:=Tryz.isAgg3;have E:=Tryz.sizeOf3;have G:=Tryz.zeroValue3;have t4:=Tryz.underlying4;have a4:=Tryz.isAgg4;have I:=Tryz.sizeOf4;have J:=Tryz.zeroValue4;have t28:=Tryz.underlying28;have a28:=Tryz.isAgg28;have z:=Tryz.sizeOf28;have V:=Tryz.zeroValue28;have U:=run_underlying Tryz.underlying3;have K:=run_underlying Tryz.underlying4;have u:=run_underlying Tryz.underlying28;obtain⟨L,C,rfl,-,dt⟩:=h;gi_wp2;gi_loopw [3,5,8] (λa _ i w'=>∃j:Nat,i= .int .i64 (j:Int)/\j<=O l/\a= .int .i64 (l.take j).sum/\w'=w) (λ_ _ i _=>p9 (O l) i);(case atStart=>exact⟨0,rfl,bA _,rfl,rfl⟩);case round=>obtain⟨j,rfl,M,rfl,rfl⟩:=hrel;rcases dI j (O l) with t |m;{obtain⟨b,o,rfl,hc⟩:=dt (by intro e;subst e;simp at t);obtain⟨x,H⟩:∃x,l[j]? =Z x:=⟨_,aw t⟩;have N:=hc j x H;clear hc dt;(have d:(j:Int)<(O l:Int):=by omega);(have s:(0 :Int)<=(j:Int):=by omega);(have k:(l.take (j+1)).sum=(l.take j).sum+x:=by rw[si,H];simp);have P:=Bs p j;have y:=Bs p (j+1);have A:=p x (bK H);rw[k] at y;(have Q:(l.take j).sum+x<4611686018427387904:=by omega);gi_wp2;go_roundw;(case rel=>exact⟨j+1,by simp,t,by rw[k],trivial⟩);case measure=>simp only[p9];omega};(have d:¬(j:Int)<(O l:Int):=by omega);(have f:j=O l:=by omega);subst f;gi_wp2;refine bodyPost_ret (results_tmp rfl _ _ _) rfl ?_;exact⟨rfl,rfl⟩
theorem acB(F:Fence)(n:Nat)(H:F.fn 112)(a:F.fn 173)(r:F.round=Y)(f:1<=n)(l:List Int)(b:O l<4611686018427387904)(p:∀x∈l,0<=x)(s:l.sum<4611686018427387904)(va v:Value)(w:World)(h:gv l va w): CallsIn F n Tryz.prog 112 #[.agg #[va,v]] w λe w'=>e= .returned (.int .i64 l.sum)/\RowKit.Below w.heap.size w w':=by refine callsIn_of_wp Tryz.func112 rfl H ?_ r;simp only[Tryz.ntmps112,mN,cY,dG,sg,ub,ud,ue,uf,ug,eD,gy];have t3:=Tryz.underlying3;have a3:=Tryz.isAgg3;have g:=Tryz.sizeOf3;have t28:=Tryz.underlying28;have a28:=Tryz.isAgg28;have z:=Tryz.sizeOf28;have t30:=Tryz.underlying30;have yg:=Tryz.isAgg30;have Z:=Tryz.sizeOf30;have i:=Tryz.zeroValue3;have V:=Tryz.zeroValue28;have j:=run_underlying Tryz.underlying3;have u:=run_underlying Tryz.underlying28;have U:=run_underlying Tryz.underlying30;have c:=λW (d:RowKit.Below w.heap.size w W)=>RE F (n-1) a r l b p s va W (h.below d);have B:∀o,RowKit.Below w.heap.size w (w.alloc o):=λo=>RowKit.Below.alloc (.refl _ _) (aS _) o;gi_wp2_with (gi_at_call 173;refine(c _ (B _)).mono ?_;rintro e w' ⟨rfl,rfl⟩);refine bodyPost_ret (results_tmp rfl _ _ _) rfl ?_;exact⟨rfl,B _⟩
theorem acC(F:Fence)(n:Nat)(a:F.fn 238)(d:F.fn 173)(r:F.round=Y)(K:1<=n)(l:List Int)(u:O l<4611686018427387904)(y:∀x∈l,0<=x)(L:l.sum<4611686018427387904)(s:Int)(C:0<=s)(f:s<(O l:Int))(va v:Value)(w:World)(h:gv l va w): CallsIn F n Tryz.prog 238 #[.agg #[va,v],.int .i64 s] w λe w'=>e= .returned (.int .i64 (l.take s.toNat).sum)/\RowKit.Below w.heap.size w w':=by
 refine callsIn_of_wp Tryz.func238 rfl a ?_ r;simp only[Tryz.ntmps238,mN,cY,dG,sg,ub,ud,ue,uf,ug,eD,gy];have t3:=Tryz.underlying3;have a3:=Tryz.isAgg3;have M:=Tryz.sizeOf3;have t28:=Tryz.underlying28;have a28:=Tryz.isAgg28;have E:=Tryz.sizeOf28;have t30:=Tryz.underlying30;have yg:=Tryz.isAgg30;have G:=Tryz.sizeOf30;have N:=Tryz.zeroValue3;have V:=Tryz.zeroValue28;have P:=run_underlying Tryz.underlying3;have U:=run_underlying Tryz.underlying28;have I:=run_underlying Tryz.underlying30;have B:∀o,RowKit.Below w.heap.size w (w.alloc o):=λo=>RowKit.Below.alloc (.refl _ _) (aS _) o;obtain⟨Q,p,rfl,z,g⟩:=h;have i:l≠[]:=by intro e;subst e;simp at f;omega
 obtain⟨b,o,rfl,J⟩:=g i;have k:s<=(p:Int):=by omega
 have S:∀W,RowKit.Below w.heap.size w W->gv (l.take s.toNat) (.slice (Z ⟨b,o,Y⟩) s.toNat p) W:=λW m=>by refine⟨_,_,by rw[im,oB (by omega)],by rw[im];omega,λ_=>⟨b,o,rfl,λj x H=>?_⟩⟩;(have t:l[j]? =Z x:=by rw[jF] at H;split at H;{exact H};cases H);have:=J j x t;rw[m.cell (ph this)];exact this
 have A:=Bs y s.toNat;have c:=λW (m:RowKit.Below w.heap.size w W)=>RE F (n-1) d r (l.take s.toNat) (by rw[im];omega) (λx H=>y x (gP H)) (by omega) _ W (S W m);gi_wp2_with (gi_at_call 173;refine(c _ (B _)).mono ?_;rintro e w' ⟨rfl,rfl⟩);refine bodyPost_ret (results_tmp rfl _ _ _) rfl ?_;exact⟨rfl,B _⟩
theorem acD(F:Fence)(n:Nat)(h:F.fn 178)(r:F.round=Y)(p:Int)(va v:Value)(d:Option Addr)(k cap:Nat)(w:World): CallsIn F n Tryz.prog 178 #[.agg #[va,v],.int .i64 p,.slice d k cap] w λe w'=>∃C a c,e= .returned (.func (.func 237) #[] #[.pointer (Z ⟨C,0,Y⟩),.pointer (Z ⟨a,0,Y⟩),.pointer (Z ⟨c,0,Y⟩)])/\RowKit.Below w.heap.size w w'/\ (w.heap.size<=C/\w.heap.size<=a/\w.heap.size<=c)/\w'.cell? ⟨C,0,Y⟩=Z (.slice d k cap)/\w'.cell? ⟨a,0,Y⟩=Z (.int .i64 p)/\w'.cell? ⟨c,0,Y⟩=Z va/\w'.cell? ⟨c,1,Y⟩=Z v:=by refine callsIn_of_wp Tryz.func178 rfl h ?_ r;simp only[Tryz.ntmps178,mN,cY,dG,sg,ub,ud,ue,uf,ug,eD,gy];have t3:=Tryz.underlying3;have a3:=Tryz.isAgg3;have m:=Tryz.sizeOf3;have t28:=Tryz.underlying28;have a28:=Tryz.isAgg28;have g:=Tryz.sizeOf28;have t30:=Tryz.underlying30;have yg:=Tryz.isAgg30;have i:=Tryz.sizeOf30;have t245:=Tryz.underlying245;have A:=Tryz.isAgg245;have z:=Tryz.sizeOf245;have t228:=Tryz.underlying228;have b:=Tryz.isAgg228;have f:=Tryz.sizeOf228;have o:=Tryz.zeroValue3;have V:=Tryz.zeroValue28;have s:=run_underlying Tryz.underlying3;have j:=run_underlying Tryz.underlying28;have l:=run_underlying Tryz.underlying30;have u:=run_underlying Tryz.underlying245;have U:=run_underlying Tryz.underlying228;gi_wp2;refine bodyPost_ret (results_tmp rfl _ _ _) rfl ?_;refine⟨_,_,_,rfl,RowKit.Below.alloc (RowKit.Below.alloc (RowKit.Below.alloc (.refl _ _) (aS _) _) (by simp) _) (by simp;omega) _,⟨by omega,by omega,by omega⟩,?_,?_,?_,?_⟩;all_goals simp[go_sem]
structure fH (fb:Nat->Prop) (A:World) (C:List (Nat×Nat×Value)) (Zz:List (Nat×Obj)):Prop where
 cells:∀x∈C,fb x.1/\A.cell? ⟨x.1,x.2.1,Y⟩=Z x.2.2
 fU:∀x∈Zz,fb x.1/\Obj.plainO x.2=true/\A.heap[x.1]? =Z x.2
section
variable{fb:Nat->Prop}{C C':List (Nat × Nat × Value)}{Zz O':List (Nat × Obj)}
theorem fH.nil:fH fb A [] []:=⟨λ_ h=>(iZ h).elim,λ_ h=>(iZ h).elim⟩
theorem fH.app(h:fH fb A C Zz)(a:fH fb A C' O'):fH fb A (C'++C) (O'++Zz):=⟨λx H=>(cu.1 H).elim (a.cells x) (h.cells x),λx H=>(cu.1 H).elim (a.fU x) (h.fU x)⟩
theorem fH.sub(h:fH fb A C Zz)(c:∀x∈C',x∈C)(o:∀x∈O',x∈Zz):fH fb A C' O':=⟨λx H=>h.cells x (c x H),λx H=>h.fU x (o x H)⟩
theorem fH.vJ{fb':Nat->Prop}(h:fH fb A C Zz)(f:∀b,fb b->fb' b):fH fb' A C Zz:=⟨λx H=>⟨f _ (h.cells x H).1,(h.cells x H).2⟩,λx H=>⟨f _ (h.fU x H).1,(h.fU x H).2⟩⟩
theorem fH.below(h:fH fb A C Zz)(b:RowKit.Below A.heap.size A B):fH fb B C Zz:=⟨λx H=>⟨(h.cells x H).1,by rw[b.cell (ph (h.cells x H).2)];exact(h.cells x H).2⟩,λx H=>⟨(h.fU x H).1,(h.fU x H).2.1,by rw[b.block x.1 (gp.1 (h.fU x H).2.2).1];exact(h.fU x H).2.2⟩⟩
theorem fH.stands(h:fH fb A C Zz)(s:∀b,fb b->kT b A B):fH fb B C Zz:=⟨λx H=>⟨(h.cells x H).1,by rw[(s _ (h.cells x H).1).1];exact(h.cells x H).2⟩,λx H=>⟨(h.fU x H).1,(h.fU x H).2.1,(s _ (h.fU x H).1).2 _ (h.fU x H).2.2 (h.fU x H).2.1⟩⟩
theorem fH.turn(h:fH fb A C Zz){o':Obj}(a:A.heap[b]? =Z o)(c:Obj.plainO o=true)(d:∀x∈Zz,x.1≠b):fH fb (A.putObj b o') C Zz:=by refine⟨λx H=>⟨(h.cells x H).1,?_⟩,λx H=>⟨(h.fU x H).1,(h.fU x H).2.1,?_⟩⟩;{have q:=(h.cells x H).2;(have n:x.1≠b:=λe=>by rw[e] at q;simp only[World.cell?,a] at q;cases o<;>first |(cases c;done) |(simp at q));rw[uY (w:=A) (World.putObj_heap_other n)];exact q};rw[World.putObj_heap_other (d x H)];exact(h.fU x H).2.2
end
theorem acE(l:List Int)(n:O l<4611686018427387904)(p:∀x∈l,0<=x)(b:l.sum<4611686018427387904)(s:Int)(H:0<=s)(a:s<(O l:Int))(va v:Value)(w:World)(h:gv l va w): Calls Tryz.prog 238 #[.agg #[va,v],.int .i64 s] w λe w'=>e= .returned (.int .i64 (l.take s.toNat).sum)/\RowKit.Below w.heap.size w w':=oc.1 (acC (wr Y) 1 trivial trivial rfl (aS _) l n p b s H a va v w h)
theorem acF(l:List Int)(n:O l<4611686018427387904)(p:∀x∈l,0<=x)(s:l.sum<4611686018427387904)(va v:Value)(w:World)(h:gv l va w): Calls Tryz.prog 112 #[.agg #[va,v]] w λe w'=>e= .returned (.int .i64 l.sum)/\RowKit.Below w.heap.size w w':=oc.1 (acB (wr Y) 1 trivial trivial rfl (aS _) l n p s va v w h)
theorem acG(p:Int)(va v:Value)(a:Option Addr)(k cap:Nat)(w:World): Calls Tryz.prog 178 #[.agg #[va,v],.int .i64 p,.slice a k cap] w λe w'=>∃C b c,e= .returned (.func (.func 237) #[] #[.pointer (Z ⟨C,0,Y⟩),.pointer (Z ⟨b,0,Y⟩),.pointer (Z ⟨c,0,Y⟩)])/\RowKit.Below w.heap.size w w'/\ (w.heap.size<=C/\w.heap.size<=b/\w.heap.size<=c)/\w'.cell? ⟨C,0,Y⟩=Z (.slice a k cap)/\w'.cell? ⟨b,0,Y⟩=Z (.int .i64 p)/\w'.cell? ⟨c,0,Y⟩=Z va/\w'.cell? ⟨c,1,Y⟩=Z v:=oc.1 (acD (wr Y) 1 trivial rfl p va v a k cap w)
theorem Bu{B:Nat}{a:World}(h:RowKit.Below B a w):RowKit.Below B a w.drew:=⟨h.os,h.tape,h.output,h.size,h.block⟩
theorem KG{c C a d:Addr}{v V e f:Value}{va:Value}{W:World} (h:w.cell? c=Z v/\w.cell? C=Z V/\w.cell? a=Z e/\w.cell? d=Z f/\gv l va w/\RowKit.Below W.heap.size W w) (b:RowKit.Below w.heap.size w w'): w'.cell? c=Z v/\w'.cell? C=Z V/\w'.cell? a=Z e/\w'.cell? d=Z f/\gv l va w'/\RowKit.Below W.heap.size W w':=by obtain⟨H,g,i,j,m,k⟩:=h;exact⟨by rw[b.cell (ph H)];exact H,by rw[b.cell (ph g)];exact g,by rw[b.cell (ph i)];exact i,by rw[b.cell (ph j)];exact j,m.below b,k.trans (b.mono k.size)⟩
theorem gv.tail{s:Int}{r:List Int}{S so cap:Nat}{n:Option Addr}(h:gv (s::r) (.slice (Z ⟨S,so,Y⟩) (O (s::r)) cap) A)(a:(if cap=1 then Z (⟨S,so,Y⟩:Addr) else Z ⟨S,so+1,Y⟩)=n):gv r (.slice n (O r) (cap-1)) A:=by obtain⟨l,p,H,c,d⟩:=h;cases H;simp only[cY] at c;refine⟨_,_,rfl,by omega,λf=>?_⟩;have g:cap≠1:=λe=>f (pE (by omega));rw[if_neg g] at a;obtain⟨b,o,H,i⟩:=d (by simp);cases H;refine⟨S,so+1,a.symm,λj x k=>?_⟩;have:=i (j+1) x (by simpa using k);rw[show so+1+j=so+(j+1) by omega];exact this
theorem Bv{C:World}(h:kT b A B)(k:kT b B C):kT b A C:=⟨λo=>(k.1 o).trans (h.1 o),λo a H=>k.2 o (h.2 o a H) H⟩
theorem KH{l:Nat}(h:b≠l):kT b A (A.putObj l o):=⟨λ_=>uY (World.putObj_heap_other h) _,λ_ H _=>(World.putObj_heap_other h).trans H⟩
def RF(a b P:Nat×Nat)(ss:List Int)(p:Int)(ats:List Int)(vs va v:Value)(w:World):Prop:=w.cell? ⟨a.1,a.2,Y⟩=Z vs/\w.cell? ⟨b.1,b.2,Y⟩=Z (.int .i64 p)/\w.cell? ⟨P.1,P.2,Y⟩=Z va/\w.cell? ⟨P.1,P.2+1,Y⟩=Z v/\gv ss vs w/\gv ats va w
def Fh(t0 t1 t2 t3 t4 t5 t6:Value)(U:Nat->Value):Array Value:=#[t0,t1,t2,t3,t4,t5,t6,U 7,U 8,U 9,U 10,U 11,U 12,U 13,U 14,U 15,U 16,U 17,U 18,U 19,U 20,U 21,U 22,U 23,U 24,U 25,U 26,U 27,U 28,U 29,U 30,U 31,U 32,U 33,U 34,U 35,U 36,U 37,U 38,U 39,U 40,U 41,U 42,U 43,U 44,U 45,U 46,U 47]
theorem acH(t0 t1 t2 t3 t4 t5 t6:Value)(U:Nat->Value):Fh t0 t1 t2 t3 t4 t5 t6 U= #[t0,t1,t2,t3,t4,t5,t6,U 7,U 8,U 9,U 10,U 11,U 12,U 13,U 14,U 15,U 16,U 17,U 18,U 19,U 20,U 21,U 22,U 23,U 24,U 25,U 26,U 27,U 28,U 29,U 30,U 31,U 32,U 33,U 34,U 35,U 36,U 37,U 38,U 39,U 40,U 41,U 42,U 43,U 44,U 45,U 46,U 47]:=rfl
theorem RG{a:Array Value}{ds:List Deferred}(h:a.size=48):({tmps:=a,defers:=ds}:Act)={tmps:=Fh (a.getD 0 undef) (a.getD 1 undef) (a.getD 2 undef) (a.getD 3 undef) (a.getD 4 undef) (a.getD 5 undef) (a.getD 6 undef) (λi=>a.getD i undef),defers:=ds}:=by (have e:a=Fh (a.getD 0 undef) (a.getD 1 undef) (a.getD 2 undef) (a.getD 3 undef) (a.getD 4 undef) (a.getD 5 undef) (a.getD 6 undef) (λi=>a.getD i undef):=by apply G9;{rw[h];rfl};intro i h1 h2;(have H:i<48:=by omega);(have g:a[i]=a.getD i undef:=by simp[Array.getD,h1]);rw[g];match i,H with| 0,_=>rfl| 1,_=>rfl| 2,_=>rfl| 3,_=>rfl| 4,_=>rfl| 5,_=>rfl| 6,_=>rfl| 7,_=>rfl| 8,_=>rfl| 9,_=>rfl| 10,_=>rfl| 11,_=>rfl| 12,_=>rfl| 13,_=>rfl| 14,_=>rfl| 15,_=>rfl| 16,_=>rfl| 17,_=>rfl| 18,_=>rfl| 19,_=>rfl| 20,_=>rfl| 21,_=>rfl| 22,_=>rfl| 23,_=>rfl| 24,_=>rfl| 25,_=>rfl| 26,_=>rfl| 27,_=>rfl| 28,_=>rfl| 29,_=>rfl| 30,_=>rfl| 31,_=>rfl| 32,_=>rfl| 33,_=>rfl| 34,_=>rfl| 35,_=>rfl| 36,_=>rfl| 37,_=>rfl| 38,_=>rfl| 39,_=>rfl| 40,_=>rfl| 41,_=>rfl| 42,_=>rfl| 43,_=>rfl| 44,_=>rfl| 45,_=>rfl| 46,_=>rfl| 47,_=>rfl|n+48,H=>exact absurd H (by omega));exact congrArg (λt=>({tmps:=t,defers:=ds}:Act)) e
theorem acI{c:Code}(h:∀b:Exit->Act->World->Prop,(∀e a w,Q e a w->b e a w\/False)->c.wp P b a w):c.wp P Q a w:=h Q λ_ _ _ q=>.inl q
theorem acJ{c:Code}{Rel:Nat->Act->World->Prop} (h:∀i a w,Rel i a w->eU ro fid P c (Exit.then (λa w=>∃i',i=i'+1/\Rel i' a w) Q) a w) {m:Nat}   (H:Rel m a w):eU ro fid P (.loop c) Q a w:=by refine Py (m+1) λR _ s=>?_;(have k:∀i a w,Rel i a w->R (i+1) a w:=by intro i;induction i with|zero=>intro a w r;refine s 0 a w (uW (h 0 a w r) λe a w q=>?_);(cases e with|normal=>obtain⟨i',e,_⟩:=q;omega|_=>exact q)|succ i I=>intro a w r;refine s (i+1) a w (uW (h (i+1) a w r) λe a w q=>?_);cases e with|normal=>obtain⟨i',e,q⟩:=q;(have :i=i':=by omega);subst this;exact I a w q|_=>exact q);exact k m a w H
theorem acK{g:Operand}{ps:Array Tmp}{A:Code}{f:Nat}{l b:Array Value}(H:a.eval g= .func (.func f) l b)(t:Vs.Enters P f) (h:∀r:Loop,r={state:=.ready,pending:=Y,fn:=fid,tmps:=a.tmps,params:=ps,assign:=A,body,defers:=w.heap.size}-> Calls P f (l++ #[.func (.yield (w.heap.size+1)) #[] #[]]++b) ((w.alloc (.deferred (Z []))).alloc (.loop r)) λe B=>match e with| .returned _=>∃j W,(Instr.endLoop (w.heap.size+1)).run P B= .ok j W/\(match j with|none=>Q .normal {a with defers:=Vs.mark w.heap.size::a.defers} W|some c=>eU Y fid P c Q {a with defers:=Vs.mark w.heap.size::a.defers} W)| .panicked C=>Q (.panic C) {a with defers:=Vs.mark w.heap.size::a.defers} B| .outgrown=>False):eU Y fid P (.rangeFunc g ps A body) Q a w:=PC H t (h _ rfl)
theorem acL{n:Nat}{l:Nat}{f:FuncId}{tmps:Array Value}{assign:Code}{R:Ending->World->Prop}(h:RoundIn (wr Y) n P l f tmps assign body w R):RoundIn (wr ro) n P l f tmps assign body w R:=h
theorem KJ{P:Program}{fn:Func}{tmps:Array Value}{R:Ending->World->Prop}{u:FrameMode}{K:World->Prop}(a:u≠.run)(b:∀w,K w->Leaves P fn tmps R [] u w): ∀(s:List Nat) (w:World),K w->s.Nodup->(∀m∈s,w.heap[m]? =Z (.deferred (Z [])))->(∀w m,m∈s->K w->w.heap[m]? =Z (.deferred (Z []))->K (w.putObj m (.deferred Y)))->my P fn tmps R (s.map Vs.mark) u w|[],w,h,_,_,_=>xW (b w h)|m::s,w,h,n,c,T=>by obtain⟨d,f⟩:=qt.1 n;have g:=c m (by simp);refine .inl ⟨a,m,w.putObj m (.deferred Y),rfl,run_takeDeferred g,?_⟩;refine KJ a b s _ (T w m (by simp) h g) f (λk H=>?_) λw k H=>T w k (by simp[H]);exact(World.putObj_heap_other (λe=>d (by rw[<-e];exact H))).trans (c k (by simp[H]))
theorem RH(ats:List Int)(tr:∀x∈ats,0<=x)(KK:ats.sum<4611686018427387904)(hlen:O ats<4611686018427387904):∀(ss:List Int),O ss<4611686018427387904->(∀s∈ss,0<=s/\s<(O ats:Int))->
    ∀(p:Int) (lp:Nat) (p1 p2 p3:Nat×Nat) (vs va V:Value) (J:Nat->(Nat->Prop)->World->Prop) (X:Ending->World->Prop) (W:World),
     (∀k fb A,J k fb A->RF p1 p2 p3 ss p ats vs va V A)->
     (∀k fb A B,J k fb A->RowKit.Below A.heap.size A B->J k (λb=>fb b\/(A.heap.size<=b/\b<B.heap.size)) B)->
     (∀k fb A b o o',J k fb A->fb b->A.heap[b]? =Z o->Obj.plainO o=true->J k fb (A.putObj b o'))->(∀e A B,X e A->RowKit.Below A.heap.size A B->X e B)->
     (∀e A b o o',X e A->W.heap.size<=b->A.heap[b]? =Z o->Obj.plainO o=true->X e (A.putObj b o'))->
     (∀k fb x A,(dz ats ss p)[k]? =Z x->J k fb A->YieldAt (wr Y) 0 Tryz.prog lp #[.int .i64 x] A λe B=>(A.heap.size<=B.heap.size/\∀b,fb b->kT b A B)/\((e= .returned (.bool true)/\J (k+1) fb B)\/(e= .returned (.bool false)/\X e B)\/∃C,e= .panicked C/\X e B))->
     J 0 (λ_=>False) W->
     Calls Tryz.prog 237 #[.func (.yield lp) #[] #[],.pointer (Z ⟨p1.1,p1.2,Y⟩),.pointer (Z ⟨p2.1,p2.2,Y⟩),.pointer (Z ⟨p3.1,p3.2,Y⟩)] W λe B=>((∃v,e= .returned v)/\((∃fb,J (O (dz ats ss p)) fb B)\/X (.returned (.bool false)) B))\/∃C,e= .panicked C/\X e B
 |[],_,_,p,lp,p1,p2,p3,vs,va,V,J,X,W,hK,hJ,hT,hX,vK,hY,h0=>by
  have hc:CallsIn (wr Y) 1 Tryz.prog 237 #[.func (.yield lp) #[] #[],.pointer (Z ⟨p1.1,p1.2,Y⟩),.pointer (Z ⟨p2.1,p2.2,Y⟩),.pointer (Z ⟨p3.1,p3.2,Y⟩)] W λe B=>((∃v,e= .returned v)/\((∃fb,J (O (dz ats [] p)) fb B)\/X (.returned (.bool false)) B))\/∃C,e= .panicked C/\X e B:=by
   refine callsIn_of_wp Tryz.func237 rfl trivial ?_ rfl;simp only[Tryz.ntmps237,mN,cY,dG,sg,ub,ud,ue,uf,ug,eD,gy];have t3:=Tryz.underlying3;have a3:=Tryz.isAgg3;have z3:=Tryz.sizeOf3;have t4:=Tryz.underlying4;have a4:=Tryz.isAgg4;have z4:=Tryz.sizeOf4;have t28:=Tryz.underlying28;have a28:=Tryz.isAgg28;have z28:=Tryz.sizeOf28;have t30:=Tryz.underlying30;have yg:=Tryz.isAgg30;have z30:=Tryz.sizeOf30;have t135:=Tryz.underlying135;have EW:=Tryz.isAgg135;have acN:=Tryz.sizeOf135;have v3:=Tryz.zeroValue3;have v4:=Tryz.zeroValue4;have v28:=Tryz.zeroValue28;have acO:=Tryz.zeroValue135;have u3:=run_underlying Tryz.underlying3;have u4:=run_underlying Tryz.underlying4;have Rr:=run_underlying Tryz.underlying28;have Rz:=run_underlying Tryz.underlying30;have acP:=run_underlying Tryz.underlying135;have hro:(wr Y).round=Y:=rfl;have rh:RowKit.Below W.heap.size W (W.alloc (Obj.cells #[Value.func (.yield lp) #[] #[]] 135)):=RowKit.Below.alloc (.refl _ _) (aS _) _;have yl:=hJ _ _ _ _ h0 rh;have hce:(W.alloc (Obj.cells #[Value.func (.yield lp) #[] #[]] 135)).cell? ⟨W.heap.size,0,Y⟩=Z (.func (.yield lp) #[] #[]):=by simp[go_sem]
   obtain⟨q1,q2,q3,q4,⟨ad,G,rfl,mV,dt⟩,q6⟩:=hK _ _ _ yl;clear dt q6 q3 q4;obtain⟨fn,tmps,assign,body,hy,hR⟩:=hY 0 _ p _ rfl yl
   gi_wp2
   refine hR.mono ?_;rintro e W3 ⟨-,(⟨rfl,tq⟩ |⟨rfl,mA⟩ |⟨C,rfl,mA⟩)⟩
   .gi_wp2
    refine bodyPost_ret (results_none rfl _ _ _) rfl ?_;exact .inl ⟨⟨_,rfl⟩,.inl ⟨_,tq⟩⟩
   .gi_wp2
    refine bodyPost_ret (results_none rfl _ _ _) rfl ?_;exact .inl ⟨⟨_,rfl⟩,.inr mA⟩
   .gi_wp2
    first
     |exact⟨rfl,Or.inr ⟨C,rfl,mA⟩⟩
     |exact⟨rfl,Or.inr ⟨⟨C,rfl⟩,mA⟩⟩
  exact oc.1 hc
 |s::r,lF,Bw,p,lp,p1,p2,p3,vs,va,V,J,X,W,hK,hJ,hT,hX,vK,hY,h0=>by
  have IH:=RH ats tr KK hlen r (by simp at lF;omega) (λs hs=>Bw s (by simp[hs]));obtain⟨Bx,sR⟩:=Bw s (by simp);refine JT Tryz.func237 rfl ?_;simp only[Tryz.ntmps237,mN,cY,dG,sg,ub,ud,ue,uf,ug,eD,gy];have t3:=Tryz.underlying3;have a3:=Tryz.isAgg3;have z3:=Tryz.sizeOf3;have t4:=Tryz.underlying4;have a4:=Tryz.isAgg4;have z4:=Tryz.sizeOf4;have t28:=Tryz.underlying28;have a28:=Tryz.isAgg28;have z28:=Tryz.sizeOf28;have t30:=Tryz.underlying30;have yg:=Tryz.isAgg30;have z30:=Tryz.sizeOf30;have t135:=Tryz.underlying135;have EW:=Tryz.isAgg135;have acN:=Tryz.sizeOf135;have v3:=Tryz.zeroValue3;have v4:=Tryz.zeroValue4;have v28:=Tryz.zeroValue28;have acO:=Tryz.zeroValue135;have u3:=run_underlying Tryz.underlying3;have u4:=run_underlying Tryz.underlying4;have Rr:=run_underlying Tryz.underlying28;have Rz:=run_underlying Tryz.underlying30;have acP:=run_underlying Tryz.underlying135;have rh:RowKit.Below W.heap.size W (W.alloc (Obj.cells #[Value.func (.yield lp) #[] #[]] 135)):=RowKit.Below.alloc (.refl _ _) (aS _) _;have yl:=hJ _ _ _ _ h0 rh;have hce:(W.alloc (Obj.cells #[Value.func (.yield lp) #[] #[]] 135)).cell? ⟨W.heap.size,0,Y⟩=Z (.func (.yield lp) #[] #[]):=by simp[go_sem]
  generalize hQ:rp Tryz.prog Tryz.f237 (λe B=>((∃v,e=Ending.returned v)/\((∃fb,J (O (dz ats (s::r) p)) fb B)\/X (Ending.returned (Value.bool false)) B))\/∃C,e=Ending.panicked C/\X e B)=Q;refine pX (rm ?_)
  go_wp2
  have acR:W.heap.size<(W.alloc (Obj.cells #[Value.func (.yield lp) #[] #[]] 135)).heap.size:=by simp
  have RJ:fH (λb=>False\/(W.heap.size<=b/\b<(W.alloc (Obj.cells #[Value.func (.yield lp) #[] #[]] 135)).heap.size)) (W.alloc (Obj.cells #[Value.func (.yield lp) #[] #[]] 135)) [(W.heap.size,0,.func (.yield lp) #[] #[])] []:=
   ⟨λx g=>by rw[jn] at g;subst g;exact⟨.inr ⟨aS _,acR⟩,hce⟩,λx g=>(iZ g).elim⟩
  have acS:=rh.size;generalize W.alloc (Obj.cells #[Value.func (.yield lp) #[] #[]] 135)=W1 at *;generalize (λb=>False\/(W.heap.size<=b/\b<W1.heap.size))=RK at *;obtain⟨q1,q2,q3,q4,q5,q6⟩:=hK _ _ _ yl;obtain⟨ad,G,rfl,mV,dt⟩:=q5;obtain⟨sb,so,rfl,hsc⟩:=dt (by simp);have hs:=hsc 0 s rfl;rw[lU] at hs;have hln:(0 :Int)<(O (s::r):Int):=by simp
  clear hsc dt;refine pX (rm ?_)
  go_wp2
  have RL:RowKit.Below W1.heap.size W1 W1:=.refl _ _;refine pX (rm ?_)
  go_region_held3 (λw'=>w'.cell? ⟨p1.1,p1.2,Y⟩=Z (.slice (Z ⟨sb,so,Y⟩) (O (s::r)) G)/\w'.cell? ⟨p3.1,p3.2,Y⟩=Z va/\w'.cell? ⟨p3.1,p3.2+1,Y⟩=Z V/\w'.cell? ⟨sb,so,Y⟩=Z (.int .i64 s)/\gv ats va w'/\RowKit.Below W1.heap.size W1 w')
   (first
    |exact⟨q1,q3,q4,hs,q6,Bu (.refl _ _)⟩
    |(refine KG ⟨q1,q3,q4,hs,q6,RL⟩ (RowKit.Below.trans (Bu (.refl _ W1)) ?_);assumption))
   ((go_at_call 238;refine(acE ats hlen tr KK s Bx sR va V _ (by assumption)).mono ?_;rintro e w2 ⟨rfl,kS⟩))
  have Fj:RowKit.Below W1.heap.size W1 w2:=(Bu (.refl _ W1)).trans kS;have RM:=hJ _ _ _ _ yl Fj;have Ax:=(RJ.below Fj).vJ (fb':=λb=>RK b\/(W1.heap.size<=b/\b<w2.heap.size)) λb h=>.inl h;have acT:W.heap.size<=w2.heap.size:=eR acS Fj.size;generalize (λb=>RK b\/(W1.heap.size<=b/\b<w2.heap.size))=fb2 at RM Ax;rename_i KL;clear KL kS Fj RL hs q1 q2 q3 q4 q6 RJ yl hce rh;refine pX (rm ?_)
  go_wp2
  refine uX ?_;obtain⟨x,g⟩:∃x,ats[s.toNat]? =Z x:=⟨_,aw (by omega)⟩;have hx0:0<=x:=tr x (bK g);have hgx:ats.getD s.toNat 0=x:=by simp[al0,g]
  obtain⟨f,hf⟩:∃f,(nK s.toNat ats).sum=f:=⟨_,rfl⟩;have Bz:0<=f/\f+x<4611686018427387904:=by
   have h1:=Bs tr s.toNat;have h2:=Bs tr (s.toNat+1);rw[si,g] at h2;simp only[Hj,Option.toList_some,zy,List.sum_nil] at h2;omega
  obtain⟨L,hL⟩:∃L,dz ats (s::r) p=L:=⟨_,rfl⟩;have hLe:(dH x.toNat).flatMap (fun(j:Nat)=>dz ats r (IntKind.i64.wrap (IntKind.i64.wrap (p*ats.sum)+(f+(j:Int)))))=L:=by
   rw[<-hL,dz,hgx,hf]
  rw[hL] at hQ hY;have RN:∀(tm:Array Value) (w:World),((∃fb,J (O L) fb w)\/X (.returned (.bool false)) w)->Leaves Tryz.prog Tryz.f237 tm (λe B=>((∃v,e=Ending.returned v)/\((∃fb,J (O L) fb B)\/X (Ending.returned (Value.bool false)) B))\/∃C,e=Ending.panicked C/\X e B) [] .returning w:=λtm w hw=>by
   show ∃v,(results Tryz.f237 tm).run Tryz.prog w= .ok v w/\_;exact⟨_,results_none rfl _ _ _,.inl ⟨⟨_,rfl⟩,hw⟩⟩
  have RP:∀C (tm:Array Value) (w:World),X (.panicked C) w->Leaves Tryz.prog Tryz.f237 tm (λe B=>((∃v,e=Ending.returned v)/\((∃fb,J (O L) fb B)\/X (Ending.returned (Value.bool false)) B))\/∃C,e=Ending.panicked C/\X e B) [] (.panicking C) w:=λC tm w hw=>by
   show _\/_;exact .inr ⟨C,rfl,hw⟩
  have KM:∀(e:Exit),(e= .normal\/e= .ret)->∀(tm:Array Value) (M:List Nat) (A:World),M.Nodup->(∀m∈M,W.heap.size<=m/\A.heap[m]? =Z (.deferred (Z [])))->((∃fb,J (O L) fb A/\∀m∈M,fb m)\/X (.returned (.bool false)) A)->Q e {tmps:=tm,defers:=M.map Vs.mark} A:=by
   intro e he tm M A iQ uZ KN;rw[<-hQ];have key:my Tryz.prog Tryz.f237 tm (λe B=>((∃v,e=Ending.returned v)/\((∃fb,J (O L) fb B)\/X (Ending.returned (Value.bool false)) B))\/∃C,e=Ending.panicked C/\X e B) (M.map Vs.mark) .returning A:=by
    refine KJ (K:=λw=>(∃fb,J (O L) fb w/\∀m∈M,fb m)\/X (.returned (.bool false)) w) (by simp) (λw hw=>RN tm w (hw.imp (λ⟨fb,h,_⟩=>⟨fb,h⟩) id)) M A KN iQ (λm H=>(uZ m H).2) λw m H hw hh=>?_;rcases hw with⟨fb,h1,h2⟩ |h1
    .exact .inl ⟨fb,hT _ _ _ _ _ _ h1 (h2 m H) hh rfl,h2⟩
    .exact .inr (vK _ _ _ _ _ h1 (uZ m H).1 hh rfl)
   rcases he with rfl |rfl
   .exact key
   .exact key
  have RQ:∀C (tm:Array Value) (M:List Nat) (A:World),M.Nodup->(∀m∈M,W.heap.size<=m/\A.heap[m]? =Z (.deferred (Z [])))->X (.panicked C) A->Q (.panic C) {tmps:=tm,defers:=M.map Vs.mark} A:=by
   intro C tm M A iQ uZ KN;rw[<-hQ];show my Tryz.prog Tryz.f237 tm _ (M.map Vs.mark) (.panicking C) A;exact KJ (K:=λw=>X (.panicked C) w) (by simp) (λw hw=>RP C tm w hw) M A KN iQ (λm H=>(uZ m H).2) λw m H hw hh=>vK _ _ _ _ _ hw (uZ m H).1 hh rfl
  rw[hf];refine acJ (Rel:=λi a A=>∃(j k:Nat) (fb:Nat->Prop) (M:List Nat) (U:Nat->Value),i+j=x.toNat/\
      a={tmps:=Fh (.func (.yield lp) #[] #[]) (.pointer (Z ⟨p1.1,p1.2,Y⟩)) (.pointer (Z ⟨p2.1,p2.2,Y⟩)) (.pointer (Z ⟨p3.1,p3.2,Y⟩)) (.pointer (Z ⟨W.heap.size,0,Y⟩)) (.int .i64 f) (.int .i64 (f+(j:Int))) U,defers:=M.map Vs.mark}/\
      ((dH x.toNat).drop j).flatMap (fun(j:Nat)=>dz ats r (IntKind.i64.wrap (IntKind.i64.wrap (p*ats.sum)+(f+(j:Int)))))=L.drop k/\k<=O L/\J k fb A/\fH fb A [(W.heap.size,0,.func (.yield lp) #[] #[])] (M.map λm=>(m,.deferred (Z [])))/\M.Nodup/\(∀m∈M,W.heap.size<=m)/\W.heap.size<=A.heap.size) (m:=x.toNat) ?_ ?_
  .rintro i a A ⟨j,k,fb,M,U,RR,rfl,hk,aop,Fl,Fm,iQ,vp,hA0⟩;rw[acH];obtain⟨q1,q2,q3,q4,q5,q6⟩:=hK k fb A Fl;obtain⟨ada,N,rfl,aor,RS⟩:=q6;obtain⟨ab,ao,rfl,Ff⟩:=RS (by intro e;subst e;simp at g);have RT:=Ff _ _ g;obtain⟨ad5,aot,heq,-,RU⟩:=q5;cases heq;obtain⟨b5,o5,heq,hsc⟩:=RU (by simp);cases heq;have hs:=hsc 0 s rfl;rw[lU] at hs;clear hsc RU RS Ff;refine pX (rm ?_);rcases dI j x.toNat with dZ |ka
   .have oO:(j:Int)<x:=by omega
    have ri:f+(j:Int)<f+x:=by omega
    have AO:f+x<4611686018427387904:=Bz.2;have hl4:0<=f:=Bz.1;have qJ:IntKind.i64.wrap (f+x)=f+x:=IntWalk.i64_in _ (by omega)
    go_wp2
    go_quiet (fail)
    clear qJ
    go_wp2
    have tq:=hJ _ _ _ _ Fl (below_drewN (.refl _ A) nq);have KO:=(Fm.below (below_drewN (.refl _ A) nq)).vJ (fb':=λb=>fb b\/(A.heap.size<=b/\b<(A.drewN nq).heap.size)) λb h=>.inl h;have hA1:W.heap.size<=(A.drewN nq).heap.size:=hA0;generalize (λb=>fb b\/(A.heap.size<=b/\b<(A.drewN nq).heap.size))=Bp at tq KO;generalize A.drewN nq=A1 at *;clear q1 q2 q3 q4 hs RT Fl Fm;obtain⟨q1,q2,q3,q4,q5,q6⟩:=hK k Bp A1 tq;have ac0:(O r:Int)+1<=(G:Int):=by simp at mV;omega
    have ac1:(1 :Int)<=(O r:Int)+1:=by omega
    have ac2:(0 :Int)<=(O r:Int)+1:=by omega
    have ac3:(1 :Int)<=(G:Int):=by omega
    obtain⟨ym,ac4⟩:∃ym,(if G=1 then Z (⟨sb,so,Y⟩:Addr) else Z ⟨sb,so+1,Y⟩)=ym:=⟨_,rfl⟩;refine pX (uX (pX (rm ?_)))
    go_region_held3 (λw'=>w'.cell? ⟨p1.1,p1.2,Y⟩=Z (.slice (Z ⟨sb,so,Y⟩) (O (s::r)) G)/\w'.cell? ⟨p3.1,p3.2,Y⟩=Z (.slice (Z ⟨ab,ao,Y⟩) (O ats) N)/\w'.cell? ⟨p3.1,p3.2+1,Y⟩=Z V/\w'.cell? ⟨p2.1,p2.2,Y⟩=Z (.int .i64 p)/\gv ats (.slice (Z ⟨ab,ao,Y⟩) (O ats) N) w'/\RowKit.Below A1.heap.size A1 w')
     (first
      |exact⟨q1,q3,q4,q2,q6,Bu (.refl _ _)⟩
      |(refine KG ⟨q1,q3,q4,q2,q6,.refl _ _⟩ (RowKit.Below.trans (Bu (.refl _ A1)) ?_);assumption)
      |(refine KG (by assumption) ?_;assumption))
     ((first
      |(go_at_call 112;refine(acF ats hlen tr KK _ V _ (by assumption)).mono ?_;rintro e w3 ⟨rfl,RV⟩)
      |(go_at_call 178;refine(acG _ _ V _ _ _ _).mono ?_;rintro e F ⟨c1,c2,c3,rfl,hb4,hc4,g1,g2,g3,g4⟩)))
    rename_i KL;obtain⟨-,-,-,-,-,Fo⟩:=KL;clear ac0 ac1 ac2 ac3 oO ri AO hl4 q1 q2 q3 q4;obtain⟨p',KP⟩:∃p',IntKind.i64.wrap (IntKind.i64.wrap (p*ats.sum)+(f+(j:Int)))=p':=⟨_,rfl⟩;rw[KP] at g2|-;have BA:A1.heap.size<=c1/\A1.heap.size<=c2/\A1.heap.size<=c3:=by
     have:=RV.size;have e:A1.drew.heap.size=A1.heap.size:=rfl;omega
    have Bq:=hJ _ _ _ _ tq Fo;have yn:=(KO.below Fo).vJ (fb':=λb=>Bp b\/(A1.heap.size<=b/\b<F.heap.size)) λb h=>.inl h;have RW:fH (λb=>Bp b\/(A1.heap.size<=b/\b<F.heap.size)) F [(c1,0,Value.slice ym (O r) (G-1)),(c2,0,.int .i64 p'),(c3,0,Value.slice (Z ⟨ab,ao,Y⟩) (O ats) N),(c3,1,V)] []:=by
     refine⟨λx g=>?_,λx g=>(iZ g).elim⟩;simp only[bJ,iZ,or_false] at g;rcases g with rfl |rfl |rfl |rfl
     .exact⟨.inr ⟨BA.1,ph g1⟩,g1⟩
     .exact⟨.inr ⟨BA.2.1,ph g2⟩,g2⟩
     .exact⟨.inr ⟨BA.2.2,ph g3⟩,g3⟩
     .exact⟨.inr ⟨BA.2.2,ph g4⟩,g4⟩
    have yn:=yn.app RW;have RX:W.heap.size<=F.heap.size:=eR hA1 Fo.size;generalize (λb=>Bp b\/(A1.heap.size<=b/\b<F.heap.size))=KQ at Bq yn;clear RW KO tq RV hb4 Fo hc4 BA g1 g2 g3 g4 q5 q6;refine uX (acK rfl ⟨Tryz.f237,Tryz.func237,by kernel_rfl,by kernel_rfl⟩ λc n=>?_);obtain⟨W5,yo⟩:∃W5,(F.alloc (.deferred (Z []))).alloc (.loop c)=W5:=⟨_,rfl⟩;have RY:W5.heap[F.heap.size+1]? =Z (.loop c):=by
     rw[<-yo];have:=World.alloc_heap_new (F.alloc (.deferred (Z []))) (.loop c);rwa [World.size_alloc] at this
    have RZ:W5.heap[F.heap.size]? =Z (.deferred (Z [])):=by
     rw[<-yo];exact(RowKit.Below.heap_alloc _ _ _ (by simp)).trans (World.alloc_heap_new F _)
    have KR:RowKit.Below F.heap.size F W5:=by
     rw[<-yo];exact((RowKit.Below.refl _ F).alloc (aS _) _).alloc (by simp) _
    have hs5:W5.heap.size=F.heap.size+2:=by rw[<-yo];simp
    rw[yo];clear yo;have Br:=hJ _ _ _ _ Bq KR;have tv:=(yn.below KR).vJ (fb':=λb=>KQ b\/(F.heap.size<=b/\b<W5.heap.size)) λb h=>.inl h;have KS:∀m∈M,m<F.heap.size:=λm H=>(gp.1 (yn.fU (m,.deferred (Z [])) (by simp only[cu,cv];exact .inr ⟨m,H,rfl⟩)).2.2).1;have R1:fH (λb=>KQ b\/(F.heap.size<=b/\b<W5.heap.size)) W5 [] [(F.heap.size+1,.loop c),(F.heap.size,.deferred (Z []))]:=by
     refine⟨λx g=>(iZ g).elim,λx g=>?_⟩;simp only[bJ,iZ,or_false] at g;rcases g with rfl |rfl
     .exact⟨.inr ⟨by omega,by omega⟩,rfl,RY⟩
     .exact⟨.inr ⟨by omega,by omega⟩,rfl,RZ⟩
    have tv:=tv.app R1;generalize (λb=>KQ b\/(F.heap.size<=b/\b<W5.heap.size))=fb5 at Br tv;clear R1 yn Bq KR RY RZ;simp only[eD,gy] at tv;obtain⟨l,hl⟩:∃l,F.heap.size+1=l:=⟨_,rfl⟩;obtain⟨mk,yp⟩:∃mk,F.heap.size=mk:=⟨_,rfl⟩;rw[yp] at n KS RX;rw[hl,yp] at tv|-;have pT:mk+1=l:=by omega
    have hs5:W5.heap.size=mk+2:=by omega
    clear hl yp;obtain⟨C5,vL⟩:∃C5,[(c1,0,Value.slice ym (O r) (G-1)),(c2,0,.int .i64 p'),(c3,0,Value.slice (Z ⟨ab,ao,Y⟩) (O ats) N),(c3,1,V),(W.heap.size,0,.func (.yield lp) #[] #[])]=C5:=⟨_,rfl⟩;obtain⟨O5,KT⟩:∃O5:List (Nat×Obj),(mk,.deferred (Z []))::M.map (λm=>(m,.deferred (Z [])))=O5:=⟨_,rfl⟩;rw[vL,KT] at tv;have u:∀x∈O5,x.1≠l/\x.1<W5.heap.size:=by
     intro x g;rw[<-KT] at g;rcases bJ.1 g with rfl |g
     .exact⟨by show mk≠l;omega,by show mk<_;omega⟩
     .obtain⟨m,H,rfl⟩:=cv.1 g;have:=KS m H;exact⟨by show m≠l;omega,by show m<_;omega⟩
    obtain⟨L',KU⟩:∃L',dz ats r p'=L':=⟨_,rfl⟩;obtain⟨rest,lH⟩:∃rest,((dH x.toNat).drop (j+1)).flatMap (fun(j:Nat)=>dz ats r (IntKind.i64.wrap (IntKind.i64.wrap (p*ats.sum)+(f+(j:Int)))))=rest:=⟨_,rfl⟩;have S:L'++rest=L.drop k:=by
     have hd:(dH x.toNat).drop j=j::(dH x.toNat).drop (j+1):=by
      rw[wG (by simpa using dZ)];simp
     rw[<-hk,hd,nG,lH,KP,KU]
    have hLk:∀k' y,L'[k']? =Z y->L[k+k']? =Z y:=λk' y hy=>by
     have h1:(L.drop k)[k']? =Z y:=by
      rw[<-S,bF (ak.1 hy).1];exact hy
     rwa [lT] at h1
    have Dj:=IH p' l (c1,0) (c2,0) (c3,0) (.slice ym (O r) (G-1)) (.slice (Z ⟨ab,ao,Y⟩) (O ats) N) V
     (λk' fb' A=>∃fb,J (k+k') fb A/\(∀b,fb' b->fb b/\W5.heap.size<=b)/\fH fb A C5 ((l,.loop c)::O5))
     (λe B=>X e B/\fH (λ_=>True) B [] O5/\l<B.heap.size/\∀v,e= .returned v->B.heap[l]? =Z (.loop {c with state:=.done,pending:=Z .ret}))
     W5 ?_ ?_ ?_ ?_ ?_ ?_ ?_
    .have KV:(mk::M).Nodup:=qt.2 ⟨λh=>by have:=KS mk h;omega,iQ⟩;have KW:∀m∈mk::M,W.heap.size<=m:=λm H=>by
      rcases bJ.1 H with rfl |H
      .exact RX
      .exact vp m H
     have KX:∀m∈mk::M,(m,Obj.deferred (Z []))∈O5:=λm H=>by
      rw[<-KT];rcases bJ.1 H with rfl |H
      .exact lx
      .exact fX _ (cv.2 ⟨m,H,rfl⟩)
     refine Calls.mono Dj ?_;rintro e B (⟨⟨v,rfl⟩,⟨fb',fb,hj,d,H⟩ |⟨x1,x2,x3,x4⟩⟩ |⟨C,rfl,x1,x2,x3,x4⟩)
     .have Fp:B.heap[l]? =Z (.loop c):=(H.fU (l,.loop c) (by simp)).2.2;have he:=run_endLoop (P:=Tryz.prog) Fp (by rw[n];simp);have hpd:c.pending=Y:=by rw[n]
      rw[hpd] at he;have z:fb l:=(H.fU (l,.loop c) (by simp)).1;rw[KU] at hj;have R2:=hT _ _ _ l _ (.loop {c with state:=.exhausted,pending:=Y}) hj z Fp rfl;have R3:fH fb (B.putObj l (.loop {c with state:=.exhausted,pending:=Y})) C5 O5:=(H.sub (C':=C5) (O':=O5) (λ_ h=>h) (λ_ h=>fX _ h)).turn Fp rfl λx g=>(u x g).1;have dZ:l<B.heap.size:=(gp.1 Fp).1;have R4:W.heap.size<=(B.putObj l (.loop {c with state:=.exhausted,pending:=Y})).heap.size:=by rw[World.putObj_size];omega
      refine⟨Y,_,he,?_⟩;show eU Y 237 Tryz.prog _ _ _ _;generalize B.putObj l (.loop {c with state:=.exhausted,pending:=Y})=B1 at R2 R3 R4;refine rm ?_;dsimp only;have hw9:f+(j:Int)+1<4611686018427387904:=by have:=Bz.2;omega
      have hw8:0<=f+(j:Int):=by have:=Bz.1;omega
      have R5:IntKind.i64.wrap (f+(j:Int)+1)=f+(j:Int)+1:=IntWalk.i64_in _ (by omega);refine acI λPQ hPQ=>?_
      go_wp2
      have e0:f+((j+1 :Nat):Int)=f+(j:Int)+1:=by omega
      have hrl:rest=L.drop (k+O L'):=by
       have:=congrArg (List.drop (O L')) S;rw[M2 (aS _),zw,eD,zk] at this;exact this
      have pU:k+O L'<=O L:=by
       have:=congrArg gQ S;rw[dF,qq] at this;omega
      refine(hPQ .normal _ _ ?_).resolve_right id;refine⟨i-1,by omega,j+1,k+O L',fb,mk::M,_,by omega,(by rw[e0];exact RG rfl),(by rw[lH];exact hrl),pU,R2,R3.sub (λy hy=>?_) (λy hy=>?_),KV,KW,R4⟩
      .rw[jn] at hy;subst hy;rw[<-vL];simp
      .obtain⟨m,H,rfl⟩:=cv.1 hy;exact KX m H
     .have he:=run_endLoop (P:=Tryz.prog) (x4 _ rfl) (by simp);refine⟨Z .ret,_,he,?_⟩;refine mq (wpIn_ret ?_);have x2':=x2.turn (b:=l) (o':=.loop {c with state:=.exhausted,pending:=Z .ret}) (x4 _ rfl) rfl λx g=>(u x g).1;exact KM .ret (.inr rfl) _ (mk::M) _ KV (λm H=>⟨KW m H,(x2'.fU _ (KX m H)).2.2⟩) (.inr (vK _ _ _ _ _ x1 (by omega) (x4 _ rfl) rfl))
     .exact RQ C _ (mk::M) _ KV (λm H=>⟨KW m H,(x2.fU _ (KX m H)).2.2⟩) x1
    .rintro k' fb' B ⟨fb,hj,d,H⟩;have hat:=hK _ _ _ hj;obtain⟨z1,z2,z3,z4,z5,z6⟩:=hat;refine⟨?_,?_,?_,?_,z5.tail ac4,z6⟩
     .exact(H.cells (c1,0,Value.slice ym (O r) (G-1)) (by rw[<-vL];simp)).2
     .exact(H.cells (c2,0,.int .i64 p') (by rw[<-vL];simp)).2
     .exact(H.cells (c3,0,Value.slice (Z ⟨ab,ao,Y⟩) (O ats) N) (by rw[<-vL];simp)).2
     .exact(H.cells (c3,1,V) (by rw[<-vL];simp)).2
    .rintro k' fb' B B' ⟨fb,hj,d,H⟩ E;have bR:W5.heap.size<=B.heap.size:=by
      have h1:=(gp.1 (H.fU (l,.loop c) (by simp)).2.2).1;have h1:l<B.heap.size:=h1;omega
     exact⟨_,hJ _ _ _ _ hj E,λb h=>h.elim (λh=>⟨.inl (d b h).1,(d b h).2⟩) (λh=>⟨.inr h,by omega⟩),(H.below E).vJ λb h=>.inl h⟩
    .rintro k' fb' B b o o' ⟨fb,hj,d,H⟩ E ho jc;obtain⟨II,kS⟩:=d b E;refine⟨fb,hT _ _ _ _ _ _ hj II ho jc,d,H.turn ho jc λx g=>?_⟩;rcases bJ.1 g with rfl |g
     .show l≠b;omega
     .have:=(u x g).2;omega
    .rintro e B B' ⟨h1,h2,h3,h4⟩ E;exact⟨hX _ _ _ h1 E,h2.below E,r8 h3 E.size,λv hv=>(E.block l h3).trans (h4 v hv)⟩
    .rintro e B b o o' ⟨h1,h2,h3,h4⟩ E ho jc;refine⟨vK _ _ _ _ _ h1 (by omega) ho jc,h2.turn ho jc λx g=>?_,by rw[World.putObj_size];exact h3,λv hv=>(World.putObj_heap_other (by omega)).trans (h4 v hv)⟩;have:=(u x g).2;omega
    .rintro k' fb' y A hy ⟨fb,hj,d,H⟩;have BB:A.heap[l]? =Z (.loop c):=(H.fU (l,.loop c) (by simp)).2.2;have z:fb l:=(H.fU (l,.loop c) (by simp)).1;have R6:=run_yield (P:=Tryz.prog) (args:=#[.int .i64 y]) BB (by rw[n];rfl);have AN:=run_beginRound (P:=Tryz.prog) BB (by rw[n]);have R7:=hT _ _ _ l _ (.loop {c with state:=.busy}) hj z BB rfl;have BC:fH fb (A.putObj l (.loop {c with state:=.busy})) C5 O5:=(H.sub (C':=C5) (O':=O5) (λ_ h=>h) (λ_ h=>fX _ h)).turn BB rfl λx g=>(u x g).1;have yq:(A.putObj l (.loop {c with state:=.busy})).heap[l]? =Z (.loop {c with state:=.busy}):=World.putObj_heap_same (gp.1 BB).1;have hs6:(A.putObj l (.loop {c with state:=.busy})).heap.size=A.heap.size:=World.putObj_size;have KY:∀b,fb' b->kT b A (A.putObj l (.loop {c with state:=.busy})):=λb E=>KH (by have:=(d b E).2;omega);have aox:(A.putObj l (.loop {c with state:=.busy})).cell? ⟨W.heap.size,0,Y⟩=Z (.func (.yield lp) #[] #[]):=(BC.cells (W.heap.size,0,.func (.yield lp) #[] #[]) (by rw[<-vL];simp)).2;obtain⟨fn,tmps,assign,body,hy2,hR2⟩:=hY (k+k') fb y _ (hLk k' y (by rw[<-KU];exact hy)) R7;have adk:∀R:Ending->World->Prop,
         (∀I,A.heap.size<=I.heap.size->(∀b,fb b->kT b (A.putObj l (.loop {c with state:=.busy})) I)->J (k+k'+1) fb I->R (.returned (.bool true)) (I.putObj l (.loop c)))->
         (∀I,A.heap.size<=I.heap.size->(∀b,fb b->kT b (A.putObj l (.loop {c with state:=.busy})) I)->X (.returned (.bool false)) I->R (.returned (.bool false)) (I.putObj l (.loop {c with state:=.done,pending:=Z .ret})))->
         (∀C I,A.heap.size<=I.heap.size->(∀b,fb b->kT b (A.putObj l (.loop {c with state:=.busy})) I)->X (.panicked C) I->R (.panicked C) I)->
         eU (Z l) c.fn Tryz.prog c.assign (Exit.then (λa₁ w₁=>∃w₂,(Instr.beginRound l).run Tryz.prog w₁= .ok () w₂/\eU (Z l) c.fn Tryz.prog c.body (Px Tryz.prog l R) a₁ w₂) (λ_ _ _=>False))
          {tmps:=(c.params.zip #[.int .i64 y]).foldl (λtmps (t,a)=>tmps.setIfInBounds t a) c.tmps,defers:=[]} A:=by
      intro R h1 h2 h3;have hro:(wr (Z l)).round=Z l:=rfl;have e0:=congrArg Loop.fn n;have e1:=congrArg Loop.assign n;have e2:=congrArg Loop.body n;have e3:=congrArg Loop.params n;have e4:=congrArg Loop.tmps n;dsimp only at e0 e1 e2 e3 e4;rw[e0,e1,e2,e3,e4];have xn:({c with state:=.ready,pending:=Y}:Loop)=c:=by rw[n]
      clear e0 e1 e2 e3 e4 n R6 hY hJ hT hX vK IH KM RQ RN RP hK Br tv R7 BC H hj;generalize A.putObj l (.loop {c with state:=.busy})=W6 at *;rw[show(#[43]:Array Nat).zip #[Value.int .i64 y]= #[(43,Value.int .i64 y)] from by first |(simp;done) |kernel_rfl |(apply G9<;>simp)];simp only[List.foldl_toArray',tY,List.foldl_nil,mN,List.setIfInBounds_toArray,M1,M0];refine mq ?_
      gi_wp2
      refine⟨_,AN,?_⟩;refine uX (mq ?_);have Fq:=acL (ro:=Z l) hR2
      gi_wp2
      refine⟨rfl,Fq.mono ?_⟩;rintro e I ⟨⟨hs7,Fs⟩,hW7⟩;have T:=(Fs l z).2 _ yq rfl;rcases hW7 with⟨rfl,hJ7⟩ |⟨rfl,KZ⟩ |⟨C,rfl,KZ⟩
      .gi_wp2
       have BD:=run_endRound (P:=Tryz.prog) Y T;dsimp only[Option.isNone_none] at BD;rw[if_pos rfl,xn] at BD;exact⟨_,_,BD,h1 I (by omega) Fs hJ7⟩
      .gi_wp2
       exact⟨_,_,run_endRound (P:=Tryz.prog) (Z .ret) T,h2 I (by omega) Fs KZ⟩
      .gi_wp2
       exact⟨rfl,h3 C I (by omega) Fs KZ⟩
     refine⟨_,_,_,_,R6,Pz (fnc:=Tryz.f237) (by rw[n];exact Tryz.func237) (adk _ ?_ ?_ ?_)⟩
     .intro I z1 z2 z3;refine⟨⟨by rw[World.putObj_size];exact z1,λb E=>Bv (Bv (KY b E) (z2 b (d b E).1)) (KH (by have:=(d b E).2;omega))⟩,.inl ⟨rfl,fb,?_,d,?_⟩⟩
      .exact hT _ _ _ _ _ _ z3 z ((z2 l z).2 _ yq rfl) rfl
      .have Ft:=(BC.stands z2).turn (b:=l) (o':=.loop c) ((z2 l z).2 _ yq rfl) rfl λx g=>(u x g).1;exact⟨Ft.cells,λx g=>by
        rcases bJ.1 g with rfl |g
        .exact⟨z,rfl,World.putObj_heap_same (gp.1 ((z2 l z).2 _ yq rfl)).1⟩
        .exact Ft.fU x g⟩
     .intro I z1 z2 z3;have T:=(z2 l z).2 _ yq rfl;refine⟨⟨by rw[World.putObj_size];exact z1,λb E=>Bv (Bv (KY b E) (z2 b (d b E).1)) (KH (by have:=(d b E).2;omega))⟩,.inr (.inl ⟨rfl,?_,?_,?_,?_⟩)⟩
      .exact vK _ _ _ _ _ z3 (by omega) T rfl
      .exact(((BC.stands z2).turn (b:=l) T rfl λx g=>(u x g).1).vJ λ_ _=>trivial).sub (C':=[]) (λ_ h=>(iZ h).elim) (λ_ h=>h)
      .rw[World.putObj_size];exact(gp.1 T).1
      .exact λv _=>World.putObj_heap_same (gp.1 T).1
     .intro C I z1 z2 z3;have T:=(z2 l z).2 _ yq rfl;refine⟨⟨z1,λb E=>Bv (KY b E) (z2 b (d b E).1)⟩,.inr (.inr ⟨C,rfl,z3,?_,?_,?_⟩)⟩
      .exact((BC.stands z2).vJ λ_ _=>trivial).sub (C':=[]) (λ_ h=>(iZ h).elim) (λ_ h=>h)
      .exact(gp.1 T).1
      .exact λv hv=>by cases hv
    .exact⟨fb5,Br,λ_ h=>h.elim,tv⟩
   .have oO:¬(j:Int)<x:=by omega
    have ri:¬f+(j:Int)<f+x:=by omega
    have qJ:IntKind.i64.wrap (f+x)=f+x:=IntWalk.i64_in _ (by omega)
    go_wp2
    go_quiet (fail)
    clear qJ
    go_wp2
    have KF:j=x.toNat:=by omega
    subst KF;have hkL:k=O L:=by
     have h0:(dH x.toNat).drop x.toNat=[]:=Hm (by simp);rw[h0] at hk;have:=congrArg gQ hk;rw[List.flatMap_nil,dG,qq] at this;omega
    subst hkL;refine KM _ (.inl rfl) _ M _ iQ (λm H=>⟨vp m H,?_⟩) (.inl ⟨_,hJ _ _ _ _ Fl (below_drewN (.refl _ A) nq),λm H=>.inl (Fm.fU (m,.deferred (Z [])) (cv.2 ⟨m,H,rfl⟩)).1⟩);exact(Fm.fU (m,.deferred (Z [])) (cv.2 ⟨m,H,rfl⟩)).2.2
  .have e0:f+((0 :Nat):Int)=f:=by simp
   refine⟨0,0,fb2,[],_,by omega,by rw[e0];exact RG rfl,by rw[pH,pH];exact hLe,bA _,RM,Ax,He,λ_ h=>(iZ h).elim,acT⟩
end
section
open Go.RowKit Go.Shelf
theorem adp{γ:Gh}{vs:Array Value}{d1 d2 d3:D}(h:cp γ vs [d1,d2,d3]):∃v V a,vs= #[v,V,a]/\aG γ v d1/\aG γ V d2/\aG γ a d3:=by obtain⟨s,r⟩:=h;obtain⟨l⟩:=vs;match l,s with|[v,V,a],_=>exact⟨v,V,a,rfl,r 0 _ rfl,r 1 _ rfl,r 2 _ rfl⟩
variable{W:World}{G:Nat->Option (List PD)}
theorem adq:oQ Tryz.prog W G 237 ic:=by refine⟨⟨Tryz.f237,Tryz.func237,by kernel_rfl,by kernel_rfl⟩,λfi U H xs g V w Y lb I r e=>?_⟩;unfold ic at g;split at g;{rename_i sd p ad vst;split at g;{rename_i ss ats Bw adt;split at g;{rename_i hc;obtain⟨i,m,n,l,j⟩:=hc;cases g;have o:Y= #[]:=CD r.1;subst o;obtain⟨v1,v2,v3,rfl,Z,r2,r3⟩:=adp e;cases Z with|ro N O _ _ C t u=>cases r2 with|ro P Q _ _ v y z=>cases r3 with|ro R S _ _ c d B=>have hp:v 0= .int .i64 p:=(z 0 _ rfl).1.iu;(have f:∀A,Kept W G V H (lz (.fn 237 [] [.ro [sd] 0,.ro [.int .i64 p] 0,.ro [ad,vst] 0]) H) A->RF (N,O) (P,Q) (R,S) ss p ats (C 0) (c 0) (c 1) A:=by rintro A ⟨E,H',L,b,_⟩;refine⟨b.toInv.mem _ _ _ (L.mem _ _ _ (t 0 (by simp))),?_,b.toInv.mem _ _ _ (L.mem _ _ _ (d 0 (by simp))),b.toInv.mem _ _ _ (L.mem _ _ _ (d 1 (by simp))),?_,?_⟩;{have:=b.toInv.mem _ _ _ (L.mem _ _ _ (y 0 (by simp)));rw[hp] at this;exact this};{exact Fc ((u 0 sd rfl).1.mono L.mem) Bw b.toInv.mem};exact Fc ((B 0 ad rfl).1.mono L.mem) adt b.toInv.mem);refine⟨λk=>match(dz ats ss p)[k]? with |some x=>#[.int .i64 x] |none=>#[],λk x a=>?_,λlp J X w0 hB K hJ hT hX T hY h0=>?_⟩;{simp only[cC,au] at a;obtain⟨q,hq,rfl⟩:=a;simp only[hq];exact⟨rfl,λE=>Rs q⟩};have h:=RH ats (λx a=>of_decide_eq_true (fy.1 i x a)) m l ss j (λs hs=>of_decide_eq_true (fy.1 n s hs)) p lp (N,O) (P,Q) (R,S) (C 0) (c 0) (c 1) J X w0 (λk F A M=>f A (K k F A M)) hJ hT hX T (λk F x A a M=>by have:=hY k F _ A (by rw[cC,a];rfl) M;simp only[a] at this;exact this) h0;rw[bL];exact oc.2 h};cases g};cases g};cases g
end
section
open Go.Proofs Go.Shelf
def R8:Go.Shelf.Ren where
 f:=λ| 6=>61 | 15=>108 | 14=>107 | 28=>170 | 29=>171 | 20=>162 | 21=>163 | 22=>164 | 23=>165 | 24=>166 | 25=>167 | 26=>168 | 27=>169 | 46=>227 | 47=>228 | 48=>229 | 49=>230 | 50=>231 | 57=>289 |n=>n
 t:=λ| 22=>80 | 24=>102 | 25=>127 | 3=>3 | 39=>176 | 0=>0 | 53=>240 | 55=>242 | 4=>4 | 46=>234 | 45=>233 | 50=>130 | 5=>5 | 9=>9 | 66=>302 | 70=>306 | 76=>362 | 77=>56 |n=>n
 g:=λn=>n
theorem adu:SlLaysF0.n6 Tryz.prog R8 where
 mixed:=by kernel_rfl
 f6:=⟨ "slices.SortFunc[[]armature/api.Cell,armature/api.Cell]",by decide,Tryz.func61.trans (by kernel_rfl)⟩
 f14:=⟨ "slices.pdqsortCmpFunc[armature/api.Cell]",by decide,Tryz.func107.trans (by kernel_rfl)⟩
 f15:=Tryz.func108.trans (by kernel_rfl)
 f20:=⟨ "slices.insertionSortCmpFunc[armature/api.Cell]",by decide,Tryz.func162.trans (by kernel_rfl)⟩
 f21:=⟨ "slices.heapSortCmpFunc[armature/api.Cell]",by decide,Tryz.func163.trans (by kernel_rfl)⟩
 f22:=⟨ "slices.breakPatternsCmpFunc[armature/api.Cell]",by decide,Tryz.func164.trans (by kernel_rfl)⟩
 f23:=⟨ "slices.choosePivotCmpFunc[armature/api.Cell]",by decide,Tryz.func165.trans (by kernel_rfl)⟩
 f24:=⟨ "slices.reverseRangeCmpFunc[armature/api.Cell]",by decide,Tryz.func166.trans (by kernel_rfl)⟩
 f25:=⟨ "slices.partialInsertionSortCmpFunc[armature/api.Cell]",by decide,Tryz.func167.trans (by kernel_rfl)⟩
 f26:=⟨ "slices.partitionEqualCmpFunc[armature/api.Cell]",by decide,Tryz.func168.trans (by kernel_rfl)⟩
 f27:=⟨ "slices.partitionCmpFunc[armature/api.Cell]",by decide,Tryz.func169.trans (by kernel_rfl)⟩
 f28:=Tryz.func170.trans (by kernel_rfl)
 f29:=Tryz.func171.trans (by kernel_rfl)
 f46:=⟨ "slices.siftDownCmpFunc[armature/api.Cell]",by decide,Tryz.func227.trans (by kernel_rfl)⟩
 f47:=Tryz.func228.trans (by kernel_rfl)
 f48:=Tryz.func229.trans (by kernel_rfl)
 f49:=⟨ "slices.medianAdjacentCmpFunc[armature/api.Cell]",by decide,Tryz.func230.trans (by kernel_rfl)⟩
 f50:=⟨ "slices.medianCmpFunc[armature/api.Cell]",by decide,Tryz.func231.trans (by kernel_rfl)⟩
 f57:=⟨ "slices.order2CmpFunc[armature/api.Cell]",by decide,Tryz.func289.trans (by kernel_rfl)⟩
 t0:=Tryz.underlying0
 a0:=Tryz.isAgg0
 z0:=Tryz.sizeOf0
 v0:=Tryz.zeroValue0
 t3:=Tryz.underlying3
 a3:=Tryz.isAgg3
 z3:=Tryz.sizeOf3
 v3:=Tryz.zeroValue3
 t4:=Tryz.underlying4
 a4:=Tryz.isAgg4
 z4:=Tryz.sizeOf4
 v4:=Tryz.zeroValue4
 t5:=Tryz.underlying5
 a5:=Tryz.isAgg5
 z5:=Tryz.sizeOf5
 v5:=Tryz.zeroValue5
 t9:=Tryz.underlying9
 a9:=Tryz.isAgg9
 z9:=Tryz.sizeOf9
 v9:=Tryz.zeroValue9
 t22:=Tryz.underlying80
 a22:=Tryz.isAgg80
 z22:=Tryz.sizeOf80
 v22:=Tryz.zeroValue80
 t25:=Tryz.underlying127
 a25:=Tryz.isAgg127
 z25:=Tryz.sizeOf127
 v25:=Tryz.zeroValue127
 t39:=Tryz.underlying176
 a39:=Tryz.isAgg176
 z39:=Tryz.sizeOf176
 v39:=Tryz.zeroValue176
 t45:=Tryz.underlying233
 a45:=Tryz.isAgg233
 z45:=Tryz.sizeOf233
 v45:=Tryz.zeroValue233
 t46:=Tryz.underlying234
 a46:=Tryz.isAgg234
 z46:=Tryz.sizeOf234
 v46:=Tryz.zeroValue234
 t50:=Tryz.underlying130
 a50:=Tryz.isAgg130
 z50:=Tryz.sizeOf130
 v50:=Tryz.zeroValue130
 t53:=Tryz.underlying240
 a53:=Tryz.isAgg240
 z53:=Tryz.sizeOf240
 v53:=Tryz.zeroValue240
 t55:=Tryz.underlying242
 a55:=Tryz.isAgg242
 z55:=Tryz.sizeOf242
 v55:=Tryz.zeroValue242
 t66:=Tryz.underlying302
 a66:=Tryz.isAgg302
 z66:=Tryz.sizeOf302
 v66:=Tryz.zeroValue302
 t70:=Tryz.underlying306
 a70:=Tryz.isAgg306
 z70:=Tryz.sizeOf306
 v70:=Tryz.zeroValue306
 t76:=Tryz.underlying362
 a76:=Tryz.isAgg362
 z76:=Tryz.sizeOf362
 v76:=Tryz.zeroValue362
 t77:=Tryz.underlying56
 a77:=Tryz.isAgg56
 z77:=Tryz.sizeOf56
 v77:=Tryz.zeroValue56
def BE:Go.Shelf.Ren where
 f:=λ| 21=>77 | 27=>124 | 28=>125 | 35=>181 | 39=>239 |n=>n
 t:=λ| 22=>28 | 3=>3 | 4=>4 | 0=>0 |n=>n
 g:=λn=>n
theorem yr:Lays2.n21 Tryz.prog BE where
 mixed:=by kernel_rfl
 f21:=Tryz.func77.trans (by kernel_rfl)
 f27:=Tryz.func124.trans (by kernel_rfl)
 f28:=Tryz.func125.trans (by kernel_rfl)
 f35:=Tryz.func181.trans (by kernel_rfl)
 f39:=Tryz.func239.trans (by kernel_rfl)
 t0:=Tryz.underlying0
 a0:=Tryz.isAgg0
 z0:=Tryz.sizeOf0
 v0:=Tryz.zeroValue0
 t3:=Tryz.underlying3
 a3:=Tryz.isAgg3
 z3:=Tryz.sizeOf3
 v3:=Tryz.zeroValue3
 t4:=Tryz.underlying4
 a4:=Tryz.isAgg4
 z4:=Tryz.sizeOf4
 v4:=Tryz.zeroValue4
 t22:=Tryz.underlying28
 a22:=Tryz.isAgg28
 z22:=Tryz.sizeOf28
 v22:=Tryz.zeroValue28
 i3:=by kernel_rfl
end
section
open Go Go.RowKit Go.Shelf
variable{W:World}{G:Nat->Option (List PD)}
theorem yu(b:Nat)(T:TypeId)(fr:Nat×Nat):∀(vs:List Value) (o:Nat) (c:Array Value) (w:World),w.heap[b]? =Z (.cells c T fr)->o+O vs<=c.size->
    w.setCells b o vs=w.setRow b (c.toList.take o++vs++c.toList.drop (o+O vs)).toArray
 |[],o,c,w,g,_=>by
  simp only[World.setCells,gu,dG,lU,tX,Array.toArray_toList];rw[setRow_self w b c T fr g]
 |v::r,o,c,w,g,l=>by
  have i:=yu b T fr r (o+1) (c.setIfInBounds o v) (w.setRow b (c.setIfInBounds o v)) (setRow_heap w b c _ T _ g) (by simp at l|-;omega);simp only[World.setCells,setCell_eq_setRow w b o c T fr v g,i,setRow_setRow];congr 2
  have:=list_seg_step c.toList o v r (by simp at l|-;omega);have e:o+O (v::r)=o+(O r+1):=by simp
  have E:o+1+O r=o+(O r+1):=by omega
  rw[e];simpa[Array.toList_setIfInBounds,E] using this
theorem R9(w:World)(X Z:Array Value)(T:TypeId):(w.alloc (.cells X T)).setRow w.heap.size Z=w.alloc (.cells Z T):=by unfold World.setRow World.alloc;congr 1;apply G9;{simp};intro i h1 h2;simp only[al1];split;{rename_i h;subst h;simp};rename_i h;(have :i<w.heap.size:=by simp at h2;omega);simp[Array.getElem_push,this]
theorem K0:∀{cs:List D} {l:List Int},aF yb cs=Z l->cs=l.map λx=>.p (.int .i64 x)|[],l,h=>by cases h;rfl|c::cs,l,h=>by simp only[aF] at h;split at h;{rename_i t ht;obtain⟨L,H,rfl⟩:=au.1 h;(have e:c= .p (.int .i64 t):=by unfold yb at ht;split at ht;{cases ht;rfl};cases ht);rw[e,K0 H];rfl};cases h
def bD(l:List Int):List Value:=l.map λx=>.int .i64 x
def fV(l:List Int):List D:=l.map λx=>.p (.int .i64 x)
theorem K1(l:List Int):∀v∈bD l,v.oneCell'=true:=λv h=>by obtain⟨x,_,rfl⟩:=cv.1 h;rfl
theorem Fu(l:List Int):∀c∈fV l,c.one=true:=λv h=>by obtain⟨x,_,rfl⟩:=cv.1 h;rfl
variable{vs:Array Value}{γ:Gh}{l:List Int}
theorem Fv(l:List Int)(t:List Value):dT γ (bD l++t).toArray (fV l):=by refine⟨by simp[bD,fV],λk d h=>?_⟩;unfold fV at h;rw[cC] at h;cases H:l[k]? with|none=>rw[H] at h;cases h|some x=>rw[H] at h;cases h;have a:=(ak.1 H).1;(have :(bD l++t).toArray.getD k undef= .int .i64 x:=by simp[bD,cg,List.getElem?_append,a];have:=(ak.1 H).2;exact this);rw[this];exact .p _ _ (.int _ _)
theorem Sa{cs:List D}(r:dT γ vs cs){n:Nat}(h:cs.take n=fV l)(c:n<=O cs):O l=n/\∀(j:Nat) v,(bD l)[j]? =Z v->vs[j]? =Z v:=by (have d:O l=n:=by have:=congrArg gQ h;rw[im,oB c] at this;simpa[fV] using this.symm);refine⟨d,λj v H=>?_⟩;unfold bD at H;rw[cC] at H;cases a:l[j]? with|none=>rw[a] at H;cases H|some x=>rw[a] at H;cases H;have g:=(ak.1 a).1;(have e:cs[j]? =Z (.p (.int .i64 x)):=by (have b:(cs.take n)[j]? =Z (.p (.int .i64 x)):=by rw[h];simp[fV,a]);rw[jF] at b;split at b;{exact b};cases b);have f:=(r.2 j _ e).cn.iu;(have s:j<vs.size:=by have:=r.1;omega);rw[oz s];simpa[cg,s] using f
theorem adv(h:∀(j:Nat) v,(bD l)[j]? =Z v->vs[j]? =Z v):vs.toList=bD l++vs.toList.drop (O l):=by (have a:vs.toList.take (O l)=bD l:=by apply j2;intro j;rcases dI j (O l) with H |H;{(have rJ:j<O (bD l):=by simpa[bD] using H);rw[jF,if_pos H,aw rJ,G6];exact h j _ (aw rJ)};rw[kH (by simp;omega),kH (by simpa[bD] using H)]);conv=>lhs;rw[<-tX (O l) vs.toList,a]
end
section
open Go Go.RowKit Go.Shelf
variable{W:World}{G:Nat->Option (List PD)}
theorem adw:Vs.Enters Tryz.prog 77:=⟨Tryz.f77,Tryz.func77,by kernel_rfl,by kernel_rfl⟩
variable{γ:Gh}{H:Hp}{cs:List D}{i b:Nat}{w:World}
theorem K2(I:Vs.Inv G γ H w)(g:γ.boxes[i]? =Z b)(l:H.bx[i]? =Z cs)(m:az cs=false)(n:cs≠[]){k c:Nat}(r:k<1)(t:γ.bq b=Z (2*3+k,c*1)): ∃(vs:Array Value) (fr:Nat×Nat),w.heap[b]? =Z (.cells vs 3 fr)/\vs.size=c/\dT γ vs cs/\clear fr 0 vs.size/\(∀j,j<c->w.frozen? ⟨b,j,Y⟩=false)/\w.frozen? ⟨b,c,Y⟩=false/\w.shape? b=Z (3,c):=by
 obtain⟨vs,T,fr,Q,o,s,a⟩:=I.box i b cs g l;rw[gA m] at Q;have a:=a n;obtain rfl:k=0:=by omega
 obtain⟨v,F,d,z,p⟩:=I.bq b _ _ t;rw[Q] at d;cases d;rw[Nat.mul_one] at z;have f:∀j,j<c->w.frozen? ⟨b,j,Y⟩=false:=λj u=>by have:=a j (bA _) (by omega);simp only[World.frozen?,Q];cases e:(decide (fr.1<=j)&&decide (j<fr.2)) with|false=>rfl|true=>simp at e;exact(this e).elim
 have h:w.frozen? ⟨b,c,Y⟩=false:=by have x:=(p rfl).1;simp only[World.frozen?,Q];(have :¬c<fr.2:=by omega);simp[this]
 exact⟨vs,fr,Q,z,o,a,f,h,by simp[World.shape?,Q,z]⟩
theorem Aa{vs:Array Value}{d1 d2 d3:D}(h:cp γ vs [d1,d2,d3]):∃v V a,vs= #[v,V,a]/\aG γ v d1/\aG γ V d2/\aG γ a d3:=by obtain⟨s,r⟩:=h;obtain⟨l⟩:=vs;match l,s with|[v,V,a],_=>exact⟨v,V,a,rfl,r 0 _ rfl,r 1 _ rfl,r 2 _ rfl⟩
theorem Sb{a:Gh}{H0:Hp}{b:World}(e:bz W G a H0 b)(L:a.le γ)(F:Vs.Frame a H0 b γ H w)(I:Vs.Inv G γ H w)(l:List Int)(t:List Value)(c:Nat)(n:O l<=c)(h:c<=maxLen)(s:O (bD l++t)=c): ∃γ',a.le γ'/\Vs.Frame a H0 b γ' {H with bx:=H.bx++[fV l]} (w.alloc (.cells (bD l++t).toArray 3))/\bz W G γ' {H with bx:=H.bx++[fV l]} (w.alloc (.cells (bD l++t).toArray 3))/\ aG γ' (.slice (Z ⟨w.heap.size,0,Y⟩) (O l) c) (.af (O H.bx) 3 (O l) 1):=by obtain⟨γ',A,f,a5,a3,a4⟩:=I.zN 3 (vs:=(bD l++t).toArray) (cs:=fV l) (λ_ _ _ _=>Fv l t) (Fu l);have d:=F.trans L.base a3;refine⟨γ',L.trans A,d,e.up (L.trans A) d a4,.af _ _ _ _ _ c f n h (k:=0) (by decide) ?_⟩;(have :(bD l++t).toArray.size=c*1:=by simpa using s);rw[this] at a5;exact a5
theorem Fw(l:List Int)(k:Nat)(t:Int):bD (dn l k t)=(bD l).take k++Value.int .i64 t::(bD l).drop k:=by simp[bD,dn,G7,MT]
theorem Sc(l:List Int)(k:Nat)(t:Int)(h:k<=O l):O (dn l k t)=O l+1:=by simp[dn];omega
theorem Sd{k:Nat}(A B C:List Value)(h:O A=k):(A++B++C).take k=A:=by rw[jE,List.take_left' h]
theorem Se(w:World)(X:Array Value)(T:TypeId)(vs cs:List Value)(i:Nat)(H:i+O vs+O cs<=X.size): ((w.alloc (.cells X T)).drew.setCells w.heap.size i vs).drew.setCells w.heap.size (i+O vs) cs=w.drew.drew.alloc (.cells (X.toList.take i++vs++cs++X.toList.drop (i+O vs+O cs)).toArray T):=by
 have g:∀(w:World) (X:Array Value),(w.alloc (.cells X T)).heap[w.heap.size]? =Z (.cells X T (0,0)):=λw X=>by unfold World.alloc;simp
 have e:(w.alloc (.cells X T)).drew=w.drew.alloc (.cells X T):=rfl;have s:w.heap.size=w.drew.heap.size:=rfl;rw[e,s,yu _ T (0,0) vs i X _ (g w.drew X) (by omega),R9];generalize Y:(X.toList.take i++vs++X.toList.drop (i+O vs)).toArray=x;have h:x.size=X.size:=by rw[<-Y];simp;omega
 have E:(w.drew.alloc (.cells x T)).drew=w.drew.drew.alloc (.cells x T):=rfl;have S:w.drew.heap.size=w.drew.drew.heap.size:=rfl;rw[E,S,yu _ T (0,0) cs _ x _ (g w.drew.drew x) (by omega),R9];congr 3;rw[<-Y];have a:(X.toList.take i++vs++X.toList.drop (i+O vs)).take (i+O vs)=X.toList.take i++vs:=by rw[M3 (by simp;omega),fg (by simp;omega)]
 have A:(X.toList.take i++vs++X.toList.drop (i+O vs)).drop (i+O vs+O cs)=X.toList.drop (i+O vs+O cs):=by rw[<-zk,WA (by simp;omega),zk]
 simp only[a,A]
theorem adx(I:bz W G γ H w){j r n c z k k1 k2:Nat}{l:List Int}{t:Int}(RR:i≠j)(M:γ.boxes[i]? =Z b)(N:γ.boxes[j]? =Z r) (R:H.bx[i]? =Z cs) (S:H.bx[j]? =Z [.p (.int .i64 t)]) (hm:az cs=false) (hnc:n<=O cs) (g:cs≠[]) (hl:cs.take n=fV l) (T:n<=c) (B:c<=maxLen) (C:k1<1) (y:γ.bq b=Z (2*3+k1,c*1)) (hvc:1<=z) (fk:k2<1) (U:γ.bq r=Z (2*3+k2,z*1)) (hk:k<=n) (hn:n<1000000): Calls Tryz.prog 77 #[.slice (Z ⟨b,0,Y⟩) n c,.int .i64 k,.slice (Z ⟨r,0,Y⟩) 1 z] w λe w'=>∃γ',γ.le γ'/\Vs.Frame γ H w γ' {H with bx:=H.bx.set i []++[fV (dn l k t)]} w'/\bz W G γ' {H with bx:=H.bx.set i []++[fV (dn l k t)]} w'/\ gW γ' (.val (.af (O H.bx) 3 (n+1) 1)) e:=by
 have X:r≠b:=λh=>by subst h;exact RR (I.nodup i j r _ _ M N R S g (by simp))
 obtain⟨V,fr,Q,qs,q2,q4,Sf,hfe,K3⟩:=K2 I.toInv M R hm g C y;obtain⟨us,Of,u1,us1,u2,u4,Sg,Sh,Si⟩:=K2 I.toInv N S rfl (by simp) fk U;obtain⟨nX,Sj⟩:=Sa q2 hl hnc;have hu0:us[0]? =Z (.int .i64 t):=by have h3:=(u2.2 0 _ rfl).cn.iu;(have :0<us.size:=by omega);rw[oz this];simpa[cg,this] using h3
 have f:∀(p:Nat) v,(bD l)[p]? =Z v->w.cell? ⟨b,0+p,Y⟩=Z v:=λp v m=>by rw[dD];simp only[World.cell?,Q];exact Sj p v m
 have u:∀(p:Nat) v,[Value.int .i64 t][p]? =Z v->w.cell? ⟨r,0+p,Y⟩=Z v:=λp v m=>by cases p with|zero=>cases m;simp only[World.cell?,u1];exact hu0|succ p=>simp at m
 have h1:∀v∈[Value.int .i64 t],v.oneCell'=true:=λv hv=>by rw[jn.1 hv];rfl
 have x:O (dn l k t)=n+1:=by rw[Sc l k t (by omega),nX]
 have A2:=adv Sj;have d:O (bD l)=n:=by simpa[bD] using nX
 have Sk:(γ.boxes++[b])[O H.bx]? =Z b:=by rw[<-I.cK];simp
 have P:n+1<=c->∀w',w'=w.drew.setRow b (bD (dn l k t)++V.toList.drop (n+1)).toArray\/w'=w.setRow b (bD (dn l k t)++V.toList.drop (n+1)).toArray->∃γ',γ.le γ'/\Vs.Frame γ H w γ' {H with bx:=H.bx.set i []++[fV (dn l k t)]} w'/\bz W G γ' {H with bx:=H.bx.set i []++[fV (dn l k t)]} w'/\ gW γ' (.val (.af (O H.bx) 3 (n+1) 1)) (.returned (.slice (Z ⟨b,0,Y⟩) (n+1) c)):=by intro A w' hw';(have bR:(bD (dn l k t)++V.toList.drop (n+1)).toArray.size=V.size:=by simp only[mN,dF,qq,pF];(have :O (bD (dn l k t))=n+1:=by simpa[bD] using x);omega);rcases hw' with rfl |rfl;{obtain⟨g1,g2,g3⟩:=I.toInv.drew.Ib M R g hm Q q4 bR y (Fv (dn l k t) (V.toList.drop (n+1))) (Fu _);have FF:=(Vs.Frame.drew γ H w).trans rfl g2;exact⟨_,g1,FF,I.up g1 FF g3,_,rfl,.af _ _ _ _ b c Sk A B C y⟩};obtain⟨g1,g2,g3⟩:=I.toInv.Ib M R g hm Q q4 bR y (Fv (dn l k t) (V.toList.drop (n+1))) (Fu _);exact⟨_,g1,g2,I.up g1 g2 g3,_,rfl,.af _ _ _ _ b c Sk A B C y⟩
 have F:∀w0 w' (tl:List Value) (L:Nat),w0.heap.size=w.heap.size->(Vs.Inv G γ H w->Vs.Inv G γ H w0)->Vs.Frame γ H w γ H w0->n+1<=L->L<=maxLen->O (bD (dn l k t)++tl)=L->w'=w0.alloc (.cells (bD (dn l k t)++tl).toArray 3)-> ∃γ',γ.le γ'/\Vs.Frame γ H w γ' {H with bx:=H.bx.set i []++[fV (dn l k t)]} w'/\bz W G γ' {H with bx:=H.bx.set i []++[fV (dn l k t)]} w'/\gW γ' (.val (.af (O H.bx) 3 (n+1) 1)) (.returned (.slice (Z ⟨w.heap.size,0,Y⟩) (n+1) L)):=by rintro w0 w' tl L Bx hI hF h2 h3 h4 rfl;obtain⟨f1,I1⟩:=(hI I.toInv).Ia M R g y;obtain⟨γ',a1,a2,a3,a4⟩:=Sb I (.refl γ) (hF.trans rfl f1) I1 (dn l k t) tl L (by omega) h3 h4;rw[x,CH,Bx] at a4;exact⟨γ',a1,a2,a3,_,rfl,a4⟩
 have ec:V.toList.take n=bD l:=by rw[A2,M3 (by omega),fg (by omega)]
 have nT:∀p,p<c->(w.cell? ⟨b,p,Y⟩).isSome=true:=λp m=>by simp only[World.cell?,Q];rw[oz (by omega)];rfl
 have Ig:c<=9223372036854775807:=by simpa[maxLen] using B
 by_cases BD:k=n;{subst BD;(have s:bD (dn l k t)=bD l++[Value.int .i64 t]:=by rw[Fw,fg (by omega),Hh (by omega)]);by_cases A:k+1<=c;{refine(Any2.slices_Insert_int_end_room yr b 0 k c r 0 1 z [.int .i64 t] w (by decide) A Ig rfl (λp m=>?_) (λp m=>?_) u h1).mono ?_;{(obtain rfl:p=0:=by omega);rw[dD];exact nT _ (by omega)};{(obtain rfl:p=0:=by omega);rw[dD];exact Sf _ (by omega)};rintro e w' ⟨rfl,rfl⟩;refine P A _ (.inr ?_);rw[dD,yu b 3 fr _ _ V w Q (by simp;omega),ec,s];rfl};have vM:=grownCap_ge w (k+1) c 3;have E:=grownCap_le_maxLen w (k+1) c 3 (by simp only[maxLen];omega);refine(Any2.slices_Insert_int_end_grow yr (Z ⟨b,0,Y⟩) k c r 0 1 z (bD l) [.int .i64 t] w (by decide) T (by omega) (by omega) d rfl (λh=>by cases h) (λa ha p v m=>by cases ha;rw[Addr.add_lit];exact f p v m) u h1).mono ?_;rintro e w' ⟨rfl,rfl⟩;refine F w.drew _ (Builtin.zeroCells (Value.int .i64 0).cells (grownCap w (k+1) c 3-(k+1))).toList _ rfl (λI=>I.drew) (Vs.Frame.drew γ H w) vM E ?_ ?_;{(have :O (bD (dn l k t))=k+1:=by simpa[bD] using x);rw[dF,this,pF,size_zeroCells];have :(Value.int IntKind.i64 0).cells.size=1:=rfl;have J:BE.t 3=3:=rfl;rw[this,J];omega};rw[s];congr 2;apply wC;simp;rfl};(have sP:k<n:=by omega);have s:bD (dn l k t)=(bD l).take k++Value.int .i64 t::(bD l).drop k:=Fw l k t;(have o:O ((bD l).drop k)=n-k:=by rw[qq,d]);by_cases A:n+1<=c;{refine(Any2.slices_Insert_int_shift yr b 0 n c k r 0 1 z (bD l) [.int .i64 t] w sP (by decide) A Ig X d rfl f (λp m=>?_) (λp m=>?_) u (K1 l) h1 3 3 z c Si K3 (by omega) (Sg 0 (by omega)) Sh).mono ?_;{rw[dD];exact nT _ (by omega)};{rw[dD];exact Sf _ (by omega)};rintro e w' ⟨rfl,rfl⟩;refine P A _ (.inl ?_);have Sm:w.drew.heap[b]? =Z (.cells V 3 fr):=Q;rw[dD,dD,yu b 3 fr _ _ V w.drew Sm (by rw[o];omega)];rw[yu b 3 fr _ _ _ _ (setRow_heap w.drew b V _ 3 fr Sm) (by simp only[mN,dF,im,qq,pF,o,ua];omega),setRow_setRow];congr 2;simp only;rw[s,o,show k+1+(n-k)=n+1 by omega];(have e1:(V.toList.take (k+1)++(bD l).drop k++V.toList.drop (n+1)).take k=(bD l).take k:=by rw[jE,M3 (by simp;omega),Wz,oB (by omega),<-ec,Wz,oB (by omega)]);(have e2:(V.toList.take (k+1)++(bD l).drop k++V.toList.drop (n+1)).drop (k+1)=(bD l).drop k++V.toList.drop (n+1):=by rw[jE,M2 (by simp;omega),Hh (by simp;omega),eD]);have J:k+[Value.int IntKind.i64 t].length=k+1:=rfl;rw[e1,J,e2];simp};have vM:=grownCap_ge w (n+1) c 3;have E:=grownCap_le_maxLen w (n+1) c 3 (by simp only[maxLen];omega);refine(Any2.slices_Insert_int_grow yr b 0 n c k r 0 1 z (bD l) [.int .i64 t] w sP (by decide) T (by omega) (by omega) d rfl f u (K1 l) h1).mono ?_;rintro e w' ⟨rfl,rfl⟩;refine F w.drew.drew _ (Builtin.zeroCells (Value.int .i64 0).cells (grownCap w (n+1) c 3-(n+1))).toList _ rfl (λI=>I.drew.drew) ((Vs.Frame.drew γ H w).trans rfl (Vs.Frame.drew γ H w.drew)) vM E ?_ ?_;{(have :O (bD (dn l k t))=n+1:=by simpa[bD] using x);rw[dF,this,pF,size_zeroCells];have :(Value.int IntKind.i64 0).cells.size=1:=rfl;have J:BE.t 3=3:=rfl;rw[this,J];omega};have J:BE.t 3=3:=rfl;have z1:(Value.int IntKind.i64 0).cells.size=1:=rfl;(have K:O ((bD l).take k)=k:=by rw[im,d];omega);refine(Se w _ _ [.int .i64 t] ((bD l).drop k) k ?_).trans ?_;{simp only[MW,mN,size_zeroCells,z1,K,o,ua];omega};rw[J,s];congr 2;simp only[Wr,ua,o];rw[Sd _ _ _ K,show k+1+(n-k)=n+1 by omega,WA (by rw[dF,K,pF,size_zeroCells,z1];omega)];simp
end
section
open Go Go.RowKit Go.Shelf
variable{W:World}{G:Nat->Option (List PD)}
variable{γ:Gh}{H:Hp}{l:List Int}{base:Option Addr}{w:World}
theorem adC{v:Value}{s:D}{sz:Nat}{es:List PD}(r:aG γ v s)(h:gS sz s=Z es):∃base,v= .slice base (O es) (O es)/\aU γ.mem (.slice base (O es) (O es)) (.slice sz es):=by unfold gS at h;split at h;{cases h;exact⟨Y,r.cn.pS,.jt _ _ _⟩};{split at h;{cases h;cases r with|eJ a _=>exact⟨a,rfl,.jt _ _ _⟩};cases h};{split at h;{rename_i hs;subst hs;cases h;cases r with|cw b n e sz es d t H c=>subst H;exact⟨_,rfl,c⟩};cases h};{split at h;{rename_i hs;subst hs;cases h;cases r with|eF a n sz es H c=>subst H;exact⟨_,rfl,c⟩};cases h};cases h
theorem adD(I:Vs.Inv G γ H w){n:Nat}(A:O l=n)(r:aU γ.mem (.slice base n n) (.slice 1 (l.map λx=>.int .i64 x))): l=[]\/∃b off,base=Z ⟨b,off,Y⟩/\∀(p:Nat) v,(bD l)[p]? =Z v->w.cell? ⟨b,off+p,Y⟩=Z v:=by generalize e:l.map (λx=>PD.int .i64 x)=s at r;generalize k:Value.slice base n n=v at r;cases r with|jt a c z=>left;simpa using e|sl b o c z s V B m g t u=>right;cases k;refine⟨b,o,rfl,λp v h=>?_⟩;unfold bD at h;rw[cC] at h;cases d:l[p]? with|none=>rw[d] at h;cases h|some x=>rw[d] at h;cases h;(have i:s[p]? =Z (.int .i64 x):=by rw[<-e,cC,d];rfl);have f:p<O s:=(ak.1 i).1;have j:=I.mem _ _ _ (t p 0 f (by decide));have y:=(u p _ 0 _ i rfl).iu;rw[y] at j;simpa using j
theorem adE(I:bz W G γ H w){j V n k r T:Nat}{t:Int}(K:γ.boxes[j]? =Z V)(L:H.bx[j]? =Z [.p (.int .i64 t)])(hvc:1<=r)(M:T<1)(y:γ.bq V=Z (2*3+T,r*1)) (c:O l=n) (hr:aU γ.mem (.slice base n n) (.slice 1 (l.map λx=>.int .i64 x))) (hk:k<=n) (hn:n<1000000): Calls Tryz.prog 77 #[.slice base n n,.int .i64 k,.slice (Z ⟨V,0,Y⟩) 1 r] w λe w'=>∃γ',γ.le γ'/\Vs.Frame γ H w γ' {H with bx:=H.bx++[fV (dn l k t)]} w'/\bz W G γ' {H with bx:=H.bx++[fV (dn l k t)]} w'/\ gW γ' (.val (.af (O H.bx) 3 (n+1) 1)) e:=by
 obtain⟨U,Of,u1,us1,u2,u4,Sg,Sh,Si⟩:=K2 I.toInv K L rfl (by simp) M y;have N:U[0]? =Z (.int .i64 t):=by have P:=(u2.2 0 _ rfl).cn.iu;(have :0<U.size:=by omega);rw[oz this];simpa[cg,this] using P
 have u:∀(p:Nat) v,[Value.int .i64 t][p]? =Z v->w.cell? ⟨V,0+p,Y⟩=Z v:=λp v z=>by cases p with|zero=>cases z;simp only[World.cell?,u1];exact N|succ p=>simp at z
 have X:∀v∈[Value.int .i64 t],v.oneCell'=true:=λv hv=>by rw[jn.1 hv];rfl
 have A:O (dn l k t)=n+1:=by rw[Sc l k t (by omega),c]
 have B:O (bD (dn l k t))=n+1:=by simpa[bD] using A
 have i:O (bD l)=n:=by simpa[bD] using c
 have d:=adD I.toInv c hr;have Q:(Value.int IntKind.i64 0).cells.size=1:=rfl;have e3:BE.t 3=3:=rfl;have vM:=grownCap_ge w (n+1) n 3;have R:=grownCap_le_maxLen w (n+1) n 3 (by simp only[maxLen];omega);have f:∀C w',C.heap.size=w.heap.size->(Vs.Inv G γ H w->Vs.Inv G γ H C)->Vs.Frame γ H w γ H C-> w'=C.alloc (.cells (bD (dn l k t)++(Builtin.zeroCells (Value.int .i64 0).cells (grownCap w (n+1) n 3-(n+1))).toList).toArray 3)-> ∃γ',γ.le γ'/\Vs.Frame γ H w γ' {H with bx:=H.bx++[fV (dn l k t)]} w'/\bz W G γ' {H with bx:=H.bx++[fV (dn l k t)]} w'/\gW γ' (.val (.af (O H.bx) 3 (n+1) 1)) (.returned (.slice (Z ⟨w.heap.size,0,Y⟩) (n+1) (grownCap w (n+1) n 3))):=by rintro C w' S hI hF rfl;(have zl:O (Builtin.zeroCells (Value.int .i64 0).cells (grownCap w (n+1) n 3-(n+1))).toList=grownCap w (n+1) n 3-(n+1):=by rw[pF,size_zeroCells,Q];omega);obtain⟨γ',a1,a2,a3,a4⟩:=Sb I (.refl γ) hF (hI I.toInv) (dn l k t) (Builtin.zeroCells (Value.int .i64 0).cells (grownCap w (n+1) n 3-(n+1))).toList (grownCap w (n+1) n 3) (by omega) R (by rw[dF,B,zl];omega);rw[A,S] at a4;exact⟨γ',a1,a2,a3,_,rfl,a4⟩
 by_cases E:k=n;{subst E;(have s:bD (dn l k t)=bD l++[Value.int .i64 t]:=by rw[Fw,fg (by omega),Hh (by omega)]);refine(Any2.slices_Insert_int_end_grow yr base k k V 0 1 r (bD l) [.int .i64 t] w (by decide) (by omega) (by omega) (by omega) i rfl (λh=>?_) (λa ha p v z=>?_) u X).mono ?_;{rcases d with rfl |⟨b,o,J,_⟩;{simpa using c.symm};rw[h] at J;cases J};{rcases d with rfl |⟨b,o,J,P⟩;{simp[bD] at z};rw[J] at ha;cases ha;rw[Addr.add_lit];exact P p v z};rintro e w' ⟨rfl,rfl⟩;refine f w.drew _ rfl (λI=>I.drew) (Vs.Frame.drew γ H w) ?_;rw[s];congr 2;apply wC;simp;rfl};(have sP:k<n:=by omega);have s:bD (dn l k t)=(bD l).take k++Value.int .i64 t::(bD l).drop k:=Fw l k t;(have F:O ((bD l).drop k)=n-k:=by rw[qq,i]);rcases d with rfl |⟨b,o,rfl,g⟩;{simp at c;omega};refine(Any2.slices_Insert_int_grow yr b o n n k V 0 1 r (bD l) [.int .i64 t] w sP (by decide) (by omega) (by omega) (by omega) i rfl g u (K1 l) X).mono ?_;rintro e w' ⟨rfl,rfl⟩;refine f w.drew.drew _ rfl (λI=>I.drew.drew) ((Vs.Frame.drew γ H w).trans rfl (Vs.Frame.drew γ H w.drew)) ?_;(have m:O ((bD l).take k)=k:=by rw[im,i];omega);refine(Se w _ _ [.int .i64 t] ((bD l).drop k) k ?_).trans ?_;{simp only[MW,mN,size_zeroCells,Q,m,F,ua];omega};rw[e3,s];congr 2;simp only[Wr,ua,F];rw[Sd _ _ _ m,show k+1+(n-k)=n+1 by omega,WA (by rw[dF,m,pF,size_zeroCells,Q];omega)];simp
theorem adF{aa:List D}{r:bB}{H':Hp}(h:vC aa H=Z (r,H')):sH Tryz.prog W G 77 aa H r H':=by refine⟨adw,λS w V I C=>?_⟩;unfold vC at h;split at h;{rename_i s k j;obtain⟨T,U,X,rfl,u,R,E⟩:=Aa C;have R:=R.cn.iu;subst R;split at h;{rename_i t xL;cases E with|af _ _ _ _ Y vc v d F e f=>split at h;{rename_i i n;split at h;{rename_i cs hc;split at h;{rename_i l hl;split at h;{rename_i hh;obtain⟨J,L,a3,a4,a5,a6,A⟩:=hh;cases h;cases u with|af _ _ _ _ b c M g m o y=>obtain⟨K,rfl⟩:∃K:Nat,k=(K:Int):=⟨k.toNat,by omega⟩;exact adx I J M v hc xL L a3 a4 (K0 hl) g m o y d e f (by omega) A};cases h};cases h};cases h};split at h;{rename_i es hf;split at h;{rename_i l hl;split at h;{rename_i hk;obtain⟨a5,a6,A⟩:=hk;cases h;obtain⟨B,rfl,N⟩:=adC u hf;(have z:es=l.map λx=>.int .i64 x:=by have P:=K0 hl;(have Q:es.map D.p=(l.map λx=>PD.int .i64 x).map D.p:=by rw[P,lV];rfl);exact Wy (λa b h=>by cases h;rfl) |>.1 Q);(have p:O l=O es:=by rw[z,bL]);obtain⟨K,rfl⟩:∃K:Nat,k=(K:Int):=⟨k.toNat,by omega⟩;exact adE I v xL d e f p (by rw[<-z];exact N) (by omega) A};cases h};cases h};cases h};cases h};cases h
end
section
open Go Go.RowKit Go.Shelf
variable{W:World}{G:Nat->Option (List PD)}
abbrev PS:Type:={p:Int×Int//0<=p.1/\p.1<4611686018427387904}
instance:Inhabited PS:=⟨⟨(0,0),by decide⟩⟩
def vN(x:PS):List Value:=[.int .i64 x.1.1,.int .i64 x.1.2]
def BF(x y:PS):Int:=x.1.1-y.1.1
theorem adG(x y:Int×Int)(W:World):Calls Tryz.prog 62 #[.agg #[.int .i64 x.1,.int .i64 x.2],.agg #[.int .i64 y.1,.int .i64 y.2]] W λe w'=>e= .returned (.int .i64 (RowKit.wrap64 (x.1-y.1)))/\∃q o,w'=Sort.grow (W.drewN q) o:=by go_enter Tryz.func62,Tryz.ntmps62;go_wp2;go_ret;exact⟨rfl,0,_,by rw[Sort.alloc_eq_grow,Sort.alloc_eq_grow,Sort.grow_grow];rfl⟩
theorem adH(b off s:Nat)(w:World):CmpLays Tryz.prog 62 #[] vN 2 BF b off s w:=by
 intro m o d _ x y;refine(adG x.1 y.1 _).mono ?_;rintro e W ⟨rfl,h⟩;refine⟨?_,h⟩;have H:=x.2;have a:=y.2;have :RowKit.wrap64 (x.1.1-y.1.1)=x.1.1-y.1.1:=by unfold RowKit.wrap64;omega
 rw[this];rfl
theorem Fx(x y:PS):ltOf BF x y=decide (x.1.1<y.1.1):=by unfold ltOf BF;by_cases h:x.1.1<y.1.1;{simp[h];omega};simp[h];omega
theorem adI:Sort.SWO (ltOf BF) where
 irrefl x:=by rw[Fx];simp
 trans x y z h1 h2:=by rw[Fx] at *;simp at *;omega
 ntrans x y z h1 h2:=by rw[Fx] at *;simp at *;omega
def iw:List (Int×Int)->List Int|[]=>[]|p::l=>p.1::p.2::iw l
theorem BG:∀l:List (Int×Int),O (iw l)=O l*2|[]=>rfl|p::l=>by simp only[iw,cY,BG l];omega
theorem Sn:∀(l:List (Int×Int)) (i:Nat),(iw l)[i*2]? =(l[i]?).map wH/\(iw l)[i*2+1]? =(l[i]?).map Prod.snd|[],i=>by simp[iw]|p::l,0=>by simp[iw]|p::l,i+1=>by obtain⟨h,H⟩:=Sn l i;(have e:(i+1)*2=i*2+1+1:=by omega);rw[e];exact⟨by simpa[iw] using h,by simpa[iw] using H⟩
theorem K4:∀l:List (Int×Int),cG l=fV (iw l)|[]=>rfl|p::l=>by have:=K4 l;unfold fV at this|-;simp only[cG,iw,bQ,this]
theorem Sq:∀(cs:List D) {l:List (Int×Int)},yd cs=Z l->cs=cG l|[],l,h=>by cases h;rfl| .p (.int .i64 a):: .p (.int .i64 b)::r,l,h=>by simp only[yd] at h;obtain⟨L,H,rfl⟩:=au.1 h;rw[Sq r H];rfl
theorem Ss(ps:List PS):Sort.flatK vN 2 ps.toArray=(bD (iw (ps.map Subtype.val))).toArray:=by
 have l:O (bD (iw (ps.map Subtype.val)))=O ps*2:=by simp[bD,BG]
 refine Sort.ext_get! (by simp[l]) λt b=>?_;have H:t<O ps*2:=by simpa using b
 rw[Sort.get_flatK _ _ _ t (by simpa using H)];have i:t/2<O ps:=by omega
 obtain⟨Q,a⟩:=Sn (ps.map Subtype.val) (t/2);have g:(ps.map Subtype.val)[t/2]? =Z (ps[t/2]).val:=by simp[i]
 rw[g] at Q a;have p:ps.toArray[t/2]! =ps[t/2]:=by simp[i]
 rw[p];rcases(by omega:t=t/2*2\/t=t/2*2+1) with h |h;{(have hm:t%2=0:=by omega);rw[<-h] at Q;rw[hm];simp[bD,Q,vN]};(have hm:t%2=1:=by omega);rw[<-h] at a;rw[hm];simp[bD,a,vN]
theorem Su:∀{l:List (Int×Int)},ye l=true->∃ps:List PS,ps.map Subtype.val=l|[],_=>⟨[],rfl⟩|x::l,h=>by unfold ye at h;rw[List.all_cons,bG] at h;obtain⟨ps,p⟩:=Su (l:=l) h.2;exact⟨⟨x,by simpa using h.1⟩::ps,by rw[bQ,p]⟩
theorem Sv(x:Int×Int):∀l,(oo x l).Perm (x::l)|[]=>.refl _|y::l=>by simp only[oo];split;{exact .refl _};exact((Sv x l).cons y).trans (.swap x y l)
theorem K5:∀l,(eH l).Perm l|[]=>.refl _|x::l=>(Sv x _).trans ((K5 l).cons x)
theorem Sw:∀{l:List (Int×Int)},s8 l=true->l.Pairwise λa b=>a.1<b.1|[],_=>.nil|[x],_=>by simp|x::y::l,h=>by simp only[s8,bG,decide_eq_true_eq] at h;have i:=Sw (l:=y::l) h.2;refine j3.2 ⟨λz H=>?_,i⟩;rcases bJ.1 H with rfl |H;{exact h.1};have:=(j3.1 i).1 z H;omega
theorem Sy:∀{s t:List (Int×Int)},s.Perm t->s.Pairwise (λa b=>a.1<=b.1)->t.Pairwise (λa b=>a.1<b.1)->s=t|s,[],p,_,_=>p.eq_nil|[],x::t,p,_,_=>absurd p.length_eq (by simp)|y::s,x::t,p,c,d=>by obtain⟨S,e⟩:=j3.1 c;obtain⟨t1,t2⟩:=j3.1 d;(have H:y=x:=by refine mM λn=>?_;(have f:y∈t:=by rcases bJ.1 (p.mem_iff.1 (lx ..)) with h |h;{exact absurd h n};exact h);(have g:x∈s:=by rcases bJ.1 (p.mem_iff.2 (lx ..)) with h |h;{exact absurd h.symm n};exact h);have:=t1 y f;have:=S x g;omega);subst H;rw[Sy p.cons_inv e t2]
theorem adJ:Vs.Enters Tryz.prog 61:=⟨Tryz.f61,Tryz.func61,by kernel_rfl,by kernel_rfl⟩
variable{γ:Gh}{H:Hp}{b:Nat}{w:World}
theorem Inv.ahead(I:Vs.Inv G γ H w)(n:Nat):Vs.Inv G γ H (Sort.ahead w n):=⟨I.size,I.bq,I.gI,I.mem,I.gU,I.cK,I.nodup,I.box,I.fS,I.gJ,I.eT,I.row,I.gV,I.free⟩
theorem Frame.ahead(γ:Gh)(H:Hp)(w:World)(n:Nat):Vs.Frame γ H w γ H (Sort.ahead w n):=⟨rfl,rfl,rfl,aS _,λ_ _ _=>⟨λ_=>rfl,.refl _ _⟩,λ_ _ _ _=>rfl,λ_ h=>.inl h,λ_ _ h=>.inl h,λ_ h=>.inl h⟩
theorem adK(w:World)(o:Obj)(l:List Obj):Sort.grow w (o::l).toArray=Sort.grow (w.alloc o) l.toArray:=by unfold Sort.grow World.alloc;congr 1;apply wC;simp
theorem Sz{γ:Gh}{H:Hp}:∀(l:List Obj) {w:World},Vs.Inv G γ H w->Vs.Frame γ H w γ H (Sort.grow w l.toArray)/\Vs.Inv G γ H (Sort.grow w l.toArray)|[],w,I=>by have :Sort.grow w ([]:List Obj).toArray=w:=Sort.grow_empty w;rw[this];exact⟨.refl γ H w,I⟩|o::l,w,I=>by obtain⟨F,J⟩:=I.Nt o;obtain⟨a,b⟩:=Sz l J;rw[adK];exact⟨F.trans rfl a,b⟩
theorem adL{vs:Array Value}{T:TypeId}{fr:Nat×Nat}(a:w.heap[b]? =Z (.cells vs T fr))(l:List Value)(c:O l<=vs.size): Sort.putRow id w b 0 l.toArray=w.setRow b (vs.toList.take 0++l++vs.toList.drop (0+O l)).toArray:=by have v:=(gp.1 a).2;unfold Sort.putRow Sort.mapBlock World.setRow;congr 1;apply G9;{simp};intro i h1 h2;simp only[al1];split;{rename_i h;subst h;rw[v];simp only[Sort.onCells];congr 1;apply wC;apply j2;intro k;simp only[Sort.putCells,Array.toList_mapIdx,List.getElem?_mapIdx,bA,true_and,dD,Nat.sub_zero,mN,oA,eD,id];by_cases H:k<O l;{rw[bF (by omega)];(have d:k<O vs.toList:=by simpa using r8 H c);rw[aw d];simp[H]};rw[dO (by omega),lT,show O l+(k-O l)=k by omega];simp only[H,if_false];simp};rfl
theorem adM(I:Vs.Inv G γ H w){i:Nat}{cs:List D}(h:γ.boxes[i]? =Z b)(e:H.bx[i]? =Z cs)(m:az cs=false)(n:cs≠[]){k c:Nat}(l:k<1)(t:γ.bq b=Z (2*102+k,c*2)): ∃(vs:Array Value) (fr:Nat×Nat),w.heap[b]? =Z (.cells vs 102 fr)/\vs.size=c*2/\dT γ vs cs/\clear fr 0 vs.size/\(∀j,j<c*2->w.frozen? ⟨b,j,Y⟩=false):=by obtain⟨vs,T,fr,Q,f,o,a⟩:=I.box i b cs h e;rw[gA m] at Q;have a:=a n;(obtain rfl:k=0:=by omega);obtain⟨v,F,z,g,p⟩:=I.bq b _ _ t;rw[Q] at z;cases z;refine⟨vs,fr,Q,g,f,a,λj r=>?_⟩;have:=a j (bA _) (by omega);simp only[World.frozen?,Q];cases d:(decide (fr.1<=j)&&decide (j<fr.2)) with|false=>rfl|true=>simp at d;exact(this d).elim
theorem adN{aa:List D}{r:bB}{H':Hp}(h:Be aa H=Z (r,H')):sH Tryz.prog W G 61 aa H r H':=by refine⟨adJ,λγ w vs I r0=>?_⟩;unfold Be at h;split at h;{rename_i i n f;split at h;{rename_i cs hc;split at h;{rename_i l hl;split at h;{rename_i hh;obtain⟨rfl,hm,hn,u,dZ,y,J⟩:=hh;cases h;(obtain⟨v,V,rfl,E,K⟩:∃v V,vs= #[v,V]/\aG γ v (.af i 102 n 2)/\aG γ V (.fn 62 [] []):=by obtain⟨L,hr⟩:=r0;obtain⟨l⟩:=vs;match l,L with|[v,V],_=>exact⟨v,V,rfl,hr 0 _ rfl,hr 1 _ rfl⟩);cases K with|fn _ a1 cb _ _ ha Qs kl kr=>obtain rfl:a1= #[]:=CD (by simpa using ha);obtain rfl:cb= #[]:=CD (by simpa using kl);cases E with|af _ _ _ _ b c hb jJ uC hk ht=>obtain⟨us,fr,M,qs,q2,q4,N⟩:=adM I.toInv hb hc hm u hk ht;(have P:cs.take (n*2)=fV (iw l):=by rw[Sq _ hl,K4]);obtain⟨z,R⟩:=Sa q2 P hn;rw[BG] at z;(have S:O l=n:=by omega);have B:b<w.heap.size:=(gp.1 M).1;(have hus:n*2<=us.size:=by omega);obtain⟨p,t⟩:=Su J;(have T:O p=n:=by rw[<-S,<-t,bL]);have C:=Ss p;rw[t] at C;have e1:R8.f 6=61:=rfl;have eg:∀A w,(callFunc 62 A).run Tryz.prog w= .ok (.enter 62 A) w:=enters_of Tryz.func62 (by kernel_rfl) rfl;have:=AnyQ.slices_SortFunc adu 2 Tryz.isAgg102 Tryz.sizeOf102 vN (λ_=>rfl) (λx v E=>by simp[vN] at E;rcases E with rfl |rfl<;>rfl) BF adI 62 #[] b 0 c p.toArray w eg (adH b 0 _ w) (by intro j F;rw[C] at F|-;(have a:j<O (bD (iw l)):=by simpa using F);(have rJ:j<n*2:=by rw[<-z];simpa[bD,BG] using a);rw[dD];refine⟨?_,N j (by omega)⟩;simp only[World.cell?,M];have h3:=R j _ (aw a);rw[h3];simp[a]) B (by simp;omega);rw[e1] at this;(have s:p.toArray.size=n:=by simpa using T);rw[s] at this;refine this.mono ?_;rintro e w' ⟨rfl,g,m,os,hp,L,rfl⟩;have I1:=Inv.ahead I.toInv m;have F1:=Frame.ahead γ H w m;have Q:(Sort.ahead w m).heap[b]? =Z (.cells us 102 fr):=M;(have U:g.toList.map Subtype.val=eH l:=by obtain⟨p1,-,p3⟩:=hp;(have p4:g.toList.Perm p:=by (have e2:g.extract 0 n=g:=by rw[<-s,<-p1];simp);(have e3:p.toArray.extract 0 n=p.toArray:=by rw[<-s];simp);rw[e2,e3] at p3;exact p3);have p5:=(p4.map Subtype.val);rw[t] at p5;refine Sy (p5.trans (K5 l).symm) ?_ (Sw y);refine wI.2 (zz.2 λi j hi F X=>?_);(have a:j<g.size:=by simpa using F);have Y:=L i j (bA _) X (by rw[<-s,<-p1];exact a);rw[Fx,getElem!_pos g j a,getElem!_pos g i (by omega)] at Y;simp at Y;simpa using Y);have o:=Ss g.toList;rw[U] at o;(have z8:O (bD (iw (eH l)))=n*2:=by have:=(K5 l).length_eq;simp[bD,BG];omega);obtain⟨F2,I2⟩:=I1.store (off:=0) hb hc (us:=bD (iw (eH l))) (ds:=fV (iw (eH l))) (by refine⟨by simp[bD,fV],λk d U=>?_⟩;have h2:=(Fv (γ:=γ) (iw (eH l)) []).2 k d U;simpa only[gu] using h2) (Fu _) (by (have :O (fV (iw (eH l)))=n*2:=by rw[<-z8];simp[fV,bD]);rw[this,dD];exact hn) Q q4 q2 hm u;rw[<-adL Q (bD (iw (eH l))) (by omega)] at F2 I2;(have hpk:Sort.putRowK vN 2 (Sort.ahead w m) b 0 g=Sort.putRow id (Sort.ahead w m) b 0 (bD (iw (eH l))).toArray:=by unfold Sort.putRowK;rw[<-o]);rw[<-hpk,<-K4] at F2 I2;obtain⟨F3,I3⟩:=Sz os.toList I2;have FF:=(F1.trans rfl F2).trans rfl F3;refine⟨γ,.refl γ,FF,I.up (.refl γ) FF I3,_,rfl,?_⟩;exact .undef};cases h};cases h};cases h};cases h
end
section
theorem rf{b:Sort _}(a:b):a=a:=rfl
def BH:SC->List (List Nat×SC)| .loop k b=>(k,b)::BH b| .seq a b | .cond _ a b | .j5 _ _ _ _ a b=>BH a++BH b| .block _ b | .scope b | .loc b | .j4 b=>BH b|_=>[]
noncomputable def bd (x:Option FC) (n:Nat):SC:=(((x.map λf=>BH f.body).getD []).getD n ([],.skip)).2
def post(Q:Out->Env->Hp->Prop):Option (Out×St)->Prop|some (o,⟨e,H⟩)=>Q o e H|none=>False
@[simp] theorem adP(Q:Out->Env->Hp->Prop)(o:Out)(e:Env)(H:Hp):post Q (Z (o,⟨e,H⟩))↔Q o e H:=Iff.rfl
variable{E0:Env}{fc:FC}{H0:Hp}{aa:List PD}{f:Nat}{x:Option (Out×St)}{Q:Out->Env->Hp->Prop}{b:SC}{α:Type}{y:α->D}
theorem aX(h:post Q x):∃o e H,x=Z (o,⟨e,H⟩)/\Q o e H:=by cases x with|none=>exact h.elim|some y=>obtain⟨o,e,H⟩:=y;exact⟨o,e,H,rfl,h⟩
theorem aC{R:Out->Env->Hp->Prop}(h:post Q x)(a:∀o e H,Q o e H->R o e H):post R x:=by cases x with|none=>exact h.elim|some y=>obtain⟨o,e,H⟩:=y;exact a _ _ _ h
variable{c:bt}{G:Nat->Option (List PD)}
@[simp] theorem BI(x:PD):(D.p x).one=x.one:=rfl
theorem Fy{x:PD}(h:x.one=true):(D.p x).cells=[.p x]:=by cases x<;>first |rfl |cases h
theorem mB{x:PD}(h:x.one=true):x.cells=[x]:=by cases x<;>first |rfl |cases h
theorem Fz(cs:List PD):(D.p (.agg cs)).cells=cs.map .p:=rfl
theorem tz(cs:List PD):(PD.agg cs).cells=cs:=rfl
theorem BJ(cs:List D):(D.agg cs).cells=cs:=rfl
theorem FA(i o:Nat):(D.box i o).cells=[.box i o]:=rfl
theorem FB(t e sz:Nat)(es:List PD):(D.aP t e sz es).cells=[.aP t e sz es]:=rfl
theorem FD(e sz:Nat)(es:List PD):(D.cw e sz es).cells=[.cw e sz es]:=rfl
theorem FE(i e n sz:Nat):(D.af i e n sz).cells=[.af i e n sz]:=rfl
theorem FG(i o n:Nat)(c:Option Nat)(sz:Nat):(D.aZ i o n c sz).cells=[.aZ i o n c sz]:=rfl
theorem FH(f:Nat)(a c:List D):(D.fn f a c).cells=[.fn f a c]:=rfl
theorem FI(i:Nat):(D.bO i).cells=[.bO i]:=rfl
theorem BK(k:IntKind)(n:Int):(D.p (.int k n)).cells=[.p (.int k n)]:=rfl
theorem FJ(b:Bool):(D.p (.bool b)).cells=[.p (.bool b)]:=rfl
theorem FK(s:List UInt8):(D.p (.str s)).cells=[.p (.str s)]:=rfl
theorem FL(sz:Nat)(es:List PD):(D.p (.slice sz es)).cells=[.p (.slice sz es)]:=rfl
theorem FM:(D.p .aj).cells=[.p .aj]:=rfl
theorem BL(k:IntKind)(n:Int):(PD.int k n).cells=[.int k n]:=rfl
theorem yv(b:Bool):(PD.bool b).cells=[.bool b]:=rfl
theorem FN(s:List UInt8):(PD.str s).cells=[.str s]:=rfl
@[simp] theorem aoC(sz:Nat):(PD.bW sz).one=true:=rfl
@[simp] theorem aoD:PD.i7.one=true:=rfl
theorem FO(b:Bool)(x y:SC)(s:St):Eu c G (.p (.bool b)) x y s=if b=true then ay c G aO x s else ay c G aO y s:=rfl
theorem FP(keep:List Nat)(b:Bool)(o:SO)(r:List SO)(env:Env)(H:Hp):xV c G keep (Z b) o r env H=if b=true then opsV c G keep (cz c G env H o.k) o.dst r env else oT c G keep r (put o.dst .undef env) H:=by cases b<;>rfl
theorem FQ(keep:List Nat)(p:List (Nat×Nat))(u:Env)(b:Bool)(o:SO)(r:List SO)(env:Env)(H:Hp)(a:List (Nat×Nat)):vk c G keep p u (Z b) o r env H a=if b=true then vh c G keep p u (cz c G env H o.k) o r env H a else jS c G keep p u r (put o.dst .undef env) H (a++[(0,0)]):=by cases b<;>rfl
theorem SA{Q:α->Out->Env->Hp->Prop}(h:post (λo e H=>∃r,Q r o e H) x):∃r,post (Q r) x:=by obtain⟨o,e,H,a,r,b⟩:=aX h;exact⟨r,by rw[a];exact b⟩
theorem adQ(h:post (λo e H=>post Q (oU c G (Z (o,⟨e,H⟩)) b)) x):post Q (oU c G x b):=by obtain⟨o,e,H,a,r⟩:=aX h;rw[a];exact r
theorem adR{k:Nat}(h:post (λo e H=>post Q (oV k (Z (o,⟨e,H⟩)))) x):post Q (oV k x):=by obtain⟨o,e,H,a,r⟩:=aX h;rw[a];exact r
def nx(keep:List Nat)(E:Env)(H:Hp):Out->Env->Hp->Prop:=λo e H'=>o= .norm/\H'=H/\e.keep keep=E.keep keep
theorem SB{keep:List Nat}{env e:Env}{H:Hp}(h:env.keep keep=e.keep keep):cB c G keep b ⟨env,H⟩=cB c G keep b ⟨e,H⟩:=Qi (by dsimp only;rw[h])
theorem cU{σ:Type}{keep:List Nat}(E:σ->Env)(a:σ->Hp)(m:σ->Nat)(I:σ->Prop)(Q:Out->Env->Hp->Prop) (h:∀s,I s->post (λo e H=>(∃s',I s'/\m s'<m s/\nx keep (E s') (a s') o e H)\/(o≠.norm/\Q o e H)) (ay c G aO b ⟨(E s).keep keep,a s⟩)): ∀s,I s->post Q (cB c G keep b ⟨E s,a s⟩):=by (have k:∀n s,m s=n->I s->post Q (cB c G keep b ⟨E s,a s⟩):=by intro n;induction n using Nat.strongRecOn with|_ n j=>intro s l p;obtain⟨o,e,H,x,d⟩:=aX (h s p);rcases d with⟨s',i,f,g,r,t⟩ |⟨g,d⟩;{subst g;rw[Qj x,SB t,r];exact j (m s') (l▸f) s' rfl i};rw[Qk x g];exact d);exact λs=>k (m s) s rfl
theorem eO{keep:List Nat}(E:Nat->Env)(a:Nat->Hp)(n:Nat)(I:Nat->Prop)(Q:Out->Env->Hp->Prop)(g:I 0) (h:∀i,i<n->I i->post (λo e H=>(I (i+1)/\nx keep (E (i+1)) (a (i+1)) o e H)\/(o≠.norm/\Q o e H)) (ay c G aO b ⟨(E i).keep keep,a i⟩)) (j:I n->post (λo e H=>o≠.norm/\Q o e H) (ay c G aO b ⟨(E n).keep keep,a n⟩)): post Q (cB c G keep b ⟨E 0,a 0⟩):=by refine cU E a (λi=>n-i) (λi=>i<=n/\I i) Q ?_ 0 ⟨bA _,g⟩;rintro i ⟨p,f⟩;rcases dI i n with l |k;{refine aC (h i l f) ?_;rintro o e H (⟨d,m⟩ |d);{exact .inl ⟨i+1,⟨l,d⟩,by omega,m⟩};exact .inr d};(have :i=n:=by omega);subst this;exact aC (j f) λo e H h=>.inr h
theorem yw{keep:List Nat}{E:Env}{a:Hp}(h:post (nx keep E a) (ay c G aO b ⟨E0.keep keep,H0⟩))(d:post Q (cB c G keep b ⟨E,a⟩)):post Q (cB c G keep b ⟨E0,H0⟩):=by obtain⟨o,e,H,x,rfl,rfl,f⟩:=aX h;rw[Qj x,SB f];exact d
theorem adS{keep:List Nat}(h:post (λo e H=>o≠.norm/\Q o e H) (ay c G aO b ⟨E0.keep keep,H0⟩)):post Q (cB c G keep b ⟨E0,H0⟩):=by obtain⟨o,e,H,x,a,d⟩:=aX h;rw[Qk x a];exact d
theorem vO{keep:List Nat}(E:Nat->Env)(H:Hp)(n:Nat)(P:Nat->Prop)(x:Nat)(Q R:Env->Prop) (h:∀i,i<n->(∀j,j<i->P j)->P i->post (nx keep (E (i+1)) H) (ay c G aO b ⟨(E i).keep keep,H⟩)) (r:∀i,i<n->(∀j,j<i->P j)->¬P i->post (λo e H'=>o= .ret/\H'=H/\R e) (ay c G aO b ⟨(E i).keep keep,H⟩)) (g:post (λo e H'=>o= .exit x/\H'=H/\Q e) (ay c G aO b ⟨(E n).keep keep,H⟩)): (∃e,cB c G keep b ⟨E 0,H⟩=Z (.exit x,⟨e,H⟩)/\Q e/\∀i,i<n->P i)\/(∃e,cB c G keep b ⟨E 0,H⟩=Z (.ret,⟨e,H⟩)/\R e/\¬∀i,i<n->P i):=by have:=eO (c:=c) (G:=G) (keep:=keep) (b:=b) E (λ_=>H) n (λi=>∀j,j<i->P j) (λo e H'=>H'=H/\((o= .exit x/\Q e/\∀i,i<n->P i)\/(o= .ret/\R e/\¬∀i,i<n->P i))) (λj k=>by omega) ?_ ?_;{obtain⟨o,e,H',hx,rfl,hq⟩:=aX this;rcases hq with⟨rfl,a,f⟩ |⟨rfl,a,f⟩;{exact .inl ⟨e,hx,a,f⟩};exact .inr ⟨e,hx,a,f⟩};{intro i hi hI;by_cases p:P i;{refine aC (h i hi hI p) λo e H' d=>.inl ⟨λj k=>?_,d⟩;rcases dI j i with a |a;{exact hI j a};(have :j=i:=by omega);exact this▸p};refine aC (r i hi hI p) λo e H' d=>.inr ?_;obtain⟨rfl,rfl,a⟩:=d;exact⟨by simp,rfl,.inr ⟨rfl,a,λd=>p (d i hi)⟩⟩};intro hI;refine aC g λo e H' d=>?_;obtain⟨rfl,rfl,a⟩:=d;exact⟨by simp,rfl,.inl ⟨rfl,a,hI⟩⟩
theorem ie{keep:List Nat}(E:Nat->Env)(H:Hp)(n:Nat)(P:Nat->Prop)(x:Nat)(Q R:Env->Prop) (h:∀i,i<n->P i->post (nx keep (E (i+1)) H) (ay c G aO b ⟨(E i).keep keep,H⟩)) (r:∀i,i<n->¬P i->post (λo e H'=>o= .ret/\H'=H/\R e) (ay c G aO b ⟨(E i).keep keep,H⟩)) (d:post (λo e H'=>o= .exit x/\H'=H/\Q e) (ay c G aO b ⟨(E n).keep keep,H⟩)): (∃e,cB c G keep b ⟨E 0,H⟩=Z (.exit x,⟨e,H⟩)/\Q e/\∀i,i<n->P i)\/(∃e,cB c G keep b ⟨E 0,H⟩=Z (.ret,⟨e,H⟩)/\R e/\¬∀i,i<n->P i):=vO E H n P x Q R (λi a _=>h i a) (λi a _=>r i a) d
theorem mC{keep:List Nat}(E:Nat->Env)(H:Hp)(n:Nat)(P:Nat->Prop)(x:Nat)(Q R:Env->Prop) (h:∀i,i<n->post (λo e H'=>(P i/\nx keep (E (i+1)) H o e H')\/(o= .ret/\H'=H/\R e)) (ay c G aO b ⟨(E i).keep keep,H⟩)) (f:post (λo e H'=>o= .exit x/\H'=H/\Q e) (ay c G aO b ⟨(E n).keep keep,H⟩)): (∃e,cB c G keep b ⟨E 0,H⟩=Z (.exit x,⟨e,H⟩)/\Q e/\∀i,i<n->P i)\/(∃e,cB c G keep b ⟨E 0,H⟩=Z (.ret,⟨e,H⟩)/\R e):=by have:=eO (c:=c) (G:=G) (keep:=keep) (b:=b) E (λ_=>H) n (λi=>∀j,j<i->P j) (λo e H'=>H'=H/\((o= .exit x/\Q e/\∀i,i<n->P i)\/(o= .ret/\R e))) (λj g=>by omega) ?_ ?_;{obtain⟨o,e,H',hx,rfl,hq⟩:=aX this;rcases hq with⟨rfl,a,k⟩ |⟨rfl,a⟩;{exact .inl ⟨e,hx,a,k⟩};exact .inr ⟨e,hx,a⟩};{intro i hi hI;refine aC (h i hi) ?_;rintro o e H' (⟨p,d⟩ |⟨rfl,rfl,a⟩);{refine .inl ⟨λj g=>?_,d⟩;rcases dI j i with a |a;{exact hI j a};(have :j=i:=by omega);exact this▸p};exact .inr ⟨by simp,rfl,.inr ⟨rfl,a⟩⟩};intro hI;refine aC f λo e H' d=>?_;obtain⟨rfl,rfl,a⟩:=d;exact⟨by simp,rfl,.inl ⟨rfl,a,hI⟩⟩
def fin(f:Bool)(d:D)(H:Hp)(y:D):Prop:=∃d1,(if f then(d.aB 0 H 8).ren (below 0) Z else Z d)=Z d1/\d1.ren (λ_=>Y) (λ_=>Y)=Z y
@[simp] theorem aoE(f:Bool)(x y:PD)(H:Hp):fin f (.p x) H (.p y)↔x=y:=by unfold fin;cases f;{simp[D.ren]};simp[D.aB,D.ren]
@[simp] theorem aoF(f:Bool)(t e sz:Nat)(es:List PD)(H:Hp)(y:D):fin f (.aP t e sz es) H y↔y= .p (.slice sz es):=by unfold fin;cases f;{simp[D.ren,eq_comm]};simp[D.aB,D.ren,eq_comm]
theorem fq(k:Nat)(H:Hp):∀(n:Nat) (x:PD),(D.p x).aB k H n= .p x| 0,_=>by unfold D.aB;rfl|n+1,_=>by unfold D.aB;rfl
theorem SD(z:Bool)(xs:List PD)(H:Hp):fin z (.aL (xs.map .p)) H (.aL (xs.map .p)):=by (have h:∀f g,(D.aL (xs.map .p)).ren f g=Z (.aL (xs.map .p)):=λf g=>by simp[D.ren]);unfold fin;refine⟨.aL (xs.map .p),?_,h _ _⟩;cases z;{rfl};(have h2:(D.aL (xs.map .p)).aB 0 H 8= .aL (xs.map .p):=by unfold D.aB;simp[fq]);rw[if_pos rfl,h2,h]
@[simp] theorem aoG(f:Bool)(a b c d:PD)(H:Hp):fin f (.aL [.p a,.p b]) H (.aL [.p c,.p d])↔a=c/\b=d:=by constructor;{intro h;obtain⟨d1,i,k⟩:=h;obtain⟨d2,j,g⟩:=SD f [a,b] H;(have e:d1=d2:=by rw[show[D.p a,D.p b]=[a,b].map D.p from rfl] at i;rw[i] at j;cases j;rfl);subst e;rw[k] at g;simp at g;exact⟨g.1.symm,g.2.symm⟩};rintro⟨rfl,rfl⟩;exact SD f [a,b] H
theorem K6(k:Nat)(H:Hp)(t e sz:Nat)(es:List PD):∀n:Nat,(D.aP t e sz es).aB k H n= .aP t e sz es| 0=>by unfold D.aB;rfl|n+1=>by unfold D.aB;rfl
theorem FR(f:Bool)(a:PD)(t e sz:Nat)(es:List PD)(H:Hp)(y:D):fin f (.agg [.p a,.aP t e sz es]) H y↔y= .agg [.p a,.p (.slice sz es)]:=by (have h:(D.agg [.p a,.aP t e sz es]).aB 0 H 8= .agg [.p a,.aP t e sz es]:=by unfold D.aB;simp[fq,K6,bY,eG]);unfold fin;rw[h];constructor;{rintro⟨d1,g1,g2⟩;(have :d1= .agg [.p a,.aP t e sz es]:=by cases f;{cases g1;rfl};simp[D.ren,D.aR] at g1;exact g1.symm);subst this;simp[D.ren,D.aR] at g2;exact g2.symm};rintro rfl;refine⟨.agg [.p a,.aP t e sz es],?_,by simp[D.ren,D.aR]⟩;cases f;{rfl};simp[D.ren,D.aR]
def gives(f:Bool)(res:List mQ)(y:D):Out->Env->Hp->Prop:=λo e H=>(o= .ret\/o= .norm)/\∃d,gT pg.G e H res=Z d/\fin f d H y
theorem qa{aa:List D}{y:D}(F:pg.F f=Z fc)(l:pg.lib f aa ⟨[],[]⟩=Y)(g:O aa=fc.np)(i:fc.fN=Y)(k:D.aq aa=[])(t:D.aJ aa=[])(m:D.aR (idx []) (idx []) aa=Z aa) (h:post (gives fc.aB fc.res y) (ay (call pg) pg.G aO fc.body ⟨entry 0 aa,⟨[],[]⟩⟩)): ∀H,ag (call pg) f aa H=Z (.val y,H):=by
 intro H;obtain⟨o,e,a,x,p,d,r,d1,b,s⟩:=aX h;have n:finish pg.G fc.res (Z (o,⟨e,a⟩))=Z (.val d,a):=by rcases p with rfl |rfl;{simp only[finish,r]};simp only[finish,r]
 have c:∃j,call pg f aa ⟨[],[]⟩=Z (.val d1,j):=by cases z:fc.aB with|false=>rw[z] at b;cases b;exact⟨a,oY l F g (by simp only[z,jI,fZ,i,x,n];rfl)⟩|true=>rw[z,if_pos rfl] at b;exact⟨⟨[],a.tk⟩,oY l F g (by simp only[z,jI,fZ,i,x,n,if_true,eZ,nP,dG,oA,aF,bB.aB,bB.ren,b,bA])⟩
 obtain⟨j,c⟩:=c;exact Ev c k t m s
theorem ax{y:D}(F:pg.F f=Z fc)(l:pg.lib f (aa.map .p) ⟨[],[]⟩=Y)(n:O aa=fc.np)(d:fc.fN=Y) (h:post (gives fc.aB fc.res y) (ay (call pg) pg.G aO fc.body ⟨entry 0 (aa.map .p),⟨[],[]⟩⟩)): ∀H,ag (call pg) f (aa.map .p) H=Z (.val y,H):=qa F l (by simpa using n) d (kn aa) (nz aa) (gf _ _ aa) h
theorem tA{R:α->Prop}(F:pg.F f=Z fc)(l:pg.lib f (aa.map .p) ⟨[],[]⟩=Y)(n:O aa=fc.np)(d:fc.fN=Y) (h:post (λo e H=>∃r,R r/\gives fc.aB fc.res (y r) o e H) (ay (call pg) pg.G aO fc.body ⟨entry 0 (aa.map .p),⟨[],[]⟩⟩)): ∃r,(∀H,ag (call pg) f (aa.map .p) H=Z (.val (y r),H))/\R r:=by obtain⟨r,a⟩:=SA h;obtain⟨_,_,_,_,b⟩:=aX a;exact⟨r,ax F l n d (aC a λ_ _ _ h=>h.2),b.1⟩
theorem SE(F:pg.F f=Z fc)(l:pg.lib f (aa.map .p) ⟨[],[]⟩=Y)(n:O aa=fc.np)(d:fc.fN=Y) (h:post (λo e H=>∃r,gives fc.aB fc.res (y r) o e H) (ay (call pg) pg.G aO fc.body ⟨entry 0 (aa.map .p),⟨[],[]⟩⟩)): ∃r,∀H,ag (call pg) f (aa.map .p) H=Z (.val (y r),H):=by obtain⟨r,a⟩:=SA h;exact⟨r,ax F l n d a⟩
theorem BM(f g:Nat->Option Nat):∀(e:Env) (s:Nat),Env.get (e.map λy=>(y.1,(y.2.ren f g).getD .dead)) s=((e.get s).ren f g).getD .dead|[],s=>by simp[Env.get,D.ren]|(t,d)::e,s=>by simp only[bQ,Env.get];split;{rfl};exact BM f g e s
end
section
theorem iy(n sz b o:Nat)(i:Int):cV (Z n) sz (.box b o) i=if 0<=i/\i<n then Z (.box b (o+i.toNat*sz)) else Y:=rfl
theorem FT(n sz:Nat)(cs:List PD)(o:Nat)(i:Int):cV (Z n) sz (.ro cs o) i=if 0<=i/\i<n then Z (.ro cs (o+i.toNat*sz)) else Y:=rfl
attribute [local simp] cz aY eS put Env.get Env.keep entry aE.ev kL um aA cutAt uj D.qx D.jH u8 wN ui wO jo sub wQ oD PD.eqv iL cls fQ qy ba jq lX nO dX pM finish gT lA aF D.aq D.refs D.aJ D.bh bY eG aI mR dB dA D.fO D.dW nH uk pL D.gR az EA EB xY EC ED iy FT gives nx FO FP FQ oC BI cx below Out.ren D.ren D.aR BM FR Fy mB Fz tz BJ FA FB FD FE FG FH FI BK FJ FK FL FM BL yv FN
def ae(a:Sl Int):PD:=cD 1 (a.map (PD.int .i64))
theorem aH(a:Sl Int):c9 1 (.p (ae a))=Z (O (els a)):=kV 1 _ a
theorem bT{a:Sl Int}{k:Nat}(h:k<O (els a)):cV Y 1 (.p (ae a)) (k:Int)=Z (.ro [.int .i64 (els a)[k]] 0):=kW h
@[simp] theorem aoH(a:Sl Int):(D.p (ae a)).one=true:=abJ 1 _
@[simp] theorem aoI(a:Sl Int):(ae a).one=true:=kj 1 _
structure Rl where
 ar:Int
 tu:Sl Int
def Rl.p(r:Rl):PD:=.agg [.int .i64 r.ar,ae r.tu]
def iz(s:Sl Rl):PD:=cD 2 (s.map Rl.p)
theorem gw(s:Sl Rl):c9 1 (.p (iz s))=Z (O (els s)):=kV 2 _ s
theorem jz{s:Sl Rl}{k:Nat}(h:k<O (els s)):cV Y 2 (.p (iz s)) (k:Int)=Z (.ro [.int .i64 (els s)[k].ar,ae (els s)[k].tu] 0):=kW h
@[simp] theorem aoJ(a:Sl Rl):(iz a).one=true:=kj 2 _
def bp(s:Sl (Sl Rl)):PD:=cD 1 (s.map iz)
theorem dL(s:Sl (Sl Rl)):c9 1 (.p (bp s))=Z (O (els s)):=kV 1 _ s
theorem adT(a:Sl Rl):(iz a).cells=[iz a]:=by unfold iz;cases a with|nil=>rfl|cI=>rfl|of l=>cases l<;>rfl
theorem gh{s:Sl (Sl Rl)}{k:Nat}(h:k<O (els s)):cV Y 1 (.p (bp s)) (k:Int)=Z (.ro [iz (els s)[k]] 0):=by have:=kW (sz:=1) (f:=iz) h;rw[adT] at this;exact this
@[simp] theorem aoK(a:Sl (Sl Rl)):(bp a).one=true:=kj 1 _
structure Fi where
 nm:List UInt8
 so:Sl Int
 va:Bool
def Fi.p(f:Fi):PD:=.agg [.str f.nm,ae f.so,.bool f.va]
def aV(s:Sl Fi):PD:=cD 3 (s.map Fi.p)
theorem cR(s:Sl Fi):c9 1 (.p (aV s))=Z (O (els s)):=kV 3 _ s
theorem iA{s:Sl Fi}{k:Nat}(h:k<O (els s)):cV Y 3 (.p (aV s)) (k:Int)=Z (.ro [.str (els s)[k].nm,ae (els s)[k].so,.bool (els s)[k].va] 0):=kW h
@[simp] theorem BN(a:Sl Fi):(aV a).one=true:=kj 3 _
structure Bn where
 lo:Rl
 up:Rl
def Bn.p(b:Bn):PD:=.agg [.int .i64 b.lo.ar,ae b.lo.tu,.int .i64 b.up.ar,ae b.up.tu]
def aQ(s:Sl Bn):PD:=cD 4 (s.map Bn.p)
theorem dR(s:Sl Bn):c9 1 (.p (aQ s))=Z (O (els s)):=kV 4 _ s
theorem ig{s:Sl Bn}{k:Nat}(h:k<O (els s)):cV Y 4 (.p (aQ s)) (k:Int)=Z (.ro [.int .i64 (els s)[k].lo.ar,ae (els s)[k].lo.tu,.int .i64 (els s)[k].up.ar,ae (els s)[k].up.tu] 0):=kW h
@[simp] theorem aoL(a:Sl Bn):(aQ a).one=true:=kj 4 _
theorem SG(a b:Sl Int)(o:O (els a)<4611686018427387904): ∃r:Bool,(∀H,ag (call pg) 29 [.p (ae a),.p (ae b)] H=Z (.val (.p (.bool r)),H))/\(r=true↔els a=els b):=by
 have d:=rf (bd EP 0);conv at d=>rhs;reduce
 have g:=rf EP;conv at g=>rhs;reduce
 rw[<-d] at g;by_cases l:O (els a)=O (els b);{have key:=ie (c:=call pg) (G:=pg.G) (keep:=[0,1,5]) (b:=bd EP 0) (λi=>[(0,.p (ae a)),(1,.p (ae b)),(5,.p (.int .i64 (i:Int)))]) ⟨[],[]⟩ (O (els a)) (λi=>(els a)[i]? =(els b)[i]?) 0 (λ_=>True) (λe=>e.get 4= .p (.bool false)) ?_ ?_ ?_;{rcases key with⟨e,x,-,j⟩ |⟨e,x,m,j⟩;{refine⟨true,ax (aa:=[_,_]) g rfl rfl rfl ?_,iff_of_true rfl ?_⟩;{simp[aH,l] at x|-;simp[x]};refine j2 λi=>?_;rcases dI i (O (els a)) with h |h;{exact j i h};rw[kH h,kH (l▸h)]};refine⟨false,ax (aa:=[_,_]) g rfl rfl rfl ?_,iff_of_false (by simp) λn=>j λi _=>by rw[n]⟩;simp[aH,l] at x|-;simp[x,m]};{intro i hi hP;rw[d];clear g d;have f:i<O (els b):=l▸hi;rw[aw hi,aw f,cH] at hP;simp[aH,bT hi,bT f,hi,hP,aK (k:=i) (by omega)]};{intro i hi hP;rw[d];clear g d;have f:i<O (els b):=l▸hi;rw[aw hi,aw f,cH] at hP;simp[aH,bT hi,bT f,hi,hP]};rw[d];clear g d;simp[aH]};refine⟨false,ax (aa:=[_,_]) g rfl rfl rfl ?_,iff_of_false (by simp) λh=>l (by rw[h])⟩;simp[aH,l]
end
section
open Go
def adU:SC:=(.seq (.region [0,3,7,8,9] [zo 9 (.bin .lss (.t 8) (.t 7))]) (.seq (.cond (.t 9) .skip (.exit 0)) (.seq (.block 1 (.seq (.region [0,3,5,7,8] [zm 10 8,zm 5 10]) (.seq (.draw [0,3,5,7,8,16] [(0,4)] [zL 11 3 3,zm 12 0,zm 13 5,zo 14 (.iaddr Y 3 (.t 12) (.t 13)),zL 15 3 14,zo 16 (.eqs false [1,1,1] (.t 11) (.t 15))]) (.cond (.t 16) (.seq (.region [4] [zm 17 5,zm 4 17]) .ret) .skip)))) (.region [0,3,7,8] [zo 18 (.bin .add (.t 8) (zI 1)),zm 8 18]))))
def adV:FC where
 nt:=19
 np:=2
 res:=[.t 4]
 body:=(.seq (.region [0,3] [zo 3 (.box (.t 1)),zi 4 0]) (.seq (.seq (.region [0,3,7,8] [zm 6 0,ze 7 1 6,zi 8 0]) (.block 0 (.loop [0,3,7,8] adU))) (.seq (.region [4] [zi 4 (-1)]) .ret)))
 aB:=true
def adW:SC:=(.seq (.seq (.region [4,5,6,8,11,12,13,14,15,87] [zm 83 15,zf 84 12 0,zl 85 84,ze 86 1 85,zo 87 (.bin .lss (.t 83) (.t 86))]) (.cond (.t 87) .skip (.exit 0))) (.seq (.block 1 (.seq (.draw [4,5,6,8,11,12,13,14,15,123] [(7,12),(10,12),(7,15),(10,15)] [zm 90 15,zf 91 8 0,zl 92 91,ze 93 1 92,zo 94 (.bin .lss (.t 90) (.t 93)),zm 95 94,zg 96 (.faddr (.t 12) 0) 95 true,zg 97 (.load Y (.t 96)) 95 true,zg 98 (.move (.t 15)) 95 true,zg 99 (.iaddr Y 3 (.t 97) (.t 98)) 95 true,zg 100 (.load (Z 3) (.t 99)) 95 true,zg 101 (.faddr (.t 8) 0) 95 true,zg 102 (.load Y (.t 101)) 95 true,zg 103 (.move (.t 15)) 95 true,zg 104 (.iaddr Y 3 (.t 102) (.t 103)) 95 true,zg 105 (.load (Z 3) (.t 104)) 95 true,zg 106 (.eqs true [1,1,1] (.t 100) (.t 105)) 95 true,za 107 95 106,zm 108 107,zg 109 (.move (.t 15)) 108 false,zg 110 (.faddr (.t 8) 0) 108 false,zg 111 (.load Y (.t 110)) 108 false,zg 112 (.len 1 (.t 111)) 108 false,zg 113 (.bin .geq (.t 109) (.t 112)) 108 false,zg 114 (.move (.t 113)) 108 false,zg 115 (.faddr (.t 12) 0) 114 true,zg 116 (.load Y (.t 115)) 114 true,zg 117 (.move (.t 15)) 114 true,zg 118 (.iaddr Y 3 (.t 116) (.t 117)) 114 true,zg 119 (.faddr (.t 118) 0) 114 true,zg 120 (.load Y (.t 119)) 114 true,zg 121 (.bin .neq (.t 120) (zI 1)) 114 true,zg 122 (.pick (.t 114) (.t 121) (zB false)) 108 false,zb 123 108 122]) (.cond (.t 123) (.seq (.region [10] [zo 10 (.move (zB false))]) .ret) .skip))) (.region [4,5,6,8,11,12,13,14,15] [zm 88 15,zo 89 (.bin .add (.t 88) (zI 1)),zm 15 89])))
def adX:SC:=(.loc (.seq (.seq (.region [4,5,6,11,12,13,14,16,17,155] [zm 151 17,zf 152 5 1,zl 153 152,ze 154 1 153,zo 155 (.bin .lss (.t 151) (.t 154))]) (.cond (.t 155) .skip (.exit 4))) (.seq (.block 5 (.seq (.draw [4,5,6,11,12,13,14,16,17,189] [(0,4),(0,7),(11,15),(11,18),(11,22),(15,22),(18,22),(20,22),(11,25),(15,25),(18,25),(20,25),(11,28),(15,28),(18,28),(20,28)] [zL 158 1 12,zm 159 13,zm 160 16,zo 161 (.iaddr Y 1 (.t 159) (.t 160)),zl 162 161,zm 163 17,zo 164 (.iaddr Y 2 (.t 162) (.t 163)),zL 165 2 164,zc 166 37 [.t 158,.t 165],zo 167 (.un .not (.t 166)),zm 168 167,zg 169 (.load (Z 1) (.t 12)) 168 false,zg 170 (.move (.t 13)) 168 false,zg 171 (.move (.t 16)) 168 false,zg 172 (.iaddr Y 1 (.t 170) (.t 171)) 168 false,zg 173 (.load Y (.t 172)) 168 false,zg 174 (.move (.t 17)) 168 false,zg 175 (.iaddr Y 2 (.t 173) (.t 174)) 168 false,zg 176 (.load (Z 2) (.t 175)) 168 false,zg 177 (.move (.t 4)) 168 false,zg 178 (.call (.c (.fn 39 [] [])) [.t 169,.t 176,.t 177]) 168 false,zg 179 (.faddr (.t 14) 2) 168 false,zg 180 (.load Y (.t 179)) 168 false,zg 181 (.move (.t 16)) 168 false,zg 182 (.iaddr Y 1 (.t 180) (.t 181)) 168 false,zg 183 (.load Y (.t 182)) 168 false,zg 184 (.move (.t 17)) 168 false,zg 185 (.iaddr Y 2 (.t 183) (.t 184)) 168 false,zg 186 (.load (Z 2) (.t 185)) 168 false,zg 187 (.call (.c (.fn 38 [] [])) [.t 178,.t 186]) 168 false,zg 188 (.un .not (.t 187)) 168 false,zb 189 168 188]) (.cond (.t 189) (.seq (.region [10] [zo 10 (.move (zB false))]) .ret) .skip))) (.region [4,5,6,11,12,13,14,16,17] [zm 156 17,zo 157 (.bin .add (.t 156) (zI 1)),zm 17 157]))))
def adY:SC:=(.loc (.seq (.seq (.region [4,5,6,11,12,13,14,16,127] [zm 124 16,zf 125 6 1,zl 126 125,zo 127 (.bin .lss (.t 124) (.t 126))]) (.cond (.t 127) .skip (.exit 2))) (.seq (.block 3 (.seq (.seq (.draw [4,5,6,11,12,13,14,16,150] [(3,6),(11,17),(14,17)] [zm 130 13,zm 131 16,zo 132 (.iaddr Y 1 (.t 130) (.t 131)),zl 133 132,ze 134 1 133,zf 135 5 1,zl 136 135,ze 137 1 136,zo 138 (.bin .neq (.t 134) (.t 137)),zm 139 138,zg 140 (.faddr (.t 14) 2) 139 false,zg 141 (.load Y (.t 140)) 139 false,zg 142 (.move (.t 16)) 139 false,zg 143 (.iaddr Y 1 (.t 141) (.t 142)) 139 false,zg 144 (.load Y (.t 143)) 139 false,zg 145 (.len 1 (.t 144)) 139 false,zg 146 (.faddr (.t 5) 1) 139 false,zg 147 (.load Y (.t 146)) 139 false,zg 148 (.len 1 (.t 147)) 139 false,zg 149 (.bin .neq (.t 145) (.t 148)) 139 false,zb 150 139 149]) (.cond (.t 150) (.seq (.region [10] [zo 10 (.move (zB false))]) .ret) .skip)) (.seq (.region [4,5,6,11,12,13,14,16,17] [zi 17 0]) (.block 4 (.loop [4,5,6,11,12,13,14,16,17] adX))))) (.region [4,5,6,11,12,13,14,16] [zm 128 16,zo 129 (.bin .add (.t 128) (zI 1)),zm 16 129]))))
def fc8:FC where
 nt:=191
 np:=5
 res:=[.t 10]
 body:=(.seq (.region [2,4,5,6,8] [zo 5 (.box (.t 0)),zo 6 (.box (.t 1)),zo 8 (.box (.t 3)),zo 10 (.move (zB false))]) (.seq (.region [2,4,5,6,8,11] [zc 18 10 [],zm 11 18]) (.seq (.seq (.region [2,4,5,6,8,11,46] [zL 19 4 5,zL 20 2 6,zm 21 2,zc 22 11 [.t 19,.t 20,.t 21],zo 23 (.un .not (.t 22)),zm 24 23,zg 25 (.move (.t 4)) 24 false,zg 26 (.len 1 (.t 25)) 24 false,zg 27
  (.bin .gtr (.t 26) (zI 200)) 24 false,zb 28 24 27,zm 29 28,zg 30 (.faddr (.t 8) 0) 29 false,zg 31 (.load Y (.t 30)) 29 false,zg 32 (.len 1 (.t 31)) 29 false,zg 33 (.bin .gtr (.t 32) (zI 60)) 29 false,zb 34 29 33,zm 35 34,zg 36 (.load (Z 1) (.t 8)) 35 false,zg 37 (.call (.c (.fn 13 [] [])) [.t 36]) 35 false,zg 38 (.un .not (.t 37)) 35 false,zb 39 35 38,zm 40 39,zg 41
  (.load (Z 4) (.t 5)) 40 false,zg 42 (.load (Z 2) (.t 6)) 40 false,zg 43 (.move (.t 2)) 40 false,zg 44 (.call (.c (.fn 14 [] [])) [.t 41,.t 42,.t 43]) 40 false,zg 45 (.bin .gtr (.t 44) (zI 200)) 40 false,zb 46 40 45]) (.cond (.t 46) (.seq (.region [10] [zm 47 11,zm 10 47]) .ret) .skip)) (.seq (.region [2,4,5,6,8,11,12,13] [zL 49 4 5,zL 50 2 6,zm 51 2,zL 52 1 8,zc 53 16
  [.t 49,.t 50,.t 51,.t 52],zm 48 53,zx 54 48 0,zx 55 48 1,zo 12 (.alloc [.aj]),zs 1 12 54,zm 13 55]) (.seq (.region [4,5,6,8,11,12,13,14] [zL 56 4 5,zL 57 2 6,zm 58 2,zm 59 4,zc 60 24 [.t 56,.t 57,.t 58,.t 59],zo 14 (.alloc [.aj,.int .i64 0,.aj,.int .i64 0]),zs 4 14 60]) (.seq (.seq (.region [4,5,6,8,11,12,13,14,82] [zf 61 12 0,zl 62 61,ze 63 1 62,zf 64 8 0,zl 65 64,
  ze 66 1 65,zo 67 (.bin .lss (.t 63) (.t 66)),zm 68 67,zg 69 (.move (.t 13)) 68 false,zg 70 (.len 1 (.t 69)) 68 false,zg 71 (.faddr (.t 6) 1) 68 false,zg 72 (.load Y (.t 71)) 68 false,zg 73 (.bin .neq (.t 70) (.t 72)) 68 false,zb 74 68 73,zm 75 74,zg 76 (.faddr (.t 14) 2) 75 false,zg 77 (.load Y (.t 76)) 75 false,zg 78 (.len 1 (.t 77)) 75 false,zg 79 (.faddr
  (.t 6) 1) 75 false,zg 80 (.load Y (.t 79)) 75 false,zg 81 (.bin .neq (.t 78) (.t 80)) 75 false,zb 82 75 81]) (.cond (.t 82) (.seq (.region [10] [zo 10 (.move (zB false))]) .ret) .skip)) (.seq (.seq (.region [4,5,6,8,11,12,13,14,15] [zi 15 0]) (.block 0 (.loop [4,5,6,8,11,12,13,14,15] adW))) (.seq (.seq (.region [4,5,6,11,12,13,14,16] [zi 16 0]) (.block 2 (.loop
  [4,5,6,11,12,13,14,16] adY))) (.seq (.region [10] [zm 190 11,zm 10 190]) .ret)))))))))
 aB:=true
def ad0:SC:=(.seq (.seq (.region [2,3,5,10] [zm 6 5,zf 7 2 0,zl 8 7,ze 9 1 8,zo 10 (.bin .lss (.t 6) (.t 9))]) (.cond (.t 10) .skip (.exit 0))) (.seq (.block 1 (.seq (.draw [2,3,5,19] [(1,5),(4,5)] [zf 13 2 0,zl 14 13,zm 15 5,zo 16 (.iaddr Y 3 (.t 14) (.t 15)),zL 17 3 16,zL 18 3 3,zo 19 (.eqs false [1,1,1] (.t 17) (.t 18))]) (.cond (.t 19) (.seq (.region [4] [zm 20 5,zm 4 20]) .ret) .skip))) (.region [2,3,5] [zm 11 5,zo 12 (.bin .add (.t 11) (zI 1)),zm 5 12])))
def ad1:FC where
 nt:=21
 np:=2
 res:=[.t 4]
 body:=(.seq (.region [2,3] [zo 2 (.box (.t 0)),zo 3 (.box (.t 1)),zi 4 0]) (.seq (.seq (.region [2,3,5] [zi 5 0]) (.block 0 (.loop [2,3,5] ad0))) (.seq (.region [4] [zi 4 (-1)]) .ret)))
 aB:=true
def ad3:SC:=(.loc (.seq (.seq (.region [1,3,28] [zm 24 3,zf 25 1 0,zl 26 25,ze 27 1 26,zo 28 (.bin .lss (.t 24) (.t 27))]) (.cond (.t 28) .skip (.exit 0))) (.seq (.block 1 (.seq (.region [1,3,4] [zf 31 1 0,zl 32 31,zm 33 3,zo 34 (.iaddr Y 3 (.t 32) (.t 33)),zL 35 3 34,zm 36 3,zc 37 51 [.t 35,.t 36],zm 4 37]) (.seq (.draw [1,3,4,5] [(0,2),(0,5)] [zL 38 1 1,zf 39 1 0,zl 40 39,zm 41 3,zo 42 (.iaddr Y 3 (.t 40) (.t 41)),zL 43 3 42,zc 44 52 [.t 38,.t 43],zm 5 44]) (.seq (.region [1,3,51] [zm 45 4,zo 46 (.un .not (.t 45)),zm 47 46,zg 48 (.move (.t 5)) 47 false,zg 49 (.move (.t 3)) 47 false,zg 50 (.bin .lss (.t 48) (.t 49)) 47 false,zb 51 47 50]) (.cond (.t 51) (.seq (.region [2] [zo 2 (.move (zB false))]) .ret) .skip))))) (.region [1,3] [zm 29 3,zo 30 (.bin .add (.t 29) (zI 1)),zm 3 30]))))
def ad4:FC where
 nt:=52
 np:=1
 res:=[.t 2]
 body:=(.seq (.region [1] [zo 1 (.box (.t 0)),zo 2 (.move (zB false))]) (.seq (.seq (.region [1,23] [zf 6 1 0,zl 7 6,ze 8 1 7,zo 9 (.bin .eql (.t 8) (zI 0)),zm 10 9,zg 11 (.faddr (.t 1) 0) 10 false,zg 12 (.load Y (.t 11)) 10 false,zg 13 (.len 1 (.t 12)) 10 false,zg 14 (.bin .gtr (.t 13) (zI 20000)) 10 false,zb 15 10 14,zm 16 15,zg 17 (.faddr (.t 1) 0) 16 false,zg 18
  (.load Y (.t 17)) 16 false,zg 19 (.iaddr Y 3 (.t 18) (zI 0)) 16 false,zg 20 (.load (Z 3) (.t 19)) 16 false,zg 21 (.build [.int .i64 0,.int .i64 0,.int .i64 0] []) 16 false,zg 22 (.eqs true [1,1,1] (.t 20) (.t 21)) 16 false,zb 23 16 22]) (.cond (.t 23) (.seq (.region [2] [zo 2 (.move (zB false))]) .ret) .skip)) (.seq (.seq (.region [1,3] [zi 3 1]) (.block 0 (.loop
  [1,3] ad3))) (.seq (.region [2] [zo 2 (.move (zB true))]) .ret))))
 aB:=true
def ad6:SC:=(.seq (.seq (.region [2,3,5,17] [zm 13 5,zf 14 2 0,zl 15 14,ze 16 1 15,zo 17 (.bin .lss (.t 13) (.t 16))]) (.cond (.t 17) .skip (.exit 0))) (.seq (.block 1 (.seq (.draw [2,3,5,30] [(1,6),(4,6),(1,9),(4,9)] [zf 20 2 0,zl 21 20,zm 22 5,zo 23 (.iaddr Y 3 (.t 21) (.t 22)),zL 24 3 23,zf 25 3 0,zl 26 25,zm 27 5,zo 28 (.iaddr Y 3 (.t 26) (.t 27)),zL 29 3 28,zo 30 (.eqs true [1,1,1] (.t 24) (.t 29))]) (.cond (.t 30) (.seq (.region [4] [zo 4 (.move (zB false))]) .ret) .skip))) (.region [2,3,5] [zm 18 5,zo 19 (.bin .add (.t 18) (zI 1)),zm 5 19])))
def ad7:FC where
 nt:=31
 np:=2
 res:=[.t 4]
 body:=(.seq (.region [2,3] [zo 2 (.box (.t 0)),zo 3 (.box (.t 1)),zo 4 (.move (zB false))]) (.seq (.seq (.region [2,3,12] [zf 6 2 0,zl 7 6,ze 8 1 7,zf 9 3 0,zl 10 9,ze 11 1 10,zo 12 (.bin .neq (.t 8) (.t 11))]) (.cond (.t 12) (.seq (.region [4] [zo 4 (.move (zB false))]) .ret) .skip)) (.seq (.seq (.region [2,3,5] [zi 5 0]) (.block 0 (.loop [2,3,5] ad6))) (.seq (.region
  [4] [zo 4 (.move (zB true))]) .ret))))
 aB:=true
def ad8:SC:=(.seq (.seq (.region [0,1,5,6,7,8,9,73] [zm 69 9,zf 70 7 1,zl 71 70,ze 72 1 71,zo 73 (.bin .lss (.t 69) (.t 72))]) (.cond (.t 73) .skip (.exit 4))) (.seq (.block 5 (.seq (.draw [0,1,5,6,7,8,9,86] [(1,6),(4,6),(1,9),(4,9)] [zf 76 7 1,zl 77 76,zm 78 9,zo 79 (.iaddr Y 2 (.t 77) (.t 78)),zL 80 2 79,zf 81 8 1,zl 82 81,zm 83 9,zo 84 (.iaddr Y 2 (.t 82) (.t 83)),zL 85 2 84,zo 86 (.eqs true [1,1] (.t 80) (.t 85))]) (.cond (.t 86) (.seq (.region [4] [zo 4 (.move (zB false))]) .ret) .skip))) (.region [0,1,5,6,7,8,9] [zm 74 9,zo 75 (.bin .add (.t 74) (zI 1)),zm 9 75])))
def ad9:SC:=(.loc (.seq (.seq (.region [0,1,5,6,38] [zm 32 6,zm 33 0,zm 34 5,zo 35 (.iaddr Y 1 (.t 33) (.t 34)),zl 36 35,ze 37 1 36,zo 38 (.bin .lss (.t 32) (.t 37))]) (.cond (.t 38) .skip (.exit 2))) (.seq (.block 3 (.seq (.region [0,1,5,6,7] [zm 41 0,zm 42 5,zo 43 (.iaddr Y 1 (.t 41) (.t 42)),zl 44 43,zm 45 6,zo 46 (.iaddr Y 2 (.t 44) (.t 45)),zL 47 2 46,zo 7 (.alloc [.int .i64 0,.aj]),zs 2 7 47]) (.seq (.region [0,1,5,6,7,8] [zm 48 1,zm 49 5,zo 50 (.iaddr Y 1 (.t 48) (.t 49)),zl 51 50,zm 52 6,zo 53 (.iaddr Y 2 (.t 51) (.t 52)),zL 54 2 53,zo 8 (.alloc [.int .i64 0,.aj]),zs 2 8 54]) (.seq (.seq (.region [0,1,5,6,7,8,68] [zf 55 7 0,zl 56 55,zf 57 8 0,zl 58 57,zo 59 (.bin .neq (.t 56) (.t 58)),zm 60 59,zg 61 (.faddr (.t 7) 1) 60 false,zg 62 (.load Y (.t 61)) 60 false,zg 63 (.len 1 (.t 62)) 60 false,zg 64 (.faddr (.t 8) 1) 60 false,zg 65 (.load Y (.t 64)) 60 false,zg 66 (.len 1 (.t 65)) 60 false,zg 67 (.bin .neq (.t 63) (.t 66)) 60 false,zb 68 60 67]) (.cond (.t 68) (.seq (.region [4] [zo 4 (.move (zB false))]) .ret) .skip)) (.seq (.region [0,1,5,6,7,8,9] [zi 9 0]) (.block 4 (.loop [0,1,5,6,7,8,9] ad8))))))) (.region [0,1,5,6] [zm 39 6,zo 40 (.bin .add (.t 39) (zI 1)),zm 6 40]))))
def aea:SC:=(.loc (.seq (.seq (.region [0,1,5,18] [zm 15 5,zm 16 0,ze 17 1 16,zo 18 (.bin .lss (.t 15) (.t 17))]) (.cond (.t 18) .skip (.exit 0))) (.seq (.block 1 (.seq (.seq (.draw [0,1,5,31] [(3,8)] [zm 21 0,zm 22 5,zo 23 (.iaddr Y 1 (.t 21) (.t 22)),zl 24 23,ze 25 1 24,zm 26 1,zm 27 5,zo 28 (.iaddr Y 1 (.t 26) (.t 27)),zl 29 28,ze 30 1 29,zo 31 (.bin .neq (.t 25) (.t 30))]) (.cond (.t 31) (.seq (.region [4] [zo 4 (.move (zB false))]) .ret) .skip)) (.seq (.region [0,1,5,6] [zi 6 0]) (.block 2 (.loop [0,1,5,6] ad9))))) (.region [0,1,5] [zm 19 5,zo 20 (.bin .add (.t 19) (zI 1)),zm 5 20]))))
def aeb:FC where
 nt:=87
 np:=2
 res:=[.t 4]
 body:=(.seq (.region [0,1] [zo 4 (.move (zB false))]) (.seq (.seq (.region [0,1,14] [zm 10 0,ze 11 1 10,zm 12 1,ze 13 1 12,zo 14 (.bin .neq (.t 11) (.t 13))]) (.cond (.t 14) (.seq (.region [4] [zo 4 (.move (zB false))]) .ret) .skip)) (.seq (.seq (.region [0,1,5] [zi 5 0]) (.block 0 (.loop [0,1,5] aea))) (.seq (.region [4] [zo 4 (.move (zB true))]) .ret))))
 aB:=true
def SH:{x:Option FC//Kz=x}:=by apply Subtype.mk;case property=>conv=>lhs;reduce
def SI:{x:Option FC//a105=x}:=by apply Subtype.mk;case property=>conv=>lhs;reduce
def SJ:{x:Option FC//Kv=x}:=by apply Subtype.mk;case property=>conv=>lhs;reduce
def SL:{x:Option FC//a51=x}:=by apply Subtype.mk;case property=>conv=>lhs;reduce
def SM:{x:Option FC//a54=x}:=by apply Subtype.mk;case property=>conv=>lhs;reduce
def SN:{x:Option FC//Kr=x}:=by apply Subtype.mk;case property=>conv=>lhs;reduce
def SP:{x:Option FC//a58=x}:=by apply Subtype.mk;case property=>conv=>lhs;reduce
def SQ:{x:Option FC//Ks=x}:=by apply Subtype.mk;case property=>conv=>lhs;reduce
def SR:{x:Option FC//a60=x}:=by apply Subtype.mk;case property=>conv=>lhs;reduce
def SS:{x:Option FC//Ku=x}:=by apply Subtype.mk;case property=>conv=>lhs;reduce
def pj:Option FC:=Z adV
def K7:Option FC:=SH.1
def BO:Option FC:=SI.1
def K8:Option FC:=SJ.1
def vQ:Option FC:=Z fc8
def rK:Option FC:=Z ad1
def K9:Option FC:=SL.1
def k6:Option FC:=Z ad4
def La:Option FC:=SM.1
def rL:Option FC:=SN.1
def tB:Option FC:=SP.1
def BP:Option FC:=SQ.1
def Lb:Option FC:=SR.1
def c7:Option FC:=SS.1
def tC:Option FC:=Z ad7
def ei:Option FC:=Z aeb
theorem e20:pg.F 20=tC:=by kernel_rfl
theorem e21:pg.F 21=ei:=by kernel_rfl
theorem aee:pg.F 160=pj:=by kernel_rfl
theorem aef:pg.F 161=K7:=(show pg.F 161=Kz by kernel_rfl).trans SH.2
theorem SU:pg.F 105=BO:=(show pg.F 105=a105 by kernel_rfl).trans SI.2
theorem e57:pg.F 57=K8:=(show pg.F 57=Kv by kernel_rfl).trans SJ.2
theorem e8:pg.F 8=vQ:=by kernel_rfl
theorem e52:pg.F 52=rK:=by kernel_rfl
theorem e51:pg.F 51=K9:=(show pg.F 51=a51 by kernel_rfl).trans SL.2
theorem FU:pg.F 13=k6:=by kernel_rfl
theorem e54:pg.F 54=La:=(show pg.F 54=a54 by kernel_rfl).trans SM.2
theorem e14:pg.F 14=rL:=(show pg.F 14=Kr by kernel_rfl).trans SN.2
theorem e58:pg.F 58=tB:=(show pg.F 58=a58 by kernel_rfl).trans SP.2
theorem SV:pg.F 106=BP:=(show pg.F 106=Ks by kernel_rfl).trans SQ.2
theorem e60:pg.F 60=Lb:=(show pg.F 60=a60 by kernel_rfl).trans SR.2
theorem e16:pg.F 16=c7:=(show pg.F 16=Ku by kernel_rfl).trans SS.2
end
end Go.Proofs.Ys
