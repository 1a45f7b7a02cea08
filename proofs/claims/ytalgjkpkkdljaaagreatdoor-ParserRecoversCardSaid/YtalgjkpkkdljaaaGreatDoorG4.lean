/-
  A value-level evaluator for Go functions; the functions of this cut by it; plain laws. Part 4 of 7.
-/
import Derived.Test.YtalgjkpkkdljaaaGreatDoorProg
import Derived.Test.YtalgjkpkkdljaaaGreatDoorG3
import Derived.KernelRfl
import Derived.Lib.ItoaNum
import Derived.Lib.Atoi
import Derived.Lib.IndexMore
import Derived.Lib.Bytealg
import Derived.Shelf.Strings.Shaped
import Derived.Shelf.Strings.Repeat
import Derived.Shelf.Strconv.Itoa3
import Derived.Shelf.Strconv.Atoi
import Derived.Shelf.Strconv.AtoiErr
import Derived.Shelf.Vars
import Derived.Lib.Builder
import Derived.WalkKit
import Derived.Laws.Externs
import Derived.Test.YtalgjkpkkdljaaaGreatDoorChecked
import Derived.Lib.AppendIntMem
import Derived.Lib.UnsafeStr
import Derived.Test.YtalgjkpkkdljaaaGreatDoorRows
import Derived.Lib.LaidTab
import Derived.ProofKit
import Derived.LaidMore
import Derived.Lay
import Derived.OpenShut
import Derived.Stop.Joined
namespace Go.Proofs.YtalgjkpkkdljaaaGreatDoor
open Go.Vs
def fc8:FC where
 nt:=142
 np:=3
 res:=[.t 6]
 body:=(.seq (.region [0,1,2] [zo 6 (.move (zB false))]) (.seq (.region [0,1,2,7] [zc 19 13 [],zm 7 19]) (.seq (.region [0,1,2,7,8,9] [zm 21 0,zc 22 26 [.t 21],zm 20 22,zx 23 20 0,zx 24 20 1,zx 25 20 2,zm 8 23,zm 9 24,zm 10 25]) (.seq (.region [0,1,2,7,8,9,11,12] [zm 27 0,zc 28 14 [.t 27],zm 26 28,zx 29 26 0,zx 30 26 1,zo 11 (.alloc [.nils,.nils,.nils,.nils]),zs 4 11 29,
  zm 12 30]) (.seq (.seq (.region [0,1,2,7,8,66] [zm 31 0,ze 32 0 31,zo 33 (.bin .gtr (.t 32) (zI 4000)),zm 34 33,zg 35 (.move (.t 9)) 34 false,zg 36 (.bin .neq (.t 35) (zI 0)) 34 false,zb 37 34 36,zm 38 37,zg 39 (.move (.t 12)) 38 false,zg 40 (.len 1 (.t 39)) 38 false,zg 41 (.bin .gtr (.t 40) (zI 0)) 38 false,zb 42 38 41,zm 43 42,zg 44 (.faddr (.t 11) 0) 43 false,zg 45
  (.load none (.t 44)) 43 false,zg 46 (.len 1 (.t 45)) 43 false,zg 47 (.bin .geq (.t 46) (zI 4)) 43 false,zb 48 43 47,zm 49 48,zg 50 (.faddr (.t 11) 1) 49 false,zg 51 (.load none (.t 50)) 49 false,zg 52 (.len 1 (.t 51)) 49 false,zg 53 (.bin .geq (.t 52) (zI 6)) 49 false,zb 54 49 53,zm 55 54,zg 56 (.faddr (.t 11) 2) 55 false,zg 57 (.load none (.t 56)) 55 false,zg 58 (.len 1
  (.t 57)) 55 false,zg 59 (.bin .geq (.t 58) (zI 8)) 55 false,zb 60 55 59,zm 61 60,zg 62 (.faddr (.t 11) 3) 61 false,zg 63 (.load none (.t 62)) 61 false,zg 64 (.len 1 (.t 63)) 61 false,zg 65 (.bin .geq (.t 64) (zI 16)) 61 false,zb 66 61 65]) (.cond (.t 66) (.seq (.region [6] [zm 67 7,zm 6 67]) .ret) .skip)) (.seq (.region [0,1,2,7,8,13] [zo 68 (.bslice 9 1 8 (.str []) [(0,(zS
  [115,111,114,116,32,59])),(1,(zS [115,111,114,116,32,97,32,98,59])),(2,(zS [102,105,101,108,100,32,102,32,58,32,59])),(3,(zS [102,97,99,116,32,120,32,123,32,110,111,32,125])),(4,(zS [112,114,101,100,32,112,91,120,93,32,123,32,125])),(5,(zS [43,32,59])),(6,(zS [102,97,99,116,32,123,32,116,114,117,101,32,125])),(7,(zS
  [102,97,99,116,32,121,32,123,32,116,114,117,101,32,116,114,117,101,32,125]))]),zm 13 68]) (.seq (.region [0,1,7,8,14] [zm 69 13,zm 70 2,zo 71 (.conv .i64 (.t 70)),zm 72 13,ze 73 1 72,zo 74 (.bin .rem (.t 71) (.t 73)),zo 75 (.iaddr none 1 (.t 69) (.t 74)),zl 76 75,zm 14 76]) (.seq (.region [0,1,7,14,15] [zm 77 8,zc 78 31 [.t 77],zm 15 78]) (.seq (.region [0,7,14,16] [zm 79 15,
  zm 80 1,zo 81 (.conv .i64 (.t 80)),zm 82 15,ze 83 1 82,zo 84 (.bin .rem (.t 81) (.t 83)),zo 85 (.iaddr none 1 (.t 79) (.t 84)),zl 86 85,zm 16 86]) (.seq (.seq (.region [0,7,14,16,94] [zm 87 16,zo 88 (.bin .lss (.t 87) (zI 0)),zm 89 88,zg 90 (.move (.t 16)) 89 false,zg 91 (.move (.t 0)) 89 false,zg 92 (.len 0 (.t 91)) 89 false,zg 93 (.bin .gtr (.t 90) (.t 92)) 89 false,
  zb 94 89 93]) (.cond (.t 94) (.seq (.region [6] [zo 6 (.move (zB false))]) .ret) .skip)) (.seq (.draw [7,14,16,18] [(11,15)] [zm 96 0,zm 97 16,zo 98 (.slice 0 (.t 96) none (some (.t 97))),zo 99 (.bin .add (.t 98) (zS [10])),zm 100 14,zo 101 (.bin .add (.t 99) (.t 100)),zo 102 (.bin .add (.t 101) (zS [10])),zm 103 0,zm 104 16,zo 105 (.slice 0 (.t 103) (some (.t 104)) none),
  zo 106 (.bin .add (.t 102) (.t 105)),zc 107 14 [.t 106],zm 95 107,zx 108 95 0,zx 109 95 1,zo 17 (.alloc [.nils,.nils,.nils,.nils]),zs 4 17 108,zm 18 109]) (.seq (.region [6] [zm 110 7,zm 111 110,zg 112 (.move (.t 18)) 111 true,zg 113 (.len 1 (.t 112)) 111 true,zg 114 (.bin .eql (.t 113) (zI 1)) 111 true,za 115 111 114,zm 116 115,zg 117 (.move (.t 18)) 116 true,zg 118
  (.iaddr none 2 (.t 117) (zI 0)) 116 true,zg 119 (.faddr (.t 118) 0) 116 true,zg 120 (.load none (.t 119)) 116 true,zg 121 (.bin .eql (.t 120) (zI 20)) 116 true,za 122 116 121,zm 123 122,zg 124 (.move (.t 18)) 123 true,zg 125 (.iaddr none 2 (.t 124) (zI 0)) 123 true,zg 126 (.faddr (.t 125) 1) 123 true,zg 127 (.load none (.t 126)) 123 true,zg 128 (.move (.t 16)) 123 true,zg 129
  (.bin .gtr (.t 127) (.t 128)) 123 true,za 130 123 129,zm 131 130,zg 132 (.move (.t 18)) 131 true,zg 133 (.iaddr none 2 (.t 132) (zI 0)) 131 true,zg 134 (.faddr (.t 133) 1) 131 true,zg 135 (.load none (.t 134)) 131 true,zg 136 (.move (.t 16)) 131 true,zg 137 (.move (.t 14)) 131 true,zg 138 (.len 0 (.t 137)) 131 true,zg 139 (.bin .add (.t 136) (.t 138)) 131 true,zg 140
  (.bin .leq (.t 135) (.t 139)) 131 true,za 141 131 140,zm 6 141]) .ret))))))))))))
theorem ok8:FOk Tryz.prog 8 fc8:=FOk.of Tryz.func8 (by kernel_rfl)
def fc13:FC where
 nt:=162
 np:=0
 res:=[.t 0]
 body:=(.seq (.region [] [zo 0 (.move (zB false))]) (.seq (.region [1,2,3] [zc 15 22 [zS [97]],zc 16 22 [zS [98]],zc 17 22 [zS [99]],zo 1 (.alloc [.int .i64 0,.str [],.int .i64 0,.nils,.int .i64 0]),zo 2 (.alloc [.int .i64 0,.str [],.int .i64 0,.nils,.int .i64 0]),zo 3 (.alloc [.int .i64 0,.str [],.int .i64 0,.nils,.int .i64 0]),zs 5 1 15,zs 5 2 16,zs 5 3 17]) (.seq (.region
  [1,2,3,4] [zo 18 (.build [.int .i64 0,.str [],.int .i64 0,.nils,.int .i64 0] [(0,1,(zI 20)),(2,1,(zI 1))]),zo 4 (.alloc [.int .i64 0,.str [],.int .i64 0,.nils,.int .i64 0]),zs 5 4 18]) (.seq (.draw [1,2,4,5] [(0,1),(0,2),(1,2),(0,3)] [zL 19 5 1,zL 20 5 2,zL 21 5 3,zc 22 25 [zI 9,.t 20,.t 21],zc 23 25 [zI 7,.t 19,.t 22],zc 24 21 [zI 35,.t 23],zc 25 20 [zS
  [110,111,32,97,32,38,32,98,46,99],.t 24],zm 5 25]) (.seq (.draw [1,2,4,5,6] [(0,1),(0,4),(1,4),(2,4),(3,4)] [zL 26 5 1,zL 27 5 2,zc 28 25 [zI 9,.t 26,.t 27],zc 29 21 [zI 21,.t 28],zL 30 5 4,zc 31 25 [zI 22,.t 29,.t 30],zo 32 (.build [.int .i64 0,.str [],.int .i64 0,.nils,.int .i64 0] [(0,1,(zI 20)),(2,1,(zI 3))]),zc 33 25 [zI 39,.t 31,.t 32],zc 34 20 [zS
  [35,97,46,98,32,43,32,49,32,60,32,51],.t 33],zm 6 34]) (.seq (.draw [1,4,5,6,7] [(0,1),(0,2),(1,2),(0,3),(0,4),(0,5),(1,5),(2,5),(3,5),(4,5),(0,6),(0,7),(0,8)] [zL 35 5 1,zc 36 22 [zS [120]],zL 37 5 2,zc 38 25 [zI 32,.t 36,.t 37],zc 39 22 [zS [120]],zL 40 5 2,zc 41 25 [zI 9,.t 39,.t 40],zc 42 21 [zI 35,.t 41],zc 43 25 [zI 43,.t 38,.t 42],zo 44 (.bslice 39 5 2 (.agg
  [.int .i64 0,.str [],.int .i64 0,.nils,.int .i64 0]) [(0,(.t 35)),(1,(.t 43))]),zo 45 (.build [.int .i64 0,.str [],.int .i64 0,.nils,.int .i64 0] [(0,1,(zI 45)),(1,1,(zS [120])),(3,1,(.t 44))]),zc 46 20 [zS [97,108,108,32,120,58,32,97,32,124,32,120,32,105,110,32,98,32,61,62,32,110,111,32,120,46,98],.t 45],zm 7 46]) (.seq (.region [1,4,5,6,7,8] [zc 47 39 [zS
  [97,32,61,32,35,98],zI 43,zI 2],zm 48 47,zg 49 (.call (.c (.fn 39 [] [])) [zS [97,32,61,32,98,32,61,32,99],zI 20,zI 6]) 48 true,za 50 48 49,zm 51 50,zg 52 (.call (.c (.fn 39 [] [])) [zS [110,111],zI 21,zI 2]) 51 true,za 53 51 52,zm 54 53,zg 55 (.call (.c (.fn 39 [] [])) [zS [97],zI 43,zI 0]) 54 true,za 56 54 55,zm 57 56,zg 58 (.call (.c (.fn 39 [] [])) [zS [49,32,60,32,54,53],
  zI 2,zI 4]) 57 true,za 59 57 58,zm 8 59]) (.seq (.region [1,4,5,6,7,8,9,10] [zc 61 14 [zS
  [115,111,114,116,32,65,32,111,114,100,101,114,101,100,59,32,118,97,114,32,102,105,101,108,100,32,102,58,32,65,32,45,62,32,65,59,32,112,114,101,100,32,112,91,120,58,32,65,93,32,123,32,115,111,109,101,32,120,46,102,32,125,32,102,97,99,116,32,113,32,123,32,112,91,65,93,32,124,124,32,116,114,117,101,32,125]],zm 60 61,zx 62 60 0,zx 63 60 1,zo 9 (.alloc [.nils,.nils,.nils,.nils]),
  zs 4 9 62,zm 10 63]) (.seq (.region [1,4,5,6,7,8,9,10,12] [zc 65 14 [zS [115,111,114,116,32,65,59,32,102,105,101,108,100,32,102,58,32,66,59,32,115,111,114,116,32,59]],zm 64 65,zx 66 64 0,zx 67 64 1,zo 11 (.alloc [.nils,.nils,.nils,.nils]),zs 4 11 66,zm 12 67]) (.seq (.seq (.region [1,4,5,6,7,8,9,12,103] [zm 68 10,ze 69 1 68,zo 70 (.bin .gtr (.t 69) (zI 0)),zm 71 70,zg 72
  (.faddr (.t 9) 0) 71 false,zg 73 (.load none (.t 72)) 71 false,zg 74 (.len 1 (.t 73)) 71 false,zg 75 (.bin .neq (.t 74) (zI 1)) 71 false,zb 76 71 75,zm 77 76,zg 78 (.faddr (.t 9) 1) 77 false,zg 79 (.load none (.t 78)) 77 false,zg 80 (.len 1 (.t 79)) 77 false,zg 81 (.bin .neq (.t 80) (zI 1)) 77 false,zb 82 77 81,zm 83 82,zg 84 (.faddr (.t 9) 2) 83 false,zg 85 (.load none
  (.t 84)) 83 false,zg 86 (.len 1 (.t 85)) 83 false,zg 87 (.bin .neq (.t 86) (zI 1)) 83 false,zb 88 83 87,zm 89 88,zg 90 (.faddr (.t 9) 3) 89 false,zg 91 (.load none (.t 90)) 89 false,zg 92 (.len 1 (.t 91)) 89 false,zg 93 (.bin .neq (.t 92) (zI 1)) 89 false,zb 94 89 93,zm 95 94,zg 96 (.faddr (.t 9) 1) 95 false,zg 97 (.load none (.t 96)) 95 false,zg 98 (.iaddr none 3 (.t 97)
  (zI 0)) 95 false,zg 99 (.faddr (.t 98) 1) 95 false,zg 100 (.load none (.t 99)) 95 false,zg 101 (.len 1 (.t 100)) 95 false,zg 102 (.bin .neq (.t 101) (zI 2)) 95 false,zb 103 95 102]) (.cond (.t 103) (.seq (.region [0] [zo 0 (.move (zB false))]) .ret) .skip)) (.seq (.region [1,4,5,6,7,8,12,13] [zf 104 9 0,zl 105 104,zo 106 (.iaddr none 2 (.t 105) (zI 0)),zL 107 2 106,zo 108
  (.build [.str [],.bool false] [(0,1,(zS [65])),(1,1,(zB true))]),zo 109 (.eqs false [2,0] (.t 107) (.t 108)),zm 110 109,zg 111 (.faddr (.t 9) 1) 110 true,zg 112 (.load none (.t 111)) 110 true,zg 113 (.iaddr none 3 (.t 112) (zI 0)) 110 true,zg 114 (.faddr (.t 113) 2) 110 true,zg 115 (.load none (.t 114)) 110 true,za 116 110 115,zm 117 116,zg 118 (.faddr (.t 9) 3) 117 true,
  zg 119 (.load none (.t 118)) 117 true,zg 120 (.iaddr none 6 (.t 119) (zI 0)) 117 true,zg 121 (.faddr (.t 120) 1) 117 true,zg 122 (.faddr (.t 121) 0) 117 true,zg 123 (.load none (.t 122)) 117 true,zg 124 (.bin .eql (.t 123) (zI 42)) 117 true,za 125 117 124,zm 13 125]) (.seq (.region [1,4,5,6,7,8,13,14] [zm 126 12,zo 127 (.build [.int .i64 0,.int .i64 0]
  [(0,1,(zI 40)),(1,1,(zI 17))]),zo 128 (.build [.int .i64 0,.int .i64 0] [(0,1,(zI 20)),(1,1,(zI 25))]),zo 129 (.bslice 34 2 2 (.agg [.int .i64 0,.int .i64 0]) [(0,(.t 127)),(1,(.t 128))]),zc 130 40 [.t 126,.t 129],zm 14 130]) (.seq (.region [0] [zm 131 5,zm 132 131,zg 133 (.move (.t 6)) 132 true,za 134 132 133,zm 135 134,zg 136 (.move (.t 7)) 135 true,za 137 135 136,
  zm 138 137,zg 139 (.move (.t 8)) 138 true,za 140 138 139,zm 141 140,zg 142 (.move (.t 13)) 141 true,za 143 141 142,zm 144 143,zg 145 (.move (.t 14)) 144 true,za 146 144 145,zm 147 146,zg 148 (.load (some 5) (.t 1)) 147 true,zg 149 (.call (.c (.fn 15 [] [])) [.t 148]) 147 true,za 150 147 149,zm 151 150,zg 152 (.load (some 5) (.t 4)) 151 true,zg 153 (.call (.c (.fn 21 [] []))
  [zI 35,.t 152]) 151 true,zg 154 (.call (.c (.fn 15 [] [])) [.t 153]) 151 true,zg 155 (.un .not (.t 154)) 151 true,za 156 151 155,zm 157 156,zg 158 (.call (.c (.fn 22 [] [])) [zS [110,111]]) 157 true,zg 159 (.call (.c (.fn 15 [] [])) [.t 158]) 157 true,zg 160 (.un .not (.t 159)) 157 true,za 161 157 160,zm 0 161]) .ret)))))))))))))
theorem ok13:FOk Tryz.prog 13 fc13:=FOk.of Tryz.func13 (by kernel_rfl)
def fc14_b0:SC:=
 (.loc (.seq (.seq (.draw [2,4,6,36] [(3,7)] [zm 19 4,zn 20 19,zf 21 20 1,zl 22 21,zm 23 4,zn 24 23,zf 25 24 0,zl 26 25,ze 27 1 26,zo 28 (.bin .lss (.t 22) (.t 27)),zm 29 28,zg 30 (.move (.t 4)) 29 true,zg 31 (.nilCheck (.t 30)) 29 true,zg 32 (.faddr (.t 31) 7) 29 true,zg 33 (.load none (.t 32)) 29 true,zg 34 (.len 1 (.t 33)) 29 true,zg 35 (.bin .lss (.t 34) (zI 20)) 29 true,
 za 36 29 35]) (.cond (.t 36) .skip (.exit 0))) (.block 1 (.seq (.region [2,4,6,40] [zm 37 4,zm 38 6,zc 39 43 [.t 37,.t 38],zo 40 (.un .not (.t 39))]) (.cond (.t 40) (.seq (.seq (.draw [2,4,6,54] [(3,7)] [zm 41 4,zn 42 41,zf 43 42 7,zl 44 43,zm 45 4,zn 46 45,zf 47 46 7,zl 48 47,ze 49 1 48,zo 50 (.bin .sub (.t 49) (zI 1)),zo 51 (.iaddr none 2 (.t 44) (.t 50)),zf 52 51 0,
 zl 53 52,zo 54 (.bin .eql (.t 53) (zI 21))]) (.cond (.t 54) (.exit 0) .skip)) (.region [2,4,6] [zm 55 4,zc 56 44 [.t 55]])) .skip)))))
def fc14:FC where
 nt:=72
 np:=1
 res:=[.cell 2 (some 4),.t 3]
 body:=(.seq (.region [0,2] [zo 2 (.alloc [.nils,.nils,.nils,.nils]),zo 3 (.move (.c (.p (.nils))))]) (.seq (.region [2,4,5] [zm 8 0,zc 9 41 [.t 8],zm 7 9,zx 10 7 0,zx 11 7 1,zm 4 10,zm 5 11]) (.seq (.tokb 4 7 34 2) (.seq (.tokb 4 8 81 2) (.seq (.tokb 4 9 70 3) (.seq (.tokb 4 10 41 7) (.seq (.tokb 4 11 44 6) (.seq (.seq (.region [2,4,5,14] [zm 12 5,ze 13 1 12,zo 14
  (.bin .gtr (.t 13) (zI 0))]) (.cond (.t 14) (.seq (.region [2,3] [zo 15 (.build [.nils,.nils,.nils,.nils] []),zm 16 5,zs 4 2 15,zm 3 16]) .ret) .skip)) (.seq (.region [2,4,6] [zm 17 4,zo 18 (.mkfn 42 [.t 17] []),zm 6 18]) (.seq (.block 0 (.loop [2,4,6] fc14_b0)) (.seq (.seq (.region [2,4,62] [zm 57 4,zn 58 57,zf 59 58 7,zl 60 59,ze 61 1 60,zo 62 (.bin .gtr (.t 61) (zI 0))])
  (.cond (.t 62) (.seq (.draw [2,3] [(4,5)] [zo 63 (.build [.nils,.nils,.nils,.nils] []),zm 64 4,zn 65 64,zf 66 65 7,zl 67 66,zs 4 2 63,zm 3 67]) .ret) .skip)) (.seq (.region [2,3] [zm 68 4,zn 69 68,zf 70 69 8,zL 71 4 70,zs 4 2 71,zo 3 (.move (.c (.p (.nils))))]) .ret))))))))))))
 frz:=true
theorem ok14:FOk Tryz.prog 14 fc14:=FOk.of Tryz.func14 (by kernel_rfl)
def fc15:FC where
 nt:=12
 np:=1
 res:=[.t 2]
 body:=(.seq (.region [1] [zo 1 (.box (.t 0)),zo 2 (.move (zB false))]) (.seq (.draw [4] [(0,1)] [zc 6 46 [],zL 7 5 1,zc 8 45 [.t 6,.t 7,zI 1,zI 400],zm 5 8,zx 9 5 0,zx 10 5 1,zm 3 9,zm 4 10]) (.seq (.region [2] [zm 11 4,zm 2 11]) .ret)))
theorem ok15:FOk Tryz.prog 15 fc15:=FOk.of Tryz.func15 (by kernel_rfl)
def fc17:FC where
 nt:=27
 np:=1
 res:=[.cell 2 (some 5),.t 3]
 body:=(.seq (.region [0,2] [zo 2 (.alloc [.int .i64 0,.str [],.int .i64 0,.nils,.int .i64 0]),zo 3 (.move (.c (.p (.nils))))]) (.seq (.region [2,4,5,10] [zm 8 0,zc 9 41 [.t 8],zm 7 9,zx 10 7 0,zx 11 7 1,zo 4 (.alloc [.nilp]),zs 1 4 10,zm 5 11]) (.seq (.tokb 10 7 34 2) (.seq (.seq (.region [2,4,5,14] [zm 12 5,ze 13 1 12,zo 14 (.bin .gtr (.t 13) (zI 0))]) (.cond (.t 14) (.seq
  (.region [2,3] [zo 15 (.build [.int .i64 0,.str [],.int .i64 0,.nils,.int .i64 0] []),zm 16 5,zs 5 2 15,zm 3 16]) .ret) .skip)) (.seq (.region [2,4,6] [zo 6 (.alloc [.int .i64 0,.str [],.int .i64 0,.nils,.int .i64 0])]) (.seq (.seq (.region [2,4,6,20] [zl 17 4,zo 18 (.mkfn 47 [] [.t 4,.t 6]),zc 19 43 [.t 17,.t 18],zo 20 (.un .not (.t 19))]) (.cond (.t 20) (.seq (.draw [2,3]
  [(1,5),(4,5)] [zo 21 (.build [.int .i64 0,.str [],.int .i64 0,.nils,.int .i64 0] []),zl 22 4,zn 23 22,zf 24 23 7,zl 25 24,zs 5 2 21,zm 3 25]) .ret) .skip)) (.seq (.region [2,3] [zL 26 5 6,zs 5 2 26,zo 3 (.move (.c (.p (.nils))))]) .ret)))))))
 frz:=true
theorem ok17:FOk Tryz.prog 17 fc17:=FOk.of Tryz.func17 (by kernel_rfl)
def fc20:FC where
 nt:=20
 np:=2
 res:=[.t 4]
 body:=(.seq (.region [0,3] [zo 3 (.box (.t 1)),zo 4 (.move (zB false))]) (.seq (.region [3,5,6] [zm 8 0,zc 9 17 [.t 8],zm 7 9,zx 10 7 0,zx 11 7 1,zo 5 (.alloc [.int .i64 0,.str [],.int .i64 0,.nils,.int .i64 0]),zs 5 5 10,zm 6 11]) (.seq (.region [4] [zm 12 6,ze 13 1 12,zo 14 (.bin .eql (.t 13) (zI 0)),zm 15 14,zg 16 (.load (some 5) (.t 5)) 15 true,zg 17 (.load (some 5)
  (.t 3)) 15 true,zg 18 (.call (.c (.fn 29 [] [])) [.t 16,.t 17,zB false]) 15 true,za 19 15 18,zm 4 19]) .ret)))
theorem ok20:FOk Tryz.prog 20 fc20:=FOk.of Tryz.func20 (by kernel_rfl)
def fc21:FC where
 nt:=9
 np:=2
 res:=[.cell 4 (some 5)]
 body:=(.seq (.region [0,3,4] [zo 3 (.box (.t 1)),zo 4 (.alloc [.int .i64 0,.str [],.int .i64 0,.nils,.int .i64 0])]) (.seq (.region [4] [zm 5 0,zL 6 5 3,zo 7 (.bslice 39 5 1 (.agg [.int .i64 0,.str [],.int .i64 0,.nils,.int .i64 0]) [(0,(.t 6))]),zo 8 (.build [.int .i64 0,.str [],.int .i64 0,.nils,.int .i64 0] [(0,1,(.t 5)),(3,1,(.t 7))]),zs 5 4 8]) .ret))
 frz:=true
theorem ok21:FOk Tryz.prog 21 fc21:=FOk.of Tryz.func21 (by kernel_rfl)
def fc22:FC where
 nt:=5
 np:=1
 res:=[.cell 2 (some 5)]
 body:=(.seq (.region [0,2] [zo 2 (.alloc [.int .i64 0,.str [],.int .i64 0,.nils,.int .i64 0])]) (.seq (.region [2] [zm 3 0,zo 4 (.build [.int .i64 0,.str [],.int .i64 0,.nils,.int .i64 0] [(0,1,(zI 1)),(1,1,(.t 3))]),zs 5 2 4]) .ret))
 frz:=true
theorem ok22:FOk Tryz.prog 22 fc22:=FOk.of Tryz.func22 (by kernel_rfl)
def fc25:FC where
 nt:=12
 np:=3
 res:=[.cell 6 (some 5)]
 body:=(.seq (.region [0,4,5,6] [zo 4 (.box (.t 1)),zo 5 (.box (.t 2)),zo 6 (.alloc [.int .i64 0,.str [],.int .i64 0,.nils,.int .i64 0])]) (.seq (.region [6] [zm 7 0,zL 8 5 4,zL 9 5 5,zo 10 (.bslice 39 5 2 (.agg [.int .i64 0,.str [],.int .i64 0,.nils,.int .i64 0]) [(0,(.t 8)),(1,(.t 9))]),zo 11 (.build [.int .i64 0,.str [],.int .i64 0,.nils,.int .i64 0]
  [(0,1,(.t 7)),(3,1,(.t 10))]),zs 5 6 11]) .ret))
 frz:=true
theorem ok25:FOk Tryz.prog 25 fc25:=FOk.of Tryz.func25 (by kernel_rfl)
def fc26_b0:SC:=
 (.loc (.seq (.seq (.region [0,5,6,23] [zm 17 5,zn 18 17,zf 19 18 1,zl 20 19,zm 21 0,ze 22 0 21,zo 23 (.bin .lss (.t 20) (.t 22))]) (.cond (.t 23) .skip (.exit 0))) (.seq (.block 1 (.seq (.region [0,5,6,7,8] [zm 27 5,zc 28 56 [.t 27],zm 26 28,zx 29 26 0,zx 30 26 1,zo 7 (.alloc [.int .i64 0,.str [],.int .i64 0]),zs 3 7 29,zm 8 30]) (.seq (.seq (.region [0,5,6,7,32] [zm 31 8,
 zo 32 (.un .not (.t 31))]) (.cond (.t 32) (.seq (.draw [2,3,4] [] [zf 33 7 2,zl 34 33,zo 2 (.move (.c (.p (.nils)))),zi 3 10,zm 4 34]) .ret) .skip)) (.region [0,5,6] [zm 35 6,zL 36 3 7,zo 37 (.bslice 64 3 1 (.agg [.int .i64 0,.str [],.int .i64 0]) [(0,(.t 36))]),zo 38 (.append 64 3 32 (.t 35) (.t 37)),zm 6 38])))) (.region [0,5,6] [zm 24 5,zc 25 55 [.t 24]]))))
def fc26:FC where
 nt:=40
 np:=1
 res:=[.t 2,.t 3,.t 4]
 body:=(.seq (.region [0] [zo 2 (.move (.c (.p (.nils)))),zi 3 0,zi 4 0]) (.seq (.seq (.region [0,11] [zm 9 0,ze 10 0 9,zo 11 (.bin .gtr (.t 10) (zI 20000))]) (.cond (.t 11) (.seq (.region [2,3,4] [zo 2 (.move (.c (.p (.nils)))),zi 3 2,zi 4 0]) .ret) .skip)) (.seq (.region [0,5] [zm 12 0,zo 13 (.build [.str [],.int .i64 0] [(0,1,(.t 12))]),zo 14 (.box (.t 13)),zm 5 14])
  (.seq (.region [0,5,6] [zo 6 (.move (.c (.p (.nils))))]) (.seq (.seq (.region [0,5,6] [zm 15 5,zc 16 55 [.t 15]]) (.block 0 (.seq (.tok 6 64 3) (.loop [0,5,6] fc26_b0)))) (.seq (.region [2,3,4] [zm 39 6,zm 2 39,zi 3 0,zi 4 0]) .ret))))))
theorem ok26:FOk Tryz.prog 26 fc26:=FOk.of Tryz.func26 (by kernel_rfl)
def fc29_b0:SC:=
 (.loc (.seq (.seq (.region [2,3,4,7,50] [zm 46 7,zf 47 3 3,zl 48 47,ze 49 1 48,zo 50 (.bin .lss (.t 46) (.t 49))]) (.cond (.t 50) .skip (.exit 0))) (.seq (.block 1 (.seq (.draw [2,3,4,7,65] [(1,6),(4,6),(1,9),(4,9)] [zf 53 3 3,zl 54 53,zm 55 7,zo 56 (.iaddr none 5 (.t 54) (.t 55)),zL 57 5 56,zf 58 4 3,zl 59 58,zm 60 7,zo 61 (.iaddr none 5 (.t 59) (.t 60)),zL 62 5 61,zm 63 2,
 zc 64 29 [.t 57,.t 62,.t 63],zo 65 (.un .not (.t 64))]) (.cond (.t 65) (.seq (.region [6] [zo 6 (.move (zB false))]) .ret) .skip))) (.region [2,3,4,7] [zm 51 7,zo 52 (.bin .add (.t 51) (zI 1)),zm 7 52]))))
def fc29:FC where
 nt:=66
 np:=3
 res:=[.t 6]
 body:=(.seq (.region [2,3,4] [zo 3 (.box (.t 0)),zo 4 (.box (.t 1)),zo 6 (.move (zB false))]) (.seq (.seq (.region [2,3,4,45] [zf 8 3 0,zl 9 8,zf 10 4 0,zl 11 10,zo 12 (.bin .neq (.t 9) (.t 11)),zm 13 12,zg 14 (.faddr (.t 3) 1) 13 false,zg 15 (.load none (.t 14)) 13 false,zg 16 (.faddr (.t 4) 1) 13 false,zg 17 (.load none (.t 16)) 13 false,zg 18 (.bin .neq (.t 15)
  (.t 17)) 13 false,zb 19 13 18,zm 20 19,zg 21 (.faddr (.t 3) 2) 20 false,zg 22 (.load none (.t 21)) 20 false,zg 23 (.faddr (.t 4) 2) 20 false,zg 24 (.load none (.t 23)) 20 false,zg 25 (.bin .neq (.t 22) (.t 24)) 20 false,zb 26 20 25,zm 27 26,zg 28 (.move (.t 2)) 27 false,zg 29 (.move (.t 28)) 27 false,zg 30 (.faddr (.t 3) 4) 29 true,zg 31 (.load none (.t 30)) 29 true,zg 32
  (.faddr (.t 4) 4) 29 true,zg 33 (.load none (.t 32)) 29 true,zg 34 (.bin .neq (.t 31) (.t 33)) 29 true,zg 35 (.pick (.t 29) (.t 34) (zB false)) 27 false,zb 36 27 35,zm 37 36,zg 38 (.faddr (.t 3) 3) 37 false,zg 39 (.load none (.t 38)) 37 false,zg 40 (.len 1 (.t 39)) 37 false,zg 41 (.faddr (.t 4) 3) 37 false,zg 42 (.load none (.t 41)) 37 false,zg 43 (.len 1 (.t 42)) 37 false,
  zg 44 (.bin .neq (.t 40) (.t 43)) 37 false,zb 45 37 44]) (.cond (.t 45) (.seq (.region [6] [zo 6 (.move (zB false))]) .ret) .skip)) (.seq (.seq (.region [2,3,4,7] [zi 7 0]) (.block 0 (.loop [2,3,4,7] fc29_b0))) (.seq (.region [6] [zo 6 (.move (zB true))]) .ret))))
theorem ok29:FOk Tryz.prog 29 fc29:=FOk.of Tryz.func29 (by kernel_rfl)
def fc31_b0:SC:=
 (.loc (.seq (.seq (.region [0,3,4,5,10] [zm 7 5,zm 8 0,ze 9 1 8,zo 10 (.bin .lss (.t 7) (.t 9))]) (.cond (.t 10) .skip (.exit 0))) (.seq (.block 1 (.seq (.seq (.region [0,3,4,5,18] [zm 13 0,zm 14 5,zo 15 (.iaddr none 3 (.t 13) (.t 14)),zf 16 15 1,zl 17 16,zo 18 (.bin .eql (.t 17) (zS [123]))]) (.cond (.t 18) (.region [0,3,4,5] [zm 19 4,zo 20 (.bin .add (.t 19) (zI 1)),
 zm 4 20]) .skip)) (.seq (.seq (.region [0,3,4,5,26] [zm 21 0,zm 22 5,zo 23 (.iaddr none 3 (.t 21) (.t 22)),zf 24 23 1,zl 25 24,zo 26 (.bin .eql (.t 25) (zS [125]))]) (.cond (.t 26) (.region [0,3,4,5] [zm 27 4,zo 28 (.bin .sub (.t 27) (zI 1)),zm 4 28]) .skip)) (.seq (.region [0,3,4,5,46] [zm 29 4,zo 30 (.bin .eql (.t 29) (zI 0)),zm 31 30,zg 32 (.move (.t 0)) 31 true,zg 33
 (.move (.t 5)) 31 true,zg 34 (.iaddr none 3 (.t 32) (.t 33)) 31 true,zg 35 (.faddr (.t 34) 1) 31 true,zg 36 (.load none (.t 35)) 31 true,zg 37 (.bin .eql (.t 36) (zS [125])) 31 true,zg 38 (.move (.t 37)) 31 true,zg 39 (.move (.t 0)) 38 false,zg 40 (.move (.t 5)) 38 false,zg 41 (.iaddr none 3 (.t 39) (.t 40)) 38 false,zg 42 (.faddr (.t 41) 1) 38 false,zg 43 (.load none
 (.t 42)) 38 false,zg 44 (.bin .eql (.t 43) (zS [59])) 38 false,zg 45 (.pick (.t 38) (zB true) (.t 44)) 31 true,za 46 31 45]) (.cond (.t 46) (.region [0,3,4,5] [zm 47 3,zm 48 0,zm 49 5,zo 50 (.iaddr none 3 (.t 48) (.t 49)),zf 51 50 2,zl 52 51,zo 53 (.bin .add (.t 52) (zI 1)),zo 54 (.bslice 3 1 1 (.int .i64 0) [(0,(.t 53))]),zo 55 (.append 3 1 8 (.t 47) (.t 54)),
 zm 3 55]) .skip))))) (.region [0,3,4,5] [zm 11 5,zo 12 (.bin .add (.t 11) (zI 1)),zm 5 12]))))
def fc31:FC where
 nt:=57
 np:=1
 res:=[.t 2]
 body:=(.seq (.region [0] [zo 2 (.move (.c (.p (.nils))))]) (.seq (.region [0,3] [zo 6 (.bslice 3 1 1 (.int .i64 0) [(0,(zI 0))]),zm 3 6]) (.seq (.region [0,3,4] [zi 4 0]) (.seq (.seq (.region [0,3,4,5] [zi 5 0]) (.block 0 (.seq (.tok 3 3 1) (.loop [0,3,4,5] fc31_b0)))) (.seq (.region [2] [zm 56 3,zm 2 56]) .ret)))))
 frz:=true
theorem ok31:FOk Tryz.prog 31 fc31:=FOk.of Tryz.func31 (by kernel_rfl)
def fc39:FC where
 nt:=20
 np:=3
 res:=[.t 6]
 body:=(.seq (.region [0,1,2] [zo 6 (.move (zB false))]) (.seq (.region [1,2,8] [zm 10 0,zc 11 17 [.t 10],zm 9 11,zx 12 9 0,zx 13 9 1,zo 7 (.alloc [.int .i64 0,.str [],.int .i64 0,.nils,.int .i64 0]),zs 5 7 12,zm 8 13]) (.seq (.region [6] [zm 14 8,zm 15 1,zm 16 2,zo 17 (.build [.int .i64 0,.int .i64 0] [(0,1,(.t 15)),(1,1,(.t 16))]),zo 18 (.bslice 34 2 1 (.agg
  [.int .i64 0,.int .i64 0]) [(0,(.t 17))]),zc 19 40 [.t 14,.t 18],zm 6 19]) .ret)))
theorem ok39:FOk Tryz.prog 39 fc39:=FOk.of Tryz.func39 (by kernel_rfl)
def fc40_b0:SC:=
 (.seq (.seq (.region [0,1,5,14] [zm 11 5,zm 12 0,ze 13 1 12,zo 14 (.bin .lss (.t 11) (.t 13))]) (.cond (.t 14) .skip (.exit 0))) (.seq (.block 1 (.seq (.draw [0,1,5,25] [(3,7)] [zm 17 0,zm 18 5,zo 19 (.iaddr none 2 (.t 17) (.t 18)),zL 20 2 19,zm 21 1,zm 22 5,zo 23 (.iaddr none 2 (.t 21) (.t 22)),zL 24 2 23,zo 25 (.eqs true [1,1] (.t 20) (.t 24))]) (.cond (.t 25) (.seq
 (.region [4] [zo 4 (.move (zB false))]) .ret) .skip))) (.region [0,1,5] [zm 15 5,zo 16 (.bin .add (.t 15) (zI 1)),zm 5 16])))
def fc40:FC where
 nt:=26
 np:=2
 res:=[.t 4]
 body:=(.seq (.region [0,1] [zo 4 (.move (zB false))]) (.seq (.seq (.region [0,1,10] [zm 6 0,ze 7 1 6,zm 8 1,ze 9 1 8,zo 10 (.bin .neq (.t 7) (.t 9))]) (.cond (.t 10) (.seq (.region [4] [zo 4 (.move (zB false))]) .ret) .skip)) (.seq (.seq (.region [0,1,5] [zi 5 0]) (.block 0 (.loop [0,1,5] fc40_b0))) (.seq (.region [4] [zo 4 (.move (zB true))]) .ret))))
theorem ok40:FOk Tryz.prog 40 fc40:=FOk.of Tryz.func40 (by kernel_rfl)
def fc41:FC where
 nt:=27
 np:=1
 res:=[.t 2,.t 3]
 body:=(.seq (.region [0] [zo 2 (.move (.c (.p (.nilp)))),zo 3 (.move (.c (.p (.nils))))]) (.seq (.region [0,4,5,6] [zm 8 0,zc 9 26 [.t 8],zm 7 9,zx 10 7 0,zx 11 7 1,zx 12 7 2,zm 4 10,zm 5 11,zm 6 12]) (.seq (.seq (.region [0,4,5,6,14] [zm 13 5,zo 14 (.bin .neq (.t 13) (zI 0))]) (.cond (.t 14) (.seq (.region [2,3] [zm 15 5,zm 16 6,zo 17 (.build [.int .i64 0,.int .i64 0]
  [(0,1,(.t 15)),(1,1,(.t 16))]),zo 18 (.bslice 34 2 1 (.agg [.int .i64 0,.int .i64 0]) [(0,(.t 17))]),zo 2 (.move (.c (.p (.nilp)))),zm 3 18]) .ret) .skip)) (.seq (.region [2,3] [zm 19 4,zm 20 0,ze 21 0 20,zc 22 70 [],zc 23 71 [],zc 24 46 [],zo 25 (.build [.nils,.int .i64 0,.int .i64 0,.int .i64 0,.nilm,.nilm,.nilm,.nils,.nils,.nils,.nils,.nils]
  [(0,1,(.t 19)),(2,1,(.t 21)),(4,1,(.t 22)),(5,1,(.t 23)),(6,1,(.t 24))]),zo 26 (.box (.t 25)),zm 2 26,zo 3 (.move (.c (.p (.nils))))]) .ret))))
theorem ok41:FOk Tryz.prog 41 fc41:=FOk.of Tryz.func41 (by kernel_rfl)
def fc42:FC where
 nt:=34
 np:=1
 res:=[]
 body:=(.seq (.region [0,2] [zm 3 0,zc 4 72 [.t 3,zI 0],zo 2 (.alloc [.int .i64 0,.str [],.int .i64 0]),zs 3 2 4]) (.seq (.region [0,2,6] [zf 5 2 1,zl 6 5]) (.block 0 (.seq (.region [0,2,6,9] [zo 10 (.bin .eql (.t 6) (zS [115,111,114,116])),zm 9 10]) (.cond (.t 9) (.region [] [zm 11 0,zf 12 2 2,zl 13 12,zc 14 73 [.t 11,.t 13]]) (.seq (.seq (.region [0,2,6,15] [zo 16
  (.bin .eql (.t 6) (zS [118,97,114])),zm 15 16]) (.cond (.t 15) .skip (.region [0,2,6,15] [zo 17 (.bin .eql (.t 6) (zS [102,105,101,108,100])),zm 15 17]))) (.cond (.t 15) (.region [] [zm 18 0,zf 19 2 2,zl 20 19,zc 21 74 [.t 18,.t 20]]) (.seq (.region [0,2,6,22] [zo 23 (.bin .eql (.t 6) (zS [112,114,101,100])),zm 22 23]) (.cond (.t 22) (.region [] [zm 24 0,zf 25 2 2,zl 26 25,
  zc 27 75 [.t 24,.t 26]]) (.seq (.region [0,2,28] [zo 29 (.bin .eql (.t 6) (zS [102,97,99,116])),zm 28 29]) (.cond (.t 28) (.region [] [zm 30 0,zf 31 2 2,zl 32 31,zc 33 76 [.t 30,.t 32]]) (.region [] [zm 7 0,zc 8 49 [.t 7]]))))))))))))
theorem ok42:FOk Tryz.prog 42 fc42:=FOk.of Tryz.func42 (by kernel_rfl)
def fc43:FC where
 nt:=8
 np:=2
 res:=[.cell 4 none]
 body:=(.seq (.region [4] [zm 6 1,zo 7 (.call (.t 6) [])]) (.seq (.region [4] [zv (.store 1 (.t 4) (zB true))]) .ret))
 dfr:=some ⟨[(.region [1,2,4] [zo 2 (.box (.t 0)),zo 4 (.alloc [.bool false])])],[1,4],[zo 5 (.mkfn 77 [] [.t 2,.t 4])],.t 5,[]⟩
theorem ok43:FOk Tryz.prog 43 fc43:=FOk.of Tryz.func43 (by kernel_rfl)
def fc44_b0:SC:=
 (.seq (.seq (.draw [0,12] [(3,7)] [zm 3 0,zn 4 3,zf 5 4 1,zl 6 5,zm 7 0,zn 8 7,zf 9 8 0,zl 10 9,ze 11 1 10,zo 12 (.bin .lss (.t 6) (.t 11))]) (.cond (.t 12) .skip (.exit 0))) (.block 1 (.seq (.draw [0,2] [(3,7)] [zm 13 0,zn 14 13,zf 15 14 0,zl 16 15,zm 17 0,zn 18 17,zf 19 18 1,zl 20 19,zo 21 (.iaddr none 3 (.t 16) (.t 20)),zf 22 21 1,zl 23 22,zm 2 23]) (.seq (.region [0,2]
 [zm 24 0,zn 25 24,zf 26 25 1,zl 27 26,zo 28 (.bin .add (.t 27) (zI 1)),zn 29 24,zf 30 29 1,zs 1 30 28]) (.seq (.region [0,36] [zm 31 2,zo 32 (.bin .eql (.t 31) (zS [59])),zm 33 32,zg 34 (.move (.t 2)) 33 false,zg 35 (.bin .eql (.t 34) (zS [125])) 33 false,zb 36 33 35]) (.cond (.t 36) .ret .skip))))))
def fc44:FC where
 nt:=37
 np:=1
 res:=[]
 body:=(.block 0 (.loop [0] fc44_b0))
theorem ok44:FOk Tryz.prog 44 fc44:=FOk.of Tryz.func44 (by kernel_rfl)
def fc45_b0:SC:=
 (.loc (.seq (.region [0,2,3,10,42,43,44,45] [zo 45 (.bin .lss (.t 44) (.t 43))]) (.seq (.cond (.t 45) .skip (.exit 0)) (.seq (.block 1 (.seq (.region [0,2,3,10,12,42,43,44] [zo 46 (.iaddr none 5 (.t 42) (.t 44)),zL 47 5 46,zo 12 (.alloc [.int .i64 0,.str [],.int .i64 0,.nils,.int .i64 0]),zs 5 12 47]) (.seq (.region [0,2,3,10,13,14,42,43,44] [zm 49 0,zL 50 5 12,zm 51 2,zo 52
 (.bin .add (.t 51) (zI 1)),zm 53 3,zm 54 10,zo 55 (.bin .sub (.t 53) (.t 54)),zc 56 45 [.t 49,.t 50,.t 52,.t 55],zm 48 56,zx 57 48 0,zx 58 48 1,zm 13 57,zm 14 58]) (.seq (.seq (.region [0,2,3,10,13,42,43,44,60] [zm 59 14,zo 60 (.un .not (.t 59))]) (.cond (.t 60) (.seq (.region [8,9] [zi 8 0,zo 9 (.move (zB false))]) .ret) .skip)) (.region [0,2,3,10,42,43,44] [zm 61 10,
 zm 62 13,zo 63 (.bin .add (.t 61) (.t 62)),zm 10 63]))))) (.region [0,2,3,10,42,43,44] [zo 64 (.bin .add (.t 44) (zI 1)),zm 44 64])))))
def fc45:FC where
 nt:=66
 np:=4
 res:=[.t 8,.t 9]
 body:=(.seq (.region [0,2,3,5] [zo 5 (.box (.t 1)),zi 8 0,zo 9 (.move (zB false))]) (.seq (.seq (.region [0,2,3,5,40] [zm 15 2,zo 16 (.bin .gtr (.t 15) (zI 24)),zm 17 16,zg 18 (.move (.t 3)) 17 false,zg 19 (.bin .lss (.t 18) (zI 1)) 17 false,zb 20 17 19,zm 21 20,zg 22 (.faddr (.t 5) 3) 21 false,zg 23 (.load none (.t 22)) 21 false,zg 24 (.len 1 (.t 23)) 21 false,zg 25
  (.bin .gtr (.t 24) (zI 400)) 21 false,zb 26 21 25,zm 27 26,zg 28 (.load (some 5) (.t 5)) 27 false,zg 29 (.call (.c (.fn 78 [] [])) [.t 28]) 27 false,zg 30 (.un .not (.t 29)) 27 false,zb 31 27 30,zm 32 31,zg 33 (.move (.t 0)) 32 false,zg 34 (.faddr (.t 5) 0) 32 false,zg 35 (.load none (.t 34)) 32 false,zg 36 (.faddr (.t 5) 3) 32 false,zg 37 (.load none (.t 36)) 32 false,zg 38
  (.call (.c (.fn 79 [] [])) [.t 33,.t 35,.t 37]) 32 false,zg 39 (.un .not (.t 38)) 32 false,zb 40 32 39]) (.cond (.t 40) (.seq (.region [8,9] [zi 8 0,zo 9 (.move (zB false))]) .ret) .skip)) (.seq (.region [0,2,3,5,10] [zi 10 1]) (.seq (.seq (.region [0,2,3,10,42,43,44] [zf 41 5 3,zl 42 41,ze 43 1 42,zi 44 0]) (.block 0 (.loop [0,2,3,10,42,43,44] fc45_b0))) (.seq (.region [8,9]
  [zm 65 10,zm 8 65,zo 9 (.move (zB true))]) .ret)))))
theorem ok45:FOk Tryz.prog 45 fc45:=FOk.of Tryz.func45 (by kernel_rfl)
def fc46:FC where
 nt:=3
 np:=0
 res:=[.t 0]
 body:=(.seq (.region [] [zo 0 (.move (.c (.p (.nilm))))]) (.seq (.region [0] [zo 1 (.mkmap 13),zv (.mapins 13 (.t 1) (zI 1) (zS [])),zv (.mapins 13 (.t 1) (zI 2) (zS [])),zv (.mapins 13 (.t 1) (zI 3) (zS [])),zv (.mapins 13 (.t 1) (zI 4) (zS [])),zv (.mapins 13 (.t 1) (zI 5) (zS [101])),zv (.mapins 13 (.t 1) (zI 6) (zS [101,101])),zv (.mapins 13 (.t 1) (zI 7) (zS
  [101,101])),zv (.mapins 13 (.t 1) (zI 8) (zS [101,101])),zv (.mapins 13 (.t 1) (zI 9) (zS [101,101])),zv (.mapins 13 (.t 1) (zI 10) (zS [101,101])),zv (.mapins 13 (.t 1) (zI 11) (zS [101])),zv (.mapins 13 (.t 1) (zI 12) (zS [101])),zv (.mapins 13 (.t 1) (zI 13) (zS [101])),zv (.mapins 13 (.t 1) (zI 14) (zS [101,101])),zv (.mapins 13 (.t 1) (zI 15) (zS [101,102])),zv
  (.mapins 13 (.t 1) (zI 20) (zS [])),zv (.mapins 13 (.t 1) (zI 21) (zS [101])),zv (.mapins 13 (.t 1) (zI 22) (zS [105,105])),zv (.mapins 13 (.t 1) (zI 23) (zS [105,105])),zv (.mapins 13 (.t 1) (zI 30) (zS [])),zv (.mapins 13 (.t 1) (zI 31) (zS [])),zv (.mapins 13 (.t 1) (zI 32) (zS [101,101])),zv (.mapins 13 (.t 1) (zI 33) (zS [101,101])),zv (.mapins 13 (.t 1) (zI 34) (zS
  [101])),zv (.mapins 13 (.t 1) (zI 35) (zS [101])),zv (.mapins 13 (.t 1) (zI 36) (zS [101])),zv (.mapins 13 (.t 1) (zI 37) (zS [101])),zv (.mapins 13 (.t 1) (zI 38) (zS [105,105])),zv (.mapins 13 (.t 1) (zI 39) (zS [105,105])),zv (.mapins 13 (.t 1) (zI 40) (zS [102])),zv (.mapins 13 (.t 1) (zI 41) (zS [102,102])),zv (.mapins 13 (.t 1) (zI 42) (zS [102,102])),zv (.mapins 13
  (.t 1) (zI 43) (zS [102,102])),zv (.mapins 13 (.t 1) (zI 44) (zS [102,102])),zv (.mapins 13 (.t 1) (zI 45) (zS [101,102])),zv (.mapins 13 (.t 1) (zI 46) (zS [101,102])),zv (.mapins 13 (.t 1) (zI 48) (zS [102])),zv (.mapins 13 (.t 1) (zI 49) (zS [102])),zv (.mapins 13 (.t 1) (zI 50) (zS [102])),zv (.mapins 13 (.t 1) (zI 51) (zS [102,102])),zm 2 1,zm 0 2]) .ret))
theorem ok46:FOk Tryz.prog 46 fc46:=FOk.of Tryz.func46 (by kernel_rfl)
def fc47:FC where
 nt:=16
 np:=2
 res:=[]
 body:=(.seq (.region [0] [zl 2 0,zc 3 48 [.t 2],zs 5 1 3]) (.seq (.draw [0,13] [(0,4),(3,4),(0,7),(3,7)] [zl 4 0,zn 5 4,zf 6 5 1,zl 7 6,zl 8 0,zn 9 8,zf 10 9 0,zl 11 10,ze 12 1 11,zo 13 (.bin .lss (.t 7) (.t 12))]) (.cond (.t 13) (.region [] [zl 14 0,zc 15 49 [.t 14]]) .skip)))
theorem ok47:FOk Tryz.prog 47 fc47:=FOk.of Tryz.func47 (by kernel_rfl)
def fc48:FC where
 nt:=22
 np:=1
 res:=[.cell 2 (some 5)]
 body:=(.seq (.region [0,2] [zo 2 (.alloc [.int .i64 0,.str [],.int .i64 0,.nils,.int .i64 0])]) (.seq (.region [0,2,3] [zm 5 0,zc 6 72 [.t 5,zI 0],zo 7 (.field (.t 6) 2 none),zm 3 7]) (.seq (.region [2,3,4] [zm 8 0,zc 9 80 [.t 8,zI 1],zo 4 (.alloc [.int .i64 0,.str [],.int .i64 0,.nils,.int .i64 0]),zs 5 4 9]) (.seq (.seq (.region [2,3,4,13] [zf 10 4 0,zl 11 10,zc 12 81
  [.t 11],zo 13 (.bin .neq (.t 12) (zI 3))]) (.cond (.t 13) (.region [2,3,4] [zm 14 3,zc 15 82 [zI 43,.t 14]]) .skip)) (.seq (.seq (.region [2,3,4,18] [zL 16 5 4,zc 17 15 [.t 16],zo 18 (.un .not (.t 17))]) (.cond (.t 18) (.region [2,4] [zm 19 3,zc 20 82 [zI 2,.t 19]]) .skip)) (.seq (.region [2] [zL 21 5 4,zs 5 2 21]) .ret))))))
 frz:=true
theorem ok48:FOk Tryz.prog 48 fc48:=FOk.of Tryz.func48 (by kernel_rfl)
def fc49:FC where
 nt:=16
 np:=1
 res:=[]
 body:=(.seq (.region [0,2] [zm 3 0,zc 4 72 [.t 3,zI 0],zo 2 (.alloc [.int .i64 0,.str [],.int .i64 0]),zs 3 2 4]) (.seq (.seq (.region [0,2,7] [zf 5 2 0,zl 6 5,zo 7 (.bin .eql (.t 6) (zI 0))]) (.cond (.t 7) (.region [2] [zm 8 0,zn 9 8,zf 10 9 2,zl 11 10,zc 12 82 [zI 21,.t 11]]) .skip)) (.region [] [zf 13 2 2,zl 14 13,zc 15 82 [zI 20,.t 14]])))
theorem ok49:FOk Tryz.prog 49 fc49:=FOk.of Tryz.func49 (by kernel_rfl)
def fc55_b0:SC:=
 (.loc (.seq (.seq (.draw [0,15] [(3,7)] [zm 6 0,zn 7 6,zf 8 7 0,zl 9 8,zm 10 0,zn 11 10,zf 12 11 1,zl 13 12,zo 14 (.slice 0 (.t 9) (some (.t 13)) none),zc 15 86 [.t 14,zS [47,47]]]) (.cond (.t 15) .skip (.exit 0))) (.seq (.block 1 (.region [0] [zm 20 0,zm 21 0,zo 22 (.mkfn 87 [.t 21] []),zc 23 84 [.t 20,.t 22]])) (.region [0] [zm 16 0,zm 17 0,zo 18 (.mkfn 85 [.t 17] []),
 zc 19 84 [.t 16,.t 18]]))))
def fc55:FC where
 nt:=24
 np:=1
 res:=[]
 body:=(.seq (.region [0] [zm 2 0,zm 3 0,zo 4 (.mkfn 85 [.t 3] []),zc 5 84 [.t 2,.t 4]]) (.block 0 (.loop [0] fc55_b0)))
theorem ok55:FOk Tryz.prog 55 fc55:=FOk.of Tryz.func55 (by kernel_rfl)
def fc56:FC where
 nt:=43
 np:=1
 res:=[.cell 2 (some 3),.t 3]
 body:=(.seq (.region [0,2] [zo 2 (.alloc [.int .i64 0,.str [],.int .i64 0]),zo 3 (.move (zB false))]) (.seq (.region [0,2,4] [zm 6 0,zn 7 6,zf 8 7 1,zl 9 8,zo 10 (.build [.int .i64 0,.str [],.int .i64 0] [(2,1,(.t 9))]),zo 4 (.alloc [.int .i64 0,.str [],.int .i64 0]),zs 3 4 10]) (.seq (.region [0,2,4] [zo 5 (.move (zB true))]) (.seq (.block 0 (.seq (.region [0,2,4,18]
  [zm 19 0,zc 20 88 [.t 19],zm 18 20]) (.cond (.t 18) (.seq (.region [0,2,4] [zf 21 4 0,zv (.store 1 (.t 21) (zI 1))]) (.seq (.region [2,4] [zm 22 0,zm 23 0,zo 24 (.mkfn 89 [.t 23] []),zc 25 84 [.t 22,.t 24],zf 26 4 1,zs 1 26 25]) (.region [2,4,5] [zf 27 4 1,zl 28 27,ze 29 0 28,zo 30 (.bin .leq (.t 29) (zI 16)),zm 5 30]))) (.seq (.region [0,2,4,31] [zm 32 0,zc 33 90 [.t 32],
  zm 31 33]) (.cond (.t 31) (.seq (.region [0,2,4] [zf 34 4 0,zv (.store 1 (.t 34) (zI 2))]) (.region [2,4,5] [zm 36 0,zc 37 91 [.t 36],zm 35 37,zx 38 35 0,zx 39 35 1,zf 40 4 1,zs 1 40 38,zm 5 39])) (.seq (.region [0,2,4] [zf 11 4 0,zv (.store 1 (.t 11) (zI 3))]) (.region [2,4,5] [zm 13 0,zc 14 92 [.t 13],zm 12 14,zx 15 12 0,zx 16 12 1,zf 17 4 1,zs 1 17 15,zm 5 16]))))))) (.seq
  (.region [2,3] [zL 41 3 4,zm 42 5,zs 3 2 41,zm 3 42]) .ret)))))
theorem ok56:FOk Tryz.prog 56 fc56:=FOk.of Tryz.func56 (by kernel_rfl)
def fc70:FC where
 nt:=19
 np:=0
 res:=[.t 0]
 body:=(.seq (.region [] [zo 0 (.move (.c (.p (.nilm))))]) (.seq (.region [0] [zo 1 (.mkmap 2),zo 2 (.build [.int .i64 0,.bool false,.int .i64 0,.int .i64 0] [(0,1,(zI 1)),(1,1,(zB false)),(2,1,(zI 0)),(3,1,(zI 44))]),zv (.mapins 2 (.t 1) (zS [60,61,62]) (.t 2)),zo 3 (.build [.int .i64 0,.bool false,.int .i64 0,.int .i64 0]
  [(0,1,(zI 2)),(1,1,(zB true)),(2,1,(zI 0)),(3,1,(zI 43))]),zv (.mapins 2 (.t 1) (zS [61,62]) (.t 3)),zo 4 (.build [.int .i64 0,.bool false,.int .i64 0,.int .i64 0] [(0,1,(zI 3)),(1,1,(zB false)),(2,1,(zI 0)),(3,1,(zI 42))]),zv (.mapins 2 (.t 1) (zS [124,124]) (.t 4)),zo 5 (.build [.int .i64 0,.bool false,.int .i64 0,.int .i64 0]
  [(0,1,(zI 4)),(1,1,(zB false)),(2,1,(zI 0)),(3,1,(zI 41))]),zv (.mapins 2 (.t 1) (zS [38,38]) (.t 5)),zo 6 (.build [.int .i64 0,.bool false,.int .i64 0,.int .i64 0] [(0,1,(zI 5)),(1,1,(zB true)),(2,1,(zI 0)),(3,1,(zI 51))]),zv (.mapins 2 (.t 1) (zS [117,110,116,105,108]) (.t 6)),zo 7 (.build [.int .i64 0,.bool false,.int .i64 0,.int .i64 0]
  [(0,1,(zI 7)),(1,1,(zB false)),(2,1,(zI 32)),(3,1,(zI 0))]),zv (.mapins 2 (.t 1) (zS [105,110]) (.t 7)),zo 8 (.build [.int .i64 0,.bool false,.int .i64 0,.int .i64 0] [(0,1,(zI 7)),(1,1,(zB false)),(2,1,(zI 33)),(3,1,(zI 38))]),zv (.mapins 2 (.t 1) (zS [61]) (.t 8)),zo 9 (.build [.int .i64 0,.bool false,.int .i64 0,.int .i64 0]
  [(0,1,(zI 7)),(1,1,(zB false)),(2,1,(zI 33)),(3,1,(zI 38))]),zv (.mapins 2 (.t 1) (zS [33,61]) (.t 9)),zo 10 (.build [.int .i64 0,.bool false,.int .i64 0,.int .i64 0] [(0,1,(zI 7)),(1,1,(zB false)),(2,1,(zI 0)),(3,1,(zI 39))]),zv (.mapins 2 (.t 1) (zS [60]) (.t 10)),zo 11 (.build [.int .i64 0,.bool false,.int .i64 0,.int .i64 0]
  [(0,1,(zI 7)),(1,1,(zB false)),(2,1,(zI 0)),(3,1,(zI 39))]),zv (.mapins 2 (.t 1) (zS [60,61]) (.t 11)),zo 12 (.build [.int .i64 0,.bool false,.int .i64 0,.int .i64 0] [(0,1,(zI 8)),(1,1,(zB false)),(2,1,(zI 6)),(3,1,(zI 22))]),zv (.mapins 2 (.t 1) (zS [43]) (.t 12)),zo 13 (.build [.int .i64 0,.bool false,.int .i64 0,.int .i64 0]
  [(0,1,(zI 8)),(1,1,(zB false)),(2,1,(zI 8)),(3,1,(zI 23))]),zv (.mapins 2 (.t 1) (zS [45]) (.t 13)),zo 14 (.build [.int .i64 0,.bool false,.int .i64 0,.int .i64 0] [(0,1,(zI 9)),(1,1,(zB false)),(2,1,(zI 14)),(3,1,(zI 0))]),zv (.mapins 2 (.t 1) (zS [43,43]) (.t 14)),zo 15 (.build [.int .i64 0,.bool false,.int .i64 0,.int .i64 0]
  [(0,1,(zI 10)),(1,1,(zB false)),(2,1,(zI 7)),(3,1,(zI 0))]),zv (.mapins 2 (.t 1) (zS [38]) (.t 15)),zo 16 (.build [.int .i64 0,.bool false,.int .i64 0,.int .i64 0] [(0,1,(zI 11)),(1,1,(zB false)),(2,1,(zI 10)),(3,1,(zI 0))]),zv (.mapins 2 (.t 1) (zS [45,62]) (.t 16)),zo 17 (.build [.int .i64 0,.bool false,.int .i64 0,.int .i64 0]
  [(0,1,(zI 12)),(1,1,(zB false)),(2,1,(zI 9)),(3,1,(zI 0))]),zv (.mapins 2 (.t 1) (zS [46]) (.t 17)),zm 18 1,zm 0 18]) .ret))
theorem ok70:FOk Tryz.prog 70 fc70:=FOk.of Tryz.func70 (by kernel_rfl)
def fc71:FC where
 nt:=15
 np:=0
 res:=[.t 0]
 body:=(.seq (.region [] [zo 0 (.move (.c (.p (.nilm))))]) (.seq (.region [0] [zo 1 (.mkmap 2),zo 2 (.build [.int .i64 0,.int .i64 0] [(0,1,(zI 6)),(1,1,(zI 40))]),zv (.mapins 2 (.t 1) (zS [110,111,116]) (.t 2)),zo 3 (.build [.int .i64 0,.int .i64 0] [(0,1,(zI 6)),(1,1,(zI 48))]),zv (.mapins 2 (.t 1) (zS [97,108,119,97,121,115]) (.t 3)),zo 4 (.build [.int .i64 0,.int .i64 0]
  [(0,1,(zI 6)),(1,1,(zI 49))]),zv (.mapins 2 (.t 1) (zS [101,118,101,110,116,117,97,108,108,121]) (.t 4)),zo 5 (.build [.int .i64 0,.int .i64 0] [(0,1,(zI 6)),(1,1,(zI 50))]),zv (.mapins 2 (.t 1) (zS [97,102,116,101,114]) (.t 5)),zo 6 (.build [.int .i64 0,.int .i64 0] [(0,1,(zI 8)),(1,1,(zI 35))]),zv (.mapins 2 (.t 1) (zS [110,111]) (.t 6)),zo 7 (.build
  [.int .i64 0,.int .i64 0] [(0,1,(zI 8)),(1,1,(zI 34))]),zv (.mapins 2 (.t 1) (zS [115,111,109,101]) (.t 7)),zo 8 (.build [.int .i64 0,.int .i64 0] [(0,1,(zI 8)),(1,1,(zI 36))]),zv (.mapins 2 (.t 1) (zS [111,110,101]) (.t 8)),zo 9 (.build [.int .i64 0,.int .i64 0] [(0,1,(zI 8)),(1,1,(zI 37))]),zv (.mapins 2 (.t 1) (zS [108,111,110,101]) (.t 9)),zo 10 (.build
  [.int .i64 0,.int .i64 0] [(0,1,(zI 12)),(1,1,(zI 21))]),zv (.mapins 2 (.t 1) (zS [35]) (.t 10)),zo 11 (.build [.int .i64 0,.int .i64 0] [(0,1,(zI 13)),(1,1,(zI 11))]),zv (.mapins 2 (.t 1) (zS [126]) (.t 11)),zo 12 (.build [.int .i64 0,.int .i64 0] [(0,1,(zI 13)),(1,1,(zI 12))]),zv (.mapins 2 (.t 1) (zS [94]) (.t 12)),zo 13 (.build [.int .i64 0,.int .i64 0]
  [(0,1,(zI 13)),(1,1,(zI 13))]),zv (.mapins 2 (.t 1) (zS [42]) (.t 13)),zm 14 1,zm 0 14]) .ret))
theorem ok71:FOk Tryz.prog 71 fc71:=FOk.of Tryz.func71 (by kernel_rfl)
def fc72:FC where
 nt:=34
 np:=2
 res:=[.cell 4 (some 3)]
 body:=(.seq (.region [0,1,4] [zo 4 (.alloc [.int .i64 0,.str [],.int .i64 0])]) (.seq (.seq (.draw [0,1,4,16] [(3,9)] [zm 5 0,zn 6 5,zf 7 6 1,zl 8 7,zm 9 1,zo 10 (.bin .add (.t 8) (.t 9)),zm 11 0,zn 12 11,zf 13 12 0,zl 14 13,ze 15 1 14,zo 16 (.bin .lss (.t 10) (.t 15))]) (.cond (.t 16) (.seq (.draw [4] [(3,7)] [zm 17 0,zn 18 17,zf 19 18 0,zl 20 19,zm 21 0,zn 22 21,
  zf 23 22 1,zl 24 23,zm 25 1,zo 26 (.bin .add (.t 24) (.t 25)),zo 27 (.iaddr none 3 (.t 20) (.t 26)),zL 28 3 27,zs 3 4 28]) .ret) .skip)) (.seq (.region [4] [zm 29 0,zn 30 29,zf 31 30 2,zl 32 31,zo 33 (.build [.int .i64 0,.str [],.int .i64 0] [(2,1,(.t 32))]),zs 3 4 33]) .ret)))
theorem ok72:FOk Tryz.prog 72 fc72:=FOk.of Tryz.func72 (by kernel_rfl)
def fc73:FC where
 nt:=40
 np:=2
 res:=[]
 body:=(.seq (.region [0] [zm 5 0,zn 6 5,zf 7 6 8,zf 8 7 0,zl 9 8,ze 10 1 9,zm 11 1,zc 12 119 [.t 10,zI 4,.t 11]]) (.seq (.region [0] [zm 13 0,zn 14 13,zf 15 14 1,zl 16 15,zo 17 (.bin .add (.t 16) (zI 1)),zn 18 13,zf 19 18 1,zs 1 19 17]) (.seq (.region [0,4] [zm 20 0,zc 21 120 [.t 20],zo 22 (.field (.t 21) 1 none),zm 23 0,zc 24 121 [.t 23,zS [111,114,100,101,114,101,100]],
  zo 25 (.build [.str [],.bool false] [(0,1,(.t 22)),(1,1,(.t 24))]),zo 4 (.alloc [.str [],.bool false]),zs 2 4 25]) (.seq (.region [0,4] [zm 26 0,zc 27 122 [.t 26,zS [59]]]) (.draw [] [(5,6)] [zm 28 0,zm 29 0,zn 30 29,zf 31 30 8,zf 32 31 0,zl 33 32,zL 34 2 4,zo 35 (.bslice 81 2 1 (.agg [.str [],.bool false]) [(0,(.t 34))]),zo 36 (.append 81 2 24 (.t 33) (.t 35)),zn 37 28,
  zf 38 37 8,zf 39 38 0,zs 1 39 36])))))
theorem ok73:FOk Tryz.prog 73 fc73:=FOk.of Tryz.func73 (by kernel_rfl)
def fc74_b0:SC:=
 (.loc (.seq (.seq (.region [0,4,38] [zf 31 4 1,zl 32 31,ze 33 1 32,zo 34 (.bin .lss (.t 33) (zI 3)),zm 35 34,zg 36 (.move (.t 0)) 35 true,zg 37 (.call (.c (.fn 121 [] [])) [.t 36,zS [45,62]]) 35 true,za 38 35 37]) (.cond (.t 38) .skip (.exit 0))) (.block 1 (.draw [0,4] [(1,3)] [zf 39 4 1,zl 40 39,zm 41 0,zc 42 123 [.t 41],zo 43 (.bslice 3 1 1 (.int .i64 0) [(0,(.t 42))]),
 zo 44 (.append 3 1 8 (.t 40) (.t 43)),zf 45 4 1,zs 1 45 44]))))
def fc74:FC where
 nt:=60
 np:=2
 res:=[]
 body:=(.seq (.region [0] [zm 5 0,zn 6 5,zf 7 6 8,zf 8 7 1,zl 9 8,ze 10 1 9,zm 11 1,zc 12 119 [.t 10,zI 6,.t 11]]) (.seq (.region [0,4] [zm 13 0,zc 14 121 [.t 13,zS [118,97,114]],zo 15 (.build [.str [],.nils,.bool false] [(2,1,(.t 14))]),zo 4 (.alloc [.str [],.nils,.bool false]),zs 3 4 15]) (.seq (.region [0,4] [zm 16 0,zc 17 122 [.t 16,zS [102,105,101,108,100]]]) (.seq
  (.region [0,4] [zm 18 0,zc 19 120 [.t 18],zo 20 (.field (.t 19) 1 none),zf 21 4 0,zs 1 21 20]) (.seq (.region [0,4] [zm 22 0,zc 23 122 [.t 22,zS [58]]]) (.seq (.draw [0,4] [(1,3)] [zf 24 4 1,zl 25 24,zm 26 0,zc 27 123 [.t 26],zo 28 (.bslice 3 1 1 (.int .i64 0) [(0,(.t 27))]),zo 29 (.append 3 1 8 (.t 25) (.t 28)),zf 30 4 1,zs 1 30 29]) (.seq (.block 0 (.loop [0,4] fc74_b0))
  (.seq (.region [0,4] [zm 46 0,zc 47 122 [.t 46,zS [59]]]) (.draw [] [(5,6)] [zm 48 0,zm 49 0,zn 50 49,zf 51 50 8,zf 52 51 1,zl 53 52,zL 54 3 4,zo 55 (.bslice 70 3 1 (.agg [.str [],.nils,.bool false]) [(0,(.t 54))]),zo 56 (.append 70 3 48 (.t 53) (.t 55)),zn 57 48,zf 58 57 8,zf 59 58 1,zs 1 59 56])))))))))
theorem ok74:FOk Tryz.prog 74 fc74:=FOk.of Tryz.func74 (by kernel_rfl)
def fc75_b0:SC:=
 (.loc (.seq (.seq (.region [0,4,29] [zm 27 0,zc 28 121 [.t 27,zS [93]],zo 29 (.un .not (.t 28))]) (.cond (.t 29) .skip (.exit 0))) (.block 1 (.seq (.seq (.region [0,4,33] [zf 30 4 1,zl 31 30,ze 32 1 31,zo 33 (.bin .gtr (.t 32) (zI 0))]) (.cond (.t 33) (.region [0,4] [zm 34 0,zc 35 122 [.t 34,zS [44]]]) .skip)) (.seq (.region [0,4,5] [zm 36 0,zc 37 120 [.t 36],zo 5 (.alloc
 [.int .i64 0,.str [],.int .i64 0]),zs 3 5 37]) (.seq (.region [0,4,5] [zm 38 0,zc 39 122 [.t 38,zS [58]]]) (.draw [0,4] [(1,3),(1,5),(3,5)] [zf 40 4 1,zl 41 40,zf 42 5 1,zl 43 42,zm 44 0,zc 45 123 [.t 44],zo 46 (.build [.str [],.int .i64 0] [(0,1,(.t 43)),(1,1,(.t 45))]),zo 47 (.bslice 72 2 1 (.agg [.str [],.int .i64 0]) [(0,(.t 46))]),zo 48 (.append 72 2 24 (.t 41) (.t 47)),
 zf 49 4 1,zs 1 49 48])))))))
def fc75:FC where
 nt:=65
 np:=2
 res:=[]
 body:=(.seq (.region [0] [zm 6 0,zn 7 6,zf 8 7 8,zf 9 8 2,zl 10 9,ze 11 1 10,zm 12 1,zc 13 119 [.t 11,zI 8,.t 12]]) (.seq (.region [0] [zm 14 0,zn 15 14,zf 16 15 1,zl 17 16,zo 18 (.bin .add (.t 17) (zI 1)),zn 19 14,zf 20 19 1,zs 1 20 18]) (.seq (.region [0,4] [zm 21 0,zc 22 120 [.t 21],zo 23 (.field (.t 22) 1 none),zo 24 (.build [.str [],.nils,.int .i64 0,.str
  [],.int .i64 0,.nils,.int .i64 0] [(0,1,(.t 23))]),zo 4 (.alloc [.str [],.nils,.int .i64 0,.str [],.int .i64 0,.nils,.int .i64 0]),zs 7 4 24]) (.seq (.tokb 4 1 72 2) (.seq (.region [0,4] [zm 25 0,zc 26 122 [.t 25,zS [91]]]) (.seq (.block 0 (.loop [0,4] fc75_b0)) (.seq (.region [0,4] [zm 50 0,zc 51 124 [.t 50],zf 52 4 2,zs 5 52 51]) (.draw [] [(5,6)] [zm 53 0,zm 54 0,zn 55 54,
  zf 56 55 8,zf 57 56 2,zl 58 57,zL 59 7 4,zo 60 (.bslice 41 7 1 (.agg [.str [],.nils,.int .i64 0,.str [],.int .i64 0,.nils,.int .i64 0]) [(0,(.t 59))]),zo 61 (.append 41 7 104 (.t 58) (.t 60)),zn 62 53,zf 63 62 8,zf 64 63 2,zs 1 64 61]))))))))
theorem ok75:FOk Tryz.prog 75 fc75:=FOk.of Tryz.func75 (by kernel_rfl)
def fc76:FC where
 nt:=39
 np:=2
 res:=[]
 body:=(.seq (.region [0] [zm 5 0,zn 6 5,zf 7 6 8,zf 8 7 3,zl 9 8,ze 10 1 9,zm 11 1,zc 12 119 [.t 10,zI 16,.t 11]]) (.seq (.region [0] [zm 13 0,zn 14 13,zf 15 14 1,zl 16 15,zo 17 (.bin .add (.t 16) (zI 1)),zn 18 13,zf 19 18 1,zs 1 19 17]) (.seq (.region [0,4] [zm 20 0,zc 21 120 [.t 20],zo 22 (.field (.t 21) 1 none),zo 23 (.build [.str [],.int .i64 0,.str
  [],.int .i64 0,.nils,.int .i64 0] [(0,1,(.t 22))]),zo 4 (.alloc [.str [],.int .i64 0,.str [],.int .i64 0,.nils,.int .i64 0]),zs 6 4 23]) (.seq (.region [0,4] [zm 24 0,zc 25 124 [.t 24],zf 26 4 1,zs 5 26 25]) (.draw [] [(5,6)] [zm 27 0,zm 28 0,zn 29 28,zf 30 29 8,zf 31 30 3,zl 32 31,zL 33 6 4,zo 34 (.bslice 44 6 1 (.agg [.str [],.int .i64 0,.str
  [],.int .i64 0,.nils,.int .i64 0]) [(0,(.t 33))]),zo 35 (.append 44 6 80 (.t 32) (.t 34)),zn 36 27,zf 37 36 8,zf 38 37 3,zs 1 38 35])))))
theorem ok76:FOk Tryz.prog 76 fc76:=FOk.of Tryz.func76 (by kernel_rfl)
def fc77:FC where
 nt:=30
 np:=2
 res:=[]
 body:=(.seq (.region [0,1,2] [zm 5 5,zm 2 5]) (.seq (.region [0,1,2,7] [zm 6 2,zo 7 (.eqk 4 true (.t 6) (.c (.p (.nili))))]) (.cond (.t 7) (.seq (.region [0,1,2,3,4] [zm 9 2,zo 10 (.tassert 123 (.agg [.int .i64 0,.int .i64 0]) true (.t 9)),zm 8 10,zx 11 8 0,zx 12 8 1,zo 3 (.alloc [.int .i64 0,.int .i64 0]),zs 2 3 11,zm 4 12]) (.seq (.seq (.region [0,1,2,3,14] [zm 13 4,zo 14
  (.un .not (.t 13))]) (.cond (.t 14) (.region [0,1,3] [zm 15 2,zv (.panic (.t 15))]) .skip)) (.seq (.draw [0,1] [(0,1),(0,4),(0,6),(1,6),(4,6),(0,8)] [zl 16 0,zl 17 0,zn 18 17,zf 19 18 7,zl 20 19,zf 21 3 0,zL 22 2 21,zo 23 (.bslice 34 2 1 (.agg [.int .i64 0,.int .i64 0]) [(0,(.t 22))]),zo 24 (.append 34 2 16 (.t 20) (.t 23)),zn 25 16,zf 26 25 7,zs 1 26 24]) (.seq (.region [1]
  [zl 27 0,zn 28 27,zf 29 28 3,zv (.store 1 (.t 29) (zI 0))]) (.region [] [zv (.store 1 (.t 1) (zB false))]))))) .skip)))
theorem ok77:DOk Tryz.prog 77 5 fc77:=DOk.of Tryz.func77 (by kernel_rfl)
def fc78:FC where
 nt:=57
 np:=1
 res:=[.t 2]
 body:=(.seq (.region [1] [zo 1 (.box (.t 0)),zo 2 (.move (zB false))]) (.seq (.seq (.region [1,4] [zf 3 1 0,zl 4 3]) (.block 0 (.seq (.seq (.region [1,4,5] [zo 6 (.bin .eql (.t 4) (zI 1)),zm 5 6]) (.cond (.t 5) .skip (.seq (.region [1,4,5] [zo 7 (.bin .eql (.t 4) (zI 15)),zm 5 7]) (.cond (.t 5) .skip (.seq (.region [1,4,5] [zo 8 (.bin .eql (.t 4) (zI 45)),zm 5 8]) (.cond
  (.t 5) .skip (.seq (.region [1,4,5] [zo 9 (.bin .eql (.t 4) (zI 46)),zm 5 9]) (.cond (.t 5) .skip (.region [1,4,5] [zo 10 (.bin .eql (.t 4) (zI 47)),zm 5 10]))))))))) (.cond (.t 5) (.seq (.region [2] [zf 11 1 1,zl 12 11,zc 13 125 [.t 12],zm 14 13,zg 15 (.faddr (.t 1) 2) 14 true,zg 16 (.load none (.t 15)) 14 true,zg 17 (.bin .eql (.t 16) (zI 0)) 14 true,za 18 14 17,
  zm 2 18]) .ret) (.seq (.region [1,4,19] [zo 20 (.bin .eql (.t 4) (zI 2)),zm 19 20]) (.cond (.t 19) (.seq (.region [2] [zf 21 1 1,zl 22 21,zo 23 (.bin .eql (.t 22) (zS [])),zm 24 23,zg 25 (.faddr (.t 1) 2) 24 true,zg 26 (.load none (.t 25)) 24 true,zg 27 (.bin .geq (.t 26) (zI 1)) 24 true,za 28 24 27,zm 29 28,zg 30 (.faddr (.t 1) 2) 29 true,zg 31 (.load none (.t 30)) 29 true,
  zg 32 (.bin .leq (.t 31) (zI 3)) 29 true,za 33 29 32,zm 2 33]) .ret) (.seq (.region [1,34] [zo 35 (.bin .eql (.t 4) (zI 20)),zm 34 35]) (.cond (.t 34) (.seq (.region [2] [zf 36 1 1,zl 37 36,zo 38 (.bin .eql (.t 37) (zS [])),zm 39 38,zg 40 (.faddr (.t 1) 2) 39 true,zg 41 (.load none (.t 40)) 39 true,zg 42 (.bin .geq (.t 41) (zI (-64))) 39 true,za 43 39 42,zm 44 43,zg 45
  (.faddr (.t 1) 2) 44 true,zg 46 (.load none (.t 45)) 44 true,zg 47 (.bin .leq (.t 46) (zI 64)) 44 true,za 48 44 47,zm 2 48]) .ret) .skip)))))))) (.seq (.region [2] [zf 49 1 1,zl 50 49,zo 51 (.bin .eql (.t 50) (zS [])),zm 52 51,zg 53 (.faddr (.t 1) 2) 52 true,zg 54 (.load none (.t 53)) 52 true,zg 55 (.bin .eql (.t 54) (zI 0)) 52 true,za 56 52 55,zm 2 56]) .ret)))
theorem ok78:FOk Tryz.prog 78 fc78:=FOk.of Tryz.func78 (by kernel_rfl)
def fc79_b0:SC:=
 (.loc (.seq (.region [7,31,32,33,34] [zo 34 (.bin .lss (.t 33) (.t 32))]) (.seq (.cond (.t 34) .skip (.exit 0)) (.seq (.block 1 (.seq (.region [7,9,10,31,32,33] [zm 35 33,zo 36 (.iaddr none 5 (.t 31) (.t 33)),zL 37 5 36,zo 10 (.alloc [.int .i64 0,.str [],.int .i64 0,.nils,.int .i64 0]),zm 9 35,zs 5 10 37]) (.seq (.draw [7,31,32,33,45] [] [zf 38 10 0,zl 39 38,zc 40 81 [.t 39],
 zo 41 (.index none (zS [63,101,105,102]) (.t 40)),zm 42 7,zm 43 9,zo 44 (.index none (.t 42) (.t 43)),zo 45 (.bin .neq (.t 41) (.t 44))]) (.cond (.t 45) (.seq (.region [6] [zo 6 (.move (zB false))]) .ret) .skip)))) (.region [7,31,32,33] [zo 46 (.bin .add (.t 33) (zI 1)),zm 33 46])))))
def fc79:FC where
 nt:=47
 np:=3
 res:=[.t 6]
 body:=(.seq (.region [0,1,2] [zo 6 (.move (zB false))]) (.seq (.region [1,2,7,8] [zm 12 0,zm 13 1,zo 14 (.mapget 13 (.str []) true (.t 12) (.t 13)),zm 11 14,zx 15 11 0,zx 16 11 1,zm 7 15,zm 8 16]) (.seq (.seq (.region [2,7,8,18] [zm 17 1,zo 18 (.bin .eql (.t 17) (zI 47))]) (.cond (.t 18) (.region [2,7,8] [zm 19 2,ze 20 1 19,zc 21 126 [zS [101],.t 20],zm 7 21,zo 8 (.move
  (zB true))]) .skip)) (.seq (.seq (.region [2,7,30] [zm 22 8,zo 23 (.un .not (.t 22)),zm 24 23,zg 25 (.move (.t 2)) 24 false,zg 26 (.len 1 (.t 25)) 24 false,zg 27 (.move (.t 7)) 24 false,zg 28 (.len 0 (.t 27)) 24 false,zg 29 (.bin .neq (.t 26) (.t 28)) 24 false,zb 30 24 29]) (.cond (.t 30) (.seq (.region [6] [zo 6 (.move (zB false))]) .ret) .skip)) (.seq (.seq (.region
  [7,31,32,33] [zm 31 2,ze 32 1 31,zi 33 0]) (.block 0 (.loop [7,31,32,33] fc79_b0))) (.seq (.region [6] [zo 6 (.move (zB true))]) .ret))))))
theorem ok79:FOk Tryz.prog 79 fc79:=FOk.of Tryz.func79 (by kernel_rfl)
def fc80_b0:SC:=
 (.loc (.block 1 (.seq (.region [0,1,4,5,6,7] [zm 35 0,zc 36 72 [.t 35,zI 0],zo 7 (.alloc [.int .i64 0,.str [],.int .i64 0]),zs 3 7 36]) (.seq (.draw [0,1,4,5,6,7,8,9] [(3,5),(3,10),(5,10),(6,10)] [zm 38 0,zn 39 38,zf 40 39 4,zl 41 40,zf 42 7 1,zl 43 42,zo 44 (.mapget 2 (.agg [.int .i64 0,.bool false,.int .i64 0,.int .i64 0]) true (.t 41) (.t 43)),zm 37 44,zx 45 37 0,
 zx 46 37 1,zo 8 (.alloc [.int .i64 0,.bool false,.int .i64 0,.int .i64 0]),zs 4 8 45,zm 9 46]) (.seq (.seq (.region [0,1,4,5,7,8,67] [zf 47 7 0,zl 48 47,zo 49 (.bin .eql (.t 48) (zI 0)),zm 50 49,zg 51 (.move (.t 9)) 50 false,zg 52 (.un .not (.t 51)) 50 false,zb 53 50 52,zm 54 53,zg 55 (.faddr (.t 8) 0) 54 false,zg 56 (.load none (.t 55)) 54 false,zg 57 (.move (.t 1)) 54 false,
 zg 58 (.bin .lss (.t 56) (.t 57)) 54 false,zb 59 54 58,zm 60 59,zg 61 (.faddr (.t 8) 0) 60 false,zg 62 (.load none (.t 61)) 60 false,zg 63 (.bin .eql (.t 62) (zI 7)) 60 false,zg 64 (.move (.t 63)) 60 false,zg 65 (.move (.t 6)) 64 true,zg 66 (.pick (.t 64) (.t 65) (zB false)) 60 false,zb 67 60 66]) (.cond (.t 67) (.exit 0) .skip)) (.seq (.region [0,1,4,5,7,8] [zm 68 0,zn 69 68,
 zf 70 69 1,zl 71 70,zo 72 (.bin .add (.t 71) (zI 1)),zn 73 68,zf 74 73 1,zs 1 74 72]) (.seq (.region [0,1,4,5,7,8,10] [zf 75 8 0,zl 76 75,zo 77 (.bin .add (.t 76) (zI 1)),zm 10 77]) (.seq (.seq (.region [0,1,4,5,7,8,10,79] [zf 78 8 1,zl 79 78]) (.cond (.t 79) (.region [0,1,4,5,7,8,10] [zf 80 8 0,zl 81 80,zm 10 81]) .skip)) (.seq (.draw [0,1,4,5,8]
 [(1,2),(1,3),(2,3),(1,6),(2,6),(3,6)] [zm 82 0,zL 83 3 7,zL 84 4 8,zL 85 5 5,zm 86 0,zm 87 10,zc 88 80 [.t 86,.t 87],zc 89 128 [.t 82,.t 83,.t 84,.t 85,.t 88],zs 5 5 89]) (.region [0,1,4,5,6] [zf 90 8 0,zl 91 90,zo 92 (.bin .eql (.t 91) (zI 7)),zm 6 92]))))))))))
def fc80:FC where
 nt:=101
 np:=2
 res:=[.cell 4 (some 5)]
 body:=(.seq (.region [0,1,4] [zo 4 (.alloc [.int .i64 0,.str [],.int .i64 0,.nils,.int .i64 0])]) (.seq (.seq (.region [0,1,4,21] [zm 11 0,zn 12 11,zf 13 12 3,zl 14 13,zo 15 (.bin .geq (.t 14) (zI 100)),zm 16 15,zg 17 (.move (.t 0)) 16 true,zg 18 (.call (.c (.fn 72 [] [])) [.t 17,zI 0]) 16 true,zg 19 (.field (.t 18) 0 none) 16 true,zg 20 (.bin .neq (.t 19) (zI 0)) 16 true,
  za 21 16 20]) (.cond (.t 21) (.region [0,1,4] [zm 22 0,zc 23 72 [.t 22,zI 0],zo 24 (.field (.t 23) 2 none),zc 25 82 [zI 2,.t 24]]) .skip)) (.seq (.region [0,1,4] [zm 26 0,zn 27 26,zf 28 27 3,zl 29 28,zo 30 (.bin .add (.t 29) (zI 1)),zn 31 26,zf 32 31 3,zs 1 32 30]) (.seq (.region [0,1,4,5] [zm 33 0,zc 34 127 [.t 33],zo 5 (.alloc [.int .i64 0,.str
  [],.int .i64 0,.nils,.int .i64 0]),zs 5 5 34]) (.seq (.region [0,1,4,5,6] [zo 6 (.move (zB false))]) (.seq (.block 0 (.loop [0,1,4,5,6] fc80_b0)) (.seq (.region [4,5] [zm 93 0,zn 94 93,zf 95 94 3,zl 96 95,zo 97 (.bin .sub (.t 96) (zI 1)),zn 98 93,zf 99 98 3,zs 1 99 97]) (.seq (.region [4] [zL 100 5 5,zs 5 4 100]) .ret))))))))
 frz:=true
theorem ok80:FOk Tryz.prog 80 fc80:=FOk.of Tryz.func80 (by kernel_rfl)
def fc81:FC where
 nt:=24
 np:=1
 res:=[.t 2]
 body:=(.seq (.region [0] [zi 2 0]) (.seq (.block 0 (.seq (.region [0,3] [zm 4 0,zo 5 (.bin .geq (.t 4) (zI 1)),zm 6 5,zg 7 (.move (.t 0)) 6 true,zg 8 (.bin .leq (.t 7) (zI 15)) 6 true,za 9 6 8,zm 3 9]) (.cond (.t 3) (.seq (.region [2] [zi 2 1]) .ret) (.seq (.region [0,10] [zm 11 0,zo 12 (.bin .geq (.t 11) (zI 20)),zm 13 12,zg 14 (.move (.t 0)) 13 true,zg 15 (.bin .leq
  (.t 14) (zI 23)) 13 true,za 16 13 15,zm 10 16]) (.cond (.t 10) (.seq (.region [2] [zi 2 2]) .ret) (.seq (.region [17] [zm 18 0,zo 19 (.bin .geq (.t 18) (zI 30)),zm 20 19,zg 21 (.move (.t 0)) 20 true,zg 22 (.bin .leq (.t 21) (zI 51)) 20 true,za 23 20 22,zm 17 23]) (.cond (.t 17) (.seq (.region [2] [zi 2 3]) .ret) .skip))))))) (.seq (.region [2] [zi 2 0]) .ret)))
theorem ok81:FOk Tryz.prog 81 fc81:=FOk.of Tryz.func81 (by kernel_rfl)
def fc82:FC where
 nt:=9
 np:=2
 res:=[]
 body:=(.region [] [zm 4 0,zm 5 1,zo 6 (.build [.int .i64 0,.int .i64 0] [(0,1,(.t 4)),(1,1,(.t 5))]),zo 7 (.build [.int .i64 0,.int .i64 0] [(0,2,(.t 6))]),zo 8 (.iface 123 (.t 7)),zv (.panic (.t 8))])
theorem ok82:FOk Tryz.prog 82 fc82:=FOk.of Tryz.func82 (by kernel_rfl)
def fc84_b0:SC:=
 (.loc (.seq (.seq (.draw [0,1,5,23] [(3,7)] [zm 10 0,zn 11 10,zf 12 11 1,zl 13 12,zm 14 0,zn 15 14,zf 16 15 0,zl 17 16,ze 18 0 17,zo 19 (.bin .lss (.t 13) (.t 18)),zm 20 19,zg 21 (.move (.t 1)) 20 true,zg 22 (.call (.t 21) []) 20 true,za 23 20 22]) (.cond (.t 23) .skip (.exit 0))) (.block 1 (.region [0,1,5] [zm 24 0,zn 25 24,zf 26 25 1,zl 27 26,zo 28 (.bin .add (.t 27)
 (zI 1)),zn 29 24,zf 30 29 1,zs 1 30 28]))))
def fc84:FC where
 nt:=41
 np:=2
 res:=[.t 4]
 body:=(.seq (.region [0,1] [zo 4 (.move (zS []))]) (.seq (.region [0,1,5] [zm 6 0,zn 7 6,zf 8 7 1,zl 9 8,zm 5 9]) (.seq (.block 0 (.loop [0,1,5] fc84_b0)) (.seq (.draw [4] [(3,8)] [zm 31 0,zn 32 31,zf 33 32 0,zl 34 33,zm 35 5,zm 36 0,zn 37 36,zf 38 37 1,zl 39 38,zo 40 (.slice 0 (.t 34) (some (.t 35)) (some (.t 39))),zm 4 40]) .ret))))
theorem ok84:FOk Tryz.prog 84 fc84:=FOk.of Tryz.func84 (by kernel_rfl)
def fc85:FC where
 nt:=14
 np:=1
 res:=[.t 2]
 body:=(.seq (.region [0] [zo 2 (.move (zB false))]) (.seq (.draw [2] [(3,7)] [zm 3 0,zn 4 3,zf 5 4 0,zl 6 5,zm 7 0,zn 8 7,zf 9 8 1,zl 10 9,zo 11 (.index none (.t 6) (.t 10)),zc 12 129 [zS [32,9,10,13],.t 11],zo 13 (.bin .geq (.t 12) (zI 0)),zm 2 13]) .ret))
theorem ok85:FOk Tryz.prog 85 fc85:=FOk.of Tryz.func85 (by kernel_rfl)
def fc86:FC where
 nt:=8
 np:=2
 res:=[.t 4]
 body:=(.seq (.region [0,1] [zo 4 (.move (zB false))]) (.seq (.region [4] [zm 5 0,zm 6 1,zc 7 130 [.t 5,.t 6],zm 4 7]) .ret))
theorem ok86:FOk Tryz.prog 86 fc86:=FOk.of Tryz.func86 (by kernel_rfl)
def fc87:FC where
 nt:=13
 np:=1
 res:=[.t 2]
 body:=(.seq (.region [0] [zo 2 (.move (zB false))]) (.seq (.draw [2] [(3,7)] [zm 3 0,zn 4 3,zf 5 4 0,zl 6 5,zm 7 0,zn 8 7,zf 9 8 1,zl 10 9,zo 11 (.index none (.t 6) (.t 10)),zo 12 (.bin .neq (.t 11) (.c (.p (.int .u8 10)))),zm 2 12]) .ret))
theorem ok87:FOk Tryz.prog 87 fc87:=FOk.of Tryz.func87 (by kernel_rfl)
def fc88:FC where
 nt:=20
 np:=1
 res:=[.t 2]
 body:=(.seq (.region [0] [zo 2 (.move (zB false))]) (.seq (.draw [3] [(3,7)] [zm 4 0,zn 5 4,zf 6 5 0,zl 7 6,zm 8 0,zn 9 8,zf 10 9 1,zl 11 10,zo 12 (.index none (.t 7) (.t 11)),zo 13 (.bin .or (.t 12) (.c (.p (.int .u8 32)))),zm 3 13]) (.seq (.region [2] [zm 14 3,zo 15 (.bin .geq (.t 14) (.c (.p (.int .u8 97)))),zm 16 15,zg 17 (.move (.t 3)) 16 true,zg 18 (.bin .leq (.t 17)
  (.c (.p (.int .u8 122)))) 16 true,za 19 16 18,zm 2 19]) .ret)))
theorem ok88:FOk Tryz.prog 88 fc88:=FOk.of Tryz.func88 (by kernel_rfl)
def fc89:FC where
 nt:=21
 np:=1
 res:=[.t 2]
 body:=(.seq (.region [0] [zo 2 (.move (zB false))]) (.seq (.draw [2] [(10,14)] [zm 3 0,zc 4 88 [.t 3],zm 5 4,zg 6 (.move (.t 0)) 5 false,zg 7 (.call (.c (.fn 90 [] [])) [.t 6]) 5 false,zb 8 5 7,zm 9 8,zg 10 (.move (.t 0)) 9 false,zg 11 (.nilCheck (.t 10)) 9 false,zg 12 (.faddr (.t 11) 0) 9 false,zg 13 (.load none (.t 12)) 9 false,zg 14 (.move (.t 0)) 9 false,zg 15
  (.nilCheck (.t 14)) 9 false,zg 16 (.faddr (.t 15) 1) 9 false,zg 17 (.load none (.t 16)) 9 false,zg 18 (.index none (.t 13) (.t 17)) 9 false,zg 19 (.bin .eql (.t 18) (.c (.p (.int .u8 95)))) 9 false,zb 20 9 19,zm 2 20]) .ret))
theorem ok89:FOk Tryz.prog 89 fc89:=FOk.of Tryz.func89 (by kernel_rfl)
def fc90:FC where
 nt:=25
 np:=1
 res:=[.t 2]
 body:=(.seq (.region [0] [zo 2 (.move (zB false))]) (.seq (.draw [2] [(3,7),(14,18)] [zm 3 0,zn 4 3,zf 5 4 0,zl 6 5,zm 7 0,zn 8 7,zf 9 8 1,zl 10 9,zo 11 (.index none (.t 6) (.t 10)),zo 12 (.bin .geq (.t 11) (.c (.p (.int .u8 48)))),zm 13 12,zg 14 (.move (.t 0)) 13 true,zg 15 (.nilCheck (.t 14)) 13 true,zg 16 (.faddr (.t 15) 0) 13 true,zg 17 (.load none (.t 16)) 13 true,
  zg 18 (.move (.t 0)) 13 true,zg 19 (.nilCheck (.t 18)) 13 true,zg 20 (.faddr (.t 19) 1) 13 true,zg 21 (.load none (.t 20)) 13 true,zg 22 (.index none (.t 17) (.t 21)) 13 true,zg 23 (.bin .leq (.t 22) (.c (.p (.int .u8 57)))) 13 true,za 24 13 23,zm 2 24]) .ret))
theorem ok90:FOk Tryz.prog 90 fc90:=FOk.of Tryz.func90 (by kernel_rfl)
def fc91:FC where
 nt:=41
 np:=1
 res:=[.t 2,.t 3]
 body:=(.seq (.region [0] [zo 2 (.move (zS [])),zo 3 (.move (zB false))]) (.seq (.region [0,4] [zm 6 0,zm 7 0,zo 8 (.mkfn 90 [.t 7] []),zc 9 84 [.t 6,.t 8],zm 4 9]) (.seq (.region [0,4,5] [zm 10 4,ze 11 0 10,zo 12 (.bin .leq (.t 11) (zI 9)),zm 13 12,zg 14 (.move (.t 4)) 13 true,zg 15 (.index none (.t 14) (zI 0)) 13 true,zg 16 (.bin .neq (.t 15) (.c (.p
  (.int .u8 48)))) 13 true,zg 17 (.move (.t 16)) 13 true,zg 18 (.move (.t 4)) 17 false,zg 19 (.bin .eql (.t 18) (zS [48])) 17 false,zg 20 (.pick (.t 17) (zB true) (.t 19)) 13 true,za 21 13 20,zm 5 21]) (.seq (.draw [2,3] [(6,10)] [zm 22 4,zm 23 5,zm 24 23,zg 25 (.move (.t 0)) 24 true,zg 26 (.nilCheck (.t 25)) 24 true,zg 27 (.faddr (.t 26) 1) 24 true,zg 28 (.load none
  (.t 27)) 24 true,zg 29 (.move (.t 0)) 24 true,zg 30 (.nilCheck (.t 29)) 24 true,zg 31 (.faddr (.t 30) 0) 24 true,zg 32 (.load none (.t 31)) 24 true,zg 33 (.len 0 (.t 32)) 24 true,zg 34 (.bin .eql (.t 28) (.t 33)) 24 true,zg 35 (.move (.t 34)) 24 true,zg 36 (.move (.t 0)) 35 false,zg 37 (.call (.c (.fn 89 [] [])) [.t 36]) 35 false,zg 38 (.un .not (.t 37)) 35 false,zg 39 (.pick
  (.t 35) (zB true) (.t 38)) 24 true,za 40 24 39,zm 2 22,zm 3 40]) .ret))))
theorem ok91:FOk Tryz.prog 91 fc91:=FOk.of Tryz.func91 (by kernel_rfl)
def fc92_b0:SC:=
 (.loc (.seq (.region [0,4,7,8,9] [zo 9 (.bin .lss (.t 8) (zI 29))]) (.seq (.cond (.t 9) .skip (.exit 0)) (.seq (.block 1 (.seq (.region [0,4,6,7,8] [zo 10 (.index (some (29,1,false)) (.t 7) (.t 8)),zm 6 10]) (.seq (.draw [0,4,6,7,8,21] [(3,7)] [zm 11 0,zn 12 11,zf 13 12 0,zl 14 13,zm 15 0,zn 16 15,zf 17 16 1,zl 18 17,zo 19 (.slice 0 (.t 14) (some (.t 18)) none),zm 20 6,
 zc 21 86 [.t 19,.t 20]]) (.cond (.t 21) (.seq (.region [0,4] [zm 22 6,zm 4 22]) (.exit 0)) .skip)))) (.region [0,4,7,8] [zo 23 (.bin .add (.t 8) (zI 1)),zm 8 23])))))
def fc92:FC where
 nt:=36
 np:=1
 res:=[.t 2,.t 3]
 body:=(.seq (.region [0] [zo 2 (.move (zS [])),zo 3 (.move (zB false))]) (.scope (.seq (.region [0,4] [zo 4 (.move (zS []))]) (.seq .skip (.seq (.seq (.region [0,4,7,8] [zo 7 (.load (some 29) (.c (.glob 0 0))),zi 8 0]) (.block 0 (.loop [0,4,7,8] fc92_b0))) (.seq (.region [4] [zm 24 0,zn 25 24,zf 26 25 1,zl 27 26,zm 28 4,ze 29 0 28,zo 30 (.bin .add (.t 27) (.t 29)),zn 31 24,
  zf 32 31 1,zs 1 32 30]) (.seq (.region [2,3] [zm 33 4,zm 34 4,zo 35 (.bin .neq (.t 34) (zS [])),zm 2 33,zm 3 35]) .ret)))))))
theorem ok92:FOk Tryz.prog 92 fc92:=FOk.of Tryz.func92 (by kernel_rfl)
def fc119:FC where
 nt:=11
 np:=3
 res:=[]
 body:=(.seq (.region [2,8] [zm 6 0,zm 7 1,zo 8 (.bin .geq (.t 6) (.t 7))]) (.cond (.t 8) (.region [] [zm 9 2,zc 10 82 [zI 2,.t 9]]) .skip))
theorem ok119:FOk Tryz.prog 119 fc119:=FOk.of Tryz.func119 (by kernel_rfl)
def fc120:FC where
 nt:=19
 np:=1
 res:=[.cell 2 (some 3)]
 body:=(.seq (.region [0,2] [zo 2 (.alloc [.int .i64 0,.str [],.int .i64 0])]) (.seq (.region [0,2,3] [zm 4 0,zc 5 72 [.t 4,zI 0],zo 3 (.alloc [.int .i64 0,.str [],.int .i64 0]),zs 3 3 5]) (.seq (.seq (.region [0,2,3,8] [zL 6 3 3,zc 7 136 [.t 6],zo 8 (.un .not (.t 7))]) (.cond (.t 8) (.region [0,2,3] [zm 9 0,zc 10 49 [.t 9]]) .skip)) (.seq (.region [2,3] [zm 11 0,zn 12 11,
  zf 13 12 1,zl 14 13,zo 15 (.bin .add (.t 14) (zI 1)),zn 16 11,zf 17 16 1,zs 1 17 15]) (.seq (.region [2] [zL 18 3 3,zs 3 2 18]) .ret)))))
theorem ok120:FOk Tryz.prog 120 fc120:=FOk.of Tryz.func120 (by kernel_rfl)
def fc121:FC where
 nt:=24
 np:=2
 res:=[.t 4]
 body:=(.seq (.region [0,1] [zo 4 (.move (zB false))]) (.seq (.seq (.region [0,1,5] [zm 6 0,zc 7 72 [.t 6,zI 0],zo 5 (.alloc [.int .i64 0,.str [],.int .i64 0]),zs 3 5 7]) (.seq (.region [0,16] [zf 8 5 0,zl 9 8,zo 10 (.bin .eql (.t 9) (zI 0)),zm 11 10,zg 12 (.faddr (.t 5) 1) 11 false,zg 13 (.load none (.t 12)) 11 false,zg 14 (.move (.t 1)) 11 false,zg 15 (.bin .neq (.t 13)
  (.t 14)) 11 false,zb 16 11 15]) (.cond (.t 16) (.seq (.region [4] [zo 4 (.move (zB false))]) .ret) .skip))) (.seq (.region [] [zm 17 0,zn 18 17,zf 19 18 1,zl 20 19,zo 21 (.bin .add (.t 20) (zI 1)),zn 22 17,zf 23 22 1,zs 1 23 21]) (.seq (.region [4] [zo 4 (.move (zB true))]) .ret))))
theorem ok121:FOk Tryz.prog 121 fc121:=FOk.of Tryz.func121 (by kernel_rfl)
def fc122:FC where
 nt:=10
 np:=2
 res:=[]
 body:=(.seq (.region [0,7] [zm 4 0,zm 5 1,zc 6 121 [.t 4,.t 5],zo 7 (.un .not (.t 6))]) (.cond (.t 7) (.region [] [zm 8 0,zc 9 49 [.t 8]]) .skip))
theorem ok122:FOk Tryz.prog 122 fc122:=FOk.of Tryz.func122 (by kernel_rfl)
def fc123_b0:SC:=
 (.seq (.seq (.region [0,3,4,20] [zm 19 4,zo 20 (.bin .geq (.t 19) (zI 0))]) (.cond (.t 20) .skip (.exit 0))) (.seq (.block 1 (.seq (.draw [0,3,4,34] [(4,10),(8,10)] [zm 23 0,zn 24 23,zf 25 24 8,zf 26 25 0,zl 27 26,zm 28 4,zo 29 (.iaddr none 2 (.t 27) (.t 28)),zf 30 29 0,zl 31 30,zf 32 3 1,zl 33 32,zo 34 (.bin .eql (.t 31) (.t 33))]) (.cond (.t 34) (.seq (.region [4] [zm 35 0,
 zn 36 35,zf 37 36 1,zl 38 37,zo 39 (.bin .add (.t 38) (zI 1)),zn 40 35,zf 41 40 1,zs 1 41 39]) (.seq (.region [2] [zm 42 4,zm 2 42]) .ret)) .skip))) (.region [0,3,4] [zm 21 4,zo 22 (.bin .sub (.t 21) (zI 1)),zm 4 22])))
def fc123:FC where
 nt:=46
 np:=1
 res:=[.t 2]
 body:=(.seq (.region [0] [zi 2 0]) (.seq (.region [0,3] [zm 5 0,zc 6 72 [.t 5,zI 0],zo 3 (.alloc [.int .i64 0,.str [],.int .i64 0]),zs 3 3 6]) (.seq (.seq (.region [0,3,9] [zL 7 3 3,zc 8 136 [.t 7],zo 9 (.un .not (.t 8))]) (.cond (.t 9) (.region [0,3] [zm 10 0,zc 11 49 [.t 10]]) .skip)) (.seq (.seq (.region [0,3,4] [zm 12 0,zn 13 12,zf 14 13 8,zf 15 14 0,zl 16 15,ze 17 1 16,
  zo 18 (.bin .sub (.t 17) (zI 1)),zm 4 18]) (.block 0 (.loop [0,3,4] fc123_b0))) (.seq (.region [] [zf 43 3 2,zl 44 43,zc 45 82 [zI 40,.t 44]]) (.seq (.region [2] [zi 2 0]) .ret))))))
theorem ok123:FOk Tryz.prog 123 fc123:=FOk.of Tryz.func123 (by kernel_rfl)
def fc124:FC where
 nt:=11
 np:=1
 res:=[.cell 2 (some 5)]
 body:=(.seq (.region [0,2] [zo 2 (.alloc [.int .i64 0,.str [],.int .i64 0,.nils,.int .i64 0])]) (.seq (.region [0,2] [zm 4 0,zc 5 122 [.t 4,zS [123]]]) (.seq (.region [0,2,3] [zm 6 0,zc 7 48 [.t 6],zo 3 (.alloc [.int .i64 0,.str [],.int .i64 0,.nils,.int .i64 0]),zs 5 3 7]) (.seq (.region [2,3] [zm 8 0,zc 9 122 [.t 8,zS [125]]]) (.seq (.region [2] [zL 10 5 3,zs 5 2 10]) .ret)))))
 frz:=true
theorem ok124:FOk Tryz.prog 124 fc124:=FOk.of Tryz.func124 (by kernel_rfl)
def fc125_b0:SC:=
 (.seq (.region [18,19,20,21] [zo 21 (.bin .lss (.t 20) (.t 19))]) (.seq (.cond (.t 21) .skip (.exit 0)) (.seq (.block 1 (.seq (.region [3,4,18,19,20] [zm 22 20,zo 23 (.iaddr none 1 (.t 18) (.t 20)),zl 24 23,zm 3 22,zm 4 24]) (.seq (.region [3,4,5,18,19,20] [zm 25 4,zo 26 (.bin .geq (.t 25) (.c (.p (.int .u8 97)))),zm 27 26,zg 28 (.move (.t 4)) 27 true,zg 29 (.bin .leq (.t 28)
 (.c (.p (.int .u8 122)))) 27 true,za 30 27 29,zm 31 30,zg 32 (.move (.t 4)) 31 false,zg 33 (.bin .geq (.t 32) (.c (.p (.int .u8 65)))) 31 false,zg 34 (.move (.t 33)) 31 false,zg 35 (.move (.t 4)) 34 true,zg 36 (.bin .leq (.t 35) (.c (.p (.int .u8 90)))) 34 true,zg 37 (.pick (.t 34) (.t 36) (zB false)) 31 false,zb 38 31 37,zm 5 38]) (.seq (.region [18,19,20,56] [zm 39 5,zo 40
 (.un .not (.t 39)),zm 41 40,zg 42 (.move (.t 3)) 41 true,zg 43 (.bin .eql (.t 42) (zI 0)) 41 true,zg 44 (.move (.t 43)) 41 true,zg 45 (.move (.t 4)) 44 false,zg 46 (.bin .neq (.t 45) (.c (.p (.int .u8 95)))) 44 false,zg 47 (.move (.t 46)) 44 false,zg 48 (.move (.t 4)) 47 true,zg 49 (.bin .lss (.t 48) (.c (.p (.int .u8 48)))) 47 true,zg 50 (.move (.t 49)) 47 true,zg 51 (.move
 (.t 4)) 50 false,zg 52 (.bin .gtr (.t 51) (.c (.p (.int .u8 57)))) 50 false,zg 53 (.pick (.t 50) (zB true) (.t 52)) 47 true,zg 54 (.pick (.t 47) (.t 53) (zB false)) 44 false,zg 55 (.pick (.t 44) (zB true) (.t 54)) 41 true,za 56 41 55]) (.cond (.t 56) (.seq (.region [2] [zo 2 (.move (zB false))]) .ret) .skip))))) (.region [18,19,20] [zo 57 (.bin .add (.t 20) (zI 1)),zm 20 57]))))
def fc125:FC where
 nt:=58
 np:=1
 res:=[.t 2]
 body:=(.seq (.region [0] [zo 2 (.move (zB false))]) (.seq (.seq (.region [0,16] [zm 6 0,zo 7 (.bin .eql (.t 6) (zS [])),zm 8 7,zg 9 (.move (.t 0)) 8 false,zg 10 (.len 0 (.t 9)) 8 false,zg 11 (.bin .gtr (.t 10) (zI 16)) 8 false,zb 12 8 11,zm 13 12,zg 14 (.move (.t 0)) 13 false,zg 15 (.call (.c (.fn 137 [] [])) [.t 14]) 13 false,zb 16 13 15]) (.cond (.t 16) (.seq (.region [2]
  [zo 2 (.move (zB false))]) .ret) .skip)) (.seq (.seq (.region [18,19,20] [zm 17 0,zo 18 (.toBytes 5 (.t 17)),ze 19 1 18,zi 20 0]) (.block 0 (.loop [18,19,20] fc125_b0))) (.seq (.region [2] [zo 2 (.move (zB true))]) .ret))))
theorem ok125:FOk Tryz.prog 125 fc125:=FOk.of Tryz.func125 (by kernel_rfl)
def fc127_b0:SC:=
 (.loc (.seq (.seq (.region [0,2,6,95] [zm 92 0,zc 93 72 [.t 92,zI 0],zo 94 (.field (.t 93) 1 none),zo 95 (.bin .eql (.t 94) (zS [39]))]) (.cond (.t 95) .skip (.exit 0))) (.block 1 (.seq (.region [0,2,6,7] [zm 96 0,zc 97 72 [.t 96,zI 0],zo 98 (.field (.t 97) 2 none),zm 7 98]) (.seq (.region [0,2,6,7] [zm 99 0,zn 100 99,zf 101 100 1,zl 102 101,zo 103 (.bin .add (.t 102) (zI 1)),
 zn 104 99,zf 105 104 1,zs 1 105 103]) (.region [0,2,6] [zm 106 0,zL 107 5 6,zo 108 (.bslice 39 5 1 (.agg [.int .i64 0,.str [],.int .i64 0,.nils,.int .i64 0]) [(0,(.t 107))]),zm 109 7,zo 110 (.build [.int .i64 0,.str [],.int .i64 0,.nils,.int .i64 0] [(0,1,(zI 5)),(3,1,(.t 108)),(4,1,(.t 109))]),zc 111 142 [.t 106,.t 110],zs 5 6 111]))))))
def fc127:FC where
 nt:=113
 np:=1
 res:=[.cell 2 (some 5)]
 body:=(.seq (.region [0,2] [zo 2 (.alloc [.int .i64 0,.str [],.int .i64 0,.nils,.int .i64 0])]) (.seq (.region [0,2,3] [zm 8 0,zc 9 72 [.t 8,zI 0],zo 3 (.alloc [.int .i64 0,.str [],.int .i64 0]),zs 3 3 9]) (.seq (.seq (.region [0,2,3,17] [zf 10 3 0,zl 11 10,zo 12 (.bin .neq (.t 11) (zI 0)),zm 13 12,zg 14 (.faddr (.t 3) 1) 13 true,zg 15 (.load none (.t 14)) 13 true,zg 16
  (.bin .eql (.t 15) (zS [97,108,108])) 13 true,za 17 13 16]) (.cond (.t 17) (.seq (.region [0,2,3] [zm 18 0,zn 19 18,zf 20 19 1,zl 21 20,zo 22 (.bin .add (.t 21) (zI 1)),zn 23 18,zf 24 23 1,zs 1 24 22]) (.seq (.region [2] [zm 25 0,zf 26 3 2,zl 27 26,zc 28 141 [.t 25,zI 45,.t 27],zs 5 2 28]) .ret)) .skip)) (.seq (.seq (.region [0,2,3,42] [zf 29 3 1,zl 30 29,zo 31 (.bin .eql
  (.t 30) (zS [115,111,109,101])),zm 32 31,zg 33 (.move (.t 0)) 32 true,zg 34 (.call (.c (.fn 72 [] [])) [.t 33,zI 1]) 32 true,zg 35 (.call (.c (.fn 136 [] [])) [.t 34]) 32 true,za 36 32 35,zm 37 36,zg 38 (.move (.t 0)) 37 true,zg 39 (.call (.c (.fn 72 [] [])) [.t 38,zI 2]) 37 true,zg 40 (.field (.t 39) 1 none) 37 true,zg 41 (.bin .eql (.t 40) (zS [58])) 37 true,za 42 37 41])
  (.cond (.t 42) (.seq (.region [0,2,3] [zm 43 0,zn 44 43,zf 45 44 1,zl 46 45,zo 47 (.bin .add (.t 46) (zI 1)),zn 48 43,zf 49 48 1,zs 1 49 47]) (.seq (.region [2] [zm 50 0,zf 51 3 2,zl 52 51,zc 53 141 [.t 50,zI 46,.t 52],zs 5 2 53]) .ret)) .skip)) (.seq (.seq (.draw [0,2,3,4,5] [(3,5),(3,10),(5,10),(6,10)] [zm 55 0,zn 56 55,zf 57 56 5,zl 58 57,zf 59 3 1,zl 60 59,zo 61
  (.mapget 2 (.agg [.int .i64 0,.int .i64 0]) true (.t 58) (.t 60)),zm 54 61,zx 62 54 0,zx 63 54 1,zo 4 (.alloc [.int .i64 0,.int .i64 0]),zs 2 4 62,zm 5 63]) (.seq (.region [0,2,3,4,69] [zm 64 5,zm 65 64,zg 66 (.faddr (.t 3) 0) 65 true,zg 67 (.load none (.t 66)) 65 true,zg 68 (.bin .neq (.t 67) (zI 0)) 65 true,za 69 65 68]) (.cond (.t 69) (.seq (.region [0,2,3,4] [zm 70 0,
  zn 71 70,zf 72 71 1,zl 73 72,zo 74 (.bin .add (.t 73) (zI 1)),zn 75 70,zf 76 75 1,zs 1 76 74]) (.seq (.draw [2] [(2,5),(2,6),(2,9),(5,9),(6,9)] [zm 77 0,zf 78 4 1,zl 79 78,zm 80 0,zf 81 4 0,zl 82 81,zc 83 80 [.t 80,.t 82],zo 84 (.bslice 39 5 1 (.agg [.int .i64 0,.str [],.int .i64 0,.nils,.int .i64 0]) [(0,(.t 83))]),zf 85 3 2,zl 86 85,zo 87 (.build [.int .i64 0,.str
  [],.int .i64 0,.nils,.int .i64 0] [(0,1,(.t 79)),(3,1,(.t 84)),(4,1,(.t 86))]),zc 88 142 [.t 77,.t 87],zs 5 2 88]) .ret)) .skip))) (.seq (.region [0,2,6] [zm 89 0,zL 90 3 3,zc 91 143 [.t 89,.t 90],zo 6 (.alloc [.int .i64 0,.str [],.int .i64 0,.nils,.int .i64 0]),zs 5 6 91]) (.seq (.block 0 (.loop [0,2,6] fc127_b0)) (.seq (.region [2] [zL 112 5 6,zs 5 2 112]) .ret))))))))
 frz:=true
theorem ok127:FOk Tryz.prog 127 fc127:=FOk.of Tryz.func127 (by kernel_rfl)
def fc128:FC where
 nt:=58
 np:=5
 res:=[.cell 10 (some 5)]
 body:=(.seq (.region [0,6,7,8,9,10] [zo 6 (.box (.t 1)),zo 7 (.box (.t 2)),zo 8 (.box (.t 3)),zo 9 (.box (.t 4)),zo 10 (.alloc [.int .i64 0,.str [],.int .i64 0,.nils,.int .i64 0])]) (.seq (.region [0,6,7,8,9,10,11] [zf 13 7 2,zl 14 13,zm 11 14]) (.seq (.seq (.region [0,6,7,8,9,10,11,22] [zf 15 8 0,zl 16 15,zc 17 81 [.t 16],zo 18 (.bin .neq (.t 17) (zI 1)),zm 19 18,zg 20
  (.move (.t 11)) 19 false,zg 21 (.bin .eql (.t 20) (zI 0)) 19 false,zb 22 19 21]) (.cond (.t 22) (.region [0,6,8,9,10,11] [zf 23 7 3,zl 24 23,zm 11 24]) .skip)) (.seq (.seq (.region [0,6,8,9,10,11,26] [zm 25 11,zo 26 (.bin .eql (.t 25) (zI 0))]) (.cond (.t 26) (.region [0,6,8,9,10,11] [zf 27 6 2,zl 28 27,zc 29 82 [zI 43,.t 28]]) .skip)) (.seq (.seq (.region [0,6,8,9,10,11,32]
  [zf 30 6 1,zl 31 30,zo 32 (.bin .eql (.t 31) (zS [60,61]))]) (.cond (.t 32) (.region [0,6,8,9,10,11] [zL 33 5 9,zL 34 5 8,zs 5 8 33,zs 5 9 34]) .skip)) (.seq (.region [6,10,12] [zm 35 0,zm 36 11,zL 37 5 8,zL 38 5 9,zo 39 (.bslice 39 5 2 (.agg [.int .i64 0,.str [],.int .i64 0,.nils,.int .i64 0]) [(0,(.t 37)),(1,(.t 38))]),zf 40 6 2,zl 41 40,zo 42 (.build [.int .i64 0,.str
  [],.int .i64 0,.nils,.int .i64 0] [(0,1,(.t 36)),(3,1,(.t 39)),(4,1,(.t 41))]),zc 43 142 [.t 35,.t 42],zo 12 (.alloc [.int .i64 0,.str [],.int .i64 0,.nils,.int .i64 0]),zs 5 12 43]) (.seq (.seq (.region [6,10,12,51] [zf 44 6 1,zl 45 44,zo 46 (.bin .eql (.t 45) (zS [33,61])),zm 47 46,zg 48 (.faddr (.t 6) 1) 47 false,zg 49 (.load none (.t 48)) 47 false,zg 50 (.bin .eql (.t 49)
  (zS [60,61])) 47 false,zb 51 47 50]) (.cond (.t 51) (.region [10,12] [zL 52 5 12,zo 53 (.bslice 39 5 1 (.agg [.int .i64 0,.str [],.int .i64 0,.nils,.int .i64 0]) [(0,(.t 52))]),zf 54 6 2,zl 55 54,zo 56 (.build [.int .i64 0,.str [],.int .i64 0,.nils,.int .i64 0] [(0,1,(zI 40)),(3,1,(.t 53)),(4,1,(.t 55))]),zs 5 12 56]) .skip)) (.seq (.region [10] [zL 57 5 12,zs 5 10 57]) .ret))))))))
 frz:=true
theorem ok128:FOk Tryz.prog 128 fc128:=FOk.of Tryz.func128 (by kernel_rfl)
def fc129:FC where
 nt:=8
 np:=2
 res:=[.t 4]
 body:=(.seq (.region [0,1] [zi 4 0]) (.seq (.region [4] [zm 5 0,zm 6 1,zc 7 144 [.t 5,.t 6],zm 4 7]) .ret))
theorem ok129:FOk Tryz.prog 129 fc129:=FOk.of Tryz.func129 (by kernel_rfl)
def fc130:FC where
 nt:=18
 np:=2
 res:=[.t 4]
 body:=(.seq (.region [0,1] [zo 4 (.move (zB false))]) (.seq (.region [4] [zm 5 0,ze 6 0 5,zm 7 1,ze 8 0 7,zo 9 (.bin .geq (.t 6) (.t 8)),zm 10 9,zg 11 (.move (.t 0)) 10 true,zg 12 (.move (.t 1)) 10 true,zg 13 (.len 0 (.t 12)) 10 true,zg 14 (.slice 0 (.t 11) none (some (.t 13))) 10 true,zg 15 (.move (.t 1)) 10 true,zg 16 (.bin .eql (.t 14) (.t 15)) 10 true,za 17 10 16,zm 4 17]) .ret))
theorem ok130:FOk Tryz.prog 130 fc130:=FOk.of Tryz.func130 (by kernel_rfl)
def fc136:FC where
 nt:=12
 np:=1
 res:=[.t 2]
 body:=(.seq (.region [1] [zo 1 (.box (.t 0)),zo 2 (.move (zB false))]) (.seq (.region [2] [zf 3 1 0,zl 4 3,zo 5 (.bin .eql (.t 4) (zI 1)),zm 6 5,zg 7 (.faddr (.t 1) 1) 6 true,zg 8 (.load none (.t 7)) 6 true,zg 9 (.call (.c (.fn 137 [] [])) [.t 8]) 6 true,zg 10 (.un .not (.t 9)) 6 true,za 11 6 10,zm 2 11]) .ret))
theorem ok136:FOk Tryz.prog 136 fc136:=FOk.of Tryz.func136 (by kernel_rfl)
def fc137:FC where
 nt:=7
 np:=1
 res:=[.t 2]
 body:=(.seq (.region [0] [zo 2 (.move (zB false))]) (.seq (.region [2] [zm 3 0,zo 4 (.bin .add (zS [32]) (.t 3)),zo 5 (.bin .add (.t 4) (zS [32])),zc 6 149 [zS
  [32,115,111,114,116,32,111,114,100,101,114,101,100,32,118,97,114,32,102,105,101,108,100,32,112,114,101,100,32,102,97,99,116,32,97,108,108,32,115,111,109,101,32,110,111,32,111,110,101,32,108,111,110,101,32,97,108,119,97,121,115,32,101,118,101,110,116,117,97,108,108,121,32,97,102,116,101,114,32,117,110,116,105,108,32,110,111,110,101,32,117,110,105,118,32,105,100,101,110,32,105,
  110,32,110,111,116,32,116,114,117,101,32,102,97,108,115,101,32],.t 5],zm 2 6]) .ret))
theorem ok137:FOk Tryz.prog 137 fc137:=FOk.of Tryz.func137 (by kernel_rfl)
def fc141:FC where
 nt:=28
 np:=3
 res:=[.cell 6 (some 5)]
 body:=(.seq (.region [0,1,2,6] [zo 6 (.alloc [.int .i64 0,.str [],.int .i64 0,.nils,.int .i64 0])]) (.seq (.region [0,1,2,6,7] [zm 9 0,zc 10 120 [.t 9],zo 7 (.alloc [.int .i64 0,.str [],.int .i64 0]),zs 3 7 10]) (.seq (.region [0,1,2,6,7] [zm 11 0,zc 12 122 [.t 11,zS [58]]]) (.seq (.region [0,1,2,6,7,8] [zm 13 0,zc 14 80 [.t 13,zI 8],zo 8 (.alloc [.int .i64 0,.str
  [],.int .i64 0,.nils,.int .i64 0]),zs 5 8 14]) (.seq (.region [0,1,2,6,7,8] [zm 15 0,zc 16 122 [.t 15,zS [124]]]) (.seq (.draw [6] [(3,4),(3,6),(4,6)] [zm 17 0,zm 18 1,zf 19 7 1,zl 20 19,zL 21 5 8,zm 22 0,zc 23 80 [.t 22,zI 1],zo 24 (.bslice 39 5 2 (.agg [.int .i64 0,.str [],.int .i64 0,.nils,.int .i64 0]) [(0,(.t 21)),(1,(.t 23))]),zm 25 2,zo 26 (.build [.int .i64 0,.str
  [],.int .i64 0,.nils,.int .i64 0] [(0,1,(.t 18)),(1,1,(.t 20)),(3,1,(.t 24)),(4,1,(.t 25))]),zc 27 142 [.t 17,.t 26],zs 5 6 27]) .ret))))))
 frz:=true
theorem ok141:FOk Tryz.prog 141 fc141:=FOk.of Tryz.func141 (by kernel_rfl)
def fc142:FC where
 nt:=19
 np:=2
 res:=[.cell 4 (some 5)]
 body:=(.seq (.region [0,3,4] [zo 3 (.box (.t 1)),zo 4 (.alloc [.int .i64 0,.str [],.int .i64 0,.nils,.int .i64 0])]) (.seq (.seq (.draw [3,4,14] [(3,5),(3,7),(5,7)] [zm 5 0,zn 6 5,zf 7 6 6,zl 8 7,zf 9 3 0,zl 10 9,zf 11 3 3,zl 12 11,zc 13 79 [.t 8,.t 10,.t 12],zo 14 (.un .not (.t 13))]) (.cond (.t 14) (.region [3,4] [zf 15 3 4,zl 16 15,zc 17 82 [zI 43,.t 16]]) .skip)) (.seq
  (.region [4] [zL 18 5 3,zs 5 4 18]) .ret)))
 frz:=true
theorem ok142:FOk Tryz.prog 142 fc142:=FOk.of Tryz.func142 (by kernel_rfl)
def fc143:FC where
 nt:=113
 np:=2
 res:=[.cell 4 (some 5)]
 body:=(.seq (.region [0,3,4] [zo 3 (.box (.t 1)),zo 4 (.alloc [.int .i64 0,.str [],.int .i64 0,.nils,.int .i64 0])]) (.seq (.region [0,3,4,5] [zo 10 (.mkmap 2),zv (.mapins 2 (.t 10) (zS [116,114,117,101]) (zI 30)),zv (.mapins 2 (.t 10) (zS [102,97,108,115,101]) (zI 31)),zv (.mapins 2 (.t 10) (zS [117,110,105,118]) (zI 3)),zv (.mapins 2 (.t 10) (zS [105,100,101,110]) (zI 4)),
  zm 11 10,zm 5 11]) (.seq (.seq (.region [0,3,4,6,7] [zm 13 5,zf 14 3 1,zl 15 14,zo 16 (.mapget 2 (.int .i64 0) true (.t 13) (.t 15)),zm 12 16,zx 17 12 0,zx 18 12 1,zm 6 17,zm 7 18]) (.seq (.region [0,3,4,6,19] [zm 19 7]) (.cond (.t 19) (.seq (.region [3,4,6] [zm 20 0,zn 21 20,zf 22 21 1,zl 23 22,zo 24 (.bin .add (.t 23) (zI 1)),zn 25 20,zf 26 25 1,zs 1 26 24]) (.seq (.region
  [4] [zm 27 6,zf 28 3 2,zl 29 28,zo 30 (.build [.int .i64 0,.str [],.int .i64 0,.nils,.int .i64 0] [(0,1,(.t 27)),(4,1,(.t 29))]),zs 5 4 30]) .ret)) .skip))) (.seq (.block 0 (.seq (.region [0,3,4,31] [zf 32 3 0,zl 33 32,zo 34 (.bin .eql (.t 33) (zI 2)),zm 31 34]) (.cond (.t 31) (.seq (.draw [4] [(1,3)] [zm 35 0,zc 36 153 [.t 35,zI 64],zf 37 3 2,zl 38 37,zo 39 (.build
  [.int .i64 0,.str [],.int .i64 0,.nils,.int .i64 0] [(0,1,(zI 20)),(2,1,(.t 36)),(4,1,(.t 38))]),zs 5 4 39]) .ret) (.seq (.region [0,3,4,40] [zf 41 3 1,zl 42 41,zo 43 (.bin .eql (.t 42) (zS [45])),zm 44 43,zg 45 (.move (.t 0)) 44 true,zg 46 (.call (.c (.fn 72 [] [])) [.t 45,zI 1]) 44 true,zg 47 (.field (.t 46) 0 none) 44 true,zg 48 (.bin .eql (.t 47) (zI 2)) 44 true,
  za 49 44 48,zm 40 49]) (.cond (.t 40) (.seq (.region [0,3,4] [zm 50 0,zn 51 50,zf 52 51 1,zl 53 52,zo 54 (.bin .add (.t 53) (zI 1)),zn 55 50,zf 56 55 1,zs 1 56 54]) (.seq (.draw [4] [(1,4)] [zm 57 0,zc 58 153 [.t 57,zI 64],zo 59 (.un .neg (.t 58)),zf 60 3 2,zl 61 60,zo 62 (.build [.int .i64 0,.str [],.int .i64 0,.nils,.int .i64 0] [(0,1,(zI 20)),(2,1,(.t 59)),(4,1,(.t 61))]),
  zs 5 4 62]) .ret)) (.seq (.region [0,3,4,63] [zf 64 3 1,zl 65 64,zo 66 (.bin .eql (.t 65) (zS [45])),zm 63 66]) (.cond (.t 63) (.seq (.region [0,3,4] [zm 67 0,zn 68 67,zf 69 68 1,zl 70 69,zo 71 (.bin .add (.t 70) (zI 1)),zn 72 67,zf 73 72 1,zs 1 73 71]) (.region [0,3,4] [zm 74 0,zc 75 49 [.t 74]])) (.seq (.region [0,3,4,76] [zm 77 0,zc 78 121 [.t 77,zS [110,111,110,101]],
  zm 76 78]) (.cond (.t 76) (.seq (.region [4] [zm 79 0,zf 80 3 2,zl 81 80,zc 82 154 [.t 79,.t 81],zs 5 4 82]) .ret) (.seq (.region [0,3,4,83] [zm 84 0,zc 85 121 [.t 84,zS [123]],zm 83 85]) (.cond (.t 83) (.seq (.region [0,4,8] [zm 86 0,zf 87 3 2,zl 88 87,zc 89 141 [.t 86,zI 15,.t 88],zo 8 (.alloc [.int .i64 0,.str [],.int .i64 0,.nils,.int .i64 0]),zs 5 8 89]) (.seq (.region
  [4,8] [zm 90 0,zc 91 122 [.t 90,zS [125]]]) (.seq (.region [4] [zL 92 5 8,zs 5 4 92]) .ret))) (.seq (.region [0,3,4,93] [zm 94 0,zc 95 121 [.t 94,zS [40]],zm 93 95]) (.cond (.t 93) (.seq (.region [0,4,9] [zm 96 0,zc 97 80 [.t 96,zI 1],zo 9 (.alloc [.int .i64 0,.str [],.int .i64 0,.nils,.int .i64 0]),zs 5 9 97]) (.seq (.region [4,9] [zm 98 0,zc 99 122 [.t 98,zS [41]]]) (.seq
  (.region [4] [zL 100 5 9,zs 5 4 100]) .ret))) .skip))))))))))))) (.seq (.region [0,3,4] [zm 101 0,zc 102 120 [.t 101]]) (.seq (.seq (.region [0,3,4,104] [zm 103 0,zc 104 121 [.t 103,zS [91]]]) (.cond (.t 104) (.seq (.region [4] [zm 105 0,zL 106 3 3,zc 107 155 [.t 105,.t 106],zs 5 4 107]) .ret) .skip)) (.seq (.region [4] [zf 108 3 1,zl 109 108,zf 110 3 2,zl 111 110,zo 112
  (.build [.int .i64 0,.str [],.int .i64 0,.nils,.int .i64 0] [(0,1,(zI 1)),(1,1,(.t 109)),(4,1,(.t 111))]),zs 5 4 112]) .ret)))))))
 frz:=true
theorem ok143:FOk Tryz.prog 143 fc143:=FOk.of Tryz.func143 (by kernel_rfl)
def fc153:FC where
 nt:=39
 np:=2
 res:=[.t 4]
 body:=(.seq (.region [0,1] [zi 4 0]) (.seq (.region [0,1,5] [zm 8 0,zc 9 72 [.t 8,zI 0],zo 5 (.alloc [.int .i64 0,.str [],.int .i64 0]),zs 3 5 9]) (.seq (.seq (.region [0,1,5,12] [zf 10 5 0,zl 11 10,zo 12 (.bin .neq (.t 11) (zI 2))]) (.cond (.t 12) (.region [0,1,5] [zm 13 0,zc 14 49 [.t 13]]) .skip)) (.seq (.region [0,1,5,6,7] [zf 16 5 1,zl 17 16,zc 18 164 [.t 17],zm 15 18,
  zx 19 15 0,zx 20 15 1,zm 6 19,zm 7 20]) (.seq (.seq (.region [0,5,6,27] [zm 21 7,zo 22 (.eqk 4 true (.t 21) (.c (.p (.nili)))),zm 23 22,zg 24 (.move (.t 6)) 23 false,zg 25 (.move (.t 1)) 23 false,zg 26 (.bin .gtr (.t 24) (.t 25)) 23 false,zb 27 23 26]) (.cond (.t 27) (.region [0,6] [zf 28 5 2,zl 29 28,zc 30 82 [zI 2,.t 29]]) .skip)) (.seq (.region [6] [zm 31 0,zn 32 31,
  zf 33 32 1,zl 34 33,zo 35 (.bin .add (.t 34) (zI 1)),zn 36 31,zf 37 36 1,zs 1 37 35]) (.seq (.region [4] [zm 38 6,zm 4 38]) .ret)))))))
theorem ok153:FOk Tryz.prog 153 fc153:=FOk.of Tryz.func153 (by kernel_rfl)
def fc154:FC where
 nt:=42
 np:=2
 res:=[.cell 4 (some 5)]
 body:=(.seq (.region [0,1,4] [zo 4 (.alloc [.int .i64 0,.str [],.int .i64 0,.nils,.int .i64 0])]) (.seq (.region [0,4,5] [zm 7 1,zo 8 (.build [.int .i64 0,.str [],.int .i64 0,.nils,.int .i64 0] [(0,1,(zI 2)),(2,1,(zI 1)),(4,1,(.t 7))]),zo 5 (.alloc [.int .i64 0,.str [],.int .i64 0,.nils,.int .i64 0]),zs 5 5 8]) (.seq (.seq (.region [0,4,5,10] [zm 9 0,zc 10 121 [.t 9,zS
  [91]]]) (.cond (.t 10) (.seq (.seq (.region [0,4,5,6] [zm 11 0,zc 12 72 [.t 11,zI 0],zo 6 (.alloc [.int .i64 0,.str [],.int .i64 0]),zs 3 6 12]) (.seq (.region [0,4,5,33] [zf 13 6 0,zl 14 13,zo 15 (.bin .neq (.t 14) (zI 2)),zm 16 15,zg 17 (.faddr (.t 6) 1) 16 false,zg 18 (.load none (.t 17)) 16 false,zg 19 (.len 0 (.t 18)) 16 false,zg 20 (.bin .neq (.t 19) (zI 1)) 16 false,
  zb 21 16 20,zm 22 21,zg 23 (.faddr (.t 6) 1) 22 false,zg 24 (.load none (.t 23)) 22 false,zg 25 (.index none (.t 24) (zI 0)) 22 false,zg 26 (.bin .lss (.t 25) (.c (.p (.int .u8 49)))) 22 false,zb 27 22 26,zm 28 27,zg 29 (.faddr (.t 6) 1) 28 false,zg 30 (.load none (.t 29)) 28 false,zg 31 (.index none (.t 30) (zI 0)) 28 false,zg 32 (.bin .gtr (.t 31) (.c (.p
  (.int .u8 51)))) 28 false,zb 33 28 32]) (.cond (.t 33) (.region [0,4,5] [zm 34 0,zc 35 49 [.t 34]]) .skip))) (.seq (.region [0,4,5] [zm 36 0,zc 37 153 [.t 36,zI 3],zf 38 5 2,zs 1 38 37]) (.region [4,5] [zm 39 0,zc 40 122 [.t 39,zS [93]]]))) .skip)) (.seq (.region [4] [zL 41 5 5,zs 5 4 41]) .ret))))
 frz:=true
theorem ok154:FOk Tryz.prog 154 fc154:=FOk.of Tryz.func154 (by kernel_rfl)
def fc155_b0:SC:=
 (.loc (.seq (.seq (.region [0,4,5,13] [zm 11 0,zc 12 121 [.t 11,zS [93]],zo 13 (.un .not (.t 12))]) (.cond (.t 13) .skip (.exit 0))) (.block 1 (.seq (.seq (.region [0,4,5,17] [zf 14 5 3,zl 15 14,ze 16 1 15,zo 17 (.bin .gtr (.t 16) (zI 0))]) (.cond (.t 17) (.region [0,4,5] [zm 18 0,zc 19 122 [.t 18,zS [44]]]) .skip)) (.draw [0,4,5] [(1,3)] [zf 20 5 3,zl 21 20,zm 22 0,zc 23 80
 [.t 22,zI 8],zo 24 (.bslice 39 5 1 (.agg [.int .i64 0,.str [],.int .i64 0,.nils,.int .i64 0]) [(0,(.t 23))]),zo 25 (.append 39 5 64 (.t 21) (.t 24)),zf 26 5 3,zs 1 26 25])))))
def fc155:FC where
 nt:=30
 np:=2
 res:=[.cell 4 (some 5)]
 body:=(.seq (.region [0,3,4] [zo 3 (.box (.t 1)),zo 4 (.alloc [.int .i64 0,.str [],.int .i64 0,.nils,.int .i64 0])]) (.seq (.region [0,4,5] [zf 6 3 1,zl 7 6,zf 8 3 2,zl 9 8,zo 10 (.build [.int .i64 0,.str [],.int .i64 0,.nils,.int .i64 0] [(0,1,(zI 47)),(1,1,(.t 7)),(4,1,(.t 9))]),zo 5 (.alloc [.int .i64 0,.str [],.int .i64 0,.nils,.int .i64 0]),zs 5 5 10]) (.seq (.loc
  (.seq (.tokb 5 3 39 5) (.block 0 (.loop [0,4,5] fc155_b0)))) (.seq (.region [4] [zm 27 0,zL 28 5 5,zc 29 142 [.t 27,.t 28],zs 5 4 29]) .ret))))
 frz:=true
theorem ok155:FOk Tryz.prog 155 fc155:=FOk.of Tryz.func155 (by kernel_rfl)
def repL:Nat→List UInt8→List UInt8
 | 0,_=>[]
 |n+1,s=>s++repL n s
def pgL:CallR:=fun f args H=>
 match f,args with
 | 144,[.p (.str s),.p (.int .u8 c)]=>some (.val (.p (.int .i64 (Lib.indexByte s (UInt8.ofNat c.toNat)))),H)
 | 135,[.p (.int .i64 n)]=>if -9223372036854775808≤n∧n≤9223372036854775807 then some (.val (.p (.str (Lib.itoa n))),H) else none
 | 149,[.p (.str s),.p (.str t)]=>if s.length<4294967281 then some (.val (.p (.bool (Lib.contains s t))),H) else none
 | 126,[.p (.str s),.p (.int .i64 n)]=>if 0≤n∧s.length*n.toNat≤140737488355328∧n≤9223372036854775807 then some (.val (.p (.str (repL n.toNat s))),H) else none
 | 164,[.p (.str s)]=>if s.length≤18 then(match Lib.atoi s with
  |some n=>some (.val (.tup [.p (.int .i64 n),.p .nili]),H)
  |none=>none) else none
 | 131,[.box 0 0]=>match H.bx with
  |(.fresh 116 4 0::r)::l=>some (.val .undef,{H with bx:=(.box 0 0::r)::l})
  |(.box 0 0::_)::_=>some (.val .undef,H)
  |_=>none
 |_,_=>none
def pgF:Nat→Option FC
 | 8=>some fc8
 | 13=>some fc13 | 14=>some fc14 | 15=>some fc15 | 17=>some fc17 | 20=>some fc20 | 21=>some fc21 | 22=>some fc22
 | 25=>some fc25 | 26=>some fc26 | 29=>some fc29 | 31=>some fc31
 | 39=>some fc39 | 40=>some fc40 | 41=>some fc41 | 42=>some fc42
 | 43=>some fc43 | 44=>some fc44 | 45=>some fc45 | 46=>some fc46 | 47=>some fc47 | 48=>some fc48 | 49=>some fc49
 | 55=>some fc55 | 56=>some fc56
 | 70=>some fc70 | 71=>some fc71 | 72=>some fc72
 | 73=>some fc73 | 74=>some fc74 | 75=>some fc75 | 76=>some fc76 | 78=>some fc78 | 79=>some fc79 | 80=>some fc80 | 81=>some fc81 | 82=>some fc82
 | 84=>some fc84 | 85=>some fc85 | 86=>some fc86 | 87=>some fc87 | 88=>some fc88 | 89=>some fc89 | 90=>some fc90 | 91=>some fc91 | 92=>some fc92
 | 119=>some fc119 | 120=>some fc120 | 121=>some fc121 | 122=>some fc122 | 123=>some fc123
 | 124=>some fc124 | 125=>some fc125 | 127=>some fc127 | 128=>some fc128 | 129=>some fc129 | 130=>some fc130 | 136=>some fc136
 | 137=>some fc137 | 141=>some fc141 | 142=>some fc142 | 143=>some fc143 | 153=>some fc153 | 154=>some fc154
 | 155=>some fc155
 |_=>none
def syms:List (List UInt8):=[[60,61,62],[60,61],[60],[61,62],[61],[33,61],[45,62],[45],[43,43],[43],[38,38],[38],[124,124],[124],[40],[41],[123],[125],[91],[93],[58],[59],[44],[46],[39],[126],[94],[42],[35]]
def pgG:Nat→Option (List PD)
 | 0=>some (syms.map .str)
 |_=>none
def pgD:Nat→Option (Nat×FC)
 | 77=>some (5,fc77)
 |_=>none
def pg:Pg:=⟨pgF,pgG,pgL,pgD⟩
end Go.Proofs.YtalgjkpkkdljaaaGreatDoor
namespace Go.Proofs.YtalgjkpkkdljaaaGreatDoor
open Go.Proofs
def ren144:Go.Shelf.Ren where
 f:=fun | 144=>149 | 143=>162 | 219=>170 | 217=>144 | 225=>175 | 224=>176 | 267=>177 | 266=>156 | 314=>183 |n=>n
 t:=fun | 9=>9 | 4=>4 | 3=>3 | 5=>5 | 46=>174 | 146=>186 | 51=>185 |n=>n
 g:=fun | 1=>1 |n=>n
set_option maxRecDepth 100000 in
theorem lays144:Go.Proofs.LaysM.n144 Tryz.prog ren144 where
 mixed:=by kernel_rfl
 f143:=Tryz.func162.trans (by kernel_rfl)
 f144:=Tryz.func149.trans (by kernel_rfl)
 f217:=Tryz.func144.trans (by kernel_rfl)
 f219:=Tryz.func170.trans (by kernel_rfl)
 f224:=Tryz.func176.trans (by kernel_rfl)
 f225:=Tryz.func175.trans (by kernel_rfl)
 f266:=Tryz.func156.trans (by kernel_rfl)
 f267:=Tryz.func177.trans (by kernel_rfl)
 f314:=Tryz.func183.trans (by kernel_rfl)
 t3:=Tryz.underlying3
 a3:=Tryz.isAgg3
 z3:=Tryz.sizeOf3
 v3:=Tryz.zeroValue3
 t4:=Tryz.underlying4
 a4:=Tryz.isAgg4
 z4:=Tryz.sizeOf4
 v4:=Tryz.zeroValue4
 t5:=Tryz.underlying5
 a5:=Tryz.isAgg5
 z5:=Tryz.sizeOf5
 v5:=Tryz.zeroValue5
 t9:=Tryz.underlying9
 a9:=Tryz.isAgg9
 z9:=Tryz.sizeOf9
 v9:=Tryz.zeroValue9
 t46:=Tryz.underlying174
 a46:=Tryz.isAgg174
 z46:=Tryz.sizeOf174
 v46:=Tryz.zeroValue174
 t51:=Tryz.underlying185
 a51:=Tryz.isAgg185
 z51:=Tryz.sizeOf185
 v51:=Tryz.zeroValue185
 t146:=Tryz.underlying186
 a146:=Tryz.isAgg186
 z146:=Tryz.sizeOf186
 v146:=Tryz.zeroValue186
 g1:=by kernel_rfl
 i3:=by kernel_rfl
 i4:=by kernel_rfl
 i5:=by kernel_rfl
 i9:=by kernel_rfl
 i46:=by kernel_rfl
 i51:=by kernel_rfl
 i146:=by kernel_rfl
 m1:=by kernel_rfl
 s1_3:=fun w h=>cell_of_shapedOpen_int (g:=1) (zero:=#[Value.int IntKind.i64 0]) h (of_decide_eq_true (by kernel_rfl)) (by kernel_rfl) rfl (by kernel_rfl) (by kernel_rfl) Tryz.underlying3
def ren217:Go.Shelf.Ren where
 f:=fun | 217=>144 | 266=>156 |n=>n
 t:=fun | 9=>9 | 5=>5 | 3=>3 |n=>n
 g:=fun n=>n
set_option maxRecDepth 100000 in
theorem lays217:Go.Proofs.Lays.n217 Tryz.prog ren217 where
 mixed:=by kernel_rfl
 f217:=Tryz.func144.trans (by kernel_rfl)
 f266:=Tryz.func156.trans (by kernel_rfl)
 t3:=Tryz.underlying3
 a3:=Tryz.isAgg3
 z3:=Tryz.sizeOf3
 v3:=Tryz.zeroValue3
 t5:=Tryz.underlying5
 a5:=Tryz.isAgg5
 z5:=Tryz.sizeOf5
 v5:=Tryz.zeroValue5
 t9:=Tryz.underlying9
 a9:=Tryz.isAgg9
 z9:=Tryz.sizeOf9
 v9:=Tryz.zeroValue9
def ren171:Go.Shelf.Ren where
 f:=fun | 171=>114 | 243=>135 | 246=>148 | 283=>158 | 284=>159 | 285=>160 | 286=>161 | 129=>166 | 317=>165 | 318=>167 | 319=>168 | 320=>169 | 337=>173 | 338=>174 |n=>n
 t:=fun | 3=>3 | 9=>9 | 2=>2 | 4=>4 | 171=>192 | 0=>0 | 53=>188 | 37=>57 | 5=>5 | 173=>195 | 212=>200 | 51=>185 | 20=>20 | 213=>201 | 46=>174 | 232=>212 | 233=>213 |n=>n
 g:=fun | 17=>2 | 18=>3 | 19=>4 |n=>n
set_option maxRecDepth 100000 in
theorem lays171:Go.Proofs.LaysM.n171 Tryz.prog ren171 where
 i171:=by kernel_rfl
 i212:=by kernel_rfl
 i232:=by kernel_rfl
 i233:=by kernel_rfl
 mixed:=by kernel_rfl
 f129:=Tryz.func166.trans (by kernel_rfl)
 f171:=Tryz.func114.trans (by kernel_rfl)
 f243:=Tryz.func135.trans (by kernel_rfl)
 f246:=Tryz.func148.trans (by kernel_rfl)
 f283:=Tryz.func158.trans (by kernel_rfl)
 f284:=Tryz.func159.trans (by kernel_rfl)
 f285:=Tryz.func160.trans (by kernel_rfl)
 f286:=Tryz.func161.trans (by kernel_rfl)
 f317:=Tryz.func165.trans (by kernel_rfl)
 f318:=Tryz.func167.trans (by kernel_rfl)
 f319:=Tryz.func168.trans (by kernel_rfl)
 f320:=Tryz.func169.trans (by kernel_rfl)
 f337:=Tryz.func173.trans (by kernel_rfl)
 f338:=Tryz.func174.trans (by kernel_rfl)
 t0:=Tryz.underlying0
 a0:=Tryz.isAgg0
 z0:=Tryz.sizeOf0
 v0:=Tryz.zeroValue0
 t2:=Tryz.underlying2
 a2:=Tryz.isAgg2
 z2:=Tryz.sizeOf2
 v2:=Tryz.zeroValue2
 t3:=Tryz.underlying3
 a3:=Tryz.isAgg3
 z3:=Tryz.sizeOf3
 v3:=Tryz.zeroValue3
 t4:=Tryz.underlying4
 a4:=Tryz.isAgg4
 z4:=Tryz.sizeOf4
 v4:=Tryz.zeroValue4
 t5:=Tryz.underlying5
 a5:=Tryz.isAgg5
 z5:=Tryz.sizeOf5
 v5:=Tryz.zeroValue5
 t9:=Tryz.underlying9
 a9:=Tryz.isAgg9
 z9:=Tryz.sizeOf9
 v9:=Tryz.zeroValue9
 t20:=Tryz.underlying20
 a20:=Tryz.isAgg20
 z20:=Tryz.sizeOf20
 v20:=Tryz.zeroValue20
 t37:=Tryz.underlying57
 a37:=Tryz.isAgg57
 z37:=Tryz.sizeOf57
 v37:=Tryz.zeroValue57
 t46:=Tryz.underlying174
 a46:=Tryz.isAgg174
 z46:=Tryz.sizeOf174
 v46:=Tryz.zeroValue174
 t51:=Tryz.underlying185
 a51:=Tryz.isAgg185
 z51:=Tryz.sizeOf185
 v51:=Tryz.zeroValue185
 t53:=Tryz.underlying188
 a53:=Tryz.isAgg188
 z53:=Tryz.sizeOf188
 v53:=Tryz.zeroValue188
 t171:=Tryz.underlying192
 a171:=Tryz.isAgg192
 z171:=Tryz.sizeOf192
 v171:=Tryz.zeroValue192
 t173:=Tryz.underlying195
 a173:=Tryz.isAgg195
 z173:=Tryz.sizeOf195
 v173:=Tryz.zeroValue195
 t212:=Tryz.underlying200
 a212:=Tryz.isAgg200
 z212:=Tryz.sizeOf200
 v212:=Tryz.zeroValue200
 t213:=Tryz.underlying201
 a213:=Tryz.isAgg201
 z213:=Tryz.sizeOf201
 t232:=Tryz.underlying212
 a232:=Tryz.isAgg212
 z232:=Tryz.sizeOf212
 v232:=Tryz.zeroValue212
 t233:=Tryz.underlying213
 a233:=Tryz.isAgg213
 z233:=Tryz.sizeOf213
 v233:=Tryz.zeroValue213
 g17:=by kernel_rfl
 g18:=by kernel_rfl
 g19:=by kernel_rfl
 i0:=by kernel_rfl
 i2:=by kernel_rfl
 i3:=by kernel_rfl
 i4:=by kernel_rfl
 i5:=by kernel_rfl
 i9:=by kernel_rfl
 i20:=by kernel_rfl
 i37:=by kernel_rfl
 i46:=by kernel_rfl
 i51:=by kernel_rfl
 i53:=by kernel_rfl
 i173:=by kernel_rfl
 m17:=by kernel_rfl
 m18:=by kernel_rfl
 m19:=by kernel_rfl
def ren172:Go.Shelf.Ren where
 f:=fun | 172=>164 | 244=>171 | 245=>172 | 247=>178 | 279=>179 | 280=>180 | 281=>181 | 282=>182 | 287=>184 | 316=>185 | 171=>114 | 205=>186 | 321=>187 | 322=>188 | 243=>135 | 246=>148 | 283=>158 | 284=>159 | 285=>160 | 286=>161 | 129=>166 | 317=>165 | 318=>167 | 319=>168 | 320=>169 | 337=>173 | 338=>174 |n=>n
 t:=fun | 9=>9 | 3=>3 | 75=>135 | 76=>136 | 4=>4 | 5=>5 | 167=>206 | 37=>57 | 0=>0 | 85=>207 | 2=>2 | 168=>209 | 53=>188 | 175=>215 | 46=>174 | 210=>219 | 127=>159 | 145=>224 | 143=>222 | 21=>21 | 171=>192 | 173=>195 | 212=>200 | 51=>185 | 20=>20 | 213=>201 | 232=>212 | 233=>213 | 80=>110 |n=>n
 g:=fun | 15=>5 | 16=>6 | 17=>2 | 18=>3 | 19=>4 |n=>n
set_option maxRecDepth 100000 in
theorem lays172:Go.Proofs.LaysC.n172 Tryz.prog ren172 where
 i171:=by kernel_rfl
 i210:=by kernel_rfl
 i212:=by kernel_rfl
 i232:=by kernel_rfl
 i233:=by kernel_rfl
 mixed:=by kernel_rfl
 f129:=Tryz.func166.trans (by kernel_rfl)
 f171:=Tryz.func114.trans (by kernel_rfl)
 f172:=Tryz.func164.trans (by kernel_rfl)
 f205:=Tryz.func186.trans (by kernel_rfl)
 f243:=Tryz.func135.trans (by kernel_rfl)
 f244:=Tryz.func171.trans (by kernel_rfl)
 f245:=Tryz.func172.trans (by kernel_rfl)
 f246:=Tryz.func148.trans (by kernel_rfl)
 f247:=Tryz.func178.trans (by kernel_rfl)
 f279:=Tryz.func179.trans (by kernel_rfl)
 f280:=Tryz.func180.trans (by kernel_rfl)
 f281:=Tryz.func181.trans (by kernel_rfl)
 f282:=Tryz.func182.trans (by kernel_rfl)
 f283:=Tryz.func158.trans (by kernel_rfl)
 f284:=Tryz.func159.trans (by kernel_rfl)
 f285:=Tryz.func160.trans (by kernel_rfl)
 f286:=Tryz.func161.trans (by kernel_rfl)
 f287:=Tryz.func184.trans (by kernel_rfl)
 f316:=Tryz.func185.trans (by kernel_rfl)
 f317:=Tryz.func165.trans (by kernel_rfl)
 f318:=Tryz.func167.trans (by kernel_rfl)
 f319:=Tryz.func168.trans (by kernel_rfl)
 f320:=Tryz.func169.trans (by kernel_rfl)
 f321:=Tryz.func187.trans (by kernel_rfl)
 f322:=Tryz.func188.trans (by kernel_rfl)
 f337:=Tryz.func173.trans (by kernel_rfl)
 f338:=Tryz.func174.trans (by kernel_rfl)
 t0:=Tryz.underlying0
 a0:=Tryz.isAgg0
 z0:=Tryz.sizeOf0
 v0:=Tryz.zeroValue0
 t2:=Tryz.underlying2
 a2:=Tryz.isAgg2
 z2:=Tryz.sizeOf2
 v2:=Tryz.zeroValue2
 t3:=Tryz.underlying3
 a3:=Tryz.isAgg3
 z3:=Tryz.sizeOf3
 v3:=Tryz.zeroValue3
 t4:=Tryz.underlying4
 a4:=Tryz.isAgg4
 z4:=Tryz.sizeOf4
 v4:=Tryz.zeroValue4
 t5:=Tryz.underlying5
 a5:=Tryz.isAgg5
 z5:=Tryz.sizeOf5
 v5:=Tryz.zeroValue5
 t9:=Tryz.underlying9
 a9:=Tryz.isAgg9
 z9:=Tryz.sizeOf9
 v9:=Tryz.zeroValue9
 t20:=Tryz.underlying20
 a20:=Tryz.isAgg20
 z20:=Tryz.sizeOf20
 v20:=Tryz.zeroValue20
 t21:=Tryz.underlying21
 a21:=Tryz.isAgg21
 z21:=Tryz.sizeOf21
 v21:=Tryz.zeroValue21
 t37:=Tryz.underlying57
 a37:=Tryz.isAgg57
 z37:=Tryz.sizeOf57
 v37:=Tryz.zeroValue57
 t46:=Tryz.underlying174
 a46:=Tryz.isAgg174
 z46:=Tryz.sizeOf174
 v46:=Tryz.zeroValue174
 t51:=Tryz.underlying185
 a51:=Tryz.isAgg185
 z51:=Tryz.sizeOf185
 v51:=Tryz.zeroValue185
 t53:=Tryz.underlying188
 a53:=Tryz.isAgg188
 z53:=Tryz.sizeOf188
 v53:=Tryz.zeroValue188
 t75:=Tryz.underlying135
 a75:=Tryz.isAgg135
 z75:=Tryz.sizeOf135
 v75:=Tryz.zeroValue135
 t76:=Tryz.underlying136
 a76:=Tryz.isAgg136
 z76:=Tryz.sizeOf136
 v76:=Tryz.zeroValue136
 t85:=Tryz.underlying207
 a85:=Tryz.isAgg207
 z85:=Tryz.sizeOf207
 v85:=Tryz.zeroValue207
 t127:=Tryz.underlying159
 a127:=Tryz.isAgg159
 z127:=Tryz.sizeOf159
 v127:=Tryz.zeroValue159
 t143:=Tryz.underlying222
 a143:=Tryz.isAgg222
 z143:=Tryz.sizeOf222
 v143:=Tryz.zeroValue222
 t145:=Tryz.underlying224
 a145:=Tryz.isAgg224
 z145:=Tryz.sizeOf224
 v145:=Tryz.zeroValue224
 t167:=Tryz.underlying206
 a167:=Tryz.isAgg206
 z167:=Tryz.sizeOf206
 v167:=Tryz.zeroValue206
 t168:=Tryz.underlying209
 a168:=Tryz.isAgg209
 z168:=Tryz.sizeOf209
 v168:=Tryz.zeroValue209
 t171:=Tryz.underlying192
 a171:=Tryz.isAgg192
 z171:=Tryz.sizeOf192
 v171:=Tryz.zeroValue192
 t173:=Tryz.underlying195
 a173:=Tryz.isAgg195
 z173:=Tryz.sizeOf195
 v173:=Tryz.zeroValue195
 t175:=Tryz.underlying215
 a175:=Tryz.isAgg215
 z175:=Tryz.sizeOf215
 v175:=Tryz.zeroValue215
 t210:=Tryz.underlying219
 a210:=Tryz.isAgg219
 z210:=Tryz.sizeOf219
 v210:=Tryz.zeroValue219
 t212:=Tryz.underlying200
 a212:=Tryz.isAgg200
 z212:=Tryz.sizeOf200
 v212:=Tryz.zeroValue200
 t213:=Tryz.underlying201
 a213:=Tryz.isAgg201
 z213:=Tryz.sizeOf201
 t232:=Tryz.underlying212
 a232:=Tryz.isAgg212
 z232:=Tryz.sizeOf212
 v232:=Tryz.zeroValue212
 t233:=Tryz.underlying213
 a233:=Tryz.isAgg213
 z233:=Tryz.sizeOf213
 v233:=Tryz.zeroValue213
 g15:=by kernel_rfl
 g16:=by kernel_rfl
 g17:=by kernel_rfl
 g18:=by kernel_rfl
 g19:=by kernel_rfl
 t80:=Tryz.underlying110
 a80:=Tryz.isAgg110
 z80:=Tryz.sizeOf110
 v80:=Tryz.zeroValue110
 i0:=by kernel_rfl
 i2:=by kernel_rfl
 i3:=by kernel_rfl
 i4:=by kernel_rfl
 i5:=by kernel_rfl
 i9:=by kernel_rfl
 i20:=by kernel_rfl
 i21:=by kernel_rfl
 i37:=by kernel_rfl
 i46:=by kernel_rfl
 i51:=by kernel_rfl
 i53:=by kernel_rfl
 i75:=by kernel_rfl
 i76:=by kernel_rfl
 i80:=by kernel_rfl
 i85:=by kernel_rfl
 i127:=by kernel_rfl
 i143:=by kernel_rfl
 i145:=by kernel_rfl
 i167:=by kernel_rfl
 i168:=by kernel_rfl
 i173:=by kernel_rfl
 i175:=by kernel_rfl
 m15:=by kernel_rfl
 m16:=by kernel_rfl
 m17:=by kernel_rfl
 m18:=by kernel_rfl
 m19:=by kernel_rfl
 c0:=by kernel_rfl
 c2:=by kernel_rfl
 c3:=by kernel_rfl
 c4:=by kernel_rfl
 c5:=by kernel_rfl
 c9:=by kernel_rfl
 c20:=by kernel_rfl
 c21:=by kernel_rfl
 c37:=by kernel_rfl
 c46:=by kernel_rfl
 c51:=by kernel_rfl
 c53:=by kernel_rfl
 c75:=by kernel_rfl
 c76:=by kernel_rfl
 c80:=by kernel_rfl
 c85:=by kernel_rfl
 c127:=by kernel_rfl
 c143:=by kernel_rfl
 c145:=by kernel_rfl
 c167:=by kernel_rfl
 c168:=by kernel_rfl
 c171:=by kernel_rfl
 c173:=by kernel_rfl
 c175:=by kernel_rfl
 c210:=by kernel_rfl
 c212:=by kernel_rfl
 c213:=by kernel_rfl
 c232:=by kernel_rfl
 c233:=by kernel_rfl
def ren105:Go.Shelf.Ren where
 f:=fun | 105=>126 | 212=>138 | 99=>86 | 165=>139 | 166=>94 | 170=>140 | 169=>67 | 263=>150 | 264=>151 | 206=>130 | 240=>131 | 241=>152 | 276=>145 | 277=>163 |n=>n
 t:=fun | 9=>9 | 3=>3 | 4=>4 | 20=>20 | 0=>0 | 46=>174 | 109=>175 | 5=>5 | 72=>113 | 76=>136 | 51=>185 | 146=>186 | 53=>188 | 148=>189 | 70=>111 | 37=>57 | 75=>135 | 127=>159 | 164=>181 | 80=>110 |n=>n
 g:=fun n=>n
set_option maxRecDepth 100000 in
theorem lays105:Go.Proofs.Lays.n105 Tryz.prog ren105 where
 mixed:=by kernel_rfl
 f99:=Tryz.func86.trans (by kernel_rfl)
 f105:=Tryz.func126.trans (by kernel_rfl)
 f165:=Tryz.func139.trans (by kernel_rfl)
 f166:=Tryz.func94.trans (by kernel_rfl)
 f169:=Tryz.func67.trans (by kernel_rfl)
 f170:=Tryz.func140.trans (by kernel_rfl)
 f206:=Tryz.func130.trans (by kernel_rfl)
 f212:=Tryz.func138.trans (by kernel_rfl)
 f240:=Tryz.func131.trans (by kernel_rfl)
 f241:=Tryz.func152.trans (by kernel_rfl)
 f263:=Tryz.func150.trans (by kernel_rfl)
 f264:=Tryz.func151.trans (by kernel_rfl)
 f276:=Tryz.func145.trans (by kernel_rfl)
 f277:=Tryz.func163.trans (by kernel_rfl)
 t0:=Tryz.underlying0
 a0:=Tryz.isAgg0
 z0:=Tryz.sizeOf0
 v0:=Tryz.zeroValue0
 t3:=Tryz.underlying3
 a3:=Tryz.isAgg3
 z3:=Tryz.sizeOf3
 v3:=Tryz.zeroValue3
 t4:=Tryz.underlying4
 a4:=Tryz.isAgg4
 z4:=Tryz.sizeOf4
 v4:=Tryz.zeroValue4
 t5:=Tryz.underlying5
 a5:=Tryz.isAgg5
 z5:=Tryz.sizeOf5
 v5:=Tryz.zeroValue5
 t9:=Tryz.underlying9
 a9:=Tryz.isAgg9
 z9:=Tryz.sizeOf9
 v9:=Tryz.zeroValue9
 t20:=Tryz.underlying20
 a20:=Tryz.isAgg20
 z20:=Tryz.sizeOf20
 v20:=Tryz.zeroValue20
 t37:=Tryz.underlying57
 a37:=Tryz.isAgg57
 z37:=Tryz.sizeOf57
 v37:=Tryz.zeroValue57
 t46:=Tryz.underlying174
 a46:=Tryz.isAgg174
 z46:=Tryz.sizeOf174
 v46:=Tryz.zeroValue174
 t51:=Tryz.underlying185
 a51:=Tryz.isAgg185
 z51:=Tryz.sizeOf185
 v51:=Tryz.zeroValue185
 t53:=Tryz.underlying188
 a53:=Tryz.isAgg188
 z53:=Tryz.sizeOf188
 v53:=Tryz.zeroValue188
 t70:=Tryz.underlying111
 a70:=Tryz.isAgg111
 z70:=Tryz.sizeOf111
 v70:=Tryz.zeroValue111
 t72:=Tryz.underlying113
 a72:=Tryz.isAgg113
 z72:=Tryz.sizeOf113
 v72:=Tryz.zeroValue113
 t75:=Tryz.underlying135
 a75:=Tryz.isAgg135
 z75:=Tryz.sizeOf135
 v75:=Tryz.zeroValue135
 t76:=Tryz.underlying136
 a76:=Tryz.isAgg136
 z76:=Tryz.sizeOf136
 v76:=Tryz.zeroValue136
 t109:=Tryz.underlying175
 a109:=Tryz.isAgg175
 z109:=Tryz.sizeOf175
 v109:=Tryz.zeroValue175
 t127:=Tryz.underlying159
 a127:=Tryz.isAgg159
 z127:=Tryz.sizeOf159
 v127:=Tryz.zeroValue159
 t146:=Tryz.underlying186
 a146:=Tryz.isAgg186
 z146:=Tryz.sizeOf186
 v146:=Tryz.zeroValue186
 t148:=Tryz.underlying189
 a148:=Tryz.isAgg189
 z148:=Tryz.sizeOf189
 v148:=Tryz.zeroValue189
 t164:=Tryz.underlying181
 a164:=Tryz.isAgg181
 z164:=Tryz.sizeOf181
 v164:=Tryz.zeroValue181
theorem sizeB:(Tryz.prog.info? 113).map (·.size)=some 2:=by kernel_rfl
set_option maxHeartbeats 1000000 in
set_option maxRecDepth 100000 in
theorem cc_used(b:Nat)(w:World)(h0:w.cell? ⟨b,0,none⟩=some (.pointer (some ⟨b,0,none⟩))):
    Calls Tryz.prog 131 #[.pointer (some ⟨b,0,none⟩)] w fun e w'=>e= .returned (.tuple #[])∧w'=w:=by
 obtain⟨j,hj,_⟩:=Option.map_eq_some_iff.1 sizeB
 have t72:=Tryz.underlying111;have a72:=Tryz.isAgg111;have z72:=Tryz.sizeOf111;have v72:=Tryz.zeroValue111;have u72:=run_underlying Tryz.underlying111
 go_enter Tryz.func131,Tryz.ntmps131
 go_wp2
 rw[Lib.run_neq_ptr_same w _ Tryz.underlying111 hj]
 go_wp2
 go_end0
 exact⟨rfl,rfl⟩
set_option maxHeartbeats 1000000 in
set_option maxRecDepth 100000 in
theorem cc_fresh(b:Nat)(w:World)(h0:w.cell? ⟨b,0,none⟩=some (.pointer none))(hsh:w.shape? b=some (116,4))(hfz:w.frozen? ⟨b,0,none⟩=false):
    Calls Tryz.prog 131 #[.pointer (some ⟨b,0,none⟩)] w fun e w'=>e= .returned (.tuple #[])∧w'=w.setCell ⟨b,0,none⟩ (.pointer (some ⟨b,0,none⟩)):=by
 obtain⟨j,hj,hjs⟩:=Option.map_eq_some_iff.1 sizeB
 have t72:=Tryz.underlying111;have a72:=Tryz.isAgg111;have z72:=Tryz.sizeOf111;have v72:=Tryz.zeroValue111;have u72:=run_underlying Tryz.underlying111
 have t112:=Tryz.underlying181;have a112:=Tryz.isAgg181;have z112:=Tryz.sizeOf181;have v112:=Tryz.zeroValue181;have u112:=run_underlying Tryz.underlying181
 go_enter Tryz.func131,Tryz.ntmps131
 go_wp2
 rw[Lib.run_to_unsafe w ⟨b,0,none⟩ Tryz.underlying111 Tryz.underlying181 hj (by rw[hjs];decide) hsh (Nat.zero_lt_succ 3)]
 simp only[Result.andThen]
 rw[Oper.upon_value]
 go_wp2
 rw[run_callFunc_extern Tryz.func145 (by kernel_rfl) (by kernel_rfl) (by kernel_rfl) (e:=Extern.AbiNoEscape.same) (by kernel_rfl)]
 rw[Lib.run_noEscape]
 simp only[Result.andThen]
 rw[Oper.upon_value]
 go_wp2
 rw[Lib.run_from_unsafe w ⟨b,0,none⟩ Tryz.underlying181 Tryz.underlying111 hj hsh (by kernel_rfl)]
 simp only[Result.andThen]
 rw[Oper.upon_value]
 go_wp2
 go_end0
 exact⟨rfl,rfl⟩
end Go.Proofs.YtalgjkpkkdljaaaGreatDoor
namespace Go.Proofs.YtalgjkpkkdljaaaGreatDoor
open Go.Vs Go.RowKit
structure WOk (W:World):Prop where
 max:∃m,W.cell? ⟨1,0,none⟩=some (.int .i64 m)
 tab:Lib.TabIs Tryz.prog W "internal/strconv.uint64pow10" .u64 Lib.pow10Tab
theorem cell_later{W w:World}(B:Below W.heap.size W w){a:Addr}{v:Value}(h:W.cell? a=some v):w.cell? a=some v:=by
 have hb:=World.block_lt_of_cell? W a h
 have:=B.block a.block hb
 unfold World.cell? at h⊢
 rw[this];exact h
theorem tab_later{W w:World}(B:Below W.heap.size W w){name:String}{k:IntKind}{zs:List Int}(h:Lib.TabIs Tryz.prog W name k zs):Lib.TabIs Tryz.prog w name k zs:=by
 unfold Lib.TabIs World.var? at h⊢
 obtain⟨g,hg,h2⟩:=Option.bind_eq_some_iff.1 h
 have hlt:g<W.heap.size:=by
  rcases Nat.lt_or_ge g W.heap.size with q |q
  ·exact q
  ·rw[Array.getElem?_eq_none q] at h2;cases h2
 rw[hg]
 simp only[Option.bind_some]
 rw[B.block g hlt];exact h2
theorem size_mk(l:List UInt8):(⟨l.toArray⟩:ByteArray).size=l.length:=by simp[ByteArray.size]
theorem below_alloc(w:World)(o:Obj):Below w.heap.size w (w.drew.alloc o):=⟨rfl,rfl,rfl,by simp,fun k hk=>by
 rw[heap_alloc,if_neg (by show ¬k=w.heap.size;omega)];rfl⟩
theorem below_bytes(w:World)(e:TypeId)(s:ByteArray):Below w.heap.size w (Lib.bytesWorld w e s):=
 Lib.below_freeze (below_alloc w _) (Nat.le_refl _) 1
theorem extra105:Builder.Extra Tryz.prog ren105 where
 sizeBuilder:=by kernel_rfl
 liesBuilder:=by kernel_rfl
 t5:=Tryz.underlying5
 a5:=Tryz.isAgg5
 z5:=Tryz.sizeOf5
 v5:=Tryz.zeroValue5
 infoByte:=by kernel_rfl
 cellsByte:=by kernel_rfl
 sizeByte:=by kernel_rfl
 neB5:=by decide
theorem repL_eq(n:Nat)(s:List UInt8):Lib.repeatL s n=repL n s:=by
 induction n with
 |zero=>rfl
 |succ n ih=>simp only[Lib.repeatL,repL,ih]
variable {W : World}
theorem meets_idx(s:List UInt8)(c:Int)(H:Hp):Meets Tryz.prog W pgG 144 [.p (.str s),.p (.int .u8 c)] H (.val (.p (.int .i64 (Lib.indexByte s (UInt8.ofNat c.toNat))))) H:=
 lib_meets ⟨Tryz.f144,Tryz.func144,by kernel_rfl,by kernel_rfl⟩ fun γ w vs I hv=>by
  obtain⟨v,u,rfl,h1,h2⟩:=repL_two hv
  rw[h1.p_inv.str_inv,h2.p_inv.int_inv]
  refine(Any.stringslite_IndexByte lays217 _ c w).mono ?_
  rintro e w' ⟨rfl,rfl⟩
  exact⟨_,rfl,Below.refl _ _,.p _ _ (.int _ _)⟩
theorem meets_itoa(hW:WOk W)(n:Int)(H:Hp)(h0: -9223372036854775808≤n)(h1:n≤9223372036854775807):Meets Tryz.prog W pgG 135 [.p (.int .i64 n)] H (.val (.p (.str (Lib.itoa n)))) H:=
 lib_meets ⟨Tryz.f135,Tryz.func135,by kernel_rfl,by kernel_rfl⟩ fun γ w vs I hv=>by
  obtain⟨v,rfl,hr⟩:=repL_one hv
  rw[hr.p_inv.int_inv]
  refine(Any.internal_strconv_Itoa {lays171 with} n h0 h1 w (tab_later I.blw hW.tab)).mono ?_
  rintro e w' ⟨rfl,k,os,rfl⟩
  exact⟨_,rfl,Lib.below_grow _ w (Nat.le_refl _) k os,.p _ _ (.str _)⟩
theorem meets_contains(hW:WOk W)(s t:List UInt8)(H:Hp)(hs:s.length<4294967281):Meets Tryz.prog W pgG 149 [.p (.str s),.p (.str t)] H (.val (.p (.bool (Lib.contains s t)))) H:=
 lib_meets ⟨Tryz.f149,Tryz.func149,by kernel_rfl,by kernel_rfl⟩ fun γ w vs I hv=>by
  obtain⟨v,u,rfl,h1,h2⟩:=repL_two hv
  rw[h1.p_inv.str_inv,h2.p_inv.str_inv]
  obtain⟨m,hm⟩:=hW.max
  refine(Any.strings_Contains {lays144 with} ⟨s.toArray⟩ ⟨t.toArray⟩ m w (by rw[size_mk];exact hs) (cell_later I.blw hm)).mono ?_
  rintro e w' ⟨rfl,rfl⟩
  exact⟨_,rfl,Below.refl _ _,.p _ _ (.bool _)⟩
theorem meets_repeat(s:List UInt8)(n:Int)(H:Hp)(h0:0≤n)(h1:s.length*n.toNat≤140737488355328)(h2:n≤9223372036854775807):Meets Tryz.prog W pgG 126 [.p (.str s),.p (.int .i64 n)] H (.val (.p (.str (repL n.toNat s)))) H:=
 lib_meets ⟨Tryz.f126,Tryz.func126,by kernel_rfl,by kernel_rfl⟩ fun γ w vs I hv=>by
  obtain⟨v,u,rfl,h1',h2'⟩:=repL_two hv
  rw[h1'.p_inv.str_inv,h2'.p_inv.int_inv]
  have hn:n=(n.toNat:Int):=by omega
  have:=Any.strings_Repeat lays105 extra105 ⟨s.toArray⟩ n.toNat w (by omega) (by rw[size_mk];exact h1)
  rw[←hn] at this
  refine this.mono ?_
  rintro e w' ⟨rfl,B⟩
  refine⟨_,rfl,B,?_⟩
  rw[←repL_eq]
  exact .p _ _ (.str _)
theorem meets_atoi(s:List UInt8)(n:Int)(H:Hp)(hs:s.length≤18)(hn:Lib.atoi s=some n):Meets Tryz.prog W pgG 164 [.p (.str s)] H (.val (.tup [.p (.int .i64 n),.p .nili])) H:=
 lib_meets ⟨Tryz.f164,Tryz.func164,by kernel_rfl,by kernel_rfl⟩ fun γ w vs I hv=>by
  obtain⟨v,rfl,hr⟩:=repL_one hv
  rw[hr.p_inv.str_inv]
  refine(Any.strconv_Atoi lays172.toM.ton172 ⟨s.toArray⟩ n (by rw[size_mk];exact hs) hn w).mono ?_
  rintro e w' ⟨rfl,t,rfl⟩
  exact⟨_,rfl,below_bytes w _ _,rep_tup2 (.p _ _ (.int _ _)) (.p _ _ .nili)⟩
theorem meets_cc(H H':Hp)(r:Res)(h:pgL 131 [.box 0 0] H=some (r,H')):Meets Tryz.prog W pgG 131 [.box 0 0] H r H':=by
 refine⟨⟨Tryz.f131,Tryz.func131,by kernel_rfl,by kernel_rfl⟩,fun γ w vs I hv=>?_⟩
 obtain⟨v,rfl,hr⟩:=repL_one hv
 cases hr with
 |box _ _ b hb=>
  simp only[pgL] at h
  split at h
  ·rename_i q l hbx
   cases h
   obtain⟨us,T,fr,q1,q2,q3,q4⟩:=I.box 0 b _ hb (by rw[hbx];rfl)
   have hm:isMapC (D.fresh 116 4 0::q)=false:=by cases q<;>rfl
   rw[viewC_of hm] at q1
   have q20:=q2.2 0 _ rfl
   generalize hu:us.getD 0 undef=u at q20
   cases q20 with
   |fresh _ _ _ b' hb' ht=>
    rw[hb] at hb'
    cases hb'
    obtain⟨us',fr',z1,z2,_⟩:=I.tys _ _ _ ht
    rw[q1] at z1
    cases z1
    have hus:0<us.size:=by omega
    have h0:us[0]? =some (.pointer none):=by
     rw[Array.getElem?_eq_getElem hus]
     simpa[Array.getD_eq_getD_getElem?,hus] using hu
    have hcl:=q4 (by simp)
    refine(cc_fresh b w (by simp only[World.cell?,q1];simpa using h0) (by simp[World.shape?,q1,z2]) ?_).mono ?_
    ·have:=hcl 0 (Nat.le_refl _) hus
     simp only[World.frozen?,q1]
     obtain⟨f1,f2⟩:=fr
     simp only at this⊢
     cases hd:(decide (f1≤0)&&decide (0<f2)) with
     |false=>rfl
     |true=>simp at hd;exact(this ⟨by simp;omega,by simpa using hd.2⟩).elim
    ·rintro e w' ⟨rfl,rfl⟩
     have hst:=I.toInv.store (off:=0) hb (by rw[hbx];rfl) (us:=[.pointer (some ⟨b,0,none⟩)]) (ds:=[.box 0 0]) (repL1 (.box 0 0 b hb)) (fun d hd=>by simp at hd;subst hd;rfl) (by simp) q1 hcl q2 hm
     have hw:w.setCell ⟨b,0,none⟩ (.pointer (some ⟨b,0,none⟩))=w.setRow b (us.toList.take 0++[Value.pointer (some ⟨b,0,none⟩)]++us.toList.drop (0+[Value.pointer (some ⟨b,0,none⟩)].length)).toArray:=by
      rw[setCell_eq_setRow w b 0 us _ fr _ q1]
      congr 1
      apply Array.ext'
      obtain⟨l⟩:=us
      match l,hus with
      |x::l,_=>simp
     have hs:∀bx:List (List D),bx=(.fresh 116 4 0::q)::l→bx.set 0 (Vs.splice (.fresh 116 4 0::q) 0 [.box 0 0])=(.box 0 0::q)::l:=by
      intro bx hb;subst hb;simp[Vs.splice]
     rw[hs _ hbx] at hst
     obtain⟨F,J⟩:=hst
     rw[hw]
     exact⟨γ,.refl γ,F,I.up (.refl γ) F J,_,rfl,.undef⟩
  ·rename_i q l hbx
   cases h
   obtain⟨us,T,fr,q1,q2,q3,q4⟩:=I.box 0 b _ hb (by rw[hbx];rfl)
   have hm:isMapC (D.box 0 0::q)=false:=by cases q<;>rfl
   rw[viewC_of hm] at q1
   have q20:=q2.2 0 _ rfl
   have hus:0<us.size:=by have:=q2.1;simp at this;omega
   generalize hu:us.getD 0 undef=u at q20
   cases q20 with
   |box _ _ b' hb'=>
    rw[hb] at hb'
    cases hb'
    have h0:us[0]? =some (.pointer (some ⟨b,0,none⟩)):=by
     rw[Array.getElem?_eq_getElem hus]
     simpa[Array.getD_eq_getD_getElem?,hus] using hu
    refine(cc_used b w (by simp only[World.cell?,q1];simpa using h0)).mono ?_
    rintro e w' ⟨rfl,rfl⟩
    exact⟨γ,.refl γ,.refl γ H w',I,_,rfl,.undef⟩
  ·cases h
theorem lib_sound(hW:WOk W):Sound Tryz.prog W pg.G pg.lib:=by
 intro f args H r H' h
 have h:pgL f args H=some (r,H'):=h
 have h0:=h
 unfold pgL at h
 split at h
 ·cases h;exact meets_idx _ _ _
 ·split at h
  ·rename_i hc;cases h;exact meets_itoa hW _ _ hc.1 hc.2
  ·cases h
 ·split at h
  ·rename_i hc;cases h;exact meets_contains hW _ _ _ hc
  ·cases h
 ·split at h
  ·rename_i hc;cases h;exact meets_repeat _ _ _ hc.1 hc.2.1 hc.2.2
  ·cases h
 ·split at h
  ·rename_i hc
   split at h
   ·rename_i n hn;cases h;exact meets_atoi _ _ _ hc hn
   ·cases h
  ·cases h
 ·exact meets_cc _ _ _ h0
 ·cases h
theorem fn_ok:∀f fc,pgF f=some fc→FOk Tryz.prog f fc:=by
 intro f fc h
 unfold pgF at h
 split at h
 ·cases h;exact ok8
 ·cases h;exact ok13
 ·cases h;exact ok14
 ·cases h;exact ok15
 ·cases h;exact ok17
 ·cases h;exact ok20
 ·cases h;exact ok21
 ·cases h;exact ok22
 ·cases h;exact ok25
 ·cases h;exact ok26
 ·cases h;exact ok29
 ·cases h;exact ok31
 ·cases h;exact ok39
 ·cases h;exact ok40
 ·cases h;exact ok41
 ·cases h;exact ok42
 ·cases h;exact ok43
 ·cases h;exact ok44
 ·cases h;exact ok45
 ·cases h;exact ok46
 ·cases h;exact ok47
 ·cases h;exact ok48
 ·cases h;exact ok49
 ·cases h;exact ok55
 ·cases h;exact ok56
 ·cases h;exact ok70
 ·cases h;exact ok71
 ·cases h;exact ok72
 ·cases h;exact ok73
 ·cases h;exact ok74
 ·cases h;exact ok75
 ·cases h;exact ok76
 ·cases h;exact ok78
 ·cases h;exact ok79
 ·cases h;exact ok80
 ·cases h;exact ok81
 ·cases h;exact ok82
 ·cases h;exact ok84
 ·cases h;exact ok85
 ·cases h;exact ok86
 ·cases h;exact ok87
 ·cases h;exact ok88
 ·cases h;exact ok89
 ·cases h;exact ok90
 ·cases h;exact ok91
 ·cases h;exact ok92
 ·cases h;exact ok119
 ·cases h;exact ok120
 ·cases h;exact ok121
 ·cases h;exact ok122
 ·cases h;exact ok123
 ·cases h;exact ok124
 ·cases h;exact ok125
 ·cases h;exact ok127
 ·cases h;exact ok128
 ·cases h;exact ok129
 ·cases h;exact ok130
 ·cases h;exact ok136
 ·cases h;exact ok137
 ·cases h;exact ok141
 ·cases h;exact ok142
 ·cases h;exact ok143
 ·cases h;exact ok153
 ·cases h;exact ok154
 ·cases h;exact ok155
 ·cases h
theorem pg_ok(hW:WOk W):PgOk Tryz.prog W pg where
 mixed:=Checked.mixed Tryz.checked
 lib:=lib_sound hW
 fn:=fn_ok
 dfn:=fun f x h=>by
  have h:pgD f=some x:=h
  unfold pgD at h
  split at h
  ·cases h;exact ok77
  ·cases h
end Go.Proofs.YtalgjkpkkdljaaaGreatDoor
namespace Go.Proofs.YtalgjkpkkdljaaaGreatDoor
open Go.Vs Go.ChangeShapes Go.WideShapes Go.ChangeAt Go.WideMaps Go.WideElems Go.RowKit
abbrev laidL:List (String×DataW Unit):=[("math/bits.deBruijn32tab",Rows.laid_math_bits_deBruijn32tab),("math/bits.deBruijn64tab",Rows.laid_math_bits_deBruijn64tab),("internal/strconv.uint64pow10",Rows.laid_internal_strconv_uint64pow10),("strconv.ErrRange",Rows.laid_strconv_ErrRange),("strconv.ErrSyntax",Rows.laid_strconv_ErrSyntax),("armature/lexer.symbols",Rows.laid_armature_lexer_symbols)]
theorem ownK:ownKnob Tryz.prog.godebug=none:=by kernel_rfl
theorem laidOut:laidOutB Tryz.prog=true:=by kernel_rfl
theorem gTab:Tryz.prog.globalNamed "internal/strconv.uint64pow10" =some 2:=by kernel_rfl
theorem tTab:(Tryz.prog.globals[2]?).map (·.type)=some 200:=by kernel_rfl
theorem gSym:Tryz.prog.globalNamed "armature/lexer.symbols" =some 0:=by kernel_rfl
theorem tSym:(Tryz.prog.globals[0]?).map (·.type)=some 171:=by kernel_rfl
theorem door_met(os:Os)(args:Array Value):laidMetH Tryz.prog laidL ((World.laidAll Tryz.prog os laidL).forCall (fun _ _=>0) ⟨#[],args,[]⟩).memory:=by
 rw[MakeChecks.laidMetH_plain _ _ _ (by kernel_rfl)]
 exact laidMet_laidAll _ (by kernel_rfl) (by kernel_rfl)
theorem laid_eq:(Rows.laid_armature_lexer_symbols:DataW Unit)= .agg (syms.map fun s=>.lit (.string s)):=by rfl
set_option maxRecDepth 20000 in
theorem wok{W:World}(h:laidMetH Tryz.prog laidL W)(hs:W.ShapedOpen Tryz.prog):WOk W:=by
 rw[MakeChecks.laidMetH_plain _ _ _ (by kernel_rfl)] at h
 obtain⟨ps,⟨g0,t0,cs0,f0,p0,q0,_,_,_,_,⟨g1,t1,cs1,f1,p1,q1,_,_,_,_,⟨g2,t2,cs2,f2,p2,q2,hg2,ht2,hv2,hd2,_⟩,_⟩,_⟩,_⟩:=h
 obtain rfl:=Option.some.inj (gTab.symm.trans hg2)
 obtain rfl:=Option.some.inj (tTab.symm.trans ht2)
 refine⟨?_,?_⟩
 ·exact Go.Proofs.cell_of_shapedOpen_int (zero:=#[.int .i64 0]) hs (of_decide_eq_true (by kernel_rfl)) (by kernel_rfl) (by kernel_rfl) (by kernel_rfl) (by kernel_rfl) Tryz.underlying3
 ·unfold Lib.TabIs
  rw[hv2]
  have h5:=Tryz.underlying200
  have h6:=Tryz.underlying188
  have e5:(Rows.laid_internal_strconv_uint64pow10:DataW Unit)=Lib.tabData .u64 Lib.pow10Tab:=by kernel_rfl
  rw[e5] at hd2
  have:=Lib.cells_of_tab (zs:=Lib.pow10Tab) h5 h6 (by kernel_rfl) (by kernel_rfl) hd2
  rw[←this]
theorem globs_ok{W:World}(h:laidMetH Tryz.prog laidL W):GlobOk pg.G W:=by
 rw[MakeChecks.laidMetH_plain _ _ _ (by kernel_rfl)] at h
 obtain⟨ps,⟨_,_,_,_,_,_,_,_,_,_,⟨_,_,_,_,_,_,_,_,_,_,⟨_,_,_,_,_,_,_,_,_,_,⟨_,_,_,_,_,_,_,_,_,_,⟨_,_,_,_,_,_,_,_,_,_,⟨g0,t0,cs0,f0,p0,q0,hg0,ht0,hv0,hd0,_⟩,_⟩,_⟩,_⟩,_⟩,_⟩,_⟩:=h
 obtain rfl:=Option.some.inj (gSym.symm.trans hg0)
 obtain rfl:=Option.some.inj (tSym.symm.trans ht0)
 obtain⟨xs,m1,rfl,hx1,hlen,hn,hel⟩:=DataW.trod_array Tryz.underlying171 hd0
 have c9:Tryz.prog.cellsOf 9=1:=by kernel_rfl
 rw[laid_eq] at hx1
 simp only[Prod.mk.injEq,DataW.agg.injEq] at hx1
 have hxs:=hx1.1
 refine⟨fun g cs hg j c hc=>?_⟩
 have hg':pgG g=some cs:=hg
 unfold pgG at hg'
 split at hg'
 ·cases hg'
  simp only[List.getElem?_map,Option.map_eq_some_iff] at hc
  obtain⟨z,hz,rfl⟩:=hc
  have hj:j<29:=by
   have:=(List.getElem?_eq_some_iff.1 hz).1
   exact this
  have hjx:j<xs.length:=by omega
  have h1:=hel j hj
  rw[c9,Nat.mul_one,List.getElem?_eq_getElem hjx] at h1
  obtain⟨s,e1,e2,_⟩:=DataW.trod_string Tryz.underlying9 h1
  have h2:(xs.map (·.1))[j]? =some (.lit (.string s.data.toList)):=by
   rw[List.getElem?_map,List.getElem?_eq_getElem hjx,e2];rfl
  rw[←hxs,List.getElem?_map,hz] at h2
  simp only[Option.map_some,Option.some.injEq,DataW.lit.injEq,Lit.string.injEq] at h2
  have h3:cs0[j]? =some (.string s):=by
   have :((cs0.toList.drop j).take 1)[0]? =some (.string s):=by rw[e1];rfl
   rw[List.getElem?_take_of_lt (by omega),List.getElem?_drop] at this
   simpa using this
  refine⟨rfl,.string s,?_,?_⟩
  ·rw[World.var?_cell hg0 hv0 j];exact h3
  ·rw[h2]
   have :s=⟨s.data.toList.toArray⟩:=by simp
   have k:=RepP.str (m:=(gh0 W).mem) s.data.toList
   rw[←this] at k
   exact k
 ·cases hg'
end Go.Proofs.YtalgjkpkkdljaaaGreatDoor
namespace Go.Proofs.YtalgjkpkkdljaaaGreatDoor
open Go.Vs
def i64(n:Int):Prop:= -9223372036854775808≤n∧n≤9223372036854775807
def ndSl{α:Type}:Nat→List α→Sl α
 | 0,[]=>.nil
 | 1,[]=>.amb
 |_,l=>.of l
theorem els_ndSl{α:Type}(c:Nat)(l:List α):els (ndSl c l)=l:=by
 unfold ndSl;split<;>rfl
theorem map_ndSl{α β:Type}(f:α→β)(c:Nat)(l:List α):(ndSl c l).map f=ndSl c (l.map f):=by
 cases l with
 |nil=>match c with
  | 0=>rfl
  | 1=>rfl
  |c+2=>rfl
 |cons x l=>match c with
  | 0=>rfl
  | 1=>rfl
  |c+2=>rfl
inductive Nd where
 |mk (op:Int) (nm:List UInt8) (n:Int) (c:Nat) (ks:List Nd) (pos:Int)
def Nd.op:Nd→Int | .mk op _ _ _ _ _=>op
def Nd.nm:Nd→List UInt8 | .mk _ nm _ _ _ _=>nm
def Nd.n:Nd→Int | .mk _ _ n _ _ _=>n
def Nd.c:Nd→Nat | .mk _ _ _ c _ _=>c
def Nd.ks:Nd→List Nd | .mk _ _ _ _ ks _=>ks
def Nd.pos:Nd→Int | .mk _ _ _ _ _ pos=>pos
mutual
def Nd.pd:Nd→PD
 | .mk op nm n c ks pos=>.agg [.int .i64 op,.str nm,.int .i64 n,slP 5 (ndSl c (Nd.pdL ks)),.int .i64 pos]
def Nd.pdL:List Nd→List PD
 |[]=>[]
 |k::ks=>k.pd::Nd.pdL ks
end
theorem pdL_map:∀ks:List Nd,Nd.pdL ks=ks.map Nd.pd
 |[]=>rfl
 |k::ks=>by simp[Nd.pdL,pdL_map ks]
def Nd.kidsP(a:Nd):PD:=slP 5 ((ndSl a.c a.ks).map Nd.pd)
def Nd.cells(a:Nd):List PD:=[.int .i64 a.op,.str a.nm,.int .i64 a.n,a.kidsP,.int .i64 a.pos]
theorem pd_cells(a:Nd):a.pd= .agg a.cells:=by
 cases a with
 |mk op nm n c ks pos=>simp only[Nd.pd,Nd.cells,Nd.op,Nd.nm,Nd.n,Nd.kidsP,Nd.c,Nd.ks,Nd.pos,pdL_map,map_ndSl]
@[simp] theorem one_kids(a:Nd):(D.p a.kidsP).one=true:=one_slP ..
@[simp] theorem pone_kids(a:Nd):a.kidsP.one=true:=pone_slP ..
mutual
def Nd.size:Nd→Nat
 | .mk _ _ _ _ ks _=>1+Nd.sizeL ks
def Nd.sizeL:List Nd→Nat
 |[]=>0
 |k::ks=>k.size+Nd.sizeL ks
end
theorem size_eq(a:Nd):a.size=1+Nd.sizeL a.ks:=by cases a;rfl
theorem size_mem:∀{ks:List Nd} {k:Nd},k∈ks→k.size≤Nd.sizeL ks
 |x::ks,k,h=>by
  simp only[Nd.sizeL]
  rcases List.mem_cons.1 h with rfl |h
  ·omega
  ·have:=size_mem h;omega
theorem size_kid{a k:Nd}(h:k∈a.ks):k.size<a.size:=by
 have:=size_mem h
 rw[size_eq a];omega
theorem len_sizeL:∀ks:List Nd,ks.length≤Nd.sizeL ks
 |[]=>Nat.le_refl _
 |k::ks=>by
  have:=len_sizeL ks
  have:=size_eq k
  simp only[Nd.sizeL,List.length_cons];omega
mutual
def eqN:Nd→Nd→Bool
 | .mk op nm n _ ks _,.mk op' nm' n' _ ks' _=>(op==op'&&nm==nm'&&n==n')&&eqNL ks ks'
def eqNL:List Nd→List Nd→Bool
 |[],[]=>true
 |a::x,b::y=>eqN a b&&eqNL x y
 |_,_=>false
end
def Bd(n:Nat)(a:Nd):Prop:=a.size≤n
theorem callD_any{f:Nat}{args:List D}{d d':D}(h:∃Hl,call pg f args ⟨[],[]⟩=some (.val d,Hl))(hr:D.refsL args=[])(ht:D.toksL args=[])(ha:D.renL (idx []) (idx []) args=some args)
    (hd:d.ren (fun _=>none) (fun _=>none)=some d') (H:Hp):callD (call pg) f args H=some (.val d',H):=by
 obtain⟨Hl,h⟩:=h
 exact callD_pure h hr ht ha hd
theorem len_kids(a:Nd):lenD 1 (.p a.kidsP)=some a.ks.length:=by
 rw[Nd.kidsP,len_map,els_ndSl]
theorem nd_cells(a:Nd):a.pd.cells=a.cells:=by rw[pd_cells,cells_agg]
theorem ia_kids{a:Nd}{k:Nat}(h:k<a.ks.length):iaddrD none 5 (.p a.kidsP) (k:Int)=some (.ro (a.ks[k]).cells 0):=by
 have h':k<(els (ndSl a.c a.ks)).length:=by rw[els_ndSl];exact h
 rw[Nd.kidsP,ia_map h',←nd_cells]
 simp only[els_ndSl]
theorem load_nd{G:Nat→Option (List PD)}{H:Hp}(x:Nd):loadD G H (some 5) (.ro x.cells 0)=some (.p x.pd):=by
 rw[pd_cells];exact load_ro rfl
theorem pd_one(a:Nd):∀c∈a.cells,c.one=true:=fun c hc=>by
 simp only[Nd.cells,List.mem_cons,List.not_mem_nil,or_false] at hc
 rcases hc with rfl |rfl |rfl |rfl |rfl<;>first |rfl |exact pone_kids a
theorem load_ndb{G:Nat→Option (List PD)}{H:Hp}{i:Nat}{x:Nd}(hb:H.bx[i]? =some (x.cells.map D.p)):loadD G H (some 5) (.box i 0)=some (.p x.pd):=by
 rw[pd_cells];exact load_box hb rfl
theorem one_cells(a:Nd):∀c∈a.cells,(D.p c).one=true:=fun c hc=>by
 simp only[Nd.cells,List.mem_cons,List.not_mem_nil,or_false] at hc
 rcases hc with rfl |rfl |rfl |rfl |rfl<;>first |rfl |exact one_kids a
theorem one_all(a:Nd):(∀x,x∈a.cells→(D.p x).one=true)=True:=eq_true (one_cells a)
def kwL:List UInt8:=[32,115,111,114,116,32,111,114,100,101,114,101,100,32,118,97,114,32,102,105,101,108,100,32,112,114,101,100,32,102,97,99,116,32,97,108,108,32,115,111,109,101,32,110,111,32,111,110,101,32,108,111,110,101,32,97,108,119,97,121,115,32,101,118,101,110,116,117,97,108,108,121,32,97,102,116,101,114,32,117,110,116,105,108,32,110,111,110,101,32,117,110,105,118,32,105,100,101,110,32,105,110,32,110,111,116,32,116,114,117,101,32,102,97,108,115,101,32]
def kw(s:List UInt8):Bool:=Lib.contains kwL (32::s++[32])
theorem contains_eq(t:List UInt8)(H:Hp):callD (call pg) 149 [.p (.str kwL),.p (.str t)] H=some (.val (.p (.bool (Lib.contains kwL t))),H):=by
 have h':pgL 149 [.p (.str kwL),.p (.str t)] ⟨[],[]⟩=some (.val (.p (.bool (Lib.contains kwL t))),⟨[],[]⟩):=by
  simp only[pgL]
  exact if_pos (by decide)
 exact callD_pure (call_lib h') rfl rfl rfl rfl
theorem kw0(s:List UInt8)(hs:s.length≤1000000):∃H',call pg 137 [.p (.str s)] ⟨[],[]⟩=some (.val (.p (.bool (kw s))),H'):=by
 have hc:=contains_eq (32::s++[32])
 simp only[kwL] at hc
 refine⟨⟨[],[]⟩,call_body (fc:=fc137) rfl rfl rfl rfl ?_⟩
 have h1:1+s.length≤140737488355328:=by omega
 have h2:s.length+1≤140737488355328:=by omega
 have h3:s.length+1+1≤140737488355328:=by omega
 simp[fc137,evKC,evK,put,Env.get,Env.keep,entry,Opd.ev,binD,strBin,finish,evRes,evRes1,h1,h3] at hc⊢
 simp[hc,kw,kwL,evKC,evK,put,Env.get,Env.keep,Opd.ev]
theorem kw_eq(s:List UInt8)(hs:s.length≤1000000)(H:Hp):callD (call pg) 137 [.p (.str s)] H=some (.val (.p (.bool (kw s))),H):=callD_any (kw0 s hs) rfl rfl rfl rfl H
def letter(c:UInt8):Bool:=(decide (97≤c.toNat)&&decide (c.toNat≤122))||(decide (65≤c.toNat)&&decide (c.toNat≤90))
def tailC(c:UInt8):Bool:=letter c||(c.toNat==95||(decide (48≤c.toNat)&&decide (c.toNat≤57)))
def chs:Nat→List UInt8→Bool
 |_,[]=>true
 | 0,c::r=>letter c&&chs 1 r
 |i+1,c::r=>tailC c&&chs (i+2) r
def isNm(s:List UInt8):Bool:=!(s==[])&&(decide (s.length≤16)&&(!kw s&&chs 0 s))
theorem ia_bytes{s:List UInt8}{k:Nat}(h:k<s.length):iaddrD none 1 (.p (.slice 1 (s.map fun b=>.int .u8 b.toNat))) (k:Int)=some (.ro [.int .u8 (s[k]).toNat] 0):=by
 simp[iaddrD,D.elems?,h,PD.cells]
def nmS(s:List UInt8)(k:Nat):St:=⟨[(18,.p (.slice 1 (s.map fun b=>.int .u8 b.toNat))),(19,.p (.int .i64 s.length)),(20,.p (.int .i64 k))],⟨[],[]⟩⟩
theorem name_end(s:List UInt8):∃env,evS (call pg) pg.G iterX fc125_b0 (nmS s s.length)=some (.exit 0,⟨env,⟨[],[]⟩⟩):=by
 refine⟨[(18,.p (.slice 1 (s.map fun b=>.int .u8 b.toNat))),(19,.p (.int .i64 s.length)),(20,.p (.int .i64 s.length)),(21,.p (.bool false))],?_⟩
 simp[nmS,fc125_b0,evKC,evK,put,Env.get,Env.keep,Opd.ev,binD]
theorem name_step{s:List UInt8}{k:Nat}(hs:s.length≤1000)(hlt:k<s.length):evS (call pg) pg.G iterX fc125_b0 (nmS s k)=some (if(if(k==0)=true then letter s[k] else tailC s[k]) then(.norm,nmS s (k+1)) else(.ret,⟨[(2,.p (.bool false))],⟨[],[]⟩⟩)):=by
 have hlt':(k:Int)<(s.length:Int):=by omega
 have hia:=ia_bytes hlt
 have hk1:=inc64 (k:=k) (by omega)
 have hk0:((k:Int)==0)=(k==0):=beq_nat k 0
 generalize s[k]=c at *
 have hb:=c.toNat_lt
 have i1:(97≤(c.toNat:Int))=(97≤c.toNat):=propext (by omega)
 have i2:((c.toNat:Int)≤122)=(c.toNat≤122):=propext (by omega)
 have i3:(65≤(c.toNat:Int))=(65≤c.toNat):=propext (by omega)
 have i4:((c.toNat:Int)≤90)=(c.toNat≤90):=propext (by omega)
 have i5:((c.toNat:Int)=95)=(c.toNat=95):=propext (by omega)
 have i6:((c.toNat:Int)<48)=(c.toNat<48):=propext (by omega)
 have i7:(57<(c.toNat:Int))=(57<c.toNat):=propext (by omega)
 have i5':((c.toNat:Int)==95)=(c.toNat==95):=beq_nat _ 95
 have i5n:((c.toNat:Int)!=95)=(c.toNat !=95):=bne_nat _ 95
 by_cases a1:97≤c.toNat<;>by_cases a2:c.toNat≤122<;>by_cases a3:65≤c.toNat<;>by_cases a4:c.toNat≤90<;>by_cases a5:c.toNat=95<;>by_cases a6:c.toNat<48<;>by_cases a7:57<c.toNat<;>cases b8:(k==0)<;>
  first |(exfalso;omega) |(
   have b6:(48≤c.toNat)=¬(c.toNat<48):=propext (by omega)
   have b7:(c.toNat≤57)=¬(57<c.toNat):=propext (by omega)
   have b5n:(c.toNat !=95)= !decide (c.toNat=95):=by simp[a5]
   have b5:(c.toNat==95)=decide (c.toNat=95):=by simp[a5]
   simp only[letter,tailC,b5,b6,b7,a1,a2,a3,a4,a5,a6,a7,nmS]
   simp[fc125_b0,evKC,evK,evGuard,put,Env.get,Env.keep,Opd.ev,loadD,cutAt,D.asInt?,binD,unD,hlt',hia,hk1,hk0,i1,i2,i3,i4,i6,i7,i5n,a1,a2,a3,a4,a5,a6,a7,b8,b5n])
theorem chs_step{s:List UInt8}{k:Nat}(hlt:k<s.length):chs k (s.drop k)=((if(k==0)=true then letter s[k] else tailC s[k])&&chs (k+1) (s.drop (k+1))):=by
 rw[List.drop_eq_getElem_cons hlt]
 cases k with
 |zero=>rfl
 |succ k=>rfl
theorem name_loop{s:List UInt8}(hs:s.length≤1000):∀(n k:Nat),s.length-k≤n→k≤s.length→
    (chs k (s.drop k)=true→∃env,loopK (call pg) pg.G [18,19,20] fc125_b0 (nmS s k)=some (.exit 0,⟨env,⟨[],[]⟩⟩))∧
    (chs k (s.drop k)=false→loopK (call pg) pg.G [18,19,20] fc125_b0 (nmS s k)=some (.ret,⟨[(2,.p (.bool false))],⟨[],[]⟩⟩)):=by
 intro n
 have hend:(chs s.length (s.drop s.length)=true→∃env,loopK (call pg) pg.G [18,19,20] fc125_b0 (nmS s s.length)=some (.exit 0,⟨env,⟨[],[]⟩⟩))∧
     (chs s.length (s.drop s.length)=false→loopK (call pg) pg.G [18,19,20] fc125_b0 (nmS s s.length)=some (.ret,⟨[(2,.p (.bool false))],⟨[],[]⟩⟩)):=by
  obtain⟨env,he⟩:=name_end s
  have hz:chs s.length (s.drop s.length)=true:=by
   rw[List.drop_eq_nil_of_le (Nat.le_refl _)]
   cases s.length<;>rfl
  refine⟨fun _=>⟨env,loopK_out (o:=.exit 0) he (by simp)⟩,fun h=>?_⟩
  rw[hz] at h
  cases h
 induction n with
 |zero=>
  intro k hn hk
  have he:k=s.length:=by omega
  subst he
  exact hend
 |succ n ih=>
  intro k hn hk
  by_cases he:k=s.length
  ·subst he;exact hend
  ·have hlt:k<s.length:=by omega
   have hst:=name_step hs hlt
   have hc:=chs_step hlt
   obtain⟨i1,i2⟩:=ih (k+1) (by omega) (by omega)
   cases hb:(if(k==0)=true then letter s[k] else tailC s[k]) with
   |true=>
    rw[hb,if_pos rfl] at hst
    rw[hb,Bool.true_and] at hc
    have hl:loopK (call pg) pg.G [18,19,20] fc125_b0 (nmS s k)=loopK (call pg) pg.G [18,19,20] fc125_b0 (nmS s (k+1)):=loopK_norm hst
    rw[hc,hl]
    exact⟨i1,i2⟩
   |false=>
    rw[hb,if_neg (by simp)] at hst
    rw[hb,Bool.false_and] at hc
    rw[hc]
    exact⟨fun h=>(by cases h),fun _=>loopK_out (o:=.ret) hst (by simp)⟩
theorem lenD_str(s:List UInt8):lenD 0 (.p (.str s))=some s.length:=rfl
theorem name0(s:List UInt8):∃H',call pg 125 [.p (.str s)] ⟨[],[]⟩=some (.val (.p (.bool (isNm s))),H'):=by
 refine⟨⟨[],[]⟩,call_body (fc:=fc125) rfl rfl rfl rfl ?_⟩
 cases h1:(s==[]) with
 |true=>
  have :isNm s=false:=by simp[isNm,h1]
  rw[this]
  have h1':s=[]:=eq_of_beq h1
  subst h1'
  simp[fc125,evKC,evK,evGuard,put,Env.get,Env.keep,entry,Opd.ev,binD,strBin,finish,evRes,evRes1]
 |false=>
  by_cases h2:s.length≤16
  ·have h2':¬(16<(s.length:Int)):=by omega
   have hk:=kw_eq s (by omega)
   cases h3:kw s with
   |true=>
    rw[h3] at hk
    have :isNm s=false:=by simp[isNm,h1,h2,h3]
    rw[this]
    simp[fc125,evKC,evK,evGuard,put,Env.get,Env.keep,entry,Opd.ev,binD,strBin,lenD,finish,evRes,evRes1,h1,h2',hk]
   |false=>
    rw[h3] at hk
    have e:isNm s=chs 0 s:=by simp[isNm,h1,h2,h3]
    rw[e]
    have hb:s.length≤140737488355328:=by omega
    obtain⟨l1,l2⟩:=name_loop (s:=s) (by omega) s.length 0 (by omega) (by omega)
    rw[List.drop_zero] at l1 l2
    have hlen:lenD 1 (.p (.slice 1 (s.map fun b=>.int .u8 b.toNat)))=some s.length:=by simp[lenD,D.elems?]
    simp only[nmS,Int.natCast_zero] at l1 l2
    cases h4:chs 0 s with
    |true=>
     obtain⟨env,l1⟩:=l1 h4
     simp[fc125,evKC,evK,evGuard,put,Env.get,Env.keep,entry,Opd.ev,binD,strBin,finish,evRes,evRes1,h1,h2',hk,hb,toBytesD,hlen,l1,lenD_str]
    |false=>
     have l2:=l2 h4
     simp[fc125,evKC,evK,evGuard,put,Env.get,Env.keep,entry,Opd.ev,binD,strBin,finish,evRes,evRes1,h1,h2',hk,hb,toBytesD,hlen,l2,lenD_str]
  ·have h2':(16<(s.length:Int)):=by omega
   have :isNm s=false:=by simp[isNm,h2]
   rw[this]
   simp[fc125,evKC,evK,evGuard,put,Env.get,Env.keep,entry,Opd.ev,binD,strBin,lenD,finish,evRes,evRes1,h1,h2']
theorem name_eq(s:List UInt8)(H:Hp):callD (call pg) 125 [.p (.str s)] H=some (.val (.p (.bool (isNm s))),H):=callD_any (name0 s) rfl rfl rfl rfl H
def knd(op:Int):Int:=if 1≤op∧op≤15 then 1 else if 20≤op∧op≤23 then 2 else if 30≤op∧op≤51 then 3 else 0
theorem kind0(op:Int):∃H',call pg 81 [.p (.int .i64 op)] ⟨[],[]⟩=some (.val (.p (.int .i64 (knd op))),H'):=by
 refine⟨⟨[],[]⟩,call_body (fc:=fc81) rfl rfl rfl rfl ?_⟩
 unfold knd
 by_cases h1:1≤op<;>by_cases h2:op≤15<;>by_cases h3:20≤op<;>by_cases h4:op≤23<;>by_cases h5:30≤op<;>by_cases h6:op≤51<;>
  first |(exfalso;omega) |simp[fc81,evKC,evK,evGuard,put,Env.get,Env.keep,entry,Opd.ev,binD,finish,evRes,evRes1,h1,h2,h3,h4,h5,h6]
theorem kind_eq(op:Int)(H:Hp):callD (call pg) 81 [.p (.int .i64 op)] H=some (.val (.p (.int .i64 (knd op))),H):=callD_any (kind0 op) rfl rfl rfl rfl H
def nmd(op:Int):Bool:=op==1||(op==15||(op==45||(op==46||op==47)))
def ownB(op:Int)(nm:List UInt8)(n:Int):Bool:=
 if nmd op=true then isNm nm&&n==0
 else if(op==2)=true then nm==[]&&(decide (1≤n)&&decide (n≤3))
 else if(op==20)=true then nm==[]&&(decide (-64≤n)&&decide (n≤64))
 else nm==[]&&n==0
def ownN(a:Nd):Bool:=ownB a.op a.nm a.n
theorem own0(a:Nd):∃H',call pg 78 [.p a.pd] ⟨[],[]⟩=some (.val (.p (.bool (ownN a))),H'):=by
 have o1:=one_all a
 have lop:∀G tk,loadD G ⟨[a.cells.map .p],tk⟩ none (.box 0 0)=some (.p (.int .i64 a.op)):=fun _ _=>rfl
 have lnm:∀G tk,loadD G ⟨[a.cells.map .p],tk⟩ none (.box 0 1)=some (.p (.str a.nm)):=fun _ _=>rfl
 have ln:∀G tk,loadD G ⟨[a.cells.map .p],tk⟩ none (.box 0 2)=some (.p (.int .i64 a.n)):=fun _ _=>rfl
 have hn:=name_eq a.nm
 rw[pd_cells]
 refine⟨_,call_body (fc:=fc78) rfl rfl rfl rfl (r:=(_,⟨[a.cells.map .p],[]⟩)) ?_⟩
 unfold ownN ownB nmd
 generalize a.op=op at *
 generalize a.nm=nm at *
 generalize a.n=n at *
 cases e1:(op==1) with
 |true=>
  cases hN:isNm nm<;>rw[hN] at hn<;>simp[fc78,evKC,evK,evGuard,put,Env.get,Env.keep,entry,Opd.ev,binD,finish,evRes,evRes1,D.cells,o1,lop,lnm,ln,hn,e1]
 |false=>
  cases e15:(op==15) with
  |true=>
   cases hN:isNm nm<;>rw[hN] at hn<;>simp[fc78,evKC,evK,evGuard,put,Env.get,Env.keep,entry,Opd.ev,binD,finish,evRes,evRes1,D.cells,o1,lop,lnm,ln,hn,e1,e15]
  |false=>
   cases e45:(op==45) with
   |true=>
    cases hN:isNm nm<;>rw[hN] at hn<;>simp[fc78,evKC,evK,evGuard,put,Env.get,Env.keep,entry,Opd.ev,binD,finish,evRes,evRes1,D.cells,o1,lop,lnm,ln,hn,e1,e15,e45]
   |false=>
    cases e46:(op==46) with
    |true=>
     cases hN:isNm nm<;>rw[hN] at hn<;>simp[fc78,evKC,evK,evGuard,put,Env.get,Env.keep,entry,Opd.ev,binD,finish,evRes,evRes1,D.cells,o1,lop,lnm,ln,hn,e1,e15,e45,e46]
    |false=>
     cases e47:(op==47) with
     |true=>
      cases hN:isNm nm<;>rw[hN] at hn<;>simp[fc78,evKC,evK,evGuard,put,Env.get,Env.keep,entry,Opd.ev,binD,finish,evRes,evRes1,D.cells,o1,lop,lnm,ln,hn,e1,e15,e45,e46,e47]
     |false=>
      cases e2:(op==2) with
      |true=>
       cases hN:(nm==[])<;>by_cases h1:1≤n<;>by_cases h3:n≤3<;>simp[fc78,evKC,evK,evGuard,put,Env.get,Env.keep,entry,Opd.ev,binD,strBin,finish,evRes,evRes1,D.cells,o1,lop,lnm,ln,e1,e15,e45,e46,e47,e2,hN,h1,h3]
      |false=>
       cases e20:(op==20) with
       |true=>
        cases hN:(nm==[])<;>by_cases h1: -64≤n<;>by_cases h3:n≤64<;>simp[fc78,evKC,evK,evGuard,put,Env.get,Env.keep,entry,Opd.ev,binD,strBin,finish,evRes,evRes1,D.cells,o1,lop,lnm,ln,e1,e15,e45,e46,e47,e2,e20,hN,h1,h3]
       |false=>
        cases hN:(nm==[])<;>simp[fc78,evKC,evK,evGuard,put,Env.get,Env.keep,entry,Opd.ev,binD,strBin,finish,evRes,evRes1,D.cells,o1,lop,lnm,ln,e1,e15,e45,e46,e47,e2,e20,hN]
theorem own_eq(a:Nd)(H:Hp):callD (call pg) 78 [.p a.pd] H=some (.val (.p (.bool (ownN a))),H):=callD_any (own0 a) rfl rfl rfl rfl H
def shpT:List (Int×List UInt8):=[(1,[]),(2,[]),(3,[]),(4,[]),(5,[101]),(6,[101,101]),(7,[101,101]),(8,[101,101]),(9,[101,101]),(10,[101,101]),(11,[101]),(12,[101]),(13,[101]),(14,[101,101]),(15,[101,102]),(20,[]),(21,[101]),(22,[105,105]),(23,[105,105]),(30,[]),(31,[]),(32,[101,101]),(33,[101,101]),(34,[101]),(35,[101]),(36,[101]),(37,[101]),(38,[105,105]),(39,[105,105]),(40,[102]),(41,[102,102]),(42,[102,102]),(43,[102,102]),(44,[102,102]),(45,[101,102]),(46,[101,102]),(48,[102]),(49,[102]),(50,[102]),(51,[102,102])]
def lookS:List (Int×List UInt8)→Int→Option (List UInt8)
 |[],_=>none
 |e::t,k=>if e.1=k then some e.2 else lookS t k
def tabS:List D:=[.mapc 13 (shpT.map fun e=>.int .i64 e.1) (shpT.map fun e=>.p (.str e.2))]
def getS(k:Int):D:=match lookS shpT k with
 |some w=>.tup [.p (.str w),.p (.bool true)]
 |none=>.tup [.p (.str []),.p (.bool false)]
theorem findK_lookS(k:Int):∀(t:List (Int×List UInt8)),(match findK (.int .i64 k) (t.map fun e=>PD.int .i64 e.1) with
    |some j=>((t.map fun e=>D.p (.str e.2))[j]?).map fun v=>D.tup [v,.p (.bool true)]
    |none=>some (.tup [.p (.str []),.p (.bool false)]))=some (match lookS t k with
     |some w=>D.tup [.p (.str w),.p (.bool true)]
     |none=>.tup [.p (.str []),.p (.bool false)]):=by
 intro t
 induction t with
 |nil=>rfl
 |cons e t ih=>
  simp only[List.map_cons,findK,lookS]
  by_cases h:e.1=k
  ·subst h
   simp[keyEq]
  ·have h1:keyEq (.int .i64 k) (.int .i64 e.1)=false:=by simp[keyEq];omega
   simp only[h1,if_neg h,Bool.false_eq_true,if_false]
   rw[←ih]
   cases findK (.int .i64 k) (t.map fun e=>PD.int .i64 e.1)<;>simp
theorem get_shp{H:Hp}{i:Nat}(h:H.bx[i]? =some tabS)(k:Int):mapgetD 13 (.str []) true (.mapr i) (.p (.int .i64 k)) H=some (getS k):=by
 have:=findK_lookS k shpT
 simp only[mapgetD,h,tabS]
 have hk:keyKind (.int .i64 k)=13:=rfl
 simp only[hk,true_and,ne_eq]
 exact this
def isShp:Option (Res×Hp)→Bool
 |some (.val (.mapr 0),⟨[b],[]⟩)=>D.eqbL b tabS
 |_=>false
theorem shapes_run:isShp (evF pg 10 46 [] ⟨[],[]⟩)=true:=by kernel_rfl
theorem shapes0:call pg 46 [] ⟨[],[]⟩=some (.val (.mapr 0),⟨[tabS],[]⟩):=by
 refine call_of_evF 10 ?_
 have h:=shapes_run
 unfold isShp at h
 split at h
 ·rename_i b hb
  rw[hb,D.eqbL_eq _ _ h]
 ·cases h
theorem boxRefs_shp{H:Hp}{i:Nat}(hi:H.bx[i]? =some tabS):boxRefs H [i]=[]:=by
 simp only[boxRefs,hi,List.append_nil]
 rfl
theorem callD_shp{g:Nat}{args:List PD}{H:Hp}{i:Nat}(hi:H.bx[i]? =some tabS){d:D}(hd:∀bi ti,d.ren bi ti=some d)
    (h:∃ex tk,call pg g (.mapr 0::args.map .p) ⟨[tabS],[]⟩=some (.val d,⟨tabS::ex,tk⟩)):callD (call pg) g (.mapr i::args.map .p) H=some (.val d,H):=by
 obtain⟨ex,tk,h⟩:=h
 have e1:D.refsL (.mapr i::args.map .p)=[i]:=by simp[D.refsL,D.refs]
 have e2:D.toksL (.mapr i::args.map .p)=[]:=by simp[D.toksL,D.toks]
 have e3:∀n,reach H n [i]=[i]:=fun n=>by
  cases n with
  |zero=>rfl
  |succ n=>simp only[reach,boxRefs_shp hi]
 have e4:boxToks H [i]=[]:=by
  simp only[boxToks,hi,List.append_nil];rfl
 have e5:D.renL (idx [i]) (idx []) (.mapr i::args.map .p)=some (.mapr 0::args.map .p):=by simp[D.renL,D.ren,idx]
 have e6:D.renL (idx [i]) (idx []) tabS=some tabS:=by rfl
 have e7:D.renL (fun j=>[i][j]?) (fun t=>([]:List Nat)[t]?) tabS=some tabS:=by rfl
 have hset:H.bx.set i tabS=H.bx:=by
  apply List.ext_getElem?
  intro j
  by_cases hj:i=j
  ·subst hj
   rw[List.getElem?_set_self (List.getElem?_eq_some_iff.1 hi).1,hi]
  ·rw[List.getElem?_set_ne hj]
 have i1:ins [] [i]=[i]:=rfl
 have i2:ins [] ([]:List Nat)=[]:=rfl
 have n1:(Vs.nodupB [i]&&Vs.nodupB ([]:List Nat))=true:=by simp[Vs.nodupB]
 simp only[callD,e1,e2,i1,e3,e4,List.append_nil,i2,n1,if_true,e5,mapO,hi,e6,Option.map_some]
 rw[h]
 have k1:firstN (tabS::ex) 1=some [tabS]:=by simp[firstN]
 have k2:firstN tk 0=some []:=by simp[firstN]
 simp only[back,List.length_cons,List.length_nil,k1,k2,Res.ren,hd,Option.map_some,mapO,e7,putAll,hset]
def kl(op:Int):UInt8:=if knd op=1 then 101 else if knd op=2 then 105 else if knd op=3 then 102 else 63
theorem kl_index(op:Int):indexD none (.p (.str [63,101,105,102])) (knd op)=some (u8 (kl op)):=by
 unfold kl knd
 split
 ·rfl
 ·split
  ·rfl
  ·split<;>rfl
def fitsL:List Nd→List UInt8→Bool
 |k::ks,c::w=>(kl k.op==c)&&fitsL ks w
 |_,_=>true
def wantS(op:Int)(n:Nat):Option (List UInt8):=if op=47 then some (List.replicate n 101) else lookS shpT op
def fitsB(op:Int)(ks:List Nd):Bool:=match wantS op ks.length with
 |some w=>decide (ks.length=w.length)&&fitsL ks w
 |none=>false
theorem repL_e(n:Nat):repL n [101]=List.replicate n 101:=by
 induction n with
 |zero=>rfl
 |succ n ih=>simp[repL,ih,List.replicate_succ]
theorem repeat_eq(n:Nat)(hn:n≤140737488355328)(H:Hp):callD (call pg) 126 [.p (.str [101]),.p (.int .i64 n)] H=some (.val (.p (.str (List.replicate n 101))),H):=by
 have h':pgL 126 [.p (.str [101]),.p (.int .i64 n)] ⟨[],[]⟩=some (.val (.p (.str (List.replicate n 101))),⟨[],[]⟩):=by
  simp only[pgL,Int.toNat_natCast,repL_e]
  exact if_pos ⟨by omega,by simp;omega,by omega⟩
 exact callD_pure (call_lib h') rfl rfl rfl rfl
def ftS(w:List UInt8)(a:Nd)(k:Nat):St:=⟨[(7,.p (.str w)),(31,.p a.kidsP),(32,.p (.int .i64 a.ks.length)),(33,.p (.int .i64 k))],⟨[tabS],[]⟩⟩
theorem fits_end(w:List UInt8)(a:Nd):∃env,evS (call pg) pg.G iterX fc79_b0 (ftS w a a.ks.length)=some (.exit 0,⟨env,⟨[tabS],[]⟩⟩):=by
 have r1:∀f g,D.renL f g tabS=some tabS:=fun f g=>rfl
 refine⟨[(7,.p (.str w)),(31,.p a.kidsP),(32,.p (.int .i64 a.ks.length)),(33,.p (.int .i64 a.ks.length)),(34,.p (.bool false))],?_⟩
 simp[ftS,fc79_b0,evKC,evK,put,Env.get,Env.keep,Opd.ev,binD,mapO,D.ren,locD,Out.ren,List.map,r1]
theorem ix_str{w:List UInt8}{k:Nat}(h:k<w.length):indexD none (.p (.str w)) (k:Int)=some (u8 w[k]):=by
 simp[indexD,h]
theorem u8_bne(a b:UInt8):(((a.toNat:Nat):Int)!=((b.toNat:Nat):Int))= !(a==b):=by
 rw[bne_nat]
 simp only[bne]
 congr 1
 rw[Bool.eq_iff_iff]
 simp only[beq_iff_eq]
 exact UInt8.toNat_inj
theorem fits_step{w:List UInt8}{a:Nd}{k:Nat}(hl:a.ks.length=w.length)(hb:a.ks.length≤1000000000)(hlt:k<a.ks.length):
    evS (call pg) pg.G iterX fc79_b0 (ftS w a k)=some (if(kl (a.ks[k]).op==w[k]'(hl▸hlt))=true then(.norm,ftS w a (k+1)) else(.ret,⟨[(6,.p (.bool false))],⟨[tabS],[]⟩⟩)):=by
 have r1:∀f g,D.renL f g tabS=some tabS:=fun f g=>rfl
 have hlt':(k:Int)<(a.ks.length:Int):=by omega
 have hia:=ia_kids hlt
 have hk1:=inc64 (k:=k) (by omega)
 have hx:=ix_str (w:=w) (k:=k) (hl▸hlt)
 have hl2:=fun(G:Nat→Option (List PD)) (H:Hp)=>load_nd (G:=G) (H:=H) a.ks[k]
 have hki:=kind_eq (a.ks[k]).op
 have hix:=kl_index (a.ks[k]).op
 generalize w[k]'(hl▸hlt)=c at *
 generalize a.ks[k]=x at *
 have hu:=u8_bne (kl x.op) c
 have hst:∀tk,storeD ⟨[tabS,[.p (.int .i64 0),.p (.str []),.p (.int .i64 0),.p .nils,.p (.int .i64 0)]],tk⟩ 5 (.box 1 0) (.p x.pd)=some ⟨[tabS,x.cells.map .p],tk⟩:=fun tk=>by
  rw[pd_cells]
  exact store_box (H:=⟨[tabS,[.p (.int .i64 0),.p (.str []),.p (.int .i64 0),.p .nils,.p (.int .i64 0)]],tk⟩) (i:=1) (zs:=[.int .i64 0,.str [],.int .i64 0,.nils,.int .i64 0]) rfl rfl rfl (by decide) (pd_one x)
 have lop:∀G tk,loadD G ⟨[tabS,x.cells.map .p],tk⟩ none (.box 1 0)=some (.p (.int .i64 x.op)):=fun _ _=>rfl
 cases hc:(kl x.op==c)<;>rw[hc] at hu<;>simp[ftS,fc79_b0,evKC,evK,put,Env.get,Env.keep,Opd.ev,D.asInt?,binD,strBin,clsP,cls,clsR,isCl,D.refsL,D.refs,D.toksL,D.toks,List.map,hlt',hia,hx,hl2,hki,hix,hst,lop]<;>simp[u8,evKC,evK,put,Env.get,Env.keep,Opd.ev,u8,binD,clsP,cls,isW,apartRW,offB,apartWW,clash,insOk,mapO,D.ren,locD,Out.ren,List.map,hu,hk1,r1]
theorem fitsL_step{w:List UInt8}{ks:List Nd}{k:Nat}(h1:k<ks.length)(h2:k<w.length):fitsL (ks.drop k) (w.drop k)=((kl (ks[k]).op==w[k])&&fitsL (ks.drop (k+1)) (w.drop (k+1))):=by
 rw[List.drop_eq_getElem_cons h1,List.drop_eq_getElem_cons h2]
 rfl
theorem fits_loop{w:List UInt8}{a:Nd}(hl:a.ks.length=w.length)(hb:a.ks.length≤1000000000):∀(n k:Nat),a.ks.length-k≤n→k≤a.ks.length→
    (fitsL (a.ks.drop k) (w.drop k)=true→∃env,loopK (call pg) pg.G [7,31,32,33] fc79_b0 (ftS w a k)=some (.exit 0,⟨env,⟨[tabS],[]⟩⟩))∧
    (fitsL (a.ks.drop k) (w.drop k)=false→loopK (call pg) pg.G [7,31,32,33] fc79_b0 (ftS w a k)=some (.ret,⟨[(6,.p (.bool false))],⟨[tabS],[]⟩⟩)):=by
 intro n
 have hend:(fitsL (a.ks.drop a.ks.length) (w.drop a.ks.length)=true→∃env,loopK (call pg) pg.G [7,31,32,33] fc79_b0 (ftS w a a.ks.length)=some (.exit 0,⟨env,⟨[tabS],[]⟩⟩))∧
     (fitsL (a.ks.drop a.ks.length) (w.drop a.ks.length)=false→loopK (call pg) pg.G [7,31,32,33] fc79_b0 (ftS w a a.ks.length)=some (.ret,⟨[(6,.p (.bool false))],⟨[tabS],[]⟩⟩)):=by
  obtain⟨env,he⟩:=fits_end w a
  refine⟨fun _=>⟨env,loopK_out (o:=.exit 0) he (by simp)⟩,fun h=>?_⟩
  rw[List.drop_eq_nil_of_le (Nat.le_refl _)] at h
  simp[fitsL] at h
 induction n with
 |zero=>
  intro k hn hk
  have he:k=a.ks.length:=by omega
  subst he
  exact hend
 |succ n ih=>
  intro k hn hk
  by_cases he:k=a.ks.length
  ·subst he;exact hend
  ·have hlt:k<a.ks.length:=by omega
   have hst:=fits_step hl hb hlt
   have hc:=fitsL_step hlt (w:=w) (by omega)
   obtain⟨i1,i2⟩:=ih (k+1) (by omega) (by omega)
   cases hb:(kl (a.ks[k]).op==w[k]'(hl▸hlt)) with
   |true=>
    rw[hb,if_pos rfl] at hst
    rw[hb,Bool.true_and] at hc
    have hl:loopK (call pg) pg.G [7,31,32,33] fc79_b0 (ftS w a k)=loopK (call pg) pg.G [7,31,32,33] fc79_b0 (ftS w a (k+1)):=loopK_norm hst
    rw[hc,hl]
    exact⟨i1,i2⟩
   |false=>
    rw[hb,if_neg (by simp)] at hst
    rw[hb,Bool.false_and] at hc
    rw[hc]
    exact⟨fun h=>(by cases h),fun _=>loopK_out (o:=.ret) hst (by simp)⟩
theorem fits0(op:Int)(a:Nd)(hb:a.ks.length≤1000000000):∃ex tk,call pg 79 [.mapr 0,.p (.int .i64 op),.p a.kidsP] ⟨[tabS],[]⟩=some (.val (.p (.bool (fitsB op a.ks))),⟨tabS::ex,tk⟩):=by
 have hg:=get_shp (H:=⟨[tabS],[]⟩) (i:=0) rfl op
 have hk0:=len_kids a
 have hrep:=repeat_eq a.ks.length (by omega)
 refine⟨[],[],call_body (fc:=fc79) rfl rfl rfl rfl ?_⟩
 by_cases h47:op=47
 ·subst h47
  have hw:wantS 47 a.ks.length=some (List.replicate a.ks.length 101):=by simp[wantS]
  have hz:getS 47= .tup [.p (.str []),.p (.bool false)]:=by rfl
  rw[hz] at hg
  have hlen:a.ks.length=(List.replicate a.ks.length (101 :UInt8)).length:=by simp
  obtain⟨l1,l2⟩:=fits_loop (w:=List.replicate a.ks.length 101) (a:=a) hlen hb a.ks.length 0 (by omega) (by omega)
  rw[List.drop_zero,List.drop_zero] at l1 l2
  simp only[ftS,Int.natCast_zero] at l1 l2
  cases hf:fitsL a.ks (List.replicate a.ks.length 101) with
  |true=>
   obtain⟨env,l1⟩:=l1 hf
   have hr:fitsB 47 a.ks=true:=by simp[fitsB,hw,hf]
   rw[hr]
   simp[fc79,evKC,evK,evGuard,put,Env.get,Env.keep,entry,Opd.ev,binD,unD,finish,evRes,evRes1,lenD_str,hg,hk0,hrep,l1]
  |false=>
   have l2:=l2 hf
   have hr:fitsB 47 a.ks=false:=by simp[fitsB,hw,hf]
   rw[hr]
   simp[fc79,evKC,evK,evGuard,put,Env.get,Env.keep,entry,Opd.ev,binD,unD,finish,evRes,evRes1,lenD_str,hg,hk0,hrep,l2]
 ·have h47':(op==47)=false:=by simpa using h47
  cases hl:lookS shpT op with
  |none=>
   have hr:fitsB op a.ks=false:=by simp[fitsB,wantS,h47,hl]
   simp only[getS,hl] at hg
   rw[hr]
   simp[fc79,evKC,evK,evGuard,put,Env.get,Env.keep,entry,Opd.ev,binD,unD,finish,evRes,evRes1,hg,h47']
  |some w=>
   simp only[getS,hl] at hg
   by_cases hlen:a.ks.length=w.length
   ·have hlen':((a.ks.length:Int)!=(w.length:Int))=false:=by rw[bne_nat];simp[hlen]
    obtain⟨l1,l2⟩:=fits_loop (w:=w) (a:=a) hlen hb a.ks.length 0 (by omega) (by omega)
    rw[List.drop_zero,List.drop_zero] at l1 l2
    simp only[ftS,Int.natCast_zero] at l1 l2
    cases hf:fitsL a.ks w with
    |true=>
     obtain⟨env,l1⟩:=l1 hf
     have hr:fitsB op a.ks=true:=by simp[fitsB,wantS,h47,hl,hf,hlen]
     rw[hr]
     simp[fc79,evKC,evK,evGuard,put,Env.get,Env.keep,entry,Opd.ev,binD,unD,finish,evRes,evRes1,lenD_str,hg,hk0,h47',hlen',l1]
    |false=>
     have l2:=l2 hf
     have hr:fitsB op a.ks=false:=by simp[fitsB,wantS,h47,hl,hf]
     rw[hr]
     simp[fc79,evKC,evK,evGuard,put,Env.get,Env.keep,entry,Opd.ev,binD,unD,finish,evRes,evRes1,lenD_str,hg,hk0,h47',hlen',l2]
   ·have hlen':((a.ks.length:Int)!=(w.length:Int))=true:=by rw[bne_nat];simp[hlen]
    have hr:fitsB op a.ks=false:=by simp[fitsB,wantS,h47,hl,hlen]
    rw[hr]
    simp[fc79,evKC,evK,evGuard,put,Env.get,Env.keep,entry,Opd.ev,binD,unD,finish,evRes,evRes1,lenD_str,hg,hk0,h47',hlen']
theorem fits_eq{op:Int}{a:Nd}(hb:a.ks.length≤1000000000){H:Hp}{i:Nat}(hi:H.bx[i]? =some tabS):callD (call pg) 79 [.mapr i,.p (.int .i64 op),.p a.kidsP] H=some (.val (.p (.bool (fitsB op a.ks))),H):=
 callD_shp (args:=[.int .i64 op,a.kidsP]) hi (fun _ _=>rfl) (fits0 op a hb)
mutual
def meas:Nd→Int→Int→Option Int
 | .mk op nm n _ ks _,d,l=>if 24<d∨l<1∨400<ks.length∨ownB op nm n=false∨fitsB op ks=false then none else measL ks d l 1
def measL:List Nd→Int→Int→Int→Option Int
 |[],_,_,cnt=>some cnt
 |k::ks,d,l,cnt=>match meas k (d+1) (l-cnt) with
  |some c=>measL ks d l (cnt+c)
  |none=>none
end
theorem meas_eq(a:Nd)(d l:Int):meas a d l=if 24<d∨l<1∨400<a.ks.length∨ownN a=false∨fitsB a.op a.ks=false then none else measL a.ks d l 1:=by
 cases a;rfl
def measD(o:Option Int):D:=match o with
 |some c=>.tup [.p (.int .i64 c),.p (.bool true)]
 |none=>.tup [.p (.int .i64 0),.p (.bool false)]
mutual
theorem meas_pos:∀(a:Nd) (d l c:Int),meas a d l=some c→1≤c∧c≤a.size
 | .mk op nm n _ ks _,d,l,c,h=>by
  simp only[meas] at h
  split at h
  ·cases h
  ·have:=measL_pos ks d l 1 c h
   simp only[Nd.size]
   omega
theorem measL_pos:∀(ks:List Nd) (d l cnt c:Int),measL ks d l cnt=some c→cnt≤c∧c≤cnt+Nd.sizeL ks
 |[],d,l,cnt,c,h=>by
  simp only[measL,Option.some.injEq] at h
  simp only[Nd.sizeL]
  omega
 |k::ks,d,l,cnt,c,h=>by
  simp only[measL] at h
  split at h
  ·rename_i c1 h1
   have h2:=meas_pos k (d+1) (l-cnt) c1 h1
   have h3:=measL_pos ks d l (cnt+c1) c h
   simp only[Nd.sizeL]
   omega
  ·cases h
end
def msS(a:Nd)(d l cnt:Int)(k:Nat):St:=⟨[(0,.mapr 0),(2,.p (.int .i64 d)),(3,.p (.int .i64 l)),(10,.p (.int .i64 cnt)),(42,.p a.kidsP),(43,.p (.int .i64 a.ks.length)),(44,.p (.int .i64 k))],⟨[tabS,a.cells.map .p],[]⟩⟩
theorem ren_cells(f g:Nat→Option Nat)(a:Nd):D.renL f g (a.cells.map .p)=some (a.cells.map .p):=renL_p f g a.cells
theorem meas_end(a:Nd)(d l cnt:Int):∃env,evS (call pg) pg.G iterX fc45_b0 (msS a d l cnt a.ks.length)=some (.exit 0,⟨env,⟨[tabS,a.cells.map .p],[]⟩⟩)∧env.get 10= .p (.int .i64 cnt):=by
 have r1:∀f g,D.renL f g tabS=some tabS:=fun f g=>rfl
 have r2:=fun f g=>ren_cells f g a
 refine⟨[(0,.mapr 0),(2,.p (.int .i64 d)),(3,.p (.int .i64 l)),(10,.p (.int .i64 cnt)),(42,.p a.kidsP),(43,.p (.int .i64 a.ks.length)),(44,.p (.int .i64 a.ks.length)),(45,.p (.bool false))],?_,rfl⟩
 simp[msS,fc45_b0,evKC,evK,put,Env.get,Env.keep,Opd.ev,binD,mapO,D.ren,locD,below,Out.ren,List.map,r1,r2]
def MeasOk(a:Nd):Prop:=∀(d l:Int),0≤d→d≤25→-1000000≤l→l≤1000000→∀(H:Hp) (i:Nat),H.bx[i]? =some tabS→
 callD (call pg) 45 [.mapr i,.p a.pd,.p (.int .i64 d),.p (.int .i64 l)] H=some (.val (measD (meas a d l)),H)
theorem meas_step{a:Nd}{d l cnt:Int}{k:Nat}(hd0:0≤d)(hd1:d≤24)(hl0:1≤l)(hl1:l≤1000000)(hc0:0≤cnt)(hc1:cnt≤1000000)(hb:a.ks.length≤1000000000)(hlt:k<a.ks.length)(ih:MeasOk a.ks[k])
    (hsz:(a.ks[k]).size≤1000000):
    evS (call pg) pg.G iterX fc45_b0 (msS a d l cnt k)=some (match meas a.ks[k] (d+1) (l-cnt) with
     |some c=>(.norm,msS a d l (cnt+c) (k+1))
     |none=>(.ret,⟨[(8,.p (.int .i64 0)),(9,.p (.bool false))],⟨[tabS,a.cells.map .p],[]⟩⟩)):=by
 have r1:∀f g,D.renL f g tabS=some tabS:=fun f g=>rfl
 have r2:=fun f g=>ren_cells f g a
 have hlt':(k:Int)<(a.ks.length:Int):=by omega
 have hia:=ia_kids hlt
 have hk1:=inc64 (k:=k) (by omega)
 have hl2:=fun(G:Nat→Option (List PD)) (H:Hp)=>load_nd (G:=G) (H:=H) a.ks[k]
 have hpos:=meas_pos a.ks[k] (d+1) (l-cnt)
 generalize a.ks[k]=x at *
 have hst:∀tk,storeD ⟨[tabS,a.cells.map .p,[.p (.int .i64 0),.p (.str []),.p (.int .i64 0),.p .nils,.p (.int .i64 0)]],tk⟩ 5 (.box 2 0) (.p x.pd)=some ⟨[tabS,a.cells.map .p,x.cells.map .p],tk⟩:=fun tk=>by
  rw[pd_cells]
  exact store_box (H:=⟨[tabS,a.cells.map .p,[.p (.int .i64 0),.p (.str []),.p (.int .i64 0),.p .nils,.p (.int .i64 0)]],tk⟩) (i:=2) (zs:=[.int .i64 0,.str [],.int .i64 0,.nils,.int .i64 0]) rfl rfl rfl (by decide) (pd_one x)
 have lnd:∀G tk,loadD G ⟨[tabS,a.cells.map .p,x.cells.map .p],tk⟩ (some 5) (.box 2 0)=some (.p x.pd):=fun G tk=>load_ndb (i:=2) rfl
 have w1:IntKind.i64.wrap (d+1)=d+1:=wrap64 (by omega) (by omega)
 have w2:IntKind.i64.wrap (l-cnt)=l-cnt:=wrap64 (by omega) (by omega)
 have hcall:=fun tk=>ih (d+1) (l-cnt) (by omega) (by omega) (by omega) (by omega) ⟨[tabS,a.cells.map .p,x.cells.map .p],tk⟩ 0 rfl
 cases hm:meas x (d+1) (l-cnt) with
 |none=>
  rw[hm] at hcall
  simp only[measD] at hcall
  simp[msS,fc45_b0,evKC,evK,put,Env.get,Env.keep,Opd.ev,D.asInt?,binD,unD,mapO,D.ren,locD,Out.ren,List.map,r1,r2,hlt',hia,hl2,hst,lnd,w1,w2,hcall]
 |some c=>
  rw[hm] at hcall
  have hc:=hpos c hm
  have w3:IntKind.i64.wrap (cnt+c)=cnt+c:=wrap64 (by omega) (by omega)
  simp only[measD] at hcall
  simp[msS,fc45_b0,evKC,evK,put,Env.get,Env.keep,Opd.ev,D.asInt?,binD,unD,mapO,D.ren,locD,below,Out.ren,List.map,r1,r2,hlt',hia,hk1,hl2,hst,lnd,w1,w2,w3,hcall]
theorem measL_drop{ks:List Nd}{k:Nat}(h:k<ks.length)(d l cnt:Int):measL (ks.drop k) d l cnt=match meas ks[k] (d+1) (l-cnt) with
    |some c=>measL (ks.drop (k+1)) d l (cnt+c)
    |none=>none:=by
 rw[List.drop_eq_getElem_cons h]
 rfl
theorem sizeL_drop{ks:List Nd}{k:Nat}(h:k<ks.length):Nd.sizeL (ks.drop k)=(ks[k]).size+Nd.sizeL (ks.drop (k+1)):=by
 rw[List.drop_eq_getElem_cons h]
 rfl
theorem meas_loop{a:Nd}{d l:Int}(hd0:0≤d)(hd1:d≤24)(hl0:1≤l)(hl1:l≤1000000)(hb:a.ks.length≤1000000000)(ih:∀x∈a.ks,MeasOk x)(hsz:a.size≤1000000):
    ∀(n k:Nat) (cnt:Int),a.ks.length-k≤n→k≤a.ks.length→0≤cnt→cnt+Nd.sizeL (a.ks.drop k)≤1000000→
    (∀c,measL (a.ks.drop k) d l cnt=some c→∃env,loopK (call pg) pg.G [0,2,3,10,42,43,44] fc45_b0 (msS a d l cnt k)=some (.exit 0,⟨env,⟨[tabS,a.cells.map .p],[]⟩⟩)∧env.get 10= .p (.int .i64 c))∧
    (measL (a.ks.drop k) d l cnt=none→loopK (call pg) pg.G [0,2,3,10,42,43,44] fc45_b0 (msS a d l cnt k)=some (.ret,⟨[(8,.p (.int .i64 0)),(9,.p (.bool false))],⟨[tabS,a.cells.map .p],[]⟩⟩)):=by
 intro n
 have hend:∀cnt,(∀c,measL (a.ks.drop a.ks.length) d l cnt=some c→∃env,loopK (call pg) pg.G [0,2,3,10,42,43,44] fc45_b0 (msS a d l cnt a.ks.length)=some (.exit 0,⟨env,⟨[tabS,a.cells.map .p],[]⟩⟩)∧env.get 10= .p (.int .i64 c))∧
     (measL (a.ks.drop a.ks.length) d l cnt=none→loopK (call pg) pg.G [0,2,3,10,42,43,44] fc45_b0 (msS a d l cnt a.ks.length)=some (.ret,⟨[(8,.p (.int .i64 0)),(9,.p (.bool false))],⟨[tabS,a.cells.map .p],[]⟩⟩)):=by
  intro cnt
  obtain⟨env,he,hg⟩:=meas_end a d l cnt
  rw[List.drop_eq_nil_of_le (Nat.le_refl _)]
  refine⟨fun c hc=>⟨env,loopK_out (o:=.exit 0) he (by simp),?_⟩,fun h=>by simp[measL] at h⟩
  simp only[measL,Option.some.injEq] at hc
  rw[hg,hc]
 induction n with
 |zero=>
  intro k cnt hn hk _ _
  have he:k=a.ks.length:=by omega
  subst he
  exact hend cnt
 |succ n IH=>
  intro k cnt hn hk hc0 hc1
  by_cases he:k=a.ks.length
  ·subst he;exact hend cnt
  ·have hlt:k<a.ks.length:=by omega
   have hs:=sizeL_drop hlt
   have hsk:=size_kid (List.getElem_mem hlt)
   have hst:=meas_step (a:=a) (k:=k) hd0 hd1 hl0 hl1 hc0 (by omega) hb hlt (ih _ (List.getElem_mem hlt)) (by omega)
   have hm:=measL_drop hlt d l cnt
   cases hx:meas a.ks[k] (d+1) (l-cnt) with
   |none=>
    rw[hx] at hst hm
    rw[hm]
    exact⟨fun c h=>(by cases h),fun _=>loopK_out (o:=.ret) hst (by simp)⟩
   |some c=>
    rw[hx] at hst hm
    have hp:=meas_pos _ _ _ _ hx
    have hl:loopK (call pg) pg.G [0,2,3,10,42,43,44] fc45_b0 (msS a d l cnt k)=loopK (call pg) pg.G [0,2,3,10,42,43,44] fc45_b0 (msS a d l (cnt+c) (k+1)):=loopK_norm hst
    rw[hm,hl]
    exact IH (k+1) (cnt+c) (by omega) (by omega) (by omega) (by omega)
theorem meas0:∀(s:Nat) (a:Nd),a.size≤s→s≤1000000→∀(d l:Int),0≤d→d≤25→-1000000≤l→l≤1000000→
    ∃ex tk,call pg 45 [.mapr 0,.p a.pd,.p (.int .i64 d),.p (.int .i64 l)] ⟨[tabS],[]⟩=some (.val (measD (meas a d l)),⟨tabS::ex,tk⟩):=by
 intro s
 induction s with
 |zero=>intro a h;have:=size_eq a;omega
 |succ s IH=>
  intro a hs hB d l hd0 hd1 hl0 hl1
  have hsz:=size_eq a
  have hlen:=len_sizeL a.ks
  have o1:=one_all a
  have lks:∀G tk,loadD G ⟨[tabS,a.cells.map .p],tk⟩ none (.box 1 3)=some (.p a.kidsP):=fun _ _=>rfl
  have lop:∀G tk,loadD G ⟨[tabS,a.cells.map .p],tk⟩ none (.box 1 0)=some (.p (.int .i64 a.op)):=fun _ _=>rfl
  have lnd:∀G tk,loadD G ⟨[tabS,a.cells.map .p],tk⟩ (some 5) (.box 1 0)=some (.p a.pd):=fun G tk=>load_ndb (i:=1) rfl
  have hk0:=len_kids a
  have hown:=own_eq a
  have hfit:=fun tk=>fits_eq (op:=a.op) (a:=a) (by omega) (H:=⟨[tabS,a.cells.map .p],tk⟩) (i:=0) rfl
  have hme:=meas_eq a d l
  rw[pd_cells] at lnd hown⊢
  refine⟨[a.cells.map .p],[],call_body (fc:=fc45) rfl rfl rfl rfl ?_⟩
  by_cases h1:24<d
  ·rw[if_pos (.inl h1)] at hme
   rw[hme]
   simp[fc45,evKC,evK,evGuard,put,Env.get,Env.keep,entry,Opd.ev,binD,finish,evRes,evRes1,mapO,D.cells,o1,h1,measD]
  by_cases h2:l<1
  ·rw[if_pos (.inr (.inl h2))] at hme
   rw[hme]
   simp[fc45,evKC,evK,evGuard,put,Env.get,Env.keep,entry,Opd.ev,binD,finish,evRes,evRes1,mapO,D.cells,o1,h1,h2,measD]
  by_cases h3:400<a.ks.length
  ·rw[if_pos (.inr (.inr (.inl h3)))] at hme
   have h3':400<(a.ks.length:Int):=by omega
   rw[hme]
   simp[fc45,evKC,evK,evGuard,put,Env.get,Env.keep,entry,Opd.ev,binD,finish,evRes,evRes1,mapO,D.cells,o1,h1,h2,lks,hk0,h3',measD]
  have h3':¬400<(a.ks.length:Int):=by omega
  cases h4:ownN a with
  |false=>
   rw[if_pos (.inr (.inr (.inr (.inl h4))))] at hme
   rw[h4] at hown
   rw[hme]
   simp[fc45,evKC,evK,evGuard,put,Env.get,Env.keep,entry,Opd.ev,binD,unD,finish,evRes,evRes1,mapO,D.cells,o1,h1,h2,lks,hk0,h3',lnd,hown,measD]
  |true=>
   rw[h4] at hown
   cases h5:fitsB a.op a.ks with
   |false=>
    rw[if_pos (.inr (.inr (.inr (.inr h5))))] at hme
    rw[h5] at hfit
    rw[hme]
    simp[fc45,evKC,evK,evGuard,put,Env.get,Env.keep,entry,Opd.ev,binD,unD,finish,evRes,evRes1,mapO,D.cells,o1,h1,h2,lks,lop,hk0,h3',lnd,hown,hfit,measD]
   |true=>
    rw[if_neg (by simp[h1,h2,h3,h4,h5])] at hme
    rw[h5] at hfit
    have ihk:∀x∈a.ks,MeasOk x:=fun x hx d' l' q1 q2 q3 q4 H i hi=>by
     have hsx:=size_kid hx
     exact callD_shp (args:=[x.pd,.int .i64 d',.int .i64 l']) hi (fun _ _=>by cases meas x d' l'<;>rfl) (IH x (by omega) (by omega) d' l' q1 q2 q3 q4)
    obtain⟨l1,l2⟩:=meas_loop (a:=a) (d:=d) (l:=l) hd0 (by omega) (by omega) hl1 (by omega) ihk (by omega) a.ks.length 0 1 (by omega) (by omega) (by omega) (by rw[List.drop_zero];omega)
    rw[List.drop_zero] at l1 l2
    simp only[msS,Int.natCast_zero] at l1 l2
    rw[hme]
    cases hL:measL a.ks d l 1 with
    |none=>
     have l2:=l2 hL
     simp[fc45,evKC,evK,evGuard,put,Env.get,Env.keep,entry,Opd.ev,binD,unD,finish,evRes,evRes1,mapO,D.cells,o1,h1,h2,lks,lop,hk0,h3',lnd,hown,hfit,l2,measD]
    |some c=>
     obtain⟨env,l1,g1⟩:=l1 c hL
     simp[fc45,evKC,evK,evGuard,put,Env.get,Env.keep,entry,Opd.ev,binD,unD,finish,evRes,evRes1,mapO,D.cells,o1,h1,h2,lks,lop,hk0,h3',lnd,hown,hfit,l1,g1,measD]
theorem meas_call{a:Nd}(hs:a.size≤1000000){d l:Int}(q1:0≤d)(q2:d≤25)(q3: -1000000≤l)(q4:l≤1000000){H:Hp}{i:Nat}(hi:H.bx[i]? =some tabS):
    callD (call pg) 45 [.mapr i,.p a.pd,.p (.int .i64 d),.p (.int .i64 l)] H=some (.val (measD (meas a d l)),H):=
 callD_shp (args:=[a.pd,.int .i64 d,.int .i64 l]) hi (fun _ _=>by cases meas a d l<;>rfl) (meas0 a.size a (Nat.le_refl _) hs d l q1 q2 q3 q4)
def validN(a:Nd):Bool:=(meas a 1 400).isSome
theorem shapes_call(cs:List D)(_hc:isMapC cs=false)(_hr:D.refsL cs=[]):callD (call pg) 46 [] ⟨[cs],[]⟩=some (.val (.mapr 1),⟨[cs,tabS],[]⟩):=by
 have h:=shapes0
 have e6:D.renL (fun i=>if i<0 then([]:List Nat)[i]? else some ([cs].length+(i-0))) (fun t=>([]:List Nat)[t]?) tabS=some tabS:=by rfl
 simp only[callD,D.refsL,D.toksL,ins,reach,boxRefs,boxToks,List.append_nil,Vs.nodupB,Bool.and_self,if_true,D.renL,mapO,List.length_cons,List.length_nil]
 rw[h]
 simp[back,firstN,Res.ren,D.ren,mapO,putAll]
 rfl
theorem valid0(a:Nd)(hs:a.size≤1000000):∃H',call pg 15 [.p a.pd] ⟨[],[]⟩=some (.val (.p (.bool (validN a))),H'):=by
 have o1:=one_all a
 have hsh:=shapes_call (a.cells.map .p) (isMapC_p _) (refsL_p _)
 have lnd:∀G tk,loadD G ⟨[a.cells.map .p,tabS],tk⟩ (some 5) (.box 0 0)=some (.p a.pd):=fun G tk=>load_ndb (i:=0) rfl
 have hm:=fun tk=>meas_call hs (d:=1) (l:=400) (by omega) (by omega) (by omega) (by omega) (H:=⟨[a.cells.map .p,tabS],tk⟩) (i:=1) rfl
 rw[pd_cells] at lnd hm⊢
 refine⟨_,call_body (fc:=fc15) rfl rfl rfl rfl (r:=(_,⟨[a.cells.map .p,tabS],[]⟩)) ?_⟩
 unfold validN
 cases h:meas a 1 400 with
 |none=>
  rw[h] at hm
  simp only[measD] at hm
  simp[fc15,evKC,evK,put,Env.get,Env.keep,entry,Opd.ev,clsP,cls,clsR,isCl,isW,apartRW,offB,apartWW,clash,insOk,finish,evRes,evRes1,D.cells,D.refsL,D.refs,D.toksL,D.toks,o1,hsh,lnd,hm]
 |some c=>
  rw[h] at hm
  simp only[measD] at hm
  simp[fc15,evKC,evK,put,Env.get,Env.keep,entry,Opd.ev,clsP,cls,clsR,isCl,isW,apartRW,offB,apartWW,clash,insOk,finish,evRes,evRes1,D.cells,D.refsL,D.refs,D.toksL,D.toks,o1,hsh,lnd,hm]
theorem valid_eq{a:Nd}(hs:a.size≤1000000)(H:Hp):callD (call pg) 15 [.p a.pd] H=some (.val (.p (.bool (validN a))),H):=callD_any (valid0 a hs) rfl rfl rfl rfl H
mutual
theorem meas_mono:∀(a:Nd) (d l d' l' c:Int),d'≤d→l≤l'→meas a d l=some c→meas a d' l'=some c
 | .mk op nm n _ ks _,d,l,d',l',c,hd,hl,h=>by
  simp only[meas] at h⊢
  split at h
  ·cases h
  ·rename_i hc
   rw[if_neg (fun q=>hc (by
    rcases q with q |q |q |q |q
    ·exact .inl (by omega)
    ·exact .inr (.inl (by omega))
    ·exact .inr (.inr (.inl q))
    ·exact .inr (.inr (.inr (.inl q)))
    ·exact .inr (.inr (.inr (.inr q)))))]
   exact measL_mono ks d l d' l' 1 c hd hl h
theorem measL_mono:∀(ks:List Nd) (d l d' l' cnt c:Int),d'≤d→l≤l'→measL ks d l cnt=some c→measL ks d' l' cnt=some c
 |[],d,l,d',l',cnt,c,hd,hl,h=>h
 |k::ks,d,l,d',l',cnt,c,hd,hl,h=>by
  simp only[measL] at h⊢
  split at h
  ·rename_i c1 h1
   rw[meas_mono k (d+1) (l-cnt) (d'+1) (l'-cnt) c1 (by omega) (by omega) h1]
   exact measL_mono ks d l d' l' (cnt+c1) c hd hl h
  ·cases h
end
def isEq(x:Option (Res×Hp))(d:D):Bool:=match x with
 |some (.val e,_)=>match e.ren (fun _=>none) (fun _=>none) with
  |some e'=>D.eqb e' d
  |none=>false
 |_=>false
theorem isEq_eq{x:Option (Res×Hp)}{d:D}(h:isEq x d=true):∃e H,x=some (.val e,H)∧e.ren (fun _=>none) (fun _=>none)=some d:=by
 unfold isEq at h
 split at h
 ·rename_i e H
  split at h
  ·rename_i e' he
   exact⟨e,H,rfl,by rw[he,D.eqb_eq _ _ h]⟩
  ·cases h
 ·cases h
def tS0:List UInt8:=[110,111,32,97,32,38,32,98,46,99]
def tD0:D:=.tup [.p (.agg [.int .i64 35,.str [],.int .i64 0,.slice 5 [.agg [.int .i64 7,.str [],.int .i64 0,.slice 5 [.agg [.int .i64 1,.str [97],.int .i64 0,.nils,.int .i64 3],.agg [.int .i64 9,.str [],.int .i64 0,.slice 5 [.agg [.int .i64 1,.str [98],.int .i64 0,.nils,.int .i64 7],.agg [.int .i64 1,.str [99],.int .i64 0,.nils,.int .i64 9]],.int .i64 8]],.int .i64 5]],.int .i64 0]),.p (.nils)]
def tS1:List UInt8:=[35,97,46,98,32,43,32,49,32,60,32,51]
def tD1:D:=.tup [.p (.agg [.int .i64 39,.str [],.int .i64 0,.slice 5 [.agg [.int .i64 22,.str [],.int .i64 0,.slice 5 [.agg [.int .i64 21,.str [],.int .i64 0,.slice 5 [.agg [.int .i64 9,.str [],.int .i64 0,.slice 5 [.agg [.int .i64 1,.str [97],.int .i64 0,.nils,.int .i64 1],.agg [.int .i64 1,.str [98],.int .i64 0,.nils,.int .i64 3]],.int .i64 2]],.int .i64 0],.agg [.int .i64 20,.str [],.int .i64 1,.nils,.int .i64 7]],.int .i64 5],.agg [.int .i64 20,.str [],.int .i64 3,.nils,.int .i64 11]],.int .i64 9]),.p (.nils)]
def tS2:List UInt8:=[97,108,108,32,120,58,32,97,32,124,32,120,32,105,110,32,98,32,61,62,32,110,111,32,120,46,98]
def tD2:D:=.tup [.p (.agg [.int .i64 45,.str [120],.int .i64 0,.slice 5 [.agg [.int .i64 1,.str [97],.int .i64 0,.nils,.int .i64 7],.agg [.int .i64 43,.str [],.int .i64 0,.slice 5 [.agg [.int .i64 32,.str [],.int .i64 0,.slice 5 [.agg [.int .i64 1,.str [120],.int .i64 0,.nils,.int .i64 11],.agg [.int .i64 1,.str [98],.int .i64 0,.nils,.int .i64 16]],.int .i64 13],.agg [.int .i64 35,.str [],.int .i64 0,.slice 5 [.agg [.int .i64 9,.str [],.int .i64 0,.slice 5 [.agg [.int .i64 1,.str [120],.int .i64 0,.nils,.int .i64 24],.agg [.int .i64 1,.str [98],.int .i64 0,.nils,.int .i64 26]],.int .i64 25]],.int .i64 21]],.int .i64 18]],.int .i64 0]),.p (.nils)]
def tS3:List UInt8:=[97,32,61,32,35,98]
def tD3:D:=.tup [.p (.agg [.int .i64 0,.str [],.int .i64 0,.nils,.int .i64 0]),.p (.slice 2 [.agg [.int .i64 43,.int .i64 2]])]
def tS4:List UInt8:=[97,32,61,32,98,32,61,32,99]
def tD4:D:=.tup [.p (.agg [.int .i64 0,.str [],.int .i64 0,.nils,.int .i64 0]),.p (.slice 2 [.agg [.int .i64 20,.int .i64 6]])]
def tS5:List UInt8:=[110,111]
def tD5:D:=.tup [.p (.agg [.int .i64 0,.str [],.int .i64 0,.nils,.int .i64 0]),.p (.slice 2 [.agg [.int .i64 21,.int .i64 2]])]
def tS6:List UInt8:=[97]
def tD6:D:=.tup [.p (.agg [.int .i64 0,.str [],.int .i64 0,.nils,.int .i64 0]),.p (.slice 2 [.agg [.int .i64 43,.int .i64 0]])]
def tS7:List UInt8:=[49,32,60,32,54,53]
def tD7:D:=.tup [.p (.agg [.int .i64 0,.str [],.int .i64 0,.nils,.int .i64 0]),.p (.slice 2 [.agg [.int .i64 2,.int .i64 4]])]
def tS8:List UInt8:=[115,111,114,116,32,65,32,111,114,100,101,114,101,100,59,32,118,97,114,32,102,105,101,108,100,32,102,58,32,65,32,45,62,32,65,59,32,112,114,101,100,32,112,91,120,58,32,65,93,32,123,32,115,111,109,101,32,120,46,102,32,125,32,102,97,99,116,32,113,32,123,32,112,91,65,93,32,124,124,32,116,114,117,101,32,125]
def tD8:D:=.tup [.agg [.p (.slice 2 [.agg [.str [65],.bool true]]),.p (.slice 3 [.agg [.str [102],.slice 1 [.int .i64 0,.int .i64 0],.bool true]]),.p (.slice 7 [.agg [.str [112],.slice 2 [.agg [.str [120],.int .i64 0]],.int .i64 34,.str [],.int .i64 0,.slice 5 [.agg [.int .i64 9,.str [],.int .i64 0,.slice 5 [.agg [.int .i64 1,.str [120],.int .i64 0,.nils,.int .i64 57],.agg [.int .i64 1,.str [102],.int .i64 0,.nils,.int .i64 59]],.int .i64 58]],.int .i64 52]]),.p (.slice 6 [.agg [.str [113],.int .i64 42,.str [],.int .i64 0,.slice 5 [.agg [.int .i64 47,.str [112],.int .i64 0,.slice 5 [.agg [.int .i64 1,.str [65],.int .i64 0,.nils,.int .i64 74]],.int .i64 72],.agg [.int .i64 30,.str [],.int .i64 0,.nils,.int .i64 80]],.int .i64 77]])],.p (.nils)]
def tS9:List UInt8:=[115,111,114,116,32,65,59,32,102,105,101,108,100,32,102,58,32,66,59,32,115,111,114,116,32,59]
def tD9:D:=.tup [.p (.agg [.nils,.nils,.nils,.nils]),.p (.slice 2 [.agg [.int .i64 40,.int .i64 17],.agg [.int .i64 20,.int .i64 25]])]
theorem tab0:isEq (evF pg 100 17 [.p (.str tS0)] ⟨[],[]⟩) tD0=true:=by kernel_rfl
theorem tab1:isEq (evF pg 100 17 [.p (.str tS1)] ⟨[],[]⟩) tD1=true:=by kernel_rfl
theorem tab2:isEq (evF pg 100 17 [.p (.str tS2)] ⟨[],[]⟩) tD2=true:=by kernel_rfl
theorem tab3:isEq (evF pg 100 17 [.p (.str tS3)] ⟨[],[]⟩) tD3=true:=by kernel_rfl
theorem tab4:isEq (evF pg 100 17 [.p (.str tS4)] ⟨[],[]⟩) tD4=true:=by kernel_rfl
theorem tab5:isEq (evF pg 100 17 [.p (.str tS5)] ⟨[],[]⟩) tD5=true:=by kernel_rfl
theorem tab6:isEq (evF pg 100 17 [.p (.str tS6)] ⟨[],[]⟩) tD6=true:=by kernel_rfl
theorem tab7:isEq (evF pg 100 17 [.p (.str tS7)] ⟨[],[]⟩) tD7=true:=by kernel_rfl
theorem tab9:isEq (evF pg 100 14 [.p (.str tS9)] ⟨[],[]⟩) tD9=true:=by kernel_rfl
theorem tab8:isEq (evF pg 100 14 [.p (.str tS8)] ⟨[],[]⟩) tD8=true:=by kernel_rfl
def isTrue:Option (Res×Hp)→Bool
 |some (.val (.p (.bool true)),_)=>true
 |_=>false
theorem isTrue_eq{x:Option (Res×Hp)}(h:isTrue x=true):∃H,x=some (.val (.p (.bool true)),H):=by
 unfold isTrue at h
 split at h
 ·exact⟨_,rfl⟩
 ·cases h
def tabs:List (Nat×List UInt8×D):=[(17,tS0,tD0),(17,tS1,tD1),(17,tS2,tD2),(17,tS3,tD3),(17,tS4,tD4),(17,tS5,tD5),(17,tS6,tD6),(17,tS7,tD7),(14,tS8,tD8),(14,tS9,tD9)]
def tabOf(f:Nat)(s:List UInt8):Option D:=(tabs.find? fun x=>x.1==f&&x.2.1==s).map (·.2.2)
def pgT:Pg:={pg with lib:=tabLib pgL tabOf}
theorem tabs_ok:∀x∈tabs,isEq (evF pg 100 x.1 [.p (.str x.2.1)] ⟨[],[]⟩) x.2.2=true:=by
 intro x hx
 simp only[tabs,List.mem_cons,List.not_mem_nil,or_false] at hx
 rcases hx with rfl |rfl |rfl |rfl |rfl |rfl |rfl |rfl |rfl |rfl
 ·exact tab0
 ·exact tab1
 ·exact tab2
 ·exact tab3
 ·exact tab4
 ·exact tab5
 ·exact tab6
 ·exact tab7
 ·exact tab8
 ·exact tab9
theorem tab_call{f:Nat}{s:List UInt8}{d:D}(h:tabOf f s=some d)(H:Hp):callD (call pg) f [.p (.str s)] H=some (.val d,H):=by
 unfold tabOf at h
 obtain⟨x,hx,rfl⟩:=Option.map_eq_some_iff.1 h
 have hm:=List.mem_of_find?_eq_some hx
 have hp:=List.find?_some hx
 rw[Bool.and_eq_true] at hp
 have h1:x.1=f:=eq_of_beq hp.1
 have h2:x.2.1=s:=eq_of_beq hp.2
 obtain⟨e,He,h3,h4⟩:=isEq_eq (tabs_ok x hm)
 rw[←h1,←h2]
 exact callD_pure (call_of_evF 100 h3) rfl rfl rfl h4
theorem tabs_ren:∀x∈tabs,∀bi ti,x.2.2.ren bi ti=some x.2.2:=by
 intro x hx bi ti
 simp only[tabs,List.mem_cons,List.not_mem_nil,or_false] at hx
 rcases hx with rfl |rfl |rfl |rfl |rfl |rfl |rfl |rfl |rfl |rfl<;>rfl
theorem tab_run{f:Nat}(n:Nat){H:Hp}{r:Res×Hp}(h:evF pgT n f [] H=some r):call pg f [] H=some r:=by
 rcases tab_ext (p:=pg) (tab:=tabOf) (fun f s d H h=>tab_call h H) (fun f s d h=>by
  unfold tabOf at h
  obtain⟨x,hx,rfl⟩:=Option.map_eq_some_iff.1 h
  exact tabs_ren x (List.mem_of_find?_eq_some hx)) n f [] H r h with q |⟨s,d,q,_⟩
 ·exact q
 ·cases q
theorem head13:isTrue (evF pgT 60 13 [] ⟨[],[]⟩)=true:=by kernel_rfl
theorem head_call:∃H,call pg 13 [] ⟨[],[]⟩=some (.val (.p (.bool true)),H):=by
 obtain⟨H,h⟩:=isTrue_eq head13
 exact⟨H,tab_run 60 h⟩
theorem head13_call(H:Hp):callD (call pg) 13 [] H=some (.val (.p (.bool true)),H):=by
 obtain⟨Hl,h⟩:=head_call
 exact callD_pure h rfl rfl rfl rfl
theorem kids_cells(a:Nd):a.kidsP.cells=[a.kidsP]:=by
 have h:=pone_kids a
 generalize a.kidsP=K at *
 cases K<;>first |rfl |cases h
end Go.Proofs.YtalgjkpkkdljaaaGreatDoor
namespace Go.Proofs.YtalgjkpkkdljaaaGreatDoor
open Go.Vs Go.ChangeShapes Go.WideShapes Go.RowKit
end Go.Proofs.YtalgjkpkkdljaaaGreatDoor
namespace Go.Proofs.YtalgjkpkkdljaaaGreatDoor
open Go.Vs
structure Tok where
 k:Int
 t:List UInt8
 p:Nat
deriving DecidableEq
def Tok.pd(x:Tok):PD:=.agg [.int .i64 x.k,.str x.t,.int .i64 x.p]
structure Bin where
 lv:Nat
 r:Bool
 rel:Int
 alt:Int
def Bin.pd(b:Bin):PD:=.agg [.int .i64 b.lv,.bool b.r,.int .i64 b.rel,.int .i64 b.alt]
def binT:List (List UInt8×Bin):=[([38],⟨10,false,7,0⟩),([43],⟨8,false,6,22⟩),([45],⟨8,false,8,23⟩),([46],⟨12,false,9,0⟩),([60],⟨7,false,0,39⟩),([61],⟨7,false,33,38⟩),([33,61],⟨7,false,33,38⟩),([38,38],⟨4,false,0,41⟩),([43,43],⟨9,false,14,0⟩),([45,62],⟨11,false,10,0⟩),([60,61],⟨7,false,0,39⟩),([61,62],⟨2,true,0,43⟩),([105,110],⟨7,false,32,0⟩),([124,124],⟨3,false,0,42⟩),([60,61,62],⟨1,false,0,44⟩),([117,110,116,105,108],⟨5,true,0,51⟩)]
structure Pre where
 lv:Nat
 op:Int
def Pre.pd(b:Pre):PD:=.agg [.int .i64 b.lv,.int .i64 b.op]
def preT:List (List UInt8×Pre):=[([35],⟨12,21⟩),([42],⟨13,13⟩),([94],⟨13,12⟩),([126],⟨13,11⟩),([110,111],⟨8,35⟩),([110,111,116],⟨6,40⟩),([111,110,101],⟨8,36⟩),([108,111,110,101],⟨8,37⟩),([115,111,109,101],⟨8,34⟩),([97,102,116,101,114],⟨6,50⟩),([97,108,119,97,121,115],⟨6,48⟩),([101,118,101,110,116,117,97,108,108,121],⟨6,49⟩)]
def lookT{α:Type}:List (List UInt8×α)→List UInt8→Option α
 |[],_=>none
 |e::t,k=>if e.1=k then some e.2 else lookT t k
def mapT{α:Type}(f:α→PD)(t:List (List UInt8×α)):List D:=[.mapc 2 (t.map fun e=>.str e.1) (t.map fun e=>.p (f e.2))]
abbrev tabB:List D:=mapT Bin.pd binT
abbrev tabU:List D:=mapT Pre.pd preT
def getT{α:Type}(f:α→PD)(z:PD)(t:List (List UInt8×α))(k:List UInt8):D:=match lookT t k with
 |some w=>.tup [.p (f w),.p (.bool true)]
 |none=>.tup [.p z,.p (.bool false)]
theorem findK_lookT{α:Type}(f:α→PD)(z:PD)(k:List UInt8):∀(t:List (List UInt8×α)),(match findK (.str k) (t.map fun e=>PD.str e.1) with
    |some j=>((t.map fun e=>D.p (f e.2))[j]?).map fun v=>D.tup [v,.p (.bool true)]
    |none=>some (.tup [.p z,.p (.bool false)]))=some (getT f z t k):=by
 intro t
 induction t with
 |nil=>rfl
 |cons e t ih=>
  simp only[List.map_cons,findK,getT,lookT] at ih⊢
  by_cases h:e.1=k
  ·subst h
   simp[keyEq]
  ·have h1:keyEq (.str k) (.str e.1)=false:=by simp[keyEq];exact fun q=>h q.symm
   simp only[h1,if_neg h,Bool.false_eq_true,if_false]
   rw[←ih]
   cases findK (.str k) (t.map fun e=>PD.str e.1)<;>simp
theorem get_mapT{α:Type}{f:α→PD}{z:PD}{t:List (List UInt8×α)}{H:Hp}{i:Nat}(h:H.bx[i]? =some (mapT f t))(k:List UInt8):mapgetD 2 z true (.mapr i) (.p (.str k)) H=some (getT f z t k):=by
 have:=findK_lookT f z k t
 simp only[mapgetD,h,mapT]
 have hk:keyKind (.str k)=2:=rfl
 simp only[hk,true_and,ne_eq]
 exact this
def isTab(t:List D):Option (Res×Hp)→Bool
 |some (.val (.mapr 0),⟨[b],[]⟩)=>D.eqbL b t
 |_=>false
theorem isTab_eq{t:List D}{x:Option (Res×Hp)}(h:isTab t x=true):x=some (.val (.mapr 0),⟨[t],[]⟩):=by
 unfold isTab at h
 split at h
 ·rename_i b
  rw[D.eqbL_eq _ _ h]
 ·cases h
theorem ops_run:isTab tabB (evF pg 10 70 [] ⟨[],[]⟩)=true:=by kernel_rfl
theorem pre_run:isTab tabU (evF pg 10 71 [] ⟨[],[]⟩)=true:=by kernel_rfl
theorem ops0:call pg 70 [] ⟨[],[]⟩=some (.val (.mapr 0),⟨[tabB],[]⟩):=call_of_evF 10 (isTab_eq ops_run)
theorem pre0:call pg 71 [] ⟨[],[]⟩=some (.val (.mapr 0),⟨[tabU],[]⟩):=call_of_evF 10 (isTab_eq pre_run)
structure Rd where
 l:Sl Tok
 e:Nat
 X:List D
 tk:List Nat
def Rd.ts(c:Rd):List Tok:=els c.l
structure Rd.Ok (c:Rd):Prop where
 len:c.X.length=5
 refs:D.refsL c.X=[]
 toks:ins [] (D.toksL c.X)=List.range c.tk.length
 id:∀bi ti,(∀t,t<c.tk.length→ti t=some t)→D.renL bi ti c.X=some c.X
 fz:∀H,c.X.map (D.frz 4 H 8)=c.X
theorem idx_range:∀(k n t:Nat),t<n→idx (List.range' k n) (k+t)=some t:=by
 intro k n
 induction n generalizing k with
 |zero=>intro t h;omega
 |succ n ih=>
  intro t h
  simp only[List.range'_succ,idx]
  match t with
  | 0=>simp
  |t+1=>
   have:=ih (k+1) t (by omega)
   have e:k+(t+1)=k+1+t:=by omega
   rw[if_neg (by omega),e,this]
   rfl
theorem Rd.Ok.ren{c:Rd}(h:c.Ok)(bi:Nat→Option Nat):D.renL bi (idx (List.range c.tk.length)) c.X=some c.X:=h.id _ _ fun t ht=>by
 have:=idx_range 0 c.tk.length t ht
 rw[List.range_eq_range']
 simpa using this
theorem Rd.Ok.back{c:Rd}(h:c.Ok)(bi:Nat→Option Nat):D.renL bi (fun t=>(List.range c.tk.length)[t]?) c.X=some c.X:=h.id _ _ fun t ht=>by simp[ht]
theorem Rd.Ok.sb{c:Rd}(h:c.Ok)(bi:Nat→Option Nat):D.renL bi some c.X=some c.X:=h.id _ _ fun _ _=>rfl
theorem Rd.Ok.lb{c:Rd}(h:c.Ok)(bi:Nat→Option Nat):D.renL bi (below c.tk.length) c.X=some c.X:=h.id _ _ fun t ht=>by simp[below,ht]
theorem Rd.Ok.lb'{c:Rd}(h:c.Ok)(bi:Nat→Option Nat)(n:Nat)(hn:c.tk.length≤n):D.renL bi (below n) c.X=some c.X:=h.id _ _ fun t ht=>by simp[below];omega
def rC(c:Rd)(a o:Nat):List D:=.p (slP 3 (c.l.map Tok.pd)):: .p (.int .i64 a):: .p (.int .i64 c.e):: .p (.int .i64 o):: .mapr 1:: .mapr 2:: .mapr 3::c.X
def rH(c:Rd)(a o:Nat)(bx:List (List D))(t:List Nat):Hp:=⟨rC c a o::tabB::tabU::tabS::bx,c.tk++t⟩
theorem refs_rC{c:Rd}(h:c.Ok)(a o:Nat):D.refsL (rC c a o)=[1,2,3]:=by
 simp[rC,D.refsL,D.refs,h.refs]
theorem toks_rC(c:Rd)(a o:Nat):D.toksL (rC c a o)=D.toksL c.X:=by
 simp[rC,D.toksL,D.toks]
theorem ren_rC{c:Rd}{bi ti:Nat→Option Nat}(h1:bi 1=some 1)(h2:bi 2=some 2)(h3:bi 3=some 3)(h:D.renL bi ti c.X=some c.X)(a o:Nat):D.renL bi ti (rC c a o)=some (rC c a o):=by
 simp[rC,D.renL,D.ren,h1,h2,h3,h]
theorem reach_rH{c:Rd}(h:c.Ok)(a o:Nat)(bx:List (List D))(t:List Nat):reach (rH c a o bx t) (rH c a o bx t).bx.length [0]=[0,1,2,3]:=by
 have r0:boxRefs (rH c a o bx t) [0]=[1,2,3]:=by
  simp only[boxRefs,rH,List.getElem?_cons_zero,refs_rC h,List.append_nil]
 have r1:boxRefs (rH c a o bx t) [0,1,2,3]=[1,2,3]:=by
  simp only[boxRefs,rH,List.getElem?_cons_zero,List.getElem?_cons_succ,refs_rC h,List.append_nil]
  rfl
 have e:(rH c a o bx t).bx.length=bx.length+2+1+1:=rfl
 rw[e]
 have s1:reach (rH c a o bx t) (bx.length+2+1+1) [0]=reach (rH c a o bx t) (bx.length+2+1) [0,1,2,3]:=by
  simp only[reach,r0];rfl
 rw[s1]
 have s2:reach (rH c a o bx t) (bx.length+2+1) [0,1,2,3]=[0,1,2,3]:=by
  have q:ins [0,1,2,3] [1,2,3]=[0,1,2,3]:=rfl
  have :∀n,reach (rH c a o bx t) n [0,1,2,3]=[0,1,2,3]:=fun n=>by
   induction n with
   |zero=>rfl
   |succ n ih=>simp only[reach,r1,q,ih]
  exact this _
 exact s2
theorem mapO_range{l r:List Nat}:mapO (fun t=>(l++r)[t]?) (List.range l.length)=some l:=by
 have :∀(k:Nat) (m:List Nat),m=l.drop k→k≤l.length→mapO (fun t=>(l++r)[t]?) (List.range' k m.length)=some m:=by
  intro k m
  induction m generalizing k with
  |nil=>intro _ _;rfl
  |cons x m ih=>
   intro e hk
   have hk':k<l.length:=by
    have:=congrArg List.length e
    simp at this;omega
   have hx:l[k]? =some x:=by
    have:=congrArg (·[0]?) e
    simpa using this.symm
   have hm:m=l.drop (k+1):=by
    have:=congrArg List.tail e
    simpa using this
   simp only[List.length_cons,List.range'_succ,mapO]
   rw[List.getElem?_append_left hk',hx]
   have:=ih (k+1) hm (by omega)
   rw[this]
   rfl
 have h:=this 0 l (by simp) (by omega)
 rw[List.range_eq_range']
 exact h
theorem nodup_range(n:Nat):Vs.nodupB (List.range n)=true:=by
 have :∀(m k:Nat),Vs.nodupB (List.range' k m)=true:=by
  intro m
  induction m with
  |zero=>intro k;rfl
  |succ m ih=>
   intro k
   simp only[List.range'_succ,Vs.nodupB,ih,Bool.and_true,Bool.not_eq_true',List.contains_eq_mem,decide_eq_false_iff_not]
   simp[List.mem_range']
   omega
 rw[List.range_eq_range']
 exact this n 0
theorem putAll_range{α:Type}(m:List α):∀(r l:List α),l.length=m.length→putAll (l++r) (List.range l.length) m=m++r:=by
 have :∀(n:Nat) (pre l r m:List α),l.length=n→m.length=n→putAll (pre++l++r) (List.range' pre.length n) m=pre++m++r:=by
  intro n
  induction n with
  |zero=>
   intro pre l r m h1 h2
   rw[List.length_eq_zero_iff] at h1 h2
   subst h1 h2
   rfl
  |succ n ih=>
   intro pre l r m h1 h2
   match l,m,h1,h2 with
   |x::l,y::m,h1,h2=>
    simp only[List.range'_succ,putAll]
    have e:(pre++x::l++r).set pre.length y=(pre++[y])++l++r:=by simp
    rw[e]
    have:=ih (pre++[y]) l r m (by simpa using h1) (by simpa using h2)
    simp only[List.length_append,List.length_cons,List.length_nil] at this
    rw[this]
    simp
 intro r l h
 have h2:=this l.length [] l r m rfl h.symm
 simp only[List.nil_append,List.length_nil] at h2
 rw[List.range_eq_range',h2]
theorem callD_rdG{g:Nat}{args:List D}{c c':Rd}(hc:c.Ok)(hc':c'.Ok)(ht:c'.tk.length=c.tk.length){a o a' o':Nat}{bx:List (List D)}{t:List Nat}{r:Res}{ex:List (List D)}{et:List Nat}
    (i1:ins [] (D.refsL args)=[0]) (e2:D.toksL args=[]) (e4:∀f,D.renL (idx [0,1,2,3]) f args=some args)
    (hd:∀bi ti,r.ren bi ti=some r) (h:call pg g args (rH c a o [] [])=some (r,rH c' a' o' ex et)):
    callD (call pg) g args (rH c a o bx t)=some (r,rH c' a' o' bx t):=by
 have e3:boxToks (rH c a o bx t) [0,1,2,3]=D.toksL c.X:=by
  simp only[boxToks,rH,List.getElem?_cons_zero,List.getElem?_cons_succ,toks_rC,List.append_nil]
  exact List.append_nil _
 have e5:mapO (fun i=>match(rH c a o bx t).bx[i]? with |some cs=>D.renL (idx [0,1,2,3]) (idx (List.range c.tk.length)) cs |none=>none) [0,1,2,3]=some [rC c a o,tabB,tabU,tabS]:=by
  simp only[mapO,rH,List.getElem?_cons_zero,List.getElem?_cons_succ,ren_rC (c:=c) (bi:=idx [0,1,2,3]) rfl rfl rfl (hc.ren _)]
  rfl
 have e6:mapO (fun j=>(rH c a o bx t).tk[j]?) (List.range c.tk.length)=some c.tk:=mapO_range
 have e7:=reach_rH hc a o bx t
 have n1:(Vs.nodupB [0,1,2,3]&&Vs.nodupB (List.range c.tk.length))=true:=by rw[nodup_range];rfl
 have h':call pg g args ⟨[rC c a o,tabB,tabU,tabS],c.tk⟩=some (r,rH c' a' o' ex et):=by
  have :rH c a o [] []=⟨[rC c a o,tabB,tabU,tabS],c.tk⟩:=by simp[rH]
  rw[←this];exact h
 have e8:back [0,1,2,3] (List.range c.tk.length) (rH c a o bx t) r (rH c' a' o' ex et)=some (r,rH c' a' o' bx t):=by
  have k1:firstN (rH c' a' o' ex et).bx 4=some [rC c' a' o',tabB,tabU,tabS]:=by simp[firstN,rH]
  have k2:firstN (rH c' a' o' ex et).tk (List.range c.tk.length).length=some c'.tk:=by
   simp only[firstN,rH,List.length_range,List.length_append,ht,Nat.le_add_right,if_true]
   rw[←ht,List.take_left]
  have hb:=hc'.back (fun i=>[0,1,2,3][i]?)
  rw[ht] at hb
  have k3:mapO (D.renL (fun i=>[0,1,2,3][i]?) (fun t=>(List.range c.tk.length)[t]?)) [rC c' a' o',tabB,tabU,tabS]=some [rC c' a' o',tabB,tabU,tabS]:=by
   simp only[mapO,ren_rC (c:=c') (bi:=fun i=>[0,1,2,3][i]?) rfl rfl rfl hb]
   rfl
  simp only[back,List.length_cons,List.length_nil,k1,k2,k3,hd]
  have p1:putAll (rH c a o bx t).bx [0,1,2,3] [rC c' a' o',tabB,tabU,tabS]=rC c' a' o'::tabB::tabU::tabS::bx:=rfl
  have p2:putAll (rH c a o bx t).tk (List.range c.tk.length) c'.tk=c'.tk++t:=putAll_range c'.tk t c.tk ht.symm
  rw[p1,p2];rfl
 have i2:ins [] (D.toksL c.X)=List.range c.tk.length:=hc.toks
 simp only[callD,i1,e7,e2,List.nil_append,e3,i2,n1,if_true,e4,e6]
 erw [e5]
 simp only[h',e8]
theorem callD_rd{g:Nat}{args:List PD}{c c':Rd}(hc:c.Ok)(hc':c'.Ok)(ht:c'.tk.length=c.tk.length){a o a' o':Nat}{bx:List (List D)}{t:List Nat}{r:Res}{ex:List (List D)}{et:List Nat}
    (hd:∀bi ti,r.ren bi ti=some r) (h:call pg g (.box 0 0::args.map .p) (rH c a o [] [])=some (r,rH c' a' o' ex et)):
    callD (call pg) g (.box 0 0::args.map .p) (rH c a o bx t)=some (r,rH c' a' o' bx t):=
 callD_rdG hc hc' ht (by simp[D.refsL,D.refs,ins]) (by
  have :∀l:List PD,D.toksL (l.map .p)=[]:=fun l=>by induction l with |nil=>rfl |cons x l ih=>simp[D.toksL,D.toks,ih]
  simp[D.toksL,D.toks,this]) (fun f=>by
  have :∀l:List PD,D.renL (idx [0,1,2,3]) f (l.map .p)=some (l.map .p):=fun l=>by induction l with |nil=>rfl |cons x l ih=>simp[D.renL,D.ren,ih]
  simp[D.renL,D.ren,idx]) hd h
end Go.Proofs.YtalgjkpkkdljaaaGreatDoor
namespace Go.Proofs.YtalgjkpkkdljaaaGreatDoor.Lx
open Go.Vs
def ch(s:List UInt8)(i:Nat):UInt8:=s.getD i 0
def leB(c:UInt8):Bool:=65≤c&&c≤90||97≤c&&c≤122
def diB(c:UInt8):Bool:=48≤c&&c≤57
def wrB(c:UInt8):Bool:=leB c||diB c||c==95
def blB(c:UInt8):Bool:=c==32||c==9||c==10||c==13
theorem ch_get{s:List UInt8}{i:Nat}(h:i<s.length):s[i]? =some (ch s i):=by simp[ch,List.getD_eq_getElem?_getD,h]
theorem all_bytes{p:UInt8→Prop}[DecidablePred p](h:∀n:Fin 256,p (UInt8.ofNat n.val))(c:UInt8):p c:=by
 have:=h ⟨c.toNat,c.toNat_lt⟩
 simpa using this
def low(c:UInt8):Nat:=(c||| 32).toNat
theorem or32(c:UInt8):intBin .or .u8 c.toNat 32=some (.int .u8 (low c)):=by
 have :∀n:Fin 256,(IntKind.u8.wrap ((BitVec.ofInt 8 ((UInt8.ofNat n.val).toNat:Int)|||BitVec.ofInt 8 32).toNat)=(low (UInt8.ofNat n.val):Int)):=by decide+kernel
 have h:=all_bytes (p:=fun c=>IntKind.u8.wrap ((BitVec.ofInt 8 (c.toNat:Int)|||BitVec.ofInt 8 32).toNat)=(low c:Int)) this c
 exact congrArg (fun z=>some (PD.int .u8 z)) h
theorem leB_iff(c:UInt8):leB c=(decide (97≤low c)&&decide (low c≤122)):=
 all_bytes (p:=fun c=>leB c=(decide (97≤low c)&&decide (low c≤122))) (by decide+kernel) c
theorem isD_iff(c:UInt8):diB c=(decide (48≤c.toNat)&&decide (c.toNat≤57)):=
 all_bytes (p:=fun c=>diB c=(decide (48≤c.toNat)&&decide (c.toNat≤57))) (by decide+kernel) c
theorem letter_eq{s:List UInt8}{i:Nat}(h:i<s.length):call pg 88 [.box 0 0] ⟨[[.p (.str s),.p (.int .i64 i)]],[]⟩=some (.val (.p (.bool (leB (ch s i)))),⟨[[.p (.str s),.p (.int .i64 i)]],[]⟩):=by
 have hs:=ch_get h
 refine call_body (fc:=fc88) rfl rfl rfl rfl ?_
 have h32:=or32 (ch s i)
 rw[leB_iff]
 simp[fc88,evKC,evK,evGuard,put,Env.get,Env.keep,entry,Opd.ev,loadD,cutAt,indexD,D.asInt?,u8,binD,clsP,cls,clsR,isCl,isW,apartRW,offB,apartWW,clash,insOk,finish,evRes,evRes1,Int.toNat_natCast,isMapC,hs,h32]
 by_cases h1:(97 :Int)≤(low (ch s i):Int)
 ·have h2:97≤low (ch s i):=by omega
  simp[evKC,evK,evGuard,put,Env.get,Env.keep,Opd.ev,binD,h1,h2]
  omega
 ·have h2:¬97≤low (ch s i):=by omega
  simp[evKC,evK,evGuard,put,Env.get,Env.keep,Opd.ev,h1,h2]
theorem digit_eq{s:List UInt8}{i:Nat}(h:i<s.length):call pg 90 [.box 0 0] ⟨[[.p (.str s),.p (.int .i64 i)]],[]⟩=some (.val (.p (.bool (diB (ch s i)))),⟨[[.p (.str s),.p (.int .i64 i)]],[]⟩):=by
 have hs:=ch_get h
 refine call_body (fc:=fc90) rfl rfl rfl rfl ?_
 rw[isD_iff]
 simp[fc90,evKC,evK,evGuard,put,Env.get,Env.keep,entry,Opd.ev,loadD,cutAt,indexD,D.asInt?,u8,binD,clsP,cls,clsR,isCl,finish,evRes,evRes1,Int.toNat_natCast,isMapC,hs]
 by_cases h1:(48 :Int)≤((ch s i).toNat:Int)
 ·have h2:48≤(ch s i).toNat:=by omega
  simp[evKC,evK,evGuard,put,Env.get,Env.keep,Opd.ev,loadD,cutAt,indexD,D.asInt?,u8,binD,clsP,cls,clsR,isCl,isW,apartRW,offB,apartWW,clash,insOk,Int.toNat_natCast,isMapC,hs,h1,h2]
  omega
 ·have h2:¬48≤(ch s i).toNat:=by omega
  simp[evKC,evK,evGuard,put,Env.get,Env.keep,Opd.ev,clsP,cls,isW,apartRW,offB,apartWW,clash,insOk,h1,h2]
theorem inLine_eq{s:List UInt8}{i:Nat}(h:i<s.length):call pg 87 [.box 0 0] ⟨[[.p (.str s),.p (.int .i64 i)]],[]⟩=some (.val (.p (.bool (ch s i !=10))),⟨[[.p (.str s),.p (.int .i64 i)]],[]⟩):=by
 have hs:=ch_get h
 refine call_body (fc:=fc87) rfl rfl rfl rfl ?_
 have :(((ch s i).toNat:Int)!=10)=(ch s i !=10):=all_bytes (p:=fun c=>((c.toNat:Int)!=10)=(c !=10)) (by decide+kernel) _
 simp[fc87,evKC,evK,put,Env.get,Env.keep,entry,Opd.ev,loadD,cutAt,indexD,D.asInt?,u8,binD,clsP,cls,clsR,isCl,isW,apartRW,offB,apartWW,clash,insOk,finish,evRes,evRes1,Int.toNat_natCast,isMapC,hs,this]
theorem word_eq{s:List UInt8}{i:Nat}(h:i<s.length):call pg 89 [.box 0 0] ⟨[[.p (.str s),.p (.int .i64 i)]],[]⟩=some (.val (.p (.bool (wrB (ch s i)))),⟨[[.p (.str s),.p (.int .i64 i)]],[]⟩):=by
 have hs:=ch_get h
 refine call_body (fc:=fc89) rfl rfl rfl rfl ?_
 have h95:(((ch s i).toNat:Int)==95)=(ch s i==95):=all_bytes (p:=fun c=>((c.toNat:Int)==95)=(c==95)) (by decide+kernel) _
 simp[fc89,evKC,evK,evGuard,put,Env.get,Env.keep,entry,Opd.ev,clsP,cls,isCl,finish,evRes,evRes1,mapO,D.refsL,D.refs,D.toksL,D.toks,callD,reach,boxRefs,boxToks,ins,Vs.nodupB,idx,D.renL,D.ren,back,firstN,putAll,Res.ren,List.map,letter_eq h]
 cases hl:leB (ch s i)
 ·simp[evKC,evK,evGuard,put,Env.get,Opd.ev,clsP,cls,isCl,mapO,D.refsL,D.refs,D.toksL,D.toks,callD,reach,boxRefs,boxToks,ins,Vs.nodupB,idx,D.renL,D.ren,back,firstN,putAll,Res.ren,List.map,digit_eq h]
  cases hd:diB (ch s i)
  ·simp[evKC,evK,evGuard,put,Env.get,Env.keep,Opd.ev,loadD,cutAt,indexD,D.asInt?,u8,binD,clsP,cls,clsR,isCl,isW,apartRW,offB,apartWW,clash,insOk,Int.toNat_natCast,isMapC,List.map,hs,h95,wrB,hl,hd]
  ·simp[evKC,evK,evGuard,put,Env.get,Env.keep,Opd.ev,clsP,cls,isW,apartRW,offB,apartWW,clash,insOk,List.map,wrB,hl,hd]
 ·simp[evKC,evK,evGuard,put,Env.get,Env.keep,Opd.ev,clsP,cls,isW,apartRW,offB,apartWW,clash,insOk,List.map,wrB,hl]
theorem lib40(s:List UInt8)(c:UInt8):call pg 144 [.p (.str s),.p (.int .u8 c.toNat)] ⟨[],[]⟩=some (.val (.p (.int .i64 (Lib.indexByte s c))),⟨[],[]⟩):=by
 refine call_lib ?_
 show some (Res.val (.p (.int .i64 (Lib.indexByte s (UInt8.ofNat ((c.toNat:Int)).toNat)))),(⟨[],[]⟩:Hp))=_
 simp
theorem indexByte_eq(s:List UInt8)(c:UInt8):call pg 129 [.p (.str s),.p (.int .u8 c.toNat)] ⟨[],[]⟩=some (.val (.p (.int .i64 (Lib.indexByte s c))),⟨[],[]⟩):=by
 refine call_body (fc:=fc129) rfl rfl rfl rfl ?_
 simp[fc129,evKC,evK,put,Env.get,Env.keep,entry,Opd.ev,finish,evRes,evRes1,mapO,D.refsL,D.refs,D.toksL,D.toks,callD,reach,boxToks,ins,Vs.nodupB,idx,D.renL,D.ren,back,firstN,putAll,Res.ren,List.map,lib40]
theorem isB_idx(c:UInt8):decide (0≤Lib.indexByte [32,9,10,13] c)=blB c:=all_bytes (p:=fun c=>decide (0≤Lib.indexByte [32,9,10,13] c)=blB c) (by decide+kernel) c
theorem blank_eq{s:List UInt8}{i:Nat}(h:i<s.length):call pg 85 [.box 0 0] ⟨[[.p (.str s),.p (.int .i64 i)]],[]⟩=some (.val (.p (.bool (blB (ch s i)))),⟨[[.p (.str s),.p (.int .i64 i)]],[]⟩):=by
 have hs:=ch_get h
 refine call_body (fc:=fc85) rfl rfl rfl rfl ?_
 simp[fc85,evKC,evK,put,Env.get,Env.keep,entry,Opd.ev,loadD,cutAt,indexD,D.asInt?,u8,binD,clsP,cls,clsR,isCl,isW,apartRW,offB,apartWW,clash,insOk,finish,evRes,evRes1,mapO,D.refsL,D.refs,D.toksL,D.toks,Int.toNat_natCast,isMapC,callD,reach,boxRefs,boxToks,ins,Vs.nodupB,idx,D.renL,D.ren,back,firstN,putAll,Res.ren,List.map,hs,indexByte_eq,←isB_idx]
theorem hasPrefix38(s p:List UInt8):call pg 130 [.p (.str s),.p (.str p)] ⟨[],[]⟩=some (.val (.p (.bool (p.isPrefixOf s))),⟨[],[]⟩):=by
 refine call_body (fc:=fc130) rfl rfl rfl rfl ?_
 simp[fc130,evKC,evK,evGuard,put,Env.get,Env.keep,entry,Opd.ev,binD,lenD,finish,evRes,evRes1]
 by_cases h:p.length≤s.length
 ·have h2:(s.take p.length==p)=p.isPrefixOf s:=by
   rw[Bool.eq_iff_iff]
   simp only[beq_iff_eq,List.isPrefixOf_iff_prefix]
   constructor
   ·intro e;rw[←e];exact List.take_prefix _ _
   ·intro e;exact(List.prefix_iff_eq_take.1 e).symm
  simp[evKC,evK,evGuard,put,Env.get,Env.keep,Opd.ev,D.asNat?,binD,strBin,lenD,boundsD,sliceD,sub,Int.toNat_natCast,h,h2]
 ·have h2:p.isPrefixOf s=false:=by
   rw[Bool.eq_false_iff]
   intro e
   exact h (List.isPrefixOf_iff_prefix.1 e).length_le
  simp[evKC,evK,evGuard,put,Env.get,Env.keep,Opd.ev,h,h2]
theorem hasPrefix_eq(s p:List UInt8):call pg 86 [.p (.str s),.p (.str p)] ⟨[],[]⟩=some (.val (.p (.bool (p.isPrefixOf s))),⟨[],[]⟩):=by
 refine call_body (fc:=fc86) rfl rfl rfl rfl ?_
 simp[fc86,evKC,evK,put,Env.get,Env.keep,entry,Opd.ev,finish,evRes,evRes1,mapO,D.refsL,D.refs,D.toksL,D.toks,callD,reach,boxToks,ins,Vs.nodupB,idx,D.renL,D.ren,back,firstN,putAll,Res.ren,List.map,hasPrefix38]
def adv(w:UInt8→Bool)(s:List UInt8)(i:Nat):Nat:=i+((s.drop i).takeWhile w).length
theorem adv_le{w:UInt8→Bool}{s:List UInt8}{i:Nat}(h:i≤s.length):adv w s i≤s.length:=by
 have:=(List.takeWhile_prefix w (l:=s.drop i)).length_le
 simp only[List.length_drop] at this
 unfold adv
 omega
theorem adv_step{w:UInt8→Bool}{s:List UInt8}{i:Nat}(h:i<s.length)(hw:w (ch s i)=true):adv w s i=adv w s (i+1):=by
 unfold adv
 rw[List.drop_eq_getElem_cons h]
 have :s[i]=ch s i:=by simp[ch,List.getD_eq_getElem?_getD,h]
 rw[this,List.takeWhile_cons,if_pos hw]
 simp;omega
theorem adv_stop{w:UInt8→Bool}{s:List UInt8}{i:Nat}(h:i<s.length)(hw:w (ch s i)=false):adv w s i=i:=by
 unfold adv
 rw[List.drop_eq_getElem_cons h]
 have :s[i]=ch s i:=by simp[ch,List.getD_eq_getElem?_getD,h]
 rw[this,List.takeWhile_cons,if_neg (by simp[hw])]
 simp
theorem adv_end{w:UInt8→Bool}{s:List UInt8}{i:Nat}(h:s.length≤i):adv w s i=i:=by
 unfold adv
 rw[List.drop_eq_nil_of_le h]
 simp
def Want(g:Nat)(s:List UInt8)(w:UInt8→Bool):Prop:=
 ∀i,i<s.length→call pg g [.box 0 0] ⟨[[.p (.str s),.p (.int .i64 i)]],[]⟩=some (.val (.p (.bool (w (ch s i)))),⟨[[.p (.str s),.p (.int .i64 i)]],[]⟩)
theorem while_loop{g:Nat}{s:List UInt8}{w:UInt8→Bool}(hw:Want g s w)(hb:s.length≤4611686018427387904)(d:D)(hd:d.ren (below 1) (below 0)=some d):∀(n i:Nat),i≤s.length→n=s.length-i→
    loopK (call pg) pg.G [0,1,5] fc84_b0 ⟨[(0,.box 0 0),(1,.fn g [.box 0 0] []),(5,d)],⟨[[.p (.str s),.p (.int .i64 i)]],[]⟩⟩=
     some (.exit 0,⟨[(0,.box 0 0),(1,.fn g [.box 0 0] []),(5,d),(23,.p (.bool false))],⟨[[.p (.str s),.p (.int .i64 (adv w s i))]],[]⟩⟩):=by
 intro n
 induction n with
 |zero=>
  intro i hi hn
  have hi':s.length≤i:=by omega
  rw[adv_end hi']
  refine loopK_out ?_ (by simp)
  have h1:¬(i<s.length):=by omega
  simp[fc84_b0,evKC,evK,evGuard,put,Env.get,Env.keep,Opd.ev,loadD,cutAt,binD,lenD,clsP,cls,clsR,isCl,isW,apartRW,offB,apartWW,clash,insOk,mapO,isMapC,D.renL,D.ren,locD,below,Out.ren,List.map,h1,hd]
 |succ n ih=>
  intro i hi hn
  have h1:i<s.length:=by omega
  have hwi:=hw i h1
  cases hb2:w (ch s i) with
  |false=>
   rw[hb2] at hwi
   rw[adv_stop h1 hb2]
   refine loopK_out ?_ (by simp)
   simp[fc84_b0,evKC,evK,evGuard,put,Env.get,Env.keep,Opd.ev,loadD,cutAt,binD,lenD,clsP,cls,clsR,isCl,isW,apartRW,offB,apartWW,clash,insOk,mapO,D.refsL,D.refs,D.toksL,D.toks,isMapC,callD,reach,boxRefs,boxToks,ins,Vs.nodupB,idx,D.renL,D.ren,back,firstN,putAll,Res.ren,locD,below,Out.ren,List.map,h1,hd,hwi]
  |true=>
   rw[hb2] at hwi
   rw[adv_step h1 hb2]
   have hwr:IntKind.i64.wrap ((i:Int)+1)=((i+1 :Nat):Int):=by rw[wrap64 (by omega) (by omega)];rfl
   rw[←ih (i+1) (by omega) (by omega)]
   refine loopK_norm ?_
   simp[fc84_b0,evKC,evK,evGuard,put,Env.get,Env.keep,Opd.ev,loadD,storeD,splice,cutAt,binD,lenD,clsP,cls,clsR,isCl,isW,apartRW,offB,apartWW,clash,insOk,mapO,D.cells,D.one,PD.one,D.refsL,D.refs,D.toksL,D.toks,isMapC,callD,reach,boxRefs,boxToks,ins,Vs.nodupB,idx,D.renL,D.ren,back,firstN,putAll,Res.ren,locD,below,Out.ren,List.map,h1,hd,hwi,hwr]
theorem while_eq{g:Nat}{s:List UInt8}{w:UInt8→Bool}(hw:Want g s w)(hb:s.length≤4611686018427387904){i:Nat}(hi:i≤s.length):
    call pg 84 [.box 0 0,.fn g [.box 0 0] []] ⟨[[.p (.str s),.p (.int .i64 i)]],[]⟩=some (.val (.p (.str (sub s i (adv w s i)))),⟨[[.p (.str s),.p (.int .i64 (adv w s i))]],[]⟩):=by
 refine call_body (fc:=fc84) rfl rfl rfl rfl ?_
 have hl:=while_loop hw hb (.p (.int .i64 i)) rfl (s.length-i) i hi rfl
 have h1:=adv_le (w:=w) hi
 have h2:i≤adv w s i:=by unfold adv;omega
 simp[fc84,evKC,evK,put,Env.get,Env.keep,entry,Opd.ev,loadD,cutAt,D.asNat?,boundsD,sliceD,sub,clsP,cls,clsR,isCl,isW,apartRW,offB,apartWW,clash,insOk,finish,evRes,evRes1,Int.toNat_natCast,isMapC,hl,h1,h2]
def notNl(c:UInt8):Bool:=c !=10
theorem adv_ge(w:UInt8→Bool)(s:List UInt8)(i:Nat):i≤adv w s i:=by unfold adv;omega
def skipLoop(s:List UInt8):Nat→Nat→Nat
 | 0,i=>i
 |n+1,i=>if[47,47].isPrefixOf (s.drop i) then skipLoop s n (adv blB s (adv notNl s i)) else i
def skipTo(s:List UInt8)(i:Nat):Nat:=skipLoop s (s.length+1) (adv blB s i)
theorem slash_lt{s:List UInt8}{i:Nat}(h:[47,47].isPrefixOf (s.drop i)=true):i<s.length∧ch s i=47∧i<adv notNl s i:=by
 have h1:=List.isPrefixOf_iff_prefix.1 h
 have hl:=h1.length_le
 simp only[List.length_cons,List.length_nil,List.length_drop] at hl
 have hi:i<s.length:=by omega
 obtain⟨t,ht⟩:=h1
 have hc:ch s i=47:=by
  have :(s.drop i)[0]? =some 47:=by rw[←ht];rfl
  rw[List.getElem?_drop] at this
  simp only[ch,List.getD_eq_getElem?_getD]
  simp at this
  simp[this]
 refine⟨hi,hc,?_⟩
 rw[adv_step hi (by rw[hc];rfl)]
 have:=adv_ge notNl s (i+1)
 omega
theorem skip_loop{s:List UInt8}(hb:s.length≤4611686018427387904):∀(n i:Nat),i≤s.length→s.length-i<n→
    ∃env,loopK (call pg) pg.G [0] fc55_b0 ⟨[(0,.box 0 0)],⟨[[.p (.str s),.p (.int .i64 i)]],[]⟩⟩=some (.exit 0,⟨env,⟨[[.p (.str s),.p (.int .i64 (skipLoop s n i))]],[]⟩⟩):=by
 intro n
 induction n with
 |zero=>intro i hi hn;omega
 |succ n ih=>
  intro i hi hn
  have hpre:=hasPrefix_eq (s.drop i) [47,47]
  cases hp:[47,47].isPrefixOf (s.drop i) with
  |false=>
   rw[hp] at hpre
   refine⟨[(0,.box 0 0),(15,.p (.bool false))],loopK_out (o:=.exit 0) ?_ (by simp)⟩
   simp[fc55_b0,evKC,evK,put,Env.get,Env.keep,Opd.ev,loadD,cutAt,D.asNat?,boundsD,sliceD,sub,clsP,cls,clsR,isCl,isW,apartRW,offB,apartWW,clash,insOk,mapO,D.refsL,D.refs,D.toksL,D.toks,Int.toNat_natCast,isMapC,callD,reach,boxRefs,boxToks,ins,Vs.nodupB,idx,D.renL,D.ren,back,firstN,putAll,Res.ren,locD,below,Out.ren,List.map,hi,hpre]
   simp[skipLoop,hp]
  |true=>
   rw[hp] at hpre
   obtain⟨h1,h2,h3⟩:=slash_lt hp
   have ha:=adv_le (w:=notNl) hi
   have hb2:=adv_le (w:=blB) ha
   have hw1:=while_eq (g:=87) (w:=notNl) (fun i hi=>inLine_eq hi) hb hi
   have hw2:=while_eq (g:=85) (w:=blB) (fun i hi=>blank_eq hi) hb ha
   have hge:=adv_ge blB s (adv notNl s i)
   obtain⟨env,he⟩:=ih (adv blB s (adv notNl s i)) hb2 (by omega)
   refine⟨env,?_⟩
   simp only[skipLoop,hp,if_true]
   rw[←he]
   refine loopK_norm ?_
   simp[fc55_b0,evKC,evK,put,Env.get,Env.keep,Opd.ev,loadD,cutAt,D.asNat?,boundsD,sliceD,sub,clsP,cls,clsR,isCl,isW,apartRW,offB,apartWW,clash,insOk,mapO,D.refsL,D.refs,D.toksL,D.toks,Int.toNat_natCast,isMapC,callD,reach,boxRefs,boxToks,ins,Vs.nodupB,idx,D.renL,D.ren,back,firstN,putAll,Res.ren,locD,below,Out.ren,List.map,hi,hpre,hw1,hw2]
theorem skip_eq{s:List UInt8}(hb:s.length≤4611686018427387904){i:Nat}(hi:i≤s.length):
    call pg 55 [.box 0 0] ⟨[[.p (.str s),.p (.int .i64 i)]],[]⟩=some (.val .undef,⟨[[.p (.str s),.p (.int .i64 (skipTo s i))]],[]⟩):=by
 refine call_body (fc:=fc55) rfl rfl rfl rfl ?_
 have hw:=while_eq (g:=85) (w:=blB) (fun i hi=>blank_eq hi) hb hi
 have ha:=adv_le (w:=blB) hi
 obtain⟨env,he⟩:=skip_loop hb (s.length+1) (adv blB s i) ha (by omega)
 simp[fc55,evKC,evK,put,Env.get,Env.keep,entry,Opd.ev,sub,finish,evRes,mapO,D.refsL,D.refs,D.toksL,D.toks,callD,reach,boxRefs,boxToks,ins,Vs.nodupB,idx,D.renL,D.ren,back,firstN,putAll,Res.ren,List.map,hw,he,skipTo]
def numOk(s:List UInt8)(i:Nat):Bool:=
 decide ((sub s i (adv diB s i)).length≤9)&&(ch s i !=48||sub s i (adv diB s i)==[48])&&(decide (adv diB s i=s.length)|| !wrB (ch s (adv diB s i)))
theorem sub_len{α:Type}(l:List α){a b:Nat}(h:b≤l.length):(sub l a b).length=b-a:=by
 simp only[sub,List.length_drop,List.length_take];omega
theorem sub_get0{s:List UInt8}{a b:Nat}(h:b≤s.length)(hab:a<b):(sub s a b)[0]? =some (ch s a):=by
 simp only[sub,List.getElem?_drop,Nat.add_zero]
 rw[List.getElem?_take_of_lt hab]
 exact ch_get (by omega)
theorem number_eq{s:List UInt8}(hb:s.length≤4611686018427387904){i:Nat}(hi:i<s.length)(hd:diB (ch s i)=true):
    call pg 91 [.box 0 0] ⟨[[.p (.str s),.p (.int .i64 i)]],[]⟩=some (.val (.tup [.p (.str (sub s i (adv diB s i))),.p (.bool (numOk s i))]),⟨[[.p (.str s),.p (.int .i64 (adv diB s i))]],[]⟩):=by
 refine call_body (fc:=fc91) rfl rfl rfl rfl ?_
 have hw:=while_eq (g:=90) (w:=diB) (fun i hi=>digit_eq hi) hb (Nat.le_of_lt hi)
 have ha:=adv_le (w:=diB) (Nat.le_of_lt hi)
 have hlt:i<adv diB s i:=by
  rw[adv_step hi hd]
  have:=adv_ge diB s (i+1)
  omega
 have hn:numOk s i=(decide ((sub s i (adv diB s i)).length≤9)&&(ch s i !=48||sub s i (adv diB s i)==[48])&&(decide (adv diB s i=s.length)|| !wrB (ch s (adv diB s i)))):=rfl
 rw[hn]
 clear hn
 generalize adv diB s i=j at *
 have h0:=sub_get0 ha hlt
 have h48:(((ch s i).toNat:Int)!=48)=(ch s i !=48):=all_bytes (p:=fun c=>((c.toNat:Int)!=48)=(c !=48)) (by decide+kernel) _
 generalize sub s i j=T at *
 have hjl:(((j:Nat):Int)==(s.length:Int))=decide (j=s.length):=by rw[Bool.eq_iff_iff];simp;omega
 by_cases c1:(T.length:Int)≤9
 ·have c1':T.length≤9:=by omega
  simp[fc91,evKC,evK,evGuard,put,Env.get,Env.keep,entry,Opd.ev,indexD,D.asInt?,u8,binD,lenD,finish,evRes,evRes1,mapO,D.refsL,D.refs,D.toksL,D.toks,callD,reach,boxRefs,boxToks,ins,Vs.nodupB,idx,D.renL,D.ren,back,firstN,putAll,Res.ren,List.map,hw,c1,c1',h0,h48]
  cases c2:(ch s i !=48)
  ·simp[evKC,evK,evGuard,put,Env.get,Env.keep,Opd.ev,binD,strBin,clsP,cls,List.map]
   cases c3:(T==[48])
   ·simp[evKC,evK,evGuard,put,Env.get,Env.keep,Opd.ev,clsP,cls,isW,apartRW,offB,apartWW,clash,insOk,List.map]
   ·by_cases c4:j=s.length
    ·simp[evKC,evK,evGuard,put,Env.get,Env.keep,Opd.ev,loadD,cutAt,binD,lenD,clsP,cls,clsR,isCl,isW,apartRW,offB,apartWW,clash,insOk,isMapC,List.map,c4]
    ·simp[evKC,evK,evGuard,put,Env.get,Env.keep,Opd.ev,loadD,cutAt,binD,unD,lenD,clsP,cls,clsR,isCl,isW,apartRW,offB,apartWW,clash,insOk,mapO,D.refsL,D.refs,D.toksL,D.toks,isMapC,callD,reach,boxRefs,boxToks,ins,Vs.nodupB,idx,D.renL,D.ren,back,firstN,putAll,Res.ren,List.map,hjl,c4,word_eq (show j<s.length by omega)]
  ·simp[evKC,evK,evGuard,put,Env.get,Env.keep,Opd.ev,loadD,cutAt,binD,lenD,clsP,cls,clsR,isCl,isMapC,List.map,hjl]
   by_cases c4:j=s.length
   ·simp[evKC,evK,evGuard,put,Env.get,Env.keep,Opd.ev,clsP,cls,isW,apartRW,offB,apartWW,clash,insOk,List.map,c4]
   ·simp[evKC,evK,evGuard,put,Env.get,Env.keep,Opd.ev,unD,clsP,cls,isCl,isW,apartRW,offB,apartWW,clash,insOk,mapO,D.refsL,D.refs,D.toksL,D.toks,callD,reach,boxRefs,boxToks,ins,Vs.nodupB,idx,D.renL,D.ren,back,firstN,putAll,Res.ren,List.map,c4,word_eq (show j<s.length by omega)]
 ·have c1':¬T.length≤9:=by omega
  simp[fc91,evKC,evK,evGuard,put,Env.get,Env.keep,entry,Opd.ev,binD,lenD,clsP,cls,isW,apartRW,offB,apartWW,clash,insOk,finish,evRes,evRes1,mapO,D.refsL,D.refs,D.toksL,D.toks,callD,reach,boxRefs,boxToks,ins,Vs.nodupB,idx,D.renL,D.ren,back,firstN,putAll,Res.ren,List.map,hw,c1,c1']
def firstOf(r:List UInt8):List (List UInt8)→List UInt8
 |[]=>[]
 |x::l=>if x.isPrefixOf r then x else firstOf r l
def symAt(s:List UInt8)(i:Nat):List UInt8:=firstOf (s.drop i) syms
theorem syms_len:syms.length=29:=rfl
theorem symbol_loop{s:List UInt8}{i:Nat}(hi:i≤s.length):∀(n k:Nat),n+k=29→
    ∃env,loopK (call pg) pg.G [0,4,7,8] fc92_b0 ⟨[(0,.box 0 0),(4,.p (.str [])),(7,.p (.agg (syms.map .str))),(8,.p (.int .i64 k))],⟨[[.p (.str s),.p (.int .i64 i)]],[]⟩⟩=
        some (.exit 0,⟨env,⟨[[.p (.str s),.p (.int .i64 i)]],[]⟩⟩)∧Env.get env 0= .box 0 0∧Env.get env 4= .p (.str (firstOf (s.drop i) (syms.drop k))):=by
 intro n
 induction n with
 |zero=>
  intro k hk
  have hk':k=29:=by omega
  subst hk'
  refine⟨[(0,.box 0 0),(4,.p (.str [])),(7,.p (.agg (syms.map .str))),(8,.p (.int .i64 29)),(9,.p (.bool false))],loopK_out (o:=.exit 0) ?_ (by simp),rfl,?_⟩
  ·simp[fc92_b0,evKC,evK,put,Env.get,Env.keep,Opd.ev,binD,mapO,D.renL,D.ren,locD,below,Out.ren,List.map]
  ·rfl
 |succ n ih=>
  intro k hk
  have hk':k<syms.length:=by rw[syms_len];omega
  have hklt:(k:Int)<29:=by omega
  have hget:(syms.map PD.str)[k]? =some (.str syms[k]):=by simp[hk']
  have hdrop:=List.drop_eq_getElem_cons hk'
  have hpre:=hasPrefix_eq (s.drop i) syms[k]
  generalize hx:syms[k]=x at *
  generalize hS:syms.map PD.str=S at *
  have hlen:k+1≤S.length:=by rw[←hS];simp;omega
  cases hp:x.isPrefixOf (s.drop i) with
  |true=>
   rw[hp] at hpre
   refine⟨[(0,.box 0 0),(4,.p (.str x))],loopK_out (o:=.exit 0) ?_ (by simp),rfl,?_⟩
   ·simp[fc92_b0,evKC,evK,put,Env.get,Env.keep,Opd.ev,loadD,cutAt,indexD,D.asInt?,D.asNat?,binD,boundsD,sliceD,sub,clsP,cls,clsR,isCl,isW,apartRW,offB,apartWW,clash,insOk,mapO,D.refsL,D.refs,D.toksL,D.toks,Int.toNat_natCast,isMapC,callD,reach,boxRefs,boxToks,ins,Vs.nodupB,idx,D.renL,D.ren,back,firstN,putAll,Res.ren,locD,below,Out.ren,List.map,hklt,hget,hi,hpre]
   ·rw[hdrop];simp[Env.get,firstOf,hp]
  |false=>
   rw[hp] at hpre
   obtain⟨env,h1,h2,h3⟩:=ih (k+1) (by omega)
   refine⟨env,?_,h2,?_⟩
   ·rw[←h1]
    have hwr:IntKind.i64.wrap ((k:Int)+1)=((k+1 :Nat):Int):=by rw[wrap64 (by omega) (by omega)];rfl
    refine loopK_norm ?_
    simp[fc92_b0,evKC,evK,put,Env.get,Env.keep,Opd.ev,loadD,cutAt,indexD,D.asInt?,D.asNat?,binD,boundsD,sliceD,sub,clsP,cls,clsR,isCl,isW,apartRW,offB,apartWW,clash,insOk,mapO,D.refsL,D.refs,D.toksL,D.toks,Int.toNat_natCast,isMapC,callD,reach,boxRefs,boxToks,ins,Vs.nodupB,idx,D.renL,D.ren,back,firstN,putAll,Res.ren,locD,below,Out.ren,List.map,hklt,hget,hi,hpre,hwr]
   ·rw[h3,hdrop]
    simp[firstOf,hp]
theorem firstOf_len(r:List UInt8):∀l:List (List UInt8),(firstOf r l).length≤r.length
 |[]=>by simp[firstOf]
 |x::l=>by
  simp only[firstOf]
  split
  ·rename_i h;exact(List.isPrefixOf_iff_prefix.1 h).length_le
  ·exact firstOf_len r l
theorem symAt_len{s:List UInt8}{i:Nat}(hi:i≤s.length):i+(symAt s i).length≤s.length:=by
 have:=firstOf_len (s.drop i) syms
 simp only[List.length_drop] at this
 unfold symAt
 omega
theorem symbol_eq{s:List UInt8}(hb:s.length≤4611686018427387904){i:Nat}(hi:i≤s.length):
    call pg 92 [.box 0 0] ⟨[[.p (.str s),.p (.int .i64 i)]],[]⟩=some (.val (.tup [.p (.str (symAt s i)),.p (.bool (symAt s i !=[]))]),⟨[[.p (.str s),.p (.int .i64 ((i+(symAt s i).length:Nat):Int))]],[]⟩):=by
 refine call_body (fc:=fc92) rfl rfl rfl rfl ?_
 obtain⟨env,h1,h2,h3⟩:=symbol_loop hi 29 0 rfl
 have hl:=symAt_len hi
 have hT:firstOf (s.drop i) (syms.drop 0)=symAt s i:=rfl
 rw[hT] at h3
 generalize symAt s i=T at *
 have hG:pg.G 0=some (syms.map .str):=rfl
 have hlen:(syms.map PD.str).length=29:=by simp[syms_len]
 generalize syms.map PD.str=S at *
 have htake:(S.take 29).drop 0=S:=by rw[List.drop_zero,List.take_of_length_le (by omega)]
 have hwr:IntKind.i64.wrap ((i:Int)+(T.length:Int))=((i+T.length:Nat):Int):=by rw[wrap64 (by omega) (by omega)];rfl
 have h0:(((0 :Nat):Int))=0:=rfl
 rw[h0] at h1
 simp[fc92,evKC,evK,put,Env.get,Env.keep,entry,Opd.ev,loadD,storeD,splice,cutAt,binD,strBin,lenD,sub,finish,evRes,evRes1,mapO,D.cells,D.one,PD.one,isMapC,List.map,hG,hlen,htake,h1,h2,h3,hwr]
 cases T<;>rfl
def tokAt(s:List UInt8)(i:Nat):Tok×Bool:=
 if leB (ch s i) then(⟨1,sub s i (adv wrB s i),i⟩,decide ((sub s i (adv wrB s i)).length≤16))
 else if diB (ch s i) then(⟨2,sub s i (adv diB s i),i⟩,numOk s i)
 else(⟨3,symAt s i,i⟩,symAt s i !=[])
theorem adv_sub{w:UInt8→Bool}{s:List UInt8}{i:Nat}(hi:i≤s.length):i+(sub s i (adv w s i)).length=adv w s i:=by
 rw[sub_len s (adv_le hi)]
 have:=adv_ge w s i
 omega
theorem tok_end{s:List UInt8}{i:Nat}(hi:i≤s.length):i+(tokAt s i).1.t.length≤s.length:=by
 unfold tokAt
 split
 ·rw[adv_sub hi];exact adv_le hi
 ·split
  ·rw[adv_sub hi];exact adv_le hi
  ·exact symAt_len hi
theorem next_eq{s:List UInt8}(hb:s.length≤4611686018427387904){i:Nat}(hi:i<s.length):
    ∃g,call pg 56 [.box 0 0] ⟨[[.p (.str s),.p (.int .i64 i)]],[]⟩=some (.val (.tup [.p (tokAt s i).1.pd,.p (.bool (tokAt s i).2)]),⟨[.p (.str s),.p (.int .i64 ((i+(tokAt s i).1.t.length:Nat):Int))]::g,[]⟩):=by
 have hi':=Nat.le_of_lt hi
 have hw:=while_eq (g:=89) (w:=wrB) (fun i hi=>word_eq hi) hb hi'
 have hle:=letter_eq hi
 have hdi:=digit_eq hi
 have hsy:=symbol_eq hb hi'
 have ea:=adv_sub (w:=wrB) hi'
 have ed:=adv_sub (w:=diB) hi'
 unfold tokAt Tok.pd
 cases hl:leB (ch s i) with
 |true=>
  rw[hl] at hle
  simp only[if_true]
  rw[ea]
  have hd:(decide (((sub s i (adv wrB s i)).length:Int)≤16))=decide ((sub s i (adv wrB s i)).length≤16):=by rw[Bool.eq_iff_iff];simp;omega
  generalize sub s i (adv wrB s i)=T at *
  generalize adv wrB s i=j at *
  refine⟨[[.p (.int .i64 1),.p (.str T),.p (.int .i64 i)],[.p (.int .i64 1),.p (.str T),.p (.int .i64 i)]],?_⟩
  refine call_body (fc:=fc56) rfl rfl rfl rfl ?_
  simp[fc56,evKC,evK,put,Env.get,Env.keep,entry,Opd.ev,loadD,storeD,splice,cutAt,binD,lenD,sub,finish,evRes,evRes1,mapO,D.cells,D.one,PD.one,D.refsL,D.refs,D.toksL,D.toks,mkAgg,pures,fillD,isMapC,callD,reach,boxRefs,boxToks,ins,Vs.nodupB,idx,D.renL,D.ren,back,firstN,putAll,Res.ren,List.map,hle,hw,hd]
 |false=>
  rw[hl] at hle
  simp only[Bool.false_eq_true,if_false]
  cases hd:diB (ch s i) with
  |true=>
   rw[hd] at hdi
   simp only[if_true]
   rw[ed]
   have hnu:=number_eq hb hi hd
   generalize sub s i (adv diB s i)=T at *
   generalize adv diB s i=j at *
   refine⟨[[.p (.int .i64 2),.p (.str T),.p (.int .i64 i)],[.p (.int .i64 2),.p (.str T),.p (.int .i64 i)]],?_⟩
   refine call_body (fc:=fc56) rfl rfl rfl rfl ?_
   simp[fc56,evKC,evK,put,Env.get,Env.keep,entry,Opd.ev,loadD,storeD,splice,cutAt,sub,finish,evRes,evRes1,mapO,D.cells,D.one,PD.one,D.refsL,D.refs,D.toksL,D.toks,mkAgg,pures,fillD,isMapC,callD,reach,boxRefs,boxToks,ins,Vs.nodupB,idx,D.renL,D.ren,back,firstN,putAll,Res.ren,List.map,hle,hdi,hnu]
  |false=>
   rw[hd] at hdi
   simp only[Bool.false_eq_true,if_false]
   generalize symAt s i=T at *
   refine⟨[[.p (.int .i64 3),.p (.str T),.p (.int .i64 i)],[.p (.int .i64 3),.p (.str T),.p (.int .i64 i)]],?_⟩
   refine call_body (fc:=fc56) rfl rfl rfl rfl ?_
   simp[fc56,evKC,evK,put,Env.get,Env.keep,entry,Opd.ev,loadD,storeD,splice,cutAt,sub,finish,evRes,evRes1,mapO,D.cells,D.one,PD.one,D.refsL,D.refs,D.toksL,D.toks,mkAgg,pures,fillD,isMapC,callD,reach,boxRefs,boxToks,ins,Vs.nodupB,idx,D.renL,D.ren,back,firstN,putAll,Res.ren,List.map,hle,hdi,hsy]
abbrev Lexed:=List Tok×Nat×Nat
def lexLoop(s:List UInt8):Nat→Nat→List Tok→Lexed
 | 0,_,acc=>(acc,0,0)
 |n+1,i,acc=>if i<s.length then(if(tokAt s i).2 then lexLoop s n (skipTo s (i+(tokAt s i).1.t.length)) (acc++[(tokAt s i).1]) else([],10,i)) else(acc,0,0)
def lex(s:List UInt8):Lexed:=if s.length>20000 then([],2,0) else lexLoop s (s.length+1) (skipTo s 0) []
theorem skipLoop_le{s:List UInt8}:∀(n i:Nat),i≤s.length→i≤skipLoop s n i∧skipLoop s n i≤s.length
 | 0,i,h=>⟨Nat.le_refl _,h⟩
 |n+1,i,h=>by
  simp only[skipLoop]
  split
  ·have h1:=adv_le (w:=notNl) h
   have h2:=adv_le (w:=blB) h1
   have h3:=adv_ge notNl s i
   have h4:=adv_ge blB s (adv notNl s i)
   have:=skipLoop_le n _ h2
   exact⟨by omega,this.2⟩
  ·exact⟨Nat.le_refl _,h⟩
theorem skipTo_le{s:List UInt8}{i:Nat}(h:i≤s.length):i≤skipTo s i∧skipTo s i≤s.length:=by
 have h1:=adv_le (w:=blB) h
 have h2:=adv_ge blB s i
 have:=skipLoop_le (s.length+1) (adv blB s i) h1
 exact⟨by unfold skipTo;omega,this.2⟩
theorem tok_pos{s:List UInt8}{i:Nat}(hi:i<s.length)(h:(tokAt s i).2=true):0<(tokAt s i).1.t.length:=by
 unfold tokAt at h⊢
 split
 ·rename_i hl
  have hs:=adv_sub (w:=wrB) (Nat.le_of_lt hi)
  have :i<adv wrB s i:=by
   rw[adv_step hi (by simp[wrB,hl])]
   have:=adv_ge wrB s (i+1)
   omega
  simp only
  omega
 ·split
  ·rename_i hl hd
   have hs:=adv_sub (w:=diB) (Nat.le_of_lt hi)
   have :i<adv diB s i:=by
    rw[adv_step hi hd]
    have:=adv_ge diB s (i+1)
    omega
   simp only
   omega
  ·rename_i hl hd
   simp only[hl,hd,Bool.false_eq_true,if_false] at h
   cases hsy:symAt s i with
   |nil=>rw[hsy] at h;cases h
   |cons=>simp
theorem tok_at(s:List UInt8)(i:Nat):(tokAt s i).1.p=i:=by
 unfold tokAt
 split
 ·rfl
 ·split<;>rfl
def LoopEnds(s:List UInt8)(r:Lexed)(x:Option (Out×St)):Prop:=
 (r.2.1=0∧∃env i,x=some (.exit 0,⟨env,⟨[[.p (.str s),.p (.int .i64 i)]],[r.1.length]⟩⟩)∧Env.get env 6= .tsl 0 64 3 (r.1.map Tok.pd))∨
 (r.2.1=10∧r.1=[]∧∃env h,x=some (.ret,⟨env,h⟩)∧Env.get env 2= .p .nils∧Env.get env 3= .p (.int .i64 10)∧Env.get env 4= .p (.int .i64 r.2.2))
theorem lex_loop{s:List UInt8}(hb:s.length≤20000):∀(n i:Nat) (acc:List Tok),i≤s.length→s.length-i<n→acc.length≤i→
    LoopEnds s (lexLoop s n i acc) (loopK (call pg) pg.G [0,5,6] fc26_b0 ⟨[(0,.p (.str s)),(5,.box 0 0),(6,.tsl 0 64 3 (acc.map Tok.pd))],⟨[[.p (.str s),.p (.int .i64 i)]],[acc.length]⟩⟩):=by
 intro n
 induction n with
 |zero=>intro i acc hi hn;omega
 |succ n ih=>
  intro i acc hi hn hacc
  have hb':s.length≤4611686018427387904:=by omega
  by_cases hlt:i<s.length
  ·obtain⟨g,hnx⟩:=next_eq hb' hlt
   have hend:=tok_end hi
   simp only[lexLoop,if_pos hlt]
   cases hok:(tokAt s i).2 with
   |false=>
    rw[hok] at hnx
    simp only[Bool.false_eq_true,if_false]
    have hat:=tok_at s i
    generalize (tokAt s i).1=t at *
    obtain⟨k,T,a⟩:=t
    simp only at hat
    subst hat
    refine .inr ⟨rfl,rfl,[(2,.p .nils),(3,.p (.int .i64 10)),(4,.p (.int .i64 a))],⟨[[.p (.str s),.p (.int .i64 ((a+T.length:Nat):Int))]],[acc.length]⟩,loopK_out (o:=.ret) ?_ (by simp),rfl,rfl,rfl⟩
    simp only[Tok.pd] at hnx
    simp[fc26_b0,evKC,evK,put,Env.get,Env.keep,Opd.ev,loadD,storeD,splice,cutAt,binD,unD,lenD,clsP,cls,clsR,isCl,isW,apartRW,offB,apartWW,clash,insOk,mapO,D.cells,D.one,PD.one,D.refsL,D.refs,D.toksL,D.toks,isMapC,callD,reach,boxRefs,boxToks,ins,Vs.nodupB,idx,D.renL,D.ren,back,firstN,putAll,Res.ren,locD,Out.ren,List.map,hlt,hnx]
   |true=>
    rw[hok] at hnx
    simp only[if_true]
    have hpos:=tok_pos hlt hok
    generalize (tokAt s i).1=t at *
    have hsk:=skip_eq hb' hend
    have hle:=skipTo_le hend
    have:=ih (skipTo s (i+t.t.length)) (acc++[t]) hle.2 (by omega) (by simp;omega)
    rw[loopK_norm (s':=⟨[(0,.p (.str s)),(5,.box 0 0),(6,.tsl 0 64 3 ((acc++[t]).map Tok.pd))],⟨[[.p (.str s),.p (.int .i64 (skipTo s (i+t.t.length)))]],[(acc++[t]).length]⟩⟩) ?_]
    ·exact this
    ·have hroom:roomy (acc.length+1) 32=true:=by simp only[roomy,Bool.and_eq_true,decide_eq_true_eq];omega
     obtain⟨k,T,a⟩:=t
     simp only[Tok.pd] at hnx
     simp only[Int.natCast_add] at hsk hle
     simp[fc26_b0,evKC,evK,put,Env.get,Env.keep,Opd.ev,loadD,storeD,splice,cutAt,binD,unD,lenD,sub,mapO,D.cells,D.one,PD.one,PD.cells,D.refsL,D.refs,D.toksL,D.toks,mkAgg,pures,fillE,appendD,srcD,D.elems?,D.asPD,srcH,isMapC,callD,reach,boxRefs,boxToks,ins,Vs.nodupB,idx,D.renL,D.ren,back,firstN,putAll,Res.ren,locD,below,Out.ren,List.map,hlt,hnx,hsk,hroom,Tok.pd]
  ·simp only[lexLoop,if_neg hlt]
   refine .inl ⟨rfl,[(0,.p (.str s)),(5,.box 0 0),(6,.tsl 0 64 3 (acc.map Tok.pd)),(23,.p (.bool false))],(i:Int),loopK_out (o:=.exit 0) ?_ (by simp),rfl⟩
   simp[fc26_b0,evKC,evK,put,Env.get,Env.keep,Opd.ev,loadD,cutAt,binD,lenD,mapO,isMapC,D.renL,D.ren,locD,below,Out.ren,List.map,hlt]
def Lexed.toks(r:Lexed):PD:=if r.2.1=0 then .slice 3 (r.1.map Tok.pd) else .nils
def Lexed.d(r:Lexed):D:=.tup [.p r.toks,.p (.int .i64 (r.2.1:Nat)),.p (.int .i64 (r.2.2:Nat))]
theorem lexLoop_ends(s:List UInt8):∀(n i:Nat) (acc:List Tok),((lexLoop s n i acc).2.1=0∧(lexLoop s n i acc).2.2=0)∨((lexLoop s n i acc).2.1=10∧(lexLoop s n i acc).1=[])
 | 0,_,_=>.inl ⟨rfl,rfl⟩
 |n+1,i,acc=>by
  simp only[lexLoop]
  split
  ·split
   ·exact lexLoop_ends s n _ _
   ·exact .inr ⟨rfl,rfl⟩
  ·exact .inl ⟨rfl,rfl⟩
theorem lex_body(s:List UInt8)(hmax:s.length≤140737488355328):∃d h,call pg 26 [.p (.str s)] ⟨[],[]⟩=some (.val d,h)∧d.ren (fun _=>none) (fun _=>none)=some (lex s).d:=by
 by_cases hb:s.length>20000
 ·refine⟨.tup [.p .nils,.p (.int .i64 2),.p (.int .i64 0)],⟨[],[]⟩,call_body (fc:=fc26) rfl rfl rfl rfl ?_,?_⟩
  ·have h:(20000 :Int)<s.length:=by omega
   simp[fc26,evKC,evK,put,Env.get,Env.keep,entry,Opd.ev,binD,lenD,finish,evRes,evRes1,mapO,h]
  ·simp[lex,hb,Lexed.d,Lexed.toks,D.renL,D.ren]
 ·have hb':s.length≤20000:=by omega
  have hb2:s.length≤4611686018427387904:=by omega
  have hn:¬(20000 :Int)<s.length:=by omega
  have hsk:=skip_eq hb2 (Nat.zero_le s.length)
  have hle:=skipTo_le (Nat.zero_le s.length)
  have h0:(((0 :Nat):Int))=0:=rfl
  rw[h0] at hsk
  have hx:lex s=lexLoop s (s.length+1) (skipTo s 0) []:=by unfold lex;rw[if_neg hb]
  rcases lex_loop hb' (s.length+1) (skipTo s 0) [] hle.2 (by omega) (by simp) with⟨he,env,i,h1,h2⟩ |⟨he,hnil,env,h,h1,h2,h3,h4⟩
  ·have hpos:(lex s).2.2=0:=by
    rw[hx]
    rcases lexLoop_ends s (s.length+1) (skipTo s 0) [] with q |q
    ·exact q.2
    ·rw[q.1] at he;cases he
   rw[←hx] at he h1 h2
   refine⟨.tup [.tsl 0 64 3 ((lex s).1.map Tok.pd),.p (.int .i64 0),.p (.int .i64 0)],⟨[[.p (.str s),.p (.int .i64 i)]],[(lex s).1.length]⟩,call_body (fc:=fc26) rfl rfl rfl rfl ?_,?_⟩
   ·simp only[List.map_nil,List.length_nil] at h1
    simp[fc26,evKC,evK,put,Env.get,Env.keep,entry,Opd.ev,splice,binD,lenD,finish,evRes,evRes1,mapO,D.cells,D.one,PD.one,D.refsL,D.refs,D.toksL,D.toks,mkAgg,pures,fillD,callD,reach,boxRefs,boxToks,ins,Vs.nodupB,idx,D.renL,D.ren,back,firstN,putAll,Res.ren,List.map,hn,hsk,tokD,h1,h2]
   ·simp[he,hpos,Lexed.d,Lexed.toks,D.renL,D.ren]
  ·rw[←hx] at he h4 hnil
   refine⟨.tup [.p .nils,.p (.int .i64 10),.p (.int .i64 ((lex s).2.2 :Nat))],h,call_body (fc:=fc26) rfl rfl rfl rfl ?_,?_⟩
   ·simp only[List.map_nil,List.length_nil] at h1
    simp[fc26,evKC,evK,put,Env.get,Env.keep,entry,Opd.ev,splice,binD,lenD,finish,evRes,evRes1,mapO,D.cells,D.one,PD.one,D.refsL,D.refs,D.toksL,D.toks,mkAgg,pures,fillD,callD,reach,boxRefs,boxToks,ins,Vs.nodupB,idx,D.renL,D.ren,back,firstN,putAll,Res.ren,List.map,hn,hsk,tokD,h1,h2,h3,h4]
   ·simp[he,Lexed.d,Lexed.toks,D.renL,D.ren]
theorem lex_eq(s:List UInt8)(hmax:s.length≤140737488355328)(H:Hp):callD (call pg) 26 [.p (.str s)] H=some (.val (lex s).d,H):=by
 obtain⟨d,h,h1,h2⟩:=lex_body s hmax
 exact callD_pure h1 rfl rfl rfl h2
theorem ch_get2{s:List UInt8}{i:Nat}(h:i<s.length):s[i]=ch s i:=by simp[ch,List.getD_eq_getElem?_getD,h]
def sk:Bool→List UInt8→List UInt8
 |_,[]=>[]
 |false,c::t=>if blB c then sk false t else if c==47&&t.head?==some 47 then sk true t else c::t
 |true,c::t=>if c==10 then sk false t else sk true t
theorem drop_adv(w:UInt8→Bool)(s:List UInt8)(i:Nat):s.drop (adv w s i)=(s.drop i).dropWhile w:=by
 unfold adv
 rw[←List.drop_drop]
 generalize s.drop i=r
 induction r with
 |nil=>rfl
 |cons c t ih=>
  rw[List.takeWhile_cons,List.dropWhile_cons]
  split
  ·simpa using ih
  ·rfl
theorem sk_blank:∀r:List UInt8,sk false r=sk false (r.dropWhile blB)
 |[]=>rfl
 |c::t=>by
  rw[List.dropWhile_cons]
  by_cases h:blB c=true
  ·simp only[sk,h,if_true]
   exact sk_blank t
  ·simp only[h,Bool.false_eq_true,if_false]
theorem sk_comment:∀r:List UInt8,sk true r=sk false (r.dropWhile notNl)
 |[]=>rfl
 |c::t=>by
  rw[List.dropWhile_cons]
  by_cases h:c=10
  ·subst h
   simp[sk,notNl,blB]
  ·have h2:notNl c=true:=by simp[notNl,h]
   simp only[h2,if_true,sk]
   rw[if_neg (by simpa using h)]
   exact sk_comment t
theorem beq_swap(a b:UInt8):(a==b)=(b==a):=by
 rw[Bool.eq_iff_iff,beq_iff_eq,beq_iff_eq]
 exact⟨Eq.symm,Eq.symm⟩
theorem pre2(c:UInt8)(t:List UInt8):[47,47].isPrefixOf (c::t)=(c==47&&t.head?==some 47):=by
 cases t with
 |nil=>
  have h1:((([]:List UInt8).head?)==some 47)=false:=rfl
  rw[h1,Bool.and_false]
  show(47==c&&false)=false
  rw[Bool.and_false]
 |cons d t=>
  have h1:(((d::t).head?)==some 47)=(d==47):=rfl
  rw[h1]
  show(47==c&&(47==d&&true))=(c==47&&d==47)
  rw[Bool.and_true,beq_swap 47 c,beq_swap 47 d]
theorem dw_head{w:UInt8→Bool}:∀{r:List UInt8} {c:UInt8} {t:List UInt8},c::t=r.dropWhile w→w c=false
 |[],c,t,h=>by cases h
 |d::r,c,t,h=>by
  rw[List.dropWhile_cons] at h
  split at h
  ·exact dw_head h
  ·rename_i hd
   cases h
   simpa using hd
theorem sk_skipLoop{s:List UInt8}:∀(n i:Nat),i≤s.length→s.length-i<n→blB (ch s i)=false∨i=s.length→s.drop (skipLoop s n i)=sk false (s.drop i):=by
 intro n
 induction n with
 |zero=>intro i _ h;omega
 |succ n ih=>
  intro i hi hn hB
  simp only[skipLoop]
  split
  ·rename_i hp
   obtain⟨q1,q2,q3⟩:=slash_lt hp
   have ha:=adv_le (w:=notNl) hi
   have hb:=adv_le (w:=blB) ha
   have hge:=adv_ge blB s (adv notNl s i)
   rw[ih _ hb (by omega) ?_]
   ·rw[drop_adv,←sk_blank,drop_adv]
    rw[List.drop_eq_getElem_cons q1] at hp⊢
    rw[ch_get2 q1] at hp⊢
    rw[pre2] at hp
    have hb0:blB (ch s i)=false:=by rw[q2];rfl
    simp only[sk,hb0,Bool.false_eq_true,if_false,hp,if_true]
    rw[sk_comment]
    congr 1
    rw[List.dropWhile_cons,if_pos (by rw[q2];rfl)]
   ·by_cases he:adv blB s (adv notNl s i)<s.length
    ·left
     have hd:=drop_adv blB s (adv notNl s i)
     rw[List.drop_eq_getElem_cons he,ch_get2 he] at hd
     exact dw_head hd
    ·right;omega
  ·rename_i hp
   by_cases hi2:i<s.length
   ·rw[List.drop_eq_getElem_cons hi2,ch_get2 hi2] at hp⊢
    rw[pre2] at hp
    have hb0:blB (ch s i)=false:=by
     rcases hB with h |h
     ·exact h
     ·omega
    simp only[sk,hb0,Bool.false_eq_true,if_false,hp]
   ·rw[List.drop_eq_nil_of_le (by omega)];rfl
theorem sk_skipTo{s:List UInt8}{i:Nat}(hi:i≤s.length):s.drop (skipTo s i)=sk false (s.drop i):=by
 have ha:=adv_le (w:=blB) hi
 unfold skipTo
 rw[sk_skipLoop _ _ ha (by omega) ?_,drop_adv,←sk_blank]
 by_cases he:adv blB s i<s.length
 ·left
  have hd:=drop_adv blB s i
  rw[List.drop_eq_getElem_cons he,ch_get2 he] at hd
  exact dw_head hd
 ·right;omega
structure T0 where
 k:Int
 t:List UInt8
 left:Nat
def edge:List UInt8→Bool
 |[]=>true
 |c::_=>!wrB c
def tokS(r:List UInt8):Int×List UInt8×Bool:=
 match r with
 |[]=>(3,[],false)
 |c::_=>
  if leB c then(1,r.takeWhile wrB,decide ((r.takeWhile wrB).length≤16))
  else if diB c then(2,r.takeWhile diB,decide ((r.takeWhile diB).length≤9)&&(c !=48||r.takeWhile diB==[48])&&edge (r.dropWhile diB))
  else(3,firstOf r syms,firstOf r syms !=[])
theorem sub_adv(w:UInt8→Bool)(s:List UInt8)(i:Nat):sub s i (adv w s i)=(s.drop i).takeWhile w:=by
 unfold sub adv
 rw[List.drop_take,Nat.add_sub_cancel_left]
 exact(List.prefix_iff_eq_take.1 (List.takeWhile_prefix w)).symm
theorem edge_eq{s:List UInt8}{j:Nat}(hj:j≤s.length):(decide (j=s.length)|| !wrB (ch s j))=edge (s.drop j):=by
 by_cases h:j<s.length
 ·have h2:decide (j=s.length)=false:=by simp;omega
  rw[List.drop_eq_getElem_cons h,ch_get2 h,h2,Bool.false_or]
  rfl
 ·have h2:j=s.length:=by omega
  subst h2
  simp[edge]
theorem tokAt_tokS{s:List UInt8}{i:Nat}(hi:i<s.length):((tokAt s i).1.k,(tokAt s i).1.t,(tokAt s i).2)=tokS (s.drop i):=by
 have hd:s.drop i=ch s i::s.drop (i+1):=by rw[List.drop_eq_getElem_cons hi,ch_get2 hi]
 unfold tokAt numOk
 rw[sub_adv,sub_adv,edge_eq (adv_le (Nat.le_of_lt hi)),drop_adv]
 unfold symAt tokS
 rw[hd]
 dsimp only
 split
 ·rfl
 ·split<;>rfl
def lexR:Nat→List UInt8→List T0×Option Nat
 | 0,_=>([],none)
 |n+1,r=>match sk false r with
  |[]=>([],none)
  |c::t=>
   if(tokS (c::t)).2.2 then
    let x:=lexR n ((c::t).drop (tokS (c::t)).2.1.length)
    (⟨(tokS (c::t)).1,(tokS (c::t)).2.1,(c::t).length⟩::x.1,x.2)
   else([],some (c::t).length)
def T0.tok(n:Nat)(t:T0):Tok:=⟨t.k,t.t,n-t.left⟩
def asLexed(n:Nat)(acc:List Tok)(x:List T0×Option Nat):Lexed:=
 match x.2 with
 |none=>(acc++x.1.map (T0.tok n),0,0)
 |some p=>([],10,n-p)
theorem lexLoop_lexR{s:List UInt8}:∀(n j:Nat) (acc:List Tok),j≤s.length→lexLoop s n (skipTo s j) acc=asLexed s.length acc (lexR n (s.drop j))
 | 0,j,acc,_=>by simp[lexLoop,lexR,asLexed]
 |n+1,j,acc,hj=>by
  have hle:=skipTo_le hj
  have hsk:=sk_skipTo hj
  simp only[lexLoop,lexR]
  generalize hi:skipTo s j=i at *
  by_cases hlt:i<s.length
  ·have ht:=tokAt_tokS hlt
   have hat:=tok_at s i
   have hend:=tok_end hle.2
   have hll:(s.drop i).length=s.length-i:=by simp
   have hd:s.drop i=ch s i::s.drop (i+1):=by rw[List.drop_eq_getElem_cons hlt,ch_get2 hlt]
   rw[if_pos hlt,←hsk]
   rw[hd] at hll ht⊢
   dsimp only
   rw[←ht]
   generalize tokAt s i=T at *
   obtain⟨⟨k,x,a⟩,ok⟩:=T
   simp only at hat hend
   subst hat
   cases ok with
   |false=>simp[asLexed,hll];omega
   |true=>
    simp only[if_true]
    rw[lexLoop_lexR n _ _ hend,←hd,List.drop_drop]
    unfold asLexed
    dsimp only
    have hl2:s.length-(s.drop a).length=a:=by simp;omega
    cases (lexR n (s.drop (a+x.length))).2 with
    |none=>simp[T0.tok];omega
    |some p=>rfl
  ·rw[if_neg hlt,←hsk,List.drop_eq_nil_of_le (by omega)]
   simp[asLexed]
theorem lex_lexR{s:List UInt8}(h:s.length≤20000):lex s=asLexed s.length [] (lexR (s.length+1) s):=by
 unfold lex
 rw[if_neg (by omega),lexLoop_lexR _ _ _ (Nat.zero_le _),List.drop_zero]
end Go.Proofs.YtalgjkpkkdljaaaGreatDoor.Lx
namespace Go.Proofs.YtalgjkpkkdljaaaGreatDoor
open Go.Vs
inductive PR (α:Type) where
 |ok (x:α) (a:Nat)
 |bad (e:Int) (p:Nat) (a:Nat)
def faultD(e:Int)(p:Nat):D:=.p (.iface 123 (.agg [.int .i64 e,.int .i64 p]))
def Ans{α:Type}(g:Nat)(args:List PD)(c:Rd)(a o:Nat)(f:α→D):PR α→Prop
 | .ok x a'=>∀bx t,callD (call pg) g (.box 0 0::args.map .p) (rH c a o bx t)=some (.val (f x),rH c a' o bx t)
 | .bad e p a'=>∃o',∀bx t,callD (call pg) g (.box 0 0::args.map .p) (rH c a o bx t)=some (.pan (faultD e p),rH c a' o' bx t)
def Rd.tok(c:Rd)(i:Nat):Tok:=(c.ts[i]?).getD ⟨0,[],c.e⟩
structure Rd.Sz (c:Rd):Prop extends c.Ok where
 n:c.ts.length≤400000
 e:c.e≤1000000
 p:∀x∈c.ts,x.p≤1000000
 k:∀x∈c.ts,x.k≠0
 t:∀x∈c.ts,x.t.length≤1000000
 num:∀x∈c.ts,x.k=2→∃n:Nat,Lib.atoi x.t=some (n:Int)∧n≤999999999∧x.t.length≤9
theorem tok_in{c:Rd}{i:Nat}(h:i<c.ts.length):c.tok i=c.ts[i]:=by
 simp[Rd.tok,List.getElem?_eq_getElem h]
theorem tok_out{c:Rd}{i:Nat}(h:c.ts.length≤i):c.tok i=⟨0,[],c.e⟩:=by
 simp[Rd.tok,List.getElem?_eq_none h]
section
variable {G : Nat → Option (List PD)} {c : Rd} {a o : Nat} {r : List (List D)} {tk : List Nat}
theorem ldr0:loadD G ⟨rC c a o::r,tk⟩ none (.box 0 0)=some (.p (slP 3 (c.l.map Tok.pd))):=rfl
theorem ldr1:loadD G ⟨rC c a o::r,tk⟩ none (.box 0 1)=some (.p (.int .i64 a)):=rfl
theorem ldr2:loadD G ⟨rC c a o::r,tk⟩ none (.box 0 2)=some (.p (.int .i64 c.e)):=rfl
theorem ldr3:loadD G ⟨rC c a o::r,tk⟩ none (.box 0 3)=some (.p (.int .i64 o)):=rfl
theorem ldr4:loadD G ⟨rC c a o::r,tk⟩ none (.box 0 4)=some (.mapr 1):=rfl
theorem ldr5:loadD G ⟨rC c a o::r,tk⟩ none (.box 0 5)=some (.mapr 2):=rfl
theorem ldr6:loadD G ⟨rC c a o::r,tk⟩ none (.box 0 6)=some (.mapr 3):=rfl
theorem str1(n:Nat):storeD ⟨rC c a o::r,tk⟩ 1 (.box 0 1) (.p (.int .i64 n))=some ⟨rC c n o::r,tk⟩:=by
 simp[storeD,rC,isMapC,D.cells,D.one,PD.one,splice]
theorem str3(n:Nat):storeD ⟨rC c a o::r,tk⟩ 1 (.box 0 3) (.p (.int .i64 n))=some ⟨rC c a n::r,tk⟩:=by
 simp[storeD,rC,isMapC,D.cells,D.one,PD.one,splice]
theorem lenr:lenD 1 (.p (slP 3 (c.l.map Tok.pd)))=some c.ts.length:=len_map 3 Tok.pd c.l
theorem iar{k:Nat}(h:k<c.ts.length):iaddrD none 3 (.p (slP 3 (c.l.map Tok.pd))) (k:Int)=some (.ro [.int .i64 (c.tok k).k,.str (c.tok k).t,.int .i64 (c.tok k).p] 0):=by
 rw[tok_in h]
 have:=ia_map (sz:=3) (f:=Tok.pd) (o:=c.l) h
 rw[this];rfl
end
section
variable {G : Nat → Option (List PD)} {q0 q1 q2 q3 q4 : List D} {x y z : PD} {r : List (List D)} {tk : List Nat} {H : Hp}
theorem ldro3:loadD G H (some 3) (.ro [x,y,z] 0)=some (.p (.agg [x,y,z])):=rfl
theorem ld4:loadD G ⟨q0::q1::q2::q3::[.p x,.p y,.p z]::r,tk⟩ (some 3) (.box 4 0)=some (.p (.agg [x,y,z])):=rfl
theorem ld40:loadD G ⟨q0::q1::q2::q3::[.p x,.p y,.p z]::r,tk⟩ none (.box 4 0)=some (.p x):=rfl
theorem ld41:loadD G ⟨q0::q1::q2::q3::[.p x,.p y,.p z]::r,tk⟩ none (.box 4 1)=some (.p y):=rfl
theorem ld42:loadD G ⟨q0::q1::q2::q3::[.p x,.p y,.p z]::r,tk⟩ none (.box 4 2)=some (.p z):=rfl
theorem ld5:loadD G ⟨q0::q1::q2::q3::q4::[.p x,.p y,.p z]::r,tk⟩ (some 3) (.box 5 0)=some (.p (.agg [x,y,z])):=rfl
theorem ld51:loadD G ⟨q0::q1::q2::q3::q4::[.p x,.p y,.p z]::r,tk⟩ none (.box 5 1)=some (.p y):=rfl
end
theorem addw1{a:Nat}(h:a≤3000000):IntKind.i64.wrap ((a:Int)+1)=(a:Int)+1:=by
 rw[wrap64 (by omega) (by omega)]
section
variable {c : Rd} {a o : Nat} {r : List (List D)} {tk : List Nat} {q0 q1 q2 q3 q4 : List D} {u v w : D} {x z : Int} {y : List UInt8}
theorem str1':storeD ⟨rC c a o::r,tk⟩ 1 (.box 0 1) (.p (.int .i64 ((a:Int)+1)))=some ⟨rC c (a+1) o::r,tk⟩:=str1 (a+1)
theorem stT4:storeD ⟨q0::q1::q2::q3::[u,v,w]::r,tk⟩ 3 (.box 4 0) (.p (.agg [.int .i64 x,.str y,.int .i64 z]))=some ⟨q0::q1::q2::q3::[.p (.int .i64 x),.p (.str y),.p (.int .i64 z)]::r,tk⟩:=by
 simp[storeD,isMapC,D.cells,D.one,PD.one,splice]
theorem stT5:storeD ⟨q0::q1::q2::q3::q4::[u,v,w]::r,tk⟩ 3 (.box 5 0) (.p (.agg [.int .i64 x,.str y,.int .i64 z]))=some ⟨q0::q1::q2::q3::q4::[.p (.int .i64 x),.p (.str y),.p (.int .i64 z)]::r,tk⟩:=by
 simp[storeD,isMapC,D.cells,D.one,PD.one,splice]
end
theorem addw{a k:Nat}(h:a+k≤4000000):IntKind.i64.wrap ((a:Int)+(k:Int))=(a:Int)+(k:Int):=by
 rw[wrap64 (by omega) (by omega)]
theorem look0{c:Rd}(a o k:Nat)(hs:a+k≤4000000):∃ex,call pg 72 (.box 0 0::[PD.int .i64 k].map .p) (rH c a o [] [])=some (.val (.p (c.tok (a+k)).pd),rH c a o ex []):=by
 have hw:=addw hs
 have hi:=@iar c (a+k)
 rw[Int.natCast_add] at hi
 by_cases h:a+k<c.ts.length
 ·have hi:=hi h
  have h':(a:Int)+(k:Int)<(c.ts.length:Int):=by omega
  refine⟨[(c.tok (a+k)).pd.cells.map .p],call_body (fc:=fc72) rfl rfl rfl rfl ?_⟩
  simp only[rH,List.append_nil,Tok.pd]
  generalize c.tok (a+k)=x at *
  simp[fc72,evKC,evK,put,Env.get,Env.keep,entry,Opd.ev,storeD,splice,D.asInt?,binD,clsP,cls,clsR,isCl,isW,apartRW,offB,apartWW,clash,insOk,finish,evRes,evRes1,D.cells,D.one,PD.one,PD.cells,isMapC,ldr0,ldr1,lenr,hw,hi,h',ldro3,ld4]
 ·have h':¬(a:Int)+(k:Int)<(c.ts.length:Int):=by omega
  rw[tok_out (by omega)]
  refine⟨[[.p (.int .i64 0),.p (.str []),.p (.int .i64 c.e)]],call_body (fc:=fc72) rfl rfl rfl rfl ?_⟩
  simp only[rH,List.append_nil,Tok.pd]
  simp[fc72,evKC,evK,put,Env.get,Env.keep,entry,Opd.ev,storeD,splice,binD,clsP,cls,clsR,isCl,isW,apartRW,offB,apartWW,clash,insOk,finish,evRes,evRes1,D.cells,D.one,PD.one,mkAgg,pures,fillD,isMapC,ldr0,ldr1,ldr2,lenr,hw,h',ld4]
theorem look_eq{c:Rd}(hc:c.Ok)(a o k:Nat)(hs:a+k≤4000000)(bx:List (List D))(t:List Nat):callD (call pg) 72 [.box 0 0,.p (.int .i64 k)] (rH c a o bx t)=some (.val (.p (c.tok (a+k)).pd),rH c a o bx t):=by
 obtain⟨ex,h⟩:=look0 (c:=c) a o k hs
 have h':call pg 72 (.box 0 0::[PD.int .i64 k].map .p) (rH c a o [] [])=some (.val (.p (c.tok (a+k)).pd),rH c a o ex []):=h
 exact callD_rd (args:=[.int .i64 k]) hc hc rfl (fun _ _=>rfl) h'
theorem look_at{c:Rd}(hc:c.Ok)(a o:Nat)(hs:a≤4000000)(bx:List (List D))(t:List Nat):callD (call pg) 72 [.box 0 0,.p (.int .i64 0)] (rH c a o bx t)=some (.val (.p (.agg [.int .i64 (c.tok a).k,.str (c.tok a).t,.int .i64 (c.tok a).p])),rH c a o bx t):=
 look_eq hc a o 0 hs bx t
theorem callD_pureP{c:CallR}{f:Nat}{args:List D}{H:Hp}{d:D}{Hl:Hp}{d':D}(h:c f args ⟨[],[]⟩=some (.pan d,Hl))(hr:D.refsL args=[])(ht:D.toksL args=[])(ha:D.renL (idx []) (idx []) args=some args)
    (hd:d.ren (fun _=>none) (fun _=>none)=some d'):callD c f args H=some (.pan d',H):=by
 have hreach:∀n,reach H n []=[]:=by
  intro n
  cases n<;>simp[reach,boxRefs]
 unfold callD
 simp only[hr,ht,ins,hreach,boxToks,List.append_nil,Vs.nodupB,Bool.and_self,if_true,mapO,ha,h]
 unfold back
 simp only[firstN,List.length_nil,Nat.zero_le,if_true,List.take_zero,List.getElem?_nil,mapO,putAll,Res.ren,hd,Option.map_some]
theorem fail_eq(e:Int)(p:Nat)(H:Hp):callD (call pg) 82 [.p (.int .i64 e),.p (.int .i64 p)] H=some (.pan (faultD e p),H):=by
 have h:call pg 82 [.p (.int .i64 e),.p (.int .i64 p)] ⟨[],[]⟩=some (.pan (faultD e p),⟨[],[]⟩):=by
  refine call_body (fc:=fc82) rfl rfl rfl rfl ?_
  simp[fc82,faultD,panicD,evKC,evK,put,Env.get,entry,Opd.ev,splice,finish,D.cells,D.one,PD.one,mkAgg,pures,fillD,D.asPD]
 exact callD_pureP h rfl rfl rfl rfl
def namedB(x:Tok):Bool:=x.k==1&& !kw x.t
theorem named_eq(x:Tok)(hx:x.t.length≤1000000)(H:Hp):callD (call pg) 136 [.p (.agg [.int .i64 x.k,.str x.t,.int .i64 x.p])] H=some (.val (.p (.bool (namedB x))),H):=by
 have hk:=kw_eq x.t hx
 have h:∃H',call pg 136 [.p (.agg [.int .i64 x.k,.str x.t,.int .i64 x.p])] ⟨[],[]⟩=some (.val (.p (.bool (namedB x))),H'):=by
  refine⟨_,call_body (fc:=fc136) rfl rfl rfl rfl (r:=(_,⟨[[.p (.int .i64 x.k),.p (.str x.t),.p (.int .i64 x.p)]],[]⟩)) ?_⟩
  by_cases h1:x.k=1
  ·simp[fc136,evKC,evK,evGuard,put,Env.get,Env.keep,entry,Opd.ev,loadD,cutAt,binD,unD,finish,evRes,evRes1,D.cells,D.one,PD.one,isMapC,hk,h1,namedB]
  ·have h2:(x.k==1)=false:=by simp[h1]
   simp[fc136,evKC,evK,evGuard,put,Env.get,Env.keep,entry,Opd.ev,loadD,cutAt,binD,finish,evRes,evRes1,D.cells,D.one,PD.one,isMapC,h2,namedB]
 exact callD_any h rfl rfl rfl rfl H
def wrongP{α:Type}(c:Rd)(a:Nat):PR α:=.bad (if(c.tok a).k=0 then 21 else 20) (c.tok a).p a
theorem tok_k0{c:Rd}(h:c.Sz){a:Nat}(h0:(c.tok a).k=0):(c.tok a).p=c.e:=by
 by_cases hl:a<c.ts.length
 ·rw[tok_in hl] at h0
  exact absurd h0 (h.k _ (List.getElem_mem hl))
 ·rw[tok_out (by omega)]
theorem ans_ok{α:Type}{g:Nat}{args:List PD}{c:Rd}(hc:c.Ok){a o:Nat}{f:α→D}{x:α}{a':Nat}(hf:∀bi ti,(f x).ren bi ti=some (f x))
    (h:∃ex et,call pg g (.box 0 0::args.map .p) (rH c a o [] [])=some (.val (f x),rH c a' o ex et)):Ans g args c a o f (.ok x a'):=by
 obtain⟨ex,et,h⟩:=h
 intro bx t
 exact callD_rd hc hc rfl (r:=.val (f x)) (fun bi ti=>by simp[Res.ren,hf]) h
theorem ans_bad{α:Type}{g:Nat}{args:List PD}{c:Rd}(hc:c.Ok){a o:Nat}{f:α→D}{e:Int}{p a':Nat}
    (h:∃o' ex et,call pg g (.box 0 0::args.map .p) (rH c a o [] [])=some (.pan (faultD e p),rH c a' o' ex et)):Ans g args c a o f (.bad e p a'):=by
 obtain⟨o',ex,et,h⟩:=h
 exact⟨o',fun bx t=>callD_rd hc hc rfl (r:=.pan (faultD e p)) (fun bi ti=>rfl) h⟩
theorem wrong_eq{c:Rd}(h:c.Sz)(a o:Nat)(hs:a≤4000000)(bx:List (List D))(t:List Nat):callD (call pg) 49 [.box 0 0] (rH c a o bx t)=some (.pan (faultD (if(c.tok a).k=0 then 21 else 20) (c.tok a).p),rH c a o bx t):=by
 have lk:=fun bx=>look_at h.toOk a o hs bx []
 have h0:=tok_k0 h (a:=a)
 refine callD_rd (args:=[]) (ex:=[[.p (.int .i64 (c.tok a).k),.p (.str (c.tok a).t),.p (.int .i64 (c.tok a).p)]]) (et:=[]) h.toOk h.toOk rfl (fun _ _=>rfl) (call_body (fc:=fc49) rfl rfl rfl rfl ?_)
 simp only[rH,List.append_nil] at lk⊢
 generalize c.tok a=x at *
 by_cases hk:x.k=0
 ·simp[fc49,evKC,evK,put,Env.get,Env.keep,entry,Opd.ev,storeD,splice,binD,finish,D.cells,D.one,PD.one,isMapC,lk,hk,ldr2,ld40,fail_eq,h0 hk]
 ·have hk':(x.k==0)=false:=by simp[hk]
  simp[fc49,evKC,evK,put,Env.get,Env.keep,entry,Opd.ev,storeD,splice,binD,finish,D.cells,D.one,PD.one,isMapC,lk,hk,hk',ld40,ld42,fail_eq]
def acceptB(c:Rd)(a:Nat)(s:List UInt8):Bool:=!((c.tok a).k==0)&&(c.tok a).t==s
def acceptN(c:Rd)(a:Nat)(s:List UInt8):Nat:=cond (acceptB c a s) (a+1) a
theorem accept_eq{c:Rd}(h:c.Ok)(a o:Nat)(s:List UInt8)(hs:a≤3000000)(bx:List (List D))(t:List Nat):callD (call pg) 121 [.box 0 0,.p (.str s)] (rH c a o bx t)=some (.val (.p (.bool (acceptB c a s))),rH c (acceptN c a s) o bx t):=by
 have lk:=fun bx=>look_at h a o (by omega) bx []
 refine callD_rd (args:=[.str s]) (ex:=[[.p (.int .i64 (c.tok a).k),.p (.str (c.tok a).t),.p (.int .i64 (c.tok a).p)]]) (et:=[]) h h rfl (fun _ _=>rfl) (call_body (fc:=fc121) rfl rfl rfl rfl ?_)
 simp only[rH,List.append_nil,acceptN,acceptB] at lk⊢
 generalize c.tok a=x at *
 have hw:=addw1 (a:=a) hs
 by_cases hk:x.k=0
 ·simp[fc121,evKC,evK,evGuard,put,Env.get,Env.keep,entry,Opd.ev,binD,finish,evRes,evRes1,PD.one,lk,hk,ld40,stT4]
 ·have hk':(x.k==0)=false:=by simp[hk]
  by_cases ht:x.t=s
  ·simp[fc121,evKC,evK,evGuard,put,Env.get,Env.keep,entry,Opd.ev,binD,strBin,finish,evRes,evRes1,PD.one,stT4,lk,hk',ht,ld40,ld41,ldr1,hw,str1',stT4]
  ·have ht':(x.t==s)=false:=by simp[ht]
   simp[fc121,evKC,evK,evGuard,put,Env.get,Env.keep,entry,Opd.ev,binD,strBin,finish,evRes,evRes1,PD.one,stT4,lk,hk',ht',ld40,ld41]
def expectP(c:Rd)(a:Nat)(s:List UInt8):PR Unit:=cond (acceptB c a s) (.ok () (a+1)) (wrongP c a)
theorem expect_eq{c:Rd}(h:c.Sz)(a o:Nat)(s:List UInt8)(hs:a≤3000000):Ans 122 [.str s] c a o (fun _=>.undef) (expectP c a s):=by
 have ac:=fun bx=>accept_eq h.toOk a o s hs bx []
 have wr:=fun bx=>wrong_eq h a o (by omega) bx []
 simp only[rH,List.append_nil,acceptN] at ac wr
 unfold expectP
 cases hb:acceptB c a s with
 |true=>
  rw[hb] at ac
  refine ans_ok h.toOk (fun _ _=>rfl) ⟨[],[],call_body (fc:=fc122) rfl rfl rfl rfl ?_⟩
  simp only[rH,List.append_nil]
  simp[fc122,evKC,evK,put,Env.get,Env.keep,entry,Opd.ev,unD,finish,evRes,ac]
 |false=>
  rw[hb] at ac
  refine ans_bad h.toOk ⟨o,[],[],call_body (fc:=fc122) rfl rfl rfl rfl ?_⟩
  simp only[rH,List.append_nil]
  simp[fc122,evKC,evK,put,Env.get,Env.keep,entry,Opd.ev,unD,finish,ac,wr]
def nameP(c:Rd)(a:Nat):PR Tok:=cond (namedB (c.tok a)) (.ok (c.tok a) (a+1)) (wrongP c a)
theorem rname_eq{c:Rd}(h:c.Sz)(a o:Nat)(hs:a≤3000000)(ht:(c.tok a).t.length≤1000000):Ans 120 [] c a o (fun x=>.p x.pd) (nameP c a):=by
 have lk:=fun bx=>look_at h.toOk a o (by omega) bx []
 have wr:=fun bx=>wrong_eq h a o (by omega) bx []
 have nm:=named_eq (c.tok a) ht
 have hw:=addw1 (a:=a) hs
 simp only[rH,List.append_nil] at lk wr
 unfold nameP
 cases hb:namedB (c.tok a) with
 |true=>
  rw[hb] at nm
  refine ans_ok h.toOk (fun _ _=>rfl) ⟨[[.p (.int .i64 (c.tok a).k),.p (.str (c.tok a).t),.p (.int .i64 (c.tok a).p)],[.p (.int .i64 (c.tok a).k),.p (.str (c.tok a).t),.p (.int .i64 (c.tok a).p)]],[],call_body (fc:=fc120) rfl rfl rfl rfl ?_⟩
  simp only[rH,List.append_nil,Tok.pd]
  generalize c.tok a=x at *
  simp[fc120,evKC,evK,put,Env.get,Env.keep,entry,Opd.ev,binD,unD,finish,evRes,evRes1,PD.one,stT4,stT5,lk,nm,ld4,ld5,ldr1,hw,str1',stT4,stT5]
 |false=>
  rw[hb] at nm
  refine ans_bad h.toOk ⟨o,[[.p (.int .i64 0),.p (.str []),.p (.int .i64 0)],[.p (.int .i64 (c.tok a).k),.p (.str (c.tok a).t),.p (.int .i64 (c.tok a).p)]],[],call_body (fc:=fc120) rfl rfl rfl rfl ?_⟩
  simp only[rH,List.append_nil]
  generalize c.tok a=x at *
  simp[fc120,evKC,evK,put,Env.get,Env.keep,entry,Opd.ev,unD,finish,PD.one,stT5,lk,nm,ld5,wr]
end Go.Proofs.YtalgjkpkkdljaaaGreatDoor
namespace Go.Proofs.YtalgjkpkkdljaaaGreatDoor
open Go.Vs
theorem frz_rC{c:Rd}(h:c.Ok)(a o:Nat)(H:Hp):(rC c a o).map (D.frz 4 H 8)=rC c a o:=by
 have e:=h.fz H
 simp only[rC,List.map_cons,e]
 rfl
theorem seal_rd{c:Rd}(h:c.Ok){a o:Nat}{ex:List (List D)}{t:List Nat}{r r':Res}(hr:(r.frz 4 (rH c a o ex t)).ren (below 4) some=some r'):
    sealF 4 (r,rH c a o ex t)=(r',rH c a o [] t):=by
 have e1:=frz_rC h a o (rH c a o ex t)
 have e2:=ren_rC (c:=c) (bi:=below 4) (ti:=some) rfl rfl rfl (h.sb _) a o
 have e3:(rH c a o ex t).bx.take 4=[rC c a o,tabB,tabU,tabS]:=by simp[rH]
 have e4:mapO (fun cs=>D.renL (below 4) some (cs.map (D.frz 4 (rH c a o ex t) 8))) [rC c a o,tabB,tabU,tabS]=some [rC c a o,tabB,tabU,tabS]:=by
  simp only[mapO,e1,e2]
  rfl
 have e5:4≤(rH c a o ex t).bx.length:=by simp[rH]
 unfold sealF
 simp only[e3,e4,hr,if_pos e5]
 simp[rH]
theorem seal_bad{c:Rd}(h:c.Ok){a o:Nat}{ex:List (List D)}{t:List Nat}{e:Int}{p:Nat}:sealF 4 (.pan (faultD e p),rH c a o ex t)=(.pan (faultD e p),rH c a o [] t):=seal_rd h rfl
theorem seal_nd{c:Rd}(h:c.Ok){a o:Nat}{ex:List (List D)}{t:List Nat}{x:PD}:sealF 4 (.val (.p x),rH c a o ex t)=(.val (.p x),rH c a o [] t):=seal_rd h rfl
def nodeP(n:Nd)(p a:Nat):PR Nd:=cond (fitsB n.op n.ks) (.ok n a) (.bad 43 p a)
section
variable {G : Nat → Option (List PD)} {q0 q1 q2 q3 q4 : List D} {x y z v w : PD} {r : List (List D)} {tk : List Nat}
theorem ldn0:loadD G ⟨q0::q1::q2::q3::[.p x,.p y,.p z,.p v,.p w]::r,tk⟩ none (.box 4 0)=some (.p x):=rfl
theorem ldn3:loadD G ⟨q0::q1::q2::q3::[.p x,.p y,.p z,.p v,.p w]::r,tk⟩ none (.box 4 3)=some (.p v):=rfl
theorem ldn4:loadD G ⟨q0::q1::q2::q3::[.p x,.p y,.p z,.p v,.p w]::r,tk⟩ none (.box 4 4)=some (.p w):=rfl
theorem ldn:loadD G ⟨q0::q1::q2::q3::[.p x,.p y,.p z,.p v,.p w]::r,tk⟩ (some 5) (.box 4 0)=some (.p (.agg [x,y,z,v,w])):=rfl
theorem ldm:loadD G ⟨q0::q1::q2::q3::q4::[.p x,.p y,.p z,.p v,.p w]::r,tk⟩ (some 5) (.box 5 0)=some (.p (.agg [x,y,z,v,w])):=rfl
theorem stn{n1 n2 n3:Int}{s:List UInt8}{K:PD}(h:K.one=true){k1 k2 k3 k4 k5:D}:storeD ⟨q0::q1::q2::q3::q4::[k1,k2,k3,k4,k5]::r,tk⟩ 5 (.box 5 0) (.p (.agg [.int .i64 n1,.str s,.int .i64 n2,K,.int .i64 n3]))=some ⟨q0::q1::q2::q3::q4::[.p (.int .i64 n1),.p (.str s),.p (.int .i64 n2),.p K,.p (.int .i64 n3)]::r,tk⟩:=by
 have h1:(D.p K).one=true:=h
 have h2:∀k n,(D.p (.int k n)).one=true:=fun _ _=>rfl
 have h3:∀s,(D.p (.str s)).one=true:=fun _=>rfl
 simp[storeD,isMapC,D.cells,h1,h2,h3,splice]
theorem stn4{n1 n2 n3:Int}{s:List UInt8}{K:PD}(h:K.one=true){k1 k2 k3 k4 k5:D}:storeD ⟨q0::q1::q2::q3::[k1,k2,k3,k4,k5]::r,tk⟩ 5 (.box 4 0) (.p (.agg [.int .i64 n1,.str s,.int .i64 n2,K,.int .i64 n3]))=some ⟨q0::q1::q2::q3::[.p (.int .i64 n1),.p (.str s),.p (.int .i64 n2),.p K,.p (.int .i64 n3)]::r,tk⟩:=by
 have h1:(D.p K).one=true:=h
 have h2:∀k n,(D.p (.int k n)).one=true:=fun _ _=>rfl
 have h3:∀s,(D.p (.str s)).one=true:=fun _=>rfl
 simp[storeD,isMapC,D.cells,h1,h2,h3,splice]
theorem oI(k:IntKind)(n:Int):(PD.int k n).one=true:=rfl
theorem oS(s:List UInt8):(PD.str s).one=true:=rfl
theorem oN:PD.nils.one=true:=rfl
theorem oP(x:PD):(D.p x).one=x.one:=rfl
theorem cells1{K:PD}(h:K.one=true):K.cells=[K]:=by
 cases K<;>first |rfl |cases h
end
theorem node_eq{c:Rd}(h:c.Ok)(a o:Nat)(n:Nd)(p:Nat)(hp:n.pos=(p:Int))(hk:n.ks.length≤1000000000):Ans 142 [n.pd] c a o (fun x:Nd=>.p x.pd) (nodeP n p a):=by
 have hf:=fun(bx:List (List D)) (tk:List Nat)=>fits_eq (op:=n.op) (a:=n) hk (H:=⟨rC c a o::tabB::tabU::tabS::bx,tk⟩) (i:=3) rfl
 have ho:=one_kids n
 have hpo:=pone_kids n
 have hkc:=cells1 hpo
 unfold nodeP
 cases hb:fitsB n.op n.ks with
 |true=>
  rw[hb] at hf
  refine ans_ok h (fun _ _=>rfl) ⟨[],[],call_frz (fc:=fc142) rfl rfl rfl rfl (r:=(.val (.p n.pd),rH c a o [n.cells.map .p,n.cells.map .p] [])) ?_ (seal_nd h)⟩
  rw[pd_cells]
  have e:n.cells=[.int .i64 n.op,.str n.nm,.int .i64 n.n,n.kidsP,.int .i64 n.pos]:=rfl
  simp only[rH,List.append_nil,e]
  simp[fc142,evKC,evK,put,Env.get,Env.keep,entry,Opd.ev,unD,clsP,cls,clsR,isCl,isW,apartRW,offB,apartWW,clash,insOk,finish,evRes,evRes1,D.cells,D.refsL,D.refs,D.toksL,D.toks,ldr6,hf,hpo,ldn0,ldn3,ldn,ldm,stn hpo,oP]
 |false=>
  rw[hb] at hf
  refine ans_bad h ⟨o,[],[],call_frz (fc:=fc142) rfl rfl rfl rfl (r:=(.pan (faultD 43 p),rH c a o [n.cells.map .p,[.p (.int .i64 0),.p (.str []),.p (.int .i64 0),.p .nils,.p (.int .i64 0)]] [])) ?_ (seal_bad h)⟩
  rw[pd_cells]
  have e:n.cells=[.int .i64 n.op,.str n.nm,.int .i64 n.n,n.kidsP,.int .i64 n.pos]:=rfl
  simp only[rH,List.append_nil,e,hp]
  simp[fc142,evKC,evK,put,Env.get,Env.keep,entry,Opd.ev,unD,clsP,cls,clsR,isCl,isW,apartRW,offB,apartWW,clash,insOk,finish,D.cells,D.refsL,D.refs,D.toksL,D.toks,ldr6,hf,hpo,ldn0,ldn3,ldn4,fail_eq,oP]
end Go.Proofs.YtalgjkpkkdljaaaGreatDoor
namespace Go.Proofs.YtalgjkpkkdljaaaGreatDoor
open Go.Vs
def PR.bind{α β:Type}(x:PR α)(f:α→Nat→PR β):PR β:=match x with
 | .ok v a=>f v a
 | .bad e p a=>.bad e p a
def leafN(op:Int)(nm:List UInt8)(n:Int)(p:Nat):Nd:=.mk op nm n 0 [] p
def kidsN(op:Int)(nm:List UInt8)(ks:List Nd)(p:Nat):Nd:=.mk op nm 0 2 ks p
def Tok.num(x:Tok):Nat:=match Lib.atoi x.t with
 |some n=>n.toNat
 |none=>0
def numberP(c:Rd)(most a:Nat):PR Nat:=
 if(c.tok a).k=2 then(if most<(c.tok a).num then .bad 2 (c.tok a).p a else .ok (c.tok a).num (a+1)) else wrongP c a
def digit13(s:List UInt8):Bool:=match s with
 |[b]=>decide (49≤b.toNat)&&decide (b.toNat≤51)
 |_=>false
def noneP(c:Rd)(p a:Nat):PR Nd:=
 if acceptB c a [91] then
  (if(c.tok (a+1)).k=2∧digit13 (c.tok (a+1)).t=true then
   (numberP c 3 (a+1)).bind fun n a=>(expectP c a [93]).bind fun _ a=>.ok (leafN 2 [] n p) a
  else wrongP c (a+1))
 else .ok (leafN 2 [] 1 p) a
def binOp(o:Bin)(k:Int):Int:=if k≠1∨o.rel=0 then o.alt else o.rel
def joinedP(t:Tok)(o:Bin)(x y:Nd)(a:Nat):PR Nd:=
 if binOp o (knd x.op)=0 then .bad 43 t.p a
 else(nodeP (kidsN (binOp o (knd x.op)) [] (if t.t=[60,61] then[y,x] else[x,y]) t.p) t.p a).bind fun n a=>
  .ok (if t.t=[33,61]∨t.t=[60,61] then kidsN 40 [] [n] t.p else n) a
section
variable (c : Rd) (prs : Nat → Nat → PR Nd)
def quantP(op:Int)(p a:Nat):PR Nd:=
 (nameP c a).bind fun t a=>(expectP c a [58]).bind fun _ a=>(prs 8 a).bind fun e a=>(expectP c a [124]).bind fun _ a=>
  (prs 1 a).bind fun f a=>nodeP (kidsN op t.t [e,f] p) p a
def callN(nm:List UInt8)(ks:List Nd)(p:Nat):Nd:=.mk 47 nm 0 (if ks=[] then 1 else 2) ks p
def argsP(t:Tok):Nat→List Nd→Nat→PR Nd
 | 0,ks,a=>nodeP (callN t.t ks t.p) t.p a
 |n+1,ks,a=>if acceptB c a [93] then nodeP (callN t.t ks t.p) t.p (a+1)
  else(if ks=[] then PR.ok () a else expectP c a [44]).bind fun _ a=>(prs 8 a).bind fun x a=>argsP t n (ks++[x]) a
def wordOp(s:List UInt8):Option Int:=
 if s=[116,114,117,101] then some 30 else if s=[102,97,108,115,101] then some 31 else if s=[117,110,105,118] then some 3 else if s=[105,100,101,110] then some 4 else none
def primaryP(t:Tok)(a:Nat):PR Nd:=
 match wordOp t.t with
 |some op=>.ok (leafN op [] 0 t.p) (a+1)
 |none=>
  if t.k=2 then(numberP c 64 a).bind fun n a=>.ok (leafN 20 [] n t.p) a
  else if t.t=[45]∧(c.tok (a+1)).k=2 then(numberP c 64 (a+1)).bind fun n a=>.ok (leafN 20 [] (-n) t.p) a
  else if t.t=[45] then wrongP c (a+1)
  else if acceptB c a [110,111,110,101] then noneP c t.p (a+1)
  else if acceptB c a [123] then(quantP c prs 15 t.p (a+1)).bind fun n a=>(expectP c a [125]).bind fun _ a=>.ok n a
  else if acceptB c a [40] then(prs 1 (a+1)).bind fun n a=>(expectP c a [41]).bind fun _ a=>.ok n a
  else(nameP c a).bind fun _ a=>if acceptB c a [91] then argsP c prs t (c.ts.length+1) [] (a+1) else .ok (leafN 1 t.t 0 t.p) a
def primesP:Nat→Nd→Nat→PR Nd
 | 0,n,a=>.ok n a
 |m+1,n,a=>if(c.tok a).t=[39] then(nodeP (kidsN 5 [] [n] (c.tok a).p) (c.tok a).p (a+1)).bind fun n a=>primesP m n a else .ok n a
def operandP(a:Nat):PR Nd:=
 let t:=c.tok a
 if t.k≠0∧t.t=[97,108,108] then quantP c prs 45 t.p (a+1)
 else if t.t=[115,111,109,101]∧namedB (c.tok (a+1))=true∧(c.tok (a+2)).t=[58] then quantP c prs 46 t.p (a+1)
 else match lookT preT t.t with
  |some o=>if t.k≠0 then(prs o.lv (a+1)).bind fun x a=>nodeP (kidsN o.op [] [x] t.p) t.p a else(primaryP c prs t a).bind fun n a=>primesP c (c.ts.length+1) n a
  |none=>(primaryP c prs t a).bind fun n a=>primesP c (c.ts.length+1) n a
def opsP(lev:Nat):Nat→Bool→Nd→Nat→PR Nd
 | 0,_,x,a=>.ok x a
 |m+1,compared,x,a=>
  let t:=c.tok a
  match lookT binT t.t with
  |none=>.ok x a
  |some o=>if t.k=0∨o.lv<lev∨(o.lv=7∧compared=true) then .ok x a
   else(prs (if o.r then o.lv else o.lv+1) (a+1)).bind fun y a=>(joinedP t o x y a).bind fun n a=>opsP lev m (o.lv==7) n a
end
def parseP(c:Rd):Nat→Nat→Nat→PR Nd
 | 0,_,a=>wrongP c a
 |d+1,lev,a=>if d=0∧(c.tok a).k≠0 then .bad 2 (c.tok a).p a
  else(operandP c (parseP c d) a).bind fun x a=>opsP c (parseP c d) lev (c.ts.length+1) false x a
def wholeP(c:Rd)(a:Nat):PR Nd:=
 (parseP c 101 1 a).bind fun n a'=>if knd n.op≠3 then .bad 43 (c.tok a).p a' else if validN n=false then .bad 2 (c.tok a).p a' else .ok n a'
def formulaP(c:Rd):PR Nd:=(wholeP c 0).bind fun n a=>if a<c.ts.length then wrongP c a else .ok n a
end Go.Proofs.YtalgjkpkkdljaaaGreatDoor
namespace Go.Proofs.YtalgjkpkkdljaaaGreatDoor
open Go.Vs
theorem tok_t{c:Rd}(h:c.Sz)(a:Nat):(c.tok a).t.length≤1000000:=by
 by_cases hl:a<c.ts.length
 ·rw[tok_in hl];exact h.t _ (List.getElem_mem hl)
 ·rw[tok_out (by omega)];simp
theorem tok_num{c:Rd}(h:c.Sz){a:Nat}(h2:(c.tok a).k=2):Lib.atoi (c.tok a).t=some ((c.tok a).num:Int)∧(c.tok a).num≤999999999∧(c.tok a).t.length≤9:=by
 by_cases hl:a<c.ts.length
 ·rw[tok_in hl] at h2⊢
  obtain⟨n,h3,h4,h5⟩:=h.num _ (List.getElem_mem hl) h2
  have :(c.ts[a]).num=n:=by simp[Tok.num,h3]
  rw[this];exact⟨h3,h4,h5⟩
 ·rw[tok_out (by omega)] at h2;simp at h2
theorem atoi_eq{s:List UInt8}{n:Int}(h1:s.length≤18)(h2:Lib.atoi s=some n)(H:Hp):callD (call pg) 164 [.p (.str s)] H=some (.val (.tup [.p (.int .i64 n),.p .nili]),H):=by
 have h':pgL 164 [.p (.str s)] ⟨[],[]⟩=some (.val (.tup [.p (.int .i64 n),.p .nili]),⟨[],[]⟩):=by
  simp only[pgL,if_pos h1,h2]
 exact callD_pure (call_lib h') rfl rfl rfl rfl
theorem number_eq{c:Rd}(h:c.Sz)(a o most:Nat)(hs:a≤3000000):Ans 153 [.int .i64 most] c a o (fun n:Nat=>.p (.int .i64 n)) (numberP c most a):=by
 have lk:=fun bx=>look_at h.toOk a o (by omega) bx []
 have wr:=fun bx=>wrong_eq h a o (by omega) bx []
 have hw:=addw1 (a:=a) hs
 simp only[rH,List.append_nil] at lk wr
 unfold numberP
 by_cases h2:(c.tok a).k=2
 ·obtain⟨n1,n2,n3⟩:=tok_num h h2
  have at':=fun H=>atoi_eq (by omega) n1 H
  rw[if_pos h2]
  generalize c.tok a=x at *
  by_cases hm:most<x.num
  ·rw[if_pos hm]
   have hm':(most:Int)<(x.num:Int):=by omega
   refine ans_bad h.toOk ⟨o,[[.p (.int .i64 x.k),.p (.str x.t),.p (.int .i64 x.p)]],[],call_body (fc:=fc153) rfl rfl rfl rfl ?_⟩
   simp only[rH,List.append_nil]
   simp[fc153,evKC,evK,evGuard,put,Env.get,Env.keep,entry,Opd.ev,binD,finish,PD.one,eqD,stT4,lk,h2,at',ld40,ld41,ld42,hm,fail_eq]
  ·rw[if_neg hm]
   have hm':¬(most:Int)<(x.num:Int):=by omega
   refine ans_ok h.toOk (fun _ _=>rfl) ⟨[[.p (.int .i64 x.k),.p (.str x.t),.p (.int .i64 x.p)]],[],call_body (fc:=fc153) rfl rfl rfl rfl ?_⟩
   simp only[rH,List.append_nil]
   simp[fc153,evKC,evK,evGuard,put,Env.get,Env.keep,entry,Opd.ev,binD,finish,evRes,evRes1,PD.one,eqD,stT4,lk,h2,at',ld40,ld41,hm,ldr1,hw,str1']
 ·rw[if_neg h2]
  have h2':(((c.tok a).k)==2)=false:=by simp[h2]
  have h2'':(((c.tok a).k)!=2)=true:=by simp[h2]
  refine ans_bad h.toOk ⟨o,[[.p (.int .i64 (c.tok a).k),.p (.str (c.tok a).t),.p (.int .i64 (c.tok a).p)]],[],call_body (fc:=fc153) rfl rfl rfl rfl ?_⟩
  simp only[rH,List.append_nil]
  generalize c.tok a=x at *
  simp[fc153,evKC,evK,put,Env.get,Env.keep,entry,Opd.ev,binD,finish,PD.one,stT4,lk,h2'',ld40,wr]
end Go.Proofs.YtalgjkpkkdljaaaGreatDoor
