/-
  A value-level evaluator for Go functions; the functions of this cut by it; plain laws. Part 4 of 6.
-/
import Derived.Test.YtalgjkpkkdljaaaDoorProg
import Derived.Test.YtalgjkpkkdljaaaDoorG3
import Derived.KernelRfl
import Derived.Lib.ItoaNum
import Derived.Shelf.Strconv.Itoa3
import Derived.Lib.Builder
import Derived.WalkKit
import Derived.Laws.Externs
import Derived.Test.YtalgjkpkkdljaaaDoorChecked
import Derived.Lib.AppendIntMem
import Derived.Lib.UnsafeStr
import Derived.Test.YtalgjkpkkdljaaaDoorRows
import Derived.Lib.LaidTab
import Derived.Shelf.Vars
import Derived.ProofKit
import Derived.LaidMore
import Derived.Lay
import Derived.OpenShut
import Derived.Stop.Joined
import Derived.Lib.Atoi
import Derived.Lib.IndexMore
import Derived.Lib.Bytealg
namespace Go.Proofs.YtalgjkpkkdljaaaDoor
open Go.Vs
def fc3:FC where
 nt:=72
 np:=4
 res:=[.t 8]
 body:=(.seq (.region [4,5,6,7] [zo 4 (.box (.t 0)),zo 5 (.box (.t 1)),zo 6 (.box (.t 2)),zo 7 (.box (.t 3)),zo 8 (.move (zB false))]) (.seq (.region [4,5,6,7,9] [zc 12 6 [],zm 9 12]) (.seq (.seq (.region [4,5,6,7,9,30] [zL 13 5 4,zc 14 7 [.t 13],zo 15 (.un .not (.t 14)),zm 16 15,zg 17 (.load (some 5) (.t 5)) 16 false,zg 18 (.call (.c (.fn 7 [] [])) [.t 17]) 16 false,zg 19
  (.un .not (.t 18)) 16 false,zb 20 16 19,zm 21 20,zg 22 (.load (some 4) (.t 6)) 21 false,zg 23 (.call (.c (.fn 8 [] [])) [.t 22]) 21 false,zg 24 (.un .not (.t 23)) 21 false,zb 25 21 24,zm 26 25,zg 27 (.load (some 4) (.t 7)) 26 false,zg 28 (.call (.c (.fn 8 [] [])) [.t 27]) 26 false,zg 29 (.un .not (.t 28)) 26 false,zb 30 26 29]) (.cond (.t 30) (.seq (.region [8] [zm 31 9,
  zm 8 31]) .ret) .skip)) (.seq (.seq (.draw [4,6,9,47] [(0,1),(0,3),(1,3),(2,3),(0,4),(1,4),(2,4),(3,4),(8,9),(8,11),(9,11),(10,11),(8,12),(9,12),(10,12),(11,12)] [zL 32 5 4,zL 33 5 5,zc 34 9 [.t 32,.t 33],zL 35 5 4,zL 36 5 5,zc 37 10 [.t 35,.t 36],zo 38 (.eqk 0 true (.t 34) (.t 37)),zm 39 38,zg 40 (.load (some 4) (.t 6)) 39 false,zg 41 (.load (some 4) (.t 7)) 39 false,zg 42
  (.call (.c (.fn 11 [] [])) [.t 40,.t 41]) 39 false,zg 43 (.load (some 4) (.t 6)) 39 false,zg 44 (.load (some 4) (.t 7)) 39 false,zg 45 (.call (.c (.fn 12 [] [])) [.t 43,.t 44]) 39 false,zg 46 (.eqk 0 true (.t 42) (.t 45)) 39 false,zb 47 39 46]) (.cond (.t 47) (.seq (.region [8] [zo 8 (.move (zB false))]) .ret) .skip)) (.seq (.region [4,6,9,10] [zL 48 5 4,zc 49 13 [.t 48],
  zm 10 49]) (.seq (.seq (.draw [6,9,57] [(2,4),(3,4)] [zm 50 10,zm 51 50,zg 52 (.load (some 5) (.t 4)) 51 true,zg 53 (.call (.c (.fn 14 [] [])) [.t 52]) 51 true,zg 54 (.load (some 5) (.t 4)) 51 true,zg 55 (.call (.c (.fn 15 [] [])) [.t 54]) 51 true,zg 56 (.bin .neq (.t 53) (.t 55)) 51 true,za 57 51 56]) (.cond (.t 57) (.seq (.region [8] [zo 8 (.move (zB false))]) .ret) .skip))
  (.seq (.region [6,9,11] [zL 58 4 6,zc 59 16 [.t 58],zm 11 59]) (.seq (.draw [8] [(5,7),(6,7)] [zm 60 9,zm 61 60,zg 62 (.move (.t 11)) 61 true,zg 63 (.un .not (.t 62)) 61 true,zg 64 (.move (.t 63)) 61 true,zg 65 (.load (some 4) (.t 6)) 64 false,zg 66 (.call (.c (.fn 17 [] [])) [.t 65]) 64 false,zg 67 (.load (some 4) (.t 6)) 64 false,zg 68 (.call (.c (.fn 18 [] []))
  [.t 67]) 64 false,zg 69 (.bin .eql (.t 66) (.t 68)) 64 false,zg 70 (.pick (.t 64) (zB true) (.t 69)) 61 true,za 71 61 70,zm 8 71]) .ret))))))))
theorem ok3:FOk Tryd.prog 3 fc3:=FOk.of Tryd.func3 (by kernel_rfl)
def fc6:FC where
 nt:=120
 np:=0
 res:=[.t 0]
 body:=(.seq (.region [] [zo 0 (.move (zB false))]) (.seq (.region [1] [zc 10 21 [zS [65]],zc 11 22 [zS [112]],zo 12 (.bslice 24 5 2 (.agg [.int .i64 0,.str [],.int .i64 0,.nils,.int .i64 0]) [(0,(.t 10)),(1,(.t 11))]),zo 13 (.build [.int .i64 0,.str [],.int .i64 0,.nils,.int .i64 0] [(0,1,(zI 45)),(1,1,(zS [120])),(3,1,(.t 12))]),zo 1 (.alloc [.int .i64 0,.str
  [],.int .i64 0,.nils,.int .i64 0]),zs 5 1 13]) (.seq (.region [1,2] [zo 14 (.build [.int .i64 0,.str [],.int .i64 0,.nils,.int .i64 0] [(0,1,(zI 30))]),zo 15 (.build [.int .i64 0,.str [],.int .i64 0,.nils,.int .i64 0] [(0,1,(zI 31))]),zc 16 23 [zI 41,.t 14,.t 15],zo 17 (.bslice 24 5 1 (.agg [.int .i64 0,.str [],.int .i64 0,.nils,.int .i64 0]) [(0,(.t 16))]),zo 18 (.build
  [.int .i64 0,.str [],.int .i64 0,.nils,.int .i64 0] [(0,1,(zI 40)),(3,1,(.t 17))]),zo 2 (.alloc [.int .i64 0,.str [],.int .i64 0,.nils,.int .i64 0]),zs 5 2 18]) (.seq (.region [1,2,3] [zc 19 21 [zS [97]],zc 20 21 [zS [98]],zc 21 21 [zS [99]],zc 22 23 [zI 8,.t 20,.t 21],zc 23 23 [zI 8,.t 19,.t 22],zo 3 (.alloc [.int .i64 0,.str [],.int .i64 0,.nils,.int .i64 0]),zs 5 3 23])
  (.seq (.region [1,2,3,4] [zc 24 21 [zS [97]],zc 25 21 [zS [98]],zo 26 (.bslice 24 5 1 (.agg [.int .i64 0,.str [],.int .i64 0,.nils,.int .i64 0]) [(0,(.t 25))]),zo 27 (.build [.int .i64 0,.str [],.int .i64 0,.nils,.int .i64 0] [(0,1,(zI 11)),(3,1,(.t 26))]),zc 28 23 [zI 9,.t 24,.t 27],zo 29 (.bslice 24 5 1 (.agg [.int .i64 0,.str [],.int .i64 0,.nils,.int .i64 0])
  [(0,(.t 28))]),zo 30 (.build [.int .i64 0,.str [],.int .i64 0,.nils,.int .i64 0] [(0,1,(zI 5)),(3,1,(.t 29))]),zo 4 (.alloc [.int .i64 0,.str [],.int .i64 0,.nils,.int .i64 0]),zs 5 4 30]) (.seq (.region [1,2,3,4,5] [zo 31 (.build [.int .i64 0,.str [],.int .i64 0,.nils,.int .i64 0] [(0,1,(zI 20)),(2,1,(zI (-3)))]),zc 32 21 [zS [97]],zo 33 (.build [.int .i64 0,.str
  [],.int .i64 0,.nils,.int .i64 0] [(0,1,(zI 2)),(2,1,(zI 2))]),zc 34 23 [zI 6,.t 32,.t 33],zo 35 (.bslice 24 5 1 (.agg [.int .i64 0,.str [],.int .i64 0,.nils,.int .i64 0]) [(0,(.t 34))]),zo 36 (.build [.int .i64 0,.str [],.int .i64 0,.nils,.int .i64 0] [(0,1,(zI 21)),(3,1,(.t 35))]),zc 37 23 [zI 39,.t 31,.t 36],zo 5 (.alloc [.int .i64 0,.str [],.int .i64 0,.nils,.int .i64 0]),
  zs 5 5 37]) (.seq (.draw [1,2,3,4,5,6] [(8,11),(8,12),(11,12),(8,13),(8,17),(11,17),(12,17),(13,17)] [zo 38 (.build [.str [],.bool false] [(0,1,(zS [65])),(1,1,(zB true))]),zo 39 (.build [.str [],.bool false] [(0,1,(zS [66]))]),zo 40 (.bslice 45 2 2 (.agg [.str [],.bool false]) [(0,(.t 38)),(1,(.t 39))]),zo 41 (.bslice 3 1 2 (.int .i64 0) [(0,(zI 0)),(1,(zI 1))]),zo 42
  (.build [.str [],.nils,.bool false] [(0,1,(zS [102])),(1,1,(.t 41)),(2,1,(zB true))]),zo 43 (.bslice 48 3 1 (.agg [.str [],.nils,.bool false]) [(0,(.t 42))]),zo 44 (.build [.str [],.int .i64 0] [(0,1,(zS [120])),(1,1,(zI 1))]),zo 45 (.bslice 50 2 1 (.agg [.str [],.int .i64 0]) [(0,(.t 44))]),zL 46 5 5,zo 47 (.build [.str [],.nils,.int .i64 0,.str
  [],.int .i64 0,.nils,.int .i64 0] [(0,1,(zS [112])),(1,1,(.t 45)),(2,5,(.t 46))]),zo 48 (.bslice 53 7 1 (.agg [.str [],.nils,.int .i64 0,.str [],.int .i64 0,.nils,.int .i64 0]) [(0,(.t 47))]),zL 49 5 1,zc 50 22 [zS [113]],zc 51 23 [zI 41,.t 49,.t 50],zo 52 (.build [.str [],.int .i64 0,.str [],.int .i64 0,.nils,.int .i64 0] [(0,1,(zS [113])),(1,5,(.t 51))]),zo 53
  (.bslice 55 6 1 (.agg [.str [],.int .i64 0,.str [],.int .i64 0,.nils,.int .i64 0]) [(0,(.t 52))]),zo 54 (.build [.nils,.nils,.nils,.nils] [(0,1,(.t 40)),(1,1,(.t 43)),(2,1,(.t 48)),(3,1,(.t 53))]),zo 6 (.alloc [.nils,.nils,.nils,.nils]),zs 4 6 54]) (.seq (.draw [1,2,3,4,5,6,7] [(0,1),(6,7)] [zL 55 5 1,zc 56 22 [zS [113]],zc 57 23 [zI 41,.t 55,.t 56],zc 58 14 [.t 57],zo 59
  (.bin .eql (.t 58) (zS [40,97,108,108,32,120,58,32,65,32,124,32,112,91,93,41,32,38,38,32,113,91,93])),zm 60 59,zg 61 (.call (.c (.fn 22 [] [])) [zS [113]]) 60 true,zg 62 (.load (some 5) (.t 1)) 60 true,zg 63 (.call (.c (.fn 23 [] [])) [zI 41,.t 61,.t 62]) 60 true,zg 64 (.call (.c (.fn 14 [] [])) [.t 63]) 60 true,zg 65 (.bin .eql (.t 64) (zS
  [113,91,93,32,38,38,32,97,108,108,32,120,58,32,65,32,124,32,112,91,93])) 60 true,za 66 60 65,zm 7 66]) (.seq (.region [1,2,6,7,8] [zL 67 5 2,zc 68 14 [.t 67],zo 69 (.bin .eql (.t 68) (zS [110,111,116,32,40,116,114,117,101,32,38,38,32,102,97,108,115,101,41])),zm 70 69,zg 71 (.load (some 5) (.t 3)) 70 true,zg 72 (.call (.c (.fn 14 [] [])) [.t 71]) 70 true,zg 73 (.bin .eql
  (.t 72) (zS [97,32,45,32,40,98,32,45,32,99,41])) 70 true,za 74 70 73,zm 75 74,zg 76 (.load (some 5) (.t 4)) 75 true,zg 77 (.call (.c (.fn 14 [] [])) [.t 76]) 75 true,zg 78 (.bin .eql (.t 77) (zS [40,97,46,126,98,41,39])) 75 true,za 79 75 78,zm 80 79,zg 81 (.load (some 5) (.t 5)) 80 true,zg 82 (.call (.c (.fn 14 [] [])) [.t 81]) 80 true,zg 83 (.bin .eql (.t 82) (zS
  [45,51,32,60,32,35,40,97,32,43,32,110,111,110,101,91,50,93,41])) 80 true,za 84 80 83,zm 8 84]) (.seq (.region [1,2,6,7,8,9] [zL 85 4 6,zc 86 17 [.t 85],zo 87 (.bin .eql (.t 86) (zS
  [115,111,114,116,32,65,32,111,114,100,101,114,101,100,59,10,115,111,114,116,32,66,59,10,118,97,114,32,102,105,101,108,100,32,102,58,32,65,32,45,62,32,66,59,10,112,114,101,100,32,112,91,120,58,32,66,93,32,123,32,45,51,32,60,32,35,40,97,32,43,32,110,111,110,101,91,50,93,41,32,125,10,102,97,99,116,32,113,32,123,32,40,97,108,108,32,120,58,32,65,32,124,32,112,91,93,41,32,38,38,32,
  113,91,93,32,125,10])),zm 9 87]) (.seq (.draw [0] [(8,9),(8,10),(16,17),(22,23)] [zm 88 7,zm 89 88,zg 90 (.move (.t 8)) 89 true,za 91 89 90,zm 92 91,zg 93 (.move (.t 9)) 92 true,za 94 92 93,zm 95 94,zg 96 (.load (some 5) (.t 1)) 95 true,zg 97 (.call (.c (.fn 21 [] [])) [zS [65]]) 95 true,zg 98 (.call (.c (.fn 22 [] [])) [zS [112]]) 95 true,zg 99 (.bslice 24 5 2 (.agg
  [.int .i64 0,.str [],.int .i64 0,.nils,.int .i64 0]) [(0,(.t 97)),(1,(.t 98))]) 95 true,zg 100 (.build [.int .i64 0,.str [],.int .i64 0,.nils,.int .i64 0] [(0,1,(zI 45)),(1,1,(zS [120])),(4,1,(zI 7)),(3,1,(.t 99))]) 95 true,zg 101 (.call (.c (.fn 9 [] [])) [.t 96,.t 100]) 95 true,za 102 95 101,zm 103 102,zg 104 (.load (some 5) (.t 1)) 103 true,zg 105 (.load (some 5)
  (.t 2)) 103 true,zg 106 (.call (.c (.fn 9 [] [])) [.t 104,.t 105]) 103 true,zg 107 (.un .not (.t 106)) 103 true,za 108 103 107,zm 109 108,zg 110 (.load (some 4) (.t 6)) 109 true,zg 111 (.load (some 4) (.t 6)) 109 true,zg 112 (.call (.c (.fn 11 [] [])) [.t 110,.t 111]) 109 true,za 113 109 112,zm 114 113,zg 115 (.load (some 4) (.t 6)) 114 true,zg 116 (.build
  [.nils,.nils,.nils,.nils] []) 114 true,zg 117 (.call (.c (.fn 11 [] [])) [.t 115,.t 116]) 114 true,zg 118 (.un .not (.t 117)) 114 true,za 119 114 118,zm 0 119]) .ret)))))))))))
theorem ok6:FOk Tryd.prog 6 fc6:=FOk.of Tryd.func6 (by kernel_rfl)
def fc7:FC where
 nt:=6
 np:=1
 res:=[.t 2]
 body:=(.seq (.region [1] [zo 1 (.box (.t 0)),zo 2 (.move (zB false))]) (.seq (.region [2] [zL 3 5 1,zc 4 24 [.t 3,zI 400],zo 5 (.bin .leq (.t 4) (zI 400)),zm 2 5]) .ret))
theorem ok7:FOk Tryd.prog 7 fc7:=FOk.of Tryd.func7 (by kernel_rfl)
def fc8_b0:SC:=
 (.seq (.seq (.region [1,3,34] [zm 30 3,zf 31 1 1,zl 32 31,ze 33 1 32,zo 34 (.bin .lss (.t 30) (.t 33))]) (.cond (.t 34) .skip (.exit 0))) (.seq (.block 1 (.seq (.region [1,3,44] [zf 37 1 1,zl 38 37,zm 39 3,zo 40 (.iaddr none 3 (.t 38) (.t 39)),zf 41 40 1,zl 42 41,ze 43 1 42,zo 44 (.bin .gtr (.t 43) (zI 20))]) (.cond (.t 44) (.seq (.region [2] [zo 2 (.move
 (zB false))]) .ret) .skip))) (.region [1,3] [zm 35 3,zo 36 (.bin .add (.t 35) (zI 1)),zm 3 36])))
def fc8_b1:SC:=
 (.loc (.seq (.seq (.region [1,4,49] [zm 45 4,zf 46 1 2,zl 47 46,ze 48 1 47,zo 49 (.bin .lss (.t 45) (.t 48))]) (.cond (.t 49) .skip (.exit 2))) (.seq (.block 3 (.seq (.region [1,4,5] [zf 52 1 2,zl 53 52,zm 54 4,zo 55 (.iaddr none 7 (.t 53) (.t 54)),zf 56 55 2,zL 57 5 56,zc 58 7 [.t 57],zm 5 58]) (.seq (.region [1,4,70] [zm 59 5,zo 60 (.un .not (.t 59)),zm 61 60,zg 62 (.faddr
 (.t 1) 2) 61 false,zg 63 (.load none (.t 62)) 61 false,zg 64 (.move (.t 4)) 61 false,zg 65 (.iaddr none 7 (.t 63) (.t 64)) 61 false,zg 66 (.faddr (.t 65) 1) 61 false,zg 67 (.load none (.t 66)) 61 false,zg 68 (.len 1 (.t 67)) 61 false,zg 69 (.bin .gtr (.t 68) (zI 20)) 61 false,zb 70 61 69]) (.cond (.t 70) (.seq (.region [2] [zo 2 (.move (zB false))]) .ret) .skip)))) (.region
 [1,4] [zm 50 4,zo 51 (.bin .add (.t 50) (zI 1)),zm 4 51]))))
def fc8_b2:SC:=
 (.loc (.seq (.seq (.region [1,6,75] [zm 71 6,zf 72 1 3,zl 73 72,ze 74 1 73,zo 75 (.bin .lss (.t 71) (.t 74))]) (.cond (.t 75) .skip (.exit 4))) (.seq (.block 5 (.seq (.region [1,6,7] [zf 78 1 3,zl 79 78,zm 80 6,zo 81 (.iaddr none 6 (.t 79) (.t 80)),zf 82 81 1,zL 83 5 82,zc 84 7 [.t 83],zm 7 84]) (.seq (.region [1,6,86] [zm 85 7,zo 86 (.un .not (.t 85))]) (.cond (.t 86) (.seq
 (.region [2] [zo 2 (.move (zB false))]) .ret) .skip)))) (.region [1,6] [zm 76 6,zo 77 (.bin .add (.t 76) (zI 1)),zm 6 77]))))
def fc8:FC where
 nt:=87
 np:=1
 res:=[.t 2]
 body:=(.seq (.region [1] [zo 1 (.box (.t 0)),zo 2 (.move (zB false))]) (.seq (.seq (.region [1,29] [zf 8 1 0,zl 9 8,ze 10 1 9,zo 11 (.bin .gtr (.t 10) (zI 20)),zm 12 11,zg 13 (.faddr (.t 1) 1) 12 false,zg 14 (.load none (.t 13)) 12 false,zg 15 (.len 1 (.t 14)) 12 false,zg 16 (.bin .gtr (.t 15) (zI 20)) 12 false,zb 17 12 16,zm 18 17,zg 19 (.faddr (.t 1) 2) 18 false,zg 20
  (.load none (.t 19)) 18 false,zg 21 (.len 1 (.t 20)) 18 false,zg 22 (.bin .gtr (.t 21) (zI 20)) 18 false,zb 23 18 22,zm 24 23,zg 25 (.faddr (.t 1) 3) 24 false,zg 26 (.load none (.t 25)) 24 false,zg 27 (.len 1 (.t 26)) 24 false,zg 28 (.bin .gtr (.t 27) (zI 20)) 24 false,zb 29 24 28]) (.cond (.t 29) (.seq (.region [2] [zo 2 (.move (zB false))]) .ret) .skip)) (.seq (.seq
  (.region [1,3] [zi 3 0]) (.block 0 (.loop [1,3] fc8_b0))) (.seq (.seq (.region [1,4] [zi 4 0]) (.block 2 (.loop [1,4] fc8_b1))) (.seq (.seq (.region [1,6] [zi 6 0]) (.block 4 (.loop [1,6] fc8_b2))) (.seq (.region [2] [zo 2 (.move (zB true))]) .ret))))))
theorem ok8:FOk Tryd.prog 8 fc8:=FOk.of Tryd.func8 (by kernel_rfl)
def fc9:FC where
 nt:=31
 np:=2
 res:=[.t 4]
 body:=(.seq (.region [2,3] [zo 2 (.box (.t 0)),zo 3 (.box (.t 1)),zo 4 (.move (zB false))]) (.seq (.region [4] [zf 5 2 0,zl 6 5,zf 7 3 0,zl 8 7,zo 9 (.bin .eql (.t 6) (.t 8)),zm 10 9,zg 11 (.faddr (.t 2) 1) 10 true,zg 12 (.load none (.t 11)) 10 true,zg 13 (.faddr (.t 3) 1) 10 true,zg 14 (.load none (.t 13)) 10 true,zg 15 (.bin .eql (.t 12) (.t 14)) 10 true,za 16 10 15,
  zm 17 16,zg 18 (.faddr (.t 2) 2) 17 true,zg 19 (.load none (.t 18)) 17 true,zg 20 (.faddr (.t 3) 2) 17 true,zg 21 (.load none (.t 20)) 17 true,zg 22 (.bin .eql (.t 19) (.t 21)) 17 true,za 23 17 22,zm 24 23,zg 25 (.faddr (.t 2) 3) 24 true,zg 26 (.load none (.t 25)) 24 true,zg 27 (.faddr (.t 3) 3) 24 true,zg 28 (.load none (.t 27)) 24 true,zg 29 (.call (.c (.fn 25 [] []))
  [.t 26,.t 28,(.c (.fn 9 [] []))]) 24 true,za 30 24 29,zm 4 30]) .ret))
theorem ok9:FOk Tryd.prog 9 fc9:=FOk.of Tryd.func9 (by kernel_rfl)
def fc10_b0:SC:=
 (.loc (.seq (.seq (.region [2,3,5,39] [zm 35 5,zf 36 2 3,zl 37 36,ze 38 1 37,zo 39 (.bin .lss (.t 35) (.t 38))]) (.cond (.t 39) .skip (.exit 0))) (.seq (.block 1 (.seq (.draw [2,3,5,6] [(1,6),(4,6),(1,9),(4,9)] [zf 42 2 3,zl 43 42,zm 44 5,zo 45 (.iaddr none 5 (.t 43) (.t 44)),zL 46 5 45,zf 47 3 3,zl 48 47,zm 49 5,zo 50 (.iaddr none 5 (.t 48) (.t 49)),zL 51 5 50,zc 52 10
 [.t 46,.t 51],zm 6 52]) (.seq (.region [2,3,5,54] [zm 53 6,zo 54 (.un .not (.t 53))]) (.cond (.t 54) (.seq (.region [4] [zo 4 (.move (zB false))]) .ret) .skip)))) (.region [2,3,5] [zm 40 5,zo 41 (.bin .add (.t 40) (zI 1)),zm 5 41]))))
def fc10:FC where
 nt:=55
 np:=2
 res:=[.t 4]
 body:=(.seq (.region [2,3] [zo 2 (.box (.t 0)),zo 3 (.box (.t 1)),zo 4 (.move (zB false))]) (.seq (.seq (.region [2,3,34] [zf 7 2 0,zl 8 7,zf 9 3 0,zl 10 9,zo 11 (.bin .neq (.t 8) (.t 10)),zm 12 11,zg 13 (.faddr (.t 2) 1) 12 false,zg 14 (.load none (.t 13)) 12 false,zg 15 (.faddr (.t 3) 1) 12 false,zg 16 (.load none (.t 15)) 12 false,zg 17 (.bin .neq (.t 14)
  (.t 16)) 12 false,zb 18 12 17,zm 19 18,zg 20 (.faddr (.t 2) 2) 19 false,zg 21 (.load none (.t 20)) 19 false,zg 22 (.faddr (.t 3) 2) 19 false,zg 23 (.load none (.t 22)) 19 false,zg 24 (.bin .neq (.t 21) (.t 23)) 19 false,zb 25 19 24,zm 26 25,zg 27 (.faddr (.t 2) 3) 26 false,zg 28 (.load none (.t 27)) 26 false,zg 29 (.len 1 (.t 28)) 26 false,zg 30 (.faddr (.t 3) 3) 26 false,
  zg 31 (.load none (.t 30)) 26 false,zg 32 (.len 1 (.t 31)) 26 false,zg 33 (.bin .neq (.t 29) (.t 32)) 26 false,zb 34 26 33]) (.cond (.t 34) (.seq (.region [4] [zo 4 (.move (zB false))]) .ret) .skip)) (.seq (.seq (.region [2,3,5] [zi 5 0]) (.block 0 (.loop [2,3,5] fc10_b0))) (.seq (.region [4] [zo 4 (.move (zB true))]) .ret))))
theorem ok10:FOk Tryd.prog 10 fc10:=FOk.of Tryd.func10 (by kernel_rfl)
def fc11:FC where
 nt:=37
 np:=2
 res:=[.t 4]
 body:=(.seq (.region [2,3] [zo 2 (.box (.t 0)),zo 3 (.box (.t 1)),zo 4 (.move (zB false))]) (.seq (.region [2,3,5] [zo 5 (.move (.c (.fn 26 [] [])))]) (.seq (.region [2,3,5,6] [zo 6 (.move (.c (.fn 28 [] [])))]) (.seq (.region [2,3,5,6,7] [zo 7 (.move (.c (.fn 30 [] [])))]) (.seq (.region [4] [zf 8 2 0,zl 9 8,zf 10 3 0,zl 11 10,zc 12 31 [.t 9,.t 11],zm 13 12,zg 14 (.faddr
  (.t 2) 1) 13 true,zg 15 (.load none (.t 14)) 13 true,zg 16 (.faddr (.t 3) 1) 13 true,zg 17 (.load none (.t 16)) 13 true,zg 18 (.move (.t 5)) 13 true,zg 19 (.call (.c (.fn 32 [] [])) [.t 15,.t 17,.t 18]) 13 true,za 20 13 19,zm 21 20,zg 22 (.faddr (.t 2) 2) 21 true,zg 23 (.load none (.t 22)) 21 true,zg 24 (.faddr (.t 3) 2) 21 true,zg 25 (.load none (.t 24)) 21 true,zg 26 (.move
  (.t 6)) 21 true,zg 27 (.call (.c (.fn 33 [] [])) [.t 23,.t 25,.t 26]) 21 true,za 28 21 27,zm 29 28,zg 30 (.faddr (.t 2) 3) 29 true,zg 31 (.load none (.t 30)) 29 true,zg 32 (.faddr (.t 3) 3) 29 true,zg 33 (.load none (.t 32)) 29 true,zg 34 (.move (.t 7)) 29 true,zg 35 (.call (.c (.fn 34 [] [])) [.t 31,.t 33,.t 34]) 29 true,za 36 29 35,zm 4 36]) .ret)))))
theorem ok11:FOk Tryd.prog 11 fc11:=FOk.of Tryd.func11 (by kernel_rfl)
def fc12_b0:SC:=
 (.seq (.seq (.region [2,3,5,51] [zm 47 5,zf 48 2 0,zl 49 48,ze 50 1 49,zo 51 (.bin .lss (.t 47) (.t 50))]) (.cond (.t 51) .skip (.exit 0))) (.seq (.block 1 (.seq (.draw [2,3,5,64] [(1,6),(4,6),(1,9),(4,9)] [zf 54 2 0,zl 55 54,zm 56 5,zo 57 (.iaddr none 2 (.t 55) (.t 56)),zL 58 2 57,zf 59 3 0,zl 60 59,zm 61 5,zo 62 (.iaddr none 2 (.t 60) (.t 61)),zL 63 2 62,zo 64 (.eqs true
 [2,0] (.t 58) (.t 63))]) (.cond (.t 64) (.seq (.region [4] [zo 4 (.move (zB false))]) .ret) .skip))) (.region [2,3,5] [zm 52 5,zo 53 (.bin .add (.t 52) (zI 1)),zm 5 53])))
def fc12_b1:SC:=
 (.loc (.seq (.seq (.region [2,3,6,69] [zm 65 6,zf 66 2 1,zl 67 66,ze 68 1 67,zo 69 (.bin .lss (.t 65) (.t 68))]) (.cond (.t 69) .skip (.exit 2))) (.seq (.block 3 (.seq (.draw [2,3,6,7] [(1,7),(5,7),(1,11),(5,11)] [zf 72 2 1,zl 73 72,zm 74 6,zo 75 (.iaddr none 3 (.t 73) (.t 74)),zf 76 75 1,zl 77 76,zf 78 3 1,zl 79 78,zm 80 6,zo 81 (.iaddr none 3 (.t 79) (.t 80)),zf 82 81 1,
 zl 83 82,zc 84 35 [.t 77,.t 83],zm 7 84]) (.seq (.draw [2,3,6,116] [(4,10),(8,10),(4,14),(8,14),(19,25),(23,25),(19,29),(23,29)] [zm 85 7,zo 86 (.un .not (.t 85)),zm 87 86,zg 88 (.faddr (.t 2) 1) 87 false,zg 89 (.load none (.t 88)) 87 false,zg 90 (.move (.t 6)) 87 false,zg 91 (.iaddr none 3 (.t 89) (.t 90)) 87 false,zg 92 (.faddr (.t 91) 0) 87 false,zg 93 (.load none
 (.t 92)) 87 false,zg 94 (.faddr (.t 3) 1) 87 false,zg 95 (.load none (.t 94)) 87 false,zg 96 (.move (.t 6)) 87 false,zg 97 (.iaddr none 3 (.t 95) (.t 96)) 87 false,zg 98 (.faddr (.t 97) 0) 87 false,zg 99 (.load none (.t 98)) 87 false,zg 100 (.bin .neq (.t 93) (.t 99)) 87 false,zb 101 87 100,zm 102 101,zg 103 (.faddr (.t 2) 1) 102 false,zg 104 (.load none (.t 103)) 102 false,
 zg 105 (.move (.t 6)) 102 false,zg 106 (.iaddr none 3 (.t 104) (.t 105)) 102 false,zg 107 (.faddr (.t 106) 2) 102 false,zg 108 (.load none (.t 107)) 102 false,zg 109 (.faddr (.t 3) 1) 102 false,zg 110 (.load none (.t 109)) 102 false,zg 111 (.move (.t 6)) 102 false,zg 112 (.iaddr none 3 (.t 110) (.t 111)) 102 false,zg 113 (.faddr (.t 112) 2) 102 false,zg 114 (.load none
 (.t 113)) 102 false,zg 115 (.eqk 0 true (.t 108) (.t 114)) 102 false,zb 116 102 115]) (.cond (.t 116) (.seq (.region [4] [zo 4 (.move (zB false))]) .ret) .skip)))) (.region [2,3,6] [zm 70 6,zo 71 (.bin .add (.t 70) (zI 1)),zm 6 71]))))
def fc12_b2:SC:=
 (.loc (.seq (.seq (.region [2,3,8,121] [zm 117 8,zf 118 2 2,zl 119 118,ze 120 1 119,zo 121 (.bin .lss (.t 117) (.t 120))]) (.cond (.t 121) .skip (.exit 4))) (.seq (.block 5 (.seq (.draw [2,3,8,9] [(1,7),(5,7),(1,11),(5,11)] [zf 124 2 2,zl 125 124,zm 126 8,zo 127 (.iaddr none 7 (.t 125) (.t 126)),zf 128 127 1,zl 129 128,zf 130 3 2,zl 131 130,zm 132 8,zo 133 (.iaddr none 7
 (.t 131) (.t 132)),zf 134 133 1,zl 135 134,zc 136 36 [.t 129,.t 135],zm 9 136]) (.seq (.draw [2,3,8,9,10] [(1,7),(5,7),(1,11),(5,11)] [zf 137 2 2,zl 138 137,zm 139 8,zo 140 (.iaddr none 7 (.t 138) (.t 139)),zf 141 140 2,zL 142 5 141,zf 143 3 2,zl 144 143,zm 145 8,zo 146 (.iaddr none 7 (.t 144) (.t 145)),zf 147 146 2,zL 148 5 147,zc 149 10 [.t 142,.t 148],zm 10 149]) (.seq
 (.draw [2,3,8,170] [(8,14),(12,14),(8,18),(12,18)] [zm 150 9,zo 151 (.un .not (.t 150)),zm 152 151,zg 153 (.move (.t 10)) 152 false,zg 154 (.un .not (.t 153)) 152 false,zb 155 152 154,zm 156 155,zg 157 (.faddr (.t 2) 2) 156 false,zg 158 (.load none (.t 157)) 156 false,zg 159 (.move (.t 8)) 156 false,zg 160 (.iaddr none 7 (.t 158) (.t 159)) 156 false,zg 161 (.faddr
 (.t 160) 0) 156 false,zg 162 (.load none (.t 161)) 156 false,zg 163 (.faddr (.t 3) 2) 156 false,zg 164 (.load none (.t 163)) 156 false,zg 165 (.move (.t 8)) 156 false,zg 166 (.iaddr none 7 (.t 164) (.t 165)) 156 false,zg 167 (.faddr (.t 166) 0) 156 false,zg 168 (.load none (.t 167)) 156 false,zg 169 (.bin .neq (.t 162) (.t 168)) 156 false,zb 170 156 169]) (.cond (.t 170)
 (.seq (.region [4] [zo 4 (.move (zB false))]) .ret) .skip))))) (.region [2,3,8] [zm 122 8,zo 123 (.bin .add (.t 122) (zI 1)),zm 8 123]))))
def fc12_b3:SC:=
 (.loc (.seq (.seq (.region [2,3,11,175] [zm 171 11,zf 172 2 3,zl 173 172,ze 174 1 173,zo 175 (.bin .lss (.t 171) (.t 174))]) (.cond (.t 175) .skip (.exit 6))) (.seq (.block 7 (.seq (.draw [2,3,11,12] [(1,7),(5,7),(1,11),(5,11)] [zf 178 2 3,zl 179 178,zm 180 11,zo 181 (.iaddr none 6 (.t 179) (.t 180)),zf 182 181 1,zL 183 5 182,zf 184 3 3,zl 185 184,zm 186 11,zo 187
 (.iaddr none 6 (.t 185) (.t 186)),zf 188 187 1,zL 189 5 188,zc 190 10 [.t 183,.t 189],zm 12 190]) (.seq (.draw [2,3,11,207] [(4,10),(8,10),(4,14),(8,14)] [zm 191 12,zo 192 (.un .not (.t 191)),zm 193 192,zg 194 (.faddr (.t 2) 3) 193 false,zg 195 (.load none (.t 194)) 193 false,zg 196 (.move (.t 11)) 193 false,zg 197 (.iaddr none 6 (.t 195) (.t 196)) 193 false,zg 198 (.faddr
 (.t 197) 0) 193 false,zg 199 (.load none (.t 198)) 193 false,zg 200 (.faddr (.t 3) 3) 193 false,zg 201 (.load none (.t 200)) 193 false,zg 202 (.move (.t 11)) 193 false,zg 203 (.iaddr none 6 (.t 201) (.t 202)) 193 false,zg 204 (.faddr (.t 203) 0) 193 false,zg 205 (.load none (.t 204)) 193 false,zg 206 (.bin .neq (.t 199) (.t 205)) 193 false,zb 207 193 206]) (.cond (.t 207)
 (.seq (.region [4] [zo 4 (.move (zB false))]) .ret) .skip)))) (.region [2,3,11] [zm 176 11,zo 177 (.bin .add (.t 176) (zI 1)),zm 11 177]))))
def fc12:FC where
 nt:=208
 np:=2
 res:=[.t 4]
 body:=(.seq (.region [2,3] [zo 2 (.box (.t 0)),zo 3 (.box (.t 1)),zo 4 (.move (zB false))]) (.seq (.seq (.region [2,3,46] [zf 13 2 0,zl 14 13,ze 15 1 14,zf 16 3 0,zl 17 16,ze 18 1 17,zo 19 (.bin .neq (.t 15) (.t 18)),zm 20 19,zg 21 (.faddr (.t 2) 1) 20 false,zg 22 (.load none (.t 21)) 20 false,zg 23 (.len 1 (.t 22)) 20 false,zg 24 (.faddr (.t 3) 1) 20 false,zg 25
  (.load none (.t 24)) 20 false,zg 26 (.len 1 (.t 25)) 20 false,zg 27 (.bin .neq (.t 23) (.t 26)) 20 false,zb 28 20 27,zm 29 28,zg 30 (.faddr (.t 2) 2) 29 false,zg 31 (.load none (.t 30)) 29 false,zg 32 (.len 1 (.t 31)) 29 false,zg 33 (.faddr (.t 3) 2) 29 false,zg 34 (.load none (.t 33)) 29 false,zg 35 (.len 1 (.t 34)) 29 false,zg 36 (.bin .neq (.t 32) (.t 35)) 29 false,
  zb 37 29 36,zm 38 37,zg 39 (.faddr (.t 2) 3) 38 false,zg 40 (.load none (.t 39)) 38 false,zg 41 (.len 1 (.t 40)) 38 false,zg 42 (.faddr (.t 3) 3) 38 false,zg 43 (.load none (.t 42)) 38 false,zg 44 (.len 1 (.t 43)) 38 false,zg 45 (.bin .neq (.t 41) (.t 44)) 38 false,zb 46 38 45]) (.cond (.t 46) (.seq (.region [4] [zo 4 (.move (zB false))]) .ret) .skip)) (.seq (.seq (.region
  [2,3,5] [zi 5 0]) (.block 0 (.loop [2,3,5] fc12_b0))) (.seq (.seq (.region [2,3,6] [zi 6 0]) (.block 2 (.loop [2,3,6] fc12_b1))) (.seq (.seq (.region [2,3,8] [zi 8 0]) (.block 4 (.loop [2,3,8] fc12_b2))) (.seq (.seq (.region [2,3,11] [zi 11 0]) (.block 6 (.loop [2,3,11] fc12_b3))) (.seq (.region [4] [zo 4 (.move (zB true))]) .ret)))))))
theorem ok12:FOk Tryd.prog 12 fc12:=FOk.of Tryd.func12 (by kernel_rfl)
def fc13:FC where
 nt:=10
 np:=1
 res:=[.t 2]
 body:=(.seq (.region [1] [zo 1 (.box (.t 0)),zo 2 (.move (zB false))]) (.seq (.region [2] [zL 3 5 1,zc 4 37 [.t 3,zI 400],zo 5 (.bin .leq (.t 4) (zI 400)),zm 6 5,zg 7 (.load (some 5) (.t 1)) 6 true,zg 8 (.call (.c (.fn 38 [] [])) [.t 7,zI 24]) 6 true,za 9 6 8,zm 2 9]) .ret))
theorem ok13:FOk Tryd.prog 13 fc13:=FOk.of Tryd.func13 (by kernel_rfl)
def fc14:FC where
 nt:=12
 np:=1
 res:=[.t 2]
 body:=(.seq (.region [1] [zo 1 (.box (.t 0)),zo 2 (.move (zS []))]) (.seq (.region [1,3] [zc 4 39 [],zm 3 4]) (.seq (.tokb 3 1 5 1) (.seq (.region [3] [zm 5 3,zL 6 5 1,zc 7 40 [.t 5,.t 6,zB true]]) (.seq (.region [2] [zm 8 3,zn 9 8,zf 10 9 0,zc 11 41 [.t 10],zm 2 11]) .ret)))))
theorem ok14:FOk Tryd.prog 14 fc14:=FOk.of Tryd.func14 (by kernel_rfl)
def fc15:FC where
 nt:=5
 np:=1
 res:=[.t 2]
 body:=(.seq (.region [1] [zo 1 (.box (.t 0)),zo 2 (.move (zS []))]) (.seq (.region [2] [zL 3 5 1,zc 4 42 [.t 3,zB true],zm 2 4]) .ret))
theorem ok15:FOk Tryd.prog 15 fc15:=FOk.of Tryd.func15 (by kernel_rfl)
def fc16_b0:SC:=
 (.loc (.seq (.seq (.region [1,3,41] [zm 37 3,zf 38 1 1,zl 39 38,ze 40 1 39,zo 41 (.bin .lss (.t 37) (.t 40))]) (.cond (.t 41) .skip (.exit 0))) (.seq (.block 1 (.seq (.region [1,3,4] [zf 44 1 1,zl 45 44,zm 46 3,zo 47 (.iaddr none 3 (.t 45) (.t 46)),zL 48 3 47,zo 4 (.alloc [.str [],.nils,.bool false]),zs 3 4 48]) (.seq (.region [1,3,4,5] [zf 49 4 0,zl 50 49,zc 51 44 [.t 50],
 zm 52 51,zg 53 (.load (some 4) (.t 1)) 52 true,zg 54 (.faddr (.t 4) 1) 52 true,zg 55 (.load none (.t 54)) 52 true,zg 56 (.call (.c (.fn 45 [] [])) [.t 53,.t 55]) 52 true,za 57 52 56,zm 5 57]) (.seq (.region [1,3,71] [zm 58 5,zo 59 (.un .not (.t 58)),zm 60 59,zg 61 (.faddr (.t 4) 1) 60 false,zg 62 (.load none (.t 61)) 60 false,zg 63 (.len 1 (.t 62)) 60 false,zg 64 (.bin .lss
 (.t 63) (zI 1)) 60 false,zb 65 60 64,zm 66 65,zg 67 (.faddr (.t 4) 1) 66 false,zg 68 (.load none (.t 67)) 66 false,zg 69 (.len 1 (.t 68)) 66 false,zg 70 (.bin .gtr (.t 69) (zI 3)) 66 false,zb 71 66 70]) (.cond (.t 71) (.seq (.region [2] [zo 2 (.move (zB false))]) .ret) .skip))))) (.region [1,3] [zm 42 3,zo 43 (.bin .add (.t 42) (zI 1)),zm 3 43]))))
def fc16_b1:SC:=
 (.loc (.seq (.seq (.region [1,6,76] [zm 72 6,zf 73 1 2,zl 74 73,ze 75 1 74,zo 76 (.bin .lss (.t 72) (.t 75))]) (.cond (.t 76) .skip (.exit 2))) (.seq (.block 3 (.seq (.region [1,6,7] [zf 79 1 2,zl 80 79,zm 81 6,zo 82 (.iaddr none 7 (.t 80) (.t 81)),zf 83 82 0,zl 84 83,zc 85 44 [.t 84],zm 86 85,zg 87 (.faddr (.t 1) 2) 86 true,zg 88 (.load none (.t 87)) 86 true,zg 89 (.move
 (.t 6)) 86 true,zg 90 (.iaddr none 7 (.t 88) (.t 89)) 86 true,zg 91 (.faddr (.t 90) 2) 86 true,zg 92 (.load (some 5) (.t 91)) 86 true,zg 93 (.call (.c (.fn 46 [] [])) [.t 92]) 86 true,za 94 86 93,zm 7 94]) (.seq (.draw [1,6,107] [(3,5),(3,9)] [zm 95 7,zo 96 (.un .not (.t 95)),zm 97 96,zg 98 (.load (some 4) (.t 1)) 97 false,zg 99 (.faddr (.t 1) 2) 97 false,zg 100 (.load none
 (.t 99)) 97 false,zg 101 (.move (.t 6)) 97 false,zg 102 (.iaddr none 7 (.t 100) (.t 101)) 97 false,zg 103 (.faddr (.t 102) 1) 97 false,zg 104 (.load none (.t 103)) 97 false,zg 105 (.call (.c (.fn 47 [] [])) [.t 98,.t 104]) 97 false,zg 106 (.un .not (.t 105)) 97 false,zb 107 97 106]) (.cond (.t 107) (.seq (.region [2] [zo 2 (.move (zB false))]) .ret) .skip)))) (.region [1,6]
 [zm 77 6,zo 78 (.bin .add (.t 77) (zI 1)),zm 6 78]))))
def fc16_b2:SC:=
 (.loc (.seq (.seq (.region [1,8,112] [zm 108 8,zf 109 1 3,zl 110 109,ze 111 1 110,zo 112 (.bin .lss (.t 108) (.t 111))]) (.cond (.t 112) .skip (.exit 4))) (.seq (.block 5 (.seq (.region [1,8,9] [zf 115 1 3,zl 116 115,zm 117 8,zo 118 (.iaddr none 6 (.t 116) (.t 117)),zf 119 118 0,zl 120 119,zc 121 44 [.t 120],zm 122 121,zg 123 (.faddr (.t 1) 3) 122 true,zg 124 (.load none
 (.t 123)) 122 true,zg 125 (.move (.t 8)) 122 true,zg 126 (.iaddr none 6 (.t 124) (.t 125)) 122 true,zg 127 (.faddr (.t 126) 1) 122 true,zg 128 (.load (some 5) (.t 127)) 122 true,zg 129 (.call (.c (.fn 46 [] [])) [.t 128]) 122 true,za 130 122 129,zm 9 130]) (.seq (.region [1,8,132] [zm 131 9,zo 132 (.un .not (.t 131))]) (.cond (.t 132) (.seq (.region [2] [zo 2 (.move
 (zB false))]) .ret) .skip)))) (.region [1,8] [zm 113 8,zo 114 (.bin .add (.t 113) (zI 1)),zm 8 114]))))
def fc16:FC where
 nt:=133
 np:=1
 res:=[.t 2]
 body:=(.seq (.region [1] [zo 1 (.box (.t 0)),zo 2 (.move (zB false))]) (.seq (.seq (.region [1,36] [zf 10 1 0,zl 11 10,ze 12 1 11,zo 13 (.bin .gtr (.t 12) (zI 4)),zm 14 13,zg 15 (.faddr (.t 1) 1) 14 false,zg 16 (.load none (.t 15)) 14 false,zg 17 (.len 1 (.t 16)) 14 false,zg 18 (.bin .gtr (.t 17) (zI 6)) 14 false,zb 19 14 18,zm 20 19,zg 21 (.faddr (.t 1) 2) 20 false,zg 22
  (.load none (.t 21)) 20 false,zg 23 (.len 1 (.t 22)) 20 false,zg 24 (.bin .gtr (.t 23) (zI 8)) 20 false,zb 25 20 24,zm 26 25,zg 27 (.faddr (.t 1) 3) 26 false,zg 28 (.load none (.t 27)) 26 false,zg 29 (.len 1 (.t 28)) 26 false,zg 30 (.bin .gtr (.t 29) (zI 16)) 26 false,zb 31 26 30,zm 32 31,zg 33 (.load (some 4) (.t 1)) 32 false,zg 34 (.call (.c (.fn 43 [] []))
  [.t 33]) 32 false,zg 35 (.un .not (.t 34)) 32 false,zb 36 32 35]) (.cond (.t 36) (.seq (.region [2] [zo 2 (.move (zB false))]) .ret) .skip)) (.seq (.seq (.region [1,3] [zi 3 0]) (.block 0 (.loop [1,3] fc16_b0))) (.seq (.seq (.region [1,6] [zi 6 0]) (.block 2 (.loop [1,6] fc16_b1))) (.seq (.seq (.region [1,8] [zi 8 0]) (.block 4 (.loop [1,8] fc16_b2))) (.seq (.region [2] [zo 2
  (.move (zB true))]) .ret))))))
theorem ok16:FOk Tryd.prog 16 fc16:=FOk.of Tryd.func16 (by kernel_rfl)
def fc17_b0:SC:=
 (.loc (.seq (.region [1,3,4,16,17,18,19] [zo 19 (.bin .lss (.t 18) (.t 17))]) (.seq (.cond (.t 19) .skip (.exit 0)) (.seq (.block 1 (.seq (.region [1,3,4,6,16,17,18] [zo 20 (.iaddr none 2 (.t 16) (.t 18)),zL 21 2 20,zo 6 (.alloc [.str [],.bool false]),zs 2 6 21]) (.seq (.draw [1,3,4,6,16,17,18] [(0,4)] [zl 22 3,zn 23 22,zf 24 23 0,zf 25 6 0,zl 26 25,zo 27 (.bin .add (zS
 [115,111,114,116,32]) (.t 26)),zc 28 49 [.t 24,.t 27]]) (.seq (.seq (.region [1,3,4,16,17,18,30] [zf 29 6 1,zl 30 29]) (.cond (.t 30) (.region [1,3,4,16,17,18] [zl 31 3,zn 32 31,zf 33 32 0,zc 34 49 [.t 33,zS [32,111,114,100,101,114,101,100]]]) .skip)) (.region [1,3,4,16,17,18] [zl 35 3,zn 36 35,zf 37 36 0,zc 38 49 [.t 37,zS [59,10]]]))))) (.region [1,3,4,16,17,18] [zo 39
 (.bin .add (.t 18) (zI 1)),zm 18 39])))))
def fc17_b1:SC:=
 (.loc (.seq (.region [1,3,4,41,42,43,44] [zo 44 (.bin .lss (.t 43) (.t 42))]) (.seq (.cond (.t 44) .skip (.exit 2)) (.seq (.block 3 (.seq (.region [1,3,4,8,41,42,43] [zo 45 (.iaddr none 3 (.t 41) (.t 43)),zL 46 3 45,zo 8 (.alloc [.str [],.nils,.bool false]),zs 3 8 46]) (.seq (.seq (.region [1,3,4,8,41,42,43,48] [zf 47 8 2,zl 48 47]) (.cond (.t 48) (.region [1,3,4,8,41,42,43]
 [zl 49 3,zn 50 49,zf 51 50 0,zc 52 49 [.t 51,zS [118,97,114,32]]]) .skip)) (.seq (.draw [1,3,4,8,41,42,43] [(0,4)] [zl 53 3,zn 54 53,zf 55 54 0,zf 56 8 0,zl 57 56,zo 58 (.bin .add (zS [102,105,101,108,100,32]) (.t 57)),zo 59 (.bin .add (.t 58) (zS [58,32])),zc 60 49 [.t 55,.t 59]]) (.seq (.region [1,3,4,41,42,43] [zl 61 3,zf 62 8 1,zl 63 62,zo 64 (.mkfn 51 [] [.t 3,.t 4]),
 zc 65 50 [.t 61,.t 63,zS [32,45,62,32],.t 64]]) (.region [1,3,4,41,42,43] [zl 66 3,zn 67 66,zf 68 67 0,zc 69 49 [.t 68,zS [59,10]]])))))) (.region [1,3,4,41,42,43] [zo 70 (.bin .add (.t 43) (zI 1)),zm 43 70])))))
def fc17_b2:SC:=
 (.loc (.seq (.region [1,3,4,72,73,74,75] [zo 75 (.bin .lss (.t 74) (.t 73))]) (.seq (.cond (.t 75) .skip (.exit 4)) (.seq (.block 5 (.seq (.region [1,3,4,10,72,73,74] [zo 76 (.iaddr none 7 (.t 72) (.t 74)),zL 77 7 76,zo 10 (.alloc [.str [],.nils,.int .i64 0,.str [],.int .i64 0,.nils,.int .i64 0]),zs 7 10 77]) (.seq (.draw [1,3,4,10,72,73,74] [(0,4)] [zl 78 3,zn 79 78,
 zf 80 79 0,zf 81 10 0,zl 82 81,zo 83 (.bin .add (zS [112,114,101,100,32]) (.t 82)),zo 84 (.bin .add (.t 83) (zS [91])),zc 85 49 [.t 80,.t 84]]) (.seq (.region [1,3,4,10,72,73,74] [zl 86 3,zf 87 10 1,zl 88 87,zo 89 (.mkfn 53 [] [.t 3,.t 4]),zc 90 52 [.t 86,.t 88,zS [44,32],.t 89]]) (.draw [1,3,4,72,73,74] [(0,4),(0,5)] [zl 91 3,zn 92 91,zf 93 92 0,zf 94 10 2,zL 95 5 94,
 zc 96 14 [.t 95],zo 97 (.bin .add (zS [93,32,123,32]) (.t 96)),zo 98 (.bin .add (.t 97) (zS [32,125,10])),zc 99 49 [.t 93,.t 98]]))))) (.region [1,3,4,72,73,74] [zo 100 (.bin .add (.t 74) (zI 1)),zm 74 100])))))
def fc17_b3:SC:=
 (.loc (.seq (.region [3,102,103,104,105] [zo 105 (.bin .lss (.t 104) (.t 103))]) (.seq (.cond (.t 105) .skip (.exit 6)) (.seq (.block 7 (.seq (.region [3,12,102,103,104] [zo 106 (.iaddr none 6 (.t 102) (.t 104)),zL 107 6 106,zo 12 (.alloc [.str [],.int .i64 0,.str [],.int .i64 0,.nils,.int .i64 0]),zs 6 12 107]) (.draw [3,102,103,104] [(0,4),(0,8),(4,8),(0,9),(4,9)] [zl 108 3,
 zn 109 108,zf 110 109 0,zf 111 12 0,zl 112 111,zo 113 (.bin .add (zS [102,97,99,116,32]) (.t 112)),zo 114 (.bin .add (.t 113) (zS [32,123,32])),zf 115 12 1,zL 116 5 115,zc 117 14 [.t 116],zo 118 (.bin .add (.t 114) (.t 117)),zo 119 (.bin .add (.t 118) (zS [32,125,10])),zc 120 49 [.t 110,.t 119]]))) (.region [3,102,103,104] [zo 121 (.bin .add (.t 104) (zI 1)),zm 104 121])))))
def fc17:FC where
 nt:=126
 np:=1
 res:=[.t 2]
 body:=(.seq (.region [1] [zo 1 (.box (.t 0)),zo 2 (.move (zS []))]) (.seq (.region [1,3,13] [zc 13 39 [],zo 3 (.alloc [.nilp]),zs 1 3 13]) (.seq (.tokb 13 1 5 1) (.seq (.region [1,3,4] [zo 14 (.mkfn 48 [] [.t 1]),zo 4 (.alloc [.nilf]),zs 1 4 14]) (.seq (.seq (.region [1,3,4,16,17,18] [zf 15 1 0,zl 16 15,ze 17 1 16,zi 18 0]) (.block 0 (.loop [1,3,4,16,17,18] fc17_b0))) (.seq
  (.seq (.region [1,3,4,41,42,43] [zf 40 1 1,zl 41 40,ze 42 1 41,zi 43 0]) (.block 2 (.loop [1,3,4,41,42,43] fc17_b1))) (.seq (.seq (.region [1,3,4,72,73,74] [zf 71 1 2,zl 72 71,ze 73 1 72,zi 74 0]) (.block 4 (.loop [1,3,4,72,73,74] fc17_b2))) (.seq (.seq (.region [3,102,103,104] [zf 101 1 3,zl 102 101,ze 103 1 102,zi 104 0]) (.block 6 (.loop [3,102,103,104] fc17_b3))) (.seq
  (.region [2] [zl 122 3,zn 123 122,zf 124 123 0,zc 125 41 [.t 124],zm 2 125]) .ret)))))))))
theorem ok17:FOk Tryd.prog 17 fc17:=FOk.of Tryd.func17 (by kernel_rfl)
def fc18_b0:SC:=
 (.seq (.seq (.region [1,3,4,12] [zm 8 4,zf 9 1 0,zl 10 9,ze 11 1 10,zo 12 (.bin .lss (.t 8) (.t 11))]) (.cond (.t 12) .skip (.exit 0))) (.seq (.block 1 (.seq (.region [1,3,4] [zm 15 3,zo 16 (.bin .add (.t 15) (zS [115,111,114,116,32])),zf 17 1 0,zl 18 17,zm 19 4,zo 20 (.iaddr none 2 (.t 18) (.t 19)),zf 21 20 0,zl 22 21,zo 23 (.bin .add (.t 16) (.t 22)),zm 3 23]) (.seq (.seq
 (.region [1,3,4,29] [zf 24 1 0,zl 25 24,zm 26 4,zo 27 (.iaddr none 2 (.t 25) (.t 26)),zf 28 27 1,zl 29 28]) (.cond (.t 29) (.region [1,3,4] [zm 30 3,zo 31 (.bin .add (.t 30) (zS [32,111,114,100,101,114,101,100])),zm 3 31]) .skip)) (.region [1,3,4] [zm 32 3,zo 33 (.bin .add (.t 32) (zS [59,10])),zm 3 33])))) (.region [1,3,4] [zm 13 4,zo 14 (.bin .add (.t 13) (zI 1)),zm 4 14])))
def fc18_b1:SC:=
 (.loc (.seq (.seq (.region [1,3,5,38] [zm 34 5,zf 35 1 1,zl 36 35,ze 37 1 36,zo 38 (.bin .lss (.t 34) (.t 37))]) (.cond (.t 38) .skip (.exit 2))) (.seq (.block 3 (.draw [1,3,5] [(1,3),(1,6)] [zm 41 3,zL 42 4 1,zf 43 1 1,zl 44 43,zm 45 5,zo 46 (.iaddr none 3 (.t 44) (.t 45)),zL 47 3 46,zc 48 54 [.t 42,.t 47],zo 49 (.bin .add (.t 41) (.t 48)),zm 3 49])) (.region [1,3,5]
 [zm 39 5,zo 40 (.bin .add (.t 39) (zI 1)),zm 5 40]))))
def fc18_b2:SC:=
 (.loc (.seq (.seq (.region [1,3,6,54] [zm 50 6,zf 51 1 2,zl 52 51,ze 53 1 52,zo 54 (.bin .lss (.t 50) (.t 53))]) (.cond (.t 54) .skip (.exit 4))) (.seq (.block 5 (.draw [1,3,6] [(1,3),(1,6)] [zm 57 3,zL 58 4 1,zf 59 1 2,zl 60 59,zm 61 6,zo 62 (.iaddr none 7 (.t 60) (.t 61)),zL 63 7 62,zc 64 55 [.t 58,.t 63],zo 65 (.bin .add (.t 57) (.t 64)),zm 3 65])) (.region [1,3,6]
 [zm 55 6,zo 56 (.bin .add (.t 55) (zI 1)),zm 6 56]))))
def fc18_b3:SC:=
 (.loc (.seq (.seq (.region [1,3,7,70] [zm 66 7,zf 67 1 3,zl 68 67,ze 69 1 68,zo 70 (.bin .lss (.t 66) (.t 69))]) (.cond (.t 70) .skip (.exit 6))) (.seq (.block 7 (.draw [1,3,7] [(3,11),(7,11),(3,15),(7,15),(3,16),(7,16)] [zm 73 3,zo 74 (.bin .add (.t 73) (zS [102,97,99,116,32])),zf 75 1 3,zl 76 75,zm 77 7,zo 78 (.iaddr none 6 (.t 76) (.t 77)),zf 79 78 0,zl 80 79,zo 81
 (.bin .add (.t 74) (.t 80)),zo 82 (.bin .add (.t 81) (zS [32,123,32])),zf 83 1 3,zl 84 83,zm 85 7,zo 86 (.iaddr none 6 (.t 84) (.t 85)),zf 87 86 1,zL 88 5 87,zc 89 15 [.t 88],zo 90 (.bin .add (.t 82) (.t 89)),zo 91 (.bin .add (.t 90) (zS [32,125,10])),zm 3 91])) (.region [1,3,7] [zm 71 7,zo 72 (.bin .add (.t 71) (zI 1)),zm 7 72]))))
def fc18:FC where
 nt:=93
 np:=1
 res:=[.t 2]
 body:=(.seq (.region [1] [zo 1 (.box (.t 0)),zo 2 (.move (zS []))]) (.seq (.region [1,3] [zo 3 (.move (zS []))]) (.seq (.seq (.region [1,3,4] [zi 4 0]) (.block 0 (.loop [1,3,4] fc18_b0))) (.seq (.seq (.region [1,3,5] [zi 5 0]) (.block 2 (.loop [1,3,5] fc18_b1))) (.seq (.seq (.region [1,3,6] [zi 6 0]) (.block 4 (.loop [1,3,6] fc18_b2))) (.seq (.seq (.region [1,3,7] [zi 7 0])
  (.block 6 (.loop [1,3,7] fc18_b3))) (.seq (.region [2] [zm 92 3,zm 2 92]) .ret)))))))
theorem ok18:FOk Tryd.prog 18 fc18:=FOk.of Tryd.func18 (by kernel_rfl)
def fc19:FC where
 nt:=13
 np:=1
 res:=[.t 2]
 body:=(.seq (.region [1] [zo 1 (.box (.t 0)),zo 2 (.move (zB false))]) (.seq (.region [1,3] [zL 4 5 1,zc 5 13 [.t 4],zm 3 5]) (.seq (.region [2] [zm 6 3,zm 7 6,zg 8 (.faddr (.t 1) 0) 7 true,zg 9 (.load none (.t 8)) 7 true,zg 10 (.call (.c (.fn 56 [] [])) [.t 9]) 7 true,zg 11 (.bin .eql (.t 10) (.c (.p (.int .u8 102)))) 7 true,za 12 7 11,zm 2 12]) .ret)))
theorem ok19:FOk Tryd.prog 19 fc19:=FOk.of Tryd.func19 (by kernel_rfl)
def fc20_b0:SC:=
 (.loc (.seq (.seq (.region [1,2,4,5,6,23] [zm 19 6,zf 20 2 3,zl 21 20,ze 22 1 21,zo 23 (.bin .lss (.t 19) (.t 22))]) (.cond (.t 23) .skip (.exit 0))) (.seq (.block 1 (.seq (.region [1,2,4,5,6,7] [zf 26 2 3,zl 27 26,zm 28 6,zo 29 (.iaddr none 5 (.t 27) (.t 28)),zL 30 5 29,zm 31 1,zm 32 6,zo 33 (.bin .add (.t 31) (.t 32)),zc 34 20 [.t 30,.t 33],zo 7 (.alloc [.int .i64 0,.str
 [],.int .i64 0,.nils,.int .i64 0]),zs 5 7 34]) (.region [1,2,4,5,6] [zf 35 5 3,zl 36 35,zL 37 5 7,zo 38 (.bslice 24 5 1 (.agg [.int .i64 0,.str [],.int .i64 0,.nils,.int .i64 0]) [(0,(.t 37))]),zo 39 (.append 24 5 64 (.t 36) (.t 38)),zf 40 5 3,zs 1 40 39]))) (.region [1,2,4,5,6] [zm 24 6,zo 25 (.bin .add (.t 24) (zI 1)),zm 6 25]))))
def fc20:FC where
 nt:=42
 np:=2
 res:=[.cell 4 (some 5)]
 body:=(.seq (.region [1,2,4] [zo 2 (.box (.t 0)),zo 4 (.alloc [.int .i64 0,.str [],.int .i64 0,.nils,.int .i64 0])]) (.seq (.region [1,2,4,5] [zf 8 2 0,zl 9 8,zf 10 2 1,zl 11 10,zf 12 2 2,zl 13 12,zf 14 2 4,zl 15 14,zm 16 1,zo 17 (.bin .add (.t 15) (.t 16)),zo 18 (.build [.int .i64 0,.str [],.int .i64 0,.nils,.int .i64 0]
  [(0,1,(.t 9)),(1,1,(.t 11)),(2,1,(.t 13)),(4,1,(.t 17))]),zo 5 (.alloc [.int .i64 0,.str [],.int .i64 0,.nils,.int .i64 0]),zs 5 5 18]) (.seq (.tokb 5 3 24 5) (.seq (.seq (.region [1,2,4,5,6] [zi 6 0]) (.block 0 (.loop [1,2,4,5,6] fc20_b0))) (.seq (.region [4] [zL 41 5 5,zs 5 4 41]) .ret)))))
theorem ok20:FOk Tryd.prog 20 fc20:=FOk.of Tryd.func20 (by kernel_rfl)
def fc21:FC where
 nt:=5
 np:=1
 res:=[.cell 2 (some 5)]
 body:=(.seq (.region [0,2] [zo 2 (.alloc [.int .i64 0,.str [],.int .i64 0,.nils,.int .i64 0])]) (.seq (.region [2] [zm 3 0,zo 4 (.build [.int .i64 0,.str [],.int .i64 0,.nils,.int .i64 0] [(0,1,(zI 1)),(1,1,(.t 3))]),zs 5 2 4]) .ret))
theorem ok21:FOk Tryd.prog 21 fc21:=FOk.of Tryd.func21 (by kernel_rfl)
def fc22:FC where
 nt:=5
 np:=1
 res:=[.cell 2 (some 5)]
 body:=(.seq (.region [0,2] [zo 2 (.alloc [.int .i64 0,.str [],.int .i64 0,.nils,.int .i64 0])]) (.seq (.region [2] [zm 3 0,zo 4 (.build [.int .i64 0,.str [],.int .i64 0,.nils,.int .i64 0] [(0,1,(zI 47)),(1,1,(.t 3))]),zs 5 2 4]) .ret))
theorem ok22:FOk Tryd.prog 22 fc22:=FOk.of Tryd.func22 (by kernel_rfl)
def fc23:FC where
 nt:=12
 np:=3
 res:=[.cell 6 (some 5)]
 body:=(.seq (.region [0,4,5,6] [zo 4 (.box (.t 1)),zo 5 (.box (.t 2)),zo 6 (.alloc [.int .i64 0,.str [],.int .i64 0,.nils,.int .i64 0])]) (.seq (.region [6] [zm 7 0,zL 8 5 4,zL 9 5 5,zo 10 (.bslice 24 5 2 (.agg [.int .i64 0,.str [],.int .i64 0,.nils,.int .i64 0]) [(0,(.t 8)),(1,(.t 9))]),zo 11 (.build [.int .i64 0,.str [],.int .i64 0,.nils,.int .i64 0]
  [(0,1,(.t 7)),(3,1,(.t 10))]),zs 5 6 11]) .ret))
theorem ok23:FOk Tryd.prog 23 fc23:=FOk.of Tryd.func23 (by kernel_rfl)
def fc24_b0:SC:=
 (.loc (.seq (.seq (.region [1,2,5,6,17] [zm 8 6,zf 9 2 3,zl 10 9,ze 11 1 10,zo 12 (.bin .lss (.t 8) (.t 11)),zm 13 12,zg 14 (.move (.t 5)) 13 true,zg 15 (.move (.t 1)) 13 true,zg 16 (.bin .leq (.t 14) (.t 15)) 13 true,za 17 13 16]) (.cond (.t 17) .skip (.exit 0))) (.seq (.block 1 (.seq (.region [1,2,5,6,7] [zf 20 2 3,zl 21 20,zm 22 6,zo 23 (.iaddr none 5 (.t 21) (.t 22)),
 zL 24 5 23,zm 25 1,zm 26 5,zo 27 (.bin .sub (.t 25) (.t 26)),zc 28 24 [.t 24,.t 27],zm 7 28]) (.region [1,2,5,6] [zm 29 5,zm 30 7,zo 31 (.bin .add (.t 29) (.t 30)),zm 5 31]))) (.region [1,2,5,6] [zm 18 6,zo 19 (.bin .add (.t 18) (zI 1)),zm 6 19]))))
def fc24:FC where
 nt:=33
 np:=2
 res:=[.t 4]
 body:=(.seq (.region [1,2] [zo 2 (.box (.t 0)),zi 4 0]) (.seq (.region [1,2,5] [zi 5 1]) (.seq (.seq (.region [1,2,5,6] [zi 6 0]) (.block 0 (.loop [1,2,5,6] fc24_b0))) (.seq (.region [4] [zm 32 5,zm 4 32]) .ret))))
theorem ok24:FOk Tryd.prog 24 fc24:=FOk.of Tryd.func24 (by kernel_rfl)
def fc25_b0:SC:=
 (.loc (.seq (.region [1,2,15,16,17,18] [zo 18 (.bin .lss (.t 17) (.t 16))]) (.seq (.cond (.t 18) .skip (.exit 0)) (.seq (.block 1 (.seq (.region [1,2,7,8,15,16,17] [zm 19 17,zo 20 (.iaddr none 5 (.t 15) (.t 17)),zL 21 5 20,zo 8 (.alloc [.int .i64 0,.str [],.int .i64 0,.nils,.int .i64 0]),zm 7 19,zs 5 8 21]) (.seq (.region [1,2,8,9,15,16,17] [zm 22 1,zm 23 7,zo 24
 (.iaddr none 5 (.t 22) (.t 23)),zL 25 5 24,zo 9 (.alloc [.int .i64 0,.str [],.int .i64 0,.nils,.int .i64 0]),zs 5 9 25]) (.seq (.region [1,2,15,16,17,30] [zm 26 2,zL 27 5 8,zL 28 5 9,zo 29 (.call (.t 26) [.t 27,.t 28]),zo 30 (.un .not (.t 29))]) (.cond (.t 30) (.seq (.region [6] [zo 6 (.move (zB false))]) .ret) .skip))))) (.region [1,2,15,16,17] [zo 31 (.bin .add (.t 17) (zI 1)),zm 17 31])))))
def fc25:FC where
 nt:=32
 np:=3
 res:=[.t 6]
 body:=(.seq (.region [0,1,2] [zo 6 (.move (zB false))]) (.seq (.seq (.region [0,1,2,14] [zm 10 0,ze 11 1 10,zm 12 1,ze 13 1 12,zo 14 (.bin .neq (.t 11) (.t 13))]) (.cond (.t 14) (.seq (.region [6] [zo 6 (.move (zB false))]) .ret) .skip)) (.seq (.seq (.region [1,2,15,16,17] [zm 15 0,ze 16 1 15,zi 17 0]) (.block 0 (.loop [1,2,15,16,17] fc25_b0))) (.seq (.region [6] [zo 6
  (.move (zB true))]) .ret))))
theorem ok25:FOk Tryd.prog 25 fc25:=FOk.of Tryd.func25 (by kernel_rfl)
def fc26:FC where
 nt:=24
 np:=2
 res:=[.t 4]
 body:=(.seq (.region [2,3] [zo 2 (.box (.t 0)),zo 3 (.box (.t 1)),zo 4 (.move (zB false))]) (.seq (.region [4] [zf 5 2 0,zl 6 5,zf 7 3 0,zl 8 7,zo 9 (.bin .eql (.t 6) (.t 8)),zm 10 9,zg 11 (.faddr (.t 2) 2) 10 true,zg 12 (.load none (.t 11)) 10 true,zg 13 (.faddr (.t 3) 2) 10 true,zg 14 (.load none (.t 13)) 10 true,zg 15 (.eqk 0 false (.t 12) (.t 14)) 10 true,za 16 10 15,
  zm 17 16,zg 18 (.faddr (.t 2) 1) 17 true,zg 19 (.load none (.t 18)) 17 true,zg 20 (.faddr (.t 3) 1) 17 true,zg 21 (.load none (.t 20)) 17 true,zg 22 (.call (.c (.fn 27 [] [])) [.t 19,.t 21]) 17 true,za 23 17 22,zm 4 23]) .ret))
theorem ok26:FOk Tryd.prog 26 fc26:=FOk.of Tryd.func26 (by kernel_rfl)
def fc27_b0:SC:=
 (.seq (.region [0,1,12,13,14] [zo 14 (.bin .lss (.t 13) (.t 12))]) (.seq (.cond (.t 14) .skip (.exit 0)) (.seq (.block 1 (.seq (.region [0,1,5,12,13] [zm 15 13,zm 5 15]) (.seq (.draw [0,1,12,13,24] [(3,7)] [zm 16 0,zm 17 5,zo 18 (.iaddr none 1 (.t 16) (.t 17)),zl 19 18,zm 20 1,zm 21 5,zo 22 (.iaddr none 1 (.t 20) (.t 21)),zl 23 22,zo 24 (.bin .neq (.t 19) (.t 23))]) (.cond
 (.t 24) (.seq (.region [4] [zo 4 (.move (zB false))]) .ret) .skip)))) (.region [0,1,12,13] [zo 25 (.bin .add (.t 13) (zI 1)),zm 13 25]))))
def fc27:FC where
 nt:=26
 np:=2
 res:=[.t 4]
 body:=(.seq (.region [0,1] [zo 4 (.move (zB false))]) (.seq (.seq (.region [0,1,10] [zm 6 0,ze 7 1 6,zm 8 1,ze 9 1 8,zo 10 (.bin .neq (.t 7) (.t 9))]) (.cond (.t 10) (.seq (.region [4] [zo 4 (.move (zB false))]) .ret) .skip)) (.seq (.seq (.region [0,1,12,13] [zm 11 0,ze 12 1 11,zi 13 0]) (.block 0 (.loop [0,1,12,13] fc27_b0))) (.seq (.region [4] [zo 4 (.move (zB true))]) .ret))))
theorem ok27:FOk Tryd.prog 27 fc27:=FOk.of Tryd.func27 (by kernel_rfl)
def fc28:FC where
 nt:=24
 np:=2
 res:=[.t 4]
 body:=(.seq (.region [2,3] [zo 2 (.box (.t 0)),zo 3 (.box (.t 1)),zo 4 (.move (zB false))]) (.seq (.region [4] [zf 5 2 0,zl 6 5,zf 7 3 0,zl 8 7,zo 9 (.bin .eql (.t 6) (.t 8)),zm 10 9,zg 11 (.faddr (.t 2) 1) 10 true,zg 12 (.load none (.t 11)) 10 true,zg 13 (.faddr (.t 3) 1) 10 true,zg 14 (.load none (.t 13)) 10 true,zg 15 (.call (.c (.fn 29 [] [])) [.t 12,.t 14]) 10 true,
  za 16 10 15,zm 17 16,zg 18 (.faddr (.t 2) 2) 17 true,zg 19 (.load (some 5) (.t 18)) 17 true,zg 20 (.faddr (.t 3) 2) 17 true,zg 21 (.load (some 5) (.t 20)) 17 true,zg 22 (.call (.c (.fn 9 [] [])) [.t 19,.t 21]) 17 true,za 23 17 22,zm 4 23]) .ret))
theorem ok28:FOk Tryd.prog 28 fc28:=FOk.of Tryd.func28 (by kernel_rfl)
def fc29_b0:SC:=
 (.seq (.region [0,1,12,13,14] [zo 14 (.bin .lss (.t 13) (.t 12))]) (.seq (.cond (.t 14) .skip (.exit 0)) (.seq (.block 1 (.seq (.region [0,1,5,12,13] [zm 15 13,zm 5 15]) (.seq (.draw [0,1,12,13,24] [(3,7)] [zm 16 0,zm 17 5,zo 18 (.iaddr none 2 (.t 16) (.t 17)),zL 19 2 18,zm 20 1,zm 21 5,zo 22 (.iaddr none 2 (.t 20) (.t 21)),zL 23 2 22,zo 24 (.eqs true [2,1] (.t 19) (.t 23))])
 (.cond (.t 24) (.seq (.region [4] [zo 4 (.move (zB false))]) .ret) .skip)))) (.region [0,1,12,13] [zo 25 (.bin .add (.t 13) (zI 1)),zm 13 25]))))
def fc29:FC where
 nt:=26
 np:=2
 res:=[.t 4]
 body:=(.seq (.region [0,1] [zo 4 (.move (zB false))]) (.seq (.seq (.region [0,1,10] [zm 6 0,ze 7 1 6,zm 8 1,ze 9 1 8,zo 10 (.bin .neq (.t 7) (.t 9))]) (.cond (.t 10) (.seq (.region [4] [zo 4 (.move (zB false))]) .ret) .skip)) (.seq (.seq (.region [0,1,12,13] [zm 11 0,ze 12 1 11,zi 13 0]) (.block 0 (.loop [0,1,12,13] fc29_b0))) (.seq (.region [4] [zo 4 (.move (zB true))]) .ret))))
theorem ok29:FOk Tryd.prog 29 fc29:=FOk.of Tryd.func29 (by kernel_rfl)
def fc30:FC where
 nt:=17
 np:=2
 res:=[.t 4]
 body:=(.seq (.region [2,3] [zo 2 (.box (.t 0)),zo 3 (.box (.t 1)),zo 4 (.move (zB false))]) (.seq (.region [4] [zf 5 2 0,zl 6 5,zf 7 3 0,zl 8 7,zo 9 (.bin .eql (.t 6) (.t 8)),zm 10 9,zg 11 (.faddr (.t 2) 1) 10 true,zg 12 (.load (some 5) (.t 11)) 10 true,zg 13 (.faddr (.t 3) 1) 10 true,zg 14 (.load (some 5) (.t 13)) 10 true,zg 15 (.call (.c (.fn 9 [] []))
  [.t 12,.t 14]) 10 true,za 16 10 15,zm 4 16]) .ret))
theorem ok30:FOk Tryd.prog 30 fc30:=FOk.of Tryd.func30 (by kernel_rfl)
def fc31_b0:SC:=
 (.seq (.region [0,1,12,13,14] [zo 14 (.bin .lss (.t 13) (.t 12))]) (.seq (.cond (.t 14) .skip (.exit 0)) (.seq (.block 1 (.seq (.region [0,1,5,12,13] [zm 15 13,zm 5 15]) (.seq (.draw [0,1,12,13,24] [(3,7)] [zm 16 0,zm 17 5,zo 18 (.iaddr none 2 (.t 16) (.t 17)),zL 19 2 18,zm 20 1,zm 21 5,zo 22 (.iaddr none 2 (.t 20) (.t 21)),zL 23 2 22,zo 24 (.eqs true [2,0] (.t 19) (.t 23))])
 (.cond (.t 24) (.seq (.region [4] [zo 4 (.move (zB false))]) .ret) .skip)))) (.region [0,1,12,13] [zo 25 (.bin .add (.t 13) (zI 1)),zm 13 25]))))
def fc31:FC where
 nt:=26
 np:=2
 res:=[.t 4]
 body:=(.seq (.region [0,1] [zo 4 (.move (zB false))]) (.seq (.seq (.region [0,1,10] [zm 6 0,ze 7 1 6,zm 8 1,ze 9 1 8,zo 10 (.bin .neq (.t 7) (.t 9))]) (.cond (.t 10) (.seq (.region [4] [zo 4 (.move (zB false))]) .ret) .skip)) (.seq (.seq (.region [0,1,12,13] [zm 11 0,ze 12 1 11,zi 13 0]) (.block 0 (.loop [0,1,12,13] fc31_b0))) (.seq (.region [4] [zo 4 (.move (zB true))]) .ret))))
theorem ok31:FOk Tryd.prog 31 fc31:=FOk.of Tryd.func31 (by kernel_rfl)
def fc32_b0:SC:=
 (.loc (.seq (.region [1,2,15,16,17,18] [zo 18 (.bin .lss (.t 17) (.t 16))]) (.seq (.cond (.t 18) .skip (.exit 0)) (.seq (.block 1 (.seq (.region [1,2,7,8,15,16,17] [zm 19 17,zo 20 (.iaddr none 3 (.t 15) (.t 17)),zL 21 3 20,zo 8 (.alloc [.str [],.nils,.bool false]),zm 7 19,zs 3 8 21]) (.seq (.region [1,2,8,9,15,16,17] [zm 22 1,zm 23 7,zo 24 (.iaddr none 3 (.t 22) (.t 23)),
 zL 25 3 24,zo 9 (.alloc [.str [],.nils,.bool false]),zs 3 9 25]) (.seq (.region [1,2,15,16,17,30] [zm 26 2,zL 27 3 8,zL 28 3 9,zo 29 (.call (.t 26) [.t 27,.t 28]),zo 30 (.un .not (.t 29))]) (.cond (.t 30) (.seq (.region [6] [zo 6 (.move (zB false))]) .ret) .skip))))) (.region [1,2,15,16,17] [zo 31 (.bin .add (.t 17) (zI 1)),zm 17 31])))))
def fc32:FC where
 nt:=32
 np:=3
 res:=[.t 6]
 body:=(.seq (.region [0,1,2] [zo 6 (.move (zB false))]) (.seq (.seq (.region [0,1,2,14] [zm 10 0,ze 11 1 10,zm 12 1,ze 13 1 12,zo 14 (.bin .neq (.t 11) (.t 13))]) (.cond (.t 14) (.seq (.region [6] [zo 6 (.move (zB false))]) .ret) .skip)) (.seq (.seq (.region [1,2,15,16,17] [zm 15 0,ze 16 1 15,zi 17 0]) (.block 0 (.loop [1,2,15,16,17] fc32_b0))) (.seq (.region [6] [zo 6
  (.move (zB true))]) .ret))))
theorem ok32:FOk Tryd.prog 32 fc32:=FOk.of Tryd.func32 (by kernel_rfl)
def fc33_b0:SC:=
 (.loc (.seq (.region [1,2,15,16,17,18] [zo 18 (.bin .lss (.t 17) (.t 16))]) (.seq (.cond (.t 18) .skip (.exit 0)) (.seq (.block 1 (.seq (.region [1,2,7,8,15,16,17] [zm 19 17,zo 20 (.iaddr none 7 (.t 15) (.t 17)),zL 21 7 20,zo 8 (.alloc [.str [],.nils,.int .i64 0,.str [],.int .i64 0,.nils,.int .i64 0]),zm 7 19,zs 7 8 21]) (.seq (.region [1,2,8,9,15,16,17] [zm 22 1,zm 23 7,
 zo 24 (.iaddr none 7 (.t 22) (.t 23)),zL 25 7 24,zo 9 (.alloc [.str [],.nils,.int .i64 0,.str [],.int .i64 0,.nils,.int .i64 0]),zs 7 9 25]) (.seq (.region [1,2,15,16,17,30] [zm 26 2,zL 27 7 8,zL 28 7 9,zo 29 (.call (.t 26) [.t 27,.t 28]),zo 30 (.un .not (.t 29))]) (.cond (.t 30) (.seq (.region [6] [zo 6 (.move (zB false))]) .ret) .skip))))) (.region [1,2,15,16,17] [zo 31
 (.bin .add (.t 17) (zI 1)),zm 17 31])))))
def fc33:FC where
 nt:=32
 np:=3
 res:=[.t 6]
 body:=(.seq (.region [0,1,2] [zo 6 (.move (zB false))]) (.seq (.seq (.region [0,1,2,14] [zm 10 0,ze 11 1 10,zm 12 1,ze 13 1 12,zo 14 (.bin .neq (.t 11) (.t 13))]) (.cond (.t 14) (.seq (.region [6] [zo 6 (.move (zB false))]) .ret) .skip)) (.seq (.seq (.region [1,2,15,16,17] [zm 15 0,ze 16 1 15,zi 17 0]) (.block 0 (.loop [1,2,15,16,17] fc33_b0))) (.seq (.region [6] [zo 6
  (.move (zB true))]) .ret))))
theorem ok33:FOk Tryd.prog 33 fc33:=FOk.of Tryd.func33 (by kernel_rfl)
def fc34_b0:SC:=
 (.loc (.seq (.region [1,2,15,16,17,18] [zo 18 (.bin .lss (.t 17) (.t 16))]) (.seq (.cond (.t 18) .skip (.exit 0)) (.seq (.block 1 (.seq (.region [1,2,7,8,15,16,17] [zm 19 17,zo 20 (.iaddr none 6 (.t 15) (.t 17)),zL 21 6 20,zo 8 (.alloc [.str [],.int .i64 0,.str [],.int .i64 0,.nils,.int .i64 0]),zm 7 19,zs 6 8 21]) (.seq (.region [1,2,8,9,15,16,17] [zm 22 1,zm 23 7,zo 24
 (.iaddr none 6 (.t 22) (.t 23)),zL 25 6 24,zo 9 (.alloc [.str [],.int .i64 0,.str [],.int .i64 0,.nils,.int .i64 0]),zs 6 9 25]) (.seq (.region [1,2,15,16,17,30] [zm 26 2,zL 27 6 8,zL 28 6 9,zo 29 (.call (.t 26) [.t 27,.t 28]),zo 30 (.un .not (.t 29))]) (.cond (.t 30) (.seq (.region [6] [zo 6 (.move (zB false))]) .ret) .skip))))) (.region [1,2,15,16,17] [zo 31 (.bin .add
 (.t 17) (zI 1)),zm 17 31])))))
def fc34:FC where
 nt:=32
 np:=3
 res:=[.t 6]
 body:=(.seq (.region [0,1,2] [zo 6 (.move (zB false))]) (.seq (.seq (.region [0,1,2,14] [zm 10 0,ze 11 1 10,zm 12 1,ze 13 1 12,zo 14 (.bin .neq (.t 11) (.t 13))]) (.cond (.t 14) (.seq (.region [6] [zo 6 (.move (zB false))]) .ret) .skip)) (.seq (.seq (.region [1,2,15,16,17] [zm 15 0,ze 16 1 15,zi 17 0]) (.block 0 (.loop [1,2,15,16,17] fc34_b0))) (.seq (.region [6] [zo 6
  (.move (zB true))]) .ret))))
theorem ok34:FOk Tryd.prog 34 fc34:=FOk.of Tryd.func34 (by kernel_rfl)
def fc35_b0:SC:=
 (.seq (.seq (.region [0,1,5,14] [zm 11 5,zm 12 0,ze 13 1 12,zo 14 (.bin .lss (.t 11) (.t 13))]) (.cond (.t 14) .skip (.exit 0))) (.seq (.block 1 (.seq (.draw [0,1,5,25] [(3,7)] [zm 17 0,zm 18 5,zo 19 (.iaddr none 1 (.t 17) (.t 18)),zl 20 19,zm 21 1,zm 22 5,zo 23 (.iaddr none 1 (.t 21) (.t 22)),zl 24 23,zo 25 (.bin .neq (.t 20) (.t 24))]) (.cond (.t 25) (.seq (.region [4]
 [zo 4 (.move (zB false))]) .ret) .skip))) (.region [0,1,5] [zm 15 5,zo 16 (.bin .add (.t 15) (zI 1)),zm 5 16])))
def fc35:FC where
 nt:=26
 np:=2
 res:=[.t 4]
 body:=(.seq (.region [0,1] [zo 4 (.move (zB false))]) (.seq (.seq (.region [0,1,10] [zm 6 0,ze 7 1 6,zm 8 1,ze 9 1 8,zo 10 (.bin .neq (.t 7) (.t 9))]) (.cond (.t 10) (.seq (.region [4] [zo 4 (.move (zB false))]) .ret) .skip)) (.seq (.seq (.region [0,1,5] [zi 5 0]) (.block 0 (.loop [0,1,5] fc35_b0))) (.seq (.region [4] [zo 4 (.move (zB true))]) .ret))))
theorem ok35:FOk Tryd.prog 35 fc35:=FOk.of Tryd.func35 (by kernel_rfl)
def fc36_b0:SC:=
 (.seq (.seq (.region [0,1,5,14] [zm 11 5,zm 12 0,ze 13 1 12,zo 14 (.bin .lss (.t 11) (.t 13))]) (.cond (.t 14) .skip (.exit 0))) (.seq (.block 1 (.seq (.draw [0,1,5,25] [(3,7)] [zm 17 0,zm 18 5,zo 19 (.iaddr none 2 (.t 17) (.t 18)),zL 20 2 19,zm 21 1,zm 22 5,zo 23 (.iaddr none 2 (.t 21) (.t 22)),zL 24 2 23,zo 25 (.eqs true [2,1] (.t 20) (.t 24))]) (.cond (.t 25) (.seq
 (.region [4] [zo 4 (.move (zB false))]) .ret) .skip))) (.region [0,1,5] [zm 15 5,zo 16 (.bin .add (.t 15) (zI 1)),zm 5 16])))
def fc36:FC where
 nt:=26
 np:=2
 res:=[.t 4]
 body:=(.seq (.region [0,1] [zo 4 (.move (zB false))]) (.seq (.seq (.region [0,1,10] [zm 6 0,ze 7 1 6,zm 8 1,ze 9 1 8,zo 10 (.bin .neq (.t 7) (.t 9))]) (.cond (.t 10) (.seq (.region [4] [zo 4 (.move (zB false))]) .ret) .skip)) (.seq (.seq (.region [0,1,5] [zi 5 0]) (.block 0 (.loop [0,1,5] fc36_b0))) (.seq (.region [4] [zo 4 (.move (zB true))]) .ret))))
theorem ok36:FOk Tryd.prog 36 fc36:=FOk.of Tryd.func36 (by kernel_rfl)
def fc37_b0:SC:=
 (.loc (.seq (.seq (.region [1,2,5,6,16] [zm 7 6,zf 8 2 3,zl 9 8,ze 10 1 9,zo 11 (.bin .lss (.t 7) (.t 10)),zm 12 11,zg 13 (.move (.t 5)) 12 true,zg 14 (.move (.t 1)) 12 true,zg 15 (.bin .leq (.t 13) (.t 14)) 12 true,za 16 12 15]) (.cond (.t 16) .skip (.exit 0))) (.seq (.block 1 (.region [1,2,5,6] [zm 19 5,zf 20 2 3,zl 21 20,zm 22 6,zo 23 (.iaddr none 5 (.t 21) (.t 22)),
 zL 24 5 23,zm 25 1,zm 26 5,zo 27 (.bin .sub (.t 25) (.t 26)),zc 28 37 [.t 24,.t 27],zo 29 (.bin .add (.t 19) (.t 28)),zm 5 29])) (.region [1,2,5,6] [zm 17 6,zo 18 (.bin .add (.t 17) (zI 1)),zm 6 18]))))
def fc37:FC where
 nt:=31
 np:=2
 res:=[.t 4]
 body:=(.seq (.region [1,2] [zo 2 (.box (.t 0)),zi 4 0]) (.seq (.region [1,2,5] [zi 5 1]) (.seq (.seq (.region [1,2,5,6] [zi 6 0]) (.block 0 (.loop [1,2,5,6] fc37_b0))) (.seq (.region [4] [zm 30 5,zm 4 30]) .ret))))
theorem ok37:FOk Tryd.prog 37 fc37:=FOk.of Tryd.func37 (by kernel_rfl)
def fc38_b0:SC:=
 (.loc (.seq (.seq (.region [1,2,5,25] [zm 21 5,zf 22 2 3,zl 23 22,ze 24 1 23,zo 25 (.bin .lss (.t 21) (.t 24))]) (.cond (.t 25) .skip (.exit 0))) (.seq (.block 1 (.seq (.region [1,2,5,36] [zf 28 2 3,zl 29 28,zm 30 5,zo 31 (.iaddr none 5 (.t 29) (.t 30)),zL 32 5 31,zm 33 1,zo 34 (.bin .sub (.t 33) (zI 1)),zc 35 38 [.t 32,.t 34],zo 36 (.un .not (.t 35))]) (.cond (.t 36) (.seq
 (.region [4] [zo 4 (.move (zB false))]) .ret) .skip))) (.region [1,2,5] [zm 26 5,zo 27 (.bin .add (.t 26) (zI 1)),zm 5 27]))))
def fc38:FC where
 nt:=37
 np:=2
 res:=[.t 4]
 body:=(.seq (.region [1,2] [zo 2 (.box (.t 0)),zo 4 (.move (zB false))]) (.seq (.seq (.region [1,2,20] [zm 6 1,zo 7 (.bin .lss (.t 6) (zI 1)),zm 8 7,zg 9 (.load (some 5) (.t 2)) 8 false,zg 10 (.call (.c (.fn 57 [] [])) [.t 9]) 8 false,zg 11 (.un .not (.t 10)) 8 false,zb 12 8 11,zm 13 12,zg 14 (.faddr (.t 2) 0) 13 false,zg 15 (.load none (.t 14)) 13 false,zg 16 (.faddr
  (.t 2) 3) 13 false,zg 17 (.load none (.t 16)) 13 false,zg 18 (.call (.c (.fn 58 [] [])) [.t 15,.t 17]) 13 false,zg 19 (.un .not (.t 18)) 13 false,zb 20 13 19]) (.cond (.t 20) (.seq (.region [4] [zo 4 (.move (zB false))]) .ret) .skip)) (.seq (.seq (.region [1,2,5] [zi 5 0]) (.block 0 (.loop [1,2,5] fc38_b0))) (.seq (.region [4] [zo 4 (.move (zB true))]) .ret))))
theorem ok38:FOk Tryd.prog 38 fc38:=FOk.of Tryd.func38 (by kernel_rfl)
def fc39:FC where
 nt:=5
 np:=0
 res:=[.t 0]
 body:=(.seq (.region [] [zo 0 (.move (.c (.p (.nilp))))]) (.seq (.region [0] [zc 1 59 [],zc 2 60 [],zo 3 (.build [.nilp,.nils,.nilm,.nilm] [(2,1,(.t 1)),(3,1,(.t 2))]),zo 4 (.boxB 78 (.t 3)),zm 0 4]) .ret))
theorem ok39:FOk Tryd.prog 39 fc39:=FOk.of Tryd.func39 (by kernel_rfl)
def fc40:FC where
 nt:=173
 np:=3
 res:=[]
 body:=(.seq (.region [0,2,4] [zo 4 (.box (.t 1))]) (.seq (.seq (.draw [0,2,4,6,7] [(3,5),(3,10),(5,10),(6,10)] [zm 11 0,zn 12 11,zf 13 12 2,zl 14 13,zf 15 4 0,zl 16 15,zo 17 (.mapget 13 (.agg [.str [],.int .i64 0,.int .i64 0,.int .i64 0]) true (.t 14) (.t 16)),zm 10 17,zx 18 10 0,zx 19 10 1,zo 6 (.alloc [.str [],.int .i64 0,.int .i64 0,.int .i64 0]),zs 4 6 18,zm 7 19])
  (.seq (.region [0,2,4,6,20] [zm 20 7]) (.cond (.t 20) (.seq (.draw [0,2,4,6] [(1,5),(2,5)] [zm 21 0,zL 22 5 4,zc 23 62 [.t 22,zI 0],zf 24 6 2,zo 25 (.iaddr (some 2) 1 (.t 24) (zI 0)),zl 26 25,zc 27 61 [.t 21,.t 23,.t 26,zB false]]) (.seq (.draw [0,2,4,6] [] [zm 28 0,zn 29 28,zf 30 29 0,zf 31 6 0,zl 32 31,zc 33 49 [.t 30,.t 32]]) (.seq (.draw [] [(1,5),(2,5)] [zm 34 0,
  zL 35 5 4,zc 36 62 [.t 35,zI 1],zf 37 6 2,zo 38 (.iaddr (some 2) 1 (.t 37) (zI 1)),zl 39 38,zm 40 2,zc 41 61 [.t 34,.t 36,.t 39,.t 40]]) .ret))) .skip))) (.seq (.seq (.draw [0,2,4,8,9] [(3,5),(3,10),(5,10),(6,10)] [zm 43 0,zn 44 43,zf 45 44 3,zl 46 45,zf 47 4 0,zl 48 47,zo 49 (.mapget 13 (.agg [.str [],.int .i64 0,.int .i64 0,.int .i64 0]) true (.t 46) (.t 48)),zm 42 49,
  zx 50 42 0,zx 51 42 1,zo 8 (.alloc [.str [],.int .i64 0,.int .i64 0,.int .i64 0]),zs 4 8 50,zm 9 51]) (.seq (.region [0,2,4,8,52] [zm 52 9]) (.cond (.t 52) (.seq (.draw [0,2,4,8] [] [zm 53 0,zn 54 53,zf 55 54 0,zf 56 8 0,zl 57 56,zc 58 49 [.t 55,.t 57]]) (.seq (.draw [] [(1,5),(2,5)] [zm 59 0,zL 60 5 4,zc 61 62 [.t 60,zI 0],zf 62 8 2,zo 63 (.iaddr (some 2) 1 (.t 62) (zI 0)),
  zl 64 63,zm 65 2,zc 66 61 [.t 59,.t 61,.t 64,.t 65]]) .ret)) .skip))) (.seq (.region [0,4,68] [zf 67 4 0,zl 68 67]) (.block 0 (.seq (.region [0,4,68,78] [zo 79 (.bin .eql (.t 68) (zI 1)),zm 78 79]) (.cond (.t 78) (.draw [] [] [zm 80 0,zn 81 80,zf 82 81 0,zf 83 4 1,zl 84 83,zc 85 49 [.t 82,.t 84]]) (.seq (.region [0,4,68,86] [zo 87 (.bin .eql (.t 68) (zI 2)),zm 86 87]) (.cond
  (.t 86) (.seq (.region [0,4] [zm 88 0,zn 89 88,zf 90 89 0,zc 91 49 [.t 90,zS [110,111,110,101]]]) (.seq (.region [0,4,94] [zf 92 4 2,zl 93 92,zo 94 (.bin .neq (.t 93) (zI 1))]) (.cond (.t 94) (.draw [] [] [zm 95 0,zn 96 95,zf 97 96 0,zf 98 4 2,zl 99 98,zc 100 63 [.t 99],zo 101 (.bin .add (zS [91]) (.t 100)),zo 102 (.bin .add (.t 101) (zS [93])),zc 103 49
  [.t 97,.t 102]]) .skip))) (.seq (.region [0,4,68,104] [zo 105 (.bin .eql (.t 68) (zI 20)),zm 104 105]) (.cond (.t 104) (.draw [] [] [zm 106 0,zn 107 106,zf 108 107 0,zf 109 4 2,zl 110 109,zc 111 63 [.t 110],zc 112 49 [.t 108,.t 111]]) (.seq (.region [0,4,68,113] [zo 114 (.bin .eql (.t 68) (zI 5)),zm 113 114]) (.cond (.t 113) (.seq (.region [0] [zm 115 0,zL 116 5 4,zc 117 62
  [.t 116,zI 0],zc 118 61 [.t 115,.t 117,zI 14,zB false]]) (.region [] [zm 119 0,zn 120 119,zf 121 120 0,zc 122 64 [.t 121,(.c (.p (.int .u8 39)))]])) (.seq (.region [0,4,68,123] [zo 124 (.bin .eql (.t 68) (zI 45)),zm 123 124]) (.cond (.t 123) (.seq (.region [0,4] [zm 125 0,zn 126 125,zf 127 126 0,zc 128 49 [.t 127,zS [97,108,108,32]]]) (.region [] [zm 129 0,zL 130 5 4,
  zc 131 65 [.t 129,.t 130]])) (.seq (.region [0,4,68,132] [zo 133 (.bin .eql (.t 68) (zI 46)),zm 132 133]) (.cond (.t 132) (.seq (.region [0,4] [zm 134 0,zn 135 134,zf 136 135 0,zc 137 49 [.t 136,zS [115,111,109,101,32]]]) (.region [] [zm 138 0,zL 139 5 4,zc 140 65 [.t 138,.t 139]])) (.seq (.region [0,4,68,141] [zo 142 (.bin .eql (.t 68) (zI 15)),zm 141 142]) (.cond (.t 141)
  (.seq (.region [0,4] [zm 143 0,zn 144 143,zf 145 144 0,zc 146 64 [.t 145,(.c (.p (.int .u8 123)))]]) (.seq (.region [0] [zm 147 0,zL 148 5 4,zc 149 65 [.t 147,.t 148]]) (.region [] [zm 150 0,zn 151 150,zf 152 151 0,zc 153 64 [.t 152,(.c (.p (.int .u8 125)))]]))) (.seq (.region [0,4,154] [zo 155 (.bin .eql (.t 68) (zI 47)),zm 154 155]) (.cond (.t 154) (.seq (.draw [0,4] []
  [zm 156 0,zn 157 156,zf 158 157 0,zf 159 4 1,zl 160 159,zo 161 (.bin .add (.t 160) (zS [91])),zc 162 49 [.t 158,.t 161]]) (.seq (.region [0] [zm 163 0,zf 164 4 3,zl 165 164,zm 166 0,zo 167 (.mkfn 67 [.t 166] []),zc 168 66 [.t 163,.t 165,zS [44,32],.t 167]]) (.region [] [zm 169 0,zn 170 169,zf 171 170 0,zc 172 64 [.t 171,(.c (.p (.int .u8 93)))]]))) (.draw []
  [(4,5),(4,6),(5,6),(4,7),(5,7),(6,7),(3,10),(4,10),(5,10),(6,10),(7,10)] [zm 69 0,zn 70 69,zf 71 70 0,zo 72 (.mkmap 13),zv (.mapins 13 (.t 72) (zI 3) (zS [117,110,105,118])),zv (.mapins 13 (.t 72) (zI 4) (zS [105,100,101,110])),zv (.mapins 13 (.t 72) (zI 30) (zS [116,114,117,101])),zv (.mapins 13 (.t 72) (zI 31) (zS [102,97,108,115,101])),zm 73 72,zf 74 4 0,zl 75 74,zo 76
  (.mapget 13 (.str []) false (.t 73) (.t 75)),zc 77 49 [.t 71,.t 76]]))))))))))))))))))))))
theorem ok40:FOk Tryd.prog 40 fc40:=FOk.of Tryd.func40 (by kernel_rfl)
def fc41:FC where
 nt:=14
 np:=1
 res:=[.t 2]
 body:=(.seq (.region [0] [zo 2 (.move (zS []))]) (.seq (.draw [2] [(3,8),(4,8)] [zm 3 0,zn 4 3,zf 5 4 1,zl 6 5,zo 7 (.sdata (.t 6)),zm 8 0,zn 9 8,zf 10 9 1,zl 11 10,ze 12 1 11,zo 13 (.ustr 5 (.t 7) (.t 12)),zm 2 13]) .ret))
theorem ok41:FOk Tryd.prog 41 fc41:=FOk.of Tryd.func41 (by kernel_rfl)
def fc42_b0:SC:=
 (.loc (.seq (.seq (.region [2,6,7,89] [zm 85 7,zf 86 2 3,zl 87 86,ze 88 1 87,zo 89 (.bin .lss (.t 85) (.t 88))]) (.cond (.t 89) .skip (.exit 1))) (.seq (.block 2 (.seq (.seq (.region [2,6,7,93] [zm 92 7,zo 93 (.bin .gtr (.t 92) (zI 0))]) (.cond (.t 93) (.region [2,6,7] [zm 94 6,zo 95 (.bin .add (.t 94) (zS [44,32])),zm 6 95]) .skip)) (.region [2,6,7] [zm 96 6,zf 97 2 3,
 zl 98 97,zm 99 7,zo 100 (.iaddr none 5 (.t 98) (.t 99)),zL 101 5 100,zc 102 72 [.t 101,zI 8,zB true],zo 103 (.bin .add (.t 96) (.t 102)),zm 6 103]))) (.region [2,6,7] [zm 90 7,zo 91 (.bin .add (.t 90) (zI 1)),zm 7 91]))))
def fc42:FC where
 nt:=109
 np:=2
 res:=[.t 4]
 body:=(.seq (.region [1,2] [zo 2 (.box (.t 0)),zo 4 (.move (zS []))]) (.seq (.seq (.region [1,2,11] [zf 8 2 0,zl 9 8,zc 10 68 [.t 9],zo 11 (.bin .neq (.t 10) (zS []))]) (.cond (.t 11) (.seq (.region [4] [zL 12 5 2,zm 13 1,zc 14 69 [.t 12,.t 13],zm 4 14]) .ret) .skip)) (.seq (.seq (.region [1,2,18] [zf 15 2 0,zl 16 15,zc 17 70 [.t 16],zo 18 (.bin .neq (.t 17) (zS []))])
  (.cond (.t 18) (.seq (.region [1,2,5] [zf 19 2 0,zl 20 19,zc 21 71 [.t 20],zm 5 21]) (.seq (.seq (.region [1,2,5,23] [zm 22 5,zo 23 (.bin .eql (.t 22) (zI 7))]) (.cond (.t 23) (.region [1,2,5] [zi 5 8]) .skip)) (.seq (.draw [4] [(1,4),(2,4),(1,6),(2,6)] [zf 24 2 0,zl 25 24,zc 26 70 [.t 25],zf 27 2 3,zl 28 27,zo 29 (.iaddr none 5 (.t 28) (zI 0)),zL 30 5 29,zm 31 5,zm 32 1,
  zc 33 72 [.t 30,.t 31,.t 32],zo 34 (.bin .add (.t 26) (.t 33)),zm 4 34]) .ret))) .skip)) (.seq (.seq (.region [2,36] [zf 35 2 0,zl 36 35]) (.block 0 (.seq (.region [2,36,37] [zo 38 (.bin .eql (.t 36) (zI 1)),zm 37 38]) (.cond (.t 37) (.seq (.region [4] [zf 39 2 1,zl 40 39,zm 4 40]) .ret) (.seq (.region [2,36,41] [zo 42 (.bin .eql (.t 36) (zI 2)),zm 41 42]) (.cond (.t 41)
  (.seq (.seq (.region [2,45] [zf 43 2 2,zl 44 43,zo 45 (.bin .eql (.t 44) (zI 1))]) (.cond (.t 45) (.seq (.region [4] [zo 4 (.move (zS [110,111,110,101]))]) .ret) .skip)) (.seq (.region [4] [zf 46 2 2,zl 47 46,zc 48 73 [.t 47],zo 49 (.bin .add (zS [110,111,110,101,91]) (.t 48)),zo 50 (.bin .add (.t 49) (zS [93])),zm 4 50]) .ret)) (.seq (.region [2,36,51] [zo 52 (.bin .eql
  (.t 36) (zI 20)),zm 51 52]) (.cond (.t 51) (.seq (.region [4] [zf 53 2 2,zl 54 53,zc 55 73 [.t 54],zm 4 55]) .ret) (.seq (.region [2,36,56] [zo 57 (.bin .eql (.t 36) (zI 5)),zm 56 57]) (.cond (.t 56) (.seq (.region [4] [zf 58 2 3,zl 59 58,zo 60 (.iaddr none 5 (.t 59) (zI 0)),zL 61 5 60,zc 62 72 [.t 61,zI 14,zB false],zo 63 (.bin .add (.t 62) (zS [39])),zm 4 63]) .ret) (.seq
  (.region [2,36,64] [zo 65 (.bin .eql (.t 36) (zI 45)),zm 64 65]) (.cond (.t 64) (.seq (.region [4] [zL 66 5 2,zc 67 74 [.t 66],zo 68 (.bin .add (zS [97,108,108,32]) (.t 67)),zm 4 68]) .ret) (.seq (.region [2,36,69] [zo 70 (.bin .eql (.t 36) (zI 46)),zm 69 70]) (.cond (.t 69) (.seq (.region [4] [zL 71 5 2,zc 72 74 [.t 71],zo 73 (.bin .add (zS [115,111,109,101,32]) (.t 72)),
  zm 4 73]) .ret) (.seq (.region [2,36,74] [zo 75 (.bin .eql (.t 36) (zI 15)),zm 74 75]) (.cond (.t 74) (.seq (.region [4] [zL 76 5 2,zc 77 74 [.t 76],zo 78 (.bin .add (zS [123]) (.t 77)),zo 79 (.bin .add (.t 78) (zS [125])),zm 4 79]) .ret) (.seq (.region [2,80] [zo 81 (.bin .eql (.t 36) (zI 47)),zm 80 81]) (.cond (.t 80) (.seq (.region [2,6] [zf 82 2 1,zl 83 82,zo 84
  (.bin .add (.t 83) (zS [91])),zm 6 84]) (.seq (.seq (.region [2,6,7] [zi 7 0]) (.block 1 (.loop [2,6,7] fc42_b0))) (.seq (.region [4] [zm 104 6,zo 105 (.bin .add (.t 104) (zS [93])),zm 4 105]) .ret))) .skip)))))))))))))))))) (.seq (.region [4] [zf 106 2 0,zl 107 106,zc 108 75 [.t 107],zm 4 108]) .ret)))))
theorem ok42:FOk Tryd.prog 42 fc42:=FOk.of Tryd.func42 (by kernel_rfl)
def fc43_b0:SC:=
 (.seq (.seq (.region [1,3,5,24] [zm 22 5,zm 23 3,zo 24 (.bin .lss (.t 22) (.t 23))]) (.cond (.t 24) .skip (.exit 2))) (.seq (.block 3 (.seq (.draw [1,3,5,39] [(1,7),(5,7),(1,11),(5,11)] [zf 27 1 0,zl 28 27,zm 29 3,zo 30 (.iaddr none 2 (.t 28) (.t 29)),zf 31 30 0,zl 32 31,zf 33 1 0,zl 34 33,zm 35 5,zo 36 (.iaddr none 2 (.t 34) (.t 35)),zf 37 36 0,zl 38 37,zo 39 (.bin .eql
 (.t 32) (.t 38))]) (.cond (.t 39) (.seq (.region [2] [zo 2 (.move (zB false))]) .ret) .skip))) (.region [1,3,5] [zm 25 5,zo 26 (.bin .add (.t 25) (zI 1)),zm 5 26])))
def fc43_b1:SC:=
 (.loc (.seq (.seq (.region [1,3,10] [zm 6 3,zf 7 1 0,zl 8 7,ze 9 1 8,zo 10 (.bin .lss (.t 6) (.t 9))]) (.cond (.t 10) .skip (.exit 0))) (.seq (.block 1 (.seq (.region [1,3,4] [zf 13 1 0,zl 14 13,zm 15 3,zo 16 (.iaddr none 2 (.t 14) (.t 15)),zf 17 16 0,zl 18 17,zc 19 44 [.t 18],zm 4 19]) (.seq (.seq (.region [1,3,21] [zm 20 4,zo 21 (.un .not (.t 20))]) (.cond (.t 21) (.seq
 (.region [2] [zo 2 (.move (zB false))]) .ret) .skip)) (.seq (.region [1,3,5] [zi 5 0]) (.block 2 (.loop [1,3,5] fc43_b0)))))) (.region [1,3] [zm 11 3,zo 12 (.bin .add (.t 11) (zI 1)),zm 3 12]))))
def fc43:FC where
 nt:=40
 np:=1
 res:=[.t 2]
 body:=(.seq (.region [1] [zo 1 (.box (.t 0)),zo 2 (.move (zB false))]) (.seq (.seq (.region [1,3] [zi 3 0]) (.block 0 (.loop [1,3] fc43_b1))) (.seq (.region [2] [zo 2 (.move (zB true))]) .ret)))
theorem ok43:FOk Tryd.prog 43 fc43:=FOk.of Tryd.func43 (by kernel_rfl)
def fc44_b0:SC:=
 (.seq (.seq (.region [0,3,21] [zm 18 3,zm 19 0,ze 20 0 19,zo 21 (.bin .lss (.t 18) (.t 20))]) (.cond (.t 21) .skip (.exit 0))) (.seq (.block 1 (.seq (.region [0,3,4] [zm 24 0,zm 25 3,zo 26 (.index none (.t 24) (.t 25)),zm 4 26]) (.seq (.region [0,3,4,5] [zm 27 4,zo 28 (.bin .geq (.t 27) (.c (.p (.int .u8 97)))),zm 29 28,zg 30 (.move (.t 4)) 29 true,zg 31 (.bin .leq (.t 30)
 (.c (.p (.int .u8 122)))) 29 true,za 32 29 31,zm 33 32,zg 34 (.move (.t 4)) 33 false,zg 35 (.bin .geq (.t 34) (.c (.p (.int .u8 65)))) 33 false,zg 36 (.move (.t 35)) 33 false,zg 37 (.move (.t 4)) 36 true,zg 38 (.bin .leq (.t 37) (.c (.p (.int .u8 90)))) 36 true,zg 39 (.pick (.t 36) (.t 38) (zB false)) 33 false,zb 40 33 39,zm 5 40]) (.seq (.region [0,3,58] [zm 41 5,zo 42
 (.un .not (.t 41)),zm 43 42,zg 44 (.move (.t 3)) 43 true,zg 45 (.bin .eql (.t 44) (zI 0)) 43 true,zg 46 (.move (.t 45)) 43 true,zg 47 (.move (.t 4)) 46 false,zg 48 (.bin .neq (.t 47) (.c (.p (.int .u8 95)))) 46 false,zg 49 (.move (.t 48)) 46 false,zg 50 (.move (.t 4)) 49 true,zg 51 (.bin .lss (.t 50) (.c (.p (.int .u8 48)))) 49 true,zg 52 (.move (.t 51)) 49 true,zg 53 (.move
 (.t 4)) 52 false,zg 54 (.bin .gtr (.t 53) (.c (.p (.int .u8 57)))) 52 false,zg 55 (.pick (.t 52) (zB true) (.t 54)) 49 true,zg 56 (.pick (.t 49) (.t 55) (zB false)) 46 false,zg 57 (.pick (.t 46) (zB true) (.t 56)) 43 true,za 58 43 57]) (.cond (.t 58) (.seq (.region [2] [zo 2 (.move (zB false))]) .ret) .skip))))) (.region [0,3] [zm 22 3,zo 23 (.bin .add (.t 22) (zI 1)),zm 3 23])))
def fc44:FC where
 nt:=59
 np:=1
 res:=[.t 2]
 body:=(.seq (.region [0] [zo 2 (.move (zB false))]) (.seq (.seq (.region [0,17] [zm 6 0,ze 7 0 6,zo 8 (.bin .eql (.t 7) (zI 0)),zm 9 8,zg 10 (.move (.t 0)) 9 false,zg 11 (.len 0 (.t 10)) 9 false,zg 12 (.bin .gtr (.t 11) (zI 16)) 9 false,zb 13 9 12,zm 14 13,zg 15 (.move (.t 0)) 14 false,zg 16 (.call (.c (.fn 76 [] [])) [.t 15]) 14 false,zb 17 14 16]) (.cond (.t 17) (.seq
  (.region [2] [zo 2 (.move (zB false))]) .ret) .skip)) (.seq (.seq (.region [0,3] [zi 3 0]) (.block 0 (.loop [0,3] fc44_b0))) (.seq (.region [2] [zo 2 (.move (zB true))]) .ret))))
theorem ok44:FOk Tryd.prog 44 fc44:=FOk.of Tryd.func44 (by kernel_rfl)
def fc45_b0:SC:=
 (.seq (.seq (.region [1,2,5,9] [zm 6 5,zm 7 1,ze 8 1 7,zo 9 (.bin .lss (.t 6) (.t 8))]) (.cond (.t 9) .skip (.exit 0))) (.seq (.block 1 (.seq (.draw [1,2,5,26] [(9,11)] [zm 12 1,zm 13 5,zo 14 (.iaddr none 1 (.t 12) (.t 13)),zl 15 14,zo 16 (.bin .lss (.t 15) (zI 0)),zm 17 16,zg 18 (.move (.t 1)) 17 false,zg 19 (.move (.t 5)) 17 false,zg 20 (.iaddr none 1 (.t 18)
 (.t 19)) 17 false,zg 21 (.load none (.t 20)) 17 false,zg 22 (.faddr (.t 2) 0) 17 false,zg 23 (.load none (.t 22)) 17 false,zg 24 (.len 1 (.t 23)) 17 false,zg 25 (.bin .geq (.t 21) (.t 24)) 17 false,zb 26 17 25]) (.cond (.t 26) (.seq (.region [4] [zo 4 (.move (zB false))]) .ret) .skip))) (.region [1,2,5] [zm 10 5,zo 11 (.bin .add (.t 10) (zI 1)),zm 5 11])))
def fc45:FC where
 nt:=27
 np:=2
 res:=[.t 4]
 body:=(.seq (.region [1,2] [zo 2 (.box (.t 0)),zo 4 (.move (zB false))]) (.seq (.seq (.region [1,2,5] [zi 5 0]) (.block 0 (.loop [1,2,5] fc45_b0))) (.seq (.region [4] [zo 4 (.move (zB true))]) .ret)))
theorem ok45:FOk Tryd.prog 45 fc45:=FOk.of Tryd.func45 (by kernel_rfl)
def fc46:FC where
 nt:=13
 np:=1
 res:=[.t 2]
 body:=(.seq (.region [1] [zo 1 (.box (.t 0)),zo 2 (.move (zB false))]) (.seq (.region [1,3] [zL 4 5 1,zc 5 13 [.t 4],zm 3 5]) (.seq (.region [2] [zm 6 3,zm 7 6,zg 8 (.faddr (.t 1) 0) 7 true,zg 9 (.load none (.t 8)) 7 true,zg 10 (.call (.c (.fn 56 [] [])) [.t 9]) 7 true,zg 11 (.bin .eql (.t 10) (.c (.p (.int .u8 102)))) 7 true,za 12 7 11,zm 2 12]) .ret)))
theorem ok46:FOk Tryd.prog 46 fc46:=FOk.of Tryd.func46 (by kernel_rfl)
def fc47_b0:SC:=
 (.loc (.seq (.seq (.region [1,2,5,10] [zm 7 5,zm 8 1,ze 9 1 8,zo 10 (.bin .lss (.t 7) (.t 9))]) (.cond (.t 10) .skip (.exit 0))) (.seq (.block 1 (.seq (.draw [1,2,5,6] [(7,12)] [zm 13 1,zm 14 5,zo 15 (.iaddr none 2 (.t 13) (.t 14)),zf 16 15 0,zl 17 16,zc 18 44 [.t 17],zm 19 18,zg 20 (.load (some 4) (.t 2)) 19 true,zg 21 (.move (.t 1)) 19 true,zg 22 (.move (.t 5)) 19 true,
 zg 23 (.iaddr none 2 (.t 21) (.t 22)) 19 true,zg 24 (.faddr (.t 23) 1) 19 true,zg 25 (.load none (.t 24)) 19 true,zg 26 (.bslice 3 1 1 (.int .i64 0) [(0,(.t 25))]) 19 true,zg 27 (.call (.c (.fn 45 [] [])) [.t 20,.t 26]) 19 true,za 28 19 27,zm 6 28]) (.seq (.region [1,2,5,30] [zm 29 6,zo 30 (.un .not (.t 29))]) (.cond (.t 30) (.seq (.region [4] [zo 4 (.move
 (zB false))]) .ret) .skip)))) (.region [1,2,5] [zm 11 5,zo 12 (.bin .add (.t 11) (zI 1)),zm 5 12]))))
def fc47:FC where
 nt:=31
 np:=2
 res:=[.t 4]
 body:=(.seq (.region [1,2] [zo 2 (.box (.t 0)),zo 4 (.move (zB false))]) (.seq (.seq (.region [1,2,5] [zi 5 0]) (.block 0 (.loop [1,2,5] fc47_b0))) (.seq (.region [4] [zo 4 (.move (zB true))]) .ret)))
theorem ok47:FOk Tryd.prog 47 fc47:=FOk.of Tryd.func47 (by kernel_rfl)
def fc48:FC where
 nt:=19
 np:=2
 res:=[.t 3]
 body:=(.seq (.region [0,1] [zo 3 (.move (zS []))]) (.seq (.seq (.region [0,1,12] [zm 4 0,zo 5 (.bin .lss (.t 4) (zI 0)),zm 6 5,zg 7 (.move (.t 0)) 6 false,zg 8 (.faddr (.t 1) 0) 6 false,zg 9 (.load none (.t 8)) 6 false,zg 10 (.len 1 (.t 9)) 6 false,zg 11 (.bin .geq (.t 7) (.t 10)) 6 false,zb 12 6 11]) (.cond (.t 12) (.seq (.region [3] [zo 3 (.move (zS []))]) .ret) .skip))
  (.seq (.region [3] [zf 13 1 0,zl 14 13,zm 15 0,zo 16 (.iaddr none 2 (.t 14) (.t 15)),zf 17 16 0,zl 18 17,zm 3 18]) .ret)))
theorem ok48:FOk Tryd.prog 48 fc48:=FOk.of Tryd.func48 (by kernel_rfl)
def fc49:FC where
 nt:=19
 np:=2
 res:=[.t 4,.t 5]
 body:=(.seq (.region [0,1] [zi 4 0,zo 5 (.move (.c (.p (.nili))))]) (.seq (.region [0,1] [zm 6 0,zc 7 77 [.t 6]]) (.seq (.region [1] [zm 8 0,zm 9 0,zn 10 9,zf 11 10 1,zl 12 11,zm 13 1,zo 14 (.append 5 1 1 (.t 12) (.t 13)),zn 15 8,zf 16 15 1,zs 1 16 14]) (.seq (.region [4,5] [zm 17 1,ze 18 0 17,zm 4 18,zo 5 (.move (.c (.p (.nili))))]) .ret))))
theorem ok49:FOk Tryd.prog 49 fc49:=FOk.of Tryd.func49 (by kernel_rfl)
def fc50_b0:SC:=
 (.loc (.seq (.region [0,2,3,10,11,12,13] [zo 13 (.bin .lss (.t 12) (.t 11))]) (.seq (.cond (.t 13) .skip (.exit 0)) (.seq (.block 1 (.seq (.region [0,2,3,8,9,10,11,12] [zm 14 12,zo 15 (.iaddr none 1 (.t 10) (.t 12)),zl 16 15,zm 8 14,zm 9 16]) (.seq (.seq (.region [0,2,3,9,10,11,12,18] [zm 17 8,zo 18 (.bin .gtr (.t 17) (zI 0))]) (.cond (.t 18) (.region [0,2,3,9,10,11,12]
 [zm 19 0,zn 20 19,zf 21 20 0,zm 22 2,zc 23 49 [.t 21,.t 22]]) .skip)) (.region [0,2,3,10,11,12] [zm 24 3,zm 25 9,zo 26 (.call (.t 24) [.t 25])])))) (.region [0,2,3,10,11,12] [zo 27 (.bin .add (.t 12) (zI 1)),zm 12 27])))))
def fc50:FC where
 nt:=28
 np:=4
 res:=[]
 body:=(.seq (.region [0,2,3,10,11,12] [zm 10 1,ze 11 1 10,zi 12 0]) (.block 0 (.loop [0,2,3,10,11,12] fc50_b0)))
theorem ok50:FOk Tryd.prog 50 fc50:=FOk.of Tryd.func50 (by kernel_rfl)
def fc51:FC where
 nt:=11
 np:=3
 res:=[]
 body:=(.draw [] [(0,3),(0,5)] [zl 4 1,zn 5 4,zf 6 5 0,zl 7 2,zm 8 0,zo 9 (.call (.t 7) [.t 8]),zc 10 49 [.t 6,.t 9]])
theorem ok51:FOk Tryd.prog 51 fc51:=FOk.of Tryd.func51 (by kernel_rfl)
def fc52_b0:SC:=
 (.loc (.seq (.region [0,2,3,10,11,12,13] [zo 13 (.bin .lss (.t 12) (.t 11))]) (.seq (.cond (.t 13) .skip (.exit 0)) (.seq (.block 1 (.seq (.region [0,2,3,8,9,10,11,12] [zm 14 12,zo 15 (.iaddr none 2 (.t 10) (.t 12)),zL 16 2 15,zo 9 (.alloc [.str [],.int .i64 0]),zm 8 14,zs 2 9 16]) (.seq (.seq (.region [0,2,3,9,10,11,12,18] [zm 17 8,zo 18 (.bin .gtr (.t 17) (zI 0))]) (.cond
 (.t 18) (.region [0,2,3,9,10,11,12] [zm 19 0,zn 20 19,zf 21 20 0,zm 22 2,zc 23 49 [.t 21,.t 22]]) .skip)) (.region [0,2,3,10,11,12] [zm 24 3,zL 25 2 9,zo 26 (.call (.t 24) [.t 25])])))) (.region [0,2,3,10,11,12] [zo 27 (.bin .add (.t 12) (zI 1)),zm 12 27])))))
def fc52:FC where
 nt:=28
 np:=4
 res:=[]
 body:=(.seq (.region [0,2,3,10,11,12] [zm 10 1,ze 11 1 10,zi 12 0]) (.block 0 (.loop [0,2,3,10,11,12] fc52_b0)))
theorem ok52:FOk Tryd.prog 52 fc52:=FOk.of Tryd.func52 (by kernel_rfl)
def fc53:FC where
 nt:=16
 np:=3
 res:=[]
 body:=(.seq (.region [1,2,3] [zo 3 (.box (.t 0))]) (.draw [] [(0,4),(0,6),(4,6),(0,8),(4,8),(6,8),(0,9),(4,9)] [zl 4 1,zn 5 4,zf 6 5 0,zf 7 3 0,zl 8 7,zo 9 (.bin .add (.t 8) (zS [58,32])),zl 10 2,zf 11 3 1,zl 12 11,zo 13 (.call (.t 10) [.t 12]),zo 14 (.bin .add (.t 9) (.t 13)),zc 15 49 [.t 6,.t 14]]))
theorem ok53:FOk Tryd.prog 53 fc53:=FOk.of Tryd.func53 (by kernel_rfl)
def fc54_b0:SC:=
 (.seq (.seq (.region [2,3,5,6,19] [zm 15 6,zf 16 3 1,zl 17 16,ze 18 1 17,zo 19 (.bin .lss (.t 15) (.t 18))]) (.cond (.t 19) .skip (.exit 0))) (.seq (.block 1 (.seq (.seq (.region [2,3,5,6,23] [zm 22 6,zo 23 (.bin .gtr (.t 22) (zI 0))]) (.cond (.t 23) (.region [2,3,5,6] [zm 24 5,zo 25 (.bin .add (.t 24) (zS [32,45,62,32])),zm 5 25]) .skip)) (.draw [2,3,5,6] [(2,4),(2,7)]
 [zm 26 5,zf 27 2 0,zl 28 27,zf 29 3 1,zl 30 29,zm 31 6,zo 32 (.iaddr none 1 (.t 30) (.t 31)),zl 33 32,zo 34 (.iaddr none 2 (.t 28) (.t 33)),zf 35 34 0,zl 36 35,zo 37 (.bin .add (.t 26) (.t 36)),zm 5 37]))) (.region [2,3,5,6] [zm 20 6,zo 21 (.bin .add (.t 20) (zI 1)),zm 6 21])))
def fc54:FC where
 nt:=40
 np:=2
 res:=[.t 4]
 body:=(.seq (.region [2,3] [zo 2 (.box (.t 0)),zo 3 (.box (.t 1)),zo 4 (.move (zS []))]) (.seq (.region [2,3,5] [zf 7 3 0,zl 8 7,zo 9 (.bin .add (zS [102,105,101,108,100,32]) (.t 8)),zo 10 (.bin .add (.t 9) (zS [58,32])),zm 5 10]) (.seq (.seq (.region [2,3,5,12] [zf 11 3 2,zl 12 11]) (.cond (.t 12) (.region [2,3,5] [zm 13 5,zo 14 (.bin .add (zS [118,97,114,32]) (.t 13)),
  zm 5 14]) .skip)) (.seq (.seq (.region [2,3,5,6] [zi 6 0]) (.block 0 (.loop [2,3,5,6] fc54_b0))) (.seq (.region [4] [zm 38 5,zo 39 (.bin .add (.t 38) (zS [59,10])),zm 4 39]) .ret)))))
theorem ok54:FOk Tryd.prog 54 fc54:=FOk.of Tryd.func54 (by kernel_rfl)
def fc55_b0:SC:=
 (.seq (.seq (.region [2,3,5,6,15] [zm 11 6,zf 12 3 1,zl 13 12,ze 14 1 13,zo 15 (.bin .lss (.t 11) (.t 14))]) (.cond (.t 15) .skip (.exit 0))) (.seq (.block 1 (.seq (.seq (.region [2,3,5,6,19] [zm 18 6,zo 19 (.bin .gtr (.t 18) (zI 0))]) (.cond (.t 19) (.region [2,3,5,6] [zm 20 5,zo 21 (.bin .add (.t 20) (zS [44,32])),zm 5 21]) .skip)) (.draw [2,3,5,6]
 [(2,10),(6,10),(2,12),(6,12),(10,12),(2,16),(6,16),(10,16),(2,19),(6,19)] [zm 22 5,zf 23 3 1,zl 24 23,zm 25 6,zo 26 (.iaddr none 2 (.t 24) (.t 25)),zf 27 26 0,zl 28 27,zo 29 (.bin .add (.t 22) (.t 28)),zo 30 (.bin .add (.t 29) (zS [58,32])),zf 31 2 0,zl 32 31,zf 33 3 1,zl 34 33,zm 35 6,zo 36 (.iaddr none 2 (.t 34) (.t 35)),zf 37 36 1,zl 38 37,zo 39 (.iaddr none 2 (.t 32)
 (.t 38)),zf 40 39 0,zl 41 40,zo 42 (.bin .add (.t 30) (.t 41)),zm 5 42]))) (.region [2,3,5,6] [zm 16 6,zo 17 (.bin .add (.t 16) (zI 1)),zm 6 17])))
def fc55:FC where
 nt:=50
 np:=2
 res:=[.t 4]
 body:=(.seq (.region [2,3] [zo 2 (.box (.t 0)),zo 3 (.box (.t 1)),zo 4 (.move (zS []))]) (.seq (.region [2,3,5] [zf 7 3 0,zl 8 7,zo 9 (.bin .add (zS [112,114,101,100,32]) (.t 8)),zo 10 (.bin .add (.t 9) (zS [91])),zm 5 10]) (.seq (.seq (.region [2,3,5,6] [zi 6 0]) (.block 0 (.loop [2,3,5,6] fc55_b0))) (.seq (.region [4] [zm 43 5,zo 44 (.bin .add (.t 43) (zS [93,32,123,32])),
  zf 45 3 2,zL 46 5 45,zc 47 15 [.t 46],zo 48 (.bin .add (.t 44) (.t 47)),zo 49 (.bin .add (.t 48) (zS [32,125,10])),zm 4 49]) .ret))))
theorem ok55:FOk Tryd.prog 55 fc55:=FOk.of Tryd.func55 (by kernel_rfl)
def fc56:FC where
 nt:=21
 np:=1
 res:=[.t 2]
 body:=(.seq (.region [0] [zo 2 (.move (.c (.p (.int .u8 0))))]) (.seq (.seq (.region [0,8] [zm 3 0,zo 4 (.bin .geq (.t 3) (zI 1)),zm 5 4,zg 6 (.move (.t 0)) 5 true,zg 7 (.bin .leq (.t 6) (zI 15)) 5 true,za 8 5 7]) (.cond (.t 8) (.seq (.region [2] [zo 2 (.move (.c (.p (.int .u8 101))))]) .ret) .skip)) (.seq (.seq (.region [0,14] [zm 9 0,zo 10 (.bin .geq (.t 9) (zI 20)),
  zm 11 10,zg 12 (.move (.t 0)) 11 true,zg 13 (.bin .leq (.t 12) (zI 23)) 11 true,za 14 11 13]) (.cond (.t 14) (.seq (.region [2] [zo 2 (.move (.c (.p (.int .u8 105))))]) .ret) .skip)) (.seq (.seq (.region [20] [zm 15 0,zo 16 (.bin .geq (.t 15) (zI 30)),zm 17 16,zg 18 (.move (.t 0)) 17 true,zg 19 (.bin .leq (.t 18) (zI 51)) 17 true,za 20 17 19]) (.cond (.t 20) (.seq (.region
  [2] [zo 2 (.move (.c (.p (.int .u8 102))))]) .ret) .skip)) (.seq (.region [2] [zo 2 (.move (.c (.p (.int .u8 0))))]) .ret)))))
theorem ok56:FOk Tryd.prog 56 fc56:=FOk.of Tryd.func56 (by kernel_rfl)
def fc57:FC where
 nt:=66
 np:=1
 res:=[.t 2]
 body:=(.seq (.region [1] [zo 1 (.box (.t 0)),zo 2 (.move (zB false))]) (.seq (.region [1,3] [zf 4 1 0,zl 5 4,zo 6 (.bin .eql (.t 5) (zI 1)),zm 7 6,zg 8 (.faddr (.t 1) 0) 7 false,zg 9 (.load none (.t 8)) 7 false,zg 10 (.bin .eql (.t 9) (zI 15)) 7 false,zb 11 7 10,zm 12 11,zg 13 (.faddr (.t 1) 0) 12 false,zg 14 (.load none (.t 13)) 12 false,zg 15 (.bin .eql (.t 14)
  (zI 45)) 12 false,zb 16 12 15,zm 17 16,zg 18 (.faddr (.t 1) 0) 17 false,zg 19 (.load none (.t 18)) 17 false,zg 20 (.bin .eql (.t 19) (zI 46)) 17 false,zb 21 17 20,zm 22 21,zg 23 (.faddr (.t 1) 0) 22 false,zg 24 (.load none (.t 23)) 22 false,zg 25 (.bin .eql (.t 24) (zI 47)) 22 false,zb 26 22 25,zm 3 26]) (.seq (.seq (.region [1,40] [zm 27 3,zf 28 1 1,zl 29 28,zc 30 44 [.t 29],
  zo 31 (.eqk 0 true (.t 27) (.t 30)),zm 32 31,zg 33 (.move (.t 3)) 32 false,zg 34 (.un .not (.t 33)) 32 false,zg 35 (.move (.t 34)) 32 false,zg 36 (.faddr (.t 1) 1) 35 true,zg 37 (.load none (.t 36)) 35 true,zg 38 (.bin .neq (.t 37) (zS [])) 35 true,zg 39 (.pick (.t 35) (.t 38) (zB false)) 32 false,zb 40 32 39]) (.cond (.t 40) (.seq (.region [2] [zo 2 (.move
  (zB false))]) .ret) .skip)) (.seq (.seq (.region [1,42] [zf 41 1 0,zl 42 41]) (.block 0 (.seq (.region [1,42,43] [zo 44 (.bin .eql (.t 42) (zI 2)),zm 43 44]) (.cond (.t 43) (.seq (.region [2] [zf 45 1 2,zl 46 45,zo 47 (.bin .geq (.t 46) (zI 1)),zm 48 47,zg 49 (.faddr (.t 1) 2) 48 true,zg 50 (.load none (.t 49)) 48 true,zg 51 (.bin .leq (.t 50) (zI 3)) 48 true,za 52 48 51,
  zm 2 52]) .ret) (.seq (.region [1,53] [zo 54 (.bin .eql (.t 42) (zI 20)),zm 53 54]) (.cond (.t 53) (.seq (.region [2] [zf 55 1 2,zl 56 55,zo 57 (.bin .geq (.t 56) (zI (-64))),zm 58 57,zg 59 (.faddr (.t 1) 2) 58 true,zg 60 (.load none (.t 59)) 58 true,zg 61 (.bin .leq (.t 60) (zI 64)) 58 true,za 62 58 61,zm 2 62]) .ret) .skip)))))) (.seq (.region [2] [zf 63 1 2,zl 64 63,zo 65
  (.bin .eql (.t 64) (zI 0)),zm 2 65]) .ret)))))
theorem ok57:FOk Tryd.prog 57 fc57:=FOk.of Tryd.func57 (by kernel_rfl)
def fc58_b0:SC:=
 (.loc (.seq (.seq (.region [1,5,7,27] [zm 24 7,zm 25 1,ze 26 1 25,zo 27 (.bin .lss (.t 24) (.t 26))]) (.cond (.t 27) .skip (.exit 0))) (.seq (.block 1 (.seq (.draw [1,5,7,39] [] [zm 30 1,zm 31 7,zo 32 (.iaddr none 5 (.t 30) (.t 31)),zf 33 32 0,zl 34 33,zc 35 56 [.t 34],zm 36 5,zm 37 7,zo 38 (.index none (.t 36) (.t 37)),zo 39 (.bin .neq (.t 35) (.t 38))]) (.cond (.t 39) (.seq
 (.region [4] [zo 4 (.move (zB false))]) .ret) .skip))) (.region [1,5,7] [zm 28 7,zo 29 (.bin .add (.t 28) (zI 1)),zm 7 29]))))
def fc58:FC where
 nt:=40
 np:=2
 res:=[.t 4]
 body:=(.seq (.region [0,1] [zo 4 (.move (zB false))]) (.seq (.region [1,5,6] [zm 9 0,zm 10 1,ze 11 1 10,zc 12 78 [.t 9,.t 11],zm 8 12,zx 13 8 0,zx 14 8 1,zm 5 13,zm 6 14]) (.seq (.seq (.region [1,5,23] [zm 15 6,zo 16 (.un .not (.t 15)),zm 17 16,zg 18 (.move (.t 5)) 17 false,zg 19 (.len 0 (.t 18)) 17 false,zg 20 (.move (.t 1)) 17 false,zg 21 (.len 1 (.t 20)) 17 false,zg 22
  (.bin .neq (.t 19) (.t 21)) 17 false,zb 23 17 22]) (.cond (.t 23) (.seq (.region [4] [zo 4 (.move (zB false))]) .ret) .skip)) (.seq (.seq (.region [1,5,7] [zi 7 0]) (.block 0 (.loop [1,5,7] fc58_b0))) (.seq (.region [4] [zo 4 (.move (zB true))]) .ret)))))
theorem ok58:FOk Tryd.prog 58 fc58:=FOk.of Tryd.func58 (by kernel_rfl)
def fc59:FC where
 nt:=37
 np:=0
 res:=[.t 0]
 body:=(.seq (.region [] [zo 0 (.move (.c (.p (.nilm))))]) (.seq (.region [0] [zo 1 (.mkmap 13),zo 2 (.build [.int .i64 0,.int .i64 0] [(0,1,(zI 1)),(1,1,(zI 2))]),zo 3 (.build [.str [],.int .i64 0,.int .i64 0,.int .i64 0] [(0,1,(zS [32,60,61,62,32])),(1,1,(zI 1)),(2,2,(.t 2))]),zv (.mapins 13 (.t 1) (zI 44) (.t 3)),zo 4 (.build [.int .i64 0,.int .i64 0]
  [(0,1,(zI 3)),(1,1,(zI 2))]),zo 5 (.build [.str [],.int .i64 0,.int .i64 0,.int .i64 0] [(0,1,(zS [32,61,62,32])),(1,1,(zI 2)),(2,2,(.t 4))]),zv (.mapins 13 (.t 1) (zI 43) (.t 5)),zo 6 (.build [.int .i64 0,.int .i64 0] [(0,1,(zI 3)),(1,1,(zI 4))]),zo 7 (.build [.str [],.int .i64 0,.int .i64 0,.int .i64 0] [(0,1,(zS [32,124,124,32])),(1,1,(zI 3)),(2,2,(.t 6))]),zv (.mapins 13
  (.t 1) (zI 42) (.t 7)),zo 8 (.build [.int .i64 0,.int .i64 0] [(0,1,(zI 4)),(1,1,(zI 5))]),zo 9 (.build [.str [],.int .i64 0,.int .i64 0,.int .i64 0] [(0,1,(zS [32,38,38,32])),(1,1,(zI 4)),(2,2,(.t 8))]),zv (.mapins 13 (.t 1) (zI 41) (.t 9)),zo 10 (.build [.int .i64 0,.int .i64 0] [(0,1,(zI 6)),(1,1,(zI 5))]),zo 11 (.build [.str [],.int .i64 0,.int .i64 0,.int .i64 0]
  [(0,1,(zS [32,117,110,116,105,108,32])),(1,1,(zI 5)),(2,2,(.t 10))]),zv (.mapins 13 (.t 1) (zI 51) (.t 11)),zo 12 (.build [.int .i64 0,.int .i64 0] [(0,1,(zI 8)),(1,1,(zI 8))]),zo 13 (.build [.str [],.int .i64 0,.int .i64 0,.int .i64 0] [(0,1,(zS [32,105,110,32])),(1,1,(zI 7)),(2,2,(.t 12))]),zv (.mapins 13 (.t 1) (zI 32) (.t 13)),zo 14 (.build [.int .i64 0,.int .i64 0]
  [(0,1,(zI 8)),(1,1,(zI 8))]),zo 15 (.build [.str [],.int .i64 0,.int .i64 0,.int .i64 0] [(0,1,(zS [32,61,32])),(1,1,(zI 7)),(2,2,(.t 14))]),zv (.mapins 13 (.t 1) (zI 33) (.t 15)),zo 16 (.build [.int .i64 0,.int .i64 0] [(0,1,(zI 8)),(1,1,(zI 8))]),zo 17 (.build [.str [],.int .i64 0,.int .i64 0,.int .i64 0] [(0,1,(zS [32,61,32])),(1,1,(zI 7)),(2,2,(.t 16))]),zv (.mapins 13
  (.t 1) (zI 38) (.t 17)),zo 18 (.build [.int .i64 0,.int .i64 0] [(0,1,(zI 8)),(1,1,(zI 8))]),zo 19 (.build [.str [],.int .i64 0,.int .i64 0,.int .i64 0] [(0,1,(zS [32,60,32])),(1,1,(zI 7)),(2,2,(.t 18))]),zv (.mapins 13 (.t 1) (zI 39) (.t 19)),zo 20 (.build [.int .i64 0,.int .i64 0] [(0,1,(zI 8)),(1,1,(zI 9))]),zo 21 (.build [.str [],.int .i64 0,.int .i64 0,.int .i64 0]
  [(0,1,(zS [32,43,32])),(1,1,(zI 8)),(2,2,(.t 20))]),zv (.mapins 13 (.t 1) (zI 6) (.t 21)),zo 22 (.build [.int .i64 0,.int .i64 0] [(0,1,(zI 8)),(1,1,(zI 9))]),zo 23 (.build [.str [],.int .i64 0,.int .i64 0,.int .i64 0] [(0,1,(zS [32,43,32])),(1,1,(zI 8)),(2,2,(.t 22))]),zv (.mapins 13 (.t 1) (zI 22) (.t 23)),zo 24 (.build [.int .i64 0,.int .i64 0] [(0,1,(zI 8)),(1,1,(zI 9))]),
  zo 25 (.build [.str [],.int .i64 0,.int .i64 0,.int .i64 0] [(0,1,(zS [32,45,32])),(1,1,(zI 8)),(2,2,(.t 24))]),zv (.mapins 13 (.t 1) (zI 8) (.t 25)),zo 26 (.build [.int .i64 0,.int .i64 0] [(0,1,(zI 8)),(1,1,(zI 9))]),zo 27 (.build [.str [],.int .i64 0,.int .i64 0,.int .i64 0] [(0,1,(zS [32,45,32])),(1,1,(zI 8)),(2,2,(.t 26))]),zv (.mapins 13 (.t 1) (zI 23) (.t 27)),zo 28
  (.build [.int .i64 0,.int .i64 0] [(0,1,(zI 9)),(1,1,(zI 10))]),zo 29 (.build [.str [],.int .i64 0,.int .i64 0,.int .i64 0] [(0,1,(zS [32,43,43,32])),(1,1,(zI 9)),(2,2,(.t 28))]),zv (.mapins 13 (.t 1) (zI 14) (.t 29)),zo 30 (.build [.int .i64 0,.int .i64 0] [(0,1,(zI 10)),(1,1,(zI 11))]),zo 31 (.build [.str [],.int .i64 0,.int .i64 0,.int .i64 0] [(0,1,(zS
  [32,38,32])),(1,1,(zI 10)),(2,2,(.t 30))]),zv (.mapins 13 (.t 1) (zI 7) (.t 31)),zo 32 (.build [.int .i64 0,.int .i64 0] [(0,1,(zI 11)),(1,1,(zI 12))]),zo 33 (.build [.str [],.int .i64 0,.int .i64 0,.int .i64 0] [(0,1,(zS [32,45,62,32])),(1,1,(zI 11)),(2,2,(.t 32))]),zv (.mapins 13 (.t 1) (zI 10) (.t 33)),zo 34 (.build [.int .i64 0,.int .i64 0] [(0,1,(zI 12)),(1,1,(zI 13))]),
  zo 35 (.build [.str [],.int .i64 0,.int .i64 0,.int .i64 0] [(0,1,(zS [46])),(1,1,(zI 12)),(2,2,(.t 34))]),zv (.mapins 13 (.t 1) (zI 9) (.t 35)),zm 36 1,zm 0 36]) .ret))
theorem ok59:FOk Tryd.prog 59 fc59:=FOk.of Tryd.func59 (by kernel_rfl)
def fc60:FC where
 nt:=27
 np:=0
 res:=[.t 0]
 body:=(.seq (.region [] [zo 0 (.move (.c (.p (.nilm))))]) (.seq (.region [0] [zo 1 (.mkmap 13),zo 2 (.build [.int .i64 0,.int .i64 0] [(0,1,(zI 6))]),zo 3 (.build [.str [],.int .i64 0,.int .i64 0,.int .i64 0] [(0,1,(zS [110,111,116,32])),(1,1,(zI 6)),(2,2,(.t 2))]),zv (.mapins 13 (.t 1) (zI 40) (.t 3)),zo 4 (.build [.int .i64 0,.int .i64 0] [(0,1,(zI 6))]),zo 5 (.build
  [.str [],.int .i64 0,.int .i64 0,.int .i64 0] [(0,1,(zS [97,108,119,97,121,115,32])),(1,1,(zI 6)),(2,2,(.t 4))]),zv (.mapins 13 (.t 1) (zI 48) (.t 5)),zo 6 (.build [.int .i64 0,.int .i64 0] [(0,1,(zI 6))]),zo 7 (.build [.str [],.int .i64 0,.int .i64 0,.int .i64 0] [(0,1,(zS [101,118,101,110,116,117,97,108,108,121,32])),(1,1,(zI 6)),(2,2,(.t 6))]),zv (.mapins 13 (.t 1) (zI 49)
  (.t 7)),zo 8 (.build [.int .i64 0,.int .i64 0] [(0,1,(zI 6))]),zo 9 (.build [.str [],.int .i64 0,.int .i64 0,.int .i64 0] [(0,1,(zS [97,102,116,101,114,32])),(1,1,(zI 6)),(2,2,(.t 8))]),zv (.mapins 13 (.t 1) (zI 50) (.t 9)),zo 10 (.build [.int .i64 0,.int .i64 0] [(0,1,(zI 8))]),zo 11 (.build [.str [],.int .i64 0,.int .i64 0,.int .i64 0] [(0,1,(zS
  [110,111,32])),(1,1,(zI 7)),(2,2,(.t 10))]),zv (.mapins 13 (.t 1) (zI 35) (.t 11)),zo 12 (.build [.int .i64 0,.int .i64 0] [(0,1,(zI 8))]),zo 13 (.build [.str [],.int .i64 0,.int .i64 0,.int .i64 0] [(0,1,(zS [115,111,109,101,32])),(1,1,(zI 7)),(2,2,(.t 12))]),zv (.mapins 13 (.t 1) (zI 34) (.t 13)),zo 14 (.build [.int .i64 0,.int .i64 0] [(0,1,(zI 8))]),zo 15 (.build [.str
  [],.int .i64 0,.int .i64 0,.int .i64 0] [(0,1,(zS [111,110,101,32])),(1,1,(zI 7)),(2,2,(.t 14))]),zv (.mapins 13 (.t 1) (zI 36) (.t 15)),zo 16 (.build [.int .i64 0,.int .i64 0] [(0,1,(zI 8))]),zo 17 (.build [.str [],.int .i64 0,.int .i64 0,.int .i64 0] [(0,1,(zS [108,111,110,101,32])),(1,1,(zI 7)),(2,2,(.t 16))]),zv (.mapins 13 (.t 1) (zI 37) (.t 17)),zo 18 (.build
  [.int .i64 0,.int .i64 0] [(0,1,(zI 12))]),zo 19 (.build [.str [],.int .i64 0,.int .i64 0,.int .i64 0] [(0,1,(zS [35])),(1,1,(zI 12)),(2,2,(.t 18))]),zv (.mapins 13 (.t 1) (zI 21) (.t 19)),zo 20 (.build [.int .i64 0,.int .i64 0] [(0,1,(zI 13))]),zo 21 (.build [.str [],.int .i64 0,.int .i64 0,.int .i64 0] [(0,1,(zS [126])),(1,1,(zI 13)),(2,2,(.t 20))]),zv (.mapins 13 (.t 1)
  (zI 11) (.t 21)),zo 22 (.build [.int .i64 0,.int .i64 0] [(0,1,(zI 13))]),zo 23 (.build [.str [],.int .i64 0,.int .i64 0,.int .i64 0] [(0,1,(zS [94])),(1,1,(zI 13)),(2,2,(.t 22))]),zv (.mapins 13 (.t 1) (zI 12) (.t 23)),zo 24 (.build [.int .i64 0,.int .i64 0] [(0,1,(zI 13))]),zo 25 (.build [.str [],.int .i64 0,.int .i64 0,.int .i64 0] [(0,1,(zS
  [42])),(1,1,(zI 13)),(2,2,(.t 24))]),zv (.mapins 13 (.t 1) (zI 13) (.t 25)),zm 26 1,zm 0 26]) .ret))
theorem ok60:FOk Tryd.prog 60 fc60:=FOk.of Tryd.func60 (by kernel_rfl)
def fc61:FC where
 nt:=45
 np:=4
 res:=[]
 body:=(.seq (.region [0,2,3,5] [zo 5 (.box (.t 1))]) (.seq (.region [0,2,3,5,8] [zf 9 5 0,zl 10 9,zo 11 (.bin .eql (.t 10) (zI 45)),zm 12 11,zg 13 (.faddr (.t 5) 0) 12 false,zg 14 (.load none (.t 13)) 12 false,zg 15 (.bin .eql (.t 14) (zI 46)) 12 false,zb 16 12 15,zm 8 16]) (.seq (.seq (.region [0,3,5,29] [zm 17 0,zf 18 5 0,zl 19 18,zc 20 79 [.t 17,.t 19],zm 21 2,zo 22
  (.bin .geq (.t 20) (.t 21)),zm 23 22,zg 24 (.move (.t 3)) 23 true,zg 25 (.move (.t 24)) 23 true,zg 26 (.move (.t 8)) 25 false,zg 27 (.un .not (.t 26)) 25 false,zg 28 (.pick (.t 25) (zB true) (.t 27)) 23 true,za 29 23 28]) (.cond (.t 29) (.seq (.region [] [zm 30 0,zL 31 5 5,zm 32 3,zc 33 40 [.t 30,.t 31,.t 32]]) .ret) .skip)) (.seq (.region [0,5] [zm 34 0,zn 35 34,zf 36 35 0,
  zc 37 64 [.t 36,(.c (.p (.int .u8 40)))]]) (.seq (.region [0] [zm 38 0,zL 39 5 5,zc 40 40 [.t 38,.t 39,zB true]]) (.region [] [zm 41 0,zn 42 41,zf 43 42 0,zc 44 64 [.t 43,(.c (.p (.int .u8 41)))]]))))))
theorem ok61:FOk Tryd.prog 61 fc61:=FOk.of Tryd.func61 (by kernel_rfl)
def fc62:FC where
 nt:=16
 np:=2
 res:=[.cell 4 (some 5)]
 body:=(.seq (.region [1,2,4] [zo 2 (.box (.t 0)),zo 4 (.alloc [.int .i64 0,.str [],.int .i64 0,.nils,.int .i64 0])]) (.seq (.seq (.region [1,2,4,9] [zm 5 1,zf 6 2 3,zl 7 6,ze 8 1 7,zo 9 (.bin .lss (.t 5) (.t 8))]) (.cond (.t 9) (.seq (.region [4] [zf 10 2 3,zl 11 10,zm 12 1,zo 13 (.iaddr none 5 (.t 11) (.t 12)),zL 14 5 13,zs 5 4 14]) .ret) .skip)) (.seq (.region [4] [zo 15
  (.build [.int .i64 0,.str [],.int .i64 0,.nils,.int .i64 0] []),zs 5 4 15]) .ret)))
theorem ok62:FOk Tryd.prog 62 fc62:=FOk.of Tryd.func62 (by kernel_rfl)
def fc64:FC where
 nt:=17
 np:=2
 res:=[.t 4]
 body:=(.seq (.region [0,1] [zo 4 (.move (.c (.p (.nili))))]) (.seq (.region [0,1] [zm 5 0,zc 6 77 [.t 5]]) (.seq (.region [] [zm 7 0,zm 8 0,zn 9 8,zf 10 9 1,zl 11 10,zm 12 1,zo 13 (.bslice 5 1 1 (.int .u8 0) [(0,(.t 12))]),zo 14 (.append 5 1 1 (.t 11) (.t 13)),zn 15 7,zf 16 15 1,zs 1 16 14]) (.seq (.region [4] [zo 4 (.move (.c (.p (.nili))))]) .ret))))
theorem ok64:FOk Tryd.prog 64 fc64:=FOk.of Tryd.func64 (by kernel_rfl)
def fc65:FC where
 nt:=23
 np:=2
 res:=[]
 body:=(.seq (.region [0,3] [zo 3 (.box (.t 1))]) (.seq (.draw [0,3] [] [zm 4 0,zn 5 4,zf 6 5 0,zf 7 3 1,zl 8 7,zo 9 (.bin .add (.t 8) (zS [58,32])),zc 10 49 [.t 6,.t 9]]) (.seq (.region [0,3] [zm 11 0,zL 12 5 3,zc 13 62 [.t 12,zI 0],zc 14 61 [.t 11,.t 13,zI 8,zB true]]) (.seq (.region [0,3] [zm 15 0,zn 16 15,zf 17 16 0,zc 18 49 [.t 17,zS [32,124,32]]]) (.region [] [zm 19 0,
  zL 20 5 3,zc 21 62 [.t 20,zI 1],zc 22 40 [.t 19,.t 21,zB true]])))))
theorem ok65:FOk Tryd.prog 65 fc65:=FOk.of Tryd.func65 (by kernel_rfl)
def fc66_b0:SC:=
 (.loc (.seq (.region [0,2,3,10,11,12,13] [zo 13 (.bin .lss (.t 12) (.t 11))]) (.seq (.cond (.t 13) .skip (.exit 0)) (.seq (.block 1 (.seq (.region [0,2,3,8,9,10,11,12] [zm 14 12,zo 15 (.iaddr none 5 (.t 10) (.t 12)),zL 16 5 15,zo 9 (.alloc [.int .i64 0,.str [],.int .i64 0,.nils,.int .i64 0]),zm 8 14,zs 5 9 16]) (.seq (.seq (.region [0,2,3,9,10,11,12,18] [zm 17 8,zo 18
 (.bin .gtr (.t 17) (zI 0))]) (.cond (.t 18) (.region [0,2,3,9,10,11,12] [zm 19 0,zn 20 19,zf 21 20 0,zm 22 2,zc 23 49 [.t 21,.t 22]]) .skip)) (.region [0,2,3,10,11,12] [zm 24 3,zL 25 5 9,zo 26 (.call (.t 24) [.t 25])])))) (.region [0,2,3,10,11,12] [zo 27 (.bin .add (.t 12) (zI 1)),zm 12 27])))))
def fc66:FC where
 nt:=28
 np:=4
 res:=[]
 body:=(.seq (.region [0,2,3,10,11,12] [zm 10 1,ze 11 1 10,zi 12 0]) (.block 0 (.loop [0,2,3,10,11,12] fc66_b0)))
theorem ok66:FOk Tryd.prog 66 fc66:=FOk.of Tryd.func66 (by kernel_rfl)
def fc67:FC where
 nt:=7
 np:=2
 res:=[]
 body:=(.seq (.region [0,3] [zo 3 (.box (.t 1))]) (.region [] [zm 4 0,zL 5 5 3,zc 6 61 [.t 4,.t 5,zI 8,zB true]]))
theorem ok67:FOk Tryd.prog 67 fc67:=FOk.of Tryd.func67 (by kernel_rfl)
def fc68:FC where
 nt:=35
 np:=1
 res:=[.t 2]
 body:=(.seq (.region [0] [zo 2 (.move (zS []))]) (.seq (.seq (.region [3] [zm 3 0]) (.block 0 (.seq (.region [3,4] [zo 5 (.bin .eql (.t 3) (zI 44)),zm 4 5]) (.cond (.t 4) (.seq (.region [2] [zo 2 (.move (zS [60,61,62]))]) .ret) (.seq (.region [3,6] [zo 7 (.bin .eql (.t 3) (zI 43)),zm 6 7]) (.cond (.t 6) (.seq (.region [2] [zo 2 (.move (zS [61,62]))]) .ret) (.seq (.region
  [3,8] [zo 9 (.bin .eql (.t 3) (zI 42)),zm 8 9]) (.cond (.t 8) (.seq (.region [2] [zo 2 (.move (zS [124,124]))]) .ret) (.seq (.region [3,10] [zo 11 (.bin .eql (.t 3) (zI 41)),zm 10 11]) (.cond (.t 10) (.seq (.region [2] [zo 2 (.move (zS [38,38]))]) .ret) (.seq (.region [3,12] [zo 13 (.bin .eql (.t 3) (zI 51)),zm 12 13]) (.cond (.t 12) (.seq (.region [2] [zo 2 (.move (zS
  [117,110,116,105,108]))]) .ret) (.seq (.region [3,14] [zo 15 (.bin .eql (.t 3) (zI 32)),zm 14 15]) (.cond (.t 14) (.seq (.region [2] [zo 2 (.move (zS [105,110]))]) .ret) (.seq (.seq (.region [3,16] [zo 17 (.bin .eql (.t 3) (zI 33)),zm 16 17]) (.cond (.t 16) .skip (.region [3,16] [zo 18 (.bin .eql (.t 3) (zI 38)),zm 16 18]))) (.cond (.t 16) (.seq (.region [2] [zo 2 (.move (zS
  [61]))]) .ret) (.seq (.region [3,19] [zo 20 (.bin .eql (.t 3) (zI 39)),zm 19 20]) (.cond (.t 19) (.seq (.region [2] [zo 2 (.move (zS [60]))]) .ret) (.seq (.seq (.region [3,21] [zo 22 (.bin .eql (.t 3) (zI 6)),zm 21 22]) (.cond (.t 21) .skip (.region [3,21] [zo 23 (.bin .eql (.t 3) (zI 22)),zm 21 23]))) (.cond (.t 21) (.seq (.region [2] [zo 2 (.move (zS [43]))]) .ret) (.seq
  (.seq (.region [3,24] [zo 25 (.bin .eql (.t 3) (zI 8)),zm 24 25]) (.cond (.t 24) .skip (.region [3,24] [zo 26 (.bin .eql (.t 3) (zI 23)),zm 24 26]))) (.cond (.t 24) (.seq (.region [2] [zo 2 (.move (zS [45]))]) .ret) (.seq (.region [3,27] [zo 28 (.bin .eql (.t 3) (zI 14)),zm 27 28]) (.cond (.t 27) (.seq (.region [2] [zo 2 (.move (zS [43,43]))]) .ret) (.seq (.region [3,29]
  [zo 30 (.bin .eql (.t 3) (zI 7)),zm 29 30]) (.cond (.t 29) (.seq (.region [2] [zo 2 (.move (zS [38]))]) .ret) (.seq (.region [3,31] [zo 32 (.bin .eql (.t 3) (zI 10)),zm 31 32]) (.cond (.t 31) (.seq (.region [2] [zo 2 (.move (zS [45,62]))]) .ret) (.seq (.region [33] [zo 34 (.bin .eql (.t 3) (zI 9)),zm 33 34]) (.cond (.t 33) (.seq (.region [2] [zo 2 (.move (zS
  [46]))]) .ret) .skip)))))))))))))))))))))))))))))) (.seq (.region [2] [zo 2 (.move (zS []))]) .ret)))
theorem ok68:FOk Tryd.prog 68 fc68:=FOk.of Tryd.func68 (by kernel_rfl)
def fc69:FC where
 nt:=53
 np:=2
 res:=[.t 4]
 body:=(.seq (.region [1,2] [zo 2 (.box (.t 0)),zo 4 (.move (zS []))]) (.seq (.region [1,2,5] [zf 9 2 0,zl 10 9,zc 11 71 [.t 10],zm 5 11]) (.seq (.region [1,2,5,6] [zm 12 5,zm 6 12]) (.seq (.region [1,2,5,6,7] [zm 13 5,zo 14 (.bin .add (.t 13) (zI 1)),zm 7 14]) (.seq (.seq (.region [1,2,5,6,7,22] [zf 15 2 0,zl 16 15,zo 17 (.bin .eql (.t 16) (zI 43)),zm 18 17,zg 19 (.faddr
  (.t 2) 0) 18 false,zg 20 (.load none (.t 19)) 18 false,zg 21 (.bin .eql (.t 20) (zI 51)) 18 false,zb 22 18 21]) (.cond (.t 22) (.seq (.region [1,2,5,6] [zm 23 5,zo 24 (.bin .add (.t 23) (zI 1)),zm 6 24]) (.region [1,2,5,6,7] [zm 25 5,zm 7 25])) .skip)) (.seq (.seq (.region [1,2,6,7,27] [zm 26 5,zo 27 (.bin .eql (.t 26) (zI 7))]) (.cond (.t 27) (.region [1,2,6,7]
  [zi 6 8]) .skip)) (.seq (.region [1,2,6,7,8] [zf 28 2 0,zl 29 28,zc 30 68 [.t 29],zm 8 30]) (.seq (.seq (.region [1,2,6,7,8,33] [zf 31 2 0,zl 32 31,zo 33 (.bin .neq (.t 32) (zI 9))]) (.cond (.t 33) (.region [1,2,6,7,8] [zm 34 8,zo 35 (.bin .add (zS [32]) (.t 34)),zo 36 (.bin .add (.t 35) (zS [32])),zm 8 36]) .skip)) (.seq (.draw [4] [(1,9),(3,9),(5,9),(1,11),(3,11),(5,11)]
  [zf 37 2 3,zl 38 37,zo 39 (.iaddr none 5 (.t 38) (zI 0)),zL 40 5 39,zm 41 6,zc 42 72 [.t 40,.t 41,zB false],zm 43 8,zo 44 (.bin .add (.t 42) (.t 43)),zf 45 2 3,zl 46 45,zo 47 (.iaddr none 5 (.t 46) (zI 1)),zL 48 5 47,zm 49 7,zm 50 1,zc 51 72 [.t 48,.t 49,.t 50],zo 52 (.bin .add (.t 44) (.t 51)),zm 4 52]) .ret)))))))))
theorem ok69:FOk Tryd.prog 69 fc69:=FOk.of Tryd.func69 (by kernel_rfl)
def fc70:FC where
 nt:=28
 np:=1
 res:=[.t 2]
 body:=(.seq (.region [0] [zo 2 (.move (zS []))]) (.seq (.seq (.region [3] [zm 3 0]) (.block 0 (.seq (.region [3,4] [zo 5 (.bin .eql (.t 3) (zI 40)),zm 4 5]) (.cond (.t 4) (.seq (.region [2] [zo 2 (.move (zS [110,111,116,32]))]) .ret) (.seq (.region [3,6] [zo 7 (.bin .eql (.t 3) (zI 48)),zm 6 7]) (.cond (.t 6) (.seq (.region [2] [zo 2 (.move (zS
  [97,108,119,97,121,115,32]))]) .ret) (.seq (.region [3,8] [zo 9 (.bin .eql (.t 3) (zI 49)),zm 8 9]) (.cond (.t 8) (.seq (.region [2] [zo 2 (.move (zS [101,118,101,110,116,117,97,108,108,121,32]))]) .ret) (.seq (.region [3,10] [zo 11 (.bin .eql (.t 3) (zI 50)),zm 10 11]) (.cond (.t 10) (.seq (.region [2] [zo 2 (.move (zS [97,102,116,101,114,32]))]) .ret) (.seq (.region [3,12]
  [zo 13 (.bin .eql (.t 3) (zI 35)),zm 12 13]) (.cond (.t 12) (.seq (.region [2] [zo 2 (.move (zS [110,111,32]))]) .ret) (.seq (.region [3,14] [zo 15 (.bin .eql (.t 3) (zI 34)),zm 14 15]) (.cond (.t 14) (.seq (.region [2] [zo 2 (.move (zS [115,111,109,101,32]))]) .ret) (.seq (.region [3,16] [zo 17 (.bin .eql (.t 3) (zI 36)),zm 16 17]) (.cond (.t 16) (.seq (.region [2] [zo 2
  (.move (zS [111,110,101,32]))]) .ret) (.seq (.region [3,18] [zo 19 (.bin .eql (.t 3) (zI 37)),zm 18 19]) (.cond (.t 18) (.seq (.region [2] [zo 2 (.move (zS [108,111,110,101,32]))]) .ret) (.seq (.region [3,20] [zo 21 (.bin .eql (.t 3) (zI 21)),zm 20 21]) (.cond (.t 20) (.seq (.region [2] [zo 2 (.move (zS [35]))]) .ret) (.seq (.region [3,22] [zo 23 (.bin .eql (.t 3) (zI 11)),
  zm 22 23]) (.cond (.t 22) (.seq (.region [2] [zo 2 (.move (zS [126]))]) .ret) (.seq (.region [3,24] [zo 25 (.bin .eql (.t 3) (zI 12)),zm 24 25]) (.cond (.t 24) (.seq (.region [2] [zo 2 (.move (zS [94]))]) .ret) (.seq (.region [26] [zo 27 (.bin .eql (.t 3) (zI 13)),zm 26 27]) (.cond (.t 26) (.seq (.region [2] [zo 2 (.move (zS [42]))]) .ret) .skip))))))))))))))))))))))))))
  (.seq (.region [2] [zo 2 (.move (zS []))]) .ret)))
theorem ok70:FOk Tryd.prog 70 fc70:=FOk.of Tryd.func70 (by kernel_rfl)
def fc71:FC where
 nt:=48
 np:=1
 res:=[.t 2]
 body:=(.seq (.region [0] [zi 2 0]) (.seq (.seq (.region [3] [zm 3 0]) (.block 0 (.seq (.region [3,4] [zo 5 (.bin .eql (.t 3) (zI 44)),zm 4 5]) (.cond (.t 4) (.seq (.region [2] [zi 2 1]) .ret) (.seq (.region [3,6] [zo 7 (.bin .eql (.t 3) (zI 43)),zm 6 7]) (.cond (.t 6) (.seq (.region [2] [zi 2 2]) .ret) (.seq (.region [3,8] [zo 9 (.bin .eql (.t 3) (zI 42)),zm 8 9]) (.cond
  (.t 8) (.seq (.region [2] [zi 2 3]) .ret) (.seq (.region [3,10] [zo 11 (.bin .eql (.t 3) (zI 41)),zm 10 11]) (.cond (.t 10) (.seq (.region [2] [zi 2 4]) .ret) (.seq (.region [3,12] [zo 13 (.bin .eql (.t 3) (zI 51)),zm 12 13]) (.cond (.t 12) (.seq (.region [2] [zi 2 5]) .ret) (.seq (.seq (.region [3,14] [zo 15 (.bin .eql (.t 3) (zI 40)),zm 14 15]) (.cond (.t 14) .skip (.seq
  (.region [3,14] [zo 16 (.bin .eql (.t 3) (zI 48)),zm 14 16]) (.cond (.t 14) .skip (.seq (.region [3,14] [zo 17 (.bin .eql (.t 3) (zI 49)),zm 14 17]) (.cond (.t 14) .skip (.region [3,14] [zo 18 (.bin .eql (.t 3) (zI 50)),zm 14 18]))))))) (.cond (.t 14) (.seq (.region [2] [zi 2 6]) .ret) (.seq (.seq (.region [3,19] [zo 20 (.bin .eql (.t 3) (zI 32)),zm 19 20]) (.cond
  (.t 19) .skip (.seq (.region [3,19] [zo 21 (.bin .eql (.t 3) (zI 33)),zm 19 21]) (.cond (.t 19) .skip (.seq (.region [3,19] [zo 22 (.bin .eql (.t 3) (zI 38)),zm 19 22]) (.cond (.t 19) .skip (.seq (.region [3,19] [zo 23 (.bin .eql (.t 3) (zI 39)),zm 19 23]) (.cond (.t 19) .skip (.seq (.region [3,19] [zo 24 (.bin .eql (.t 3) (zI 35)),zm 19 24]) (.cond (.t 19) .skip (.seq
  (.region [3,19] [zo 25 (.bin .eql (.t 3) (zI 34)),zm 19 25]) (.cond (.t 19) .skip (.seq (.region [3,19] [zo 26 (.bin .eql (.t 3) (zI 36)),zm 19 26]) (.cond (.t 19) .skip (.region [3,19] [zo 27 (.bin .eql (.t 3) (zI 37)),zm 19 27]))))))))))))))) (.cond (.t 19) (.seq (.region [2] [zi 2 7]) .ret) (.seq (.seq (.region [3,28] [zo 29 (.bin .eql (.t 3) (zI 6)),zm 28 29]) (.cond
  (.t 28) .skip (.seq (.region [3,28] [zo 30 (.bin .eql (.t 3) (zI 8)),zm 28 30]) (.cond (.t 28) .skip (.seq (.region [3,28] [zo 31 (.bin .eql (.t 3) (zI 22)),zm 28 31]) (.cond (.t 28) .skip (.region [3,28] [zo 32 (.bin .eql (.t 3) (zI 23)),zm 28 32]))))))) (.cond (.t 28) (.seq (.region [2] [zi 2 8]) .ret) (.seq (.region [3,33] [zo 34 (.bin .eql (.t 3) (zI 14)),zm 33 34])
  (.cond (.t 33) (.seq (.region [2] [zi 2 9]) .ret) (.seq (.region [3,35] [zo 36 (.bin .eql (.t 3) (zI 7)),zm 35 36]) (.cond (.t 35) (.seq (.region [2] [zi 2 10]) .ret) (.seq (.region [3,37] [zo 38 (.bin .eql (.t 3) (zI 10)),zm 37 38]) (.cond (.t 37) (.seq (.region [2] [zi 2 11]) .ret) (.seq (.seq (.region [3,39] [zo 40 (.bin .eql (.t 3) (zI 9)),zm 39 40]) (.cond (.t 39) .skip
  (.region [3,39] [zo 41 (.bin .eql (.t 3) (zI 21)),zm 39 41]))) (.cond (.t 39) (.seq (.region [2] [zi 2 12]) .ret) (.seq (.seq (.region [3,42] [zo 43 (.bin .eql (.t 3) (zI 11)),zm 42 43]) (.cond (.t 42) .skip (.seq (.region [3,42] [zo 44 (.bin .eql (.t 3) (zI 12)),zm 42 44]) (.cond (.t 42) .skip (.region [3,42] [zo 45 (.bin .eql (.t 3) (zI 13)),zm 42 45]))))) (.cond (.t 42)
  (.seq (.region [2] [zi 2 13]) .ret) (.seq (.region [46] [zo 47 (.bin .eql (.t 3) (zI 5)),zm 46 47]) (.cond (.t 46) (.seq (.region [2] [zi 2 14]) .ret) .skip)))))))))))))))))))))))))))))) (.seq (.region [2] [zi 2 15]) .ret)))
theorem ok71:FOk Tryd.prog 71 fc71:=FOk.of Tryd.func71 (by kernel_rfl)
def fc72:FC where
 nt:=35
 np:=3
 res:=[.t 6]
 body:=(.seq (.region [1,2,3] [zo 3 (.box (.t 0)),zo 6 (.move (zS []))]) (.seq (.region [1,2,3,7] [zf 8 3 0,zl 9 8,zo 10 (.bin .eql (.t 9) (zI 45)),zm 11 10,zg 12 (.faddr (.t 3) 0) 11 false,zg 13 (.load none (.t 12)) 11 false,zg 14 (.bin .eql (.t 13) (zI 46)) 11 false,zb 15 11 14,zm 7 15]) (.seq (.seq (.region [2,3,27] [zf 16 3 0,zl 17 16,zc 18 71 [.t 17],zm 19 1,zo 20
  (.bin .lss (.t 18) (.t 19)),zm 21 20,zg 22 (.move (.t 7)) 21 false,zg 23 (.move (.t 22)) 21 false,zg 24 (.move (.t 2)) 23 true,zg 25 (.un .not (.t 24)) 23 true,zg 26 (.pick (.t 23) (.t 25) (zB false)) 21 false,zb 27 21 26]) (.cond (.t 27) (.seq (.region [6] [zL 28 5 3,zc 29 42 [.t 28,zB true],zo 30 (.bin .add (zS [40]) (.t 29)),zo 31 (.bin .add (.t 30) (zS [41])),
  zm 6 31]) .ret) .skip)) (.seq (.region [6] [zL 32 5 3,zm 33 2,zc 34 42 [.t 32,.t 33],zm 6 34]) .ret))))
theorem ok72:FOk Tryd.prog 72 fc72:=FOk.of Tryd.func72 (by kernel_rfl)
def fc73:FC where
 nt:=26
 np:=1
 res:=[.t 2]
 body:=(.seq (.region [0] [zo 2 (.move (zS []))]) (.seq (.seq (.region [0,4] [zm 3 0,zo 4 (.bin .lss (.t 3) (zI 0))]) (.cond (.t 4) (.seq (.region [2] [zm 5 0,zo 6 (.bin .sub (zI 0) (.t 5)),zc 7 73 [.t 6],zo 8 (.bin .add (zS [45]) (.t 7)),zm 2 8]) .ret) .skip)) (.seq (.seq (.region [0,10] [zm 9 0,zo 10 (.bin .lss (.t 9) (zI 10))]) (.cond (.t 10) (.seq (.region [2] [zm 11 0,
  zo 12 (.bin .add (zI 48) (.t 11)),zo 13 (.conv .u8 (.t 12)),zo 14 (.bslice 5 1 1 (.int .u8 0) [(0,(.t 13))]),zo 15 (.toStr (.t 14)),zm 2 15]) .ret) .skip)) (.seq (.draw [2] [(2,8)] [zm 16 0,zo 17 (.bin .quo (.t 16) (zI 10)),zc 18 73 [.t 17],zm 19 0,zo 20 (.bin .rem (.t 19) (zI 10)),zo 21 (.bin .add (zI 48) (.t 20)),zo 22 (.conv .u8 (.t 21)),zo 23 (.bslice 5 1 1 (.int .u8 0)
  [(0,(.t 22))]),zo 24 (.toStr (.t 23)),zo 25 (.bin .add (.t 18) (.t 24)),zm 2 25]) .ret))))
theorem ok73:FOk Tryd.prog 73 fc73:=FOk.of Tryd.func73 (by kernel_rfl)
def fc74:FC where
 nt:=19
 np:=1
 res:=[.t 2]
 body:=(.seq (.region [1] [zo 1 (.box (.t 0)),zo 2 (.move (zS []))]) (.seq (.draw [2] [(1,4),(1,6),(1,7),(1,11),(4,11),(6,11),(7,11),(1,13),(4,13),(6,13),(7,13),(1,14)] [zf 3 1 1,zl 4 3,zo 5 (.bin .add (.t 4) (zS [58,32])),zf 6 1 3,zl 7 6,zo 8 (.iaddr none 5 (.t 7) (zI 0)),zL 9 5 8,zc 10 72 [.t 9,zI 8,zB true],zo 11 (.bin .add (.t 5) (.t 10)),zo 12 (.bin .add (.t 11) (zS
  [32,124,32])),zf 13 1 3,zl 14 13,zo 15 (.iaddr none 5 (.t 14) (zI 1)),zL 16 5 15,zc 17 42 [.t 16,zB true],zo 18 (.bin .add (.t 12) (.t 17)),zm 2 18]) .ret))
theorem ok74:FOk Tryd.prog 74 fc74:=FOk.of Tryd.func74 (by kernel_rfl)
def fc75:FC where
 nt:=10
 np:=1
 res:=[.t 2]
 body:=(.seq (.region [0] [zo 2 (.move (zS []))]) (.seq (.seq (.region [3] [zm 3 0]) (.block 0 (.seq (.region [3,4] [zo 5 (.bin .eql (.t 3) (zI 3)),zm 4 5]) (.cond (.t 4) (.seq (.region [2] [zo 2 (.move (zS [117,110,105,118]))]) .ret) (.seq (.region [3,6] [zo 7 (.bin .eql (.t 3) (zI 4)),zm 6 7]) (.cond (.t 6) (.seq (.region [2] [zo 2 (.move (zS [105,100,101,110]))]) .ret)
  (.seq (.region [8] [zo 9 (.bin .eql (.t 3) (zI 30)),zm 8 9]) (.cond (.t 8) (.seq (.region [2] [zo 2 (.move (zS [116,114,117,101]))]) .ret) .skip)))))))) (.seq (.region [2] [zo 2 (.move (zS [102,97,108,115,101]))]) .ret)))
theorem ok75:FOk Tryd.prog 75 fc75:=FOk.of Tryd.func75 (by kernel_rfl)
def fc76_b0:SC:=
 (.seq (.seq (.region [0,3,4,9] [zm 6 4,zm 7 3,ze 8 1 7,zo 9 (.bin .lss (.t 6) (.t 8))]) (.cond (.t 9) .skip (.exit 0))) (.seq (.block 1 (.seq (.region [0,3,4,17] [zm 12 3,zm 13 4,zo 14 (.iaddr none 1 (.t 12) (.t 13)),zl 15 14,zm 16 0,zo 17 (.bin .eql (.t 15) (.t 16))]) (.cond (.t 17) (.seq (.region [2] [zo 2 (.move (zB true))]) .ret) .skip))) (.region [0,3,4] [zm 10 4,zo 11
 (.bin .add (.t 10) (zI 1)),zm 4 11])))
def fc76:FC where
 nt:=18
 np:=1
 res:=[.t 2]
 body:=(.seq (.region [0] [zo 2 (.move (zB false))]) (.seq (.region [0,3] [zo 5 (.bslice 9 1 22 (.str []) [(0,(zS [115,111,114,116])),(1,(zS [111,114,100,101,114,101,100])),(2,(zS [118,97,114])),(3,(zS [102,105,101,108,100])),(4,(zS [112,114,101,100])),(5,(zS [102,97,99,116])),(6,(zS [97,108,108])),(7,(zS [115,111,109,101])),(8,(zS [110,111])),(9,(zS [111,110,101])),(10,(zS
  [108,111,110,101])),(11,(zS [97,108,119,97,121,115])),(12,(zS [101,118,101,110,116,117,97,108,108,121])),(13,(zS [97,102,116,101,114])),(14,(zS [117,110,116,105,108])),(15,(zS [110,111,110,101])),(16,(zS [117,110,105,118])),(17,(zS [105,100,101,110])),(18,(zS [105,110])),(19,(zS [110,111,116])),(20,(zS [116,114,117,101])),(21,(zS [102,97,108,115,101]))]),zm 3 5]) (.seq (.seq
  (.region [0,3,4] [zi 4 0]) (.block 0 (.loop [0,3,4] fc76_b0))) (.seq (.region [2] [zo 2 (.move (zB false))]) .ret))))
theorem ok76:FOk Tryd.prog 76 fc76:=FOk.of Tryd.func76 (by kernel_rfl)
def fc78_b0:SC:=
 (.seq (.seq (.region [1,6,7,64] [zm 58 7,zm 59 1,zo 60 (.bin .lss (.t 58) (.t 59)),zm 61 60,zg 62 (.move (.t 7)) 61 true,zg 63 (.bin .lss (.t 62) (zI 401)) 61 true,za 64 61 63]) (.cond (.t 64) .skip (.exit 1))) (.seq (.block 2 (.region [1,6,7] [zm 67 6,zo 68 (.bin .add (.t 67) (zS [101])),zm 6 68])) (.region [1,6,7] [zm 65 7,zo 66 (.bin .add (.t 65) (zI 1)),zm 7 66])))
def fc78:FC where
 nt:=70
 np:=2
 res:=[.t 4,.t 5]
 body:=(.seq (.region [0,1] [zo 4 (.move (zS [])),zo 5 (.move (zB false))]) (.seq (.seq (.region [1,8] [zm 8 0]) (.block 0 (.seq (.seq (.region [1,8,9] [zo 10 (.bin .eql (.t 8) (zI 1)),zm 9 10]) (.cond (.t 9) .skip (.seq (.region [1,8,9] [zo 11 (.bin .eql (.t 8) (zI 2)),zm 9 11]) (.cond (.t 9) .skip (.seq (.region [1,8,9] [zo 12 (.bin .eql (.t 8) (zI 3)),zm 9 12]) (.cond
  (.t 9) .skip (.seq (.region [1,8,9] [zo 13 (.bin .eql (.t 8) (zI 4)),zm 9 13]) (.cond (.t 9) .skip (.seq (.region [1,8,9] [zo 14 (.bin .eql (.t 8) (zI 20)),zm 9 14]) (.cond (.t 9) .skip (.seq (.region [1,8,9] [zo 15 (.bin .eql (.t 8) (zI 30)),zm 9 15]) (.cond (.t 9) .skip (.region [1,8,9] [zo 16 (.bin .eql (.t 8) (zI 31)),zm 9 16]))))))))))))) (.cond (.t 9) (.seq (.region
  [4,5] [zo 4 (.move (zS [])),zo 5 (.move (zB true))]) .ret) (.seq (.seq (.region [1,8,17] [zo 18 (.bin .eql (.t 8) (zI 5)),zm 17 18]) (.cond (.t 17) .skip (.seq (.region [1,8,17] [zo 19 (.bin .eql (.t 8) (zI 11)),zm 17 19]) (.cond (.t 17) .skip (.seq (.region [1,8,17] [zo 20 (.bin .eql (.t 8) (zI 12)),zm 17 20]) (.cond (.t 17) .skip (.seq (.region [1,8,17] [zo 21 (.bin .eql
  (.t 8) (zI 13)),zm 17 21]) (.cond (.t 17) .skip (.seq (.region [1,8,17] [zo 22 (.bin .eql (.t 8) (zI 21)),zm 17 22]) (.cond (.t 17) .skip (.seq (.region [1,8,17] [zo 23 (.bin .eql (.t 8) (zI 34)),zm 17 23]) (.cond (.t 17) .skip (.seq (.region [1,8,17] [zo 24 (.bin .eql (.t 8) (zI 35)),zm 17 24]) (.cond (.t 17) .skip (.seq (.region [1,8,17] [zo 25 (.bin .eql (.t 8) (zI 36)),
  zm 17 25]) (.cond (.t 17) .skip (.region [1,8,17] [zo 26 (.bin .eql (.t 8) (zI 37)),zm 17 26]))))))))))))))))) (.cond (.t 17) (.seq (.region [4,5] [zo 4 (.move (zS [101])),zo 5 (.move (zB true))]) .ret) (.seq (.seq (.region [1,8,27] [zo 28 (.bin .eql (.t 8) (zI 6)),zm 27 28]) (.cond (.t 27) .skip (.seq (.region [1,8,27] [zo 29 (.bin .eql (.t 8) (zI 7)),zm 27 29]) (.cond
  (.t 27) .skip (.seq (.region [1,8,27] [zo 30 (.bin .eql (.t 8) (zI 8)),zm 27 30]) (.cond (.t 27) .skip (.seq (.region [1,8,27] [zo 31 (.bin .eql (.t 8) (zI 9)),zm 27 31]) (.cond (.t 27) .skip (.seq (.region [1,8,27] [zo 32 (.bin .eql (.t 8) (zI 10)),zm 27 32]) (.cond (.t 27) .skip (.seq (.region [1,8,27] [zo 33 (.bin .eql (.t 8) (zI 14)),zm 27 33]) (.cond (.t 27) .skip (.seq
  (.region [1,8,27] [zo 34 (.bin .eql (.t 8) (zI 32)),zm 27 34]) (.cond (.t 27) .skip (.region [1,8,27] [zo 35 (.bin .eql (.t 8) (zI 33)),zm 27 35]))))))))))))))) (.cond (.t 27) (.seq (.region [4,5] [zo 4 (.move (zS [101,101])),zo 5 (.move (zB true))]) .ret) (.seq (.seq (.region [1,8,36] [zo 37 (.bin .eql (.t 8) (zI 15)),zm 36 37]) (.cond (.t 36) .skip (.seq (.region [1,8,36]
  [zo 38 (.bin .eql (.t 8) (zI 45)),zm 36 38]) (.cond (.t 36) .skip (.region [1,8,36] [zo 39 (.bin .eql (.t 8) (zI 46)),zm 36 39]))))) (.cond (.t 36) (.seq (.region [4,5] [zo 4 (.move (zS [101,102])),zo 5 (.move (zB true))]) .ret) (.seq (.seq (.region [1,8,40] [zo 41 (.bin .eql (.t 8) (zI 22)),zm 40 41]) (.cond (.t 40) .skip (.seq (.region [1,8,40] [zo 42 (.bin .eql (.t 8)
  (zI 23)),zm 40 42]) (.cond (.t 40) .skip (.seq (.region [1,8,40] [zo 43 (.bin .eql (.t 8) (zI 38)),zm 40 43]) (.cond (.t 40) .skip (.region [1,8,40] [zo 44 (.bin .eql (.t 8) (zI 39)),zm 40 44]))))))) (.cond (.t 40) (.seq (.region [4,5] [zo 4 (.move (zS [105,105])),zo 5 (.move (zB true))]) .ret) (.seq (.seq (.region [1,8,45] [zo 46 (.bin .eql (.t 8) (zI 40)),zm 45 46]) (.cond
  (.t 45) .skip (.seq (.region [1,8,45] [zo 47 (.bin .eql (.t 8) (zI 48)),zm 45 47]) (.cond (.t 45) .skip (.seq (.region [1,8,45] [zo 48 (.bin .eql (.t 8) (zI 49)),zm 45 48]) (.cond (.t 45) .skip (.region [1,8,45] [zo 49 (.bin .eql (.t 8) (zI 50)),zm 45 49]))))))) (.cond (.t 45) (.seq (.region [4,5] [zo 4 (.move (zS [102])),zo 5 (.move (zB true))]) .ret) (.seq (.seq (.region
  [1,8,50] [zo 51 (.bin .eql (.t 8) (zI 41)),zm 50 51]) (.cond (.t 50) .skip (.seq (.region [1,8,50] [zo 52 (.bin .eql (.t 8) (zI 42)),zm 50 52]) (.cond (.t 50) .skip (.seq (.region [1,8,50] [zo 53 (.bin .eql (.t 8) (zI 43)),zm 50 53]) (.cond (.t 50) .skip (.seq (.region [1,8,50] [zo 54 (.bin .eql (.t 8) (zI 44)),zm 50 54]) (.cond (.t 50) .skip (.region [1,8,50] [zo 55
  (.bin .eql (.t 8) (zI 51)),zm 50 55]))))))))) (.cond (.t 50) (.seq (.region [4,5] [zo 4 (.move (zS [102,102])),zo 5 (.move (zB true))]) .ret) (.seq (.region [1,56] [zo 57 (.bin .eql (.t 8) (zI 47)),zm 56 57]) (.cond (.t 56) (.seq (.region [1,6] [zo 6 (.move (zS []))]) (.seq (.seq (.region [1,6,7] [zi 7 0]) (.block 1 (.loop [1,6,7] fc78_b0))) (.seq (.region [4,5] [zm 69 6,
  zm 4 69,zo 5 (.move (zB true))]) .ret))) .skip)))))))))))))))))) (.seq (.region [4,5] [zo 4 (.move (zS [])),zo 5 (.move (zB false))]) .ret)))
theorem ok78:FOk Tryd.prog 78 fc78:=FOk.of Tryd.func78 (by kernel_rfl)
def fc79:FC where
 nt:=35
 np:=2
 res:=[.t 4]
 body:=(.seq (.region [0,1] [zi 4 0]) (.seq (.seq (.region [0,1,5,6] [zm 10 0,zn 11 10,zf 12 11 2,zl 13 12,zm 14 1,zo 15 (.mapget 13 (.agg [.str [],.int .i64 0,.int .i64 0,.int .i64 0]) true (.t 13) (.t 14)),zm 9 15,zx 16 9 0,zx 17 9 1,zo 5 (.alloc [.str [],.int .i64 0,.int .i64 0,.int .i64 0]),zs 4 5 16,zm 6 17]) (.seq (.region [0,1,5,18] [zm 18 6]) (.cond (.t 18) (.seq
  (.region [4] [zf 19 5 1,zl 20 19,zm 4 20]) .ret) .skip))) (.seq (.seq (.region [1,7,8] [zm 22 0,zn 23 22,zf 24 23 3,zl 25 24,zm 26 1,zo 27 (.mapget 13 (.agg [.str [],.int .i64 0,.int .i64 0,.int .i64 0]) true (.t 25) (.t 26)),zm 21 27,zx 28 21 0,zx 29 21 1,zo 7 (.alloc [.str [],.int .i64 0,.int .i64 0,.int .i64 0]),zs 4 7 28,zm 8 29]) (.seq (.region [1,7,30] [zm 30 8]) (.cond
  (.t 30) (.seq (.region [4] [zf 31 7 1,zl 32 31,zm 4 32]) .ret) .skip))) (.seq (.seq (.region [34] [zm 33 1,zo 34 (.bin .eql (.t 33) (zI 5))]) (.cond (.t 34) (.seq (.region [4] [zi 4 14]) .ret) .skip)) (.seq (.region [4] [zi 4 15]) .ret)))))
theorem ok79:FOk Tryd.prog 79 fc79:=FOk.of Tryd.func79 (by kernel_rfl)
def pgL:CallR:=fun f args H=>
 match f,args with
 | 63,[.p (.int .i64 n)]=>if -9223372036854775808≤n∧n≤9223372036854775807 then some (.val (.p (.str (Lib.itoa n))),H) else none
 | 77,[.box 0 0]=>match H.bx with
  |(.fresh 78 4 0::r)::l=>some (.val .undef,{H with bx:=(.box 0 0::r)::l})
  |(.box 0 0::_)::_=>some (.val .undef,H)
  |_=>none
 |_,_=>none
def pgF:Nat→Option FC
 | 3=>some fc3 | 6=>some fc6 | 7=>some fc7 | 8=>some fc8 | 9=>some fc9 | 10=>some fc10
 | 11=>some fc11 | 12=>some fc12 | 13=>some fc13 | 14=>some fc14 | 15=>some fc15 | 16=>some fc16 | 17=>some fc17 | 18=>some fc18 | 19=>some fc19 | 20=>some fc20
 | 21=>some fc21 | 22=>some fc22 | 23=>some fc23 | 24=>some fc24 | 25=>some fc25 | 26=>some fc26 | 27=>some fc27 | 28=>some fc28 | 29=>some fc29 | 30=>some fc30
 | 31=>some fc31 | 32=>some fc32 | 33=>some fc33 | 34=>some fc34 | 35=>some fc35 | 36=>some fc36 | 37=>some fc37 | 38=>some fc38 | 39=>some fc39 | 40=>some fc40
 | 41=>some fc41 | 42=>some fc42 | 43=>some fc43 | 44=>some fc44 | 45=>some fc45 | 46=>some fc46 | 47=>some fc47 | 48=>some fc48 | 49=>some fc49 | 50=>some fc50
 | 51=>some fc51 | 52=>some fc52 | 53=>some fc53 | 54=>some fc54 | 55=>some fc55 | 56=>some fc56 | 57=>some fc57 | 58=>some fc58 | 59=>some fc59 | 60=>some fc60
 | 61=>some fc61 | 62=>some fc62 | 64=>some fc64 | 65=>some fc65 | 66=>some fc66 | 67=>some fc67 | 68=>some fc68 | 69=>some fc69 | 70=>some fc70
 | 71=>some fc71 | 72=>some fc72 | 73=>some fc73 | 74=>some fc74 | 75=>some fc75 | 76=>some fc76 | 78=>some fc78 | 79=>some fc79
 |_=>none
def pgG:Nat→Option (List PD):=fun _=>none
def pg:Pg:={F:=pgF,G:=pgG,lib:=pgL}
end Go.Proofs.YtalgjkpkkdljaaaDoor
namespace Go.Proofs.YtalgjkpkkdljaaaDoor
open Go.Proofs
def ren171:Go.Shelf.Ren where
 f:=fun | 171=>63 | 243=>80 | 246=>82 | 283=>83 | 284=>84 | 285=>85 | 286=>86 | 129=>88 | 317=>87 | 318=>89 | 319=>90 | 320=>91 | 337=>92 | 338=>93 |n=>n
 t:=fun | 3=>3 | 9=>9 | 2=>2 | 4=>4 | 171=>115 | 0=>0 | 53=>116 | 37=>73 | 5=>5 | 173=>119 | 212=>122 | 51=>123 | 20=>20 | 213=>124 | 46=>126 | 232=>129 | 233=>130 |n=>n
 g:=fun | 17=>0 | 18=>1 | 19=>2 |n=>n
theorem lays171:Go.Proofs.LaysM.n171 Tryd.prog ren171 where
 i171:=by kernel_rfl
 i212:=by kernel_rfl
 i232:=by kernel_rfl
 i233:=by kernel_rfl
 mixed:=by kernel_rfl
 f129:=Tryd.func88.trans (by kernel_rfl)
 f171:=Tryd.func63.trans (by kernel_rfl)
 f243:=Tryd.func80.trans (by kernel_rfl)
 f246:=Tryd.func82.trans (by kernel_rfl)
 f283:=Tryd.func83.trans (by kernel_rfl)
 f284:=Tryd.func84.trans (by kernel_rfl)
 f285:=Tryd.func85.trans (by kernel_rfl)
 f286:=Tryd.func86.trans (by kernel_rfl)
 f317:=Tryd.func87.trans (by kernel_rfl)
 f318:=Tryd.func89.trans (by kernel_rfl)
 f319:=Tryd.func90.trans (by kernel_rfl)
 f320:=Tryd.func91.trans (by kernel_rfl)
 f337:=Tryd.func92.trans (by kernel_rfl)
 f338:=Tryd.func93.trans (by kernel_rfl)
 t0:=Tryd.underlying0
 a0:=Tryd.isAgg0
 z0:=Tryd.sizeOf0
 v0:=Tryd.zeroValue0
 t2:=Tryd.underlying2
 a2:=Tryd.isAgg2
 z2:=Tryd.sizeOf2
 v2:=Tryd.zeroValue2
 t3:=Tryd.underlying3
 a3:=Tryd.isAgg3
 z3:=Tryd.sizeOf3
 v3:=Tryd.zeroValue3
 t4:=Tryd.underlying4
 a4:=Tryd.isAgg4
 z4:=Tryd.sizeOf4
 v4:=Tryd.zeroValue4
 t5:=Tryd.underlying5
 a5:=Tryd.isAgg5
 z5:=Tryd.sizeOf5
 v5:=Tryd.zeroValue5
 t9:=Tryd.underlying9
 a9:=Tryd.isAgg9
 z9:=Tryd.sizeOf9
 v9:=Tryd.zeroValue9
 t20:=Tryd.underlying20
 a20:=Tryd.isAgg20
 z20:=Tryd.sizeOf20
 v20:=Tryd.zeroValue20
 t37:=Tryd.underlying73
 a37:=Tryd.isAgg73
 z37:=Tryd.sizeOf73
 v37:=Tryd.zeroValue73
 t46:=Tryd.underlying126
 a46:=Tryd.isAgg126
 z46:=Tryd.sizeOf126
 v46:=Tryd.zeroValue126
 t51:=Tryd.underlying123
 a51:=Tryd.isAgg123
 z51:=Tryd.sizeOf123
 v51:=Tryd.zeroValue123
 t53:=Tryd.underlying116
 a53:=Tryd.isAgg116
 z53:=Tryd.sizeOf116
 v53:=Tryd.zeroValue116
 t171:=Tryd.underlying115
 a171:=Tryd.isAgg115
 z171:=Tryd.sizeOf115
 v171:=Tryd.zeroValue115
 t173:=Tryd.underlying119
 a173:=Tryd.isAgg119
 z173:=Tryd.sizeOf119
 v173:=Tryd.zeroValue119
 t212:=Tryd.underlying122
 a212:=Tryd.isAgg122
 z212:=Tryd.sizeOf122
 v212:=Tryd.zeroValue122
 t213:=Tryd.underlying124
 a213:=Tryd.isAgg124
 z213:=Tryd.sizeOf124
 t232:=Tryd.underlying129
 a232:=Tryd.isAgg129
 z232:=Tryd.sizeOf129
 v232:=Tryd.zeroValue129
 t233:=Tryd.underlying130
 a233:=Tryd.isAgg130
 z233:=Tryd.sizeOf130
 v233:=Tryd.zeroValue130
 g17:=by kernel_rfl
 g18:=by kernel_rfl
 g19:=by kernel_rfl
 i0:=by kernel_rfl
 i2:=by kernel_rfl
 i3:=by kernel_rfl
 i4:=by kernel_rfl
 i5:=by kernel_rfl
 i9:=by kernel_rfl
 i20:=by kernel_rfl
 i37:=by kernel_rfl
 i46:=by kernel_rfl
 i51:=by kernel_rfl
 i53:=by kernel_rfl
 i173:=by kernel_rfl
 m17:=by kernel_rfl
 m18:=by kernel_rfl
 m19:=by kernel_rfl
theorem sizeB:(Tryd.prog.info? 75).map (·.size)=some 2:=by kernel_rfl
set_option maxHeartbeats 1000000 in
set_option maxRecDepth 100000 in
theorem cc_used(b:Nat)(w:World)(h0:w.cell? ⟨b,0,none⟩=some (.pointer (some ⟨b,0,none⟩))):
    Calls Tryd.prog 77 #[.pointer (some ⟨b,0,none⟩)] w fun e w'=>e= .returned (.tuple #[])∧w'=w:=by
 obtain⟨j,hj,_⟩:=Option.map_eq_some_iff.1 sizeB
 have t72:=Tryd.underlying72;have a72:=Tryd.isAgg72;have z72:=Tryd.sizeOf72;have v72:=Tryd.zeroValue72;have u72:=run_underlying Tryd.underlying72
 go_enter Tryd.func77,Tryd.ntmps77
 go_wp2
 rw[Lib.run_neq_ptr_same w _ Tryd.underlying72 hj]
 go_wp2
 go_end0
 exact⟨rfl,rfl⟩
set_option maxHeartbeats 1000000 in
set_option maxRecDepth 100000 in
theorem cc_fresh(b:Nat)(w:World)(h0:w.cell? ⟨b,0,none⟩=some (.pointer none))(hsh:w.shape? b=some (78,4))(hfz:w.frozen? ⟨b,0,none⟩=false):
    Calls Tryd.prog 77 #[.pointer (some ⟨b,0,none⟩)] w fun e w'=>e= .returned (.tuple #[])∧w'=w.setCell ⟨b,0,none⟩ (.pointer (some ⟨b,0,none⟩)):=by
 obtain⟨j,hj,hjs⟩:=Option.map_eq_some_iff.1 sizeB
 have t72:=Tryd.underlying72;have a72:=Tryd.isAgg72;have z72:=Tryd.sizeOf72;have v72:=Tryd.zeroValue72;have u72:=run_underlying Tryd.underlying72
 have t112:=Tryd.underlying112;have a112:=Tryd.isAgg112;have z112:=Tryd.sizeOf112;have v112:=Tryd.zeroValue112;have u112:=run_underlying Tryd.underlying112
 go_enter Tryd.func77,Tryd.ntmps77
 go_wp2
 rw[Lib.run_to_unsafe w ⟨b,0,none⟩ Tryd.underlying72 Tryd.underlying112 hj (by rw[hjs];decide) hsh (Nat.zero_lt_succ 3)]
 simp only[Result.andThen]
 rw[Oper.upon_value]
 go_wp2
 rw[run_callFunc_extern Tryd.func81 (by kernel_rfl) (by kernel_rfl) (by kernel_rfl) (e:=Extern.AbiNoEscape.same) (by kernel_rfl)]
 rw[Lib.run_noEscape]
 simp only[Result.andThen]
 rw[Oper.upon_value]
 go_wp2
 rw[Lib.run_from_unsafe w ⟨b,0,none⟩ Tryd.underlying112 Tryd.underlying72 hj hsh (by kernel_rfl)]
 simp only[Result.andThen]
 rw[Oper.upon_value]
 go_wp2
 go_end0
 exact⟨rfl,rfl⟩
end Go.Proofs.YtalgjkpkkdljaaaDoor
namespace Go.Proofs.YtalgjkpkkdljaaaDoor
open Go.Vs Go.RowKit
structure WOk (W:World):Prop where
 tab:Lib.TabIs Tryd.prog W "internal/strconv.uint64pow10" .u64 Lib.pow10Tab
theorem tab_later{W w:World}(B:Below W.heap.size W w){name:String}{k:IntKind}{zs:List Int}(h:Lib.TabIs Tryd.prog W name k zs):Lib.TabIs Tryd.prog w name k zs:=by
 unfold Lib.TabIs World.var? at h⊢
 obtain⟨g,hg,h2⟩:=Option.bind_eq_some_iff.1 h
 have hlt:g<W.heap.size:=by
  rcases Nat.lt_or_ge g W.heap.size with q |q
  ·exact q
  ·rw[Array.getElem?_eq_none q] at h2;cases h2
 rw[hg]
 simp only[Option.bind_some]
 rw[B.block g hlt];exact h2
variable {W : World}
theorem meets_itoa(hW:WOk W)(n:Int)(H:Hp)(h0: -9223372036854775808≤n)(h1:n≤9223372036854775807):Meets Tryd.prog W pgG 63 [.p (.int .i64 n)] H (.val (.p (.str (Lib.itoa n)))) H:=
 lib_meets ⟨Tryd.f63,Tryd.func63,by kernel_rfl,by kernel_rfl⟩ fun γ w vs I hv=>by
  obtain⟨v,rfl,hr⟩:=repL_one hv
  rw[hr.p_inv.int_inv]
  refine(Any.strconv_Itoa lays171 n h0 h1 w (tab_later I.blw hW.tab)).mono ?_
  rintro e w' ⟨rfl,k,os,rfl⟩
  exact⟨_,rfl,Lib.below_grow _ w (Nat.le_refl _) k os,.p _ _ (.str _)⟩
theorem meets_cc(H H':Hp)(r:Res)(h:pgL 77 [.box 0 0] H=some (r,H')):Meets Tryd.prog W pgG 77 [.box 0 0] H r H':=by
 refine⟨⟨Tryd.f77,Tryd.func77,by kernel_rfl,by kernel_rfl⟩,fun γ w vs I hv=>?_⟩
 obtain⟨v,rfl,hr⟩:=repL_one hv
 cases hr with
 |box _ _ b hb=>
  simp only[pgL] at h
  split at h
  ·rename_i q l hbx
   cases h
   obtain⟨us,T,fr,q1,q2,q3,q4⟩:=I.box 0 b _ hb (by rw[hbx];rfl)
   have hm:isMapC (D.fresh 78 4 0::q)=false:=by cases q<;>rfl
   rw[viewC_of hm] at q1
   have q20:=q2.2 0 _ rfl
   generalize hu:us.getD 0 undef=u at q20
   cases q20 with
   |fresh _ _ _ b' hb' ht=>
    rw[hb] at hb'
    cases hb'
    obtain⟨us',fr',z1,z2,_⟩:=I.tys _ _ _ ht
    rw[q1] at z1
    cases z1
    have hus:0<us.size:=by omega
    have h0:us[0]? =some (.pointer none):=by
     rw[Array.getElem?_eq_getElem hus]
     simpa[Array.getD_eq_getD_getElem?,hus] using hu
    have hcl:=q4 (by simp)
    refine(cc_fresh b w (by simp only[World.cell?,q1];simpa using h0) (by simp[World.shape?,q1,z2]) ?_).mono ?_
    ·have:=hcl 0 (Nat.le_refl _) hus
     simp only[World.frozen?,q1]
     obtain⟨f1,f2⟩:=fr
     simp only at this⊢
     cases hd:(decide (f1≤0)&&decide (0<f2)) with
     |false=>rfl
     |true=>simp at hd;exact(this ⟨by simp;omega,by simpa using hd.2⟩).elim
    ·rintro e w' ⟨rfl,rfl⟩
     have hst:=I.toInv.store (off:=0) hb (by rw[hbx];rfl) (us:=[.pointer (some ⟨b,0,none⟩)]) (ds:=[.box 0 0]) (repL1 (.box 0 0 b hb)) (fun d hd=>by simp at hd;subst hd;rfl) (by simp) q1 hcl q2 hm
     have hw:w.setCell ⟨b,0,none⟩ (.pointer (some ⟨b,0,none⟩))=w.setRow b (us.toList.take 0++[Value.pointer (some ⟨b,0,none⟩)]++us.toList.drop (0+[Value.pointer (some ⟨b,0,none⟩)].length)).toArray:=by
      rw[setCell_eq_setRow w b 0 us _ fr _ q1]
      congr 1
      apply Array.ext'
      obtain⟨l⟩:=us
      match l,hus with
      |x::l,_=>simp
     have hs:∀bx:List (List D),bx=(.fresh 78 4 0::q)::l→bx.set 0 (Vs.splice (.fresh 78 4 0::q) 0 [.box 0 0])=(.box 0 0::q)::l:=by
      intro bx hb;subst hb;simp[Vs.splice]
     rw[hs _ hbx] at hst
     obtain⟨F,J⟩:=hst
     rw[hw]
     exact⟨γ,.refl γ,F,I.up (.refl γ) F J,_,rfl,.undef⟩
  ·rename_i q l hbx
   cases h
   obtain⟨us,T,fr,q1,q2,q3,q4⟩:=I.box 0 b _ hb (by rw[hbx];rfl)
   have hm:isMapC (D.box 0 0::q)=false:=by cases q<;>rfl
   rw[viewC_of hm] at q1
   have q20:=q2.2 0 _ rfl
   have hus:0<us.size:=by have:=q2.1;simp at this;omega
   generalize hu:us.getD 0 undef=u at q20
   cases q20 with
   |box _ _ b' hb'=>
    rw[hb] at hb'
    cases hb'
    have h0:us[0]? =some (.pointer (some ⟨b,0,none⟩)):=by
     rw[Array.getElem?_eq_getElem hus]
     simpa[Array.getD_eq_getD_getElem?,hus] using hu
    refine(cc_used b w (by simp only[World.cell?,q1];simpa using h0)).mono ?_
    rintro e w' ⟨rfl,rfl⟩
    exact⟨γ,.refl γ,.refl γ H w',I,_,rfl,.undef⟩
  ·cases h
theorem lib_sound(hW:WOk W):Sound Tryd.prog W pg.G pg.lib:=by
 intro f args H r H' h
 have h:pgL f args H=some (r,H'):=h
 have h0:=h
 unfold pgL at h
 split at h
 ·split at h
  ·rename_i hc;cases h;exact meets_itoa hW _ _ hc.1 hc.2
  ·cases h
 ·exact meets_cc _ _ _ h0
 ·cases h
theorem pg_ok(hW:WOk W):PgOk Tryd.prog W pg where
 mixed:=Checked.mixed Tryd.checked
 lib:=lib_sound hW
 fn:=fun f fc h=>by
  have h:pgF f=some fc:=h
  unfold pgF at h
  split at h
  ·cases h;exact ok3
  ·cases h;exact ok6
  ·cases h;exact ok7
  ·cases h;exact ok8
  ·cases h;exact ok9
  ·cases h;exact ok10
  ·cases h;exact ok11
  ·cases h;exact ok12
  ·cases h;exact ok13
  ·cases h;exact ok14
  ·cases h;exact ok15
  ·cases h;exact ok16
  ·cases h;exact ok17
  ·cases h;exact ok18
  ·cases h;exact ok19
  ·cases h;exact ok20
  ·cases h;exact ok21
  ·cases h;exact ok22
  ·cases h;exact ok23
  ·cases h;exact ok24
  ·cases h;exact ok25
  ·cases h;exact ok26
  ·cases h;exact ok27
  ·cases h;exact ok28
  ·cases h;exact ok29
  ·cases h;exact ok30
  ·cases h;exact ok31
  ·cases h;exact ok32
  ·cases h;exact ok33
  ·cases h;exact ok34
  ·cases h;exact ok35
  ·cases h;exact ok36
  ·cases h;exact ok37
  ·cases h;exact ok38
  ·cases h;exact ok39
  ·cases h;exact ok40
  ·cases h;exact ok41
  ·cases h;exact ok42
  ·cases h;exact ok43
  ·cases h;exact ok44
  ·cases h;exact ok45
  ·cases h;exact ok46
  ·cases h;exact ok47
  ·cases h;exact ok48
  ·cases h;exact ok49
  ·cases h;exact ok50
  ·cases h;exact ok51
  ·cases h;exact ok52
  ·cases h;exact ok53
  ·cases h;exact ok54
  ·cases h;exact ok55
  ·cases h;exact ok56
  ·cases h;exact ok57
  ·cases h;exact ok58
  ·cases h;exact ok59
  ·cases h;exact ok60
  ·cases h;exact ok61
  ·cases h;exact ok62
  ·cases h;exact ok64
  ·cases h;exact ok65
  ·cases h;exact ok66
  ·cases h;exact ok67
  ·cases h;exact ok68
  ·cases h;exact ok69
  ·cases h;exact ok70
  ·cases h;exact ok71
  ·cases h;exact ok72
  ·cases h;exact ok73
  ·cases h;exact ok74
  ·cases h;exact ok75
  ·cases h;exact ok76
  ·cases h;exact ok78
  ·cases h;exact ok79
  ·cases h
end Go.Proofs.YtalgjkpkkdljaaaDoor
namespace Go.Proofs.YtalgjkpkkdljaaaDoor
open Go.Vs Go.ChangeShapes Go.WideShapes Go.ChangeAt Go.WideMaps Go.WideElems Go.RowKit
abbrev laidL:List (String×DataW Unit):=[("math/bits.deBruijn32tab",Rows.laid_math_bits_deBruijn32tab),("math/bits.deBruijn64tab",Rows.laid_math_bits_deBruijn64tab),("internal/strconv.uint64pow10",Rows.laid_internal_strconv_uint64pow10)]
theorem own:ownKnob Tryd.prog.godebug=none:=by kernel_rfl
theorem laidOut:laidOutB Tryd.prog=true:=by kernel_rfl
theorem gTab:Tryd.prog.globalNamed "internal/strconv.uint64pow10" =some 0:=by kernel_rfl
theorem tTab:(Tryd.prog.globals[0]?).map (·.type)=some 122:=by kernel_rfl
theorem door_met(os:Os)(args:Array Value):laidMetH Tryd.prog laidL ((World.laidAll Tryd.prog os laidL).forCall (fun _ _=>0) ⟨#[],args,[]⟩).memory:=by
 rw[MakeChecks.laidMetH_plain _ _ _ (by kernel_rfl)]
 exact laidMet_laidAll _ (by kernel_rfl) (by kernel_rfl)
set_option maxRecDepth 20000 in
theorem wok{W:World}(h:laidMetH Tryd.prog laidL W):WOk W:=by
 rw[MakeChecks.laidMetH_plain _ _ _ (by kernel_rfl)] at h
 obtain⟨ps,⟨g0,t0,cs0,f0,p0,q0,_,_,_,_,⟨g1,t1,cs1,f1,p1,q1,_,_,_,_,⟨g2,t2,cs2,f2,p2,q2,hg2,ht2,hv2,hd2,_⟩,_⟩,_⟩,_⟩:=h
 obtain rfl:=Option.some.inj (gTab.symm.trans hg2)
 obtain rfl:=Option.some.inj (tTab.symm.trans ht2)
 refine⟨?_⟩
 unfold Lib.TabIs
 rw[hv2]
 have h5:=Tryd.underlying122
 have h6:=Tryd.underlying116
 have e5:(Rows.laid_internal_strconv_uint64pow10:DataW Unit)=Lib.tabData .u64 Lib.pow10Tab:=by kernel_rfl
 rw[e5] at hd2
 have:=Lib.cells_of_tab (zs:=Lib.pow10Tab) h5 h6 (by kernel_rfl) (by kernel_rfl) hd2
 rw[←this]
end Go.Proofs.YtalgjkpkkdljaaaDoor
namespace Go.Proofs.YtalgjkpkkdljaaaDoor
open Go.Vs
def i64(n:Int):Prop:= -9223372036854775808≤n∧n≤9223372036854775807
def ndSl{α:Type}:Nat→List α→Sl α
 | 0,[]=>.nil
 | 1,[]=>.amb
 |_,l=>.of l
theorem els_ndSl{α:Type}(c:Nat)(l:List α):els (ndSl c l)=l:=by
 unfold ndSl;split<;>rfl
theorem map_ndSl{α β:Type}(f:α→β)(c:Nat)(l:List α):(ndSl c l).map f=ndSl c (l.map f):=by
 cases l with
 |nil=>match c with
  | 0=>rfl
  | 1=>rfl
  |c+2=>rfl
 |cons x l=>match c with
  | 0=>rfl
  | 1=>rfl
  |c+2=>rfl
inductive Nd where
 |mk (op:Int) (nm:List UInt8) (n:Int) (c:Nat) (ks:List Nd) (pos:Int)
def Nd.op:Nd→Int | .mk op _ _ _ _ _=>op
def Nd.nm:Nd→List UInt8 | .mk _ nm _ _ _ _=>nm
def Nd.n:Nd→Int | .mk _ _ n _ _ _=>n
def Nd.c:Nd→Nat | .mk _ _ _ c _ _=>c
def Nd.ks:Nd→List Nd | .mk _ _ _ _ ks _=>ks
def Nd.pos:Nd→Int | .mk _ _ _ _ _ pos=>pos
mutual
def Nd.pd:Nd→PD
 | .mk op nm n c ks pos=>.agg [.int .i64 op,.str nm,.int .i64 n,slP 5 (ndSl c (Nd.pdL ks)),.int .i64 pos]
def Nd.pdL:List Nd→List PD
 |[]=>[]
 |k::ks=>k.pd::Nd.pdL ks
end
theorem pdL_map:∀ks:List Nd,Nd.pdL ks=ks.map Nd.pd
 |[]=>rfl
 |k::ks=>by simp[Nd.pdL,pdL_map ks]
def Nd.kidsP(a:Nd):PD:=slP 5 ((ndSl a.c a.ks).map Nd.pd)
def Nd.cells(a:Nd):List PD:=[.int .i64 a.op,.str a.nm,.int .i64 a.n,a.kidsP,.int .i64 a.pos]
theorem pd_cells(a:Nd):a.pd= .agg a.cells:=by
 cases a with
 |mk op nm n c ks pos=>simp only[Nd.pd,Nd.cells,Nd.op,Nd.nm,Nd.n,Nd.kidsP,Nd.c,Nd.ks,Nd.pos,pdL_map,map_ndSl]
@[simp] theorem one_kids(a:Nd):(D.p a.kidsP).one=true:=one_slP ..
@[simp] theorem pone_kids(a:Nd):a.kidsP.one=true:=pone_slP ..
theorem rec_nd(a:Nd):Rec 5 a.pd:=⟨a.cells,pd_cells a,rfl,fun c hc=>by
 simp only[Nd.cells,List.mem_cons,List.not_mem_nil,or_false] at hc
 rcases hc with rfl |rfl |rfl |rfl |rfl<;>first |rfl |exact pone_kids a⟩
mutual
def Nd.size:Nd→Nat
 | .mk _ _ _ _ ks _=>1+Nd.sizeL ks
def Nd.sizeL:List Nd→Nat
 |[]=>0
 |k::ks=>k.size+Nd.sizeL ks
end
theorem size_eq(a:Nd):a.size=1+Nd.sizeL a.ks:=by cases a;rfl
theorem size_mem:∀{ks:List Nd} {k:Nd},k∈ks→k.size≤Nd.sizeL ks
 |x::ks,k,h=>by
  simp only[Nd.sizeL]
  rcases List.mem_cons.1 h with rfl |h
  ·omega
  ·have:=size_mem h;omega
theorem size_kid{a k:Nd}(h:k∈a.ks):k.size<a.size:=by
 have:=size_mem h
 rw[size_eq a];omega
theorem len_sizeL:∀ks:List Nd,ks.length≤Nd.sizeL ks
 |[]=>Nat.le_refl _
 |k::ks=>by
  have:=len_sizeL ks
  have:=size_eq k
  simp only[Nd.sizeL,List.length_cons];omega
mutual
def eqN:Nd→Nd→Bool
 | .mk op nm n _ ks _,.mk op' nm' n' _ ks' _=>(op==op'&&nm==nm'&&n==n')&&eqNL ks ks'
def eqNL:List Nd→List Nd→Bool
 |[],[]=>true
 |a::x,b::y=>eqN a b&&eqNL x y
 |_,_=>false
end
theorem eqNL_all:∀x y:List Nd,eqNL x y=eqAll eqN x y
 |[],[]=>by simp[eqNL,eqAll]
 |a::x,b::y=>by simp[eqNL,eqAll,eqNL_all x y]
 |[],_::_=>by simp[eqNL,eqAll]
 |_::_,[]=>by simp[eqNL,eqAll]
theorem eqN_eq(a b:Nd):eqN a b=((a.op==b.op&&a.nm==b.nm&&a.n==b.n)&&eqAll eqN a.ks b.ks):=by
 cases a;cases b
 simp only[eqN,Nd.op,Nd.nm,Nd.n,Nd.ks,eqNL_all]
def Bd(n:Nat)(a:Nd):Prop:=a.size≤n
theorem callD_any{f:Nat}{args:List D}{d d':D}(h:∃Hl,call pg f args ⟨[],[]⟩=some (.val d,Hl))(hr:D.refsL args=[])(ht:D.toksL args=[])(ha:D.renL (idx []) (idx []) args=some args)
    (hd:d.ren (fun _=>none) (fun _=>none)=some d') (H:Hp):callD (call pg) f args H=some (.val d',H):=by
 obtain⟨Hl,h⟩:=h
 exact callD_pure h hr ht ha hd
theorem equalNodes0:∀(s:Nat) (a b:Nd),a.size≤s→s≤1000000000→∃H',call pg 9 [.p a.pd,.p b.pd] ⟨[],[]⟩=some (.val (.p (.bool (eqN a b))),H'):=by
 intro s
 induction s with
 |zero=>intro a b h;have:=size_eq a;omega
 |succ s ih=>
  intro a b hs hB
  have hkids:∀H,callD (call pg) 25 [.p a.kidsP,.p b.kidsP,.fn 9 [] []] H=some (.val (.p (.bool (eqAll eqN a.ks b.ks))),H):=by
   intro H
   have hlen:=len_sizeL a.ks
   have hsz:=size_eq a
   have:=eqf_eq (p:=pg) (fi:=25) (g:=9) (sz:=5) (zs:=[.int .i64 0,.str [],.int .i64 0,.nils,.int .i64 0]) (f:=Nd.pd) (a:=ndSl a.c a.ks) (b:=ndSl b.c b.ks) (r:=eqN) rfl rfl rfl (by decide) rfl
    (fun x _=>rec_nd x) (fun x _=>rec_nd x) (fun k h1 h2 H=>by
     have hm:∀x∈els (ndSl a.c a.ks),x∈a.ks:=fun x hx=>by rw[els_ndSl] at hx;exact hx
     have hsk:=size_kid (hm _ (List.getElem_mem h1))
     exact callD_any (ih _ _ (by omega) (by omega)) rfl rfl rfl rfl H) (by rw[els_ndSl];omega)
   rw[els_ndSl,els_ndSl] at this
   exact callD_pure this rfl rfl rfl rfl
  rw[pd_cells,pd_cells]
  refine⟨_,call_body (fc:=fc9) rfl rfl rfl rfl (r:=(_,⟨[a.cells.map .p,b.cells.map .p],[]⟩)) ?_⟩
  have e:=eqN_eq a b
  cases h1:(a.op==b.op) with
  |false=>
   rw[h1] at e
   simp[fc9,evKC,evK,evGuard,put,Env.get,Env.keep,entry,Opd.ev,loadD,cutAt,binD,finish,evRes,evRes1,D.cells,isMapC,isMapC,Nd.cells,h1,e]
  |true=>
   cases h2:(a.nm==b.nm) with
   |false=>
    rw[h1,h2] at e
    simp[fc9,evKC,evK,evGuard,put,Env.get,Env.keep,entry,Opd.ev,loadD,cutAt,binD,strBin,finish,evRes,evRes1,D.cells,isMapC,isMapC,Nd.cells,h1,h2,e]
   |true=>
    cases h3:(a.n==b.n) with
    |false=>
     rw[h1,h2,h3] at e
     simp[fc9,evKC,evK,evGuard,put,Env.get,Env.keep,entry,Opd.ev,loadD,cutAt,binD,strBin,finish,evRes,evRes1,D.cells,isMapC,isMapC,Nd.cells,h1,h2,h3,e]
    |true=>
     rw[h1,h2,h3] at e
     simp[fc9,evKC,evK,evGuard,put,Env.get,Env.keep,entry,Opd.ev,loadD,cutAt,binD,strBin,finish,evRes,evRes1,D.cells,isMapC,isMapC,Nd.cells,h1,h2,h3,e,hkids]
theorem equalNodes_eq{a b:Nd}(h:a.size≤1000000000)(H:Hp):callD (call pg) 9 [.p a.pd,.p b.pd] H=some (.val (.p (.bool (eqN a b))),H):=
 callD_any (equalNodes0 _ a b (Nat.le_refl _) h) rfl rfl rfl rfl H
theorem len_kids(a:Nd):lenD 1 (.p a.kidsP)=some a.ks.length:=by
 rw[Nd.kidsP,len_map,els_ndSl]
theorem nd_cells(a:Nd):a.pd.cells=a.cells:=by rw[pd_cells,cells_agg]
theorem ia_kids{a:Nd}{k:Nat}(h:k<a.ks.length):iaddrD none 5 (.p a.kidsP) (k:Int)=some (.ro (a.ks[k]).cells 0):=by
 have h':k<(els (ndSl a.c a.ks)).length:=by rw[els_ndSl];exact h
 rw[Nd.kidsP,ia_map h',←nd_cells]
 simp only[els_ndSl]
theorem load_nd{G:Nat→Option (List PD)}{H:Hp}(x:Nd):loadD G H (some 5) (.ro x.cells 0)=some (.p x.pd):=by
 rw[pd_cells];exact load_ro rfl
theorem pd_one(a:Nd):∀c∈a.cells,c.one=true:=fun c hc=>by
 simp only[Nd.cells,List.mem_cons,List.not_mem_nil,or_false] at hc
 rcases hc with rfl |rfl |rfl |rfl |rfl<;>first |rfl |exact pone_kids a
theorem load_ndb{G:Nat→Option (List PD)}{H:Hp}{i:Nat}{x:Nd}(hb:H.bx[i]? =some (x.cells.map D.p)):loadD G H (some 5) (.box i 0)=some (.p x.pd):=by
 rw[pd_cells];exact load_box hb rfl
theorem one_cells(a:Nd):∀c∈a.cells,(D.p c).one=true:=fun c hc=>by
 simp only[Nd.cells,List.mem_cons,List.not_mem_nil,or_false] at hc
 rcases hc with rfl |rfl |rfl |rfl |rfl<;>first |rfl |exact one_kids a
theorem one_all(a:Nd):(∀x,x∈a.cells→(D.p x).one=true)=True:=eq_true (one_cells a)
def cntN(s left:Nat):Nat:=min s (left+1)
theorem ld_kids{G:Nat→Option (List PD)}(a:Nd)(tk:List Nat):loadD G ⟨[a.cells.map .p],tk⟩ none (.box 0 3)=some (.p a.kidsP):=rfl
theorem cntN_step(s z left sum:Nat)(h:sum≤left):min (sum+cntN s (left-sum)+z) (left+1)=min (sum+(s+z)) (left+1):=by
 simp only[cntN];omega
theorem count_loop{a:Nd}(ih:∀(k:Nd) (left:Nat),k∈a.ks→left≤1000000000→∀H,callD (call pg) 24 [.p k.pd,.p (.int .i64 left)] H=some (.val (.p (.int .i64 (cntN k.size left))),H)){left:Nat}(hl:left≤1000000000):
    ∀(n k sum:Nat),a.ks.length-k≤n→k≤a.ks.length→k<sum→sum≤left+1→
    ∃env,loopK (call pg) pg.G [1,2,5,6] fc24_b0 ⟨[(1,.p (.int .i64 left)),(2,.box 0 0),(5,.p (.int .i64 sum)),(6,.p (.int .i64 k))],⟨[a.cells.map .p],[]⟩⟩=
     some (.exit 0,⟨env,⟨[a.cells.map .p],[]⟩⟩)∧env.get 5= .p (.int .i64 (min (sum+Nd.sizeL (a.ks.drop k)) (left+1):Nat)):=by
 intro n
 have hk0:=len_kids a
 have hld:=fun(G:Nat→Option (List PD)) tk=>ld_kids (G:=G) a tk
 induction n with
 |zero=>
  intro k sum hn hk h1 h2
  have he:k=a.ks.length:=by omega
  refine⟨[(1,.p (.int .i64 left)),(2,.box 0 0),(5,.p (.int .i64 sum)),(6,.p (.int .i64 k)),(17,.p (.bool false))],?_,?_⟩
  ·refine loopK_out (o:=.exit 0) ?_ (by simp)
   simp[fc24_b0,evKC,evK,evGuard,put,Env.get,Env.keep,Opd.ev,binD,mapO,D.ren,locD,below,Out.ren,List.map,hk0,hld,he]
  ·rw[List.drop_eq_nil_of_le (by omega)]
   simp only[Nd.sizeL,Nat.add_zero,Nat.min_eq_left h2]
   rfl
 |succ n IH=>
  intro k sum hn hk h1 h2
  by_cases he:k=a.ks.length
  ·refine⟨[(1,.p (.int .i64 left)),(2,.box 0 0),(5,.p (.int .i64 sum)),(6,.p (.int .i64 k)),(17,.p (.bool false))],?_,?_⟩
   ·refine loopK_out (o:=.exit 0) ?_ (by simp)
    simp[fc24_b0,evKC,evK,evGuard,put,Env.get,Env.keep,Opd.ev,binD,mapO,D.ren,locD,below,Out.ren,List.map,hk0,hld,he]
   ·rw[List.drop_eq_nil_of_le (by omega)]
    simp only[Nd.sizeL,Nat.add_zero,Nat.min_eq_left h2]
    rfl
  ·have hlt:k<a.ks.length:=by omega
   have hlt':(k:Int)<(a.ks.length:Int):=by omega
   by_cases hs:sum≤left
   ·have hs':(sum:Int)≤(left:Int):=by omega
    have hc:=ih a.ks[k] (left-sum) (List.getElem_mem hlt) (by omega)
    have hia:=ia_kids hlt
    have hld2:=fun(G:Nat→Option (List PD)) (H:Hp)=>load_nd (G:=G) (H:=H) a.ks[k]
    have hcpos:1≤cntN a.ks[k].size (left-sum):=by have:=size_eq a.ks[k];simp only[cntN];omega
    have hcle:cntN a.ks[k].size (left-sum)≤left-sum+1:=by simp only[cntN];omega
    obtain⟨env,e1,e2⟩:=IH (k+1) (sum+cntN a.ks[k].size (left-sum)) (by omega) (by omega) (by omega) (by omega)
    refine⟨env,?_,?_⟩
    ·have hk1:=inc64 (k:=k) (by omega)
     have w1:IntKind.i64.wrap ((left:Int)-(sum:Int))=((left-sum:Nat):Int):=by rw[wrap64 (by omega) (by omega)];omega
     have w2:IntKind.i64.wrap ((sum:Int)+(cntN a.ks[k].size (left-sum):Int))=((sum+cntN a.ks[k].size (left-sum):Nat):Int):=by rw[wrap64 (by omega) (by omega)];omega
     rw[←e1]
     refine loopK_norm ?_
     generalize cntN a.ks[k].size (left-sum)=z at *
     generalize a.ks[k]=x at *
     simp[fc24_b0,evKC,evK,evGuard,put,Env.get,Env.keep,Opd.ev,D.asInt?,binD,mapO,D.ren,locD,below,Out.ren,List.map,hk0,hld,hlt',hs',hia,hld2,hc,w1,w2,hk1]
    ·rw[e2,cntN_step _ _ _ _ hs,List.drop_eq_getElem_cons hlt]
     rfl
   ·have hs':¬(sum:Int)≤(left:Int):=by omega
    refine⟨[(1,.p (.int .i64 left)),(2,.box 0 0),(5,.p (.int .i64 sum)),(6,.p (.int .i64 k)),(17,.p (.bool false))],?_,?_⟩
    ·refine loopK_out (o:=.exit 0) ?_ (by simp)
     simp[fc24_b0,evKC,evK,evGuard,put,Env.get,Env.keep,Opd.ev,binD,mapO,D.ren,locD,below,Out.ren,List.map,hk0,hld,hlt',hs']
    ·have :min (sum+Nd.sizeL (a.ks.drop k)) (left+1)=sum:=by omega
     rw[this];rfl
theorem count0:∀(s:Nat) (a:Nd) (left:Nat),a.size≤s→left≤1000000000→∃H',call pg 24 [.p a.pd,.p (.int .i64 left)] ⟨[],[]⟩=some (.val (.p (.int .i64 (cntN a.size left))),H'):=by
 intro s
 induction s with
 |zero=>intro a left h;have:=size_eq a;omega
 |succ s ih=>
  intro a left hs hl
  obtain⟨env,e1,e2⟩:=count_loop (a:=a) (left:=left) (fun k l hk hl H=>callD_any (ih k l (by have:=size_kid hk;omega) hl) rfl rfl rfl rfl H) hl a.ks.length 0 1 (by omega) (by omega) (by omega) (by omega)
  rw[List.drop_zero,←size_eq] at e2
  simp only[Int.natCast_zero,Int.natCast_one] at e1
  rw[pd_cells]
  refine⟨_,call_body (fc:=fc24) rfl rfl rfl rfl (r:=(_,⟨[a.cells.map .p],[]⟩)) ?_⟩
  simp only[cntN]
  simp[fc24,evKC,evK,put,Env.get,Env.keep,entry,Opd.ev,finish,evRes,evRes1,D.cells,List.map,e1,e2,one_all a]
theorem count_eq(a:Nd){left:Nat}(hl:left≤1000000000)(H:Hp):callD (call pg) 24 [.p a.pd,.p (.int .i64 left)] H=some (.val (.p (.int .i64 (cntN a.size left))),H):=
 callD_any (count0 _ a left (Nat.le_refl _) hl) rfl rfl rfl rfl H
theorem small0(a:Nd):∃H',call pg 7 [.p a.pd] ⟨[],[]⟩=some (.val (.p (.bool (decide (a.size≤400)))),H'):=by
 have hc:∀H,callD (call pg) 24 [.p a.pd,.p (.int .i64 400)] H=some (.val (.p (.int .i64 (cntN a.size 400))),H):=count_eq a (left:=400) (by omega)
 have hl:=fun(G:Nat→Option (List PD))=>load_ndb (G:=G) (H:=⟨[a.cells.map .p],[]⟩) (i:=0) (x:=a) rfl
 have he:decide ((cntN a.size 400 :Int)≤400)=decide (a.size≤400):=by
  rw[decide_eq_decide];simp only[cntN];omega
 rw[pd_cells]
 refine⟨_,call_body (fc:=fc7) rfl rfl rfl rfl (r:=(_,⟨[a.cells.map .p],[]⟩)) ?_⟩
 simp[fc7,evKC,evK,put,Env.get,Env.keep,entry,Opd.ev,binD,finish,evRes,evRes1,D.cells,List.map,hl,hc,one_all a,he]
theorem small_eq(a:Nd)(H:Hp):callD (call pg) 7 [.p a.pd] H=some (.val (.p (.bool (decide (a.size≤400)))),H):=
 callD_any (small0 a) rfl rfl rfl rfl H
structure Srt where
 nm:List UInt8
 o:Bool
structure Prm where
 nm:List UInt8
 s:Int
structure Fld where
 nm:List UInt8
 l:Sl Int
 v:Bool
structure Prd where
 nm:List UInt8
 l:Sl Prm
 b:Nd
structure Fct where
 nm:List UInt8
 b:Nd
structure Spc where
 s:Sl Srt
 f:Sl Fld
 p:Sl Prd
 q:Sl Fct
def Srt.cells(x:Srt):List PD:=[.str x.nm,.bool x.o]
def Prm.cells(x:Prm):List PD:=[.str x.nm,.int .i64 x.s]
def Srt.pd(x:Srt):PD:=.agg x.cells
def Prm.pd(x:Prm):PD:=.agg x.cells
def intsP(l:Sl Int):PD:=slP 1 (l.map (PD.int .i64))
def prmsP(l:Sl Prm):PD:=slP 2 (l.map Prm.pd)
def srtsP(l:Sl Srt):PD:=slP 2 (l.map Srt.pd)
def Fld.cells(x:Fld):List PD:=[.str x.nm,intsP x.l,.bool x.v]
def Fld.pd(x:Fld):PD:=.agg x.cells
def Prd.cells(x:Prd):List PD:=[.str x.nm,prmsP x.l]++x.b.cells
def Prd.pd(x:Prd):PD:=.agg x.cells
def Fct.cells(x:Fct):List PD:=[.str x.nm]++x.b.cells
def Fct.pd(x:Fct):PD:=.agg x.cells
def fldsP(l:Sl Fld):PD:=slP 3 (l.map Fld.pd)
def prdsP(l:Sl Prd):PD:=slP 7 (l.map Prd.pd)
def fctsP(l:Sl Fct):PD:=slP 6 (l.map Fct.pd)
def Spc.cells(x:Spc):List PD:=[srtsP x.s,fldsP x.f,prdsP x.p,fctsP x.q]
def Spc.pd(x:Spc):PD:=.agg x.cells
theorem one_of{cs:List PD}(h:∀c∈cs,c.one=true):(∀x,x∈cs→(D.p x).one=true)=True:=eq_true fun c hc=>h c hc
theorem nd_one(a:Nd):∀c∈a.cells,c.one=true:=pd_one a
theorem rec_srt(x:Srt):Rec 2 x.pd:=⟨x.cells,rfl,rfl,fun c hc=>by
 simp only[Srt.cells,List.mem_cons,List.not_mem_nil,or_false] at hc
 rcases hc with rfl |rfl<;>rfl⟩
theorem rec_prm(x:Prm):Rec 2 x.pd:=⟨x.cells,rfl,rfl,fun c hc=>by
 simp only[Prm.cells,List.mem_cons,List.not_mem_nil,or_false] at hc
 rcases hc with rfl |rfl<;>rfl⟩
theorem fld_one(x:Fld):∀c∈x.cells,c.one=true:=fun c hc=>by
 simp only[Fld.cells,List.mem_cons,List.not_mem_nil,or_false] at hc
 rcases hc with rfl |rfl |rfl<;>first |rfl |exact pone_slP ..
theorem prd_one(x:Prd):∀c∈x.cells,c.one=true:=fun c hc=>by
 simp only[Prd.cells,List.mem_append,List.mem_cons,List.not_mem_nil,or_false] at hc
 rcases hc with(rfl |rfl) |hc<;>first |rfl |exact pone_slP .. |exact nd_one _ _ hc
theorem fct_one(x:Fct):∀c∈x.cells,c.one=true:=fun c hc=>by
 simp only[Fct.cells,List.mem_append,List.mem_cons,List.not_mem_nil,or_false] at hc
 rcases hc with rfl |hc<;>first |rfl |exact nd_one _ _ hc
theorem spc_one(x:Spc):∀c∈x.cells,c.one=true:=fun c hc=>by
 simp only[Spc.cells,List.mem_cons,List.not_mem_nil,or_false] at hc
 rcases hc with rfl |rfl |rfl |rfl<;>exact pone_slP ..
theorem nd_len(a:Nd):a.cells.length=5:=rfl
theorem rec_fld(x:Fld):Rec 3 x.pd:=⟨x.cells,rfl,rfl,fld_one x⟩
theorem rec_prd(x:Prd):Rec 7 x.pd:=⟨x.cells,rfl,by simp[Prd.cells,nd_len],prd_one x⟩
theorem rec_fct(x:Fct):Rec 6 x.pd:=⟨x.cells,rfl,by simp[Fct.cells,nd_len],fct_one x⟩
theorem sub_app{α:Type}(pre cs:List α):sub (pre++cs) pre.length (pre.length+cs.length)=cs:=by
 have :pre.length+cs.length=(pre++cs).length:=by simp
 rw[this,sub,List.take_length,List.drop_left]
theorem load_at{G:Nat→Option (List PD)}{H:Hp}{i o n:Nat}{pre cs:List PD}(hb:H.bx[i]? =some ((pre++cs).map D.p))(ho:pre.length=o)(h:cs.length=n):loadD G H (some n) (.box i o)=some (.p (.agg cs)):=by
 subst ho;subst h
 have:=sub_app (pre.map D.p) (cs.map D.p)
 rw[List.length_map,List.length_map] at this
 have hm:isMapC (pre.map D.p++cs.map D.p)=false:=by rw[←List.map_append];exact isMapC_p _
 simp only[loadD,hb,cutAt,List.map_append,this,hm]
 simp[mkAgg_p]
theorem ro_at{G:Nat→Option (List PD)}{H:Hp}{o n:Nat}{pre cs:List PD}(ho:pre.length=o)(h:cs.length=n):loadD G H (some n) (.ro (pre++cs) o)=some (.p (.agg cs)):=by
 subst ho;subst h
 have:=sub_app pre cs
 simp[loadD,cutAt,this]
theorem eqAll_drop'{α:Type}{r:α→α→Bool}{a b:List α}{k:Nat}(ha:k<a.length)(hb:k<b.length):eqAll r (a.drop k) (b.drop k)=(r a[k] b[k]&&eqAll r (a.drop (k+1)) (b.drop (k+1))):=eqAll_drop ha hb
def intCells(n:Int):List PD:=[.int .i64 n]
def rInt(x y:Int):Bool:=x==y
def rPrm(x y:Prm):Bool:=x.nm==y.nm&&x.s==y.s
def rSrt(x y:Srt):Bool:=x.nm==y.nm&&x.o==y.o
theorem len27(o:Sl Int):lenD 1 (.p (intsP o))=some (els o).length:=len_map ..
theorem ia27{o:Sl Int}{k:Nat}(h:k<(els o).length):iaddrD none 1 (.p (intsP o)) (k:Int)=some (.ro (intCells ((els o)[k])) 0):=ia_map h
theorem eq27_loop(a b:Sl Int)(hl:(els a).length=(els b).length)(hb:(els a).length≤4611686018427387904):∀(n k:Nat),k≤(els a).length→(els a).length-k≤n→
    ∃env,loopK (call pg) pg.G [0,1,12,13] fc27_b0 ⟨[(0,.p (intsP a)),(1,.p (intsP b)),(12,.p (.int .i64 (els a).length)),(13,.p (.int .i64 k))],⟨[],[]⟩⟩=
     some (if eqAll rInt ((els a).drop k) ((els b).drop k) then(.exit 0,⟨env,⟨[],[]⟩⟩) else(.ret,⟨[(4,.p (.bool false))],⟨[],[]⟩⟩)):=by
 intro n
 induction n with
 |zero=>
  intro k hk hn
  have :k=(els a).length:=by omega
  refine⟨[(0,.p (intsP a)),(1,.p (intsP b)),(12,.p (.int .i64 (els a).length)),(13,.p (.int .i64 k)),(14,.p (.bool false))],?_⟩
  rw[List.drop_eq_nil_of_le (by omega),List.drop_eq_nil_of_le (by omega)]
  refine loopK_out (o:=.exit 0) ?_ (by simp)
  simp[fc27_b0,evKC,evK,put,Env.get,Env.keep,Opd.ev,binD,this]
 |succ n ih=>
  intro k hk hn
  by_cases he:k=(els a).length
  ·refine⟨[(0,.p (intsP a)),(1,.p (intsP b)),(12,.p (.int .i64 (els a).length)),(13,.p (.int .i64 k)),(14,.p (.bool false))],?_⟩
   rw[List.drop_eq_nil_of_le (by omega),List.drop_eq_nil_of_le (by omega)]
   refine loopK_out (o:=.exit 0) ?_ (by simp)
   simp[fc27_b0,evKC,evK,put,Env.get,Env.keep,Opd.ev,binD,he]
  ·have hlt:k<(els a).length:=by omega
   have hlt2:k<(els b).length:=by omega
   have hlt':(k:Int)<((els a).length:Int):=by omega
   have hia:=ia27 hlt
   have hib:=ia27 hlt2
   obtain⟨env,he⟩:=ih (k+1) (by omega) (by omega)
   refine⟨env,?_⟩
   rw[eqAll_drop' hlt hlt2]
   generalize (els a)[k]=x at hia
   generalize (els b)[k]=y at hib
   have hk1:=inc64 (k:=k) (by omega)
   cases e1:rInt x y with
   |true=>
    have e2:(x !=y)=false:=by
     have h:(x !=y)= !rInt x y:=rfl
     rw[h,e1];rfl
    rw[Bool.true_and,←he]
    refine loopK_norm ?_
    simp[fc27_b0,evKC,evK,put,Env.get,Env.keep,Opd.ev,loadD,cutAt,D.asInt?,binD,clsP,cls,isW,apartRW,offB,apartWW,clash,insOk,intCells,hlt',hia,hib,hk1,e2]
   |false=>
    have e2:(x !=y)=true:=by
     have h:(x !=y)= !rInt x y:=rfl
     rw[h,e1];rfl
    rw[Bool.false_and]
    refine loopK_out (o:=.ret) ?_ (by simp)
    simp[fc27_b0,evKC,evK,put,Env.get,Env.keep,Opd.ev,loadD,cutAt,D.asInt?,binD,clsP,cls,isW,apartRW,offB,apartWW,clash,insOk,intCells,hlt',hia,hib,e2]
theorem eq270(a b:Sl Int)(hb:(els a).length≤4611686018427387904):call pg 27 [.p (intsP a),.p (intsP b)] ⟨[],[]⟩=some (.val (.p (.bool (eqAll rInt (els a) (els b)))),⟨[],[]⟩):=by
 refine call_body (fc:=fc27) rfl rfl rfl rfl ?_
 by_cases hl:(els a).length=(els b).length
 ·have hn:(((els a).length:Int)!=((els b).length:Int))=false:=by rw[bne_nat];simp[hl]
  obtain⟨env,he⟩:=eq27_loop a b hl hb (els a).length 0 (by omega) (by omega)
  rw[List.drop_zero,List.drop_zero] at he
  simp only[Int.natCast_zero] at he
  cases ha:eqAll rInt (els a) (els b) with
  |true=>
   rw[ha] at he
   simp[fc27,evKC,evK,put,Env.get,Env.keep,entry,Opd.ev,binD,finish,evRes,evRes1,len27,hn,he]
  |false=>
   rw[ha] at he
   simp[fc27,evKC,evK,put,Env.get,Env.keep,entry,Opd.ev,binD,finish,evRes,evRes1,len27,hn,he]
 ·have hn:(((els a).length:Int)!=((els b).length:Int))=true:=by rw[bne_nat];simp[hl]
  have ha:eqAll rInt (els a) (els b)=false:=by
   cases h:eqAll rInt (els a) (els b) with
   |false=>rfl
   |true=>exact absurd (eqAll_len h) hl
  simp[fc27,evKC,evK,put,Env.get,Env.keep,entry,Opd.ev,binD,finish,evRes,evRes1,len27,hn,ha]
theorem eq27_eq(a b:Sl Int)(hb:(els a).length≤4611686018427387904)(H:Hp):callD (call pg) 27 [.p (intsP a),.p (intsP b)] H=some (.val (.p (.bool (eqAll rInt (els a) (els b)))),H):=
 callD_pure (eq270 a b hb) rfl rfl rfl rfl
theorem len29(o:Sl Prm):lenD 1 (.p (prmsP o))=some (els o).length:=len_map ..
theorem ia29{o:Sl Prm}{k:Nat}(h:k<(els o).length):iaddrD none 2 (.p (prmsP o)) (k:Int)=some (.ro (Prm.cells ((els o)[k])) 0):=ia_map h
theorem eq29_loop(a b:Sl Prm)(hl:(els a).length=(els b).length)(hb:(els a).length≤4611686018427387904):∀(n k:Nat),k≤(els a).length→(els a).length-k≤n→
    ∃env,loopK (call pg) pg.G [0,1,12,13] fc29_b0 ⟨[(0,.p (prmsP a)),(1,.p (prmsP b)),(12,.p (.int .i64 (els a).length)),(13,.p (.int .i64 k))],⟨[],[]⟩⟩=
     some (if eqAll rPrm ((els a).drop k) ((els b).drop k) then(.exit 0,⟨env,⟨[],[]⟩⟩) else(.ret,⟨[(4,.p (.bool false))],⟨[],[]⟩⟩)):=by
 intro n
 induction n with
 |zero=>
  intro k hk hn
  have :k=(els a).length:=by omega
  refine⟨[(0,.p (prmsP a)),(1,.p (prmsP b)),(12,.p (.int .i64 (els a).length)),(13,.p (.int .i64 k)),(14,.p (.bool false))],?_⟩
  rw[List.drop_eq_nil_of_le (by omega),List.drop_eq_nil_of_le (by omega)]
  refine loopK_out (o:=.exit 0) ?_ (by simp)
  simp[fc29_b0,evKC,evK,put,Env.get,Env.keep,Opd.ev,binD,this]
 |succ n ih=>
  intro k hk hn
  by_cases he:k=(els a).length
  ·refine⟨[(0,.p (prmsP a)),(1,.p (prmsP b)),(12,.p (.int .i64 (els a).length)),(13,.p (.int .i64 k)),(14,.p (.bool false))],?_⟩
   rw[List.drop_eq_nil_of_le (by omega),List.drop_eq_nil_of_le (by omega)]
   refine loopK_out (o:=.exit 0) ?_ (by simp)
   simp[fc29_b0,evKC,evK,put,Env.get,Env.keep,Opd.ev,binD,he]
  ·have hlt:k<(els a).length:=by omega
   have hlt2:k<(els b).length:=by omega
   have hlt':(k:Int)<((els a).length:Int):=by omega
   have hia:=ia29 hlt
   have hib:=ia29 hlt2
   obtain⟨env,he⟩:=ih (k+1) (by omega) (by omega)
   refine⟨env,?_⟩
   rw[eqAll_drop' hlt hlt2]
   generalize (els a)[k]=x at hia
   generalize (els b)[k]=y at hib
   have hk1:=inc64 (k:=k) (by omega)
   cases e1:rPrm x y with
   |true=>
    have e2:(!(x.nm==y.nm)|| !(x.s==y.s))=false:=by
     have h:(!(x.nm==y.nm)|| !(x.s==y.s))= !rPrm x y:=by simp[rPrm]
     rw[h,e1];rfl
    rw[Bool.true_and,←he]
    refine loopK_norm ?_
    simp[fc29_b0,evKC,evK,put,Env.get,Env.keep,Opd.ev,loadD,cutAt,D.asInt?,binD,sub,eqvL,PD.eqv,clsP,cls,isW,apartRW,offB,apartWW,clash,insOk,Prm.cells,hlt',hia,hib,hk1,e2]
   |false=>
    have e2:(!(x.nm==y.nm)|| !(x.s==y.s))=true:=by
     have h:(!(x.nm==y.nm)|| !(x.s==y.s))= !rPrm x y:=by simp[rPrm]
     rw[h,e1];rfl
    rw[Bool.false_and]
    refine loopK_out (o:=.ret) ?_ (by simp)
    simp[fc29_b0,evKC,evK,put,Env.get,Env.keep,Opd.ev,loadD,cutAt,D.asInt?,binD,sub,eqvL,PD.eqv,clsP,cls,isW,apartRW,offB,apartWW,clash,insOk,Prm.cells,hlt',hia,hib,e2]
theorem eq290(a b:Sl Prm)(hb:(els a).length≤4611686018427387904):call pg 29 [.p (prmsP a),.p (prmsP b)] ⟨[],[]⟩=some (.val (.p (.bool (eqAll rPrm (els a) (els b)))),⟨[],[]⟩):=by
 refine call_body (fc:=fc29) rfl rfl rfl rfl ?_
 by_cases hl:(els a).length=(els b).length
 ·have hn:(((els a).length:Int)!=((els b).length:Int))=false:=by rw[bne_nat];simp[hl]
  obtain⟨env,he⟩:=eq29_loop a b hl hb (els a).length 0 (by omega) (by omega)
  rw[List.drop_zero,List.drop_zero] at he
  simp only[Int.natCast_zero] at he
  cases ha:eqAll rPrm (els a) (els b) with
  |true=>
   rw[ha] at he
   simp[fc29,evKC,evK,put,Env.get,Env.keep,entry,Opd.ev,binD,finish,evRes,evRes1,len29,hn,he]
  |false=>
   rw[ha] at he
   simp[fc29,evKC,evK,put,Env.get,Env.keep,entry,Opd.ev,binD,finish,evRes,evRes1,len29,hn,he]
 ·have hn:(((els a).length:Int)!=((els b).length:Int))=true:=by rw[bne_nat];simp[hl]
  have ha:eqAll rPrm (els a) (els b)=false:=by
   cases h:eqAll rPrm (els a) (els b) with
   |false=>rfl
   |true=>exact absurd (eqAll_len h) hl
  simp[fc29,evKC,evK,put,Env.get,Env.keep,entry,Opd.ev,binD,finish,evRes,evRes1,len29,hn,ha]
theorem eq29_eq(a b:Sl Prm)(hb:(els a).length≤4611686018427387904)(H:Hp):callD (call pg) 29 [.p (prmsP a),.p (prmsP b)] H=some (.val (.p (.bool (eqAll rPrm (els a) (els b)))),H):=
 callD_pure (eq290 a b hb) rfl rfl rfl rfl
theorem len31(o:Sl Srt):lenD 1 (.p (srtsP o))=some (els o).length:=len_map ..
theorem ia31{o:Sl Srt}{k:Nat}(h:k<(els o).length):iaddrD none 2 (.p (srtsP o)) (k:Int)=some (.ro (Srt.cells ((els o)[k])) 0):=ia_map h
theorem eq31_loop(a b:Sl Srt)(hl:(els a).length=(els b).length)(hb:(els a).length≤4611686018427387904):∀(n k:Nat),k≤(els a).length→(els a).length-k≤n→
    ∃env,loopK (call pg) pg.G [0,1,12,13] fc31_b0 ⟨[(0,.p (srtsP a)),(1,.p (srtsP b)),(12,.p (.int .i64 (els a).length)),(13,.p (.int .i64 k))],⟨[],[]⟩⟩=
     some (if eqAll rSrt ((els a).drop k) ((els b).drop k) then(.exit 0,⟨env,⟨[],[]⟩⟩) else(.ret,⟨[(4,.p (.bool false))],⟨[],[]⟩⟩)):=by
 intro n
 induction n with
 |zero=>
  intro k hk hn
  have :k=(els a).length:=by omega
  refine⟨[(0,.p (srtsP a)),(1,.p (srtsP b)),(12,.p (.int .i64 (els a).length)),(13,.p (.int .i64 k)),(14,.p (.bool false))],?_⟩
  rw[List.drop_eq_nil_of_le (by omega),List.drop_eq_nil_of_le (by omega)]
  refine loopK_out (o:=.exit 0) ?_ (by simp)
  simp[fc31_b0,evKC,evK,put,Env.get,Env.keep,Opd.ev,binD,this]
 |succ n ih=>
  intro k hk hn
  by_cases he:k=(els a).length
  ·refine⟨[(0,.p (srtsP a)),(1,.p (srtsP b)),(12,.p (.int .i64 (els a).length)),(13,.p (.int .i64 k)),(14,.p (.bool false))],?_⟩
   rw[List.drop_eq_nil_of_le (by omega),List.drop_eq_nil_of_le (by omega)]
   refine loopK_out (o:=.exit 0) ?_ (by simp)
   simp[fc31_b0,evKC,evK,put,Env.get,Env.keep,Opd.ev,binD,he]
  ·have hlt:k<(els a).length:=by omega
   have hlt2:k<(els b).length:=by omega
   have hlt':(k:Int)<((els a).length:Int):=by omega
   have hia:=ia31 hlt
   have hib:=ia31 hlt2
   obtain⟨env,he⟩:=ih (k+1) (by omega) (by omega)
   refine⟨env,?_⟩
   rw[eqAll_drop' hlt hlt2]
   generalize (els a)[k]=x at hia
   generalize (els b)[k]=y at hib
   have hk1:=inc64 (k:=k) (by omega)
   cases e1:rSrt x y with
   |true=>
    have e2:(!(x.nm==y.nm)|| !(x.o==y.o))=false:=by
     have h:(!(x.nm==y.nm)|| !(x.o==y.o))= !rSrt x y:=by simp[rSrt]
     rw[h,e1];rfl
    rw[Bool.true_and,←he]
    refine loopK_norm ?_
    simp[fc31_b0,evKC,evK,put,Env.get,Env.keep,Opd.ev,loadD,cutAt,D.asInt?,binD,sub,eqvL,PD.eqv,clsP,cls,isW,apartRW,offB,apartWW,clash,insOk,Srt.cells,hlt',hia,hib,hk1,e2]
   |false=>
    have e2:(!(x.nm==y.nm)|| !(x.o==y.o))=true:=by
     have h:(!(x.nm==y.nm)|| !(x.o==y.o))= !rSrt x y:=by simp[rSrt]
     rw[h,e1];rfl
    rw[Bool.false_and]
    refine loopK_out (o:=.ret) ?_ (by simp)
    simp[fc31_b0,evKC,evK,put,Env.get,Env.keep,Opd.ev,loadD,cutAt,D.asInt?,binD,sub,eqvL,PD.eqv,clsP,cls,isW,apartRW,offB,apartWW,clash,insOk,Srt.cells,hlt',hia,hib,e2]
theorem eq310(a b:Sl Srt)(hb:(els a).length≤4611686018427387904):call pg 31 [.p (srtsP a),.p (srtsP b)] ⟨[],[]⟩=some (.val (.p (.bool (eqAll rSrt (els a) (els b)))),⟨[],[]⟩):=by
 refine call_body (fc:=fc31) rfl rfl rfl rfl ?_
 by_cases hl:(els a).length=(els b).length
 ·have hn:(((els a).length:Int)!=((els b).length:Int))=false:=by rw[bne_nat];simp[hl]
  obtain⟨env,he⟩:=eq31_loop a b hl hb (els a).length 0 (by omega) (by omega)
  rw[List.drop_zero,List.drop_zero] at he
  simp only[Int.natCast_zero] at he
  cases ha:eqAll rSrt (els a) (els b) with
  |true=>
   rw[ha] at he
   simp[fc31,evKC,evK,put,Env.get,Env.keep,entry,Opd.ev,binD,finish,evRes,evRes1,len31,hn,he]
  |false=>
   rw[ha] at he
   simp[fc31,evKC,evK,put,Env.get,Env.keep,entry,Opd.ev,binD,finish,evRes,evRes1,len31,hn,he]
 ·have hn:(((els a).length:Int)!=((els b).length:Int))=true:=by rw[bne_nat];simp[hl]
  have ha:eqAll rSrt (els a) (els b)=false:=by
   cases h:eqAll rSrt (els a) (els b) with
   |false=>rfl
   |true=>exact absurd (eqAll_len h) hl
  simp[fc31,evKC,evK,put,Env.get,Env.keep,entry,Opd.ev,binD,finish,evRes,evRes1,len31,hn,ha]
theorem eq31_eq(a b:Sl Srt)(hb:(els a).length≤4611686018427387904)(H:Hp):callD (call pg) 31 [.p (srtsP a),.p (srtsP b)] H=some (.val (.p (.bool (eqAll rSrt (els a) (els b)))),H):=
 callD_pure (eq310 a b hb) rfl rfl rfl rfl
def rFld(x y:Fld):Bool:=x.nm==y.nm&&x.v==y.v&&eqAll rInt (els x.l) (els y.l)
def rPrd(x y:Prd):Bool:=x.nm==y.nm&&eqAll rPrm (els x.l) (els y.l)&&eqN x.b y.b
def rFct(x y:Fct):Bool:=x.nm==y.nm&&eqN x.b y.b
theorem fld0(x y:Fld)(hb:(els x.l).length≤4611686018427387904):∃H',call pg 26 [.p x.pd,.p y.pd] ⟨[],[]⟩=some (.val (.p (.bool (rFld x y))),H'):=by
 have hq:=fun H=>eq27_eq x.l y.l hb H
 refine⟨_,call_body (fc:=fc26) rfl rfl rfl rfl (r:=(_,⟨[x.cells.map .p,y.cells.map .p],[]⟩)) ?_⟩
 cases h1:(x.nm==y.nm) with
 |false=>simp[fc26,evKC,evK,evGuard,put,Env.get,Env.keep,entry,Opd.ev,loadD,cutAt,binD,strBin,finish,evRes,evRes1,D.cells,isMapC,Fld.pd,Fld.cells,h1,rFld,intsP,one_slP]
 |true=>
  cases h2:(x.v==y.v) with
  |false=>simp[fc26,evKC,evK,evGuard,put,Env.get,Env.keep,entry,Opd.ev,loadD,cutAt,binD,strBin,finish,evRes,evRes1,D.cells,eqD,isMapC,Fld.pd,Fld.cells,h1,h2,rFld,intsP,one_slP]
  |true=>
   simp only[intsP] at hq
   simp[fc26,evKC,evK,evGuard,put,Env.get,Env.keep,entry,Opd.ev,loadD,cutAt,binD,strBin,finish,evRes,evRes1,D.cells,eqD,isMapC,Fld.pd,Fld.cells,h1,h2,rFld,intsP,hq,one_slP]
theorem fld_eq(x y:Fld)(hb:(els x.l).length≤4611686018427387904)(H:Hp):callD (call pg) 26 [.p x.pd,.p y.pd] H=some (.val (.p (.bool (rFld x y))),H):=callD_any (fld0 x y hb) rfl rfl rfl rfl H
theorem prd0(x y:Prd)(hb:(els x.l).length≤4611686018427387904)(hs:x.b.size≤1000000000):∃H',call pg 28 [.p x.pd,.p y.pd] ⟨[],[]⟩=some (.val (.p (.bool (rPrd x y))),H'):=by
 have hq:=fun H=>eq29_eq x.l y.l hb H
 have hn:=fun H=>equalNodes_eq (b:=y.b) hs H
 have o1:=one_of (prd_one x)
 have o2:=one_of (prd_one y)
 have l1:∀G,loadD G ⟨[x.cells.map .p,y.cells.map .p],[]⟩ (some 5) (.box 0 2)=some (.p x.b.pd):=fun G=>by rw[pd_cells];exact load_at (pre:=[.str x.nm,prmsP x.l]) rfl rfl rfl
 have l2:∀G,loadD G ⟨[x.cells.map .p,y.cells.map .p],[]⟩ (some 5) (.box 1 2)=some (.p y.b.pd):=fun G=>by rw[pd_cells];exact load_at (pre:=[.str y.nm,prmsP y.l]) rfl rfl rfl
 have l3:∀G,loadD G ⟨[x.cells.map .p,y.cells.map .p],[]⟩ none (.box 0 0)=some (.p (.str x.nm)):=fun G=>rfl
 have l4:∀G,loadD G ⟨[x.cells.map .p,y.cells.map .p],[]⟩ none (.box 1 0)=some (.p (.str y.nm)):=fun G=>rfl
 have l5:∀G,loadD G ⟨[x.cells.map .p,y.cells.map .p],[]⟩ none (.box 0 1)=some (.p (prmsP x.l)):=fun G=>rfl
 have l6:∀G,loadD G ⟨[x.cells.map .p,y.cells.map .p],[]⟩ none (.box 1 1)=some (.p (prmsP y.l)):=fun G=>rfl
 refine⟨_,call_body (fc:=fc28) rfl rfl rfl rfl (r:=(_,⟨[x.cells.map .p,y.cells.map .p],[]⟩)) ?_⟩
 cases h1:(x.nm==y.nm) with
 |false=>simp[fc28,evKC,evK,evGuard,put,Env.get,Env.keep,entry,Opd.ev,binD,strBin,finish,evRes,evRes1,D.cells,Prd.pd,o1,o2,l3,l4,h1,rPrd]
 |true=>
  cases h2:eqAll rPrm (els x.l) (els y.l) with
  |false=>simp[fc28,evKC,evK,evGuard,put,Env.get,Env.keep,entry,Opd.ev,binD,strBin,finish,evRes,evRes1,D.cells,Prd.pd,o1,o2,l3,l4,l5,l6,h1,h2,rPrd,hq]
  |true=>simp[fc28,evKC,evK,evGuard,put,Env.get,Env.keep,entry,Opd.ev,binD,strBin,finish,evRes,evRes1,D.cells,Prd.pd,o1,o2,l1,l2,l3,l4,l5,l6,h1,h2,rPrd,hq,hn]
theorem prd_eq(x y:Prd)(hb:(els x.l).length≤4611686018427387904)(hs:x.b.size≤1000000000)(H:Hp):callD (call pg) 28 [.p x.pd,.p y.pd] H=some (.val (.p (.bool (rPrd x y))),H):=callD_any (prd0 x y hb hs) rfl rfl rfl rfl H
theorem fct0(x y:Fct)(hs:x.b.size≤1000000000):∃H',call pg 30 [.p x.pd,.p y.pd] ⟨[],[]⟩=some (.val (.p (.bool (rFct x y))),H'):=by
 have hn:=fun H=>equalNodes_eq (b:=y.b) hs H
 have o1:=one_of (fct_one x)
 have o2:=one_of (fct_one y)
 have l1:∀G,loadD G ⟨[x.cells.map .p,y.cells.map .p],[]⟩ (some 5) (.box 0 1)=some (.p x.b.pd):=fun G=>by rw[pd_cells];exact load_at (pre:=[.str x.nm]) rfl rfl rfl
 have l2:∀G,loadD G ⟨[x.cells.map .p,y.cells.map .p],[]⟩ (some 5) (.box 1 1)=some (.p y.b.pd):=fun G=>by rw[pd_cells];exact load_at (pre:=[.str y.nm]) rfl rfl rfl
 have l3:∀G,loadD G ⟨[x.cells.map .p,y.cells.map .p],[]⟩ none (.box 0 0)=some (.p (.str x.nm)):=fun G=>rfl
 have l4:∀G,loadD G ⟨[x.cells.map .p,y.cells.map .p],[]⟩ none (.box 1 0)=some (.p (.str y.nm)):=fun G=>rfl
 refine⟨_,call_body (fc:=fc30) rfl rfl rfl rfl (r:=(_,⟨[x.cells.map .p,y.cells.map .p],[]⟩)) ?_⟩
 cases h1:(x.nm==y.nm) with
 |false=>simp[fc30,evKC,evK,evGuard,put,Env.get,Env.keep,entry,Opd.ev,binD,strBin,finish,evRes,evRes1,D.cells,Fct.pd,o1,o2,l3,l4,h1,rFct]
 |true=>simp[fc30,evKC,evK,evGuard,put,Env.get,Env.keep,entry,Opd.ev,binD,strBin,finish,evRes,evRes1,D.cells,Fct.pd,o1,o2,l1,l2,l3,l4,h1,rFct,hn]
theorem fct_eq(x y:Fct)(hs:x.b.size≤1000000000)(H:Hp):callD (call pg) 30 [.p x.pd,.p y.pd] H=some (.val (.p (.bool (rFct x y))),H):=callD_any (fct0 x y hs) rfl rfl rfl rfl H
theorem flds_eq(a b:Sl Fld)(hn:(els a).length≤4611686018427387904)(hl:∀x∈els a,(els x.l).length≤4611686018427387904)(H:Hp):callD (call pg) 32 [.p (fldsP a),.p (fldsP b),.fn 26 [] []] H=some (.val (.p (.bool (eqAll rFld (els a) (els b)))),H):=
 callD_pure (eqf_eq (p:=pg) (fi:=32) (g:=26) (sz:=3) (zs:=[.str [],.nils,.bool false]) rfl rfl rfl (by decide) rfl (fun x _=>rec_fld x) (fun x _=>rec_fld x) (fun _ h1 _ H=>fld_eq _ _ (hl _ (List.getElem_mem h1)) H) hn) rfl rfl rfl rfl
theorem prds_eq(a b:Sl Prd)(hn:(els a).length≤4611686018427387904)(hl:∀x∈els a,(els x.l).length≤4611686018427387904∧x.b.size≤1000000000)(H:Hp):callD (call pg) 33 [.p (prdsP a),.p (prdsP b),.fn 28 [] []] H=some (.val (.p (.bool (eqAll rPrd (els a) (els b)))),H):=
 callD_pure (eqf_eq (p:=pg) (fi:=33) (g:=28) (sz:=7) (zs:=[.str [],.nils,.int .i64 0,.str [],.int .i64 0,.nils,.int .i64 0]) rfl rfl rfl (by decide) rfl (fun x _=>rec_prd x) (fun x _=>rec_prd x) (fun _ h1 _ H=>prd_eq _ _ (hl _ (List.getElem_mem h1)).1 (hl _ (List.getElem_mem h1)).2 H) hn) rfl rfl rfl rfl
theorem fcts_eq(a b:Sl Fct)(hn:(els a).length≤4611686018427387904)(hl:∀x∈els a,x.b.size≤1000000000)(H:Hp):callD (call pg) 34 [.p (fctsP a),.p (fctsP b),.fn 30 [] []] H=some (.val (.p (.bool (eqAll rFct (els a) (els b)))),H):=
 callD_pure (eqf_eq (p:=pg) (fi:=34) (g:=30) (sz:=6) (zs:=[.str [],.int .i64 0,.str [],.int .i64 0,.nils,.int .i64 0]) rfl rfl rfl (by decide) rfl (fun x _=>rec_fct x) (fun x _=>rec_fct x) (fun _ h1 _ H=>fct_eq _ _ (hl _ (List.getElem_mem h1)) H) hn) rfl rfl rfl rfl
def Mod(x:Spc):Prop:=(els x.s).length≤20∧(els x.f).length≤20∧(els x.p).length≤20∧(els x.q).length≤20∧(∀y∈els x.f,(els y.l).length≤20)∧(∀y∈els x.p,y.b.size≤400∧(els y.l).length≤20)∧∀y∈els x.q,y.b.size≤400
def rSpc(x y:Spc):Bool:=eqAll rSrt (els x.s) (els y.s)&&eqAll rFld (els x.f) (els y.f)&&eqAll rPrd (els x.p) (els y.p)&&eqAll rFct (els x.q) (els y.q)
theorem spc0(x y:Spc)(hm:Mod x):∃H',call pg 11 [.p x.pd,.p y.pd] ⟨[],[]⟩=some (.val (.p (.bool (rSpc x y))),H'):=by
 obtain⟨m1,m2,m3,m4,m5,m6,m7⟩:=hm
 have q1:=fun H=>eq31_eq x.s y.s (by omega) H
 have q2:=fun H=>flds_eq x.f y.f (by omega) (fun z h=>by have:=m5 z h;omega) H
 have q3:=fun H=>prds_eq x.p y.p (by omega) (fun z h=>by have:=m6 z h;exact⟨by omega,by omega⟩) H
 have q4:=fun H=>fcts_eq x.q y.q (by omega) (fun z h=>by have:=m7 z h;omega) H
 have o1:=one_of (spc_one x)
 have o2:=one_of (spc_one y)
 have a0:∀G,loadD G ⟨[x.cells.map .p,y.cells.map .p],[]⟩ none (.box 0 0)=some (.p (srtsP x.s)):=fun G=>rfl
 have a1:∀G,loadD G ⟨[x.cells.map .p,y.cells.map .p],[]⟩ none (.box 0 1)=some (.p (fldsP x.f)):=fun G=>rfl
 have a2:∀G,loadD G ⟨[x.cells.map .p,y.cells.map .p],[]⟩ none (.box 0 2)=some (.p (prdsP x.p)):=fun G=>rfl
 have a3:∀G,loadD G ⟨[x.cells.map .p,y.cells.map .p],[]⟩ none (.box 0 3)=some (.p (fctsP x.q)):=fun G=>rfl
 have b0:∀G,loadD G ⟨[x.cells.map .p,y.cells.map .p],[]⟩ none (.box 1 0)=some (.p (srtsP y.s)):=fun G=>rfl
 have b1:∀G,loadD G ⟨[x.cells.map .p,y.cells.map .p],[]⟩ none (.box 1 1)=some (.p (fldsP y.f)):=fun G=>rfl
 have b2:∀G,loadD G ⟨[x.cells.map .p,y.cells.map .p],[]⟩ none (.box 1 2)=some (.p (prdsP y.p)):=fun G=>rfl
 have b3:∀G,loadD G ⟨[x.cells.map .p,y.cells.map .p],[]⟩ none (.box 1 3)=some (.p (fctsP y.q)):=fun G=>rfl
 refine⟨_,call_body (fc:=fc11) rfl rfl rfl rfl (r:=(_,⟨[x.cells.map .p,y.cells.map .p],[]⟩)) ?_⟩
 simp only[rSpc]
 cases h1:eqAll rSrt (els x.s) (els y.s) with
 |false=>simp[fc11,evKC,evK,evGuard,put,Env.get,Env.keep,entry,Opd.ev,finish,evRes,evRes1,D.cells,Spc.pd,o1,o2,a0,b0,h1,q1]
 |true=>
  cases h2:eqAll rFld (els x.f) (els y.f) with
  |false=>simp[fc11,evKC,evK,evGuard,put,Env.get,Env.keep,entry,Opd.ev,finish,evRes,evRes1,D.cells,Spc.pd,o1,o2,a0,b0,a1,b1,h1,h2,q1,q2]
  |true=>
   cases h3:eqAll rPrd (els x.p) (els y.p) with
   |false=>simp[fc11,evKC,evK,evGuard,put,Env.get,Env.keep,entry,Opd.ev,finish,evRes,evRes1,D.cells,Spc.pd,o1,o2,a0,b0,a1,b1,a2,b2,h1,h2,h3,q1,q2,q3]
   |true=>simp[fc11,evKC,evK,evGuard,put,Env.get,Env.keep,entry,Opd.ev,finish,evRes,evRes1,D.cells,Spc.pd,o1,o2,a0,b0,a1,b1,a2,b2,a3,b3,h1,h2,h3,q1,q2,q3,q4]
theorem spc_eq(x y:Spc)(hm:Mod x)(H:Hp):callD (call pg) 11 [.p x.pd,.p y.pd] H=some (.val (.p (.bool (rSpc x y))),H):=callD_any (spc0 x y hm) rfl rfl rfl rfl H
def okF(y:Fld):Bool:=decide ((els y.l).length≤20)
def okP(y:Prd):Bool:=decide (y.b.size≤400)&&decide ((els y.l).length≤20)
def okQ(y:Fct):Bool:=decide (y.b.size≤400)
theorem len_flds(o:Sl Fld):lenD 1 (.p (fldsP o))=some (els o).length:=len_map ..
theorem ia_flds{o:Sl Fld}{k:Nat}(h:k<(els o).length):iaddrD none 3 (.p (fldsP o)) (k:Int)=some (.ro ((els o)[k]).cells 0):=ia_map h
theorem modf(x:Spc)(hb:(els x.f).length≤20):∀(n k:Nat),k≤(els x.f).length→(els x.f).length-k≤n→
    ∃env,env.get 1= .box 0 0∧loopK (call pg) pg.G [1,3] fc8_b0 ⟨[(1,.box 0 0),(3,.p (.int .i64 k))],⟨[x.cells.map .p],[]⟩⟩=
     some (if((els x.f).drop k).all okF then(.exit 0,⟨env,⟨[x.cells.map .p],[]⟩⟩) else(.ret,⟨[(2,.p (.bool false))],⟨[x.cells.map .p],[]⟩⟩)):=by
 intro n
 have hn:=len_flds x.f
 have hld:∀G,loadD G ⟨[x.cells.map .p],[]⟩ none (.box 0 1)=some (.p (fldsP x.f)):=fun G=>rfl
 induction n with
 |zero=>
  intro k hk hn'
  have he:k=(els x.f).length:=by omega
  refine⟨[(1,.box 0 0),(3,.p (.int .i64 k)),(34,.p (.bool false))],rfl,?_⟩
  rw[List.drop_eq_nil_of_le (by omega)]
  refine loopK_out (o:=.exit 0) ?_ (by simp)
  simp[fc8_b0,evKC,evK,put,Env.get,Env.keep,Opd.ev,binD,List.map,hn,hld,he]
 |succ n ih=>
  intro k hk hn'
  by_cases he:k=(els x.f).length
  ·refine⟨[(1,.box 0 0),(3,.p (.int .i64 k)),(34,.p (.bool false))],rfl,?_⟩
   rw[List.drop_eq_nil_of_le (by omega)]
   refine loopK_out (o:=.exit 0) ?_ (by simp)
   simp[fc8_b0,evKC,evK,put,Env.get,Env.keep,Opd.ev,binD,List.map,hn,hld,he]
  ·have hlt:k<(els x.f).length:=by omega
   have hlt':(k:Int)<((els x.f).length:Int):=by omega
   have hia:=ia_flds hlt
   have hk1:=inc64 (k:=k) (by omega)
   obtain⟨env,g1,he⟩:=ih (k+1) (by omega) (by omega)
   refine⟨env,g1,?_⟩
   rw[List.drop_eq_getElem_cons hlt,List.all_cons]
   generalize (els x.f)[k]=y at hia
   have l1:∀(G:Nat→Option (List PD)) H,loadD G H none (.ro y.cells 1)=some (.p (intsP y.l)):=fun G H=>rfl
   have n1:=len27 y.l
   by_cases h1:(els y.l).length≤20
   ·have d1:¬(20 :Int)<((els y.l).length:Int):=by omega
    simp only[okF,decide_eq_true h1,Bool.true_and]
    rw[←he]
    refine loopK_norm ?_
    simp[fc8_b0,evKC,evK,put,Env.get,Env.keep,Opd.ev,D.asInt?,binD,List.map,hn,hld,hlt',hia,l1,n1,d1,hk1]
   ·have d1:(20 :Int)<((els y.l).length:Int):=by omega
    simp only[okF,decide_eq_false h1,Bool.false_and]
    refine loopK_out (o:=.ret) ?_ (by simp)
    simp[fc8_b0,evKC,evK,put,Env.get,Env.keep,Opd.ev,D.asInt?,binD,List.map,hn,hld,hlt',hia,l1,n1,d1]
theorem len_prds(o:Sl Prd):lenD 1 (.p (prdsP o))=some (els o).length:=len_map ..
theorem ia_prds{o:Sl Prd}{k:Nat}(h:k<(els o).length):iaddrD none 7 (.p (prdsP o)) (k:Int)=some (.ro ((els o)[k]).cells 0):=ia_map h
theorem modp(x:Spc)(hb:(els x.p).length≤20):∀(n k:Nat),k≤(els x.p).length→(els x.p).length-k≤n→
    ∃env,env.get 1= .box 0 0∧loopK (call pg) pg.G [1,4] fc8_b1 ⟨[(1,.box 0 0),(4,.p (.int .i64 k))],⟨[x.cells.map .p],[]⟩⟩=
     some (if((els x.p).drop k).all okP then(.exit 2,⟨env,⟨[x.cells.map .p],[]⟩⟩) else(.ret,⟨[(2,.p (.bool false))],⟨[x.cells.map .p],[]⟩⟩)):=by
 intro n
 have hn:=len_prds x.p
 have hld:∀G,loadD G ⟨[x.cells.map .p],[]⟩ none (.box 0 2)=some (.p (prdsP x.p)):=fun G=>rfl
 induction n with
 |zero=>
  intro k hk hn'
  have he:k=(els x.p).length:=by omega
  refine⟨[(1,.box 0 0),(4,.p (.int .i64 k)),(49,.p (.bool false))],rfl,?_⟩
  rw[List.drop_eq_nil_of_le (by omega)]
  refine loopK_out (o:=.exit 2) ?_ (by simp)
  simp[fc8_b1,evKC,evK,put,Env.get,Env.keep,Opd.ev,binD,mapO,D.ren,locD,below,Out.ren,List.map,hn,hld,he]
 |succ n ih=>
  intro k hk hn'
  by_cases he:k=(els x.p).length
  ·refine⟨[(1,.box 0 0),(4,.p (.int .i64 k)),(49,.p (.bool false))],rfl,?_⟩
   rw[List.drop_eq_nil_of_le (by omega)]
   refine loopK_out (o:=.exit 2) ?_ (by simp)
   simp[fc8_b1,evKC,evK,put,Env.get,Env.keep,Opd.ev,binD,mapO,D.ren,locD,below,Out.ren,List.map,hn,hld,he]
  ·have hlt:k<(els x.p).length:=by omega
   have hlt':(k:Int)<((els x.p).length:Int):=by omega
   have hia:=ia_prds hlt
   have hk1:=inc64 (k:=k) (by omega)
   obtain⟨env,g1,he⟩:=ih (k+1) (by omega) (by omega)
   refine⟨env,g1,?_⟩
   rw[List.drop_eq_getElem_cons hlt,List.all_cons]
   generalize (els x.p)[k]=y at hia
   have l1:∀(G:Nat→Option (List PD)) H,loadD G H none (.ro y.cells 1)=some (.p (prmsP y.l)):=fun G H=>rfl
   have l2:∀(G:Nat→Option (List PD)) H,loadD G H (some 5) (.ro y.cells 2)=some (.p y.b.pd):=fun G H=>by rw[pd_cells];exact ro_at (pre:=[.str y.nm,prmsP y.l]) rfl rfl
   have n1:=len29 y.l
   have hc:=small_eq y.b
   by_cases h0:y.b.size≤400
   ·simp only[decide_eq_true h0] at hc
    by_cases h1:(els y.l).length≤20
    ·have d1:¬(20 :Int)<((els y.l).length:Int):=by omega
     simp only[okP,decide_eq_true h0,decide_eq_true h1,Bool.true_and]
     rw[←he]
     refine loopK_norm ?_
     simp[fc8_b1,evKC,evK,evGuard,put,Env.get,Env.keep,Opd.ev,D.asInt?,binD,unD,mapO,D.ren,locD,below,Out.ren,List.map,hn,hld,hlt',hia,l1,l2,n1,d1,hk1,hc]
    ·have d1:(20 :Int)<((els y.l).length:Int):=by omega
     simp only[okP,decide_eq_true h0,decide_eq_false h1,Bool.true_and,Bool.false_and]
     refine loopK_out (o:=.ret) ?_ (by simp)
     simp[fc8_b1,evKC,evK,evGuard,put,Env.get,Env.keep,Opd.ev,D.asInt?,binD,unD,mapO,D.ren,locD,Out.ren,List.map,hn,hld,hlt',hia,l1,l2,n1,d1,hc]
   ·simp only[decide_eq_false h0] at hc
    simp only[okP,decide_eq_false h0,Bool.false_and]
    refine loopK_out (o:=.ret) ?_ (by simp)
    simp[fc8_b1,evKC,evK,evGuard,put,Env.get,Env.keep,Opd.ev,D.asInt?,binD,unD,mapO,D.ren,locD,Out.ren,List.map,hn,hld,hlt',hia,l2,hc]
theorem len_fcts(o:Sl Fct):lenD 1 (.p (fctsP o))=some (els o).length:=len_map ..
theorem ia_fcts{o:Sl Fct}{k:Nat}(h:k<(els o).length):iaddrD none 6 (.p (fctsP o)) (k:Int)=some (.ro ((els o)[k]).cells 0):=ia_map h
theorem modq(x:Spc)(hb:(els x.q).length≤20):∀(n k:Nat),k≤(els x.q).length→(els x.q).length-k≤n→
    ∃env,env.get 1= .box 0 0∧loopK (call pg) pg.G [1,6] fc8_b2 ⟨[(1,.box 0 0),(6,.p (.int .i64 k))],⟨[x.cells.map .p],[]⟩⟩=
     some (if((els x.q).drop k).all okQ then(.exit 4,⟨env,⟨[x.cells.map .p],[]⟩⟩) else(.ret,⟨[(2,.p (.bool false))],⟨[x.cells.map .p],[]⟩⟩)):=by
 intro n
 have hn:=len_fcts x.q
 have hld:∀G,loadD G ⟨[x.cells.map .p],[]⟩ none (.box 0 3)=some (.p (fctsP x.q)):=fun G=>rfl
 induction n with
 |zero=>
  intro k hk hn'
  have he:k=(els x.q).length:=by omega
  refine⟨[(1,.box 0 0),(6,.p (.int .i64 k)),(75,.p (.bool false))],rfl,?_⟩
  rw[List.drop_eq_nil_of_le (by omega)]
  refine loopK_out (o:=.exit 4) ?_ (by simp)
  simp[fc8_b2,evKC,evK,put,Env.get,Env.keep,Opd.ev,binD,mapO,D.ren,locD,below,Out.ren,List.map,hn,hld,he]
 |succ n ih=>
  intro k hk hn'
  by_cases he:k=(els x.q).length
  ·refine⟨[(1,.box 0 0),(6,.p (.int .i64 k)),(75,.p (.bool false))],rfl,?_⟩
   rw[List.drop_eq_nil_of_le (by omega)]
   refine loopK_out (o:=.exit 4) ?_ (by simp)
   simp[fc8_b2,evKC,evK,put,Env.get,Env.keep,Opd.ev,binD,mapO,D.ren,locD,below,Out.ren,List.map,hn,hld,he]
  ·have hlt:k<(els x.q).length:=by omega
   have hlt':(k:Int)<((els x.q).length:Int):=by omega
   have hia:=ia_fcts hlt
   have hk1:=inc64 (k:=k) (by omega)
   obtain⟨env,g1,he⟩:=ih (k+1) (by omega) (by omega)
   refine⟨env,g1,?_⟩
   rw[List.drop_eq_getElem_cons hlt,List.all_cons]
   generalize (els x.q)[k]=y at hia
   have l2:∀(G:Nat→Option (List PD)) H,loadD G H (some 5) (.ro y.cells 1)=some (.p y.b.pd):=fun G H=>by rw[pd_cells];exact ro_at (pre:=[.str y.nm]) rfl rfl
   have hc:=small_eq y.b
   by_cases h0:y.b.size≤400
   ·simp only[decide_eq_true h0] at hc
    simp only[okQ,decide_eq_true h0,Bool.true_and]
    rw[←he]
    refine loopK_norm ?_
    simp[fc8_b2,evKC,evK,put,Env.get,Env.keep,Opd.ev,D.asInt?,binD,unD,mapO,D.ren,locD,below,Out.ren,List.map,hn,hld,hlt',hia,l2,hk1,hc]
   ·simp only[decide_eq_false h0] at hc
    simp only[okQ,decide_eq_false h0,Bool.false_and]
    refine loopK_out (o:=.ret) ?_ (by simp)
    simp[fc8_b2,evKC,evK,put,Env.get,Env.keep,Opd.ev,D.asInt?,binD,unD,mapO,D.ren,locD,Out.ren,List.map,hn,hld,hlt',hia,l2,hc]
instance (x:Spc):Decidable (Mod x):=by unfold Mod;exact inferInstance
theorem modest0(x:Spc):∃H',call pg 8 [.p x.pd] ⟨[],[]⟩=some (.val (.p (.bool (decide (Mod x)))),H'):=by
 have o1:=one_of (spc_one x)
 have a0:∀G,loadD G ⟨[x.cells.map .p],[]⟩ none (.box 0 0)=some (.p (srtsP x.s)):=fun G=>rfl
 have a1:∀G,loadD G ⟨[x.cells.map .p],[]⟩ none (.box 0 1)=some (.p (fldsP x.f)):=fun G=>rfl
 have a2:∀G,loadD G ⟨[x.cells.map .p],[]⟩ none (.box 0 2)=some (.p (prdsP x.p)):=fun G=>rfl
 have a3:∀G,loadD G ⟨[x.cells.map .p],[]⟩ none (.box 0 3)=some (.p (fctsP x.q)):=fun G=>rfl
 have n0:=len31 x.s
 have n1:=len_flds x.f
 have n2:=len_prds x.p
 have n3:=len_fcts x.q
 refine⟨_,call_body (fc:=fc8) rfl rfl rfl rfl (r:=(_,⟨[x.cells.map .p],[]⟩)) ?_⟩
 by_cases h0:(els x.s).length≤20
 ·have d0:¬(20 :Int)<((els x.s).length:Int):=by omega
  by_cases h1:(els x.f).length≤20
  ·have d1:¬(20 :Int)<((els x.f).length:Int):=by omega
   by_cases h2:(els x.p).length≤20
   ·have d2:¬(20 :Int)<((els x.p).length:Int):=by omega
    by_cases h3:(els x.q).length≤20
    ·have d3:¬(20 :Int)<((els x.q).length:Int):=by omega
     have hm:decide (Mod x)=((els x.f).all okF&&(els x.p).all okP&&(els x.q).all okQ):=by
      rw[Bool.eq_iff_iff]
      simp only[decide_eq_true_eq,Mod,Bool.and_eq_true,List.all_eq_true,okF,okP,okQ,h0,h1,h2,h3,true_and,and_assoc]
     rw[hm]
     obtain⟨e1,g1,w1⟩:=modf x h1 _ 0 (by omega) (Nat.le_refl _)
     obtain⟨e2,g2,w2⟩:=modp x h2 _ 0 (by omega) (Nat.le_refl _)
     obtain⟨e3,g3,w3⟩:=modq x h3 _ 0 (by omega) (Nat.le_refl _)
     rw[List.drop_zero] at w1 w2 w3
     simp only[Int.natCast_zero] at w1 w2 w3
     cases c1:(els x.f).all okF with
     |false=>
      rw[c1] at w1
      simp[fc8,evKC,evK,evGuard,put,Env.get,Env.keep,entry,Opd.ev,binD,finish,evRes,evRes1,D.cells,List.map,Spc.pd,o1,a0,a1,a2,a3,n0,n1,n2,n3,d0,d1,d2,d3,w1]
     |true=>
      rw[c1] at w1
      cases c2:(els x.p).all okP with
      |false=>
       rw[c2] at w2
       simp[fc8,evKC,evK,evGuard,put,Env.get,Env.keep,entry,Opd.ev,binD,finish,evRes,evRes1,D.cells,List.map,Spc.pd,o1,a0,a1,a2,a3,n0,n1,n2,n3,d0,d1,d2,d3,w1,g1,w2]
      |true=>
       rw[c2] at w2
       cases c3:(els x.q).all okQ with
       |false=>
        rw[c3] at w3
        simp[fc8,evKC,evK,evGuard,put,Env.get,Env.keep,entry,Opd.ev,binD,finish,evRes,evRes1,D.cells,List.map,Spc.pd,o1,a0,a1,a2,a3,n0,n1,n2,n3,d0,d1,d2,d3,w1,g1,w2,g2,w3]
       |true=>
        rw[c3] at w3
        simp[fc8,evKC,evK,evGuard,put,Env.get,Env.keep,entry,Opd.ev,binD,finish,evRes,evRes1,D.cells,List.map,Spc.pd,o1,a0,a1,a2,a3,n0,n1,n2,n3,d0,d1,d2,d3,w1,g1,w2,g2,w3]
    ·have d3:(20 :Int)<((els x.q).length:Int):=by omega
     rw[decide_eq_false (fun h=>h3 h.2.2.2.1)]
     simp[fc8,evKC,evK,evGuard,put,Env.get,Env.keep,entry,Opd.ev,binD,finish,evRes,evRes1,D.cells,List.map,Spc.pd,o1,a0,a1,a2,a3,n0,n1,n2,n3,d0,d1,d2,d3]
   ·have d2:(20 :Int)<((els x.p).length:Int):=by omega
    rw[decide_eq_false (fun h=>h2 h.2.2.1)]
    simp[fc8,evKC,evK,evGuard,put,Env.get,Env.keep,entry,Opd.ev,binD,finish,evRes,evRes1,D.cells,List.map,Spc.pd,o1,a0,a1,a2,n0,n1,n2,d0,d1,d2]
  ·have d1:(20 :Int)<((els x.f).length:Int):=by omega
   rw[decide_eq_false (fun h=>h1 h.2.1)]
   simp[fc8,evKC,evK,evGuard,put,Env.get,Env.keep,entry,Opd.ev,binD,finish,evRes,evRes1,D.cells,List.map,Spc.pd,o1,a0,a1,n0,n1,d0,d1]
 ·have d0:(20 :Int)<((els x.s).length:Int):=by omega
  rw[decide_eq_false (fun h=>h0 h.1)]
  simp[fc8,evKC,evK,evGuard,put,Env.get,Env.keep,entry,Opd.ev,binD,finish,evRes,evRes1,D.cells,List.map,Spc.pd,o1,a0,n0,d0]
theorem modest_eq(x:Spc)(H:Hp):callD (call pg) 8 [.p x.pd] H=some (.val (.p (.bool (decide (Mod x)))),H):=callD_any (modest0 x) rfl rfl rfl rfl H
end Go.Proofs.YtalgjkpkkdljaaaDoor
namespace Go.Proofs.YtalgjkpkkdljaaaDoor
open Go.Vs Go.ChangeShapes Go.WideShapes Go.RowKit
theorem list_of{α:Type}{f:α→PD}:∀{es:List PD},(∀x∈es,∃a,x=f a)→∃l:List α,es=l.map f
 |[],_=>⟨[],rfl⟩
 |x::es,h=>by
  obtain⟨a,rfl⟩:=h x (by simp)
  obtain⟨l,rfl⟩:=list_of (es:=es) fun y hy=>h y (by simp[hy])
  exact⟨a::l,rfl⟩
theorem arg_sl{t e sz:Nat}{α:Type}{f:α→PD}{xs:List PD}(ht:Tryd.prog.underlying t=some (.slice e))(hc:Tryd.prog.cellsOf e=sz)(h:TyP Tryd.prog t xs)
    (he:∀es x,xs=[.slice sz es]→x∈es→TyP Tryd.prog e x.cells→x=mkE Tryd.prog e x.cells→∃a,x=f a):∃o:Sl α,xs=[slP sz (o.map f)]:=by
 subst hc
 rcases typ_slice ht h with rfl |rfl |⟨es,hne,hl,rfl,h1,h2⟩
 ·exact⟨.nil,rfl⟩
 ·exact⟨.of [],rfl⟩
 ·obtain⟨l,rfl⟩:=list_of fun x hx=>he es x rfl hx (h1 x hx) (h2 x hx)
  refine⟨.of l,?_⟩
  cases l with
  |nil=>exact absurd rfl hne
  |cons z zs=>rfl
theorem sl_nd(o:Sl Nd):∃c ks,o=ndSl c ks:=by
 match o with
 | .nil=>exact⟨0,[],rfl⟩
 | .amb=>exact⟨1,[],rfl⟩
 | .of []=>exact⟨2,[],rfl⟩
 | .of (x::l)=>exact⟨2,x::l,rfl⟩
theorem arg_node:∀(n:Nat) (xs:List PD),SizeOf.sizeOf xs≤n→TyP Tryd.prog 24 xs→∃a:Nd,xs=a.cells:=by
 intro n
 induction n with
 |zero=>intro xs h;cases xs<;>simp at h
 |succ n ih=>
  intro xs hs h
  obtain⟨parts,rfl,hl,hf⟩:=typ_struct Tryd.underlying24 h
  match parts,hl with
  |[a,b,c,d,e],_=>
   obtain⟨op,rfl,_⟩:=typ_int Tryd.underlying3 (hf 0 _ a rfl rfl)
   obtain⟨nm,rfl,_⟩:=typ_str Tryd.underlying9 (hf 1 _ b rfl rfl)
   obtain⟨k,rfl,_⟩:=typ_int Tryd.underlying3 (hf 2 _ c rfl rfl)
   obtain⟨pos,rfl,_⟩:=typ_int Tryd.underlying3 (hf 4 _ e rfl rfl)
   have hd:=hf 3 _ d rfl rfl
   obtain⟨o,rfl⟩:=arg_sl (f:=Nd.pd) (sz:=5) Tryd.underlying22 (by kernel_rfl) hd fun es x hes hx h1 h2=>by
    rw[mkE_struct Tryd.underlying24] at h2
    have hlt:SizeOf.sizeOf x<SizeOf.sizeOf es:=List.sizeOf_lt_of_mem hx
    have hx2:SizeOf.sizeOf x=1+SizeOf.sizeOf x.cells:=by
     have :SizeOf.sizeOf (PD.agg x.cells)=1+SizeOf.sizeOf x.cells:=by simp
     rw[←h2] at this;exact this
    subst hes
    simp at hs
    obtain⟨y,hy⟩:=ih x.cells (by omega) h1
    exact⟨y,by rw[h2,hy,pd_cells]⟩
   obtain⟨c,ks,rfl⟩:=sl_nd o
   exact⟨.mk op nm k c ks pos,by simp[Nd.cells,Nd.op,Nd.nm,Nd.n,Nd.pos,Nd.kidsP,Nd.c,Nd.ks]⟩
theorem node_of{xs:List PD}(h:TyP Tryd.prog 24 xs):∃a:Nd,xs=a.cells:=arg_node _ _ (Nat.le_refl _) h
theorem arg_int{xs:List PD}(h:TyP Tryd.prog 46 xs):∃o:Sl Int,xs=[intsP o]:=
 arg_sl (f:=PD.int .i64) Tryd.underlying46 (by kernel_rfl) h fun es x _ _ h1 h2=>by
  obtain⟨n,e1,_⟩:=typ_int Tryd.underlying3 h1
  rw[e1,mkE_one (fun fs e=>by rw[Tryd.underlying3] at e;cases e)] at h2
  exact⟨n,h2⟩
theorem arg_srts{xs:List PD}(h:TyP Tryd.prog 25 xs):∃o:Sl Srt,xs=[srtsP o]:=
 arg_sl (f:=Srt.pd) Tryd.underlying25 (by kernel_rfl) h fun es x _ _ h1 h2=>by
  rw[mkE_struct Tryd.underlying45] at h2
  obtain⟨parts,e,hl,hf⟩:=typ_struct Tryd.underlying45 h1
  match parts,hl with
  |[a,b],_=>
   obtain⟨nm,rfl,_⟩:=typ_str Tryd.underlying9 (hf 0 _ a rfl rfl)
   obtain⟨o,rfl⟩:=typ_bool Tryd.underlying4 (hf 1 _ b rfl rfl)
   exact⟨⟨nm,o⟩,by rw[h2,e];rfl⟩
theorem arg_prms{xs:List PD}(h:TyP Tryd.prog 51 xs):∃o:Sl Prm,xs=[prmsP o]:=
 arg_sl (f:=Prm.pd) Tryd.underlying51 (by kernel_rfl) h fun es x _ _ h1 h2=>by
  rw[mkE_struct Tryd.underlying50] at h2
  obtain⟨parts,e,hl,hf⟩:=typ_struct Tryd.underlying50 h1
  match parts,hl with
  |[a,b],_=>
   obtain⟨nm,rfl,_⟩:=typ_str Tryd.underlying9 (hf 0 _ a rfl rfl)
   obtain⟨o,rfl,_⟩:=typ_int Tryd.underlying3 (hf 1 _ b rfl rfl)
   exact⟨⟨nm,o⟩,by rw[h2,e];rfl⟩
theorem arg_flds{xs:List PD}(h:TyP Tryd.prog 26 xs):∃o:Sl Fld,xs=[fldsP o]:=
 arg_sl (f:=Fld.pd) Tryd.underlying26 (by kernel_rfl) h fun es x _ _ h1 h2=>by
  rw[mkE_struct Tryd.underlying48] at h2
  obtain⟨parts,e,hl,hf⟩:=typ_struct Tryd.underlying48 h1
  match parts,hl with
  |[a,b,c],_=>
   obtain⟨nm,rfl,_⟩:=typ_str Tryd.underlying9 (hf 0 _ a rfl rfl)
   obtain⟨l,rfl⟩:=arg_int (hf 1 _ b rfl rfl)
   obtain⟨v,rfl⟩:=typ_bool Tryd.underlying4 (hf 2 _ c rfl rfl)
   exact⟨⟨nm,l,v⟩,by rw[h2,e];rfl⟩
theorem arg_prds{xs:List PD}(h:TyP Tryd.prog 27 xs):∃o:Sl Prd,xs=[prdsP o]:=
 arg_sl (f:=Prd.pd) Tryd.underlying27 (by kernel_rfl) h fun es x _ _ h1 h2=>by
  rw[mkE_struct Tryd.underlying53] at h2
  obtain⟨parts,e,hl,hf⟩:=typ_struct Tryd.underlying53 h1
  match parts,hl with
  |[a,b,c],_=>
   obtain⟨nm,rfl,_⟩:=typ_str Tryd.underlying9 (hf 0 _ a rfl rfl)
   obtain⟨l,rfl⟩:=arg_prms (hf 1 _ b rfl rfl)
   obtain⟨v,rfl⟩:=node_of (hf 2 _ c rfl rfl)
   exact⟨⟨nm,l,v⟩,by rw[h2,e];simp[Prd.pd,Prd.cells]⟩
theorem arg_fcts{xs:List PD}(h:TyP Tryd.prog 28 xs):∃o:Sl Fct,xs=[fctsP o]:=
 arg_sl (f:=Fct.pd) Tryd.underlying28 (by kernel_rfl) h fun es x _ _ h1 h2=>by
  rw[mkE_struct Tryd.underlying55] at h2
  obtain⟨parts,e,hl,hf⟩:=typ_struct Tryd.underlying55 h1
  match parts,hl with
  |[a,b],_=>
   obtain⟨nm,rfl,_⟩:=typ_str Tryd.underlying9 (hf 0 _ a rfl rfl)
   obtain⟨v,rfl⟩:=node_of (hf 1 _ b rfl rfl)
   exact⟨⟨nm,v⟩,by rw[h2,e];simp[Fct.pd,Fct.cells]⟩
theorem arg_spc{xs:List PD}(h:TyP Tryd.prog 30 xs):∃x:Spc,xs=x.cells:=by
 obtain⟨parts,e,hl,hf⟩:=typ_struct Tryd.underlying30 h
 match parts,hl with
 |[a,b,c,d],_=>
  obtain⟨s,rfl⟩:=arg_srts (hf 0 _ a rfl rfl)
  obtain⟨f,rfl⟩:=arg_flds (hf 1 _ b rfl rfl)
  obtain⟨p,rfl⟩:=arg_prds (hf 2 _ c rfl rfl)
  obtain⟨q,rfl⟩:=arg_fcts (hf 3 _ d rfl rfl)
  exact⟨⟨s,f,p,q⟩,by rw[e];rfl⟩
abbrev argTs:List TypeId:=[24,22,30,25,26,27,28,45,48,53,55,50,51,46,3,9,4]
theorem argTs_ok:argTs.all (tyOk Tryd.prog argTs)=true:=by kernel_rfl
set_option maxRecDepth 20000 in
theorem rep_node{H:Type}{enc:TypeId×Value→H}{W:World}{r:Reach}{b0:Nat}{v:Value}{d:DataW H}{ps:List MemPlace}
    (hval:Value.okWide Tryd.prog W r b0 24 v) (hd:DataW.Trod enc Tryd.prog W 0 (fun _=>true) true 24 v d ps):
    ∃a:Nd,RepD (gh0 W) v (.p a.pd):=by
 obtain⟨x,h1,h2,h3,_⟩:=rep_any argTs_ok (by simp) hval hd
 obtain⟨a,e⟩:=node_of h2
 have hx:=h3 ⟨_,Tryd.underlying24⟩
 exact⟨a,by rw[pd_cells,←e,←hx];exact h1⟩
set_option maxRecDepth 20000 in
theorem rep_spec{H:Type}{enc:TypeId×Value→H}{W:World}{r:Reach}{b0:Nat}{v:Value}{d:DataW H}{ps:List MemPlace}
    (hval:Value.okWide Tryd.prog W r b0 30 v) (hd:DataW.Trod enc Tryd.prog W 0 (fun _=>true) true 30 v d ps):
    ∃a:Spc,RepD (gh0 W) v (.p a.pd):=by
 obtain⟨x,h1,h2,h3,_⟩:=rep_any argTs_ok (by simp) hval hd
 obtain⟨a,e⟩:=arg_spc h2
 have hx:=h3 ⟨_,Tryd.underlying30⟩
 exact⟨a,by rw[Spc.pd,←e,←hx];exact h1⟩
theorem i8_range{n:Int}(h:(Lit.int .i8 n).wf=true): -128≤n∧n≤127:=by
 simp[Lit.wf,IntKind.min,IntKind.max,IntKind.bits,IntKind.signed] at h
 omega
theorem trodAll_six{H:Type}{enc:TypeId×Value→H}{W:World}{base:Nat}{sp:Nat→Bool}{held:Bool}{t0 t1 t2 t3 t4 t5:TypeId}{args:Array Value}{ds:List (DataW H)}{ps:List MemPlace}(h:DataW.TrodAll enc Tryd.prog W base sp held [t0,t1,t2,t3,t4,t5] args.toList ds ps):
    ∃v0 v1 v2 v3 v4 v5 d0 d1 d2 d3 d4 d5,args= #[v0,v1,v2,v3,v4,v5]∧ds=[d0,d1,d2,d3,d4,d5]∧(∃p,DataW.Trod enc Tryd.prog W base sp held t0 v0 d0 p)∧(∃p,DataW.Trod enc Tryd.prog W base sp held t1 v1 d1 p)∧(∃p,DataW.Trod enc Tryd.prog W base sp held t2 v2 d2 p)∧(∃p,DataW.Trod enc Tryd.prog W base sp held t3 v3 d3 p)∧(∃p,DataW.Trod enc Tryd.prog W base sp held t4 v4 d4 p)∧∃p,DataW.Trod enc Tryd.prog W base sp held t5 v5 d5 p:=by
 obtain⟨v0,_,d0,_,_,_,hargs,rfl,rfl,h0,r0⟩:=trodAll_cons h
 obtain⟨v1,_,d1,_,_,_,rfl,rfl,rfl,h1,r1⟩:=trodAll_cons r0
 obtain⟨v2,_,d2,_,_,_,rfl,rfl,rfl,h2,r2⟩:=trodAll_cons r1
 obtain⟨v3,_,d3,_,_,_,rfl,rfl,rfl,h3,r3⟩:=trodAll_cons r2
 obtain⟨v4,_,d4,_,_,_,rfl,rfl,rfl,h4,r4⟩:=trodAll_cons r3
 obtain⟨v5,_,d5,_,_,_,rfl,rfl,rfl,h5,r5⟩:=trodAll_cons r4
 obtain⟨rfl,rfl,rfl⟩:=trodAll_nil r5
 exact⟨v0,v1,v2,v3,v4,v5,d0,d1,d2,d3,d4,d5,by cases args;simp_all,rfl,⟨_,h0⟩,⟨_,h1⟩,⟨_,h2⟩,⟨_,h3⟩,⟨_,h4⟩,⟨_,h5⟩⟩
end Go.Proofs.YtalgjkpkkdljaaaDoor
namespace Go.Proofs.YtalgjkpkkdljaaaDoor
open Go.Vs
def bytesP(l:List UInt8):List PD:=l.map fun b=>.int .u8 b.toNat
theorem bytesP_len(l:List UInt8):(bytesP l).length=l.length:=by simp[bytesP]
theorem bytesP_app(a b:List UInt8):bytesP (a++b)=bytesP a++bytesP b:=by simp[bytesP]
theorem bytesOf_bytesP:∀l:List UInt8,bytesOf (bytesP l)=some l
 |[]=>rfl
 |b::l=>by
  have:=bytesOf_bytesP l
  simp only[bytesP] at this
  simp[bytesP,bytesOf,this]
structure Ent where
 k:Int
 s:List UInt8
 lv:Int
 a:Int
 b:Int
def Ent.pd(e:Ent):PD:=.agg [.str e.s,.int .i64 e.lv,.int .i64 e.a,.int .i64 e.b]
def look:List Ent→Int→Option Ent
 |[],_=>none
 |e::t,k=>if e.k=k then some e else look t k
def tabM(t:List Ent):List D:=[.mapc 13 (t.map fun e=>.int .i64 e.k) (t.map fun e=>.p e.pd)]
def zEnt:PD:=.agg [.str [],.int .i64 0,.int .i64 0,.int .i64 0]
def getT(t:List Ent)(k:Int):D:=match look t k with
 |some e=>.tup [.p e.pd,.p (.bool true)]
 |none=>.tup [.p zEnt,.p (.bool false)]
theorem findK_look(k:Int):∀(t:List Ent),(match findK (.int .i64 k) (t.map fun e=>PD.int .i64 e.k) with
    |some j=>((t.map fun e=>D.p e.pd)[j]?).map fun v=>D.tup [v,.p (.bool true)]
    |none=>some (.tup [.p zEnt,.p (.bool false)]))=some (getT t k):=by
 intro t
 induction t with
 |nil=>rfl
 |cons e t ih=>
  simp only[List.map_cons,findK,getT,look]
  by_cases h:e.k=k
  ·subst h
   simp[keyEq]
  ·have h1:keyEq (.int .i64 k) (.int .i64 e.k)=false:=by simp[keyEq];omega
   simp only[getT] at ih
   simp only[h1,if_neg h,Bool.false_eq_true,if_false]
   rw[←ih]
   cases findK (.int .i64 k) (t.map fun e=>PD.int .i64 e.k)<;>simp
theorem get_tab{H:Hp}{i:Nat}{t:List Ent}(h:H.bx[i]? =some (tabM t))(k:Int):mapgetD 13 zEnt true (.mapr i) (.p (.int .i64 k)) H=some (getT t k):=by
 have:=findK_look k t
 simp only[mapgetD,h,tabM]
 have hk:keyKind (.int .i64 k)=13:=rfl
 simp only[hk,true_and,ne_eq]
 exact this
def prC(f:Bool)(l:List UInt8):List D:=[if f then .fresh 78 4 0 else .box 0 0,.tsl 0 5 1 (bytesP l),.mapr 1,.mapr 2]
def binT:List Ent:=[⟨6,[32,43,32],8,8,9⟩,⟨7,[32,38,32],10,10,11⟩,⟨8,[32,45,32],8,8,9⟩,⟨9,[46],12,12,13⟩,⟨10,[32,45,62,32],11,11,12⟩,⟨14,[32,43,43,32],9,9,10⟩,⟨22,[32,43,32],8,8,9⟩,⟨23,[32,45,32],8,8,9⟩,⟨32,[32,105,110,32],7,8,8⟩,⟨33,[32,61,32],7,8,8⟩,⟨38,[32,61,32],7,8,8⟩,⟨39,[32,60,32],7,8,8⟩,⟨41,[32,38,38,32],4,4,5⟩,⟨42,[32,124,124,32],3,3,4⟩,⟨43,[32,61,62,32],2,3,2⟩,⟨44,[32,60,61,62,32],1,1,2⟩,⟨51,[32,117,110,116,105,108,32],5,6,5⟩]
def preT:List Ent:=[⟨11,[126],13,13,0⟩,⟨12,[94],13,13,0⟩,⟨13,[42],13,13,0⟩,⟨21,[35],12,12,0⟩,⟨34,[115,111,109,101,32],7,8,0⟩,⟨35,[110,111,32],7,8,0⟩,⟨36,[111,110,101,32],7,8,0⟩,⟨37,[108,111,110,101,32],7,8,0⟩,⟨40,[110,111,116,32],6,6,0⟩,⟨48,[97,108,119,97,121,115,32],6,6,0⟩,⟨49,[101,118,101,110,116,117,97,108,108,121,32],6,6,0⟩,⟨50,[97,102,116,101,114,32],6,6,0⟩]
def pH(f:Bool)(l:List UInt8)(bx:List (List D)):Hp:=⟨prC f l::tabM binT::tabM preT::bx,[l.length]⟩
theorem new_run:evF pg 10 39 [] ⟨[],[]⟩=some (.val (.box 2 0),⟨[tabM binT,tabM preT,[.fresh 78 4 2,.p .nils,.mapr 0,.mapr 1]],[]⟩):=by kernel_rfl
theorem refs_pr(f:Bool)(l:List UInt8)(bx:List (List D)):boxRefs (pH f l bx) [0]=[0,1,2]:=by cases f<;>rfl
theorem refs_pr3(f:Bool)(l:List UInt8)(bx:List (List D)):boxRefs (pH f l bx) [0,1,2]=[0,1,2]:=by cases f<;>rfl
theorem reach_pr3(f:Bool)(l:List UInt8)(bx:List (List D)):∀n,reach (pH f l bx) n [0,1,2]=[0,1,2]
 | 0=>rfl
 |n+1=>by simp only[reach,refs_pr3];exact reach_pr3 f l bx n
theorem reach_pr(f:Bool)(l:List UInt8)(bx:List (List D))(n:Nat):reach (pH f l bx) (n+1) [0]=[0,1,2]:=by
 simp only[reach,refs_pr];exact reach_pr3 f l bx n
theorem callD_prG{g:Nat}{args:List D}{f:Bool}{l:List UInt8}{bx:List (List D)}{d:D}{f':Bool}{l':List UInt8}{ex:List (List D)}
    (i1:ins [] (D.refsL args)=[0]) (e2:D.toksL args=[]) (e4:D.renL (idx [0,1,2]) (idx [0]) args=some args)
    (hd:∀bi ti,d.ren bi ti=some d) (h:call pg g args (pH f l [])=some (.val d,pH f' l' ex)):
    callD (call pg) g args (pH f l bx)=some (.val d,pH f' l' bx):=by
 have e3:boxToks (pH f l bx) [0,1,2]=[0]:=by cases f<;>rfl
 have e5:mapO (fun i=>match(pH f l bx).bx[i]? with |some cs=>D.renL (idx [0,1,2]) (idx [0]) cs |none=>none) [0,1,2]=some [prC f l,tabM binT,tabM preT]:=by cases f<;>rfl
 have e6:mapO (fun t=>(pH f l bx).tk[t]?) [0]=some [l.length]:=rfl
 have e7:reach (pH f l bx) (pH f l bx).bx.length [0]=[0,1,2]:=reach_pr f l bx (bx.length+2)
 have i2:ins [] [0]=[0]:=rfl
 have h':call pg g args ⟨[prC f l,tabM binT,tabM preT],[l.length]⟩=some (.val d,pH f' l' ex):=h
 have n1:(Vs.nodupB [0,1,2]&&Vs.nodupB [0])=true:=rfl
 have e8:back [0,1,2] [0] (pH f l bx) (.val d) (pH f' l' ex)=some (.val d,pH f' l' bx):=by
  have k1:firstN (pH f' l' ex).bx 3=some [prC f' l',tabM binT,tabM preT]:=by simp[firstN,pH]
  have k2:firstN (pH f' l' ex).tk 1=some [l'.length]:=rfl
  have k3:mapO (D.renL (fun i=>[0,1,2][i]?) (fun t=>[0][t]?)) [prC f' l',tabM binT,tabM preT]=some [prC f' l',tabM binT,tabM preT]:=by cases f'<;>rfl
  simp only[back,List.length_cons,List.length_nil,k1,k2,k3,Res.ren,hd,Option.map_some]
  rfl
 simp only[callD,i1,i2,e7,e2,List.nil_append,e3,n1,if_true,e4,e6]
 erw [e5]
 simp only[h',e8]
theorem callD_pr{g:Nat}{args:List PD}{f:Bool}{l:List UInt8}{bx:List (List D)}{d:D}{f':Bool}{l':List UInt8}{ex:List (List D)}
    (hd:∀bi ti,d.ren bi ti=some d) (h:call pg g (.box 0 0::args.map .p) (pH f l [])=some (.val d,pH f' l' ex)):
    callD (call pg) g (.box 0 0::args.map .p) (pH f l bx)=some (.val d,pH f' l' bx):=
 callD_prG (by simp[D.refsL,D.refs,ins]) (by simp[D.toksL,D.toks]) (by simp[D.renL,D.ren,idx]) hd h
theorem cc_call(f:Bool)(l:List UInt8)(bx:List (List D)):callD (call pg) 77 [.box 0 0] (pH f l bx)=some (.val .undef,pH false l bx):=by
 have h:call pg 77 (.box 0 0::([]:List PD).map .p) (pH f l [])=some (.val .undef,pH false l []):=by
  refine call_lib ?_
  cases f<;>rfl
 exact callD_pr (args:=[]) (fun _ _=>rfl) h
theorem wbyte0(f:Bool)(l:List UInt8)(c:UInt8)(hb:l.length<140737488355328):call pg 64 [.box 0 0,.p (.int .u8 c.toNat)] (pH f l [])=some (.val (.p .nili),pH false (l++[c]) []):=by
 refine call_body (fc:=fc64) rfl rfl rfl rfl ?_
 have hc:=cc_call f l []
 have hr:roomy (l.length+1) 1=true:=by simp[roomy];omega
 cases f<;>simp[pH,prC] at hc⊢<;>simp[fc64,evKC,evK,put,Env.get,Env.keep,entry,Opd.ev,loadD,storeD,splice,cutAt,finish,evRes,evRes1,D.cells,PD.cells,fillE,appendD,srcD,D.elems?,D.asPD,srcH,isMapC,hc,bytesP_len,hr,bytesP_app]
 all_goals simp[bytesP]
theorem wbyte_eq(f:Bool)(l:List UInt8)(c:UInt8)(hb:l.length<140737488355328)(bx:List (List D)):callD (call pg) 64 [.box 0 0,.p (.int .u8 c.toNat)] (pH f l bx)=some (.val (.p .nili),pH false (l++[c]) bx):=
 callD_pr (args:=[.int .u8 c.toNat]) (fun _ _=>rfl) (wbyte0 f l c hb)
theorem wstr0(f:Bool)(l s:List UInt8)(hb:l.length+s.length≤140737488355328):call pg 49 [.box 0 0,.p (.str s)] (pH f l [])=some (.val (.tup [.p (.int .i64 s.length),.p .nili]),pH false (l++s) []):=by
 refine call_body (fc:=fc49) rfl rfl rfl rfl ?_
 have hc:=cc_call f l []
 have hr:roomy (l.length+s.length) 1=true:=by simp[roomy];omega
 cases f<;>simp[pH,prC] at hc⊢<;>simp[fc49,evKC,evK,put,Env.get,Env.keep,entry,Opd.ev,loadD,storeD,splice,cutAt,lenD,finish,evRes,evRes1,mapO,D.cells,appendD,srcD,srcH,isMapC,hc,bytesP_len,hr,bytesP_app]
 all_goals simp[bytesP]
theorem wstr_eq(f:Bool)(l s:List UInt8)(hb:l.length+s.length≤140737488355328)(bx:List (List D)):callD (call pg) 49 [.box 0 0,.p (.str s)] (pH f l bx)=some (.val (.tup [.p (.int .i64 s.length),.p .nili]),pH false (l++s) bx):=
 callD_pr (args:=[.str s]) (fun _ _=>rfl) (wstr0 f l s hb)
theorem bstr0(f:Bool)(l:List UInt8)(hb:l.length≤140737488355328):call pg 41 [.box 0 0] (pH f l [])=some (.val (.p (.str l)),pH f l []):=by
 refine call_body (fc:=fc41) rfl rfl rfl rfl ?_
 cases l with
 |nil=>cases f<;>simp[fc41,pH,prC,bytesP,evKC,evK,put,Env.get,Env.keep,entry,Opd.ev,loadD,cutAt,lenD,clsP,cls,clsR,isCl,isW,apartRW,offB,apartWW,clash,insOk,finish,evRes,evRes1,D.elems?,isMapC,sdataD,ustrD]
 |cons b l=>
  have h:=bytesOf_bytesP (b::l)
  simp only[bytesP,List.map_cons] at h
  have hl:l.length+1≤140737488355328:=hb
  cases f<;>simp[fc41,pH,prC,bytesP,evKC,evK,put,Env.get,Env.keep,entry,Opd.ev,loadD,cutAt,lenD,clsP,cls,clsR,isCl,isW,apartRW,offB,apartWW,clash,insOk,finish,evRes,evRes1,D.elems?,isMapC,sdataD,ustrD,h,hl]
def lvl(op:Int):Int:=match look binT op with
 |some e=>e.lv
 |none=>match look preT op with
  |some e=>e.lv
  |none=>if op=5 then 14 else 15
theorem ld2(G:Nat→Option (List PD))(f:Bool)(l:List UInt8)(r:List (List D))(tk:List Nat):loadD G ⟨prC f l::r,tk⟩ none (.box 0 2)=some (.mapr 1):=by cases f<;>rfl
theorem ld3(G:Nat→Option (List PD))(f:Bool)(l:List UInt8)(r:List (List D))(tk:List Nat):loadD G ⟨prC f l::r,tk⟩ none (.box 0 3)=some (.mapr 2):=by cases f<;>rfl
theorem ge1(f:Bool)(l:List UInt8)(op:Int)(bx:List (List D)):mapgetD 13 zEnt true (.mapr 1) (.p (.int .i64 op)) ⟨prC f l::tabM binT::bx,[l.length]⟩=some (getT binT op):=get_tab rfl op
theorem ge2(f:Bool)(l:List UInt8)(op:Int)(x:List D)(bx:List (List D)):mapgetD 13 zEnt true (.mapr 2) (.p (.int .i64 op)) ⟨prC f l::x::tabM preT::bx,[l.length]⟩=some (getT preT op):=get_tab rfl op
theorem level0(f:Bool)(l:List UInt8)(op:Int):∃ex,call pg 79 [.box 0 0,.p (.int .i64 op)] (pH f l [])=some (.val (.p (.int .i64 (lvl op))),pH f l ex):=by
 have g1:=ge1 f l op
 have g2:=ge2 f l op
 simp only[getT,zEnt] at g1 g2
 simp only[lvl,pH]
 cases h1:look binT op with
 |some e=>
  rw[h1] at g1
  refine⟨[[.p (.str e.s),.p (.int .i64 e.lv),.p (.int .i64 e.a),.p (.int .i64 e.b)]],call_body (fc:=fc79) rfl rfl rfl rfl ?_⟩
  have l1:∀G r tk,loadD G ⟨prC f l::tabM binT::tabM preT::[.p (.str e.s),.p (.int .i64 e.lv),.p (.int .i64 e.a),.p (.int .i64 e.b)]::r,tk⟩ none (.box 3 1)=some (.p (.int .i64 e.lv)):=fun _ _ _=>rfl
  simp[fc79,evKC,evK,put,Env.get,Env.keep,entry,Opd.ev,storeD,splice,finish,evRes,evRes1,D.cells,D.one,PD.one,isMapC,ld2,g1,Ent.pd,l1]
 |none=>
  rw[h1] at g1
  cases h2:look preT op with
  |some e=>
   rw[h2] at g2
   have l1:∀G z r tk,loadD G ⟨prC f l::tabM binT::tabM preT::z::[.p (.str e.s),.p (.int .i64 e.lv),.p (.int .i64 e.a),.p (.int .i64 e.b)]::r,tk⟩ none (.box 4 1)=some (.p (.int .i64 e.lv)):=fun _ _ _ _=>rfl
   refine⟨[[.p (.str []),.p (.int .i64 0),.p (.int .i64 0),.p (.int .i64 0)],[.p (.str e.s),.p (.int .i64 e.lv),.p (.int .i64 e.a),.p (.int .i64 e.b)]],call_body (fc:=fc79) rfl rfl rfl rfl ?_⟩
   simp[fc79,evKC,evK,put,Env.get,Env.keep,entry,Opd.ev,storeD,splice,finish,evRes,evRes1,D.cells,D.one,PD.one,isMapC,ld2,ld3,g1,g2,Ent.pd,l1]
  |none=>
   rw[h2] at g2
   refine⟨[[.p (.str []),.p (.int .i64 0),.p (.int .i64 0),.p (.int .i64 0)],[.p (.str []),.p (.int .i64 0),.p (.int .i64 0),.p (.int .i64 0)]],call_body (fc:=fc79) rfl rfl rfl rfl ?_⟩
   by_cases h5:op=5
   ·subst h5
    simp[fc79,evKC,evK,put,Env.get,Env.keep,entry,Opd.ev,storeD,splice,binD,finish,evRes,evRes1,D.cells,D.one,PD.one,isMapC,ld2,ld3,g1,g2]
   ·have h5':(op==5)=false:=by simpa using h5
    simp[fc79,evKC,evK,put,Env.get,Env.keep,entry,Opd.ev,storeD,splice,binD,finish,evRes,evRes1,D.cells,D.one,PD.one,isMapC,ld2,ld3,g1,g2,h5,h5']
theorem level_eq(f:Bool)(l:List UInt8)(op:Int)(bx:List (List D)):callD (call pg) 79 [.box 0 0,.p (.int .i64 op)] (pH f l bx)=some (.val (.p (.int .i64 (lvl op))),pH f l bx):=by
 obtain⟨ex,h⟩:=level0 f l op
 exact callD_pr (args:=[.int .i64 op]) (fun _ _=>rfl) h
def zN:Nd:=.mk 0 [] 0 0 [] 0
def kidN(a:Nd)(i:Nat):Nd:=(a.ks[i]?).getD zN
theorem kid0(a:Nd)(i:Nat)(_:i≤1):∃H',call pg 62 [.p a.pd,.p (.int .i64 i)] ⟨[],[]⟩=some (.val (.p (kidN a i).pd),H'):=by
 have hk0:=len_kids a
 have hld:∀(G:Nat→Option (List PD)) b tk,loadD G ⟨a.cells.map .p::b,tk⟩ none (.box 0 3)=some (.p a.kidsP):=fun _ _ _=>rfl
 have o1:=one_of (pd_one a)
 rw[pd_cells]
 by_cases h:i<a.ks.length
 ·have h':(i:Int)<(a.ks.length:Int):=by omega
  have hia:=ia_kids h
  have hl2:=fun(G:Nat→Option (List PD)) (H:Hp)=>load_nd (G:=G) (H:=H) a.ks[i]
  have hkid:kidN a i=a.ks[i]:=by simp[kidN,List.getElem?_eq_getElem h]
  rw[hkid]
  generalize a.ks[i]=x at *
  have hst:∀tk,storeD ⟨[a.cells.map .p,[.p (.int .i64 0),.p (.str []),.p (.int .i64 0),.p .nils,.p (.int .i64 0)]],tk⟩ 5 (.box 1 0) (.p x.pd)=some ⟨[a.cells.map .p,x.cells.map .p],tk⟩:=fun tk=>by
   rw[pd_cells]
   exact store_box (H:=⟨[a.cells.map .p,[.p (.int .i64 0),.p (.str []),.p (.int .i64 0),.p .nils,.p (.int .i64 0)]],tk⟩) (i:=1) (zs:=[.int .i64 0,.str [],.int .i64 0,.nils,.int .i64 0]) rfl rfl rfl (by decide) (pd_one x)
  have hlx:∀G tk,loadD G ⟨[a.cells.map .p,x.cells.map .p],tk⟩ (some 5) (.box 1 0)=some (.p x.pd):=fun G tk=>load_ndb (i:=1) rfl
  refine⟨_,call_body (fc:=fc62) rfl rfl rfl rfl (r:=(_,⟨[a.cells.map .p,x.cells.map .p],[]⟩)) ?_⟩
  simp[fc62,evKC,evK,put,Env.get,Env.keep,entry,Opd.ev,D.asInt?,binD,finish,evRes,evRes1,D.cells,o1,hk0,hld,h',hia,hl2,hst,hlx]
 ·have h':¬(i:Int)<(a.ks.length:Int):=by omega
  have hkid:kidN a i=zN:=by simp[kidN,List.getElem?_eq_none (Nat.le_of_not_lt h)]
  rw[hkid]
  refine⟨_,call_body (fc:=fc62) rfl rfl rfl rfl (r:=(_,⟨[a.cells.map .p,[.p (.int .i64 0),.p (.str []),.p (.int .i64 0),.p .nils,.p (.int .i64 0)]],[]⟩)) ?_⟩
  have hz:zN.pd= .agg [.int .i64 0,.str [],.int .i64 0,.nils,.int .i64 0]:=rfl
  have hl3:∀G tk,loadD G ⟨[a.cells.map .p,[.p (.int .i64 0),.p (.str []),.p (.int .i64 0),.p .nils,.p (.int .i64 0)]],tk⟩ (some 5) (.box 1 0)=some (.p (.agg [.int .i64 0,.str [],.int .i64 0,.nils,.int .i64 0])):=fun G tk=>rfl
  simp[fc62,evKC,evK,put,Env.get,Env.keep,entry,Opd.ev,storeD,splice,binD,finish,evRes,evRes1,D.cells,mkAgg,pures,fillD,isMapC,o1,hk0,hld,h',hz,hl3]
theorem kid_eq(a:Nd)(i:Nat)(hi:i≤1)(H:Hp):callD (call pg) 62 [.p a.pd,.p (.int .i64 i)] H=some (.val (.p (kidN a i).pd),H):=
 callD_any (kid0 a i hi) rfl rfl rfl rfl H
abbrev Kt:=Int×(Bool→List UInt8)
def oprK(p:Kt)(need:Int)(fin:Bool):List UInt8:=
 if(decide (need≤lvl p.1)&&(fin|| !(p.1==45||p.1==46)))=true then p.2 fin else 40::(p.2 true++[41])
def zK:Kt:=(0,fun _=>[])
def kK(kids:List Kt)(i:Nat):Kt:=(kids[i]?).getD zK
def joinL(sep:List UInt8):List (List UInt8)→List UInt8
 |[]=>[]
 |[x]=>x
 |x::y::r=>x++(sep++joinL sep (y::r))
def bndT(nm:List UInt8)(kids:List Kt):List UInt8:=nm++([58,32]++(oprK (kK kids 0) 8 true++([32,124,32]++(kK kids 1).2 true)))
def constT(op:Int):List UInt8:=
 if op=3 then[117,110,105,118] else if op=4 then[105,100,101,110] else if op=30 then[116,114,117,101] else if op=31 then[102,97,108,115,101] else[]
def txtOf(op:Int)(nm:List UInt8)(n:Int)(kids:List Kt)(fin:Bool):List UInt8:=
 match look binT op with
 |some e=>oprK (kK kids 0) e.a false++(e.s++oprK (kK kids 1) e.b fin)
 |none=>match look preT op with
  |some e=>e.s++oprK (kK kids 0) e.a fin
  |none=>
   if op=1 then nm
   else if op=2 then[110,111,110,101]++(if n=1 then[] else[91]++(Lib.itoa n++[93]))
   else if op=20 then Lib.itoa n
   else if op=5 then oprK (kK kids 0) 14 false++[39]
   else if op=45 then[97,108,108,32]++bndT nm kids
   else if op=46 then[115,111,109,101,32]++bndT nm kids
   else if op=15 then[123]++(bndT nm kids++[125])
   else if op=47 then nm++([91]++(joinL [44,32] (kids.map fun k=>oprK k 8 true)++[93]))
   else constT op
mutual
def txt:Nd→Bool→List UInt8
 | .mk op nm n _ ks _=>txtOf op nm n (txtL ks)
def txtL:List Nd→List Kt
 |[]=>[]
 |k::ks=>(k.op,txt k)::txtL ks
end
theorem txtL_map:∀ks:List Nd,txtL ks=ks.map fun k=>(k.op,txt k)
 |[]=>rfl
 |k::ks=>by simp[txtL,txtL_map ks]
def Nd.kt(a:Nd):Kt:=(a.op,txt a)
theorem txt_eq(a:Nd):txt a=txtOf a.op a.nm a.n (a.ks.map Nd.kt):=by
 cases a;simp only[txt,txtL_map];rfl
theorem kt_zero:zN.kt=zK:=by
 simp only[Nd.kt,zK,Prod.mk.injEq]
 refine⟨rfl,?_⟩
 funext fin
 rfl
theorem kK_eq(a:Nd)(i:Nat):kK (a.ks.map Nd.kt) i=(kidN a i).kt:=by
 simp only[kK,kidN,List.getElem?_map]
 cases a.ks[i]? with
 |none=>exact kt_zero.symm
 |some x=>rfl
def maxB:Nat:=140737488355328
def NodeOk(n:Nd):Prop:=∀(fin f:Bool) (l:List UInt8) (bx:List (List D)),l.length+(txt n fin).length≤100000000000000→
 callD (call pg) 40 [.box 0 0,.p n.pd,.p (.bool fin)] (pH f l bx)=some (.val .undef,pH false (l++txt n fin) bx)
theorem opr0{n:Nd}(hn:NodeOk n)(need:Int)(fin f:Bool)(l:List UInt8)(hb:l.length+(oprK n.kt need fin).length≤100000000000000):
    ∃ex,call pg 61 [.box 0 0,.p n.pd,.p (.int .i64 need),.p (.bool fin)] (pH f l [])=some (.val .undef,pH false (l++oprK n.kt need fin) ex):=by
 have o1:=one_of (pd_one n)
 have lop:∀G tk x y z,loadD G ⟨x::y::z::[n.cells.map .p],tk⟩ none (.box 3 0)=some (.p (.int .i64 n.op)):=fun _ _ _ _ _=>rfl
 have lnd:∀G tk x y z,loadD G ⟨x::y::z::[n.cells.map .p],tk⟩ (some 5) (.box 3 0)=some (.p n.pd):=fun _ _ _ _ _=>load_ndb (i:=3) rfl
 have hlv:=fun f l=>level_eq f l n.op [n.cells.map .p]
 have hnode:=fun fin f l=>hn fin f l [n.cells.map .p]
 have hk:n.kt=(n.op,txt n):=rfl
 rw[hk] at hb⊢
 simp only[oprK] at hb⊢
 refine⟨[n.cells.map .p],call_body (fc:=fc61) rfl rfl rfl rfl ?_⟩
 by_cases hc:(decide (need≤lvl n.op)&&(fin|| !(n.op==45||n.op==46)))=true
 ·rw[if_pos hc] at hb⊢
  have h1:=hnode fin f l hb
  rw[pd_cells] at lnd h1⊢
  simp only[pH] at hlv h1⊢
  cases e1:(n.op==45)<;>cases e2:(n.op==46)<;>by_cases hA:need≤lvl n.op<;>cases fin<;>
   first |(exfalso;revert hc;simp[e1,e2,hA];done) |
    simp[fc61,evKC,evK,evGuard,put,Env.get,Env.keep,entry,Opd.ev,binD,unD,finish,evRes,D.cells,o1,lop,lnd,hlv,h1,e1,e2,hA]
 ·rw[if_neg hc] at hb⊢
  have hlen:l.length+((txt n true).length+2)≤100000000000000:=by simpa using hb
  have hw1:callD (call pg) 64 [.box 0 0,.p (.int .u8 40)] (pH f l [n.cells.map .p])=some (.val (.p .nili),pH false (l++[40]) [n.cells.map .p]):=wbyte_eq f l 40 (by omega) _
  have h1:=hnode true false (l++[40]) (by simp;omega)
  have hw2:callD (call pg) 64 [.box 0 0,.p (.int .u8 41)] (pH false (l++[40]++txt n true) [n.cells.map .p])=some (.val (.p .nili),pH false (l++[40]++txt n true++[41]) [n.cells.map .p]):=wbyte_eq false _ 41 (by simp;omega) _
  have hl:l++40::(txt n true++[41])=l++[40]++txt n true++[41]:=by simp
  rw[hl]
  generalize l++[40]++txt n true++[41]=l3 at *
  generalize l++[40]++txt n true=l2 at *
  generalize l++[40]=l1 at *
  rw[pd_cells] at lnd h1⊢
  simp only[pH] at hlv h1 hw1 hw2⊢
  cases e1:(n.op==45)<;>cases e2:(n.op==46)<;>by_cases hA:need≤lvl n.op<;>cases fin<;>
   first |(exfalso;revert hc;simp[e1,e2,hA];done) |
    simp[fc61,evKC,evK,evGuard,put,Env.get,Env.keep,entry,Opd.ev,binD,unD,finish,evRes,D.cells,o1,lop,lnd,hlv,h1,hw1,hw2,e1,e2,hA]
theorem opr_eq{n:Nd}(hn:NodeOk n)(need:Int)(fin f:Bool)(l:List UInt8)(bx:List (List D))(hb:l.length+(oprK n.kt need fin).length≤100000000000000):
    callD (call pg) 61 [.box 0 0,.p n.pd,.p (.int .i64 need),.p (.bool fin)] (pH f l bx)=some (.val .undef,pH false (l++oprK n.kt need fin) bx):=by
 obtain⟨ex,h⟩:=opr0 hn need fin f l hb
 exact callD_pr (args:=[n.pd,.int .i64 need,.bool fin]) (fun _ _=>rfl) h
def bndA(a:Nd):List UInt8:=a.nm++([58,32]++(oprK (kidN a 0).kt 8 true++([32,124,32]++txt (kidN a 1) true)))
theorem bnd_eq(a:Nd):bndT a.nm (a.ks.map Nd.kt)=bndA a:=by
 simp only[bndT,bndA,kK_eq];rfl
theorem bound0{a:Nd}(h0:NodeOk (kidN a 0))(h1:NodeOk (kidN a 1))(f:Bool)(l:List UInt8)(hb:l.length+(bndA a).length≤100000000000000):
    ∃ex,call pg 65 [.box 0 0,.p a.pd] (pH f l [])=some (.val .undef,pH false (l++bndA a) ex):=by
 have o1:=one_of (pd_one a)
 have lnm:∀G tk x y z,loadD G ⟨x::y::z::[a.cells.map .p],tk⟩ none (.box 3 1)=some (.p (.str a.nm)):=fun _ _ _ _ _=>rfl
 have lnd:∀G tk x y z,loadD G ⟨x::y::z::[a.cells.map .p],tk⟩ (some 5) (.box 3 0)=some (.p a.pd):=fun _ _ _ _ _=>load_ndb (i:=3) rfl
 have k0:∀H,callD (call pg) 62 [.p a.pd,.p (.int .i64 0)] H=some (.val (.p (kidN a 0).pd),H):=kid_eq a 0 (by omega)
 have k1:∀H,callD (call pg) 62 [.p a.pd,.p (.int .i64 1)] H=some (.val (.p (kidN a 1).pd),H):=kid_eq a 1 (by omega)
 simp only[bndA,List.length_append,List.length_cons,List.length_nil] at hb
 have w1:=wstr_eq f l (a.nm++[58,32]) (by simp;omega) [a.cells.map .p]
 have w2:=opr_eq h0 8 true false (l++(a.nm++[58,32])) [a.cells.map .p] (by simp;omega)
 have w3:=wstr_eq false (l++(a.nm++[58,32])++oprK (kidN a 0).kt 8 true) [32,124,32] (by simp;omega) [a.cells.map .p]
 have w4:=h1 true false (l++(a.nm++[58,32])++oprK (kidN a 0).kt 8 true++[32,124,32]) [a.cells.map .p] (by simp;omega)
 have hl:l++bndA a=l++(a.nm++[58,32])++oprK (kidN a 0).kt 8 true++[32,124,32]++txt (kidN a 1) true:=by simp[bndA]
 rw[hl]
 generalize l++(a.nm++[58,32])++oprK (kidN a 0).kt 8 true++[32,124,32]++txt (kidN a 1) true=l4 at *
 generalize l++(a.nm++[58,32])++oprK (kidN a 0).kt 8 true++[32,124,32]=l3 at *
 generalize l++(a.nm++[58,32])++oprK (kidN a 0).kt 8 true=l2 at *
 generalize l++(a.nm++[58,32])=l1 at *
 refine⟨[a.cells.map .p],call_body (fc:=fc65) rfl rfl rfl rfl ?_⟩
 have hnm:a.nm.length≤140737488355326:=by omega
 rw[pd_cells] at lnd k0 k1⊢
 simp only[pH] at w1 w2 w3 w4⊢
 simp[fc65,evKC,evK,put,Env.get,Env.keep,entry,Opd.ev,binD,strBin,clsP,cls,clsR,isCl,isW,apartRW,offB,apartWW,clash,insOk,finish,evRes,D.cells,D.refsL,D.refs,D.toksL,D.toks,o1,lnm,lnd,k0,k1,w1,w2,w3,w4,hnm]
theorem bound_eq{a:Nd}(h0:NodeOk (kidN a 0))(h1:NodeOk (kidN a 1))(f:Bool)(l:List UInt8)(bx:List (List D))(hb:l.length+(bndA a).length≤100000000000000):
    callD (call pg) 65 [.box 0 0,.p a.pd] (pH f l bx)=some (.val .undef,pH false (l++bndA a) bx):=by
 obtain⟨ex,h⟩:=bound0 h0 h1 f l hb
 exact callD_pr (args:=[a.pd]) (fun _ _=>rfl) h
theorem arg0{a:Nd}(h0:NodeOk a)(f:Bool)(l:List UInt8)(hb:l.length+(oprK a.kt 8 true).length≤100000000000000):
    ∃ex,call pg 67 [.box 0 0,.p a.pd] (pH f l [])=some (.val .undef,pH false (l++oprK a.kt 8 true) ex):=by
 have o1:=one_of (pd_one a)
 have lnd:∀G tk x y z,loadD G ⟨x::y::z::[a.cells.map .p],tk⟩ (some 5) (.box 3 0)=some (.p a.pd):=fun _ _ _ _ _=>load_ndb (i:=3) rfl
 have w:=opr_eq h0 8 true f l [a.cells.map .p] hb
 refine⟨[a.cells.map .p],call_body (fc:=fc67) rfl rfl rfl rfl ?_⟩
 rw[pd_cells] at lnd w⊢
 simp only[pH] at w⊢
 simp[fc67,evKC,evK,put,Env.get,Env.keep,entry,Opd.ev,finish,evRes,D.cells,o1,lnd,w]
theorem arg_eq{a:Nd}(h0:NodeOk a)(f:Bool)(l:List UInt8)(bx:List (List D))(hb:l.length+(oprK a.kt 8 true).length≤100000000000000):
    callD (call pg) 67 [.box 0 0,.p a.pd] (pH f l bx)=some (.val .undef,pH false (l++oprK a.kt 8 true) bx):=by
 obtain⟨ex,h⟩:=arg0 h0 f l hb
 exact callD_pr (args:=[a.pd]) (fun _ _=>rfl) h
def restT(k:Nat)(ls:List (List UInt8)):List UInt8:=
 match ls with
 |[]=>[]
 |x::r=>(if 0<k then[44,32] else[])++(x++restT (k+1) r)
theorem rest_join(x:List UInt8):∀(r:List (List UInt8)) (k:Nat),0<k→x++restT k r=joinL [44,32] (x::r):=by
 intro r
 induction r generalizing x with
 |nil=>intro k _;simp[restT,joinL]
 |cons y r ih=>
  intro k hk
  simp only[restT,joinL,if_pos hk]
  rw[←ih y (k+1) (by omega)]
theorem rest0(ls:List (List UInt8)):restT 0 ls=joinL [44,32] ls:=by
 cases ls with
 |nil=>rfl
 |cons x r=>
  have:=rest_join x r 1 (by omega)
  simpa[restT] using this
theorem ren_pr(f:Bool)(l:List UInt8)(n:Nat)(h:2<n):D.renL (below n) (below 1) (prC f l)=some (prC f l):=by
 have h0:0<n:=by omega
 have h1:1<n:=by omega
 cases f<;>simp[prC,D.renL,D.ren,below,h0,h1,h]
theorem ren_tab(f g:Nat→Option Nat)(t:List Ent):D.renL f g (tabM t)=some (tabM t):=by
 have :(t.map fun e=>D.p e.pd)=(t.map Ent.pd).map D.p:=by simp
 simp only[tabM,this,D.renL,D.ren,renL_p,Option.map_some]
def argsT(a:Nd):List (List UInt8):=a.ks.map fun x=>oprK x.kt 8 true
theorem list_loop{a:Nd}(hk:∀x∈a.ks,NodeOk x)(hlen:a.ks.length≤1000000000):∀(n k:Nat) (l:List UInt8),a.ks.length-k≤n→k≤a.ks.length→l.length+(restT k ((argsT a).drop k)).length≤100000000000000→
    ∃env,loopK (call pg) pg.G [0,2,3,10,11,12] fc66_b0 ⟨[(0,.box 0 0),(2,.p (.str [44,32])),(3,.fn 67 [.box 0 0] []),(10,.p a.kidsP),(11,.p (.int .i64 a.ks.length)),(12,.p (.int .i64 k))],pH false l []⟩=
     some (.exit 0,⟨env,pH false (l++restT k ((argsT a).drop k)) []⟩):=by
 intro n
 have hal:(argsT a).length=a.ks.length:=by simp[argsT]
 induction n with
 |zero=>
  intro k l hn hkk _
  have he:k=a.ks.length:=by omega
  refine⟨[(0,.box 0 0),(2,.p (.str [44,32])),(3,.fn 67 [.box 0 0] []),(10,.p a.kidsP),(11,.p (.int .i64 a.ks.length)),(12,.p (.int .i64 k)),(13,.p (.bool false))],?_⟩
  rw[List.drop_eq_nil_of_le (by omega)]
  refine loopK_out (o:=.exit 0) ?_ (by simp)
  simp[fc66_b0,restT,pH,evKC,evK,put,Env.get,Env.keep,Opd.ev,binD,mapO,D.renL,D.ren,locD,below,Out.ren,List.map,he,ren_pr,ren_tab]
 |succ n IH=>
  intro k l hn hkk hb
  by_cases he:k=a.ks.length
  ·refine⟨[(0,.box 0 0),(2,.p (.str [44,32])),(3,.fn 67 [.box 0 0] []),(10,.p a.kidsP),(11,.p (.int .i64 a.ks.length)),(12,.p (.int .i64 k)),(13,.p (.bool false))],?_⟩
   rw[List.drop_eq_nil_of_le (by omega)]
   refine loopK_out (o:=.exit 0) ?_ (by simp)
   simp[fc66_b0,restT,pH,evKC,evK,put,Env.get,Env.keep,Opd.ev,binD,mapO,D.renL,D.ren,locD,below,Out.ren,List.map,he,ren_pr,ren_tab]
  ·have hlt:k<a.ks.length:=by omega
   have hlt':(k:Int)<(a.ks.length:Int):=by omega
   have hka:k<(argsT a).length:=by omega
   have hx:(argsT a)[k]=oprK a.ks[k].kt 8 true:=by simp[argsT]
   have hrest:restT k ((argsT a).drop k)=(if 0<k then[44,32] else[])++(oprK a.ks[k].kt 8 true++restT (k+1) ((argsT a).drop (k+1))):=by
    rw[List.drop_eq_getElem_cons hka,hx];rfl
   rw[hrest] at hb⊢
   have hia:=ia_kids hlt
   have hl2:=fun(G:Nat→Option (List PD)) (H:Hp)=>load_nd (G:=G) (H:=H) a.ks[k]
   have hno:=hk a.ks[k] (List.getElem_mem hlt)
   generalize a.ks[k]=x at *
   have hk1:=inc64 (k:=k) (by omega)
   have hst:∀l tk,storeD ⟨[prC false l,tabM binT,tabM preT,[.p (.int .i64 0),.p (.str []),.p (.int .i64 0),.p .nils,.p (.int .i64 0)]],tk⟩ 5 (.box 3 0) (.p x.pd)=some ⟨[prC false l,tabM binT,tabM preT,x.cells.map .p],tk⟩:=fun l tk=>by
    rw[pd_cells]
    exact store_box (H:=⟨[prC false l,tabM binT,tabM preT,[.p (.int .i64 0),.p (.str []),.p (.int .i64 0),.p .nils,.p (.int .i64 0)]],tk⟩) (i:=3) (zs:=[.int .i64 0,.str [],.int .i64 0,.nils,.int .i64 0]) rfl rfl rfl (by decide) (pd_one x)
   have hlx:∀G l tk,loadD G ⟨[prC false l,tabM binT,tabM preT,x.cells.map .p],tk⟩ (some 5) (.box 3 0)=some (.p x.pd):=fun G l tk=>load_ndb (i:=3) rfl
   by_cases h0:0<k
   ·rw[if_pos h0] at hb⊢
    have h0':(0 :Int)<(k:Int):=by omega
    simp only[List.length_append,List.length_cons,List.length_nil] at hb
    have w1:=wstr_eq false l [44,32] (by simp;omega) [x.cells.map .p]
    have w2:=arg_eq hno false (l++[44,32]) [x.cells.map .p] (by simp;omega)
    obtain⟨env,e1⟩:=IH (k+1) (l++[44,32]++oprK x.kt 8 true) (by omega) (by omega) (by simp;omega)
    refine⟨env,?_⟩
    rw[show l++([44,32]++(oprK x.kt 8 true++restT (k+1) ((argsT a).drop (k+1))))=l++[44,32]++oprK x.kt 8 true++restT (k+1) ((argsT a).drop (k+1)) by simp,←e1]
    refine loopK_norm ?_
    generalize l++[44,32]++oprK x.kt 8 true=l2 at *
    generalize l++[44,32]=l1 at *
    simp only[pH] at w1 w2⊢
    simp[fc66_b0,evKC,evK,put,Env.get,Env.keep,Opd.ev,D.asInt?,binD,mapO,PD.one,D.renL,D.ren,locD,below,Out.ren,List.map,hlt',hia,hl2,hst,hlx,h0,w1,w2,hk1,ren_pr,ren_tab]
   ·rw[if_neg h0] at hb⊢
    have h0':¬(0 :Int)<(k:Int):=by omega
    simp only[List.length_append,List.length_nil] at hb
    have w2:=arg_eq hno false l [x.cells.map .p] (by omega)
    obtain⟨env,e1⟩:=IH (k+1) (l++oprK x.kt 8 true) (by omega) (by omega) (by simp;omega)
    refine⟨env,?_⟩
    rw[show l++([]++(oprK x.kt 8 true++restT (k+1) ((argsT a).drop (k+1))))=l++oprK x.kt 8 true++restT (k+1) ((argsT a).drop (k+1)) by simp,←e1]
    refine loopK_norm ?_
    generalize l++oprK x.kt 8 true=l2 at *
    simp only[pH] at w2⊢
    simp[fc66_b0,evKC,evK,put,Env.get,Env.keep,Opd.ev,D.asInt?,binD,mapO,PD.one,D.renL,D.ren,locD,below,Out.ren,List.map,hlt',hia,hl2,hst,hlx,h0,w2,hk1,ren_pr,ren_tab]
theorem list0{a:Nd}(hk:∀x∈a.ks,NodeOk x)(hlen:a.ks.length≤1000000000)(l:List UInt8)(hb:l.length+(joinL [44,32] (argsT a)).length≤100000000000000):
    call pg 66 [.box 0 0,.p a.kidsP,.p (.str [44,32]),.fn 67 [.box 0 0] []] (pH false l [])=some (.val .undef,pH false (l++joinL [44,32] (argsT a)) []):=by
 have hk0:=len_kids a
 obtain⟨env,e1⟩:=list_loop hk hlen a.ks.length 0 l (by omega) (by omega) (by rw[List.drop_zero,rest0];exact hb)
 rw[List.drop_zero,rest0] at e1
 simp only[Int.natCast_zero] at e1
 refine call_body (fc:=fc66) rfl rfl rfl rfl ?_
 simp[fc66,evKC,evK,put,Env.get,Env.keep,entry,Opd.ev,finish,evRes,List.map,hk0,e1]
theorem list_eq{a:Nd}(hk:∀x∈a.ks,NodeOk x)(hlen:a.ks.length≤1000000000)(l:List UInt8)(bx:List (List D))(hb:l.length+(joinL [44,32] (argsT a)).length≤100000000000000):
    callD (call pg) 66 [.box 0 0,.p a.kidsP,.p (.str [44,32]),.fn 67 [.box 0 0] []] (pH false l bx)=some (.val .undef,pH false (l++joinL [44,32] (argsT a)) bx):=
 callD_prG rfl rfl rfl (fun _ _=>rfl) (list0 hk hlen l hb)
def entC(e:Ent):List D:=[.p (.str e.s),.p (.int .i64 e.lv),.p (.int .i64 e.a),.p (.int .i64 e.b)]
def zC:List D:=[.p (.str []),.p (.int .i64 0),.p (.int .i64 0),.p (.int .i64 0)]
theorem node_bin{a:Nd}{e:Ent}(hl:look binT a.op=some e)(h0:NodeOk (kidN a 0))(h1:NodeOk (kidN a 1))(fin f:Bool)(l:List UInt8)(hb:l.length+(txt a fin).length≤100000000000000):
    ∃ex,call pg 40 [.box 0 0,.p a.pd,.p (.bool fin)] (pH f l [])=some (.val .undef,pH false (l++txt a fin) ex):=by
 have ht:txt a fin=oprK (kidN a 0).kt e.a false++(e.s++oprK (kidN a 1).kt e.b fin):=by
  rw[txt_eq];simp only[txtOf,hl,kK_eq]
 rw[ht] at hb⊢
 simp only[List.length_append] at hb
 have o1:=one_of (pd_one a)
 have g1:=ge1 f l a.op
 simp only[getT,zEnt,hl] at g1
 have lop:∀G tk x y z r,loadD G ⟨x::y::z::a.cells.map .p::r,tk⟩ none (.box 3 0)=some (.p (.int .i64 a.op)):=fun _ _ _ _ _ _=>rfl
 have lnd:∀G tk x y z r,loadD G ⟨x::y::z::a.cells.map .p::r,tk⟩ (some 5) (.box 3 0)=some (.p a.pd):=fun _ _ _ _ _ _=>load_ndb (i:=3) rfl
 have ls:∀G tk x y z w r,loadD G ⟨x::y::z::w::entC e::r,tk⟩ none (.box 4 0)=some (.p (.str e.s)):=fun _ _ _ _ _ _ _=>rfl
 have la:∀G tk x y z w r,loadD G ⟨x::y::z::w::entC e::r,tk⟩ none (.box 4 2)=some (.p (.int .i64 e.a)):=fun _ _ _ _ _ _ _=>rfl
 have lb:∀G tk x y z w r,loadD G ⟨x::y::z::w::entC e::r,tk⟩ none (.box 4 3)=some (.p (.int .i64 e.b)):=fun _ _ _ _ _ _ _=>rfl
 have k0:∀H,callD (call pg) 62 [.p a.pd,.p (.int .i64 0)] H=some (.val (.p (kidN a 0).pd),H):=kid_eq a 0 (by omega)
 have k1:∀H,callD (call pg) 62 [.p a.pd,.p (.int .i64 1)] H=some (.val (.p (kidN a 1).pd),H):=kid_eq a 1 (by omega)
 have w1:=opr_eq h0 e.a false f l [a.cells.map .p,entC e] (by omega)
 have w2:=wstr_eq false (l++oprK (kidN a 0).kt e.a false) e.s (by simp;omega) [a.cells.map .p,entC e]
 have w3:=opr_eq h1 e.b fin false (l++oprK (kidN a 0).kt e.a false++e.s) [a.cells.map .p,entC e] (by simp;omega)
 rw[show l++(oprK (kidN a 0).kt e.a false++(e.s++oprK (kidN a 1).kt e.b fin))=l++oprK (kidN a 0).kt e.a false++e.s++oprK (kidN a 1).kt e.b fin by simp]
 generalize l++oprK (kidN a 0).kt e.a false++e.s++oprK (kidN a 1).kt e.b fin=l3 at *
 generalize l++oprK (kidN a 0).kt e.a false++e.s=l2 at *
 generalize l++oprK (kidN a 0).kt e.a false=l1 at *
 refine⟨[a.cells.map .p,entC e],call_body (fc:=fc40) rfl rfl rfl rfl ?_⟩
 rw[pd_cells] at lnd k0 k1⊢
 simp only[pH,entC] at w1 w2 w3 ls la lb⊢
 simp[fc40,evKC,evK,put,Env.get,Env.keep,entry,Opd.ev,storeD,splice,D.asInt?,iaddrD,clsP,cls,clsR,isCl,isW,apartRW,offB,apartWW,clash,insOk,finish,evRes,D.cells,D.refsL,D.refs,D.toksL,D.toks,isMapC,o1,ld2,g1,Ent.pd,lop,lnd,ls,la,lb,k0,k1,w1,w2,w3]
theorem node_pre{a:Nd}{e:Ent}(hl0:look binT a.op=none)(hl:look preT a.op=some e)(h0:NodeOk (kidN a 0))(fin f:Bool)(l:List UInt8)(hb:l.length+(txt a fin).length≤100000000000000):
    ∃ex,call pg 40 [.box 0 0,.p a.pd,.p (.bool fin)] (pH f l [])=some (.val .undef,pH false (l++txt a fin) ex):=by
 have ht:txt a fin=e.s++oprK (kidN a 0).kt e.a fin:=by
  rw[txt_eq];simp only[txtOf,hl0,hl,kK_eq]
 rw[ht] at hb⊢
 simp only[List.length_append] at hb
 have o1:=one_of (pd_one a)
 have g1:=ge1 f l a.op
 have g2:=ge2 f l a.op
 simp only[getT,zEnt,hl0] at g1
 simp only[getT,zEnt,hl] at g2
 have lop:∀G tk x y z r,loadD G ⟨x::y::z::a.cells.map .p::r,tk⟩ none (.box 3 0)=some (.p (.int .i64 a.op)):=fun _ _ _ _ _ _=>rfl
 have lnd:∀G tk x y z r,loadD G ⟨x::y::z::a.cells.map .p::r,tk⟩ (some 5) (.box 3 0)=some (.p a.pd):=fun _ _ _ _ _ _=>load_ndb (i:=3) rfl
 have ls:∀G tk x y z w v r,loadD G ⟨x::y::z::w::v::entC e::r,tk⟩ none (.box 5 0)=some (.p (.str e.s)):=fun _ _ _ _ _ _ _ _=>rfl
 have la:∀G tk x y z w v r,loadD G ⟨x::y::z::w::v::entC e::r,tk⟩ none (.box 5 2)=some (.p (.int .i64 e.a)):=fun _ _ _ _ _ _ _ _=>rfl
 have k0:∀H,callD (call pg) 62 [.p a.pd,.p (.int .i64 0)] H=some (.val (.p (kidN a 0).pd),H):=kid_eq a 0 (by omega)
 have w1:=wstr_eq f l e.s (by omega) [a.cells.map .p,zC,entC e]
 have w2:=opr_eq h0 e.a fin false (l++e.s) [a.cells.map .p,zC,entC e] (by simp;omega)
 rw[show l++(e.s++oprK (kidN a 0).kt e.a fin)=l++e.s++oprK (kidN a 0).kt e.a fin by simp]
 generalize l++e.s++oprK (kidN a 0).kt e.a fin=l2 at *
 generalize l++e.s=l1 at *
 refine⟨[a.cells.map .p,zC,entC e],call_body (fc:=fc40) rfl rfl rfl rfl ?_⟩
 rw[pd_cells] at lnd k0⊢
 simp only[pH,entC,zC] at w1 w2 ls la⊢
 simp[fc40,evKC,evK,put,Env.get,Env.keep,entry,Opd.ev,storeD,splice,D.asInt?,iaddrD,clsP,cls,clsR,isCl,isW,apartRW,offB,apartWW,clash,insOk,finish,evRes,D.cells,D.refsL,D.refs,D.toksL,D.toks,isMapC,o1,ld2,ld3,g1,g2,Ent.pd,lop,lnd,ls,la,k0,w1,w2]
theorem itoa_eq{n:Int}(h:i64 n)(H:Hp):callD (call pg) 63 [.p (.int .i64 n)] H=some (.val (.p (.str (Lib.itoa n))),H):=by
 have h':pgL 63 [.p (.int .i64 n)] ⟨[],[]⟩=some (.val (.p (.str (Lib.itoa n))),⟨[],[]⟩):=by
  simp only[pgL]
  exact if_pos h
 exact callD_pure (call_lib h') rfl rfl rfl rfl
section
variable {a : Nd} (hl0 : look binT a.op = none) (hl : look preT a.op = none) (fin f : Bool) (l : List UInt8) (hb : l.length + (txt a fin).length ≤ 100000000000000)
include hl0 hl hb
theorem node_name(h:a.op=1):∃ex,call pg 40 [.box 0 0,.p a.pd,.p (.bool fin)] (pH f l [])=some (.val .undef,pH false (l++txt a fin) ex):=by
 have ht:txt a fin=a.nm:=by
  rw[txt_eq];simp only[txtOf,h,kK_eq,bnd_eq];rfl
 rw[ht] at hb⊢
 try simp only[List.length_append,List.length_cons,List.length_nil] at hb
 have o1:=one_of (pd_one a)
 have g1:=ge1 f l a.op
 have g2:=ge2 f l a.op
 simp only[getT,zEnt,hl0] at g1
 simp only[getT,zEnt,hl] at g2
 have lop:∀G tk x y z r,loadD G ⟨x::y::z::a.cells.map .p::r,tk⟩ none (.box 3 0)=some (.p (.int .i64 a.op)):=fun _ _ _ _ _ _=>rfl
 have lnm:∀G tk x y z r,loadD G ⟨x::y::z::a.cells.map .p::r,tk⟩ none (.box 3 1)=some (.p (.str a.nm)):=fun _ _ _ _ _ _=>rfl
 have ln:∀G tk x y z r,loadD G ⟨x::y::z::a.cells.map .p::r,tk⟩ none (.box 3 2)=some (.p (.int .i64 a.n)):=fun _ _ _ _ _ _=>rfl
 have lks:∀G tk x y z r,loadD G ⟨x::y::z::a.cells.map .p::r,tk⟩ none (.box 3 3)=some (.p a.kidsP):=fun _ _ _ _ _ _=>rfl
 have lnd:∀G tk x y z r,loadD G ⟨x::y::z::a.cells.map .p::r,tk⟩ (some 5) (.box 3 0)=some (.p a.pd):=fun _ _ _ _ _ _=>load_ndb (i:=3) rfl
 have k0:∀H,callD (call pg) 62 [.p a.pd,.p (.int .i64 0)] H=some (.val (.p (kidN a 0).pd),H):=kid_eq a 0 (by omega)
 have w1:=wstr_eq f l a.nm (by omega) [a.cells.map .p,zC,zC]
 refine⟨[a.cells.map .p,zC,zC],call_body (fc:=fc40) rfl rfl rfl rfl ?_⟩
 rw[pd_cells] at lnd k0⊢
 simp only[pH,zC] at w1⊢
 rw[h] at lop g1 g2
 simp[fc40,evKC,evK,put,Env.get,Env.keep,entry,Opd.ev,storeD,splice,binD,clsP,cls,clsR,isCl,isW,apartRW,offB,apartWW,clash,insOk,finish,evRes,D.cells,D.refsL,D.refs,D.toksL,D.toks,isMapC,o1,ld2,ld3,g1,g2,lop,lnm,w1]
theorem node_lit(h:a.op=20)(hn:i64 a.n):∃ex,call pg 40 [.box 0 0,.p a.pd,.p (.bool fin)] (pH f l [])=some (.val .undef,pH false (l++txt a fin) ex):=by
 have ht:txt a fin=Lib.itoa a.n:=by
  rw[txt_eq];simp only[txtOf,h,kK_eq,bnd_eq];rfl
 rw[ht] at hb⊢
 try simp only[List.length_append,List.length_cons,List.length_nil] at hb
 have o1:=one_of (pd_one a)
 have g1:=ge1 f l a.op
 have g2:=ge2 f l a.op
 simp only[getT,zEnt,hl0] at g1
 simp only[getT,zEnt,hl] at g2
 have lop:∀G tk x y z r,loadD G ⟨x::y::z::a.cells.map .p::r,tk⟩ none (.box 3 0)=some (.p (.int .i64 a.op)):=fun _ _ _ _ _ _=>rfl
 have lnm:∀G tk x y z r,loadD G ⟨x::y::z::a.cells.map .p::r,tk⟩ none (.box 3 1)=some (.p (.str a.nm)):=fun _ _ _ _ _ _=>rfl
 have ln:∀G tk x y z r,loadD G ⟨x::y::z::a.cells.map .p::r,tk⟩ none (.box 3 2)=some (.p (.int .i64 a.n)):=fun _ _ _ _ _ _=>rfl
 have lks:∀G tk x y z r,loadD G ⟨x::y::z::a.cells.map .p::r,tk⟩ none (.box 3 3)=some (.p a.kidsP):=fun _ _ _ _ _ _=>rfl
 have lnd:∀G tk x y z r,loadD G ⟨x::y::z::a.cells.map .p::r,tk⟩ (some 5) (.box 3 0)=some (.p a.pd):=fun _ _ _ _ _ _=>load_ndb (i:=3) rfl
 have k0:∀H,callD (call pg) 62 [.p a.pd,.p (.int .i64 0)] H=some (.val (.p (kidN a 0).pd),H):=kid_eq a 0 (by omega)
 have hi:=itoa_eq hn
 have w1:=wstr_eq f l (Lib.itoa a.n) (by omega) [a.cells.map .p,zC,zC]
 refine⟨[a.cells.map .p,zC,zC],call_body (fc:=fc40) rfl rfl rfl rfl ?_⟩
 rw[pd_cells] at lnd k0⊢
 simp only[pH,zC] at w1⊢
 rw[h] at lop g1 g2
 simp[fc40,evKC,evK,put,Env.get,Env.keep,entry,Opd.ev,storeD,splice,binD,clsP,cls,clsR,isCl,isW,apartRW,offB,apartWW,clash,insOk,finish,evRes,D.cells,D.refsL,D.refs,D.toksL,D.toks,isMapC,o1,ld2,ld3,g1,g2,lop,ln,w1,hi]
theorem node_prime(h:a.op=5)(h0:NodeOk (kidN a 0)):∃ex,call pg 40 [.box 0 0,.p a.pd,.p (.bool fin)] (pH f l [])=some (.val .undef,pH false (l++txt a fin) ex):=by
 have ht:txt a fin=oprK (kidN a 0).kt 14 false++[39]:=by
  rw[txt_eq];simp only[txtOf,h,kK_eq,bnd_eq];rfl
 rw[ht] at hb⊢
 try simp only[List.length_append,List.length_cons,List.length_nil] at hb
 have o1:=one_of (pd_one a)
 have g1:=ge1 f l a.op
 have g2:=ge2 f l a.op
 simp only[getT,zEnt,hl0] at g1
 simp only[getT,zEnt,hl] at g2
 have lop:∀G tk x y z r,loadD G ⟨x::y::z::a.cells.map .p::r,tk⟩ none (.box 3 0)=some (.p (.int .i64 a.op)):=fun _ _ _ _ _ _=>rfl
 have lnm:∀G tk x y z r,loadD G ⟨x::y::z::a.cells.map .p::r,tk⟩ none (.box 3 1)=some (.p (.str a.nm)):=fun _ _ _ _ _ _=>rfl
 have ln:∀G tk x y z r,loadD G ⟨x::y::z::a.cells.map .p::r,tk⟩ none (.box 3 2)=some (.p (.int .i64 a.n)):=fun _ _ _ _ _ _=>rfl
 have lks:∀G tk x y z r,loadD G ⟨x::y::z::a.cells.map .p::r,tk⟩ none (.box 3 3)=some (.p a.kidsP):=fun _ _ _ _ _ _=>rfl
 have lnd:∀G tk x y z r,loadD G ⟨x::y::z::a.cells.map .p::r,tk⟩ (some 5) (.box 3 0)=some (.p a.pd):=fun _ _ _ _ _ _=>load_ndb (i:=3) rfl
 have k0:∀H,callD (call pg) 62 [.p a.pd,.p (.int .i64 0)] H=some (.val (.p (kidN a 0).pd),H):=kid_eq a 0 (by omega)
 have w1:=opr_eq h0 14 false f l [a.cells.map .p,zC,zC] (by omega)
 have w2:callD (call pg) 64 [.box 0 0,.p (.int .u8 39)] (pH false (l++oprK (kidN a 0).kt 14 false) [a.cells.map .p,zC,zC])=some (.val (.p .nili),pH false (l++oprK (kidN a 0).kt 14 false++[39]) [a.cells.map .p,zC,zC]):=wbyte_eq false _ 39 (by simp;omega) _
 rw[←List.append_assoc]
 generalize l++oprK (kidN a 0).kt 14 false++[39]=l2 at *
 generalize l++oprK (kidN a 0).kt 14 false=l1 at *
 refine⟨[a.cells.map .p,zC,zC],call_body (fc:=fc40) rfl rfl rfl rfl ?_⟩
 rw[pd_cells] at lnd k0⊢
 simp only[pH,zC] at w1 w2⊢
 rw[h] at lop g1 g2
 simp[fc40,evKC,evK,put,Env.get,Env.keep,entry,Opd.ev,storeD,splice,binD,clsP,cls,clsR,isCl,isW,apartRW,offB,apartWW,clash,insOk,finish,evRes,D.cells,isMapC,o1,ld2,ld3,g1,g2,lop,lnd,k0,w1,w2]
theorem node_all(h:a.op=45)(h0:NodeOk (kidN a 0))(h1:NodeOk (kidN a 1)):∃ex,call pg 40 [.box 0 0,.p a.pd,.p (.bool fin)] (pH f l [])=some (.val .undef,pH false (l++txt a fin) ex):=by
 have ht:txt a fin=[97,108,108,32]++bndA a:=by
  rw[txt_eq];simp only[txtOf,h,kK_eq,bnd_eq];rfl
 rw[ht] at hb⊢
 try simp only[List.length_append,List.length_cons,List.length_nil] at hb
 have o1:=one_of (pd_one a)
 have g1:=ge1 f l a.op
 have g2:=ge2 f l a.op
 simp only[getT,zEnt,hl0] at g1
 simp only[getT,zEnt,hl] at g2
 have lop:∀G tk x y z r,loadD G ⟨x::y::z::a.cells.map .p::r,tk⟩ none (.box 3 0)=some (.p (.int .i64 a.op)):=fun _ _ _ _ _ _=>rfl
 have lnm:∀G tk x y z r,loadD G ⟨x::y::z::a.cells.map .p::r,tk⟩ none (.box 3 1)=some (.p (.str a.nm)):=fun _ _ _ _ _ _=>rfl
 have ln:∀G tk x y z r,loadD G ⟨x::y::z::a.cells.map .p::r,tk⟩ none (.box 3 2)=some (.p (.int .i64 a.n)):=fun _ _ _ _ _ _=>rfl
 have lks:∀G tk x y z r,loadD G ⟨x::y::z::a.cells.map .p::r,tk⟩ none (.box 3 3)=some (.p a.kidsP):=fun _ _ _ _ _ _=>rfl
 have lnd:∀G tk x y z r,loadD G ⟨x::y::z::a.cells.map .p::r,tk⟩ (some 5) (.box 3 0)=some (.p a.pd):=fun _ _ _ _ _ _=>load_ndb (i:=3) rfl
 have k0:∀H,callD (call pg) 62 [.p a.pd,.p (.int .i64 0)] H=some (.val (.p (kidN a 0).pd),H):=kid_eq a 0 (by omega)
 have w1:=wstr_eq f l [97,108,108,32] (by simp;omega) [a.cells.map .p,zC,zC]
 have w2:=bound_eq h0 h1 false (l++[97,108,108,32]) [a.cells.map .p,zC,zC] (by simp;omega)
 rw[←List.append_assoc]
 generalize l++[97,108,108,32]++bndA a=l2 at *
 generalize l++[97,108,108,32]=l1 at *
 refine⟨[a.cells.map .p,zC,zC],call_body (fc:=fc40) rfl rfl rfl rfl ?_⟩
 rw[pd_cells] at lnd k0 w2⊢
 simp only[pH,zC] at w1 w2⊢
 rw[h] at lop g1 g2
 simp[fc40,evKC,evK,put,Env.get,Env.keep,entry,Opd.ev,storeD,splice,binD,clsP,cls,clsR,isCl,isW,apartRW,offB,apartWW,clash,insOk,finish,evRes,D.cells,isMapC,o1,ld2,ld3,g1,g2,lop,lnd,w1,w2]
theorem node_ex(h:a.op=46)(h0:NodeOk (kidN a 0))(h1:NodeOk (kidN a 1)):∃ex,call pg 40 [.box 0 0,.p a.pd,.p (.bool fin)] (pH f l [])=some (.val .undef,pH false (l++txt a fin) ex):=by
 have ht:txt a fin=[115,111,109,101,32]++bndA a:=by
  rw[txt_eq];simp only[txtOf,h,kK_eq,bnd_eq];rfl
 rw[ht] at hb⊢
 try simp only[List.length_append,List.length_cons,List.length_nil] at hb
 have o1:=one_of (pd_one a)
 have g1:=ge1 f l a.op
 have g2:=ge2 f l a.op
 simp only[getT,zEnt,hl0] at g1
 simp only[getT,zEnt,hl] at g2
 have lop:∀G tk x y z r,loadD G ⟨x::y::z::a.cells.map .p::r,tk⟩ none (.box 3 0)=some (.p (.int .i64 a.op)):=fun _ _ _ _ _ _=>rfl
 have lnm:∀G tk x y z r,loadD G ⟨x::y::z::a.cells.map .p::r,tk⟩ none (.box 3 1)=some (.p (.str a.nm)):=fun _ _ _ _ _ _=>rfl
 have ln:∀G tk x y z r,loadD G ⟨x::y::z::a.cells.map .p::r,tk⟩ none (.box 3 2)=some (.p (.int .i64 a.n)):=fun _ _ _ _ _ _=>rfl
 have lks:∀G tk x y z r,loadD G ⟨x::y::z::a.cells.map .p::r,tk⟩ none (.box 3 3)=some (.p a.kidsP):=fun _ _ _ _ _ _=>rfl
 have lnd:∀G tk x y z r,loadD G ⟨x::y::z::a.cells.map .p::r,tk⟩ (some 5) (.box 3 0)=some (.p a.pd):=fun _ _ _ _ _ _=>load_ndb (i:=3) rfl
 have k0:∀H,callD (call pg) 62 [.p a.pd,.p (.int .i64 0)] H=some (.val (.p (kidN a 0).pd),H):=kid_eq a 0 (by omega)
 have w1:=wstr_eq f l [115,111,109,101,32] (by simp;omega) [a.cells.map .p,zC,zC]
 have w2:=bound_eq h0 h1 false (l++[115,111,109,101,32]) [a.cells.map .p,zC,zC] (by simp;omega)
 rw[←List.append_assoc]
 generalize l++[115,111,109,101,32]++bndA a=l2 at *
 generalize l++[115,111,109,101,32]=l1 at *
 refine⟨[a.cells.map .p,zC,zC],call_body (fc:=fc40) rfl rfl rfl rfl ?_⟩
 rw[pd_cells] at lnd k0 w2⊢
 simp only[pH,zC] at w1 w2⊢
 rw[h] at lop g1 g2
 simp[fc40,evKC,evK,put,Env.get,Env.keep,entry,Opd.ev,storeD,splice,binD,clsP,cls,clsR,isCl,isW,apartRW,offB,apartWW,clash,insOk,finish,evRes,D.cells,isMapC,o1,ld2,ld3,g1,g2,lop,lnd,w1,w2]
theorem node_compr(h:a.op=15)(h0:NodeOk (kidN a 0))(h1:NodeOk (kidN a 1)):∃ex,call pg 40 [.box 0 0,.p a.pd,.p (.bool fin)] (pH f l [])=some (.val .undef,pH false (l++txt a fin) ex):=by
 have ht:txt a fin=[123]++(bndA a++[125]):=by
  rw[txt_eq];simp only[txtOf,h,kK_eq,bnd_eq];rfl
 rw[ht] at hb⊢
 try simp only[List.length_append,List.length_cons,List.length_nil] at hb
 have o1:=one_of (pd_one a)
 have g1:=ge1 f l a.op
 have g2:=ge2 f l a.op
 simp only[getT,zEnt,hl0] at g1
 simp only[getT,zEnt,hl] at g2
 have lop:∀G tk x y z r,loadD G ⟨x::y::z::a.cells.map .p::r,tk⟩ none (.box 3 0)=some (.p (.int .i64 a.op)):=fun _ _ _ _ _ _=>rfl
 have lnm:∀G tk x y z r,loadD G ⟨x::y::z::a.cells.map .p::r,tk⟩ none (.box 3 1)=some (.p (.str a.nm)):=fun _ _ _ _ _ _=>rfl
 have ln:∀G tk x y z r,loadD G ⟨x::y::z::a.cells.map .p::r,tk⟩ none (.box 3 2)=some (.p (.int .i64 a.n)):=fun _ _ _ _ _ _=>rfl
 have lks:∀G tk x y z r,loadD G ⟨x::y::z::a.cells.map .p::r,tk⟩ none (.box 3 3)=some (.p a.kidsP):=fun _ _ _ _ _ _=>rfl
 have lnd:∀G tk x y z r,loadD G ⟨x::y::z::a.cells.map .p::r,tk⟩ (some 5) (.box 3 0)=some (.p a.pd):=fun _ _ _ _ _ _=>load_ndb (i:=3) rfl
 have k0:∀H,callD (call pg) 62 [.p a.pd,.p (.int .i64 0)] H=some (.val (.p (kidN a 0).pd),H):=kid_eq a 0 (by omega)
 have w1:callD (call pg) 64 [.box 0 0,.p (.int .u8 123)] (pH f l [a.cells.map .p,zC,zC])=some (.val (.p .nili),pH false (l++[123]) [a.cells.map .p,zC,zC]):=wbyte_eq f _ 123 (by omega) _
 have w2:=bound_eq h0 h1 false (l++[123]) [a.cells.map .p,zC,zC] (by simp;omega)
 have w3:callD (call pg) 64 [.box 0 0,.p (.int .u8 125)] (pH false (l++[123]++bndA a) [a.cells.map .p,zC,zC])=some (.val (.p .nili),pH false (l++[123]++bndA a++[125]) [a.cells.map .p,zC,zC]):=wbyte_eq false _ 125 (by simp;omega) _
 rw[show l++([123]++(bndA a++[125]))=l++[123]++bndA a++[125] by simp]
 generalize l++[123]++bndA a++[125]=l3 at *
 generalize l++[123]++bndA a=l2 at *
 generalize l++[123]=l1 at *
 refine⟨[a.cells.map .p,zC,zC],call_body (fc:=fc40) rfl rfl rfl rfl ?_⟩
 rw[pd_cells] at lnd k0 w2⊢
 simp only[pH,zC] at w1 w2 w3⊢
 rw[h] at lop g1 g2
 simp[fc40,evKC,evK,put,Env.get,Env.keep,entry,Opd.ev,storeD,splice,binD,clsP,cls,clsR,isCl,isW,apartRW,offB,apartWW,clash,insOk,finish,evRes,D.cells,isMapC,o1,ld2,ld3,g1,g2,lop,lnd,w1,w2,w3]
theorem node_call(h:a.op=47)(hks:∀x∈a.ks,NodeOk x)(hlen:a.ks.length≤1000000000):∃ex,call pg 40 [.box 0 0,.p a.pd,.p (.bool fin)] (pH f l [])=some (.val .undef,pH false (l++txt a fin) ex):=by
 have ht:txt a fin=a.nm++([91]++(joinL [44,32] (argsT a)++[93])):=by
  rw[txt_eq];simp only[txtOf,h,kK_eq,bnd_eq];show a.nm++([91]++(joinL [44,32] ((a.ks.map Nd.kt).map fun k=>oprK k 8 true)++[93]))=_;simp[argsT,List.map_map,Function.comp_def]
 rw[ht] at hb⊢
 try simp only[List.length_append,List.length_cons,List.length_nil] at hb
 have o1:=one_of (pd_one a)
 have g1:=ge1 f l a.op
 have g2:=ge2 f l a.op
 simp only[getT,zEnt,hl0] at g1
 simp only[getT,zEnt,hl] at g2
 have lop:∀G tk x y z r,loadD G ⟨x::y::z::a.cells.map .p::r,tk⟩ none (.box 3 0)=some (.p (.int .i64 a.op)):=fun _ _ _ _ _ _=>rfl
 have lnm:∀G tk x y z r,loadD G ⟨x::y::z::a.cells.map .p::r,tk⟩ none (.box 3 1)=some (.p (.str a.nm)):=fun _ _ _ _ _ _=>rfl
 have ln:∀G tk x y z r,loadD G ⟨x::y::z::a.cells.map .p::r,tk⟩ none (.box 3 2)=some (.p (.int .i64 a.n)):=fun _ _ _ _ _ _=>rfl
 have lks:∀G tk x y z r,loadD G ⟨x::y::z::a.cells.map .p::r,tk⟩ none (.box 3 3)=some (.p a.kidsP):=fun _ _ _ _ _ _=>rfl
 have lnd:∀G tk x y z r,loadD G ⟨x::y::z::a.cells.map .p::r,tk⟩ (some 5) (.box 3 0)=some (.p a.pd):=fun _ _ _ _ _ _=>load_ndb (i:=3) rfl
 have k0:∀H,callD (call pg) 62 [.p a.pd,.p (.int .i64 0)] H=some (.val (.p (kidN a 0).pd),H):=kid_eq a 0 (by omega)
 have hnm:a.nm.length≤140737488355327:=by omega
 have w1:=wstr_eq f l (a.nm++[91]) (by simp;omega) [a.cells.map .p,zC,zC]
 have w2:=list_eq hks hlen (l++(a.nm++[91])) [a.cells.map .p,zC,zC] (by simp;omega)
 have w3:callD (call pg) 64 [.box 0 0,.p (.int .u8 93)] (pH false (l++(a.nm++[91])++joinL [44,32] (argsT a)) [a.cells.map .p,zC,zC])=some (.val (.p .nili),pH false (l++(a.nm++[91])++joinL [44,32] (argsT a)++[93]) [a.cells.map .p,zC,zC]):=wbyte_eq false _ 93 (by simp;omega) _
 rw[show l++(a.nm++([91]++(joinL [44,32] (argsT a)++[93])))=l++(a.nm++[91])++joinL [44,32] (argsT a)++[93] by simp]
 generalize l++(a.nm++[91])++joinL [44,32] (argsT a)++[93]=l3 at *
 generalize l++(a.nm++[91])++joinL [44,32] (argsT a)=l2 at *
 generalize l++(a.nm++[91])=l1 at *
 refine⟨[a.cells.map .p,zC,zC],call_body (fc:=fc40) rfl rfl rfl rfl ?_⟩
 rw[pd_cells] at lnd k0⊢
 simp only[pH,zC] at w1 w2 w3⊢
 rw[h] at lop g1 g2
 simp[fc40,evKC,evK,put,Env.get,Env.keep,entry,Opd.ev,storeD,splice,binD,strBin,clsP,cls,clsR,isCl,isW,apartRW,offB,apartWW,clash,insOk,finish,evRes,D.cells,D.refsL,D.refs,D.toksL,D.toks,isMapC,o1,ld2,ld3,g1,g2,lop,lnm,lks,w1,w2,w3,hnm]
theorem node_none1(h:a.op=2)(h1:a.n=1):∃ex,call pg 40 [.box 0 0,.p a.pd,.p (.bool fin)] (pH f l [])=some (.val .undef,pH false (l++txt a fin) ex):=by
 have ht:txt a fin=[110,111,110,101]:=by
  rw[txt_eq];simp only[txtOf,h,kK_eq,bnd_eq];simp[h1];rfl
 rw[ht] at hb⊢
 try simp only[List.length_cons,List.length_nil] at hb
 have o1:=one_of (pd_one a)
 have g1:=ge1 f l a.op
 have g2:=ge2 f l a.op
 simp only[getT,zEnt,hl0] at g1
 simp only[getT,zEnt,hl] at g2
 have lop:∀G tk x y z r,loadD G ⟨x::y::z::a.cells.map .p::r,tk⟩ none (.box 3 0)=some (.p (.int .i64 a.op)):=fun _ _ _ _ _ _=>rfl
 have lnm:∀G tk x y z r,loadD G ⟨x::y::z::a.cells.map .p::r,tk⟩ none (.box 3 1)=some (.p (.str a.nm)):=fun _ _ _ _ _ _=>rfl
 have ln:∀G tk x y z r,loadD G ⟨x::y::z::a.cells.map .p::r,tk⟩ none (.box 3 2)=some (.p (.int .i64 a.n)):=fun _ _ _ _ _ _=>rfl
 have lks:∀G tk x y z r,loadD G ⟨x::y::z::a.cells.map .p::r,tk⟩ none (.box 3 3)=some (.p a.kidsP):=fun _ _ _ _ _ _=>rfl
 have lnd:∀G tk x y z r,loadD G ⟨x::y::z::a.cells.map .p::r,tk⟩ (some 5) (.box 3 0)=some (.p a.pd):=fun _ _ _ _ _ _=>load_ndb (i:=3) rfl
 have k0:∀H,callD (call pg) 62 [.p a.pd,.p (.int .i64 0)] H=some (.val (.p (kidN a 0).pd),H):=kid_eq a 0 (by omega)
 have w1:=wstr_eq f l [110,111,110,101] (by simp;omega) [a.cells.map .p,zC,zC]
 refine⟨[a.cells.map .p,zC,zC],call_body (fc:=fc40) rfl rfl rfl rfl ?_⟩
 rw[pd_cells] at lnd k0⊢
 simp only[pH,zC] at w1⊢
 rw[h] at lop g1 g2
 simp[fc40,evKC,evK,put,Env.get,Env.keep,entry,Opd.ev,storeD,splice,binD,clsP,cls,clsR,isCl,isW,apartRW,offB,apartWW,clash,insOk,finish,evRes,D.cells,isMapC,o1,ld2,ld3,g1,g2,lop,ln,w1,h1]
theorem node_none2(h:a.op=2)(h1:¬a.n=1)(hn:i64 a.n):∃ex,call pg 40 [.box 0 0,.p a.pd,.p (.bool fin)] (pH f l [])=some (.val .undef,pH false (l++txt a fin) ex):=by
 have ht:txt a fin=[110,111,110,101]++([91]++(Lib.itoa a.n++[93])):=by
  rw[txt_eq];simp only[txtOf,h,kK_eq,bnd_eq];simp[h1];rfl
 rw[ht] at hb⊢
 try simp only[List.length_append,List.length_cons,List.length_nil] at hb
 have o1:=one_of (pd_one a)
 have g1:=ge1 f l a.op
 have g2:=ge2 f l a.op
 simp only[getT,zEnt,hl0] at g1
 simp only[getT,zEnt,hl] at g2
 have lop:∀G tk x y z r,loadD G ⟨x::y::z::a.cells.map .p::r,tk⟩ none (.box 3 0)=some (.p (.int .i64 a.op)):=fun _ _ _ _ _ _=>rfl
 have lnm:∀G tk x y z r,loadD G ⟨x::y::z::a.cells.map .p::r,tk⟩ none (.box 3 1)=some (.p (.str a.nm)):=fun _ _ _ _ _ _=>rfl
 have ln:∀G tk x y z r,loadD G ⟨x::y::z::a.cells.map .p::r,tk⟩ none (.box 3 2)=some (.p (.int .i64 a.n)):=fun _ _ _ _ _ _=>rfl
 have lks:∀G tk x y z r,loadD G ⟨x::y::z::a.cells.map .p::r,tk⟩ none (.box 3 3)=some (.p a.kidsP):=fun _ _ _ _ _ _=>rfl
 have lnd:∀G tk x y z r,loadD G ⟨x::y::z::a.cells.map .p::r,tk⟩ (some 5) (.box 3 0)=some (.p a.pd):=fun _ _ _ _ _ _=>load_ndb (i:=3) rfl
 have k0:∀H,callD (call pg) 62 [.p a.pd,.p (.int .i64 0)] H=some (.val (.p (kidN a 0).pd),H):=kid_eq a 0 (by omega)
 have hi:=itoa_eq hn
 have h1':(a.n !=1)=true:=by simpa using h1
 have hil:(Lib.itoa a.n).length≤140737488355320:=by omega
 have hil2:1+(Lib.itoa a.n).length≤140737488355328:=by omega
 have hil3:(Lib.itoa a.n).length+1≤140737488355328:=by omega
 have hil4:(Lib.itoa a.n).length+1+1≤140737488355328:=by omega
 have w1:=wstr_eq f l [110,111,110,101] (by simp;omega) [a.cells.map .p,zC,zC]
 have w2:=wstr_eq false (l++[110,111,110,101]) ([91]++Lib.itoa a.n++[93]) (by simp;omega) [a.cells.map .p,zC,zC]
 rw[show l++([110,111,110,101]++([91]++(Lib.itoa a.n++[93])))=l++[110,111,110,101]++([91]++Lib.itoa a.n++[93]) by simp]
 generalize l++[110,111,110,101]++([91]++Lib.itoa a.n++[93])=l2 at *
 generalize l++[110,111,110,101]=l1 at *
 simp only[List.cons_append,List.nil_append] at w2
 refine⟨[a.cells.map .p,zC,zC],call_body (fc:=fc40) rfl rfl rfl rfl ?_⟩
 rw[pd_cells] at lnd k0⊢
 simp only[pH,zC] at w1 w2⊢
 rw[h] at lop g1 g2
 simp[fc40,evKC,evK,put,Env.get,Env.keep,entry,Opd.ev,storeD,splice,binD,strBin,clsP,cls,clsR,isCl,isW,apartRW,offB,apartWW,clash,insOk,finish,evRes,D.cells,D.refsL,D.refs,D.toksL,D.toks,isMapC,o1,ld2,ld3,g1,g2,lop,ln,w1,w2,hi,h1',hil2,hil4]
end
end Go.Proofs.YtalgjkpkkdljaaaDoor
namespace Go.Proofs.YtalgjkpkkdljaaaDoor
open Go.Vs
theorem cls_ins(c:Bool)(n m k:Nat):((n,m+1)=if c=true then((1 :Nat),(0 :Nat)) else(k,0))=False:=by
 cases c<;>simp
theorem node_const{a:Nd}(hl0:look binT a.op=none)(hl:look preT a.op=none)(fin f:Bool)(l:List UInt8)(hb:l.length+(txt a fin).length≤100000000000000)
    (h1:a.op≠1) (h2:a.op≠2) (h3:a.op≠20) (h4:a.op≠5) (h5:a.op≠45) (h6:a.op≠46) (h7:a.op≠15) (h8:a.op≠47):∃ex,call pg 40 [.box 0 0,.p a.pd,.p (.bool fin)] (pH f l [])=some (.val .undef,pH false (l++txt a fin) ex):=by
 have ht:txt a fin=constT a.op:=by
  rw[txt_eq];simp only[txtOf,hl0,hl,h1,h2,h3,h4,h5,h6,h7,h8,if_false]
 rw[ht] at hb⊢
 have o1:=one_of (pd_one a)
 have g1:=ge1 f l a.op
 have g2:=ge2 f l a.op
 simp only[getT,zEnt,hl0] at g1
 simp only[getT,zEnt,hl] at g2
 have lop:∀G tk x y z r,loadD G ⟨x::y::z::a.cells.map .p::r,tk⟩ none (.box 3 0)=some (.p (.int .i64 a.op)):=fun _ _ _ _ _ _=>rfl
 have mi1:∀x0 x1 x2 x3 x4 x5 tk,mapinsD 13 (.mapr 6) (.p (.int .i64 3)) (.p (.str [117,110,105,118])) ⟨x0::x1::x2::x3::x4::x5::[[.mapc 13 [] []]],tk⟩=some (.undef,⟨x0::x1::x2::x3::x4::x5::[[.mapc 13 [.int .i64 3] [.p (.str [117,110,105,118])]]],tk⟩):=fun _ _ _ _ _ _ _=>rfl
 have mi2:∀x0 x1 x2 x3 x4 x5 tk,mapinsD 13 (.mapr 6) (.p (.int .i64 4)) (.p (.str [105,100,101,110])) ⟨x0::x1::x2::x3::x4::x5::[[.mapc 13 [.int .i64 3] [.p (.str [117,110,105,118])]]],tk⟩=some (.undef,⟨x0::x1::x2::x3::x4::x5::[[.mapc 13 [.int .i64 3,.int .i64 4] [.p (.str [117,110,105,118]),.p (.str [105,100,101,110])]]],tk⟩):=fun _ _ _ _ _ _ _=>rfl
 have mi3:∀x0 x1 x2 x3 x4 x5 tk,mapinsD 13 (.mapr 6) (.p (.int .i64 30)) (.p (.str [116,114,117,101])) ⟨x0::x1::x2::x3::x4::x5::[[.mapc 13 [.int .i64 3,.int .i64 4] [.p (.str [117,110,105,118]),.p (.str [105,100,101,110])]]],tk⟩=some (.undef,⟨x0::x1::x2::x3::x4::x5::[[.mapc 13 [.int .i64 3,.int .i64 4,.int .i64 30] [.p (.str [117,110,105,118]),.p (.str [105,100,101,110]),.p (.str [116,114,117,101])]]],tk⟩):=fun _ _ _ _ _ _ _=>rfl
 have mi4:∀x0 x1 x2 x3 x4 x5 tk,mapinsD 13 (.mapr 6) (.p (.int .i64 31)) (.p (.str [102,97,108,115,101])) ⟨x0::x1::x2::x3::x4::x5::[[.mapc 13 [.int .i64 3,.int .i64 4,.int .i64 30] [.p (.str [117,110,105,118]),.p (.str [105,100,101,110]),.p (.str [116,114,117,101])]]],tk⟩=some (.undef,⟨x0::x1::x2::x3::x4::x5::[[.mapc 13 [.int .i64 3,.int .i64 4,.int .i64 30,.int .i64 31] [.p (.str [117,110,105,118]),.p (.str [105,100,101,110]),.p (.str [116,114,117,101]),.p (.str [102,97,108,115,101])]]],tk⟩):=fun _ _ _ _ _ _ _=>rfl
 have mg:∀x0 x1 x2 x3 x4 x5 tk,mapgetD 13 (.str []) false (.mapr 6) (.p (.int .i64 a.op)) ⟨x0::x1::x2::x3::x4::x5::[[.mapc 13 [.int .i64 3,.int .i64 4,.int .i64 30,.int .i64 31] [.p (.str [117,110,105,118]),.p (.str [105,100,101,110]),.p (.str [116,114,117,101]),.p (.str [102,97,108,115,101])]]],tk⟩=some (.p (.str (constT a.op))):=by
  intro x0 x1 x2 x3 x4 x5 tk
  have hk:keyKind (.int .i64 a.op)=13:=rfl
  simp only[mapgetD,List.getElem?_cons_succ,List.getElem?_cons_zero,hk,true_and,ne_eq,findK,keyEq,beq_iff_eq,constT]
  by_cases e1:a.op=3
  ·simp[e1]
  by_cases e2:a.op=4
  ·simp[e2]
  by_cases e3:a.op=30
  ·simp[e3]
  by_cases e4:a.op=31
  ·simp[e4]
  simp[e1,e2,e3,e4]
 let mb:List D:=[.mapc 13 [.int .i64 3,.int .i64 4,.int .i64 30,.int .i64 31] [.p (.str [117,110,105,118]),.p (.str [105,100,101,110]),.p (.str [116,114,117,101]),.p (.str [102,97,108,115,101])]]
 have w1:=wstr_eq f l (constT a.op) (by omega) [a.cells.map .p,zC,zC,mb]
 refine⟨[a.cells.map .p,zC,zC,mb],call_body (fc:=fc40) rfl rfl rfl rfl ?_⟩
 have b1:(a.op==1)=false:=by simpa using h1
 have b2:(a.op==2)=false:=by simpa using h2
 have b3:(a.op==20)=false:=by simpa using h3
 have b4:(a.op==5)=false:=by simpa using h4
 have b5:(a.op==45)=false:=by simpa using h5
 have b6:(a.op==46)=false:=by simpa using h6
 have b7:(a.op==15)=false:=by simpa using h7
 have b8:(a.op==47)=false:=by simpa using h8
 have c4:=fun c k=>cls_ins c 16 3 k
 have c5:=fun c k=>cls_ins c 16 4 k
 have c31:=fun c k=>cls_ins c 16 30 k
 have c32:=fun c k=>cls_ins c 16 31 k
 simp only[Nat.reduceAdd] at c4 c5 c31 c32
 rw[pd_cells]
 simp only[pH,zC,mb] at w1⊢
 simp[fc40,evKC,evK,put,Env.get,Env.keep,entry,Opd.ev,storeD,splice,binD,clsP,cls,clsR,isCl,isW,apartRW,offB,apartWW,clash,insOk,finish,evRes,D.cells,D.refsL,D.refs,D.toksL,D.toks,isMapC,o1,ld2,ld3,g1,g2,lop,b1,b2,b3,b4,b5,b6,b7,b8,mi1,mi2,mi3,mi4,mg,w1,keyCode,c4,c5,c31,c32]
mutual
def Nd.i64s:Nd→Prop
 | .mk _ _ n _ ks _=>i64 n∧Nd.i64sL ks
def Nd.i64sL:List Nd→Prop
 |[]=>True
 |k::ks=>k.i64s∧Nd.i64sL ks
end
theorem i64s_n{a:Nd}(h:a.i64s):i64 a.n:=by cases a;exact h.1
theorem i64sL_mem:∀{ks:List Nd} {x:Nd},Nd.i64sL ks→x∈ks→x.i64s
 |k::ks,x,h,hx=>by
  rcases List.mem_cons.1 hx with q |q
  ·rw[q];exact h.1
  ·exact i64sL_mem h.2 q
theorem i64s_kid{a x:Nd}(h:a.i64s)(hx:x∈a.ks):x.i64s:=by cases a;exact i64sL_mem h.2 hx
theorem size_memL:∀{ks:List Nd} {x:Nd},x∈ks→x.size≤Nd.sizeL ks
 |k::ks,x,hx=>by
  simp only[Nd.sizeL]
  rcases List.mem_cons.1 hx with q |q
  ·rw[q];omega
  ·have:=size_memL q;omega
theorem size_lt{a x:Nd}(hx:x∈a.ks):x.size<a.size:=by
 cases a
 have:=size_memL hx
 simp only[Nd.size,Nd.ks] at *
 omega
theorem size_pos(a:Nd):1≤a.size:=by cases a;simp only[Nd.size];omega
theorem lenL_size:∀ks:List Nd,ks.length≤Nd.sizeL ks
 |[]=>Nat.le_refl _
 |k::ks=>by
  have:=lenL_size ks
  have:=size_pos k
  simp only[Nd.sizeL,List.length_cons];omega
theorem len_size(a:Nd):a.ks.length≤a.size:=by
 cases a with
 |mk op nm n c ks pos=>
  have:=lenL_size ks
  simp only[Nd.size,Nd.ks];omega
theorem nodeOk_of{a:Nd}(h:∀(fin f:Bool) (l:List UInt8),l.length+(txt a fin).length≤100000000000000→∃ex,call pg 40 [.box 0 0,.p a.pd,.p (.bool fin)] (pH f l [])=some (.val .undef,pH false (l++txt a fin) ex)):NodeOk a:=by
 intro fin f l bx hb
 obtain⟨ex,h⟩:=h fin f l hb
 exact callD_pr (args:=[a.pd,.bool fin]) (fun _ _=>rfl) h
theorem node_zero:NodeOk zN:=nodeOk_of fun fin f l hb=>node_const (a:=zN) rfl rfl fin f l hb (by decide) (by decide) (by decide) (by decide) (by decide) (by decide) (by decide) (by decide)
theorem node_kid{a:Nd}(hk:∀x∈a.ks,NodeOk x)(i:Nat):NodeOk (kidN a i):=by
 unfold kidN
 cases h:a.ks[i]? with
 |none=>exact node_zero
 |some x=>exact hk x (List.mem_of_getElem? h)
def NodeC(a:Nd):Prop:=∀(fin f:Bool) (l:List UInt8),l.length+(txt a fin).length≤100000000000000→∃ex,call pg 40 [.box 0 0,.p a.pd,.p (.bool fin)] (pH f l [])=some (.val .undef,pH false (l++txt a fin) ex)
theorem node_every:∀(s:Nat) (a:Nd),a.size≤s→s≤1000000000→a.i64s→NodeC a:=by
 intro s
 induction s with
 |zero=>intro a h;have:=size_pos a;omega
 |succ s ih=>
  intro a hs hb hi
  have hk:∀x∈a.ks,NodeOk x:=fun x hx=>nodeOk_of (ih x (by have:=size_lt hx;omega) (by omega) (i64s_kid hi hx))
  have k0:=node_kid hk 0
  have k1:=node_kid hk 1
  have hn:=i64s_n hi
  have hlen:a.ks.length≤1000000000:=by have:=len_size a;omega
  intro fin f l hl
  cases h0:look binT a.op with
  |some e=>exact node_bin h0 k0 k1 fin f l hl
  |none=>
   cases h1:look preT a.op with
   |some e=>exact node_pre h0 h1 k0 fin f l hl
   |none=>
    by_cases e1:a.op=1
    ·exact node_name h0 h1 fin f l hl e1
    by_cases e2:a.op=2
    ·by_cases en:a.n=1
     ·exact node_none1 h0 h1 fin f l hl e2 en
     ·exact node_none2 h0 h1 fin f l hl e2 en hn
    by_cases e3:a.op=20
    ·exact node_lit h0 h1 fin f l hl e3 hn
    by_cases e4:a.op=5
    ·exact node_prime h0 h1 fin f l hl e4 k0
    by_cases e5:a.op=45
    ·exact node_all h0 h1 fin f l hl e5 k0 k1
    by_cases e6:a.op=46
    ·exact node_ex h0 h1 fin f l hl e6 k0 k1
    by_cases e7:a.op=15
    ·exact node_compr h0 h1 fin f l hl e7 k0 k1
    by_cases e8:a.op=47
    ·exact node_call h0 h1 fin f l hl e8 hk hlen
    exact node_const h0 h1 fin f l hl e1 e2 e3 e4 e5 e6 e7 e8
theorem callD_ofP{c:CallR}{f:Nat}{args:List D}{H:Hp}(ids tks:List Nat){as1:List D}{bx:List (List D)}{tk:List Nat}{r:Res}{H':Hp}
    (h1:reach H H.bx.length (ins [] (D.refsL args))=ids) (h2:ins [] (D.toksL args++boxToks H ids)=tks) (h3:(Vs.nodupB ids&&Vs.nodupB tks)=true)
    (h4:D.renL (idx ids) (idx tks) args=some as1) (h5:mapO (fun i=>match H.bx[i]? with |some cs=>D.renL (idx ids) (idx tks) cs |none=>none) ids=some bx)
    (h6:mapO (fun t=>H.tk[t]?) tks=some tk) (h7:c f as1 ⟨bx,tk⟩=some (r,H')):callD c f args H=back ids tks H r H':=by
 simp only[callD,h1,h2,h3,h4,h6,if_true]
 erw [h5]
 simp only[h7]
def prF(f:Bool)(l:List UInt8):List D:=[if f then .fresh 78 4 3 else .box 3 0,.tsl 0 5 1 (bytesP l),.mapr 1,.mapr 2]
def FH(a:Nd)(f:Bool)(l:List UInt8):Hp:=⟨[a.cells.map .p,tabM binT,tabM preT,prF f l],[l.length]⟩
theorem new_eq(b0:List D):callD (call pg) 39 [] ⟨[b0],[]⟩=some (.val (.box 3 0),⟨[b0,tabM binT,tabM preT,[.fresh 78 4 3,.p .nils,.mapr 1,.mapr 2]],[]⟩):=by
 refine(callD_ofP (as1:=[]) [] [] rfl rfl rfl rfl rfl rfl (call_of_evF 10 new_run)).trans ?_
 simp[back,firstN,mapO,Res.ren,D.ren,D.renL,ren_tab,putAll]
theorem refs_tab(t:List Ent):D.refsL (tabM t)=[]:=by
 have :∀l:List PD,D.refsL (l.map .p)=[]:=fun l=>by induction l with |nil=>rfl |cons x l ih=>simp[D.refsL,D.refs,ih]
 have e:(t.map fun e=>D.p e.pd)=(t.map Ent.pd).map D.p:=by simp
 simp only[tabM,e,D.refsL,D.refs,this,List.append_nil]
theorem toks_tab(t:List Ent):D.toksL (tabM t)=[]:=by
 have :∀l:List PD,D.toksL (l.map .p)=[]:=fun l=>by induction l with |nil=>rfl |cons x l ih=>simp[D.toksL,D.toks,ih]
 have e:(t.map fun e=>D.p e.pd)=(t.map Ent.pd).map D.p:=by simp
 simp only[tabM,e,D.toksL,D.toks,this,List.append_nil]
theorem callF{g:Nat}{args:List PD}{a:Nd}{f f':Bool}{l l':List UInt8}{d:D}{ex:List (List D)}(hd:∀bi ti,d.ren bi ti=some d)
    (h:call pg g (.box 0 0::args.map .p) (pH f l [])=some (.val d,pH f' l' ex)):callD (call pg) g (.box 3 0::args.map .p) (FH a f l)=some (.val d,FH a f' l'):=by
 have rp:∀l:List PD,D.refsL (l.map .p)=[]:=fun l=>by induction l with |nil=>rfl |cons x l ih=>simp[D.refsL,D.refs,ih]
 have tp:∀l:List PD,D.toksL (l.map .p)=[]:=fun l=>by induction l with |nil=>rfl |cons x l ih=>simp[D.toksL,D.toks,ih]
 have z0:ins [] (D.refsL (D.box 3 0::args.map .p))=[3]:=by simp[D.refsL,D.refs,rp,ins]
 have q1:reach (FH a f l) (FH a f l).bx.length (ins [] (D.refsL (D.box 3 0::args.map .p)))=[3,1,2]:=by
  rw[z0]
  cases f<;>simp[reach,boxRefs,ins,FH,prF,refs_tab,D.refsL,D.refs]
 have q2:ins [] (D.toksL (D.box 3 0::args.map .p)++boxToks (FH a f l) [3,1,2])=[0]:=by
  cases f<;>simp[boxToks,ins,FH,prF,toks_tab,D.toksL,D.toks,tp]
 have k3:idx [3,1,2] 3=some 0:=rfl
 have k1:idx [3,1,2] 1=some 1:=rfl
 have k2:idx [3,1,2] 2=some 2:=rfl
 have k0:idx [0] 0=some 0:=rfl
 have q4:D.renL (idx [3,1,2]) (idx [0]) (D.box 3 0::args.map .p)=some (.box 0 0::args.map .p):=by
  simp only[D.renL,D.ren,k3,renL_p,Option.map_some]
 have q5:mapO (fun i=>match(FH a f l).bx[i]? with |some cs=>D.renL (idx [3,1,2]) (idx [0]) cs |none=>none) [3,1,2]=some (pH f l []).bx:=by
  cases f<;>simp[mapO,FH,prF,pH,prC,ren_tab,D.renL,D.ren,k0,k1,k2,k3]
 refine(callD_ofP [3,1,2] [0] q1 q2 rfl q4 q5 rfl h).trans ?_
 cases f'<;>simp[back,firstN,mapO,FH,prF,pH,prC,ren_tab,D.renL,D.ren,Res.ren,hd,putAll]
theorem formula0{a:Nd}(hs:a.size≤1000000000)(hi:a.i64s)(hb:(txt a true).length≤100000000000000):∃H',call pg 14 [.p a.pd] ⟨[],[]⟩=some (.val (.p (.str (txt a true))),H'):=by
 have hkn:=pone_kids a
 have nw:=new_eq (a.cells.map .p)
 have nd:∃ex,call pg 40 (.box 0 0::[a.pd,.bool true].map .p) (pH true [] [])=some (.val .undef,pH false (txt a true) ex):=by
  exact node_every 1000000000 a hs (Nat.le_refl _) hi true true [] (by simpa using hb)
 obtain⟨ex,nd⟩:=nd
 have c1:=callF (a:=a) (fun _ _=>rfl) nd
 have c2:=callF (a:=a) (args:=[]) (fun _ _=>rfl) (bstr0 false (txt a true) (by omega))
 refine⟨FH a false (txt a true),call_body (fc:=fc14) rfl rfl rfl rfl ?_⟩
 simp only[FH,prF,List.map_cons,List.map_nil,pd_cells a,Nd.cells,bytesP,List.length_nil,if_true,Bool.false_eq_true,if_false] at nw c1 c2⊢
 simp[fc14,evKC,evK,put,Env.get,Env.keep,entry,Opd.ev,loadD,cutAt,sub,finish,evRes,evRes1,D.cells,mkAgg,pures,isMapC,nw,c1,c2,tokbD,tokD]
theorem formula_eq{a:Nd}(hs:a.size≤1000000000)(hi:a.i64s)(hb:(txt a true).length≤100000000000000)(H:Hp):callD (call pg) 14 [.p a.pd] H=some (.val (.p (.str (txt a true))),H):=
 callD_any (formula0 hs hi hb) rfl rfl rfl rfl H
end Go.Proofs.YtalgjkpkkdljaaaDoor
namespace Go.Proofs.YtalgjkpkkdljaaaDoor.Ps
open Go.Vs
def syms:List (List UInt8):=[[60,61,62],[60,61],[60],[61,62],[61],[33,61],[45,62],[45],[43,43],[43],[38,38],[38],[124,124],[124],[40],[41],[123],[125],[91],[93],[58],[59],[44],[46],[39],[126],[94],[42],[35]]
def kwL:List UInt8:=[32,115,111,114,116,32,111,114,100,101,114,101,100,32,118,97,114,32,102,105,101,108,100,32,112,114,101,100,32,102,97,99,116,32,97,108,108,32,115,111,109,101,32,110,111,32,111,110,101,32,108,111,110,101,32,97,108,119,97,121,115,32,101,118,101,110,116,117,97,108,108,121,32,97,102,116,101,114,32,117,110,116,105,108,32,110,111,110,101,32,117,110,105,118,32,105,100,101,110,32,105,110,32,110,111,116,32,116,114,117,101,32,102,97,108,115,101,32]
def kw(s:List UInt8):Bool:=Lib.contains kwL (32::s++[32])
def letter(c:UInt8):Bool:=(decide (97≤c.toNat)&&decide (c.toNat≤122))||(decide (65≤c.toNat)&&decide (c.toNat≤90))
def tailC(c:UInt8):Bool:=letter c||(c.toNat==95||(decide (48≤c.toNat)&&decide (c.toNat≤57)))
def chs:Nat→List UInt8→Bool
 |_,[]=>true
 | 0,c::r=>letter c&&chs 1 r
 |i+1,c::r=>tailC c&&chs (i+2) r
def isNm(s:List UInt8):Bool:=!(s==[])&&(decide (s.length≤16)&&(!kw s&&chs 0 s))
theorem chs_step{s:List UInt8}{k:Nat}(hlt:k<s.length):chs k (s.drop k)=((if(k==0)=true then letter s[k] else tailC s[k])&&chs (k+1) (s.drop (k+1))):=by
 rw[List.drop_eq_getElem_cons hlt]
 cases k with
 |zero=>rfl
 |succ k=>rfl
theorem lenD_str(s:List UInt8):lenD 0 (.p (.str s))=some s.length:=rfl
def knd(op:Int):Int:=if 1≤op∧op≤15 then 1 else if 20≤op∧op≤23 then 2 else if 30≤op∧op≤51 then 3 else 0
def nmd(op:Int):Bool:=op==1||(op==15||(op==45||(op==46||op==47)))
def ownB(op:Int)(nm:List UInt8)(n:Int):Bool:=
 if nmd op=true then isNm nm&&n==0
 else if(op==2)=true then nm==[]&&(decide (1≤n)&&decide (n≤3))
 else if(op==20)=true then nm==[]&&(decide (-64≤n)&&decide (n≤64))
 else nm==[]&&n==0
def ownN(a:Nd):Bool:=ownB a.op a.nm a.n
end Go.Proofs.YtalgjkpkkdljaaaDoor.Ps
