/-
  A value-level evaluator for Go functions; the functions of this cut by it; plain laws. Part 4 of 5.
-/
import Derived.Test.YtalgjkpkkdljaaaDoorProg
import Derived.Test.YtalgjkpkkdljaaaDoorG3
import Derived.KernelRfl
import Derived.Lib.ItoaNum
import Derived.Shelf.Strconv.Itoa3
import Derived.Lib.Builder
import Derived.WalkKit
import Derived.Laws.Externs
import Derived.Test.YtalgjkpkkdljaaaDoorChecked
import Derived.Lib.AppendIntMem
import Derived.Lib.UnsafeStr
import Derived.Test.YtalgjkpkkdljaaaDoorRows
import Derived.Lib.LaidTab
import Derived.Shelf.Vars
import Derived.ProofKit
import Derived.LaidMore
import Derived.Lay
import Derived.OpenShut
import Derived.Stop.Joined
import Derived.Lib.Atoi
import Derived.Lib.IndexMore
import Derived.Lib.Bytealg
namespace Go.Proofs.YtalgjkpkkdljaaaDoor
open Go.Vs
def fc4:FC where
 nt:=32
 np:=2
 res:=[.t 4]
 body:=(.seq (.region [2,3] [zo 2 (.box (.t 0)),zo 3 (.box (.t 1)),zo 4 (.move (zB false))]) (.seq (.region [2,3,5] [zc 8 6 [],zm 5 8]) (.seq (.region [2,3,5,6] [zL 9 5 2,zc 10 19 [.t 9],zm 6 10]) (.seq (.region [2,3,5,6,7] [zL 11 5 3,zc 12 19 [.t 11],zm 7 12]) (.seq (.seq (.region [2,3,5,18] [zm 13 6,zo 14 (.un .not (.t 13)),zm 15 14,zg 16 (.move (.t 7)) 15 false,zg 17
  (.un .not (.t 16)) 15 false,zb 18 15 17]) (.cond (.t 18) (.seq (.region [4] [zm 19 5,zm 4 19]) .ret) .skip)) (.seq (.draw [4] [(2,3),(2,5),(3,5),(4,5),(2,7),(3,7),(4,7),(5,7),(6,7)] [zm 20 5,zm 21 20,zg 22 (.load (some 5) (.t 2)) 21 true,zg 23 (.load (some 5) (.t 3)) 21 true,zg 24 (.call (.c (.fn 9 [] [])) [.t 22,.t 23]) 21 true,zg 25 (.load (some 5) (.t 2)) 21 true,zg 26
  (.call (.c (.fn 14 [] [])) [.t 25]) 21 true,zg 27 (.load (some 5) (.t 3)) 21 true,zg 28 (.call (.c (.fn 14 [] [])) [.t 27]) 21 true,zg 29 (.bin .eql (.t 26) (.t 28)) 21 true,zg 30 (.eqk 0 false (.t 24) (.t 29)) 21 true,za 31 21 30,zm 4 31]) .ret))))))
theorem ok4:FOk Tryd.prog 4 fc4:=FOk.of Tryd.func4 (by kernel_rfl)
def fc6:FC where
 nt:=120
 np:=0
 res:=[.t 0]
 body:=(.seq (.region [] [zo 0 (.move (zB false))]) (.seq (.region [1] [zc 10 21 [zS [65]],zc 11 22 [zS [112]],zo 12 (.bslice 24 5 2 (.agg [.int .i64 0,.str [],.int .i64 0,.nils,.int .i64 0]) [(0,(.t 10)),(1,(.t 11))]),zo 13 (.build [.int .i64 0,.str [],.int .i64 0,.nils,.int .i64 0] [(0,1,(zI 45)),(1,1,(zS [120])),(3,1,(.t 12))]),zo 1 (.alloc [.int .i64 0,.str
  [],.int .i64 0,.nils,.int .i64 0]),zs 5 1 13]) (.seq (.region [1,2] [zo 14 (.build [.int .i64 0,.str [],.int .i64 0,.nils,.int .i64 0] [(0,1,(zI 30))]),zo 15 (.build [.int .i64 0,.str [],.int .i64 0,.nils,.int .i64 0] [(0,1,(zI 31))]),zc 16 23 [zI 41,.t 14,.t 15],zo 17 (.bslice 24 5 1 (.agg [.int .i64 0,.str [],.int .i64 0,.nils,.int .i64 0]) [(0,(.t 16))]),zo 18 (.build
  [.int .i64 0,.str [],.int .i64 0,.nils,.int .i64 0] [(0,1,(zI 40)),(3,1,(.t 17))]),zo 2 (.alloc [.int .i64 0,.str [],.int .i64 0,.nils,.int .i64 0]),zs 5 2 18]) (.seq (.region [1,2,3] [zc 19 21 [zS [97]],zc 20 21 [zS [98]],zc 21 21 [zS [99]],zc 22 23 [zI 8,.t 20,.t 21],zc 23 23 [zI 8,.t 19,.t 22],zo 3 (.alloc [.int .i64 0,.str [],.int .i64 0,.nils,.int .i64 0]),zs 5 3 23])
  (.seq (.region [1,2,3,4] [zc 24 21 [zS [97]],zc 25 21 [zS [98]],zo 26 (.bslice 24 5 1 (.agg [.int .i64 0,.str [],.int .i64 0,.nils,.int .i64 0]) [(0,(.t 25))]),zo 27 (.build [.int .i64 0,.str [],.int .i64 0,.nils,.int .i64 0] [(0,1,(zI 11)),(3,1,(.t 26))]),zc 28 23 [zI 9,.t 24,.t 27],zo 29 (.bslice 24 5 1 (.agg [.int .i64 0,.str [],.int .i64 0,.nils,.int .i64 0])
  [(0,(.t 28))]),zo 30 (.build [.int .i64 0,.str [],.int .i64 0,.nils,.int .i64 0] [(0,1,(zI 5)),(3,1,(.t 29))]),zo 4 (.alloc [.int .i64 0,.str [],.int .i64 0,.nils,.int .i64 0]),zs 5 4 30]) (.seq (.region [1,2,3,4,5] [zo 31 (.build [.int .i64 0,.str [],.int .i64 0,.nils,.int .i64 0] [(0,1,(zI 20)),(2,1,(zI (-3)))]),zc 32 21 [zS [97]],zo 33 (.build [.int .i64 0,.str
  [],.int .i64 0,.nils,.int .i64 0] [(0,1,(zI 2)),(2,1,(zI 2))]),zc 34 23 [zI 6,.t 32,.t 33],zo 35 (.bslice 24 5 1 (.agg [.int .i64 0,.str [],.int .i64 0,.nils,.int .i64 0]) [(0,(.t 34))]),zo 36 (.build [.int .i64 0,.str [],.int .i64 0,.nils,.int .i64 0] [(0,1,(zI 21)),(3,1,(.t 35))]),zc 37 23 [zI 39,.t 31,.t 36],zo 5 (.alloc [.int .i64 0,.str [],.int .i64 0,.nils,.int .i64 0]),
  zs 5 5 37]) (.seq (.draw [1,2,3,4,5,6] [(8,11),(8,12),(11,12),(8,13),(8,17),(11,17),(12,17),(13,17)] [zo 38 (.build [.str [],.bool false] [(0,1,(zS [65])),(1,1,(zB true))]),zo 39 (.build [.str [],.bool false] [(0,1,(zS [66]))]),zo 40 (.bslice 45 2 2 (.agg [.str [],.bool false]) [(0,(.t 38)),(1,(.t 39))]),zo 41 (.bslice 3 1 2 (.int .i64 0) [(0,(zI 0)),(1,(zI 1))]),zo 42
  (.build [.str [],.nils,.bool false] [(0,1,(zS [102])),(1,1,(.t 41)),(2,1,(zB true))]),zo 43 (.bslice 48 3 1 (.agg [.str [],.nils,.bool false]) [(0,(.t 42))]),zo 44 (.build [.str [],.int .i64 0] [(0,1,(zS [120])),(1,1,(zI 1))]),zo 45 (.bslice 50 2 1 (.agg [.str [],.int .i64 0]) [(0,(.t 44))]),zL 46 5 5,zo 47 (.build [.str [],.nils,.int .i64 0,.str
  [],.int .i64 0,.nils,.int .i64 0] [(0,1,(zS [112])),(1,1,(.t 45)),(2,5,(.t 46))]),zo 48 (.bslice 53 7 1 (.agg [.str [],.nils,.int .i64 0,.str [],.int .i64 0,.nils,.int .i64 0]) [(0,(.t 47))]),zL 49 5 1,zc 50 22 [zS [113]],zc 51 23 [zI 41,.t 49,.t 50],zo 52 (.build [.str [],.int .i64 0,.str [],.int .i64 0,.nils,.int .i64 0] [(0,1,(zS [113])),(1,5,(.t 51))]),zo 53
  (.bslice 55 6 1 (.agg [.str [],.int .i64 0,.str [],.int .i64 0,.nils,.int .i64 0]) [(0,(.t 52))]),zo 54 (.build [.nils,.nils,.nils,.nils] [(0,1,(.t 40)),(1,1,(.t 43)),(2,1,(.t 48)),(3,1,(.t 53))]),zo 6 (.alloc [.nils,.nils,.nils,.nils]),zs 4 6 54]) (.seq (.draw [1,2,3,4,5,6,7] [(0,1),(6,7)] [zL 55 5 1,zc 56 22 [zS [113]],zc 57 23 [zI 41,.t 55,.t 56],zc 58 14 [.t 57],zo 59
  (.bin .eql (.t 58) (zS [40,97,108,108,32,120,58,32,65,32,124,32,112,91,93,41,32,38,38,32,113,91,93])),zm 60 59,zg 61 (.call (.c (.fn 22 [] [])) [zS [113]]) 60 true,zg 62 (.load (some 5) (.t 1)) 60 true,zg 63 (.call (.c (.fn 23 [] [])) [zI 41,.t 61,.t 62]) 60 true,zg 64 (.call (.c (.fn 14 [] [])) [.t 63]) 60 true,zg 65 (.bin .eql (.t 64) (zS
  [113,91,93,32,38,38,32,97,108,108,32,120,58,32,65,32,124,32,112,91,93])) 60 true,za 66 60 65,zm 7 66]) (.seq (.region [1,2,6,7,8] [zL 67 5 2,zc 68 14 [.t 67],zo 69 (.bin .eql (.t 68) (zS [110,111,116,32,40,116,114,117,101,32,38,38,32,102,97,108,115,101,41])),zm 70 69,zg 71 (.load (some 5) (.t 3)) 70 true,zg 72 (.call (.c (.fn 14 [] [])) [.t 71]) 70 true,zg 73 (.bin .eql
  (.t 72) (zS [97,32,45,32,40,98,32,45,32,99,41])) 70 true,za 74 70 73,zm 75 74,zg 76 (.load (some 5) (.t 4)) 75 true,zg 77 (.call (.c (.fn 14 [] [])) [.t 76]) 75 true,zg 78 (.bin .eql (.t 77) (zS [40,97,46,126,98,41,39])) 75 true,za 79 75 78,zm 80 79,zg 81 (.load (some 5) (.t 5)) 80 true,zg 82 (.call (.c (.fn 14 [] [])) [.t 81]) 80 true,zg 83 (.bin .eql (.t 82) (zS
  [45,51,32,60,32,35,40,97,32,43,32,110,111,110,101,91,50,93,41])) 80 true,za 84 80 83,zm 8 84]) (.seq (.region [1,2,6,7,8,9] [zL 85 4 6,zc 86 17 [.t 85],zo 87 (.bin .eql (.t 86) (zS
  [115,111,114,116,32,65,32,111,114,100,101,114,101,100,59,10,115,111,114,116,32,66,59,10,118,97,114,32,102,105,101,108,100,32,102,58,32,65,32,45,62,32,66,59,10,112,114,101,100,32,112,91,120,58,32,66,93,32,123,32,45,51,32,60,32,35,40,97,32,43,32,110,111,110,101,91,50,93,41,32,125,10,102,97,99,116,32,113,32,123,32,40,97,108,108,32,120,58,32,65,32,124,32,112,91,93,41,32,38,38,32,
  113,91,93,32,125,10])),zm 9 87]) (.seq (.draw [0] [(8,9),(8,10),(16,17),(22,23)] [zm 88 7,zm 89 88,zg 90 (.move (.t 8)) 89 true,za 91 89 90,zm 92 91,zg 93 (.move (.t 9)) 92 true,za 94 92 93,zm 95 94,zg 96 (.load (some 5) (.t 1)) 95 true,zg 97 (.call (.c (.fn 21 [] [])) [zS [65]]) 95 true,zg 98 (.call (.c (.fn 22 [] [])) [zS [112]]) 95 true,zg 99 (.bslice 24 5 2 (.agg
  [.int .i64 0,.str [],.int .i64 0,.nils,.int .i64 0]) [(0,(.t 97)),(1,(.t 98))]) 95 true,zg 100 (.build [.int .i64 0,.str [],.int .i64 0,.nils,.int .i64 0] [(0,1,(zI 45)),(1,1,(zS [120])),(4,1,(zI 7)),(3,1,(.t 99))]) 95 true,zg 101 (.call (.c (.fn 9 [] [])) [.t 96,.t 100]) 95 true,za 102 95 101,zm 103 102,zg 104 (.load (some 5) (.t 1)) 103 true,zg 105 (.load (some 5)
  (.t 2)) 103 true,zg 106 (.call (.c (.fn 9 [] [])) [.t 104,.t 105]) 103 true,zg 107 (.un .not (.t 106)) 103 true,za 108 103 107,zm 109 108,zg 110 (.load (some 4) (.t 6)) 109 true,zg 111 (.load (some 4) (.t 6)) 109 true,zg 112 (.call (.c (.fn 11 [] [])) [.t 110,.t 111]) 109 true,za 113 109 112,zm 114 113,zg 115 (.load (some 4) (.t 6)) 114 true,zg 116 (.build
  [.nils,.nils,.nils,.nils] []) 114 true,zg 117 (.call (.c (.fn 11 [] [])) [.t 115,.t 116]) 114 true,zg 118 (.un .not (.t 117)) 114 true,za 119 114 118,zm 0 119]) .ret)))))))))))
theorem ok6:FOk Tryd.prog 6 fc6:=FOk.of Tryd.func6 (by kernel_rfl)
def fc9:FC where
 nt:=31
 np:=2
 res:=[.t 4]
 body:=(.seq (.region [2,3] [zo 2 (.box (.t 0)),zo 3 (.box (.t 1)),zo 4 (.move (zB false))]) (.seq (.region [4] [zf 5 2 0,zl 6 5,zf 7 3 0,zl 8 7,zo 9 (.bin .eql (.t 6) (.t 8)),zm 10 9,zg 11 (.faddr (.t 2) 1) 10 true,zg 12 (.load none (.t 11)) 10 true,zg 13 (.faddr (.t 3) 1) 10 true,zg 14 (.load none (.t 13)) 10 true,zg 15 (.bin .eql (.t 12) (.t 14)) 10 true,za 16 10 15,
  zm 17 16,zg 18 (.faddr (.t 2) 2) 17 true,zg 19 (.load none (.t 18)) 17 true,zg 20 (.faddr (.t 3) 2) 17 true,zg 21 (.load none (.t 20)) 17 true,zg 22 (.bin .eql (.t 19) (.t 21)) 17 true,za 23 17 22,zm 24 23,zg 25 (.faddr (.t 2) 3) 24 true,zg 26 (.load none (.t 25)) 24 true,zg 27 (.faddr (.t 3) 3) 24 true,zg 28 (.load none (.t 27)) 24 true,zg 29 (.call (.c (.fn 25 [] []))
  [.t 26,.t 28,(.c (.fn 9 [] []))]) 24 true,za 30 24 29,zm 4 30]) .ret))
theorem ok9:FOk Tryd.prog 9 fc9:=FOk.of Tryd.func9 (by kernel_rfl)
def fc11:FC where
 nt:=37
 np:=2
 res:=[.t 4]
 body:=(.seq (.region [2,3] [zo 2 (.box (.t 0)),zo 3 (.box (.t 1)),zo 4 (.move (zB false))]) (.seq (.region [2,3,5] [zo 5 (.move (.c (.fn 26 [] [])))]) (.seq (.region [2,3,5,6] [zo 6 (.move (.c (.fn 28 [] [])))]) (.seq (.region [2,3,5,6,7] [zo 7 (.move (.c (.fn 30 [] [])))]) (.seq (.region [4] [zf 8 2 0,zl 9 8,zf 10 3 0,zl 11 10,zc 12 31 [.t 9,.t 11],zm 13 12,zg 14 (.faddr
  (.t 2) 1) 13 true,zg 15 (.load none (.t 14)) 13 true,zg 16 (.faddr (.t 3) 1) 13 true,zg 17 (.load none (.t 16)) 13 true,zg 18 (.move (.t 5)) 13 true,zg 19 (.call (.c (.fn 32 [] [])) [.t 15,.t 17,.t 18]) 13 true,za 20 13 19,zm 21 20,zg 22 (.faddr (.t 2) 2) 21 true,zg 23 (.load none (.t 22)) 21 true,zg 24 (.faddr (.t 3) 2) 21 true,zg 25 (.load none (.t 24)) 21 true,zg 26 (.move
  (.t 6)) 21 true,zg 27 (.call (.c (.fn 33 [] [])) [.t 23,.t 25,.t 26]) 21 true,za 28 21 27,zm 29 28,zg 30 (.faddr (.t 2) 3) 29 true,zg 31 (.load none (.t 30)) 29 true,zg 32 (.faddr (.t 3) 3) 29 true,zg 33 (.load none (.t 32)) 29 true,zg 34 (.move (.t 7)) 29 true,zg 35 (.call (.c (.fn 34 [] [])) [.t 31,.t 33,.t 34]) 29 true,za 36 29 35,zm 4 36]) .ret)))))
theorem ok11:FOk Tryd.prog 11 fc11:=FOk.of Tryd.func11 (by kernel_rfl)
def fc13:FC where
 nt:=10
 np:=1
 res:=[.t 2]
 body:=(.seq (.region [1] [zo 1 (.box (.t 0)),zo 2 (.move (zB false))]) (.seq (.region [2] [zL 3 5 1,zc 4 37 [.t 3,zI 400],zo 5 (.bin .leq (.t 4) (zI 400)),zm 6 5,zg 7 (.load (some 5) (.t 1)) 6 true,zg 8 (.call (.c (.fn 38 [] [])) [.t 7,zI 24]) 6 true,za 9 6 8,zm 2 9]) .ret))
theorem ok13:FOk Tryd.prog 13 fc13:=FOk.of Tryd.func13 (by kernel_rfl)
def fc14:FC where
 nt:=12
 np:=1
 res:=[.t 2]
 body:=(.seq (.region [1] [zo 1 (.box (.t 0)),zo 2 (.move (zS []))]) (.seq (.region [1,3] [zc 4 39 [],zm 3 4]) (.seq (.tokb 3 1 5 1) (.seq (.region [3] [zm 5 3,zL 6 5 1,zc 7 40 [.t 5,.t 6,zB true]]) (.seq (.region [2] [zm 8 3,zn 9 8,zf 10 9 0,zc 11 41 [.t 10],zm 2 11]) .ret)))))
theorem ok14:FOk Tryd.prog 14 fc14:=FOk.of Tryd.func14 (by kernel_rfl)
def fc17_b0:SC:=
 (.loc (.seq (.region [1,3,4,16,17,18,19] [zo 19 (.bin .lss (.t 18) (.t 17))]) (.seq (.cond (.t 19) .skip (.exit 0)) (.seq (.block 1 (.seq (.region [1,3,4,6,16,17,18] [zo 20 (.iaddr none 2 (.t 16) (.t 18)),zL 21 2 20,zo 6 (.alloc [.str [],.bool false]),zs 2 6 21]) (.seq (.draw [1,3,4,6,16,17,18] [(0,4)] [zl 22 3,zn 23 22,zf 24 23 0,zf 25 6 0,zl 26 25,zo 27 (.bin .add (zS
 [115,111,114,116,32]) (.t 26)),zc 28 49 [.t 24,.t 27]]) (.seq (.seq (.region [1,3,4,16,17,18,30] [zf 29 6 1,zl 30 29]) (.cond (.t 30) (.region [1,3,4,16,17,18] [zl 31 3,zn 32 31,zf 33 32 0,zc 34 49 [.t 33,zS [32,111,114,100,101,114,101,100]]]) .skip)) (.region [1,3,4,16,17,18] [zl 35 3,zn 36 35,zf 37 36 0,zc 38 49 [.t 37,zS [59,10]]]))))) (.region [1,3,4,16,17,18] [zo 39
 (.bin .add (.t 18) (zI 1)),zm 18 39])))))
def fc17_b1:SC:=
 (.loc (.seq (.region [1,3,4,41,42,43,44] [zo 44 (.bin .lss (.t 43) (.t 42))]) (.seq (.cond (.t 44) .skip (.exit 2)) (.seq (.block 3 (.seq (.region [1,3,4,8,41,42,43] [zo 45 (.iaddr none 3 (.t 41) (.t 43)),zL 46 3 45,zo 8 (.alloc [.str [],.nils,.bool false]),zs 3 8 46]) (.seq (.seq (.region [1,3,4,8,41,42,43,48] [zf 47 8 2,zl 48 47]) (.cond (.t 48) (.region [1,3,4,8,41,42,43]
 [zl 49 3,zn 50 49,zf 51 50 0,zc 52 49 [.t 51,zS [118,97,114,32]]]) .skip)) (.seq (.draw [1,3,4,8,41,42,43] [(0,4)] [zl 53 3,zn 54 53,zf 55 54 0,zf 56 8 0,zl 57 56,zo 58 (.bin .add (zS [102,105,101,108,100,32]) (.t 57)),zo 59 (.bin .add (.t 58) (zS [58,32])),zc 60 49 [.t 55,.t 59]]) (.seq (.region [1,3,4,41,42,43] [zl 61 3,zf 62 8 1,zl 63 62,zo 64 (.mkfn 51 [] [.t 3,.t 4]),
 zc 65 50 [.t 61,.t 63,zS [32,45,62,32],.t 64]]) (.region [1,3,4,41,42,43] [zl 66 3,zn 67 66,zf 68 67 0,zc 69 49 [.t 68,zS [59,10]]])))))) (.region [1,3,4,41,42,43] [zo 70 (.bin .add (.t 43) (zI 1)),zm 43 70])))))
def fc17_b2:SC:=
 (.loc (.seq (.region [1,3,4,72,73,74,75] [zo 75 (.bin .lss (.t 74) (.t 73))]) (.seq (.cond (.t 75) .skip (.exit 4)) (.seq (.block 5 (.seq (.region [1,3,4,10,72,73,74] [zo 76 (.iaddr none 7 (.t 72) (.t 74)),zL 77 7 76,zo 10 (.alloc [.str [],.nils,.int .i64 0,.str [],.int .i64 0,.nils,.int .i64 0]),zs 7 10 77]) (.seq (.draw [1,3,4,10,72,73,74] [(0,4)] [zl 78 3,zn 79 78,
 zf 80 79 0,zf 81 10 0,zl 82 81,zo 83 (.bin .add (zS [112,114,101,100,32]) (.t 82)),zo 84 (.bin .add (.t 83) (zS [91])),zc 85 49 [.t 80,.t 84]]) (.seq (.region [1,3,4,10,72,73,74] [zl 86 3,zf 87 10 1,zl 88 87,zo 89 (.mkfn 53 [] [.t 3,.t 4]),zc 90 52 [.t 86,.t 88,zS [44,32],.t 89]]) (.draw [1,3,4,72,73,74] [(0,4),(0,5)] [zl 91 3,zn 92 91,zf 93 92 0,zf 94 10 2,zL 95 5 94,
 zc 96 14 [.t 95],zo 97 (.bin .add (zS [93,32,123,32]) (.t 96)),zo 98 (.bin .add (.t 97) (zS [32,125,10])),zc 99 49 [.t 93,.t 98]]))))) (.region [1,3,4,72,73,74] [zo 100 (.bin .add (.t 74) (zI 1)),zm 74 100])))))
def fc17_b3:SC:=
 (.loc (.seq (.region [3,102,103,104,105] [zo 105 (.bin .lss (.t 104) (.t 103))]) (.seq (.cond (.t 105) .skip (.exit 6)) (.seq (.block 7 (.seq (.region [3,12,102,103,104] [zo 106 (.iaddr none 6 (.t 102) (.t 104)),zL 107 6 106,zo 12 (.alloc [.str [],.int .i64 0,.str [],.int .i64 0,.nils,.int .i64 0]),zs 6 12 107]) (.draw [3,102,103,104] [(0,4),(0,8),(4,8),(0,9),(4,9)] [zl 108 3,
 zn 109 108,zf 110 109 0,zf 111 12 0,zl 112 111,zo 113 (.bin .add (zS [102,97,99,116,32]) (.t 112)),zo 114 (.bin .add (.t 113) (zS [32,123,32])),zf 115 12 1,zL 116 5 115,zc 117 14 [.t 116],zo 118 (.bin .add (.t 114) (.t 117)),zo 119 (.bin .add (.t 118) (zS [32,125,10])),zc 120 49 [.t 110,.t 119]]))) (.region [3,102,103,104] [zo 121 (.bin .add (.t 104) (zI 1)),zm 104 121])))))
def fc17:FC where
 nt:=126
 np:=1
 res:=[.t 2]
 body:=(.seq (.region [1] [zo 1 (.box (.t 0)),zo 2 (.move (zS []))]) (.seq (.region [1,3,13] [zc 13 39 [],zo 3 (.alloc [.nilp]),zs 1 3 13]) (.seq (.tokb 13 1 5 1) (.seq (.region [1,3,4] [zo 14 (.mkfn 48 [] [.t 1]),zo 4 (.alloc [.nilf]),zs 1 4 14]) (.seq (.seq (.region [1,3,4,16,17,18] [zf 15 1 0,zl 16 15,ze 17 1 16,zi 18 0]) (.block 0 (.loop [1,3,4,16,17,18] fc17_b0))) (.seq
  (.seq (.region [1,3,4,41,42,43] [zf 40 1 1,zl 41 40,ze 42 1 41,zi 43 0]) (.block 2 (.loop [1,3,4,41,42,43] fc17_b1))) (.seq (.seq (.region [1,3,4,72,73,74] [zf 71 1 2,zl 72 71,ze 73 1 72,zi 74 0]) (.block 4 (.loop [1,3,4,72,73,74] fc17_b2))) (.seq (.seq (.region [3,102,103,104] [zf 101 1 3,zl 102 101,ze 103 1 102,zi 104 0]) (.block 6 (.loop [3,102,103,104] fc17_b3))) (.seq
  (.region [2] [zl 122 3,zn 123 122,zf 124 123 0,zc 125 41 [.t 124],zm 2 125]) .ret)))))))))
theorem ok17:FOk Tryd.prog 17 fc17:=FOk.of Tryd.func17 (by kernel_rfl)
def fc19:FC where
 nt:=13
 np:=1
 res:=[.t 2]
 body:=(.seq (.region [1] [zo 1 (.box (.t 0)),zo 2 (.move (zB false))]) (.seq (.region [1,3] [zL 4 5 1,zc 5 13 [.t 4],zm 3 5]) (.seq (.region [2] [zm 6 3,zm 7 6,zg 8 (.faddr (.t 1) 0) 7 true,zg 9 (.load none (.t 8)) 7 true,zg 10 (.call (.c (.fn 56 [] [])) [.t 9]) 7 true,zg 11 (.bin .eql (.t 10) (.c (.p (.int .u8 102)))) 7 true,za 12 7 11,zm 2 12]) .ret)))
theorem ok19:FOk Tryd.prog 19 fc19:=FOk.of Tryd.func19 (by kernel_rfl)
def fc21:FC where
 nt:=5
 np:=1
 res:=[.cell 2 (some 5)]
 body:=(.seq (.region [0,2] [zo 2 (.alloc [.int .i64 0,.str [],.int .i64 0,.nils,.int .i64 0])]) (.seq (.region [2] [zm 3 0,zo 4 (.build [.int .i64 0,.str [],.int .i64 0,.nils,.int .i64 0] [(0,1,(zI 1)),(1,1,(.t 3))]),zs 5 2 4]) .ret))
theorem ok21:FOk Tryd.prog 21 fc21:=FOk.of Tryd.func21 (by kernel_rfl)
def fc22:FC where
 nt:=5
 np:=1
 res:=[.cell 2 (some 5)]
 body:=(.seq (.region [0,2] [zo 2 (.alloc [.int .i64 0,.str [],.int .i64 0,.nils,.int .i64 0])]) (.seq (.region [2] [zm 3 0,zo 4 (.build [.int .i64 0,.str [],.int .i64 0,.nils,.int .i64 0] [(0,1,(zI 47)),(1,1,(.t 3))]),zs 5 2 4]) .ret))
theorem ok22:FOk Tryd.prog 22 fc22:=FOk.of Tryd.func22 (by kernel_rfl)
def fc23:FC where
 nt:=12
 np:=3
 res:=[.cell 6 (some 5)]
 body:=(.seq (.region [0,4,5,6] [zo 4 (.box (.t 1)),zo 5 (.box (.t 2)),zo 6 (.alloc [.int .i64 0,.str [],.int .i64 0,.nils,.int .i64 0])]) (.seq (.region [6] [zm 7 0,zL 8 5 4,zL 9 5 5,zo 10 (.bslice 24 5 2 (.agg [.int .i64 0,.str [],.int .i64 0,.nils,.int .i64 0]) [(0,(.t 8)),(1,(.t 9))]),zo 11 (.build [.int .i64 0,.str [],.int .i64 0,.nils,.int .i64 0]
  [(0,1,(.t 7)),(3,1,(.t 10))]),zs 5 6 11]) .ret))
theorem ok23:FOk Tryd.prog 23 fc23:=FOk.of Tryd.func23 (by kernel_rfl)
def fc25_b0:SC:=
 (.loc (.seq (.region [1,2,15,16,17,18] [zo 18 (.bin .lss (.t 17) (.t 16))]) (.seq (.cond (.t 18) .skip (.exit 0)) (.seq (.block 1 (.seq (.region [1,2,7,8,15,16,17] [zm 19 17,zo 20 (.iaddr none 5 (.t 15) (.t 17)),zL 21 5 20,zo 8 (.alloc [.int .i64 0,.str [],.int .i64 0,.nils,.int .i64 0]),zm 7 19,zs 5 8 21]) (.seq (.region [1,2,8,9,15,16,17] [zm 22 1,zm 23 7,zo 24
 (.iaddr none 5 (.t 22) (.t 23)),zL 25 5 24,zo 9 (.alloc [.int .i64 0,.str [],.int .i64 0,.nils,.int .i64 0]),zs 5 9 25]) (.seq (.region [1,2,15,16,17,30] [zm 26 2,zL 27 5 8,zL 28 5 9,zo 29 (.call (.t 26) [.t 27,.t 28]),zo 30 (.un .not (.t 29))]) (.cond (.t 30) (.seq (.region [6] [zo 6 (.move (zB false))]) .ret) .skip))))) (.region [1,2,15,16,17] [zo 31 (.bin .add (.t 17) (zI 1)),zm 17 31])))))
def fc25:FC where
 nt:=32
 np:=3
 res:=[.t 6]
 body:=(.seq (.region [0,1,2] [zo 6 (.move (zB false))]) (.seq (.seq (.region [0,1,2,14] [zm 10 0,ze 11 1 10,zm 12 1,ze 13 1 12,zo 14 (.bin .neq (.t 11) (.t 13))]) (.cond (.t 14) (.seq (.region [6] [zo 6 (.move (zB false))]) .ret) .skip)) (.seq (.seq (.region [1,2,15,16,17] [zm 15 0,ze 16 1 15,zi 17 0]) (.block 0 (.loop [1,2,15,16,17] fc25_b0))) (.seq (.region [6] [zo 6
  (.move (zB true))]) .ret))))
theorem ok25:FOk Tryd.prog 25 fc25:=FOk.of Tryd.func25 (by kernel_rfl)
def fc26:FC where
 nt:=24
 np:=2
 res:=[.t 4]
 body:=(.seq (.region [2,3] [zo 2 (.box (.t 0)),zo 3 (.box (.t 1)),zo 4 (.move (zB false))]) (.seq (.region [4] [zf 5 2 0,zl 6 5,zf 7 3 0,zl 8 7,zo 9 (.bin .eql (.t 6) (.t 8)),zm 10 9,zg 11 (.faddr (.t 2) 2) 10 true,zg 12 (.load none (.t 11)) 10 true,zg 13 (.faddr (.t 3) 2) 10 true,zg 14 (.load none (.t 13)) 10 true,zg 15 (.eqk 0 false (.t 12) (.t 14)) 10 true,za 16 10 15,
  zm 17 16,zg 18 (.faddr (.t 2) 1) 17 true,zg 19 (.load none (.t 18)) 17 true,zg 20 (.faddr (.t 3) 1) 17 true,zg 21 (.load none (.t 20)) 17 true,zg 22 (.call (.c (.fn 27 [] [])) [.t 19,.t 21]) 17 true,za 23 17 22,zm 4 23]) .ret))
theorem ok26:FOk Tryd.prog 26 fc26:=FOk.of Tryd.func26 (by kernel_rfl)
def fc27_b0:SC:=
 (.seq (.region [0,1,12,13,14] [zo 14 (.bin .lss (.t 13) (.t 12))]) (.seq (.cond (.t 14) .skip (.exit 0)) (.seq (.block 1 (.seq (.region [0,1,5,12,13] [zm 15 13,zm 5 15]) (.seq (.draw [0,1,12,13,24] [(3,7)] [zm 16 0,zm 17 5,zo 18 (.iaddr none 1 (.t 16) (.t 17)),zl 19 18,zm 20 1,zm 21 5,zo 22 (.iaddr none 1 (.t 20) (.t 21)),zl 23 22,zo 24 (.bin .neq (.t 19) (.t 23))]) (.cond
 (.t 24) (.seq (.region [4] [zo 4 (.move (zB false))]) .ret) .skip)))) (.region [0,1,12,13] [zo 25 (.bin .add (.t 13) (zI 1)),zm 13 25]))))
def fc27:FC where
 nt:=26
 np:=2
 res:=[.t 4]
 body:=(.seq (.region [0,1] [zo 4 (.move (zB false))]) (.seq (.seq (.region [0,1,10] [zm 6 0,ze 7 1 6,zm 8 1,ze 9 1 8,zo 10 (.bin .neq (.t 7) (.t 9))]) (.cond (.t 10) (.seq (.region [4] [zo 4 (.move (zB false))]) .ret) .skip)) (.seq (.seq (.region [0,1,12,13] [zm 11 0,ze 12 1 11,zi 13 0]) (.block 0 (.loop [0,1,12,13] fc27_b0))) (.seq (.region [4] [zo 4 (.move (zB true))]) .ret))))
theorem ok27:FOk Tryd.prog 27 fc27:=FOk.of Tryd.func27 (by kernel_rfl)
def fc28:FC where
 nt:=24
 np:=2
 res:=[.t 4]
 body:=(.seq (.region [2,3] [zo 2 (.box (.t 0)),zo 3 (.box (.t 1)),zo 4 (.move (zB false))]) (.seq (.region [4] [zf 5 2 0,zl 6 5,zf 7 3 0,zl 8 7,zo 9 (.bin .eql (.t 6) (.t 8)),zm 10 9,zg 11 (.faddr (.t 2) 1) 10 true,zg 12 (.load none (.t 11)) 10 true,zg 13 (.faddr (.t 3) 1) 10 true,zg 14 (.load none (.t 13)) 10 true,zg 15 (.call (.c (.fn 29 [] [])) [.t 12,.t 14]) 10 true,
  za 16 10 15,zm 17 16,zg 18 (.faddr (.t 2) 2) 17 true,zg 19 (.load (some 5) (.t 18)) 17 true,zg 20 (.faddr (.t 3) 2) 17 true,zg 21 (.load (some 5) (.t 20)) 17 true,zg 22 (.call (.c (.fn 9 [] [])) [.t 19,.t 21]) 17 true,za 23 17 22,zm 4 23]) .ret))
theorem ok28:FOk Tryd.prog 28 fc28:=FOk.of Tryd.func28 (by kernel_rfl)
def fc29_b0:SC:=
 (.seq (.region [0,1,12,13,14] [zo 14 (.bin .lss (.t 13) (.t 12))]) (.seq (.cond (.t 14) .skip (.exit 0)) (.seq (.block 1 (.seq (.region [0,1,5,12,13] [zm 15 13,zm 5 15]) (.seq (.draw [0,1,12,13,24] [(3,7)] [zm 16 0,zm 17 5,zo 18 (.iaddr none 2 (.t 16) (.t 17)),zL 19 2 18,zm 20 1,zm 21 5,zo 22 (.iaddr none 2 (.t 20) (.t 21)),zL 23 2 22,zo 24 (.eqs true [2,1] (.t 19) (.t 23))])
 (.cond (.t 24) (.seq (.region [4] [zo 4 (.move (zB false))]) .ret) .skip)))) (.region [0,1,12,13] [zo 25 (.bin .add (.t 13) (zI 1)),zm 13 25]))))
def fc29:FC where
 nt:=26
 np:=2
 res:=[.t 4]
 body:=(.seq (.region [0,1] [zo 4 (.move (zB false))]) (.seq (.seq (.region [0,1,10] [zm 6 0,ze 7 1 6,zm 8 1,ze 9 1 8,zo 10 (.bin .neq (.t 7) (.t 9))]) (.cond (.t 10) (.seq (.region [4] [zo 4 (.move (zB false))]) .ret) .skip)) (.seq (.seq (.region [0,1,12,13] [zm 11 0,ze 12 1 11,zi 13 0]) (.block 0 (.loop [0,1,12,13] fc29_b0))) (.seq (.region [4] [zo 4 (.move (zB true))]) .ret))))
theorem ok29:FOk Tryd.prog 29 fc29:=FOk.of Tryd.func29 (by kernel_rfl)
def fc30:FC where
 nt:=17
 np:=2
 res:=[.t 4]
 body:=(.seq (.region [2,3] [zo 2 (.box (.t 0)),zo 3 (.box (.t 1)),zo 4 (.move (zB false))]) (.seq (.region [4] [zf 5 2 0,zl 6 5,zf 7 3 0,zl 8 7,zo 9 (.bin .eql (.t 6) (.t 8)),zm 10 9,zg 11 (.faddr (.t 2) 1) 10 true,zg 12 (.load (some 5) (.t 11)) 10 true,zg 13 (.faddr (.t 3) 1) 10 true,zg 14 (.load (some 5) (.t 13)) 10 true,zg 15 (.call (.c (.fn 9 [] []))
  [.t 12,.t 14]) 10 true,za 16 10 15,zm 4 16]) .ret))
theorem ok30:FOk Tryd.prog 30 fc30:=FOk.of Tryd.func30 (by kernel_rfl)
def fc31_b0:SC:=
 (.seq (.region [0,1,12,13,14] [zo 14 (.bin .lss (.t 13) (.t 12))]) (.seq (.cond (.t 14) .skip (.exit 0)) (.seq (.block 1 (.seq (.region [0,1,5,12,13] [zm 15 13,zm 5 15]) (.seq (.draw [0,1,12,13,24] [(3,7)] [zm 16 0,zm 17 5,zo 18 (.iaddr none 2 (.t 16) (.t 17)),zL 19 2 18,zm 20 1,zm 21 5,zo 22 (.iaddr none 2 (.t 20) (.t 21)),zL 23 2 22,zo 24 (.eqs true [2,0] (.t 19) (.t 23))])
 (.cond (.t 24) (.seq (.region [4] [zo 4 (.move (zB false))]) .ret) .skip)))) (.region [0,1,12,13] [zo 25 (.bin .add (.t 13) (zI 1)),zm 13 25]))))
def fc31:FC where
 nt:=26
 np:=2
 res:=[.t 4]
 body:=(.seq (.region [0,1] [zo 4 (.move (zB false))]) (.seq (.seq (.region [0,1,10] [zm 6 0,ze 7 1 6,zm 8 1,ze 9 1 8,zo 10 (.bin .neq (.t 7) (.t 9))]) (.cond (.t 10) (.seq (.region [4] [zo 4 (.move (zB false))]) .ret) .skip)) (.seq (.seq (.region [0,1,12,13] [zm 11 0,ze 12 1 11,zi 13 0]) (.block 0 (.loop [0,1,12,13] fc31_b0))) (.seq (.region [4] [zo 4 (.move (zB true))]) .ret))))
theorem ok31:FOk Tryd.prog 31 fc31:=FOk.of Tryd.func31 (by kernel_rfl)
def fc32_b0:SC:=
 (.loc (.seq (.region [1,2,15,16,17,18] [zo 18 (.bin .lss (.t 17) (.t 16))]) (.seq (.cond (.t 18) .skip (.exit 0)) (.seq (.block 1 (.seq (.region [1,2,7,8,15,16,17] [zm 19 17,zo 20 (.iaddr none 3 (.t 15) (.t 17)),zL 21 3 20,zo 8 (.alloc [.str [],.nils,.bool false]),zm 7 19,zs 3 8 21]) (.seq (.region [1,2,8,9,15,16,17] [zm 22 1,zm 23 7,zo 24 (.iaddr none 3 (.t 22) (.t 23)),
 zL 25 3 24,zo 9 (.alloc [.str [],.nils,.bool false]),zs 3 9 25]) (.seq (.region [1,2,15,16,17,30] [zm 26 2,zL 27 3 8,zL 28 3 9,zo 29 (.call (.t 26) [.t 27,.t 28]),zo 30 (.un .not (.t 29))]) (.cond (.t 30) (.seq (.region [6] [zo 6 (.move (zB false))]) .ret) .skip))))) (.region [1,2,15,16,17] [zo 31 (.bin .add (.t 17) (zI 1)),zm 17 31])))))
def fc32:FC where
 nt:=32
 np:=3
 res:=[.t 6]
 body:=(.seq (.region [0,1,2] [zo 6 (.move (zB false))]) (.seq (.seq (.region [0,1,2,14] [zm 10 0,ze 11 1 10,zm 12 1,ze 13 1 12,zo 14 (.bin .neq (.t 11) (.t 13))]) (.cond (.t 14) (.seq (.region [6] [zo 6 (.move (zB false))]) .ret) .skip)) (.seq (.seq (.region [1,2,15,16,17] [zm 15 0,ze 16 1 15,zi 17 0]) (.block 0 (.loop [1,2,15,16,17] fc32_b0))) (.seq (.region [6] [zo 6
  (.move (zB true))]) .ret))))
theorem ok32:FOk Tryd.prog 32 fc32:=FOk.of Tryd.func32 (by kernel_rfl)
def fc33_b0:SC:=
 (.loc (.seq (.region [1,2,15,16,17,18] [zo 18 (.bin .lss (.t 17) (.t 16))]) (.seq (.cond (.t 18) .skip (.exit 0)) (.seq (.block 1 (.seq (.region [1,2,7,8,15,16,17] [zm 19 17,zo 20 (.iaddr none 7 (.t 15) (.t 17)),zL 21 7 20,zo 8 (.alloc [.str [],.nils,.int .i64 0,.str [],.int .i64 0,.nils,.int .i64 0]),zm 7 19,zs 7 8 21]) (.seq (.region [1,2,8,9,15,16,17] [zm 22 1,zm 23 7,
 zo 24 (.iaddr none 7 (.t 22) (.t 23)),zL 25 7 24,zo 9 (.alloc [.str [],.nils,.int .i64 0,.str [],.int .i64 0,.nils,.int .i64 0]),zs 7 9 25]) (.seq (.region [1,2,15,16,17,30] [zm 26 2,zL 27 7 8,zL 28 7 9,zo 29 (.call (.t 26) [.t 27,.t 28]),zo 30 (.un .not (.t 29))]) (.cond (.t 30) (.seq (.region [6] [zo 6 (.move (zB false))]) .ret) .skip))))) (.region [1,2,15,16,17] [zo 31
 (.bin .add (.t 17) (zI 1)),zm 17 31])))))
def fc33:FC where
 nt:=32
 np:=3
 res:=[.t 6]
 body:=(.seq (.region [0,1,2] [zo 6 (.move (zB false))]) (.seq (.seq (.region [0,1,2,14] [zm 10 0,ze 11 1 10,zm 12 1,ze 13 1 12,zo 14 (.bin .neq (.t 11) (.t 13))]) (.cond (.t 14) (.seq (.region [6] [zo 6 (.move (zB false))]) .ret) .skip)) (.seq (.seq (.region [1,2,15,16,17] [zm 15 0,ze 16 1 15,zi 17 0]) (.block 0 (.loop [1,2,15,16,17] fc33_b0))) (.seq (.region [6] [zo 6
  (.move (zB true))]) .ret))))
theorem ok33:FOk Tryd.prog 33 fc33:=FOk.of Tryd.func33 (by kernel_rfl)
def fc34_b0:SC:=
 (.loc (.seq (.region [1,2,15,16,17,18] [zo 18 (.bin .lss (.t 17) (.t 16))]) (.seq (.cond (.t 18) .skip (.exit 0)) (.seq (.block 1 (.seq (.region [1,2,7,8,15,16,17] [zm 19 17,zo 20 (.iaddr none 6 (.t 15) (.t 17)),zL 21 6 20,zo 8 (.alloc [.str [],.int .i64 0,.str [],.int .i64 0,.nils,.int .i64 0]),zm 7 19,zs 6 8 21]) (.seq (.region [1,2,8,9,15,16,17] [zm 22 1,zm 23 7,zo 24
 (.iaddr none 6 (.t 22) (.t 23)),zL 25 6 24,zo 9 (.alloc [.str [],.int .i64 0,.str [],.int .i64 0,.nils,.int .i64 0]),zs 6 9 25]) (.seq (.region [1,2,15,16,17,30] [zm 26 2,zL 27 6 8,zL 28 6 9,zo 29 (.call (.t 26) [.t 27,.t 28]),zo 30 (.un .not (.t 29))]) (.cond (.t 30) (.seq (.region [6] [zo 6 (.move (zB false))]) .ret) .skip))))) (.region [1,2,15,16,17] [zo 31 (.bin .add
 (.t 17) (zI 1)),zm 17 31])))))
def fc34:FC where
 nt:=32
 np:=3
 res:=[.t 6]
 body:=(.seq (.region [0,1,2] [zo 6 (.move (zB false))]) (.seq (.seq (.region [0,1,2,14] [zm 10 0,ze 11 1 10,zm 12 1,ze 13 1 12,zo 14 (.bin .neq (.t 11) (.t 13))]) (.cond (.t 14) (.seq (.region [6] [zo 6 (.move (zB false))]) .ret) .skip)) (.seq (.seq (.region [1,2,15,16,17] [zm 15 0,ze 16 1 15,zi 17 0]) (.block 0 (.loop [1,2,15,16,17] fc34_b0))) (.seq (.region [6] [zo 6
  (.move (zB true))]) .ret))))
theorem ok34:FOk Tryd.prog 34 fc34:=FOk.of Tryd.func34 (by kernel_rfl)
def fc37_b0:SC:=
 (.loc (.seq (.seq (.region [1,2,5,6,16] [zm 7 6,zf 8 2 3,zl 9 8,ze 10 1 9,zo 11 (.bin .lss (.t 7) (.t 10)),zm 12 11,zg 13 (.move (.t 5)) 12 true,zg 14 (.move (.t 1)) 12 true,zg 15 (.bin .leq (.t 13) (.t 14)) 12 true,za 16 12 15]) (.cond (.t 16) .skip (.exit 0))) (.seq (.block 1 (.region [1,2,5,6] [zm 19 5,zf 20 2 3,zl 21 20,zm 22 6,zo 23 (.iaddr none 5 (.t 21) (.t 22)),
 zL 24 5 23,zm 25 1,zm 26 5,zo 27 (.bin .sub (.t 25) (.t 26)),zc 28 37 [.t 24,.t 27],zo 29 (.bin .add (.t 19) (.t 28)),zm 5 29])) (.region [1,2,5,6] [zm 17 6,zo 18 (.bin .add (.t 17) (zI 1)),zm 6 18]))))
def fc37:FC where
 nt:=31
 np:=2
 res:=[.t 4]
 body:=(.seq (.region [1,2] [zo 2 (.box (.t 0)),zi 4 0]) (.seq (.region [1,2,5] [zi 5 1]) (.seq (.seq (.region [1,2,5,6] [zi 6 0]) (.block 0 (.loop [1,2,5,6] fc37_b0))) (.seq (.region [4] [zm 30 5,zm 4 30]) .ret))))
theorem ok37:FOk Tryd.prog 37 fc37:=FOk.of Tryd.func37 (by kernel_rfl)
def fc38_b0:SC:=
 (.loc (.seq (.seq (.region [1,2,5,25] [zm 21 5,zf 22 2 3,zl 23 22,ze 24 1 23,zo 25 (.bin .lss (.t 21) (.t 24))]) (.cond (.t 25) .skip (.exit 0))) (.seq (.block 1 (.seq (.region [1,2,5,36] [zf 28 2 3,zl 29 28,zm 30 5,zo 31 (.iaddr none 5 (.t 29) (.t 30)),zL 32 5 31,zm 33 1,zo 34 (.bin .sub (.t 33) (zI 1)),zc 35 38 [.t 32,.t 34],zo 36 (.un .not (.t 35))]) (.cond (.t 36) (.seq
 (.region [4] [zo 4 (.move (zB false))]) .ret) .skip))) (.region [1,2,5] [zm 26 5,zo 27 (.bin .add (.t 26) (zI 1)),zm 5 27]))))
def fc38:FC where
 nt:=37
 np:=2
 res:=[.t 4]
 body:=(.seq (.region [1,2] [zo 2 (.box (.t 0)),zo 4 (.move (zB false))]) (.seq (.seq (.region [1,2,20] [zm 6 1,zo 7 (.bin .lss (.t 6) (zI 1)),zm 8 7,zg 9 (.load (some 5) (.t 2)) 8 false,zg 10 (.call (.c (.fn 57 [] [])) [.t 9]) 8 false,zg 11 (.un .not (.t 10)) 8 false,zb 12 8 11,zm 13 12,zg 14 (.faddr (.t 2) 0) 13 false,zg 15 (.load none (.t 14)) 13 false,zg 16 (.faddr
  (.t 2) 3) 13 false,zg 17 (.load none (.t 16)) 13 false,zg 18 (.call (.c (.fn 58 [] [])) [.t 15,.t 17]) 13 false,zg 19 (.un .not (.t 18)) 13 false,zb 20 13 19]) (.cond (.t 20) (.seq (.region [4] [zo 4 (.move (zB false))]) .ret) .skip)) (.seq (.seq (.region [1,2,5] [zi 5 0]) (.block 0 (.loop [1,2,5] fc38_b0))) (.seq (.region [4] [zo 4 (.move (zB true))]) .ret))))
theorem ok38:FOk Tryd.prog 38 fc38:=FOk.of Tryd.func38 (by kernel_rfl)
def fc39:FC where
 nt:=5
 np:=0
 res:=[.t 0]
 body:=(.seq (.region [] [zo 0 (.move (.c (.p (.nilp))))]) (.seq (.region [0] [zc 1 59 [],zc 2 60 [],zo 3 (.build [.nilp,.nils,.nilm,.nilm] [(2,1,(.t 1)),(3,1,(.t 2))]),zo 4 (.boxB 78 (.t 3)),zm 0 4]) .ret))
theorem ok39:FOk Tryd.prog 39 fc39:=FOk.of Tryd.func39 (by kernel_rfl)
def fc40:FC where
 nt:=173
 np:=3
 res:=[]
 body:=(.seq (.region [0,2,4] [zo 4 (.box (.t 1))]) (.seq (.seq (.draw [0,2,4,6,7] [(3,5),(3,10),(5,10),(6,10)] [zm 11 0,zn 12 11,zf 13 12 2,zl 14 13,zf 15 4 0,zl 16 15,zo 17 (.mapget 13 (.agg [.str [],.int .i64 0,.int .i64 0,.int .i64 0]) true (.t 14) (.t 16)),zm 10 17,zx 18 10 0,zx 19 10 1,zo 6 (.alloc [.str [],.int .i64 0,.int .i64 0,.int .i64 0]),zs 4 6 18,zm 7 19])
  (.seq (.region [0,2,4,6,20] [zm 20 7]) (.cond (.t 20) (.seq (.draw [0,2,4,6] [(1,5),(2,5)] [zm 21 0,zL 22 5 4,zc 23 62 [.t 22,zI 0],zf 24 6 2,zo 25 (.iaddr (some 2) 1 (.t 24) (zI 0)),zl 26 25,zc 27 61 [.t 21,.t 23,.t 26,zB false]]) (.seq (.draw [0,2,4,6] [] [zm 28 0,zn 29 28,zf 30 29 0,zf 31 6 0,zl 32 31,zc 33 49 [.t 30,.t 32]]) (.seq (.draw [] [(1,5),(2,5)] [zm 34 0,
  zL 35 5 4,zc 36 62 [.t 35,zI 1],zf 37 6 2,zo 38 (.iaddr (some 2) 1 (.t 37) (zI 1)),zl 39 38,zm 40 2,zc 41 61 [.t 34,.t 36,.t 39,.t 40]]) .ret))) .skip))) (.seq (.seq (.draw [0,2,4,8,9] [(3,5),(3,10),(5,10),(6,10)] [zm 43 0,zn 44 43,zf 45 44 3,zl 46 45,zf 47 4 0,zl 48 47,zo 49 (.mapget 13 (.agg [.str [],.int .i64 0,.int .i64 0,.int .i64 0]) true (.t 46) (.t 48)),zm 42 49,
  zx 50 42 0,zx 51 42 1,zo 8 (.alloc [.str [],.int .i64 0,.int .i64 0,.int .i64 0]),zs 4 8 50,zm 9 51]) (.seq (.region [0,2,4,8,52] [zm 52 9]) (.cond (.t 52) (.seq (.draw [0,2,4,8] [] [zm 53 0,zn 54 53,zf 55 54 0,zf 56 8 0,zl 57 56,zc 58 49 [.t 55,.t 57]]) (.seq (.draw [] [(1,5),(2,5)] [zm 59 0,zL 60 5 4,zc 61 62 [.t 60,zI 0],zf 62 8 2,zo 63 (.iaddr (some 2) 1 (.t 62) (zI 0)),
  zl 64 63,zm 65 2,zc 66 61 [.t 59,.t 61,.t 64,.t 65]]) .ret)) .skip))) (.seq (.region [0,4,68] [zf 67 4 0,zl 68 67]) (.block 0 (.seq (.region [0,4,68,78] [zo 79 (.bin .eql (.t 68) (zI 1)),zm 78 79]) (.cond (.t 78) (.draw [] [] [zm 80 0,zn 81 80,zf 82 81 0,zf 83 4 1,zl 84 83,zc 85 49 [.t 82,.t 84]]) (.seq (.region [0,4,68,86] [zo 87 (.bin .eql (.t 68) (zI 2)),zm 86 87]) (.cond
  (.t 86) (.seq (.region [0,4] [zm 88 0,zn 89 88,zf 90 89 0,zc 91 49 [.t 90,zS [110,111,110,101]]]) (.seq (.region [0,4,94] [zf 92 4 2,zl 93 92,zo 94 (.bin .neq (.t 93) (zI 1))]) (.cond (.t 94) (.draw [] [] [zm 95 0,zn 96 95,zf 97 96 0,zf 98 4 2,zl 99 98,zc 100 63 [.t 99],zo 101 (.bin .add (zS [91]) (.t 100)),zo 102 (.bin .add (.t 101) (zS [93])),zc 103 49
  [.t 97,.t 102]]) .skip))) (.seq (.region [0,4,68,104] [zo 105 (.bin .eql (.t 68) (zI 20)),zm 104 105]) (.cond (.t 104) (.draw [] [] [zm 106 0,zn 107 106,zf 108 107 0,zf 109 4 2,zl 110 109,zc 111 63 [.t 110],zc 112 49 [.t 108,.t 111]]) (.seq (.region [0,4,68,113] [zo 114 (.bin .eql (.t 68) (zI 5)),zm 113 114]) (.cond (.t 113) (.seq (.region [0] [zm 115 0,zL 116 5 4,zc 117 62
  [.t 116,zI 0],zc 118 61 [.t 115,.t 117,zI 14,zB false]]) (.region [] [zm 119 0,zn 120 119,zf 121 120 0,zc 122 64 [.t 121,(.c (.p (.int .u8 39)))]])) (.seq (.region [0,4,68,123] [zo 124 (.bin .eql (.t 68) (zI 45)),zm 123 124]) (.cond (.t 123) (.seq (.region [0,4] [zm 125 0,zn 126 125,zf 127 126 0,zc 128 49 [.t 127,zS [97,108,108,32]]]) (.region [] [zm 129 0,zL 130 5 4,
  zc 131 65 [.t 129,.t 130]])) (.seq (.region [0,4,68,132] [zo 133 (.bin .eql (.t 68) (zI 46)),zm 132 133]) (.cond (.t 132) (.seq (.region [0,4] [zm 134 0,zn 135 134,zf 136 135 0,zc 137 49 [.t 136,zS [115,111,109,101,32]]]) (.region [] [zm 138 0,zL 139 5 4,zc 140 65 [.t 138,.t 139]])) (.seq (.region [0,4,68,141] [zo 142 (.bin .eql (.t 68) (zI 15)),zm 141 142]) (.cond (.t 141)
  (.seq (.region [0,4] [zm 143 0,zn 144 143,zf 145 144 0,zc 146 64 [.t 145,(.c (.p (.int .u8 123)))]]) (.seq (.region [0] [zm 147 0,zL 148 5 4,zc 149 65 [.t 147,.t 148]]) (.region [] [zm 150 0,zn 151 150,zf 152 151 0,zc 153 64 [.t 152,(.c (.p (.int .u8 125)))]]))) (.seq (.region [0,4,154] [zo 155 (.bin .eql (.t 68) (zI 47)),zm 154 155]) (.cond (.t 154) (.seq (.draw [0,4] []
  [zm 156 0,zn 157 156,zf 158 157 0,zf 159 4 1,zl 160 159,zo 161 (.bin .add (.t 160) (zS [91])),zc 162 49 [.t 158,.t 161]]) (.seq (.region [0] [zm 163 0,zf 164 4 3,zl 165 164,zm 166 0,zo 167 (.mkfn 67 [.t 166] []),zc 168 66 [.t 163,.t 165,zS [44,32],.t 167]]) (.region [] [zm 169 0,zn 170 169,zf 171 170 0,zc 172 64 [.t 171,(.c (.p (.int .u8 93)))]]))) (.draw []
  [(4,5),(4,6),(5,6),(4,7),(5,7),(6,7),(3,10),(4,10),(5,10),(6,10),(7,10)] [zm 69 0,zn 70 69,zf 71 70 0,zo 72 (.mkmap 13),zv (.mapins 13 (.t 72) (zI 3) (zS [117,110,105,118])),zv (.mapins 13 (.t 72) (zI 4) (zS [105,100,101,110])),zv (.mapins 13 (.t 72) (zI 30) (zS [116,114,117,101])),zv (.mapins 13 (.t 72) (zI 31) (zS [102,97,108,115,101])),zm 73 72,zf 74 4 0,zl 75 74,zo 76
  (.mapget 13 (.str []) false (.t 73) (.t 75)),zc 77 49 [.t 71,.t 76]]))))))))))))))))))))))
theorem ok40:FOk Tryd.prog 40 fc40:=FOk.of Tryd.func40 (by kernel_rfl)
def fc41:FC where
 nt:=14
 np:=1
 res:=[.t 2]
 body:=(.seq (.region [0] [zo 2 (.move (zS []))]) (.seq (.draw [2] [(3,8),(4,8)] [zm 3 0,zn 4 3,zf 5 4 1,zl 6 5,zo 7 (.sdata (.t 6)),zm 8 0,zn 9 8,zf 10 9 1,zl 11 10,ze 12 1 11,zo 13 (.ustr 5 (.t 7) (.t 12)),zm 2 13]) .ret))
theorem ok41:FOk Tryd.prog 41 fc41:=FOk.of Tryd.func41 (by kernel_rfl)
def fc44_b0:SC:=
 (.seq (.seq (.region [0,3,21] [zm 18 3,zm 19 0,ze 20 0 19,zo 21 (.bin .lss (.t 18) (.t 20))]) (.cond (.t 21) .skip (.exit 0))) (.seq (.block 1 (.seq (.region [0,3,4] [zm 24 0,zm 25 3,zo 26 (.index none (.t 24) (.t 25)),zm 4 26]) (.seq (.region [0,3,4,5] [zm 27 4,zo 28 (.bin .geq (.t 27) (.c (.p (.int .u8 97)))),zm 29 28,zg 30 (.move (.t 4)) 29 true,zg 31 (.bin .leq (.t 30)
 (.c (.p (.int .u8 122)))) 29 true,za 32 29 31,zm 33 32,zg 34 (.move (.t 4)) 33 false,zg 35 (.bin .geq (.t 34) (.c (.p (.int .u8 65)))) 33 false,zg 36 (.move (.t 35)) 33 false,zg 37 (.move (.t 4)) 36 true,zg 38 (.bin .leq (.t 37) (.c (.p (.int .u8 90)))) 36 true,zg 39 (.pick (.t 36) (.t 38) (zB false)) 33 false,zb 40 33 39,zm 5 40]) (.seq (.region [0,3,58] [zm 41 5,zo 42
 (.un .not (.t 41)),zm 43 42,zg 44 (.move (.t 3)) 43 true,zg 45 (.bin .eql (.t 44) (zI 0)) 43 true,zg 46 (.move (.t 45)) 43 true,zg 47 (.move (.t 4)) 46 false,zg 48 (.bin .neq (.t 47) (.c (.p (.int .u8 95)))) 46 false,zg 49 (.move (.t 48)) 46 false,zg 50 (.move (.t 4)) 49 true,zg 51 (.bin .lss (.t 50) (.c (.p (.int .u8 48)))) 49 true,zg 52 (.move (.t 51)) 49 true,zg 53 (.move
 (.t 4)) 52 false,zg 54 (.bin .gtr (.t 53) (.c (.p (.int .u8 57)))) 52 false,zg 55 (.pick (.t 52) (zB true) (.t 54)) 49 true,zg 56 (.pick (.t 49) (.t 55) (zB false)) 46 false,zg 57 (.pick (.t 46) (zB true) (.t 56)) 43 true,za 58 43 57]) (.cond (.t 58) (.seq (.region [2] [zo 2 (.move (zB false))]) .ret) .skip))))) (.region [0,3] [zm 22 3,zo 23 (.bin .add (.t 22) (zI 1)),zm 3 23])))
def fc44:FC where
 nt:=59
 np:=1
 res:=[.t 2]
 body:=(.seq (.region [0] [zo 2 (.move (zB false))]) (.seq (.seq (.region [0,17] [zm 6 0,ze 7 0 6,zo 8 (.bin .eql (.t 7) (zI 0)),zm 9 8,zg 10 (.move (.t 0)) 9 false,zg 11 (.len 0 (.t 10)) 9 false,zg 12 (.bin .gtr (.t 11) (zI 16)) 9 false,zb 13 9 12,zm 14 13,zg 15 (.move (.t 0)) 14 false,zg 16 (.call (.c (.fn 76 [] [])) [.t 15]) 14 false,zb 17 14 16]) (.cond (.t 17) (.seq
  (.region [2] [zo 2 (.move (zB false))]) .ret) .skip)) (.seq (.seq (.region [0,3] [zi 3 0]) (.block 0 (.loop [0,3] fc44_b0))) (.seq (.region [2] [zo 2 (.move (zB true))]) .ret))))
theorem ok44:FOk Tryd.prog 44 fc44:=FOk.of Tryd.func44 (by kernel_rfl)
def fc48:FC where
 nt:=19
 np:=2
 res:=[.t 3]
 body:=(.seq (.region [0,1] [zo 3 (.move (zS []))]) (.seq (.seq (.region [0,1,12] [zm 4 0,zo 5 (.bin .lss (.t 4) (zI 0)),zm 6 5,zg 7 (.move (.t 0)) 6 false,zg 8 (.faddr (.t 1) 0) 6 false,zg 9 (.load none (.t 8)) 6 false,zg 10 (.len 1 (.t 9)) 6 false,zg 11 (.bin .geq (.t 7) (.t 10)) 6 false,zb 12 6 11]) (.cond (.t 12) (.seq (.region [3] [zo 3 (.move (zS []))]) .ret) .skip))
  (.seq (.region [3] [zf 13 1 0,zl 14 13,zm 15 0,zo 16 (.iaddr none 2 (.t 14) (.t 15)),zf 17 16 0,zl 18 17,zm 3 18]) .ret)))
theorem ok48:FOk Tryd.prog 48 fc48:=FOk.of Tryd.func48 (by kernel_rfl)
def fc49:FC where
 nt:=19
 np:=2
 res:=[.t 4,.t 5]
 body:=(.seq (.region [0,1] [zi 4 0,zo 5 (.move (.c (.p (.nili))))]) (.seq (.region [0,1] [zm 6 0,zc 7 77 [.t 6]]) (.seq (.region [1] [zm 8 0,zm 9 0,zn 10 9,zf 11 10 1,zl 12 11,zm 13 1,zo 14 (.append 5 1 1 (.t 12) (.t 13)),zn 15 8,zf 16 15 1,zs 1 16 14]) (.seq (.region [4,5] [zm 17 1,ze 18 0 17,zm 4 18,zo 5 (.move (.c (.p (.nili))))]) .ret))))
theorem ok49:FOk Tryd.prog 49 fc49:=FOk.of Tryd.func49 (by kernel_rfl)
def fc50_b0:SC:=
 (.loc (.seq (.region [0,2,3,10,11,12,13] [zo 13 (.bin .lss (.t 12) (.t 11))]) (.seq (.cond (.t 13) .skip (.exit 0)) (.seq (.block 1 (.seq (.region [0,2,3,8,9,10,11,12] [zm 14 12,zo 15 (.iaddr none 1 (.t 10) (.t 12)),zl 16 15,zm 8 14,zm 9 16]) (.seq (.seq (.region [0,2,3,9,10,11,12,18] [zm 17 8,zo 18 (.bin .gtr (.t 17) (zI 0))]) (.cond (.t 18) (.region [0,2,3,9,10,11,12]
 [zm 19 0,zn 20 19,zf 21 20 0,zm 22 2,zc 23 49 [.t 21,.t 22]]) .skip)) (.region [0,2,3,10,11,12] [zm 24 3,zm 25 9,zo 26 (.call (.t 24) [.t 25])])))) (.region [0,2,3,10,11,12] [zo 27 (.bin .add (.t 12) (zI 1)),zm 12 27])))))
def fc50:FC where
 nt:=28
 np:=4
 res:=[]
 body:=(.seq (.region [0,2,3,10,11,12] [zm 10 1,ze 11 1 10,zi 12 0]) (.block 0 (.loop [0,2,3,10,11,12] fc50_b0)))
theorem ok50:FOk Tryd.prog 50 fc50:=FOk.of Tryd.func50 (by kernel_rfl)
def fc51:FC where
 nt:=11
 np:=3
 res:=[]
 body:=(.draw [] [(0,3),(0,5)] [zl 4 1,zn 5 4,zf 6 5 0,zl 7 2,zm 8 0,zo 9 (.call (.t 7) [.t 8]),zc 10 49 [.t 6,.t 9]])
theorem ok51:FOk Tryd.prog 51 fc51:=FOk.of Tryd.func51 (by kernel_rfl)
def fc52_b0:SC:=
 (.loc (.seq (.region [0,2,3,10,11,12,13] [zo 13 (.bin .lss (.t 12) (.t 11))]) (.seq (.cond (.t 13) .skip (.exit 0)) (.seq (.block 1 (.seq (.region [0,2,3,8,9,10,11,12] [zm 14 12,zo 15 (.iaddr none 2 (.t 10) (.t 12)),zL 16 2 15,zo 9 (.alloc [.str [],.int .i64 0]),zm 8 14,zs 2 9 16]) (.seq (.seq (.region [0,2,3,9,10,11,12,18] [zm 17 8,zo 18 (.bin .gtr (.t 17) (zI 0))]) (.cond
 (.t 18) (.region [0,2,3,9,10,11,12] [zm 19 0,zn 20 19,zf 21 20 0,zm 22 2,zc 23 49 [.t 21,.t 22]]) .skip)) (.region [0,2,3,10,11,12] [zm 24 3,zL 25 2 9,zo 26 (.call (.t 24) [.t 25])])))) (.region [0,2,3,10,11,12] [zo 27 (.bin .add (.t 12) (zI 1)),zm 12 27])))))
def fc52:FC where
 nt:=28
 np:=4
 res:=[]
 body:=(.seq (.region [0,2,3,10,11,12] [zm 10 1,ze 11 1 10,zi 12 0]) (.block 0 (.loop [0,2,3,10,11,12] fc52_b0)))
theorem ok52:FOk Tryd.prog 52 fc52:=FOk.of Tryd.func52 (by kernel_rfl)
def fc53:FC where
 nt:=16
 np:=3
 res:=[]
 body:=(.seq (.region [1,2,3] [zo 3 (.box (.t 0))]) (.draw [] [(0,4),(0,6),(4,6),(0,8),(4,8),(6,8),(0,9),(4,9)] [zl 4 1,zn 5 4,zf 6 5 0,zf 7 3 0,zl 8 7,zo 9 (.bin .add (.t 8) (zS [58,32])),zl 10 2,zf 11 3 1,zl 12 11,zo 13 (.call (.t 10) [.t 12]),zo 14 (.bin .add (.t 9) (.t 13)),zc 15 49 [.t 6,.t 14]]))
theorem ok53:FOk Tryd.prog 53 fc53:=FOk.of Tryd.func53 (by kernel_rfl)
def fc56:FC where
 nt:=21
 np:=1
 res:=[.t 2]
 body:=(.seq (.region [0] [zo 2 (.move (.c (.p (.int .u8 0))))]) (.seq (.seq (.region [0,8] [zm 3 0,zo 4 (.bin .geq (.t 3) (zI 1)),zm 5 4,zg 6 (.move (.t 0)) 5 true,zg 7 (.bin .leq (.t 6) (zI 15)) 5 true,za 8 5 7]) (.cond (.t 8) (.seq (.region [2] [zo 2 (.move (.c (.p (.int .u8 101))))]) .ret) .skip)) (.seq (.seq (.region [0,14] [zm 9 0,zo 10 (.bin .geq (.t 9) (zI 20)),
  zm 11 10,zg 12 (.move (.t 0)) 11 true,zg 13 (.bin .leq (.t 12) (zI 23)) 11 true,za 14 11 13]) (.cond (.t 14) (.seq (.region [2] [zo 2 (.move (.c (.p (.int .u8 105))))]) .ret) .skip)) (.seq (.seq (.region [20] [zm 15 0,zo 16 (.bin .geq (.t 15) (zI 30)),zm 17 16,zg 18 (.move (.t 0)) 17 true,zg 19 (.bin .leq (.t 18) (zI 51)) 17 true,za 20 17 19]) (.cond (.t 20) (.seq (.region
  [2] [zo 2 (.move (.c (.p (.int .u8 102))))]) .ret) .skip)) (.seq (.region [2] [zo 2 (.move (.c (.p (.int .u8 0))))]) .ret)))))
theorem ok56:FOk Tryd.prog 56 fc56:=FOk.of Tryd.func56 (by kernel_rfl)
def fc57:FC where
 nt:=66
 np:=1
 res:=[.t 2]
 body:=(.seq (.region [1] [zo 1 (.box (.t 0)),zo 2 (.move (zB false))]) (.seq (.region [1,3] [zf 4 1 0,zl 5 4,zo 6 (.bin .eql (.t 5) (zI 1)),zm 7 6,zg 8 (.faddr (.t 1) 0) 7 false,zg 9 (.load none (.t 8)) 7 false,zg 10 (.bin .eql (.t 9) (zI 15)) 7 false,zb 11 7 10,zm 12 11,zg 13 (.faddr (.t 1) 0) 12 false,zg 14 (.load none (.t 13)) 12 false,zg 15 (.bin .eql (.t 14)
  (zI 45)) 12 false,zb 16 12 15,zm 17 16,zg 18 (.faddr (.t 1) 0) 17 false,zg 19 (.load none (.t 18)) 17 false,zg 20 (.bin .eql (.t 19) (zI 46)) 17 false,zb 21 17 20,zm 22 21,zg 23 (.faddr (.t 1) 0) 22 false,zg 24 (.load none (.t 23)) 22 false,zg 25 (.bin .eql (.t 24) (zI 47)) 22 false,zb 26 22 25,zm 3 26]) (.seq (.seq (.region [1,40] [zm 27 3,zf 28 1 1,zl 29 28,zc 30 44 [.t 29],
  zo 31 (.eqk 0 true (.t 27) (.t 30)),zm 32 31,zg 33 (.move (.t 3)) 32 false,zg 34 (.un .not (.t 33)) 32 false,zg 35 (.move (.t 34)) 32 false,zg 36 (.faddr (.t 1) 1) 35 true,zg 37 (.load none (.t 36)) 35 true,zg 38 (.bin .neq (.t 37) (zS [])) 35 true,zg 39 (.pick (.t 35) (.t 38) (zB false)) 32 false,zb 40 32 39]) (.cond (.t 40) (.seq (.region [2] [zo 2 (.move
  (zB false))]) .ret) .skip)) (.seq (.seq (.region [1,42] [zf 41 1 0,zl 42 41]) (.block 0 (.seq (.region [1,42,43] [zo 44 (.bin .eql (.t 42) (zI 2)),zm 43 44]) (.cond (.t 43) (.seq (.region [2] [zf 45 1 2,zl 46 45,zo 47 (.bin .geq (.t 46) (zI 1)),zm 48 47,zg 49 (.faddr (.t 1) 2) 48 true,zg 50 (.load none (.t 49)) 48 true,zg 51 (.bin .leq (.t 50) (zI 3)) 48 true,za 52 48 51,
  zm 2 52]) .ret) (.seq (.region [1,53] [zo 54 (.bin .eql (.t 42) (zI 20)),zm 53 54]) (.cond (.t 53) (.seq (.region [2] [zf 55 1 2,zl 56 55,zo 57 (.bin .geq (.t 56) (zI (-64))),zm 58 57,zg 59 (.faddr (.t 1) 2) 58 true,zg 60 (.load none (.t 59)) 58 true,zg 61 (.bin .leq (.t 60) (zI 64)) 58 true,za 62 58 61,zm 2 62]) .ret) .skip)))))) (.seq (.region [2] [zf 63 1 2,zl 64 63,zo 65
  (.bin .eql (.t 64) (zI 0)),zm 2 65]) .ret)))))
theorem ok57:FOk Tryd.prog 57 fc57:=FOk.of Tryd.func57 (by kernel_rfl)
def fc58_b0:SC:=
 (.loc (.seq (.seq (.region [1,5,7,27] [zm 24 7,zm 25 1,ze 26 1 25,zo 27 (.bin .lss (.t 24) (.t 26))]) (.cond (.t 27) .skip (.exit 0))) (.seq (.block 1 (.seq (.draw [1,5,7,39] [] [zm 30 1,zm 31 7,zo 32 (.iaddr none 5 (.t 30) (.t 31)),zf 33 32 0,zl 34 33,zc 35 56 [.t 34],zm 36 5,zm 37 7,zo 38 (.index none (.t 36) (.t 37)),zo 39 (.bin .neq (.t 35) (.t 38))]) (.cond (.t 39) (.seq
 (.region [4] [zo 4 (.move (zB false))]) .ret) .skip))) (.region [1,5,7] [zm 28 7,zo 29 (.bin .add (.t 28) (zI 1)),zm 7 29]))))
def fc58:FC where
 nt:=40
 np:=2
 res:=[.t 4]
 body:=(.seq (.region [0,1] [zo 4 (.move (zB false))]) (.seq (.region [1,5,6] [zm 9 0,zm 10 1,ze 11 1 10,zc 12 78 [.t 9,.t 11],zm 8 12,zx 13 8 0,zx 14 8 1,zm 5 13,zm 6 14]) (.seq (.seq (.region [1,5,23] [zm 15 6,zo 16 (.un .not (.t 15)),zm 17 16,zg 18 (.move (.t 5)) 17 false,zg 19 (.len 0 (.t 18)) 17 false,zg 20 (.move (.t 1)) 17 false,zg 21 (.len 1 (.t 20)) 17 false,zg 22
  (.bin .neq (.t 19) (.t 21)) 17 false,zb 23 17 22]) (.cond (.t 23) (.seq (.region [4] [zo 4 (.move (zB false))]) .ret) .skip)) (.seq (.seq (.region [1,5,7] [zi 7 0]) (.block 0 (.loop [1,5,7] fc58_b0))) (.seq (.region [4] [zo 4 (.move (zB true))]) .ret)))))
theorem ok58:FOk Tryd.prog 58 fc58:=FOk.of Tryd.func58 (by kernel_rfl)
def fc59:FC where
 nt:=37
 np:=0
 res:=[.t 0]
 body:=(.seq (.region [] [zo 0 (.move (.c (.p (.nilm))))]) (.seq (.region [0] [zo 1 (.mkmap 13),zo 2 (.build [.int .i64 0,.int .i64 0] [(0,1,(zI 1)),(1,1,(zI 2))]),zo 3 (.build [.str [],.int .i64 0,.int .i64 0,.int .i64 0] [(0,1,(zS [32,60,61,62,32])),(1,1,(zI 1)),(2,2,(.t 2))]),zv (.mapins 13 (.t 1) (zI 44) (.t 3)),zo 4 (.build [.int .i64 0,.int .i64 0]
  [(0,1,(zI 3)),(1,1,(zI 2))]),zo 5 (.build [.str [],.int .i64 0,.int .i64 0,.int .i64 0] [(0,1,(zS [32,61,62,32])),(1,1,(zI 2)),(2,2,(.t 4))]),zv (.mapins 13 (.t 1) (zI 43) (.t 5)),zo 6 (.build [.int .i64 0,.int .i64 0] [(0,1,(zI 3)),(1,1,(zI 4))]),zo 7 (.build [.str [],.int .i64 0,.int .i64 0,.int .i64 0] [(0,1,(zS [32,124,124,32])),(1,1,(zI 3)),(2,2,(.t 6))]),zv (.mapins 13
  (.t 1) (zI 42) (.t 7)),zo 8 (.build [.int .i64 0,.int .i64 0] [(0,1,(zI 4)),(1,1,(zI 5))]),zo 9 (.build [.str [],.int .i64 0,.int .i64 0,.int .i64 0] [(0,1,(zS [32,38,38,32])),(1,1,(zI 4)),(2,2,(.t 8))]),zv (.mapins 13 (.t 1) (zI 41) (.t 9)),zo 10 (.build [.int .i64 0,.int .i64 0] [(0,1,(zI 6)),(1,1,(zI 5))]),zo 11 (.build [.str [],.int .i64 0,.int .i64 0,.int .i64 0]
  [(0,1,(zS [32,117,110,116,105,108,32])),(1,1,(zI 5)),(2,2,(.t 10))]),zv (.mapins 13 (.t 1) (zI 51) (.t 11)),zo 12 (.build [.int .i64 0,.int .i64 0] [(0,1,(zI 8)),(1,1,(zI 8))]),zo 13 (.build [.str [],.int .i64 0,.int .i64 0,.int .i64 0] [(0,1,(zS [32,105,110,32])),(1,1,(zI 7)),(2,2,(.t 12))]),zv (.mapins 13 (.t 1) (zI 32) (.t 13)),zo 14 (.build [.int .i64 0,.int .i64 0]
  [(0,1,(zI 8)),(1,1,(zI 8))]),zo 15 (.build [.str [],.int .i64 0,.int .i64 0,.int .i64 0] [(0,1,(zS [32,61,32])),(1,1,(zI 7)),(2,2,(.t 14))]),zv (.mapins 13 (.t 1) (zI 33) (.t 15)),zo 16 (.build [.int .i64 0,.int .i64 0] [(0,1,(zI 8)),(1,1,(zI 8))]),zo 17 (.build [.str [],.int .i64 0,.int .i64 0,.int .i64 0] [(0,1,(zS [32,61,32])),(1,1,(zI 7)),(2,2,(.t 16))]),zv (.mapins 13
  (.t 1) (zI 38) (.t 17)),zo 18 (.build [.int .i64 0,.int .i64 0] [(0,1,(zI 8)),(1,1,(zI 8))]),zo 19 (.build [.str [],.int .i64 0,.int .i64 0,.int .i64 0] [(0,1,(zS [32,60,32])),(1,1,(zI 7)),(2,2,(.t 18))]),zv (.mapins 13 (.t 1) (zI 39) (.t 19)),zo 20 (.build [.int .i64 0,.int .i64 0] [(0,1,(zI 8)),(1,1,(zI 9))]),zo 21 (.build [.str [],.int .i64 0,.int .i64 0,.int .i64 0]
  [(0,1,(zS [32,43,32])),(1,1,(zI 8)),(2,2,(.t 20))]),zv (.mapins 13 (.t 1) (zI 6) (.t 21)),zo 22 (.build [.int .i64 0,.int .i64 0] [(0,1,(zI 8)),(1,1,(zI 9))]),zo 23 (.build [.str [],.int .i64 0,.int .i64 0,.int .i64 0] [(0,1,(zS [32,43,32])),(1,1,(zI 8)),(2,2,(.t 22))]),zv (.mapins 13 (.t 1) (zI 22) (.t 23)),zo 24 (.build [.int .i64 0,.int .i64 0] [(0,1,(zI 8)),(1,1,(zI 9))]),
  zo 25 (.build [.str [],.int .i64 0,.int .i64 0,.int .i64 0] [(0,1,(zS [32,45,32])),(1,1,(zI 8)),(2,2,(.t 24))]),zv (.mapins 13 (.t 1) (zI 8) (.t 25)),zo 26 (.build [.int .i64 0,.int .i64 0] [(0,1,(zI 8)),(1,1,(zI 9))]),zo 27 (.build [.str [],.int .i64 0,.int .i64 0,.int .i64 0] [(0,1,(zS [32,45,32])),(1,1,(zI 8)),(2,2,(.t 26))]),zv (.mapins 13 (.t 1) (zI 23) (.t 27)),zo 28
  (.build [.int .i64 0,.int .i64 0] [(0,1,(zI 9)),(1,1,(zI 10))]),zo 29 (.build [.str [],.int .i64 0,.int .i64 0,.int .i64 0] [(0,1,(zS [32,43,43,32])),(1,1,(zI 9)),(2,2,(.t 28))]),zv (.mapins 13 (.t 1) (zI 14) (.t 29)),zo 30 (.build [.int .i64 0,.int .i64 0] [(0,1,(zI 10)),(1,1,(zI 11))]),zo 31 (.build [.str [],.int .i64 0,.int .i64 0,.int .i64 0] [(0,1,(zS
  [32,38,32])),(1,1,(zI 10)),(2,2,(.t 30))]),zv (.mapins 13 (.t 1) (zI 7) (.t 31)),zo 32 (.build [.int .i64 0,.int .i64 0] [(0,1,(zI 11)),(1,1,(zI 12))]),zo 33 (.build [.str [],.int .i64 0,.int .i64 0,.int .i64 0] [(0,1,(zS [32,45,62,32])),(1,1,(zI 11)),(2,2,(.t 32))]),zv (.mapins 13 (.t 1) (zI 10) (.t 33)),zo 34 (.build [.int .i64 0,.int .i64 0] [(0,1,(zI 12)),(1,1,(zI 13))]),
  zo 35 (.build [.str [],.int .i64 0,.int .i64 0,.int .i64 0] [(0,1,(zS [46])),(1,1,(zI 12)),(2,2,(.t 34))]),zv (.mapins 13 (.t 1) (zI 9) (.t 35)),zm 36 1,zm 0 36]) .ret))
theorem ok59:FOk Tryd.prog 59 fc59:=FOk.of Tryd.func59 (by kernel_rfl)
def fc60:FC where
 nt:=27
 np:=0
 res:=[.t 0]
 body:=(.seq (.region [] [zo 0 (.move (.c (.p (.nilm))))]) (.seq (.region [0] [zo 1 (.mkmap 13),zo 2 (.build [.int .i64 0,.int .i64 0] [(0,1,(zI 6))]),zo 3 (.build [.str [],.int .i64 0,.int .i64 0,.int .i64 0] [(0,1,(zS [110,111,116,32])),(1,1,(zI 6)),(2,2,(.t 2))]),zv (.mapins 13 (.t 1) (zI 40) (.t 3)),zo 4 (.build [.int .i64 0,.int .i64 0] [(0,1,(zI 6))]),zo 5 (.build
  [.str [],.int .i64 0,.int .i64 0,.int .i64 0] [(0,1,(zS [97,108,119,97,121,115,32])),(1,1,(zI 6)),(2,2,(.t 4))]),zv (.mapins 13 (.t 1) (zI 48) (.t 5)),zo 6 (.build [.int .i64 0,.int .i64 0] [(0,1,(zI 6))]),zo 7 (.build [.str [],.int .i64 0,.int .i64 0,.int .i64 0] [(0,1,(zS [101,118,101,110,116,117,97,108,108,121,32])),(1,1,(zI 6)),(2,2,(.t 6))]),zv (.mapins 13 (.t 1) (zI 49)
  (.t 7)),zo 8 (.build [.int .i64 0,.int .i64 0] [(0,1,(zI 6))]),zo 9 (.build [.str [],.int .i64 0,.int .i64 0,.int .i64 0] [(0,1,(zS [97,102,116,101,114,32])),(1,1,(zI 6)),(2,2,(.t 8))]),zv (.mapins 13 (.t 1) (zI 50) (.t 9)),zo 10 (.build [.int .i64 0,.int .i64 0] [(0,1,(zI 8))]),zo 11 (.build [.str [],.int .i64 0,.int .i64 0,.int .i64 0] [(0,1,(zS
  [110,111,32])),(1,1,(zI 7)),(2,2,(.t 10))]),zv (.mapins 13 (.t 1) (zI 35) (.t 11)),zo 12 (.build [.int .i64 0,.int .i64 0] [(0,1,(zI 8))]),zo 13 (.build [.str [],.int .i64 0,.int .i64 0,.int .i64 0] [(0,1,(zS [115,111,109,101,32])),(1,1,(zI 7)),(2,2,(.t 12))]),zv (.mapins 13 (.t 1) (zI 34) (.t 13)),zo 14 (.build [.int .i64 0,.int .i64 0] [(0,1,(zI 8))]),zo 15 (.build [.str
  [],.int .i64 0,.int .i64 0,.int .i64 0] [(0,1,(zS [111,110,101,32])),(1,1,(zI 7)),(2,2,(.t 14))]),zv (.mapins 13 (.t 1) (zI 36) (.t 15)),zo 16 (.build [.int .i64 0,.int .i64 0] [(0,1,(zI 8))]),zo 17 (.build [.str [],.int .i64 0,.int .i64 0,.int .i64 0] [(0,1,(zS [108,111,110,101,32])),(1,1,(zI 7)),(2,2,(.t 16))]),zv (.mapins 13 (.t 1) (zI 37) (.t 17)),zo 18 (.build
  [.int .i64 0,.int .i64 0] [(0,1,(zI 12))]),zo 19 (.build [.str [],.int .i64 0,.int .i64 0,.int .i64 0] [(0,1,(zS [35])),(1,1,(zI 12)),(2,2,(.t 18))]),zv (.mapins 13 (.t 1) (zI 21) (.t 19)),zo 20 (.build [.int .i64 0,.int .i64 0] [(0,1,(zI 13))]),zo 21 (.build [.str [],.int .i64 0,.int .i64 0,.int .i64 0] [(0,1,(zS [126])),(1,1,(zI 13)),(2,2,(.t 20))]),zv (.mapins 13 (.t 1)
  (zI 11) (.t 21)),zo 22 (.build [.int .i64 0,.int .i64 0] [(0,1,(zI 13))]),zo 23 (.build [.str [],.int .i64 0,.int .i64 0,.int .i64 0] [(0,1,(zS [94])),(1,1,(zI 13)),(2,2,(.t 22))]),zv (.mapins 13 (.t 1) (zI 12) (.t 23)),zo 24 (.build [.int .i64 0,.int .i64 0] [(0,1,(zI 13))]),zo 25 (.build [.str [],.int .i64 0,.int .i64 0,.int .i64 0] [(0,1,(zS
  [42])),(1,1,(zI 13)),(2,2,(.t 24))]),zv (.mapins 13 (.t 1) (zI 13) (.t 25)),zm 26 1,zm 0 26]) .ret))
theorem ok60:FOk Tryd.prog 60 fc60:=FOk.of Tryd.func60 (by kernel_rfl)
def fc61:FC where
 nt:=45
 np:=4
 res:=[]
 body:=(.seq (.region [0,2,3,5] [zo 5 (.box (.t 1))]) (.seq (.region [0,2,3,5,8] [zf 9 5 0,zl 10 9,zo 11 (.bin .eql (.t 10) (zI 45)),zm 12 11,zg 13 (.faddr (.t 5) 0) 12 false,zg 14 (.load none (.t 13)) 12 false,zg 15 (.bin .eql (.t 14) (zI 46)) 12 false,zb 16 12 15,zm 8 16]) (.seq (.seq (.region [0,3,5,29] [zm 17 0,zf 18 5 0,zl 19 18,zc 20 79 [.t 17,.t 19],zm 21 2,zo 22
  (.bin .geq (.t 20) (.t 21)),zm 23 22,zg 24 (.move (.t 3)) 23 true,zg 25 (.move (.t 24)) 23 true,zg 26 (.move (.t 8)) 25 false,zg 27 (.un .not (.t 26)) 25 false,zg 28 (.pick (.t 25) (zB true) (.t 27)) 23 true,za 29 23 28]) (.cond (.t 29) (.seq (.region [] [zm 30 0,zL 31 5 5,zm 32 3,zc 33 40 [.t 30,.t 31,.t 32]]) .ret) .skip)) (.seq (.region [0,5] [zm 34 0,zn 35 34,zf 36 35 0,
  zc 37 64 [.t 36,(.c (.p (.int .u8 40)))]]) (.seq (.region [0] [zm 38 0,zL 39 5 5,zc 40 40 [.t 38,.t 39,zB true]]) (.region [] [zm 41 0,zn 42 41,zf 43 42 0,zc 44 64 [.t 43,(.c (.p (.int .u8 41)))]]))))))
theorem ok61:FOk Tryd.prog 61 fc61:=FOk.of Tryd.func61 (by kernel_rfl)
def fc62:FC where
 nt:=16
 np:=2
 res:=[.cell 4 (some 5)]
 body:=(.seq (.region [1,2,4] [zo 2 (.box (.t 0)),zo 4 (.alloc [.int .i64 0,.str [],.int .i64 0,.nils,.int .i64 0])]) (.seq (.seq (.region [1,2,4,9] [zm 5 1,zf 6 2 3,zl 7 6,ze 8 1 7,zo 9 (.bin .lss (.t 5) (.t 8))]) (.cond (.t 9) (.seq (.region [4] [zf 10 2 3,zl 11 10,zm 12 1,zo 13 (.iaddr none 5 (.t 11) (.t 12)),zL 14 5 13,zs 5 4 14]) .ret) .skip)) (.seq (.region [4] [zo 15
  (.build [.int .i64 0,.str [],.int .i64 0,.nils,.int .i64 0] []),zs 5 4 15]) .ret)))
theorem ok62:FOk Tryd.prog 62 fc62:=FOk.of Tryd.func62 (by kernel_rfl)
def fc64:FC where
 nt:=17
 np:=2
 res:=[.t 4]
 body:=(.seq (.region [0,1] [zo 4 (.move (.c (.p (.nili))))]) (.seq (.region [0,1] [zm 5 0,zc 6 77 [.t 5]]) (.seq (.region [] [zm 7 0,zm 8 0,zn 9 8,zf 10 9 1,zl 11 10,zm 12 1,zo 13 (.bslice 5 1 1 (.int .u8 0) [(0,(.t 12))]),zo 14 (.append 5 1 1 (.t 11) (.t 13)),zn 15 7,zf 16 15 1,zs 1 16 14]) (.seq (.region [4] [zo 4 (.move (.c (.p (.nili))))]) .ret))))
theorem ok64:FOk Tryd.prog 64 fc64:=FOk.of Tryd.func64 (by kernel_rfl)
def fc65:FC where
 nt:=23
 np:=2
 res:=[]
 body:=(.seq (.region [0,3] [zo 3 (.box (.t 1))]) (.seq (.draw [0,3] [] [zm 4 0,zn 5 4,zf 6 5 0,zf 7 3 1,zl 8 7,zo 9 (.bin .add (.t 8) (zS [58,32])),zc 10 49 [.t 6,.t 9]]) (.seq (.region [0,3] [zm 11 0,zL 12 5 3,zc 13 62 [.t 12,zI 0],zc 14 61 [.t 11,.t 13,zI 8,zB true]]) (.seq (.region [0,3] [zm 15 0,zn 16 15,zf 17 16 0,zc 18 49 [.t 17,zS [32,124,32]]]) (.region [] [zm 19 0,
  zL 20 5 3,zc 21 62 [.t 20,zI 1],zc 22 40 [.t 19,.t 21,zB true]])))))
theorem ok65:FOk Tryd.prog 65 fc65:=FOk.of Tryd.func65 (by kernel_rfl)
def fc66_b0:SC:=
 (.loc (.seq (.region [0,2,3,10,11,12,13] [zo 13 (.bin .lss (.t 12) (.t 11))]) (.seq (.cond (.t 13) .skip (.exit 0)) (.seq (.block 1 (.seq (.region [0,2,3,8,9,10,11,12] [zm 14 12,zo 15 (.iaddr none 5 (.t 10) (.t 12)),zL 16 5 15,zo 9 (.alloc [.int .i64 0,.str [],.int .i64 0,.nils,.int .i64 0]),zm 8 14,zs 5 9 16]) (.seq (.seq (.region [0,2,3,9,10,11,12,18] [zm 17 8,zo 18
 (.bin .gtr (.t 17) (zI 0))]) (.cond (.t 18) (.region [0,2,3,9,10,11,12] [zm 19 0,zn 20 19,zf 21 20 0,zm 22 2,zc 23 49 [.t 21,.t 22]]) .skip)) (.region [0,2,3,10,11,12] [zm 24 3,zL 25 5 9,zo 26 (.call (.t 24) [.t 25])])))) (.region [0,2,3,10,11,12] [zo 27 (.bin .add (.t 12) (zI 1)),zm 12 27])))))
def fc66:FC where
 nt:=28
 np:=4
 res:=[]
 body:=(.seq (.region [0,2,3,10,11,12] [zm 10 1,ze 11 1 10,zi 12 0]) (.block 0 (.loop [0,2,3,10,11,12] fc66_b0)))
theorem ok66:FOk Tryd.prog 66 fc66:=FOk.of Tryd.func66 (by kernel_rfl)
def fc67:FC where
 nt:=7
 np:=2
 res:=[]
 body:=(.seq (.region [0,3] [zo 3 (.box (.t 1))]) (.region [] [zm 4 0,zL 5 5 3,zc 6 61 [.t 4,.t 5,zI 8,zB true]]))
theorem ok67:FOk Tryd.prog 67 fc67:=FOk.of Tryd.func67 (by kernel_rfl)
def fc76_b0:SC:=
 (.seq (.seq (.region [0,3,4,9] [zm 6 4,zm 7 3,ze 8 1 7,zo 9 (.bin .lss (.t 6) (.t 8))]) (.cond (.t 9) .skip (.exit 0))) (.seq (.block 1 (.seq (.region [0,3,4,17] [zm 12 3,zm 13 4,zo 14 (.iaddr none 1 (.t 12) (.t 13)),zl 15 14,zm 16 0,zo 17 (.bin .eql (.t 15) (.t 16))]) (.cond (.t 17) (.seq (.region [2] [zo 2 (.move (zB true))]) .ret) .skip))) (.region [0,3,4] [zm 10 4,zo 11
 (.bin .add (.t 10) (zI 1)),zm 4 11])))
def fc76:FC where
 nt:=18
 np:=1
 res:=[.t 2]
 body:=(.seq (.region [0] [zo 2 (.move (zB false))]) (.seq (.region [0,3] [zo 5 (.bslice 9 1 22 (.str []) [(0,(zS [115,111,114,116])),(1,(zS [111,114,100,101,114,101,100])),(2,(zS [118,97,114])),(3,(zS [102,105,101,108,100])),(4,(zS [112,114,101,100])),(5,(zS [102,97,99,116])),(6,(zS [97,108,108])),(7,(zS [115,111,109,101])),(8,(zS [110,111])),(9,(zS [111,110,101])),(10,(zS
  [108,111,110,101])),(11,(zS [97,108,119,97,121,115])),(12,(zS [101,118,101,110,116,117,97,108,108,121])),(13,(zS [97,102,116,101,114])),(14,(zS [117,110,116,105,108])),(15,(zS [110,111,110,101])),(16,(zS [117,110,105,118])),(17,(zS [105,100,101,110])),(18,(zS [105,110])),(19,(zS [110,111,116])),(20,(zS [116,114,117,101])),(21,(zS [102,97,108,115,101]))]),zm 3 5]) (.seq (.seq
  (.region [0,3,4] [zi 4 0]) (.block 0 (.loop [0,3,4] fc76_b0))) (.seq (.region [2] [zo 2 (.move (zB false))]) .ret))))
theorem ok76:FOk Tryd.prog 76 fc76:=FOk.of Tryd.func76 (by kernel_rfl)
def fc78_b0:SC:=
 (.seq (.seq (.region [1,6,7,64] [zm 58 7,zm 59 1,zo 60 (.bin .lss (.t 58) (.t 59)),zm 61 60,zg 62 (.move (.t 7)) 61 true,zg 63 (.bin .lss (.t 62) (zI 401)) 61 true,za 64 61 63]) (.cond (.t 64) .skip (.exit 1))) (.seq (.block 2 (.region [1,6,7] [zm 67 6,zo 68 (.bin .add (.t 67) (zS [101])),zm 6 68])) (.region [1,6,7] [zm 65 7,zo 66 (.bin .add (.t 65) (zI 1)),zm 7 66])))
def fc78:FC where
 nt:=70
 np:=2
 res:=[.t 4,.t 5]
 body:=(.seq (.region [0,1] [zo 4 (.move (zS [])),zo 5 (.move (zB false))]) (.seq (.seq (.region [1,8] [zm 8 0]) (.block 0 (.seq (.seq (.region [1,8,9] [zo 10 (.bin .eql (.t 8) (zI 1)),zm 9 10]) (.cond (.t 9) .skip (.seq (.region [1,8,9] [zo 11 (.bin .eql (.t 8) (zI 2)),zm 9 11]) (.cond (.t 9) .skip (.seq (.region [1,8,9] [zo 12 (.bin .eql (.t 8) (zI 3)),zm 9 12]) (.cond
  (.t 9) .skip (.seq (.region [1,8,9] [zo 13 (.bin .eql (.t 8) (zI 4)),zm 9 13]) (.cond (.t 9) .skip (.seq (.region [1,8,9] [zo 14 (.bin .eql (.t 8) (zI 20)),zm 9 14]) (.cond (.t 9) .skip (.seq (.region [1,8,9] [zo 15 (.bin .eql (.t 8) (zI 30)),zm 9 15]) (.cond (.t 9) .skip (.region [1,8,9] [zo 16 (.bin .eql (.t 8) (zI 31)),zm 9 16]))))))))))))) (.cond (.t 9) (.seq (.region
  [4,5] [zo 4 (.move (zS [])),zo 5 (.move (zB true))]) .ret) (.seq (.seq (.region [1,8,17] [zo 18 (.bin .eql (.t 8) (zI 5)),zm 17 18]) (.cond (.t 17) .skip (.seq (.region [1,8,17] [zo 19 (.bin .eql (.t 8) (zI 11)),zm 17 19]) (.cond (.t 17) .skip (.seq (.region [1,8,17] [zo 20 (.bin .eql (.t 8) (zI 12)),zm 17 20]) (.cond (.t 17) .skip (.seq (.region [1,8,17] [zo 21 (.bin .eql
  (.t 8) (zI 13)),zm 17 21]) (.cond (.t 17) .skip (.seq (.region [1,8,17] [zo 22 (.bin .eql (.t 8) (zI 21)),zm 17 22]) (.cond (.t 17) .skip (.seq (.region [1,8,17] [zo 23 (.bin .eql (.t 8) (zI 34)),zm 17 23]) (.cond (.t 17) .skip (.seq (.region [1,8,17] [zo 24 (.bin .eql (.t 8) (zI 35)),zm 17 24]) (.cond (.t 17) .skip (.seq (.region [1,8,17] [zo 25 (.bin .eql (.t 8) (zI 36)),
  zm 17 25]) (.cond (.t 17) .skip (.region [1,8,17] [zo 26 (.bin .eql (.t 8) (zI 37)),zm 17 26]))))))))))))))))) (.cond (.t 17) (.seq (.region [4,5] [zo 4 (.move (zS [101])),zo 5 (.move (zB true))]) .ret) (.seq (.seq (.region [1,8,27] [zo 28 (.bin .eql (.t 8) (zI 6)),zm 27 28]) (.cond (.t 27) .skip (.seq (.region [1,8,27] [zo 29 (.bin .eql (.t 8) (zI 7)),zm 27 29]) (.cond
  (.t 27) .skip (.seq (.region [1,8,27] [zo 30 (.bin .eql (.t 8) (zI 8)),zm 27 30]) (.cond (.t 27) .skip (.seq (.region [1,8,27] [zo 31 (.bin .eql (.t 8) (zI 9)),zm 27 31]) (.cond (.t 27) .skip (.seq (.region [1,8,27] [zo 32 (.bin .eql (.t 8) (zI 10)),zm 27 32]) (.cond (.t 27) .skip (.seq (.region [1,8,27] [zo 33 (.bin .eql (.t 8) (zI 14)),zm 27 33]) (.cond (.t 27) .skip (.seq
  (.region [1,8,27] [zo 34 (.bin .eql (.t 8) (zI 32)),zm 27 34]) (.cond (.t 27) .skip (.region [1,8,27] [zo 35 (.bin .eql (.t 8) (zI 33)),zm 27 35]))))))))))))))) (.cond (.t 27) (.seq (.region [4,5] [zo 4 (.move (zS [101,101])),zo 5 (.move (zB true))]) .ret) (.seq (.seq (.region [1,8,36] [zo 37 (.bin .eql (.t 8) (zI 15)),zm 36 37]) (.cond (.t 36) .skip (.seq (.region [1,8,36]
  [zo 38 (.bin .eql (.t 8) (zI 45)),zm 36 38]) (.cond (.t 36) .skip (.region [1,8,36] [zo 39 (.bin .eql (.t 8) (zI 46)),zm 36 39]))))) (.cond (.t 36) (.seq (.region [4,5] [zo 4 (.move (zS [101,102])),zo 5 (.move (zB true))]) .ret) (.seq (.seq (.region [1,8,40] [zo 41 (.bin .eql (.t 8) (zI 22)),zm 40 41]) (.cond (.t 40) .skip (.seq (.region [1,8,40] [zo 42 (.bin .eql (.t 8)
  (zI 23)),zm 40 42]) (.cond (.t 40) .skip (.seq (.region [1,8,40] [zo 43 (.bin .eql (.t 8) (zI 38)),zm 40 43]) (.cond (.t 40) .skip (.region [1,8,40] [zo 44 (.bin .eql (.t 8) (zI 39)),zm 40 44]))))))) (.cond (.t 40) (.seq (.region [4,5] [zo 4 (.move (zS [105,105])),zo 5 (.move (zB true))]) .ret) (.seq (.seq (.region [1,8,45] [zo 46 (.bin .eql (.t 8) (zI 40)),zm 45 46]) (.cond
  (.t 45) .skip (.seq (.region [1,8,45] [zo 47 (.bin .eql (.t 8) (zI 48)),zm 45 47]) (.cond (.t 45) .skip (.seq (.region [1,8,45] [zo 48 (.bin .eql (.t 8) (zI 49)),zm 45 48]) (.cond (.t 45) .skip (.region [1,8,45] [zo 49 (.bin .eql (.t 8) (zI 50)),zm 45 49]))))))) (.cond (.t 45) (.seq (.region [4,5] [zo 4 (.move (zS [102])),zo 5 (.move (zB true))]) .ret) (.seq (.seq (.region
  [1,8,50] [zo 51 (.bin .eql (.t 8) (zI 41)),zm 50 51]) (.cond (.t 50) .skip (.seq (.region [1,8,50] [zo 52 (.bin .eql (.t 8) (zI 42)),zm 50 52]) (.cond (.t 50) .skip (.seq (.region [1,8,50] [zo 53 (.bin .eql (.t 8) (zI 43)),zm 50 53]) (.cond (.t 50) .skip (.seq (.region [1,8,50] [zo 54 (.bin .eql (.t 8) (zI 44)),zm 50 54]) (.cond (.t 50) .skip (.region [1,8,50] [zo 55
  (.bin .eql (.t 8) (zI 51)),zm 50 55]))))))))) (.cond (.t 50) (.seq (.region [4,5] [zo 4 (.move (zS [102,102])),zo 5 (.move (zB true))]) .ret) (.seq (.region [1,56] [zo 57 (.bin .eql (.t 8) (zI 47)),zm 56 57]) (.cond (.t 56) (.seq (.region [1,6] [zo 6 (.move (zS []))]) (.seq (.seq (.region [1,6,7] [zi 7 0]) (.block 1 (.loop [1,6,7] fc78_b0))) (.seq (.region [4,5] [zm 69 6,
  zm 4 69,zo 5 (.move (zB true))]) .ret))) .skip)))))))))))))))))) (.seq (.region [4,5] [zo 4 (.move (zS [])),zo 5 (.move (zB false))]) .ret)))
theorem ok78:FOk Tryd.prog 78 fc78:=FOk.of Tryd.func78 (by kernel_rfl)
def fc79:FC where
 nt:=35
 np:=2
 res:=[.t 4]
 body:=(.seq (.region [0,1] [zi 4 0]) (.seq (.seq (.region [0,1,5,6] [zm 10 0,zn 11 10,zf 12 11 2,zl 13 12,zm 14 1,zo 15 (.mapget 13 (.agg [.str [],.int .i64 0,.int .i64 0,.int .i64 0]) true (.t 13) (.t 14)),zm 9 15,zx 16 9 0,zx 17 9 1,zo 5 (.alloc [.str [],.int .i64 0,.int .i64 0,.int .i64 0]),zs 4 5 16,zm 6 17]) (.seq (.region [0,1,5,18] [zm 18 6]) (.cond (.t 18) (.seq
  (.region [4] [zf 19 5 1,zl 20 19,zm 4 20]) .ret) .skip))) (.seq (.seq (.region [1,7,8] [zm 22 0,zn 23 22,zf 24 23 3,zl 25 24,zm 26 1,zo 27 (.mapget 13 (.agg [.str [],.int .i64 0,.int .i64 0,.int .i64 0]) true (.t 25) (.t 26)),zm 21 27,zx 28 21 0,zx 29 21 1,zo 7 (.alloc [.str [],.int .i64 0,.int .i64 0,.int .i64 0]),zs 4 7 28,zm 8 29]) (.seq (.region [1,7,30] [zm 30 8]) (.cond
  (.t 30) (.seq (.region [4] [zf 31 7 1,zl 32 31,zm 4 32]) .ret) .skip))) (.seq (.seq (.region [34] [zm 33 1,zo 34 (.bin .eql (.t 33) (zI 5))]) (.cond (.t 34) (.seq (.region [4] [zi 4 14]) .ret) .skip)) (.seq (.region [4] [zi 4 15]) .ret)))))
theorem ok79:FOk Tryd.prog 79 fc79:=FOk.of Tryd.func79 (by kernel_rfl)
def pgL:CallR:=fun f args H=>
 match f,args with
 | 63,[.p (.int .i64 n)]=>if -9223372036854775808≤n∧n≤9223372036854775807 then some (.val (.p (.str (Lib.itoa n))),H) else none
 | 77,[.box 0 0]=>match H.bx with
  |(.fresh 78 4 0::r)::l=>some (.val .undef,{H with bx:=(.box 0 0::r)::l})
  |(.box 0 0::_)::_=>some (.val .undef,H)
  |_=>none
 |_,_=>none
def pgF:Nat→Option FC
 | 4=>some fc4 | 6=>some fc6 | 9=>some fc9
 | 11=>some fc11 | 13=>some fc13 | 14=>some fc14 | 17=>some fc17 | 19=>some fc19
 | 21=>some fc21 | 22=>some fc22 | 23=>some fc23 | 25=>some fc25 | 26=>some fc26 | 27=>some fc27 | 28=>some fc28 | 29=>some fc29 | 30=>some fc30
 | 31=>some fc31 | 32=>some fc32 | 33=>some fc33 | 34=>some fc34 | 37=>some fc37 | 38=>some fc38 | 39=>some fc39 | 40=>some fc40
 | 41=>some fc41 | 44=>some fc44 | 48=>some fc48 | 49=>some fc49 | 50=>some fc50
 | 51=>some fc51 | 52=>some fc52 | 53=>some fc53 | 56=>some fc56 | 57=>some fc57 | 58=>some fc58 | 59=>some fc59 | 60=>some fc60
 | 61=>some fc61 | 62=>some fc62 | 64=>some fc64 | 65=>some fc65 | 66=>some fc66 | 67=>some fc67
 | 76=>some fc76 | 78=>some fc78 | 79=>some fc79
 |_=>none
def pgG:Nat→Option (List PD):=fun _=>none
def pg:Pg:={F:=pgF,G:=pgG,lib:=pgL}
end Go.Proofs.YtalgjkpkkdljaaaDoor
namespace Go.Proofs.YtalgjkpkkdljaaaDoor
open Go.Proofs
def ren171:Go.Shelf.Ren where
 f:=fun | 171=>63 | 243=>80 | 246=>82 | 283=>83 | 284=>84 | 285=>85 | 286=>86 | 129=>88 | 317=>87 | 318=>89 | 319=>90 | 320=>91 | 337=>92 | 338=>93 |n=>n
 t:=fun | 3=>3 | 9=>9 | 2=>2 | 4=>4 | 171=>115 | 0=>0 | 53=>116 | 37=>73 | 5=>5 | 173=>119 | 212=>122 | 51=>123 | 20=>20 | 213=>124 | 46=>126 | 232=>129 | 233=>130 |n=>n
 g:=fun | 17=>0 | 18=>1 | 19=>2 |n=>n
theorem lays171:Go.Proofs.LaysM.n171 Tryd.prog ren171 where
 i171:=by kernel_rfl
 i212:=by kernel_rfl
 i232:=by kernel_rfl
 i233:=by kernel_rfl
 mixed:=by kernel_rfl
 f129:=Tryd.func88.trans (by kernel_rfl)
 f171:=Tryd.func63.trans (by kernel_rfl)
 f243:=Tryd.func80.trans (by kernel_rfl)
 f246:=Tryd.func82.trans (by kernel_rfl)
 f283:=Tryd.func83.trans (by kernel_rfl)
 f284:=Tryd.func84.trans (by kernel_rfl)
 f285:=Tryd.func85.trans (by kernel_rfl)
 f286:=Tryd.func86.trans (by kernel_rfl)
 f317:=Tryd.func87.trans (by kernel_rfl)
 f318:=Tryd.func89.trans (by kernel_rfl)
 f319:=Tryd.func90.trans (by kernel_rfl)
 f320:=Tryd.func91.trans (by kernel_rfl)
 f337:=Tryd.func92.trans (by kernel_rfl)
 f338:=Tryd.func93.trans (by kernel_rfl)
 t0:=Tryd.underlying0
 a0:=Tryd.isAgg0
 z0:=Tryd.sizeOf0
 v0:=Tryd.zeroValue0
 t2:=Tryd.underlying2
 a2:=Tryd.isAgg2
 z2:=Tryd.sizeOf2
 v2:=Tryd.zeroValue2
 t3:=Tryd.underlying3
 a3:=Tryd.isAgg3
 z3:=Tryd.sizeOf3
 v3:=Tryd.zeroValue3
 t4:=Tryd.underlying4
 a4:=Tryd.isAgg4
 z4:=Tryd.sizeOf4
 v4:=Tryd.zeroValue4
 t5:=Tryd.underlying5
 a5:=Tryd.isAgg5
 z5:=Tryd.sizeOf5
 v5:=Tryd.zeroValue5
 t9:=Tryd.underlying9
 a9:=Tryd.isAgg9
 z9:=Tryd.sizeOf9
 v9:=Tryd.zeroValue9
 t20:=Tryd.underlying20
 a20:=Tryd.isAgg20
 z20:=Tryd.sizeOf20
 v20:=Tryd.zeroValue20
 t37:=Tryd.underlying73
 a37:=Tryd.isAgg73
 z37:=Tryd.sizeOf73
 v37:=Tryd.zeroValue73
 t46:=Tryd.underlying126
 a46:=Tryd.isAgg126
 z46:=Tryd.sizeOf126
 v46:=Tryd.zeroValue126
 t51:=Tryd.underlying123
 a51:=Tryd.isAgg123
 z51:=Tryd.sizeOf123
 v51:=Tryd.zeroValue123
 t53:=Tryd.underlying116
 a53:=Tryd.isAgg116
 z53:=Tryd.sizeOf116
 v53:=Tryd.zeroValue116
 t171:=Tryd.underlying115
 a171:=Tryd.isAgg115
 z171:=Tryd.sizeOf115
 v171:=Tryd.zeroValue115
 t173:=Tryd.underlying119
 a173:=Tryd.isAgg119
 z173:=Tryd.sizeOf119
 v173:=Tryd.zeroValue119
 t212:=Tryd.underlying122
 a212:=Tryd.isAgg122
 z212:=Tryd.sizeOf122
 v212:=Tryd.zeroValue122
 t213:=Tryd.underlying124
 a213:=Tryd.isAgg124
 z213:=Tryd.sizeOf124
 t232:=Tryd.underlying129
 a232:=Tryd.isAgg129
 z232:=Tryd.sizeOf129
 v232:=Tryd.zeroValue129
 t233:=Tryd.underlying130
 a233:=Tryd.isAgg130
 z233:=Tryd.sizeOf130
 v233:=Tryd.zeroValue130
 g17:=by kernel_rfl
 g18:=by kernel_rfl
 g19:=by kernel_rfl
 i0:=by kernel_rfl
 i2:=by kernel_rfl
 i3:=by kernel_rfl
 i4:=by kernel_rfl
 i5:=by kernel_rfl
 i9:=by kernel_rfl
 i20:=by kernel_rfl
 i37:=by kernel_rfl
 i46:=by kernel_rfl
 i51:=by kernel_rfl
 i53:=by kernel_rfl
 i173:=by kernel_rfl
 m17:=by kernel_rfl
 m18:=by kernel_rfl
 m19:=by kernel_rfl
theorem sizeB:(Tryd.prog.info? 75).map (·.size)=some 2:=by kernel_rfl
set_option maxHeartbeats 1000000 in
set_option maxRecDepth 100000 in
theorem cc_used(b:Nat)(w:World)(h0:w.cell? ⟨b,0,none⟩=some (.pointer (some ⟨b,0,none⟩))):
    Calls Tryd.prog 77 #[.pointer (some ⟨b,0,none⟩)] w fun e w'=>e= .returned (.tuple #[])∧w'=w:=by
 obtain⟨j,hj,_⟩:=Option.map_eq_some_iff.1 sizeB
 have t72:=Tryd.underlying72;have a72:=Tryd.isAgg72;have z72:=Tryd.sizeOf72;have v72:=Tryd.zeroValue72;have u72:=run_underlying Tryd.underlying72
 go_enter Tryd.func77,Tryd.ntmps77
 go_wp2
 rw[Lib.run_neq_ptr_same w _ Tryd.underlying72 hj]
 go_wp2
 go_end0
 exact⟨rfl,rfl⟩
set_option maxHeartbeats 1000000 in
set_option maxRecDepth 100000 in
theorem cc_fresh(b:Nat)(w:World)(h0:w.cell? ⟨b,0,none⟩=some (.pointer none))(hsh:w.shape? b=some (78,4))(hfz:w.frozen? ⟨b,0,none⟩=false):
    Calls Tryd.prog 77 #[.pointer (some ⟨b,0,none⟩)] w fun e w'=>e= .returned (.tuple #[])∧w'=w.setCell ⟨b,0,none⟩ (.pointer (some ⟨b,0,none⟩)):=by
 obtain⟨j,hj,hjs⟩:=Option.map_eq_some_iff.1 sizeB
 have t72:=Tryd.underlying72;have a72:=Tryd.isAgg72;have z72:=Tryd.sizeOf72;have v72:=Tryd.zeroValue72;have u72:=run_underlying Tryd.underlying72
 have t112:=Tryd.underlying112;have a112:=Tryd.isAgg112;have z112:=Tryd.sizeOf112;have v112:=Tryd.zeroValue112;have u112:=run_underlying Tryd.underlying112
 go_enter Tryd.func77,Tryd.ntmps77
 go_wp2
 rw[Lib.run_to_unsafe w ⟨b,0,none⟩ Tryd.underlying72 Tryd.underlying112 hj (by rw[hjs];decide) hsh (Nat.zero_lt_succ 3)]
 simp only[Result.andThen]
 rw[Oper.upon_value]
 go_wp2
 rw[run_callFunc_extern Tryd.func81 (by kernel_rfl) (by kernel_rfl) (by kernel_rfl) (e:=Extern.AbiNoEscape.same) (by kernel_rfl)]
 rw[Lib.run_noEscape]
 simp only[Result.andThen]
 rw[Oper.upon_value]
 go_wp2
 rw[Lib.run_from_unsafe w ⟨b,0,none⟩ Tryd.underlying112 Tryd.underlying72 hj hsh (by kernel_rfl)]
 simp only[Result.andThen]
 rw[Oper.upon_value]
 go_wp2
 go_end0
 exact⟨rfl,rfl⟩
end Go.Proofs.YtalgjkpkkdljaaaDoor
namespace Go.Proofs.YtalgjkpkkdljaaaDoor
open Go.Vs Go.RowKit
structure WOk (W:World):Prop where
 tab:Lib.TabIs Tryd.prog W "internal/strconv.uint64pow10" .u64 Lib.pow10Tab
theorem tab_later{W w:World}(B:Below W.heap.size W w){name:String}{k:IntKind}{zs:List Int}(h:Lib.TabIs Tryd.prog W name k zs):Lib.TabIs Tryd.prog w name k zs:=by
 unfold Lib.TabIs World.var? at h⊢
 obtain⟨g,hg,h2⟩:=Option.bind_eq_some_iff.1 h
 have hlt:g<W.heap.size:=by
  rcases Nat.lt_or_ge g W.heap.size with q |q
  ·exact q
  ·rw[Array.getElem?_eq_none q] at h2;cases h2
 rw[hg]
 simp only[Option.bind_some]
 rw[B.block g hlt];exact h2
variable {W : World}
theorem meets_itoa(hW:WOk W)(n:Int)(H:Hp)(h0: -9223372036854775808≤n)(h1:n≤9223372036854775807):Meets Tryd.prog W pgG 63 [.p (.int .i64 n)] H (.val (.p (.str (Lib.itoa n)))) H:=
 lib_meets ⟨Tryd.f63,Tryd.func63,by kernel_rfl,by kernel_rfl⟩ fun γ w vs I hv=>by
  obtain⟨v,rfl,hr⟩:=repL_one hv
  rw[hr.p_inv.int_inv]
  refine(Any.strconv_Itoa lays171 n h0 h1 w (tab_later I.blw hW.tab)).mono ?_
  rintro e w' ⟨rfl,k,os,rfl⟩
  exact⟨_,rfl,Lib.below_grow _ w (Nat.le_refl _) k os,.p _ _ (.str _)⟩
theorem meets_cc(H H':Hp)(r:Res)(h:pgL 77 [.box 0 0] H=some (r,H')):Meets Tryd.prog W pgG 77 [.box 0 0] H r H':=by
 refine⟨⟨Tryd.f77,Tryd.func77,by kernel_rfl,by kernel_rfl⟩,fun γ w vs I hv=>?_⟩
 obtain⟨v,rfl,hr⟩:=repL_one hv
 cases hr with
 |box _ _ b hb=>
  simp only[pgL] at h
  split at h
  ·rename_i q l hbx
   cases h
   obtain⟨us,T,fr,q1,q2,q3,q4⟩:=I.box 0 b _ hb (by rw[hbx];rfl)
   have hm:isMapC (D.fresh 78 4 0::q)=false:=by cases q<;>rfl
   rw[viewC_of hm] at q1
   have q20:=q2.2 0 _ rfl
   generalize hu:us.getD 0 undef=u at q20
   cases q20 with
   |fresh _ _ _ b' hb' ht=>
    rw[hb] at hb'
    cases hb'
    obtain⟨us',fr',z1,z2,_⟩:=I.tys _ _ _ ht
    rw[q1] at z1
    cases z1
    have hus:0<us.size:=by omega
    have h0:us[0]? =some (.pointer none):=by
     rw[Array.getElem?_eq_getElem hus]
     simpa[Array.getD_eq_getD_getElem?,hus] using hu
    have hcl:=q4 (by simp)
    refine(cc_fresh b w (by simp only[World.cell?,q1];simpa using h0) (by simp[World.shape?,q1,z2]) ?_).mono ?_
    ·have:=hcl 0 (Nat.le_refl _) hus
     simp only[World.frozen?,q1]
     obtain⟨f1,f2⟩:=fr
     simp only at this⊢
     cases hd:(decide (f1≤0)&&decide (0<f2)) with
     |false=>rfl
     |true=>simp at hd;exact(this ⟨by simp;omega,by simpa using hd.2⟩).elim
    ·rintro e w' ⟨rfl,rfl⟩
     have hst:=I.toInv.store (off:=0) hb (by rw[hbx];rfl) (us:=[.pointer (some ⟨b,0,none⟩)]) (ds:=[.box 0 0]) (repL1 (.box 0 0 b hb)) (fun d hd=>by simp at hd;subst hd;rfl) (by simp) q1 hcl q2 hm
     have hw:w.setCell ⟨b,0,none⟩ (.pointer (some ⟨b,0,none⟩))=w.setRow b (us.toList.take 0++[Value.pointer (some ⟨b,0,none⟩)]++us.toList.drop (0+[Value.pointer (some ⟨b,0,none⟩)].length)).toArray:=by
      rw[setCell_eq_setRow w b 0 us _ fr _ q1]
      congr 1
      apply Array.ext'
      obtain⟨l⟩:=us
      match l,hus with
      |x::l,_=>simp
     have hs:∀bx:List (List D),bx=(.fresh 78 4 0::q)::l→bx.set 0 (Vs.splice (.fresh 78 4 0::q) 0 [.box 0 0])=(.box 0 0::q)::l:=by
      intro bx hb;subst hb;simp[Vs.splice]
     rw[hs _ hbx] at hst
     obtain⟨F,J⟩:=hst
     rw[hw]
     exact⟨γ,.refl γ,F,I.up (.refl γ) F J,_,rfl,.undef⟩
  ·rename_i q l hbx
   cases h
   obtain⟨us,T,fr,q1,q2,q3,q4⟩:=I.box 0 b _ hb (by rw[hbx];rfl)
   have hm:isMapC (D.box 0 0::q)=false:=by cases q<;>rfl
   rw[viewC_of hm] at q1
   have q20:=q2.2 0 _ rfl
   have hus:0<us.size:=by have:=q2.1;simp at this;omega
   generalize hu:us.getD 0 undef=u at q20
   cases q20 with
   |box _ _ b' hb'=>
    rw[hb] at hb'
    cases hb'
    have h0:us[0]? =some (.pointer (some ⟨b,0,none⟩)):=by
     rw[Array.getElem?_eq_getElem hus]
     simpa[Array.getD_eq_getD_getElem?,hus] using hu
    refine(cc_used b w (by simp only[World.cell?,q1];simpa using h0)).mono ?_
    rintro e w' ⟨rfl,rfl⟩
    exact⟨γ,.refl γ,.refl γ H w',I,_,rfl,.undef⟩
  ·cases h
theorem lib_sound(hW:WOk W):Sound Tryd.prog W pg.G pg.lib:=by
 intro f args H r H' h
 have h:pgL f args H=some (r,H'):=h
 have h0:=h
 unfold pgL at h
 split at h
 ·split at h
  ·rename_i hc;cases h;exact meets_itoa hW _ _ hc.1 hc.2
  ·cases h
 ·exact meets_cc _ _ _ h0
 ·cases h
theorem pg_ok(hW:WOk W):PgOk Tryd.prog W pg where
 mixed:=Checked.mixed Tryd.checked
 lib:=lib_sound hW
 fn:=fun f fc h=>by
  have h:pgF f=some fc:=h
  unfold pgF at h
  split at h
  ·cases h;exact ok4
  ·cases h;exact ok6
  ·cases h;exact ok9
  ·cases h;exact ok11
  ·cases h;exact ok13
  ·cases h;exact ok14
  ·cases h;exact ok17
  ·cases h;exact ok19
  ·cases h;exact ok21
  ·cases h;exact ok22
  ·cases h;exact ok23
  ·cases h;exact ok25
  ·cases h;exact ok26
  ·cases h;exact ok27
  ·cases h;exact ok28
  ·cases h;exact ok29
  ·cases h;exact ok30
  ·cases h;exact ok31
  ·cases h;exact ok32
  ·cases h;exact ok33
  ·cases h;exact ok34
  ·cases h;exact ok37
  ·cases h;exact ok38
  ·cases h;exact ok39
  ·cases h;exact ok40
  ·cases h;exact ok41
  ·cases h;exact ok44
  ·cases h;exact ok48
  ·cases h;exact ok49
  ·cases h;exact ok50
  ·cases h;exact ok51
  ·cases h;exact ok52
  ·cases h;exact ok53
  ·cases h;exact ok56
  ·cases h;exact ok57
  ·cases h;exact ok58
  ·cases h;exact ok59
  ·cases h;exact ok60
  ·cases h;exact ok61
  ·cases h;exact ok62
  ·cases h;exact ok64
  ·cases h;exact ok65
  ·cases h;exact ok66
  ·cases h;exact ok67
  ·cases h;exact ok76
  ·cases h;exact ok78
  ·cases h;exact ok79
  ·cases h
end Go.Proofs.YtalgjkpkkdljaaaDoor
namespace Go.Proofs.YtalgjkpkkdljaaaDoor
open Go.Vs Go.ChangeShapes Go.WideShapes Go.ChangeAt Go.WideMaps Go.WideElems Go.RowKit
abbrev laidL:List (String×DataW Unit):=[("math/bits.deBruijn32tab",Rows.laid_math_bits_deBruijn32tab),("math/bits.deBruijn64tab",Rows.laid_math_bits_deBruijn64tab),("internal/strconv.uint64pow10",Rows.laid_internal_strconv_uint64pow10)]
theorem own:ownKnob Tryd.prog.godebug=none:=by kernel_rfl
theorem laidOut:laidOutB Tryd.prog=true:=by kernel_rfl
theorem gTab:Tryd.prog.globalNamed "internal/strconv.uint64pow10" =some 0:=by kernel_rfl
theorem tTab:(Tryd.prog.globals[0]?).map (·.type)=some 122:=by kernel_rfl
theorem door_met(os:Os)(args:Array Value):laidMetH Tryd.prog laidL ((World.laidAll Tryd.prog os laidL).forCall (fun _ _=>0) ⟨#[],args,[]⟩).memory:=by
 rw[MakeChecks.laidMetH_plain _ _ _ (by kernel_rfl)]
 exact laidMet_laidAll _ (by kernel_rfl) (by kernel_rfl)
set_option maxRecDepth 20000 in
theorem wok{W:World}(h:laidMetH Tryd.prog laidL W):WOk W:=by
 rw[MakeChecks.laidMetH_plain _ _ _ (by kernel_rfl)] at h
 obtain⟨ps,⟨g0,t0,cs0,f0,p0,q0,_,_,_,_,⟨g1,t1,cs1,f1,p1,q1,_,_,_,_,⟨g2,t2,cs2,f2,p2,q2,hg2,ht2,hv2,hd2,_⟩,_⟩,_⟩,_⟩:=h
 obtain rfl:=Option.some.inj (gTab.symm.trans hg2)
 obtain rfl:=Option.some.inj (tTab.symm.trans ht2)
 refine⟨?_⟩
 unfold Lib.TabIs
 rw[hv2]
 have h5:=Tryd.underlying122
 have h6:=Tryd.underlying116
 have e5:(Rows.laid_internal_strconv_uint64pow10:DataW Unit)=Lib.tabData .u64 Lib.pow10Tab:=by kernel_rfl
 rw[e5] at hd2
 have:=Lib.cells_of_tab (zs:=Lib.pow10Tab) h5 h6 (by kernel_rfl) (by kernel_rfl) hd2
 rw[←this]
end Go.Proofs.YtalgjkpkkdljaaaDoor
namespace Go.Proofs.YtalgjkpkkdljaaaDoor
open Go.Vs
def i64(n:Int):Prop:= -9223372036854775808≤n∧n≤9223372036854775807
def ndSl{α:Type}:Nat→List α→Sl α
 | 0,[]=>.nil
 | 1,[]=>.amb
 |_,l=>.of l
theorem els_ndSl{α:Type}(c:Nat)(l:List α):els (ndSl c l)=l:=by
 unfold ndSl;split<;>rfl
theorem map_ndSl{α β:Type}(f:α→β)(c:Nat)(l:List α):(ndSl c l).map f=ndSl c (l.map f):=by
 cases l with
 |nil=>match c with
  | 0=>rfl
  | 1=>rfl
  |c+2=>rfl
 |cons x l=>match c with
  | 0=>rfl
  | 1=>rfl
  |c+2=>rfl
inductive Nd where
 |mk (op:Int) (nm:List UInt8) (n:Int) (c:Nat) (ks:List Nd) (pos:Int)
def Nd.op:Nd→Int | .mk op _ _ _ _ _=>op
def Nd.nm:Nd→List UInt8 | .mk _ nm _ _ _ _=>nm
def Nd.n:Nd→Int | .mk _ _ n _ _ _=>n
def Nd.c:Nd→Nat | .mk _ _ _ c _ _=>c
def Nd.ks:Nd→List Nd | .mk _ _ _ _ ks _=>ks
def Nd.pos:Nd→Int | .mk _ _ _ _ _ pos=>pos
mutual
def Nd.pd:Nd→PD
 | .mk op nm n c ks pos=>.agg [.int .i64 op,.str nm,.int .i64 n,slP 5 (ndSl c (Nd.pdL ks)),.int .i64 pos]
def Nd.pdL:List Nd→List PD
 |[]=>[]
 |k::ks=>k.pd::Nd.pdL ks
end
theorem pdL_map:∀ks:List Nd,Nd.pdL ks=ks.map Nd.pd
 |[]=>rfl
 |k::ks=>by simp[Nd.pdL,pdL_map ks]
def Nd.kidsP(a:Nd):PD:=slP 5 ((ndSl a.c a.ks).map Nd.pd)
def Nd.cells(a:Nd):List PD:=[.int .i64 a.op,.str a.nm,.int .i64 a.n,a.kidsP,.int .i64 a.pos]
theorem pd_cells(a:Nd):a.pd= .agg a.cells:=by
 cases a with
 |mk op nm n c ks pos=>simp only[Nd.pd,Nd.cells,Nd.op,Nd.nm,Nd.n,Nd.kidsP,Nd.c,Nd.ks,Nd.pos,pdL_map,map_ndSl]
@[simp] theorem one_kids(a:Nd):(D.p a.kidsP).one=true:=one_slP ..
@[simp] theorem pone_kids(a:Nd):a.kidsP.one=true:=pone_slP ..
theorem rec_nd(a:Nd):Rec 5 a.pd:=⟨a.cells,pd_cells a,rfl,fun c hc=>by
 simp only[Nd.cells,List.mem_cons,List.not_mem_nil,or_false] at hc
 rcases hc with rfl |rfl |rfl |rfl |rfl<;>first |rfl |exact pone_kids a⟩
mutual
def Nd.size:Nd→Nat
 | .mk _ _ _ _ ks _=>1+Nd.sizeL ks
def Nd.sizeL:List Nd→Nat
 |[]=>0
 |k::ks=>k.size+Nd.sizeL ks
end
theorem size_eq(a:Nd):a.size=1+Nd.sizeL a.ks:=by cases a;rfl
theorem size_mem:∀{ks:List Nd} {k:Nd},k∈ks→k.size≤Nd.sizeL ks
 |x::ks,k,h=>by
  simp only[Nd.sizeL]
  rcases List.mem_cons.1 h with rfl |h
  ·omega
  ·have:=size_mem h;omega
theorem size_kid{a k:Nd}(h:k∈a.ks):k.size<a.size:=by
 have:=size_mem h
 rw[size_eq a];omega
theorem len_sizeL:∀ks:List Nd,ks.length≤Nd.sizeL ks
 |[]=>Nat.le_refl _
 |k::ks=>by
  have:=len_sizeL ks
  have:=size_eq k
  simp only[Nd.sizeL,List.length_cons];omega
mutual
def eqN:Nd→Nd→Bool
 | .mk op nm n _ ks _,.mk op' nm' n' _ ks' _=>(op==op'&&nm==nm'&&n==n')&&eqNL ks ks'
def eqNL:List Nd→List Nd→Bool
 |[],[]=>true
 |a::x,b::y=>eqN a b&&eqNL x y
 |_,_=>false
end
theorem eqNL_all:∀x y:List Nd,eqNL x y=eqAll eqN x y
 |[],[]=>by simp[eqNL,eqAll]
 |a::x,b::y=>by simp[eqNL,eqAll,eqNL_all x y]
 |[],_::_=>by simp[eqNL,eqAll]
 |_::_,[]=>by simp[eqNL,eqAll]
theorem eqN_eq(a b:Nd):eqN a b=((a.op==b.op&&a.nm==b.nm&&a.n==b.n)&&eqAll eqN a.ks b.ks):=by
 cases a;cases b
 simp only[eqN,Nd.op,Nd.nm,Nd.n,Nd.ks,eqNL_all]
theorem callD_any{f:Nat}{args:List D}{d d':D}(h:∃Hl,call pg f args ⟨[],[]⟩=some (.val d,Hl))(hr:D.refsL args=[])(ht:D.toksL args=[])(ha:D.renL (idx []) (idx []) args=some args)
    (hd:d.ren (fun _=>none) (fun _=>none)=some d') (H:Hp):callD (call pg) f args H=some (.val d',H):=by
 obtain⟨Hl,h⟩:=h
 exact callD_pure h hr ht ha hd
theorem equalNodes0:∀(s:Nat) (a b:Nd),a.size≤s→s≤1000000000→∃H',call pg 9 [.p a.pd,.p b.pd] ⟨[],[]⟩=some (.val (.p (.bool (eqN a b))),H'):=by
 intro s
 induction s with
 |zero=>intro a b h;have:=size_eq a;omega
 |succ s ih=>
  intro a b hs hB
  have hkids:∀H,callD (call pg) 25 [.p a.kidsP,.p b.kidsP,.fn 9 [] []] H=some (.val (.p (.bool (eqAll eqN a.ks b.ks))),H):=by
   intro H
   have hlen:=len_sizeL a.ks
   have hsz:=size_eq a
   have:=eqf_eq (p:=pg) (fi:=25) (g:=9) (sz:=5) (zs:=[.int .i64 0,.str [],.int .i64 0,.nils,.int .i64 0]) (f:=Nd.pd) (a:=ndSl a.c a.ks) (b:=ndSl b.c b.ks) (r:=eqN) rfl rfl rfl (by decide) rfl
    (fun x _=>rec_nd x) (fun x _=>rec_nd x) (fun k h1 h2 H=>by
     have hm:∀x∈els (ndSl a.c a.ks),x∈a.ks:=fun x hx=>by rw[els_ndSl] at hx;exact hx
     have hsk:=size_kid (hm _ (List.getElem_mem h1))
     exact callD_any (ih _ _ (by omega) (by omega)) rfl rfl rfl rfl H) (by rw[els_ndSl];omega)
   rw[els_ndSl,els_ndSl] at this
   exact callD_pure this rfl rfl rfl rfl
  rw[pd_cells,pd_cells]
  refine⟨_,call_body (fc:=fc9) rfl rfl rfl rfl (r:=(_,⟨[a.cells.map .p,b.cells.map .p],[]⟩)) ?_⟩
  have e:=eqN_eq a b
  cases h1:(a.op==b.op) with
  |false=>
   rw[h1] at e
   simp[fc9,evKC,evK,evGuard,put,Env.get,Env.keep,entry,Opd.ev,loadD,cutAt,binD,finish,evRes,evRes1,D.cells,isMapC,isMapC,Nd.cells,h1,e]
  |true=>
   cases h2:(a.nm==b.nm) with
   |false=>
    rw[h1,h2] at e
    simp[fc9,evKC,evK,evGuard,put,Env.get,Env.keep,entry,Opd.ev,loadD,cutAt,binD,strBin,finish,evRes,evRes1,D.cells,isMapC,isMapC,Nd.cells,h1,h2,e]
   |true=>
    cases h3:(a.n==b.n) with
    |false=>
     rw[h1,h2,h3] at e
     simp[fc9,evKC,evK,evGuard,put,Env.get,Env.keep,entry,Opd.ev,loadD,cutAt,binD,strBin,finish,evRes,evRes1,D.cells,isMapC,isMapC,Nd.cells,h1,h2,h3,e]
    |true=>
     rw[h1,h2,h3] at e
     simp[fc9,evKC,evK,evGuard,put,Env.get,Env.keep,entry,Opd.ev,loadD,cutAt,binD,strBin,finish,evRes,evRes1,D.cells,isMapC,isMapC,Nd.cells,h1,h2,h3,e,hkids]
theorem equalNodes_eq{a b:Nd}(h:a.size≤1000000000)(H:Hp):callD (call pg) 9 [.p a.pd,.p b.pd] H=some (.val (.p (.bool (eqN a b))),H):=
 callD_any (equalNodes0 _ a b (Nat.le_refl _) h) rfl rfl rfl rfl H
theorem len_kids(a:Nd):lenD 1 (.p a.kidsP)=some a.ks.length:=by
 rw[Nd.kidsP,len_map,els_ndSl]
theorem nd_cells(a:Nd):a.pd.cells=a.cells:=by rw[pd_cells,cells_agg]
theorem ia_kids{a:Nd}{k:Nat}(h:k<a.ks.length):iaddrD none 5 (.p a.kidsP) (k:Int)=some (.ro (a.ks[k]).cells 0):=by
 have h':k<(els (ndSl a.c a.ks)).length:=by rw[els_ndSl];exact h
 rw[Nd.kidsP,ia_map h',←nd_cells]
 simp only[els_ndSl]
theorem load_nd{G:Nat→Option (List PD)}{H:Hp}(x:Nd):loadD G H (some 5) (.ro x.cells 0)=some (.p x.pd):=by
 rw[pd_cells];exact load_ro rfl
theorem pd_one(a:Nd):∀c∈a.cells,c.one=true:=fun c hc=>by
 simp only[Nd.cells,List.mem_cons,List.not_mem_nil,or_false] at hc
 rcases hc with rfl |rfl |rfl |rfl |rfl<;>first |rfl |exact pone_kids a
theorem load_ndb{G:Nat→Option (List PD)}{H:Hp}{i:Nat}{x:Nd}(hb:H.bx[i]? =some (x.cells.map D.p)):loadD G H (some 5) (.box i 0)=some (.p x.pd):=by
 rw[pd_cells];exact load_box hb rfl
theorem one_cells(a:Nd):∀c∈a.cells,(D.p c).one=true:=fun c hc=>by
 simp only[Nd.cells,List.mem_cons,List.not_mem_nil,or_false] at hc
 rcases hc with rfl |rfl |rfl |rfl |rfl<;>first |rfl |exact one_kids a
theorem one_all(a:Nd):(∀x,x∈a.cells→(D.p x).one=true)=True:=eq_true (one_cells a)
def cntN(s left:Nat):Nat:=min s (left+1)
theorem ld_kids{G:Nat→Option (List PD)}(a:Nd)(tk:List Nat):loadD G ⟨[a.cells.map .p],tk⟩ none (.box 0 3)=some (.p a.kidsP):=rfl
theorem cntN_step(s z left sum:Nat)(h:sum≤left):min (sum+cntN s (left-sum)+z) (left+1)=min (sum+(s+z)) (left+1):=by
 simp only[cntN];omega
structure Srt where
 nm:List UInt8
 o:Bool
structure Prm where
 nm:List UInt8
 s:Int
structure Fld where
 nm:List UInt8
 l:Sl Int
 v:Bool
structure Prd where
 nm:List UInt8
 l:Sl Prm
 b:Nd
structure Fct where
 nm:List UInt8
 b:Nd
structure Spc where
 s:Sl Srt
 f:Sl Fld
 p:Sl Prd
 q:Sl Fct
def Srt.cells(x:Srt):List PD:=[.str x.nm,.bool x.o]
def Prm.cells(x:Prm):List PD:=[.str x.nm,.int .i64 x.s]
def Srt.pd(x:Srt):PD:=.agg x.cells
def Prm.pd(x:Prm):PD:=.agg x.cells
def intsP(l:Sl Int):PD:=slP 1 (l.map (PD.int .i64))
def prmsP(l:Sl Prm):PD:=slP 2 (l.map Prm.pd)
def srtsP(l:Sl Srt):PD:=slP 2 (l.map Srt.pd)
def Fld.cells(x:Fld):List PD:=[.str x.nm,intsP x.l,.bool x.v]
def Fld.pd(x:Fld):PD:=.agg x.cells
def Prd.cells(x:Prd):List PD:=[.str x.nm,prmsP x.l]++x.b.cells
def Prd.pd(x:Prd):PD:=.agg x.cells
def Fct.cells(x:Fct):List PD:=[.str x.nm]++x.b.cells
def Fct.pd(x:Fct):PD:=.agg x.cells
def fldsP(l:Sl Fld):PD:=slP 3 (l.map Fld.pd)
def prdsP(l:Sl Prd):PD:=slP 7 (l.map Prd.pd)
def fctsP(l:Sl Fct):PD:=slP 6 (l.map Fct.pd)
def Spc.cells(x:Spc):List PD:=[srtsP x.s,fldsP x.f,prdsP x.p,fctsP x.q]
def Spc.pd(x:Spc):PD:=.agg x.cells
theorem one_of{cs:List PD}(h:∀c∈cs,c.one=true):(∀x,x∈cs→(D.p x).one=true)=True:=eq_true fun c hc=>h c hc
def Mod(x:Spc):Prop:=(els x.s).length≤20∧(els x.f).length≤20∧(els x.p).length≤20∧(els x.q).length≤20∧(∀y∈els x.f,(els y.l).length≤20)∧(∀y∈els x.p,y.b.size≤400∧(els y.l).length≤20)∧∀y∈els x.q,y.b.size≤400
instance (x:Spc):Decidable (Mod x):=by unfold Mod;exact inferInstance
end Go.Proofs.YtalgjkpkkdljaaaDoor
namespace Go.Proofs.YtalgjkpkkdljaaaDoor
open Go.Vs Go.ChangeShapes Go.WideShapes Go.RowKit
theorem list_of{α:Type}{f:α→PD}:∀{es:List PD},(∀x∈es,∃a,x=f a)→∃l:List α,es=l.map f
 |[],_=>⟨[],rfl⟩
 |x::es,h=>by
  obtain⟨a,rfl⟩:=h x (by simp)
  obtain⟨l,rfl⟩:=list_of (es:=es) fun y hy=>h y (by simp[hy])
  exact⟨a::l,rfl⟩
theorem arg_sl{t e sz:Nat}{α:Type}{f:α→PD}{xs:List PD}(ht:Tryd.prog.underlying t=some (.slice e))(hc:Tryd.prog.cellsOf e=sz)(h:TyP Tryd.prog t xs)
    (he:∀es x,xs=[.slice sz es]→x∈es→TyP Tryd.prog e x.cells→x=mkE Tryd.prog e x.cells→∃a,x=f a):∃o:Sl α,xs=[slP sz (o.map f)]:=by
 subst hc
 rcases typ_slice ht h with rfl |rfl |⟨es,hne,hl,rfl,h1,h2⟩
 ·exact⟨.nil,rfl⟩
 ·exact⟨.of [],rfl⟩
 ·obtain⟨l,rfl⟩:=list_of fun x hx=>he es x rfl hx (h1 x hx) (h2 x hx)
  refine⟨.of l,?_⟩
  cases l with
  |nil=>exact absurd rfl hne
  |cons z zs=>rfl
theorem sl_nd(o:Sl Nd):∃c ks,o=ndSl c ks:=by
 match o with
 | .nil=>exact⟨0,[],rfl⟩
 | .amb=>exact⟨1,[],rfl⟩
 | .of []=>exact⟨2,[],rfl⟩
 | .of (x::l)=>exact⟨2,x::l,rfl⟩
theorem arg_node:∀(n:Nat) (xs:List PD),SizeOf.sizeOf xs≤n→TyP Tryd.prog 24 xs→∃a:Nd,xs=a.cells:=by
 intro n
 induction n with
 |zero=>intro xs h;cases xs<;>simp at h
 |succ n ih=>
  intro xs hs h
  obtain⟨parts,rfl,hl,hf⟩:=typ_struct Tryd.underlying24 h
  match parts,hl with
  |[a,b,c,d,e],_=>
   obtain⟨op,rfl,_⟩:=typ_int Tryd.underlying3 (hf 0 _ a rfl rfl)
   obtain⟨nm,rfl,_⟩:=typ_str Tryd.underlying9 (hf 1 _ b rfl rfl)
   obtain⟨k,rfl,_⟩:=typ_int Tryd.underlying3 (hf 2 _ c rfl rfl)
   obtain⟨pos,rfl,_⟩:=typ_int Tryd.underlying3 (hf 4 _ e rfl rfl)
   have hd:=hf 3 _ d rfl rfl
   obtain⟨o,rfl⟩:=arg_sl (f:=Nd.pd) (sz:=5) Tryd.underlying22 (by kernel_rfl) hd fun es x hes hx h1 h2=>by
    rw[mkE_struct Tryd.underlying24] at h2
    have hlt:SizeOf.sizeOf x<SizeOf.sizeOf es:=List.sizeOf_lt_of_mem hx
    have hx2:SizeOf.sizeOf x=1+SizeOf.sizeOf x.cells:=by
     have :SizeOf.sizeOf (PD.agg x.cells)=1+SizeOf.sizeOf x.cells:=by simp
     rw[←h2] at this;exact this
    subst hes
    simp at hs
    obtain⟨y,hy⟩:=ih x.cells (by omega) h1
    exact⟨y,by rw[h2,hy,pd_cells]⟩
   obtain⟨c,ks,rfl⟩:=sl_nd o
   exact⟨.mk op nm k c ks pos,by simp[Nd.cells,Nd.op,Nd.nm,Nd.n,Nd.pos,Nd.kidsP,Nd.c,Nd.ks]⟩
theorem node_of{xs:List PD}(h:TyP Tryd.prog 24 xs):∃a:Nd,xs=a.cells:=arg_node _ _ (Nat.le_refl _) h
abbrev argTs:List TypeId:=[24,22,30,25,26,27,28,45,48,53,55,50,51,46,3,9,4]
theorem argTs_ok:argTs.all (tyOk Tryd.prog argTs)=true:=by kernel_rfl
set_option maxRecDepth 20000 in
theorem rep_node{H:Type}{enc:TypeId×Value→H}{W:World}{r:Reach}{b0:Nat}{v:Value}{d:DataW H}{ps:List MemPlace}
    (hval:Value.okWide Tryd.prog W r b0 24 v) (hd:DataW.Trod enc Tryd.prog W 0 (fun _=>true) true 24 v d ps):
    ∃a:Nd,RepD (gh0 W) v (.p a.pd):=by
 obtain⟨x,h1,h2,h3,_⟩:=rep_any argTs_ok (by simp) hval hd
 obtain⟨a,e⟩:=node_of h2
 have hx:=h3 ⟨_,Tryd.underlying24⟩
 exact⟨a,by rw[pd_cells,←e,←hx];exact h1⟩
end Go.Proofs.YtalgjkpkkdljaaaDoor
namespace Go.Proofs.YtalgjkpkkdljaaaDoor
open Go.Vs
mutual
def mvN:Nd→Int→Nd
 | .mk op nm n _ ks pos,b=>.mk op nm n 1 (mvL ks b 0) (IntKind.i64.wrap (pos+b))
def mvL:List Nd→Int→Nat→List Nd
 |[],_,_=>[]
 |k::ks,b,i=>mvN k (IntKind.i64.wrap (b+(i:Int)))::mvL ks b (i+1)
end
def isTrue:Option (Res×Hp)→Bool
 |some (.val (.p (.bool true)),_)=>true
 |_=>false
theorem isTrue_some{o:Option (Res×Hp)}(h:isTrue o=true):∃H,o=some (.val (.p (.bool true)),H):=by
 unfold isTrue at h
 split at h
 ·exact⟨_,rfl⟩
 ·cases h
theorem head_run:isTrue (evF pg 60 6 [] ⟨[],[]⟩)=true:=by kernel_rfl
theorem head_eq(H:Hp):callD (call pg) 6 [] H=some (.val (.p (.bool true)),H):=by
 obtain⟨H',h⟩:=isTrue_some head_run
 exact callD_pure (call_of_evF 60 h) rfl rfl rfl rfl
mutual
theorem eqN_refl:∀a:Nd,eqN a a=true
 | .mk op nm n c ks pos=>by simp[eqN,eqNL_refl ks]
theorem eqNL_refl:∀l:List Nd,eqNL l l=true
 |[]=>rfl
 |a::l=>by simp[eqNL,eqN_refl a,eqNL_refl l]
end
mutual
theorem eqN_symm:∀a b:Nd,eqN a b=true→eqN b a=true
 | .mk op nm n c ks pos,.mk op' nm' n' c' ks' pos'=>by
  simp only[eqN,Bool.and_eq_true,beq_iff_eq]
  rintro⟨⟨⟨h1,h2⟩,h3⟩,h4⟩
  exact⟨⟨⟨h1.symm,h2.symm⟩,h3.symm⟩,eqNL_symm ks ks' h4⟩
theorem eqNL_symm:∀a b:List Nd,eqNL a b=true→eqNL b a=true
 |[],[],_=>rfl
 |a::x,b::y,h=>by
  simp only[eqNL,Bool.and_eq_true] at h⊢
  exact⟨eqN_symm a b h.1,eqNL_symm x y h.2⟩
 |[],_::_,h=>by simp[eqNL] at h
 |_::_,[],h=>by simp[eqNL] at h
end
mutual
theorem eqN_trans:∀a b c:Nd,eqN a b=true→eqN b c=true→eqN a c=true
 | .mk op nm n _ ks pos,.mk op' nm' n' _ ks' pos',.mk op'' nm'' n'' _ ks'' pos''=>by
  simp only[eqN,Bool.and_eq_true,beq_iff_eq]
  rintro⟨⟨⟨h1,h2⟩,h3⟩,h4⟩ ⟨⟨⟨g1,g2⟩,g3⟩,g4⟩
  exact⟨⟨⟨h1.trans g1,h2.trans g2⟩,h3.trans g3⟩,eqNL_trans ks ks' ks'' h4 g4⟩
theorem eqNL_trans:∀a b c:List Nd,eqNL a b=true→eqNL b c=true→eqNL a c=true
 |[],[],[],_,_=>rfl
 |a::x,b::y,c::z,h,g=>by
  simp only[eqNL,Bool.and_eq_true] at h g⊢
  exact⟨eqN_trans a b c h.1 g.1,eqNL_trans x y z h.2 g.2⟩
 |[],_::_,_,h,_=>by simp[eqNL] at h
 |_::_,[],_,h,_=>by simp[eqNL] at h
 |_,[],_::_,_,h=>by simp[eqNL] at h
 |_,_::_,[],_,h=>by simp[eqNL] at h
end
mutual
theorem eqN_mv:∀(a:Nd) (b:Int),eqN a (mvN a b)=true
 | .mk op nm n c ks pos,b=>by simp[mvN,eqN,eqNL_mv ks b 0]
theorem eqNL_mv:∀(l:List Nd) (b:Int) (i:Nat),eqNL l (mvL l b i)=true
 |[],_,_=>rfl
 |a::l,b,i=>by simp[mvL,eqNL,eqN_mv a,eqNL_mv l]
end
def bytesP(l:List UInt8):List PD:=l.map fun b=>.int .u8 b.toNat
theorem bytesP_len(l:List UInt8):(bytesP l).length=l.length:=by simp[bytesP]
theorem bytesP_app(a b:List UInt8):bytesP (a++b)=bytesP a++bytesP b:=by simp[bytesP]
theorem bytesOf_bytesP:∀l:List UInt8,bytesOf (bytesP l)=some l
 |[]=>rfl
 |b::l=>by
  have:=bytesOf_bytesP l
  simp only[bytesP] at this
  simp[bytesP,bytesOf,this]
structure Ent where
 k:Int
 s:List UInt8
 lv:Int
 a:Int
 b:Int
def Ent.pd(e:Ent):PD:=.agg [.str e.s,.int .i64 e.lv,.int .i64 e.a,.int .i64 e.b]
def look:List Ent→Int→Option Ent
 |[],_=>none
 |e::t,k=>if e.k=k then some e else look t k
def tabM(t:List Ent):List D:=[.mapc 13 (t.map fun e=>.int .i64 e.k) (t.map fun e=>.p e.pd)]
def zEnt:PD:=.agg [.str [],.int .i64 0,.int .i64 0,.int .i64 0]
def getT(t:List Ent)(k:Int):D:=match look t k with
 |some e=>.tup [.p e.pd,.p (.bool true)]
 |none=>.tup [.p zEnt,.p (.bool false)]
theorem findK_look(k:Int):∀(t:List Ent),(match findK (.int .i64 k) (t.map fun e=>PD.int .i64 e.k) with
    |some j=>((t.map fun e=>D.p e.pd)[j]?).map fun v=>D.tup [v,.p (.bool true)]
    |none=>some (.tup [.p zEnt,.p (.bool false)]))=some (getT t k):=by
 intro t
 induction t with
 |nil=>rfl
 |cons e t ih=>
  simp only[List.map_cons,findK,getT,look]
  by_cases h:e.k=k
  ·subst h
   simp[keyEq]
  ·have h1:keyEq (.int .i64 k) (.int .i64 e.k)=false:=by simp[keyEq];omega
   simp only[getT] at ih
   simp only[h1,if_neg h,Bool.false_eq_true,if_false]
   rw[←ih]
   cases findK (.int .i64 k) (t.map fun e=>PD.int .i64 e.k)<;>simp
theorem get_tab{H:Hp}{i:Nat}{t:List Ent}(h:H.bx[i]? =some (tabM t))(k:Int):mapgetD 13 zEnt true (.mapr i) (.p (.int .i64 k)) H=some (getT t k):=by
 have:=findK_look k t
 simp only[mapgetD,h,tabM]
 have hk:keyKind (.int .i64 k)=13:=rfl
 simp only[hk,true_and,ne_eq]
 exact this
def prC(f:Bool)(l:List UInt8):List D:=[if f then .fresh 78 4 0 else .box 0 0,.tsl 0 5 1 (bytesP l),.mapr 1,.mapr 2]
def binT:List Ent:=[⟨6,[32,43,32],8,8,9⟩,⟨7,[32,38,32],10,10,11⟩,⟨8,[32,45,32],8,8,9⟩,⟨9,[46],12,12,13⟩,⟨10,[32,45,62,32],11,11,12⟩,⟨14,[32,43,43,32],9,9,10⟩,⟨22,[32,43,32],8,8,9⟩,⟨23,[32,45,32],8,8,9⟩,⟨32,[32,105,110,32],7,8,8⟩,⟨33,[32,61,32],7,8,8⟩,⟨38,[32,61,32],7,8,8⟩,⟨39,[32,60,32],7,8,8⟩,⟨41,[32,38,38,32],4,4,5⟩,⟨42,[32,124,124,32],3,3,4⟩,⟨43,[32,61,62,32],2,3,2⟩,⟨44,[32,60,61,62,32],1,1,2⟩,⟨51,[32,117,110,116,105,108,32],5,6,5⟩]
def preT:List Ent:=[⟨11,[126],13,13,0⟩,⟨12,[94],13,13,0⟩,⟨13,[42],13,13,0⟩,⟨21,[35],12,12,0⟩,⟨34,[115,111,109,101,32],7,8,0⟩,⟨35,[110,111,32],7,8,0⟩,⟨36,[111,110,101,32],7,8,0⟩,⟨37,[108,111,110,101,32],7,8,0⟩,⟨40,[110,111,116,32],6,6,0⟩,⟨48,[97,108,119,97,121,115,32],6,6,0⟩,⟨49,[101,118,101,110,116,117,97,108,108,121,32],6,6,0⟩,⟨50,[97,102,116,101,114,32],6,6,0⟩]
def pH(f:Bool)(l:List UInt8)(bx:List (List D)):Hp:=⟨prC f l::tabM binT::tabM preT::bx,[l.length]⟩
theorem new_run:evF pg 10 39 [] ⟨[],[]⟩=some (.val (.box 2 0),⟨[tabM binT,tabM preT,[.fresh 78 4 2,.p .nils,.mapr 0,.mapr 1]],[]⟩):=by kernel_rfl
theorem refs_pr(f:Bool)(l:List UInt8)(bx:List (List D)):boxRefs (pH f l bx) [0]=[0,1,2]:=by cases f<;>rfl
theorem refs_pr3(f:Bool)(l:List UInt8)(bx:List (List D)):boxRefs (pH f l bx) [0,1,2]=[0,1,2]:=by cases f<;>rfl
theorem reach_pr3(f:Bool)(l:List UInt8)(bx:List (List D)):∀n,reach (pH f l bx) n [0,1,2]=[0,1,2]
 | 0=>rfl
 |n+1=>by simp only[reach,refs_pr3];exact reach_pr3 f l bx n
theorem reach_pr(f:Bool)(l:List UInt8)(bx:List (List D))(n:Nat):reach (pH f l bx) (n+1) [0]=[0,1,2]:=by
 simp only[reach,refs_pr];exact reach_pr3 f l bx n
theorem callD_prG{g:Nat}{args:List D}{f:Bool}{l:List UInt8}{bx:List (List D)}{d:D}{f':Bool}{l':List UInt8}{ex:List (List D)}
    (i1:ins [] (D.refsL args)=[0]) (e2:D.toksL args=[]) (e4:D.renL (idx [0,1,2]) (idx [0]) args=some args)
    (hd:∀bi ti,d.ren bi ti=some d) (h:call pg g args (pH f l [])=some (.val d,pH f' l' ex)):
    callD (call pg) g args (pH f l bx)=some (.val d,pH f' l' bx):=by
 have e3:boxToks (pH f l bx) [0,1,2]=[0]:=by cases f<;>rfl
 have e5:mapO (fun i=>match(pH f l bx).bx[i]? with |some cs=>D.renL (idx [0,1,2]) (idx [0]) cs |none=>none) [0,1,2]=some [prC f l,tabM binT,tabM preT]:=by cases f<;>rfl
 have e6:mapO (fun t=>(pH f l bx).tk[t]?) [0]=some [l.length]:=rfl
 have e7:reach (pH f l bx) (pH f l bx).bx.length [0]=[0,1,2]:=reach_pr f l bx (bx.length+2)
 have i2:ins [] [0]=[0]:=rfl
 have h':call pg g args ⟨[prC f l,tabM binT,tabM preT],[l.length]⟩=some (.val d,pH f' l' ex):=h
 have n1:(Vs.nodupB [0,1,2]&&Vs.nodupB [0])=true:=rfl
 have e8:back [0,1,2] [0] (pH f l bx) (.val d) (pH f' l' ex)=some (.val d,pH f' l' bx):=by
  have k1:firstN (pH f' l' ex).bx 3=some [prC f' l',tabM binT,tabM preT]:=by simp[firstN,pH]
  have k2:firstN (pH f' l' ex).tk 1=some [l'.length]:=rfl
  have k3:mapO (D.renL (fun i=>[0,1,2][i]?) (fun t=>[0][t]?)) [prC f' l',tabM binT,tabM preT]=some [prC f' l',tabM binT,tabM preT]:=by cases f'<;>rfl
  simp only[back,List.length_cons,List.length_nil,k1,k2,k3,Res.ren,hd,Option.map_some]
  rfl
 simp only[callD,i1,i2,e7,e2,List.nil_append,e3,n1,if_true,e4,e6]
 erw [e5]
 simp only[h',e8]
theorem callD_pr{g:Nat}{args:List PD}{f:Bool}{l:List UInt8}{bx:List (List D)}{d:D}{f':Bool}{l':List UInt8}{ex:List (List D)}
    (hd:∀bi ti,d.ren bi ti=some d) (h:call pg g (.box 0 0::args.map .p) (pH f l [])=some (.val d,pH f' l' ex)):
    callD (call pg) g (.box 0 0::args.map .p) (pH f l bx)=some (.val d,pH f' l' bx):=
 callD_prG (by simp[D.refsL,D.refs,ins]) (by simp[D.toksL,D.toks]) (by simp[D.renL,D.ren,idx]) hd h
theorem cc_call(f:Bool)(l:List UInt8)(bx:List (List D)):callD (call pg) 77 [.box 0 0] (pH f l bx)=some (.val .undef,pH false l bx):=by
 have h:call pg 77 (.box 0 0::([]:List PD).map .p) (pH f l [])=some (.val .undef,pH false l []):=by
  refine call_lib ?_
  cases f<;>rfl
 exact callD_pr (args:=[]) (fun _ _=>rfl) h
theorem wbyte0(f:Bool)(l:List UInt8)(c:UInt8)(hb:l.length<140737488355328):call pg 64 [.box 0 0,.p (.int .u8 c.toNat)] (pH f l [])=some (.val (.p .nili),pH false (l++[c]) []):=by
 refine call_body (fc:=fc64) rfl rfl rfl rfl ?_
 have hc:=cc_call f l []
 have hr:roomy (l.length+1) 1=true:=by simp[roomy];omega
 cases f<;>simp[pH,prC] at hc⊢<;>simp[fc64,evKC,evK,put,Env.get,Env.keep,entry,Opd.ev,loadD,storeD,splice,cutAt,finish,evRes,evRes1,D.cells,PD.cells,fillE,appendD,srcD,D.elems?,D.asPD,srcH,isMapC,hc,bytesP_len,hr,bytesP_app]
 all_goals simp[bytesP]
theorem wbyte_eq(f:Bool)(l:List UInt8)(c:UInt8)(hb:l.length<140737488355328)(bx:List (List D)):callD (call pg) 64 [.box 0 0,.p (.int .u8 c.toNat)] (pH f l bx)=some (.val (.p .nili),pH false (l++[c]) bx):=
 callD_pr (args:=[.int .u8 c.toNat]) (fun _ _=>rfl) (wbyte0 f l c hb)
theorem wstr0(f:Bool)(l s:List UInt8)(hb:l.length+s.length≤140737488355328):call pg 49 [.box 0 0,.p (.str s)] (pH f l [])=some (.val (.tup [.p (.int .i64 s.length),.p .nili]),pH false (l++s) []):=by
 refine call_body (fc:=fc49) rfl rfl rfl rfl ?_
 have hc:=cc_call f l []
 have hr:roomy (l.length+s.length) 1=true:=by simp[roomy];omega
 cases f<;>simp[pH,prC] at hc⊢<;>simp[fc49,evKC,evK,put,Env.get,Env.keep,entry,Opd.ev,loadD,storeD,splice,cutAt,lenD,finish,evRes,evRes1,mapO,D.cells,appendD,srcD,srcH,isMapC,hc,bytesP_len,hr,bytesP_app]
 all_goals simp[bytesP]
theorem wstr_eq(f:Bool)(l s:List UInt8)(hb:l.length+s.length≤140737488355328)(bx:List (List D)):callD (call pg) 49 [.box 0 0,.p (.str s)] (pH f l bx)=some (.val (.tup [.p (.int .i64 s.length),.p .nili]),pH false (l++s) bx):=
 callD_pr (args:=[.str s]) (fun _ _=>rfl) (wstr0 f l s hb)
theorem bstr0(f:Bool)(l:List UInt8)(hb:l.length≤140737488355328):call pg 41 [.box 0 0] (pH f l [])=some (.val (.p (.str l)),pH f l []):=by
 refine call_body (fc:=fc41) rfl rfl rfl rfl ?_
 cases l with
 |nil=>cases f<;>simp[fc41,pH,prC,bytesP,evKC,evK,put,Env.get,Env.keep,entry,Opd.ev,loadD,cutAt,lenD,clsP,cls,clsR,isCl,isW,apartRW,offB,apartWW,clash,insOk,finish,evRes,evRes1,D.elems?,isMapC,sdataD,ustrD]
 |cons b l=>
  have h:=bytesOf_bytesP (b::l)
  simp only[bytesP,List.map_cons] at h
  have hl:l.length+1≤140737488355328:=hb
  cases f<;>simp[fc41,pH,prC,bytesP,evKC,evK,put,Env.get,Env.keep,entry,Opd.ev,loadD,cutAt,lenD,clsP,cls,clsR,isCl,isW,apartRW,offB,apartWW,clash,insOk,finish,evRes,evRes1,D.elems?,isMapC,sdataD,ustrD,h,hl]
def lvl(op:Int):Int:=match look binT op with
 |some e=>e.lv
 |none=>match look preT op with
  |some e=>e.lv
  |none=>if op=5 then 14 else 15
theorem ld2(G:Nat→Option (List PD))(f:Bool)(l:List UInt8)(r:List (List D))(tk:List Nat):loadD G ⟨prC f l::r,tk⟩ none (.box 0 2)=some (.mapr 1):=by cases f<;>rfl
theorem ld3(G:Nat→Option (List PD))(f:Bool)(l:List UInt8)(r:List (List D))(tk:List Nat):loadD G ⟨prC f l::r,tk⟩ none (.box 0 3)=some (.mapr 2):=by cases f<;>rfl
theorem ge1(f:Bool)(l:List UInt8)(op:Int)(bx:List (List D)):mapgetD 13 zEnt true (.mapr 1) (.p (.int .i64 op)) ⟨prC f l::tabM binT::bx,[l.length]⟩=some (getT binT op):=get_tab rfl op
theorem ge2(f:Bool)(l:List UInt8)(op:Int)(x:List D)(bx:List (List D)):mapgetD 13 zEnt true (.mapr 2) (.p (.int .i64 op)) ⟨prC f l::x::tabM preT::bx,[l.length]⟩=some (getT preT op):=get_tab rfl op
theorem level0(f:Bool)(l:List UInt8)(op:Int):∃ex,call pg 79 [.box 0 0,.p (.int .i64 op)] (pH f l [])=some (.val (.p (.int .i64 (lvl op))),pH f l ex):=by
 have g1:=ge1 f l op
 have g2:=ge2 f l op
 simp only[getT,zEnt] at g1 g2
 simp only[lvl,pH]
 cases h1:look binT op with
 |some e=>
  rw[h1] at g1
  refine⟨[[.p (.str e.s),.p (.int .i64 e.lv),.p (.int .i64 e.a),.p (.int .i64 e.b)]],call_body (fc:=fc79) rfl rfl rfl rfl ?_⟩
  have l1:∀G r tk,loadD G ⟨prC f l::tabM binT::tabM preT::[.p (.str e.s),.p (.int .i64 e.lv),.p (.int .i64 e.a),.p (.int .i64 e.b)]::r,tk⟩ none (.box 3 1)=some (.p (.int .i64 e.lv)):=fun _ _ _=>rfl
  simp[fc79,evKC,evK,put,Env.get,Env.keep,entry,Opd.ev,storeD,splice,finish,evRes,evRes1,D.cells,D.one,PD.one,isMapC,ld2,g1,Ent.pd,l1]
 |none=>
  rw[h1] at g1
  cases h2:look preT op with
  |some e=>
   rw[h2] at g2
   have l1:∀G z r tk,loadD G ⟨prC f l::tabM binT::tabM preT::z::[.p (.str e.s),.p (.int .i64 e.lv),.p (.int .i64 e.a),.p (.int .i64 e.b)]::r,tk⟩ none (.box 4 1)=some (.p (.int .i64 e.lv)):=fun _ _ _ _=>rfl
   refine⟨[[.p (.str []),.p (.int .i64 0),.p (.int .i64 0),.p (.int .i64 0)],[.p (.str e.s),.p (.int .i64 e.lv),.p (.int .i64 e.a),.p (.int .i64 e.b)]],call_body (fc:=fc79) rfl rfl rfl rfl ?_⟩
   simp[fc79,evKC,evK,put,Env.get,Env.keep,entry,Opd.ev,storeD,splice,finish,evRes,evRes1,D.cells,D.one,PD.one,isMapC,ld2,ld3,g1,g2,Ent.pd,l1]
  |none=>
   rw[h2] at g2
   refine⟨[[.p (.str []),.p (.int .i64 0),.p (.int .i64 0),.p (.int .i64 0)],[.p (.str []),.p (.int .i64 0),.p (.int .i64 0),.p (.int .i64 0)]],call_body (fc:=fc79) rfl rfl rfl rfl ?_⟩
   by_cases h5:op=5
   ·subst h5
    simp[fc79,evKC,evK,put,Env.get,Env.keep,entry,Opd.ev,storeD,splice,binD,finish,evRes,evRes1,D.cells,D.one,PD.one,isMapC,ld2,ld3,g1,g2]
   ·have h5':(op==5)=false:=by simpa using h5
    simp[fc79,evKC,evK,put,Env.get,Env.keep,entry,Opd.ev,storeD,splice,binD,finish,evRes,evRes1,D.cells,D.one,PD.one,isMapC,ld2,ld3,g1,g2,h5,h5']
theorem level_eq(f:Bool)(l:List UInt8)(op:Int)(bx:List (List D)):callD (call pg) 79 [.box 0 0,.p (.int .i64 op)] (pH f l bx)=some (.val (.p (.int .i64 (lvl op))),pH f l bx):=by
 obtain⟨ex,h⟩:=level0 f l op
 exact callD_pr (args:=[.int .i64 op]) (fun _ _=>rfl) h
def zN:Nd:=.mk 0 [] 0 0 [] 0
def kidN(a:Nd)(i:Nat):Nd:=(a.ks[i]?).getD zN
theorem kid0(a:Nd)(i:Nat)(_:i≤1):∃H',call pg 62 [.p a.pd,.p (.int .i64 i)] ⟨[],[]⟩=some (.val (.p (kidN a i).pd),H'):=by
 have hk0:=len_kids a
 have hld:∀(G:Nat→Option (List PD)) b tk,loadD G ⟨a.cells.map .p::b,tk⟩ none (.box 0 3)=some (.p a.kidsP):=fun _ _ _=>rfl
 have o1:=one_of (pd_one a)
 rw[pd_cells]
 by_cases h:i<a.ks.length
 ·have h':(i:Int)<(a.ks.length:Int):=by omega
  have hia:=ia_kids h
  have hl2:=fun(G:Nat→Option (List PD)) (H:Hp)=>load_nd (G:=G) (H:=H) a.ks[i]
  have hkid:kidN a i=a.ks[i]:=by simp[kidN,List.getElem?_eq_getElem h]
  rw[hkid]
  generalize a.ks[i]=x at *
  have hst:∀tk,storeD ⟨[a.cells.map .p,[.p (.int .i64 0),.p (.str []),.p (.int .i64 0),.p .nils,.p (.int .i64 0)]],tk⟩ 5 (.box 1 0) (.p x.pd)=some ⟨[a.cells.map .p,x.cells.map .p],tk⟩:=fun tk=>by
   rw[pd_cells]
   exact store_box (H:=⟨[a.cells.map .p,[.p (.int .i64 0),.p (.str []),.p (.int .i64 0),.p .nils,.p (.int .i64 0)]],tk⟩) (i:=1) (zs:=[.int .i64 0,.str [],.int .i64 0,.nils,.int .i64 0]) rfl rfl rfl (by decide) (pd_one x)
  have hlx:∀G tk,loadD G ⟨[a.cells.map .p,x.cells.map .p],tk⟩ (some 5) (.box 1 0)=some (.p x.pd):=fun G tk=>load_ndb (i:=1) rfl
  refine⟨_,call_body (fc:=fc62) rfl rfl rfl rfl (r:=(_,⟨[a.cells.map .p,x.cells.map .p],[]⟩)) ?_⟩
  simp[fc62,evKC,evK,put,Env.get,Env.keep,entry,Opd.ev,D.asInt?,binD,finish,evRes,evRes1,D.cells,o1,hk0,hld,h',hia,hl2,hst,hlx]
 ·have h':¬(i:Int)<(a.ks.length:Int):=by omega
  have hkid:kidN a i=zN:=by simp[kidN,List.getElem?_eq_none (Nat.le_of_not_lt h)]
  rw[hkid]
  refine⟨_,call_body (fc:=fc62) rfl rfl rfl rfl (r:=(_,⟨[a.cells.map .p,[.p (.int .i64 0),.p (.str []),.p (.int .i64 0),.p .nils,.p (.int .i64 0)]],[]⟩)) ?_⟩
  have hz:zN.pd= .agg [.int .i64 0,.str [],.int .i64 0,.nils,.int .i64 0]:=rfl
  have hl3:∀G tk,loadD G ⟨[a.cells.map .p,[.p (.int .i64 0),.p (.str []),.p (.int .i64 0),.p .nils,.p (.int .i64 0)]],tk⟩ (some 5) (.box 1 0)=some (.p (.agg [.int .i64 0,.str [],.int .i64 0,.nils,.int .i64 0])):=fun G tk=>rfl
  simp[fc62,evKC,evK,put,Env.get,Env.keep,entry,Opd.ev,storeD,splice,binD,finish,evRes,evRes1,D.cells,mkAgg,pures,fillD,isMapC,o1,hk0,hld,h',hz,hl3]
theorem kid_eq(a:Nd)(i:Nat)(hi:i≤1)(H:Hp):callD (call pg) 62 [.p a.pd,.p (.int .i64 i)] H=some (.val (.p (kidN a i).pd),H):=
 callD_any (kid0 a i hi) rfl rfl rfl rfl H
abbrev Kt:=Int×(Bool→List UInt8)
def oprK(p:Kt)(need:Int)(fin:Bool):List UInt8:=
 if(decide (need≤lvl p.1)&&(fin|| !(p.1==45||p.1==46)))=true then p.2 fin else 40::(p.2 true++[41])
def zK:Kt:=(0,fun _=>[])
def kK(kids:List Kt)(i:Nat):Kt:=(kids[i]?).getD zK
def joinL(sep:List UInt8):List (List UInt8)→List UInt8
 |[]=>[]
 |[x]=>x
 |x::y::r=>x++(sep++joinL sep (y::r))
def bndT(nm:List UInt8)(kids:List Kt):List UInt8:=nm++([58,32]++(oprK (kK kids 0) 8 true++([32,124,32]++(kK kids 1).2 true)))
def constT(op:Int):List UInt8:=
 if op=3 then[117,110,105,118] else if op=4 then[105,100,101,110] else if op=30 then[116,114,117,101] else if op=31 then[102,97,108,115,101] else[]
def txtOf(op:Int)(nm:List UInt8)(n:Int)(kids:List Kt)(fin:Bool):List UInt8:=
 match look binT op with
 |some e=>oprK (kK kids 0) e.a false++(e.s++oprK (kK kids 1) e.b fin)
 |none=>match look preT op with
  |some e=>e.s++oprK (kK kids 0) e.a fin
  |none=>
   if op=1 then nm
   else if op=2 then[110,111,110,101]++(if n=1 then[] else[91]++(Lib.itoa n++[93]))
   else if op=20 then Lib.itoa n
   else if op=5 then oprK (kK kids 0) 14 false++[39]
   else if op=45 then[97,108,108,32]++bndT nm kids
   else if op=46 then[115,111,109,101,32]++bndT nm kids
   else if op=15 then[123]++(bndT nm kids++[125])
   else if op=47 then nm++([91]++(joinL [44,32] (kids.map fun k=>oprK k 8 true)++[93]))
   else constT op
mutual
def txt:Nd→Bool→List UInt8
 | .mk op nm n _ ks _=>txtOf op nm n (txtL ks)
def txtL:List Nd→List Kt
 |[]=>[]
 |k::ks=>(k.op,txt k)::txtL ks
end
theorem txtL_map:∀ks:List Nd,txtL ks=ks.map fun k=>(k.op,txt k)
 |[]=>rfl
 |k::ks=>by simp[txtL,txtL_map ks]
def Nd.kt(a:Nd):Kt:=(a.op,txt a)
theorem txt_eq(a:Nd):txt a=txtOf a.op a.nm a.n (a.ks.map Nd.kt):=by
 cases a;simp only[txt,txtL_map];rfl
theorem kt_zero:zN.kt=zK:=by
 simp only[Nd.kt,zK,Prod.mk.injEq]
 refine⟨rfl,?_⟩
 funext fin
 rfl
theorem kK_eq(a:Nd)(i:Nat):kK (a.ks.map Nd.kt) i=(kidN a i).kt:=by
 simp only[kK,kidN,List.getElem?_map]
 cases a.ks[i]? with
 |none=>exact kt_zero.symm
 |some x=>rfl
def NodeOk(n:Nd):Prop:=∀(fin f:Bool) (l:List UInt8) (bx:List (List D)),l.length+(txt n fin).length≤100000000000000→
 callD (call pg) 40 [.box 0 0,.p n.pd,.p (.bool fin)] (pH f l bx)=some (.val .undef,pH false (l++txt n fin) bx)
theorem opr0{n:Nd}(hn:NodeOk n)(need:Int)(fin f:Bool)(l:List UInt8)(hb:l.length+(oprK n.kt need fin).length≤100000000000000):
    ∃ex,call pg 61 [.box 0 0,.p n.pd,.p (.int .i64 need),.p (.bool fin)] (pH f l [])=some (.val .undef,pH false (l++oprK n.kt need fin) ex):=by
 have o1:=one_of (pd_one n)
 have lop:∀G tk x y z,loadD G ⟨x::y::z::[n.cells.map .p],tk⟩ none (.box 3 0)=some (.p (.int .i64 n.op)):=fun _ _ _ _ _=>rfl
 have lnd:∀G tk x y z,loadD G ⟨x::y::z::[n.cells.map .p],tk⟩ (some 5) (.box 3 0)=some (.p n.pd):=fun _ _ _ _ _=>load_ndb (i:=3) rfl
 have hlv:=fun f l=>level_eq f l n.op [n.cells.map .p]
 have hnode:=fun fin f l=>hn fin f l [n.cells.map .p]
 have hk:n.kt=(n.op,txt n):=rfl
 rw[hk] at hb⊢
 simp only[oprK] at hb⊢
 refine⟨[n.cells.map .p],call_body (fc:=fc61) rfl rfl rfl rfl ?_⟩
 by_cases hc:(decide (need≤lvl n.op)&&(fin|| !(n.op==45||n.op==46)))=true
 ·rw[if_pos hc] at hb⊢
  have h1:=hnode fin f l hb
  rw[pd_cells] at lnd h1⊢
  simp only[pH] at hlv h1⊢
  cases e1:(n.op==45)<;>cases e2:(n.op==46)<;>by_cases hA:need≤lvl n.op<;>cases fin<;>
   first |(exfalso;revert hc;simp[e1,e2,hA];done) |
    simp[fc61,evKC,evK,evGuard,put,Env.get,Env.keep,entry,Opd.ev,binD,unD,finish,evRes,D.cells,o1,lop,lnd,hlv,h1,e1,e2,hA]
 ·rw[if_neg hc] at hb⊢
  have hlen:l.length+((txt n true).length+2)≤100000000000000:=by simpa using hb
  have hw1:callD (call pg) 64 [.box 0 0,.p (.int .u8 40)] (pH f l [n.cells.map .p])=some (.val (.p .nili),pH false (l++[40]) [n.cells.map .p]):=wbyte_eq f l 40 (by omega) _
  have h1:=hnode true false (l++[40]) (by simp;omega)
  have hw2:callD (call pg) 64 [.box 0 0,.p (.int .u8 41)] (pH false (l++[40]++txt n true) [n.cells.map .p])=some (.val (.p .nili),pH false (l++[40]++txt n true++[41]) [n.cells.map .p]):=wbyte_eq false _ 41 (by simp;omega) _
  have hl:l++40::(txt n true++[41])=l++[40]++txt n true++[41]:=by simp
  rw[hl]
  generalize l++[40]++txt n true++[41]=l3 at *
  generalize l++[40]++txt n true=l2 at *
  generalize l++[40]=l1 at *
  rw[pd_cells] at lnd h1⊢
  simp only[pH] at hlv h1 hw1 hw2⊢
  cases e1:(n.op==45)<;>cases e2:(n.op==46)<;>by_cases hA:need≤lvl n.op<;>cases fin<;>
   first |(exfalso;revert hc;simp[e1,e2,hA];done) |
    simp[fc61,evKC,evK,evGuard,put,Env.get,Env.keep,entry,Opd.ev,binD,unD,finish,evRes,D.cells,o1,lop,lnd,hlv,h1,hw1,hw2,e1,e2,hA]
theorem opr_eq{n:Nd}(hn:NodeOk n)(need:Int)(fin f:Bool)(l:List UInt8)(bx:List (List D))(hb:l.length+(oprK n.kt need fin).length≤100000000000000):
    callD (call pg) 61 [.box 0 0,.p n.pd,.p (.int .i64 need),.p (.bool fin)] (pH f l bx)=some (.val .undef,pH false (l++oprK n.kt need fin) bx):=by
 obtain⟨ex,h⟩:=opr0 hn need fin f l hb
 exact callD_pr (args:=[n.pd,.int .i64 need,.bool fin]) (fun _ _=>rfl) h
def bndA(a:Nd):List UInt8:=a.nm++([58,32]++(oprK (kidN a 0).kt 8 true++([32,124,32]++txt (kidN a 1) true)))
theorem bnd_eq(a:Nd):bndT a.nm (a.ks.map Nd.kt)=bndA a:=by
 simp only[bndT,bndA,kK_eq];rfl
theorem bound0{a:Nd}(h0:NodeOk (kidN a 0))(h1:NodeOk (kidN a 1))(f:Bool)(l:List UInt8)(hb:l.length+(bndA a).length≤100000000000000):
    ∃ex,call pg 65 [.box 0 0,.p a.pd] (pH f l [])=some (.val .undef,pH false (l++bndA a) ex):=by
 have o1:=one_of (pd_one a)
 have lnm:∀G tk x y z,loadD G ⟨x::y::z::[a.cells.map .p],tk⟩ none (.box 3 1)=some (.p (.str a.nm)):=fun _ _ _ _ _=>rfl
 have lnd:∀G tk x y z,loadD G ⟨x::y::z::[a.cells.map .p],tk⟩ (some 5) (.box 3 0)=some (.p a.pd):=fun _ _ _ _ _=>load_ndb (i:=3) rfl
 have k0:∀H,callD (call pg) 62 [.p a.pd,.p (.int .i64 0)] H=some (.val (.p (kidN a 0).pd),H):=kid_eq a 0 (by omega)
 have k1:∀H,callD (call pg) 62 [.p a.pd,.p (.int .i64 1)] H=some (.val (.p (kidN a 1).pd),H):=kid_eq a 1 (by omega)
 simp only[bndA,List.length_append,List.length_cons,List.length_nil] at hb
 have w1:=wstr_eq f l (a.nm++[58,32]) (by simp;omega) [a.cells.map .p]
 have w2:=opr_eq h0 8 true false (l++(a.nm++[58,32])) [a.cells.map .p] (by simp;omega)
 have w3:=wstr_eq false (l++(a.nm++[58,32])++oprK (kidN a 0).kt 8 true) [32,124,32] (by simp;omega) [a.cells.map .p]
 have w4:=h1 true false (l++(a.nm++[58,32])++oprK (kidN a 0).kt 8 true++[32,124,32]) [a.cells.map .p] (by simp;omega)
 have hl:l++bndA a=l++(a.nm++[58,32])++oprK (kidN a 0).kt 8 true++[32,124,32]++txt (kidN a 1) true:=by simp[bndA]
 rw[hl]
 generalize l++(a.nm++[58,32])++oprK (kidN a 0).kt 8 true++[32,124,32]++txt (kidN a 1) true=l4 at *
 generalize l++(a.nm++[58,32])++oprK (kidN a 0).kt 8 true++[32,124,32]=l3 at *
 generalize l++(a.nm++[58,32])++oprK (kidN a 0).kt 8 true=l2 at *
 generalize l++(a.nm++[58,32])=l1 at *
 refine⟨[a.cells.map .p],call_body (fc:=fc65) rfl rfl rfl rfl ?_⟩
 have hnm:a.nm.length≤140737488355326:=by omega
 rw[pd_cells] at lnd k0 k1⊢
 simp only[pH] at w1 w2 w3 w4⊢
 simp[fc65,evKC,evK,put,Env.get,Env.keep,entry,Opd.ev,binD,strBin,clsP,cls,clsR,isCl,isW,apartRW,offB,apartWW,clash,insOk,finish,evRes,D.cells,D.refsL,D.refs,D.toksL,D.toks,o1,lnm,lnd,k0,k1,w1,w2,w3,w4,hnm]
theorem bound_eq{a:Nd}(h0:NodeOk (kidN a 0))(h1:NodeOk (kidN a 1))(f:Bool)(l:List UInt8)(bx:List (List D))(hb:l.length+(bndA a).length≤100000000000000):
    callD (call pg) 65 [.box 0 0,.p a.pd] (pH f l bx)=some (.val .undef,pH false (l++bndA a) bx):=by
 obtain⟨ex,h⟩:=bound0 h0 h1 f l hb
 exact callD_pr (args:=[a.pd]) (fun _ _=>rfl) h
theorem arg0{a:Nd}(h0:NodeOk a)(f:Bool)(l:List UInt8)(hb:l.length+(oprK a.kt 8 true).length≤100000000000000):
    ∃ex,call pg 67 [.box 0 0,.p a.pd] (pH f l [])=some (.val .undef,pH false (l++oprK a.kt 8 true) ex):=by
 have o1:=one_of (pd_one a)
 have lnd:∀G tk x y z,loadD G ⟨x::y::z::[a.cells.map .p],tk⟩ (some 5) (.box 3 0)=some (.p a.pd):=fun _ _ _ _ _=>load_ndb (i:=3) rfl
 have w:=opr_eq h0 8 true f l [a.cells.map .p] hb
 refine⟨[a.cells.map .p],call_body (fc:=fc67) rfl rfl rfl rfl ?_⟩
 rw[pd_cells] at lnd w⊢
 simp only[pH] at w⊢
 simp[fc67,evKC,evK,put,Env.get,Env.keep,entry,Opd.ev,finish,evRes,D.cells,o1,lnd,w]
theorem arg_eq{a:Nd}(h0:NodeOk a)(f:Bool)(l:List UInt8)(bx:List (List D))(hb:l.length+(oprK a.kt 8 true).length≤100000000000000):
    callD (call pg) 67 [.box 0 0,.p a.pd] (pH f l bx)=some (.val .undef,pH false (l++oprK a.kt 8 true) bx):=by
 obtain⟨ex,h⟩:=arg0 h0 f l hb
 exact callD_pr (args:=[a.pd]) (fun _ _=>rfl) h
def restT(k:Nat)(ls:List (List UInt8)):List UInt8:=
 match ls with
 |[]=>[]
 |x::r=>(if 0<k then[44,32] else[])++(x++restT (k+1) r)
theorem rest_join(x:List UInt8):∀(r:List (List UInt8)) (k:Nat),0<k→x++restT k r=joinL [44,32] (x::r):=by
 intro r
 induction r generalizing x with
 |nil=>intro k _;simp[restT,joinL]
 |cons y r ih=>
  intro k hk
  simp only[restT,joinL,if_pos hk]
  rw[←ih y (k+1) (by omega)]
theorem rest0(ls:List (List UInt8)):restT 0 ls=joinL [44,32] ls:=by
 cases ls with
 |nil=>rfl
 |cons x r=>
  have:=rest_join x r 1 (by omega)
  simpa[restT] using this
theorem ren_pr(f:Bool)(l:List UInt8)(n:Nat)(h:2<n):D.renL (below n) (below 1) (prC f l)=some (prC f l):=by
 have h0:0<n:=by omega
 have h1:1<n:=by omega
 cases f<;>simp[prC,D.renL,D.ren,below,h0,h1,h]
theorem ren_tab(f g:Nat→Option Nat)(t:List Ent):D.renL f g (tabM t)=some (tabM t):=by
 have :(t.map fun e=>D.p e.pd)=(t.map Ent.pd).map D.p:=by simp
 simp only[tabM,this,D.renL,D.ren,renL_p,Option.map_some]
def argsT(a:Nd):List (List UInt8):=a.ks.map fun x=>oprK x.kt 8 true
theorem list_loop{a:Nd}(hk:∀x∈a.ks,NodeOk x)(hlen:a.ks.length≤1000000000):∀(n k:Nat) (l:List UInt8),a.ks.length-k≤n→k≤a.ks.length→l.length+(restT k ((argsT a).drop k)).length≤100000000000000→
    ∃env,loopK (call pg) pg.G [0,2,3,10,11,12] fc66_b0 ⟨[(0,.box 0 0),(2,.p (.str [44,32])),(3,.fn 67 [.box 0 0] []),(10,.p a.kidsP),(11,.p (.int .i64 a.ks.length)),(12,.p (.int .i64 k))],pH false l []⟩=
     some (.exit 0,⟨env,pH false (l++restT k ((argsT a).drop k)) []⟩):=by
 intro n
 have hal:(argsT a).length=a.ks.length:=by simp[argsT]
 induction n with
 |zero=>
  intro k l hn hkk _
  have he:k=a.ks.length:=by omega
  refine⟨[(0,.box 0 0),(2,.p (.str [44,32])),(3,.fn 67 [.box 0 0] []),(10,.p a.kidsP),(11,.p (.int .i64 a.ks.length)),(12,.p (.int .i64 k)),(13,.p (.bool false))],?_⟩
  rw[List.drop_eq_nil_of_le (by omega)]
  refine loopK_out (o:=.exit 0) ?_ (by simp)
  simp[fc66_b0,restT,pH,evKC,evK,put,Env.get,Env.keep,Opd.ev,binD,mapO,D.renL,D.ren,locD,below,Out.ren,List.map,he,ren_pr,ren_tab]
 |succ n IH=>
  intro k l hn hkk hb
  by_cases he:k=a.ks.length
  ·refine⟨[(0,.box 0 0),(2,.p (.str [44,32])),(3,.fn 67 [.box 0 0] []),(10,.p a.kidsP),(11,.p (.int .i64 a.ks.length)),(12,.p (.int .i64 k)),(13,.p (.bool false))],?_⟩
   rw[List.drop_eq_nil_of_le (by omega)]
   refine loopK_out (o:=.exit 0) ?_ (by simp)
   simp[fc66_b0,restT,pH,evKC,evK,put,Env.get,Env.keep,Opd.ev,binD,mapO,D.renL,D.ren,locD,below,Out.ren,List.map,he,ren_pr,ren_tab]
  ·have hlt:k<a.ks.length:=by omega
   have hlt':(k:Int)<(a.ks.length:Int):=by omega
   have hka:k<(argsT a).length:=by omega
   have hx:(argsT a)[k]=oprK a.ks[k].kt 8 true:=by simp[argsT]
   have hrest:restT k ((argsT a).drop k)=(if 0<k then[44,32] else[])++(oprK a.ks[k].kt 8 true++restT (k+1) ((argsT a).drop (k+1))):=by
    rw[List.drop_eq_getElem_cons hka,hx];rfl
   rw[hrest] at hb⊢
   have hia:=ia_kids hlt
   have hl2:=fun(G:Nat→Option (List PD)) (H:Hp)=>load_nd (G:=G) (H:=H) a.ks[k]
   have hno:=hk a.ks[k] (List.getElem_mem hlt)
   generalize a.ks[k]=x at *
   have hk1:=inc64 (k:=k) (by omega)
   have hst:∀l tk,storeD ⟨[prC false l,tabM binT,tabM preT,[.p (.int .i64 0),.p (.str []),.p (.int .i64 0),.p .nils,.p (.int .i64 0)]],tk⟩ 5 (.box 3 0) (.p x.pd)=some ⟨[prC false l,tabM binT,tabM preT,x.cells.map .p],tk⟩:=fun l tk=>by
    rw[pd_cells]
    exact store_box (H:=⟨[prC false l,tabM binT,tabM preT,[.p (.int .i64 0),.p (.str []),.p (.int .i64 0),.p .nils,.p (.int .i64 0)]],tk⟩) (i:=3) (zs:=[.int .i64 0,.str [],.int .i64 0,.nils,.int .i64 0]) rfl rfl rfl (by decide) (pd_one x)
   have hlx:∀G l tk,loadD G ⟨[prC false l,tabM binT,tabM preT,x.cells.map .p],tk⟩ (some 5) (.box 3 0)=some (.p x.pd):=fun G l tk=>load_ndb (i:=3) rfl
   by_cases h0:0<k
   ·rw[if_pos h0] at hb⊢
    have h0':(0 :Int)<(k:Int):=by omega
    simp only[List.length_append,List.length_cons,List.length_nil] at hb
    have w1:=wstr_eq false l [44,32] (by simp;omega) [x.cells.map .p]
    have w2:=arg_eq hno false (l++[44,32]) [x.cells.map .p] (by simp;omega)
    obtain⟨env,e1⟩:=IH (k+1) (l++[44,32]++oprK x.kt 8 true) (by omega) (by omega) (by simp;omega)
    refine⟨env,?_⟩
    rw[show l++([44,32]++(oprK x.kt 8 true++restT (k+1) ((argsT a).drop (k+1))))=l++[44,32]++oprK x.kt 8 true++restT (k+1) ((argsT a).drop (k+1)) by simp,←e1]
    refine loopK_norm ?_
    generalize l++[44,32]++oprK x.kt 8 true=l2 at *
    generalize l++[44,32]=l1 at *
    simp only[pH] at w1 w2⊢
    simp[fc66_b0,evKC,evK,put,Env.get,Env.keep,Opd.ev,D.asInt?,binD,mapO,PD.one,D.renL,D.ren,locD,below,Out.ren,List.map,hlt',hia,hl2,hst,hlx,h0,w1,w2,hk1,ren_pr,ren_tab]
   ·rw[if_neg h0] at hb⊢
    have h0':¬(0 :Int)<(k:Int):=by omega
    simp only[List.length_append,List.length_nil] at hb
    have w2:=arg_eq hno false l [x.cells.map .p] (by omega)
    obtain⟨env,e1⟩:=IH (k+1) (l++oprK x.kt 8 true) (by omega) (by omega) (by simp;omega)
    refine⟨env,?_⟩
    rw[show l++([]++(oprK x.kt 8 true++restT (k+1) ((argsT a).drop (k+1))))=l++oprK x.kt 8 true++restT (k+1) ((argsT a).drop (k+1)) by simp,←e1]
    refine loopK_norm ?_
    generalize l++oprK x.kt 8 true=l2 at *
    simp only[pH] at w2⊢
    simp[fc66_b0,evKC,evK,put,Env.get,Env.keep,Opd.ev,D.asInt?,binD,mapO,PD.one,D.renL,D.ren,locD,below,Out.ren,List.map,hlt',hia,hl2,hst,hlx,h0,w2,hk1,ren_pr,ren_tab]
theorem list0{a:Nd}(hk:∀x∈a.ks,NodeOk x)(hlen:a.ks.length≤1000000000)(l:List UInt8)(hb:l.length+(joinL [44,32] (argsT a)).length≤100000000000000):
    call pg 66 [.box 0 0,.p a.kidsP,.p (.str [44,32]),.fn 67 [.box 0 0] []] (pH false l [])=some (.val .undef,pH false (l++joinL [44,32] (argsT a)) []):=by
 have hk0:=len_kids a
 obtain⟨env,e1⟩:=list_loop hk hlen a.ks.length 0 l (by omega) (by omega) (by rw[List.drop_zero,rest0];exact hb)
 rw[List.drop_zero,rest0] at e1
 simp only[Int.natCast_zero] at e1
 refine call_body (fc:=fc66) rfl rfl rfl rfl ?_
 simp[fc66,evKC,evK,put,Env.get,Env.keep,entry,Opd.ev,finish,evRes,List.map,hk0,e1]
theorem list_eq{a:Nd}(hk:∀x∈a.ks,NodeOk x)(hlen:a.ks.length≤1000000000)(l:List UInt8)(bx:List (List D))(hb:l.length+(joinL [44,32] (argsT a)).length≤100000000000000):
    callD (call pg) 66 [.box 0 0,.p a.kidsP,.p (.str [44,32]),.fn 67 [.box 0 0] []] (pH false l bx)=some (.val .undef,pH false (l++joinL [44,32] (argsT a)) bx):=
 callD_prG rfl rfl rfl (fun _ _=>rfl) (list0 hk hlen l hb)
def entC(e:Ent):List D:=[.p (.str e.s),.p (.int .i64 e.lv),.p (.int .i64 e.a),.p (.int .i64 e.b)]
def zC:List D:=[.p (.str []),.p (.int .i64 0),.p (.int .i64 0),.p (.int .i64 0)]
theorem node_bin{a:Nd}{e:Ent}(hl:look binT a.op=some e)(h0:NodeOk (kidN a 0))(h1:NodeOk (kidN a 1))(fin f:Bool)(l:List UInt8)(hb:l.length+(txt a fin).length≤100000000000000):
    ∃ex,call pg 40 [.box 0 0,.p a.pd,.p (.bool fin)] (pH f l [])=some (.val .undef,pH false (l++txt a fin) ex):=by
 have ht:txt a fin=oprK (kidN a 0).kt e.a false++(e.s++oprK (kidN a 1).kt e.b fin):=by
  rw[txt_eq];simp only[txtOf,hl,kK_eq]
 rw[ht] at hb⊢
 simp only[List.length_append] at hb
 have o1:=one_of (pd_one a)
 have g1:=ge1 f l a.op
 simp only[getT,zEnt,hl] at g1
 have lop:∀G tk x y z r,loadD G ⟨x::y::z::a.cells.map .p::r,tk⟩ none (.box 3 0)=some (.p (.int .i64 a.op)):=fun _ _ _ _ _ _=>rfl
 have lnd:∀G tk x y z r,loadD G ⟨x::y::z::a.cells.map .p::r,tk⟩ (some 5) (.box 3 0)=some (.p a.pd):=fun _ _ _ _ _ _=>load_ndb (i:=3) rfl
 have ls:∀G tk x y z w r,loadD G ⟨x::y::z::w::entC e::r,tk⟩ none (.box 4 0)=some (.p (.str e.s)):=fun _ _ _ _ _ _ _=>rfl
 have la:∀G tk x y z w r,loadD G ⟨x::y::z::w::entC e::r,tk⟩ none (.box 4 2)=some (.p (.int .i64 e.a)):=fun _ _ _ _ _ _ _=>rfl
 have lb:∀G tk x y z w r,loadD G ⟨x::y::z::w::entC e::r,tk⟩ none (.box 4 3)=some (.p (.int .i64 e.b)):=fun _ _ _ _ _ _ _=>rfl
 have k0:∀H,callD (call pg) 62 [.p a.pd,.p (.int .i64 0)] H=some (.val (.p (kidN a 0).pd),H):=kid_eq a 0 (by omega)
 have k1:∀H,callD (call pg) 62 [.p a.pd,.p (.int .i64 1)] H=some (.val (.p (kidN a 1).pd),H):=kid_eq a 1 (by omega)
 have w1:=opr_eq h0 e.a false f l [a.cells.map .p,entC e] (by omega)
 have w2:=wstr_eq false (l++oprK (kidN a 0).kt e.a false) e.s (by simp;omega) [a.cells.map .p,entC e]
 have w3:=opr_eq h1 e.b fin false (l++oprK (kidN a 0).kt e.a false++e.s) [a.cells.map .p,entC e] (by simp;omega)
 rw[show l++(oprK (kidN a 0).kt e.a false++(e.s++oprK (kidN a 1).kt e.b fin))=l++oprK (kidN a 0).kt e.a false++e.s++oprK (kidN a 1).kt e.b fin by simp]
 generalize l++oprK (kidN a 0).kt e.a false++e.s++oprK (kidN a 1).kt e.b fin=l3 at *
 generalize l++oprK (kidN a 0).kt e.a false++e.s=l2 at *
 generalize l++oprK (kidN a 0).kt e.a false=l1 at *
 refine⟨[a.cells.map .p,entC e],call_body (fc:=fc40) rfl rfl rfl rfl ?_⟩
 rw[pd_cells] at lnd k0 k1⊢
 simp only[pH,entC] at w1 w2 w3 ls la lb⊢
 simp[fc40,evKC,evK,put,Env.get,Env.keep,entry,Opd.ev,storeD,splice,D.asInt?,iaddrD,clsP,cls,clsR,isCl,isW,apartRW,offB,apartWW,clash,insOk,finish,evRes,D.cells,D.refsL,D.refs,D.toksL,D.toks,isMapC,o1,ld2,g1,Ent.pd,lop,lnd,ls,la,lb,k0,k1,w1,w2,w3]
theorem node_pre{a:Nd}{e:Ent}(hl0:look binT a.op=none)(hl:look preT a.op=some e)(h0:NodeOk (kidN a 0))(fin f:Bool)(l:List UInt8)(hb:l.length+(txt a fin).length≤100000000000000):
    ∃ex,call pg 40 [.box 0 0,.p a.pd,.p (.bool fin)] (pH f l [])=some (.val .undef,pH false (l++txt a fin) ex):=by
 have ht:txt a fin=e.s++oprK (kidN a 0).kt e.a fin:=by
  rw[txt_eq];simp only[txtOf,hl0,hl,kK_eq]
 rw[ht] at hb⊢
 simp only[List.length_append] at hb
 have o1:=one_of (pd_one a)
 have g1:=ge1 f l a.op
 have g2:=ge2 f l a.op
 simp only[getT,zEnt,hl0] at g1
 simp only[getT,zEnt,hl] at g2
 have lop:∀G tk x y z r,loadD G ⟨x::y::z::a.cells.map .p::r,tk⟩ none (.box 3 0)=some (.p (.int .i64 a.op)):=fun _ _ _ _ _ _=>rfl
 have lnd:∀G tk x y z r,loadD G ⟨x::y::z::a.cells.map .p::r,tk⟩ (some 5) (.box 3 0)=some (.p a.pd):=fun _ _ _ _ _ _=>load_ndb (i:=3) rfl
 have ls:∀G tk x y z w v r,loadD G ⟨x::y::z::w::v::entC e::r,tk⟩ none (.box 5 0)=some (.p (.str e.s)):=fun _ _ _ _ _ _ _ _=>rfl
 have la:∀G tk x y z w v r,loadD G ⟨x::y::z::w::v::entC e::r,tk⟩ none (.box 5 2)=some (.p (.int .i64 e.a)):=fun _ _ _ _ _ _ _ _=>rfl
 have k0:∀H,callD (call pg) 62 [.p a.pd,.p (.int .i64 0)] H=some (.val (.p (kidN a 0).pd),H):=kid_eq a 0 (by omega)
 have w1:=wstr_eq f l e.s (by omega) [a.cells.map .p,zC,entC e]
 have w2:=opr_eq h0 e.a fin false (l++e.s) [a.cells.map .p,zC,entC e] (by simp;omega)
 rw[show l++(e.s++oprK (kidN a 0).kt e.a fin)=l++e.s++oprK (kidN a 0).kt e.a fin by simp]
 generalize l++e.s++oprK (kidN a 0).kt e.a fin=l2 at *
 generalize l++e.s=l1 at *
 refine⟨[a.cells.map .p,zC,entC e],call_body (fc:=fc40) rfl rfl rfl rfl ?_⟩
 rw[pd_cells] at lnd k0⊢
 simp only[pH,entC,zC] at w1 w2 ls la⊢
 simp[fc40,evKC,evK,put,Env.get,Env.keep,entry,Opd.ev,storeD,splice,D.asInt?,iaddrD,clsP,cls,clsR,isCl,isW,apartRW,offB,apartWW,clash,insOk,finish,evRes,D.cells,D.refsL,D.refs,D.toksL,D.toks,isMapC,o1,ld2,ld3,g1,g2,Ent.pd,lop,lnd,ls,la,k0,w1,w2]
theorem itoa_eq{n:Int}(h:i64 n)(H:Hp):callD (call pg) 63 [.p (.int .i64 n)] H=some (.val (.p (.str (Lib.itoa n))),H):=by
 have h':pgL 63 [.p (.int .i64 n)] ⟨[],[]⟩=some (.val (.p (.str (Lib.itoa n))),⟨[],[]⟩):=by
  simp only[pgL]
  exact if_pos h
 exact callD_pure (call_lib h') rfl rfl rfl rfl
section
variable {a : Nd} (hl0 : look binT a.op = none) (hl : look preT a.op = none) (fin f : Bool) (l : List UInt8) (hb : l.length + (txt a fin).length ≤ 100000000000000)
include hl0 hl hb
theorem node_name(h:a.op=1):∃ex,call pg 40 [.box 0 0,.p a.pd,.p (.bool fin)] (pH f l [])=some (.val .undef,pH false (l++txt a fin) ex):=by
 have ht:txt a fin=a.nm:=by
  rw[txt_eq];simp only[txtOf,h,kK_eq,bnd_eq];rfl
 rw[ht] at hb⊢
 try simp only[List.length_append,List.length_cons,List.length_nil] at hb
 have o1:=one_of (pd_one a)
 have g1:=ge1 f l a.op
 have g2:=ge2 f l a.op
 simp only[getT,zEnt,hl0] at g1
 simp only[getT,zEnt,hl] at g2
 have lop:∀G tk x y z r,loadD G ⟨x::y::z::a.cells.map .p::r,tk⟩ none (.box 3 0)=some (.p (.int .i64 a.op)):=fun _ _ _ _ _ _=>rfl
 have lnm:∀G tk x y z r,loadD G ⟨x::y::z::a.cells.map .p::r,tk⟩ none (.box 3 1)=some (.p (.str a.nm)):=fun _ _ _ _ _ _=>rfl
 have ln:∀G tk x y z r,loadD G ⟨x::y::z::a.cells.map .p::r,tk⟩ none (.box 3 2)=some (.p (.int .i64 a.n)):=fun _ _ _ _ _ _=>rfl
 have lks:∀G tk x y z r,loadD G ⟨x::y::z::a.cells.map .p::r,tk⟩ none (.box 3 3)=some (.p a.kidsP):=fun _ _ _ _ _ _=>rfl
 have lnd:∀G tk x y z r,loadD G ⟨x::y::z::a.cells.map .p::r,tk⟩ (some 5) (.box 3 0)=some (.p a.pd):=fun _ _ _ _ _ _=>load_ndb (i:=3) rfl
 have k0:∀H,callD (call pg) 62 [.p a.pd,.p (.int .i64 0)] H=some (.val (.p (kidN a 0).pd),H):=kid_eq a 0 (by omega)
 have w1:=wstr_eq f l a.nm (by omega) [a.cells.map .p,zC,zC]
 refine⟨[a.cells.map .p,zC,zC],call_body (fc:=fc40) rfl rfl rfl rfl ?_⟩
 rw[pd_cells] at lnd k0⊢
 simp only[pH,zC] at w1⊢
 rw[h] at lop g1 g2
 simp[fc40,evKC,evK,put,Env.get,Env.keep,entry,Opd.ev,storeD,splice,binD,clsP,cls,clsR,isCl,isW,apartRW,offB,apartWW,clash,insOk,finish,evRes,D.cells,D.refsL,D.refs,D.toksL,D.toks,isMapC,o1,ld2,ld3,g1,g2,lop,lnm,w1]
theorem node_lit(h:a.op=20)(hn:i64 a.n):∃ex,call pg 40 [.box 0 0,.p a.pd,.p (.bool fin)] (pH f l [])=some (.val .undef,pH false (l++txt a fin) ex):=by
 have ht:txt a fin=Lib.itoa a.n:=by
  rw[txt_eq];simp only[txtOf,h,kK_eq,bnd_eq];rfl
 rw[ht] at hb⊢
 try simp only[List.length_append,List.length_cons,List.length_nil] at hb
 have o1:=one_of (pd_one a)
 have g1:=ge1 f l a.op
 have g2:=ge2 f l a.op
 simp only[getT,zEnt,hl0] at g1
 simp only[getT,zEnt,hl] at g2
 have lop:∀G tk x y z r,loadD G ⟨x::y::z::a.cells.map .p::r,tk⟩ none (.box 3 0)=some (.p (.int .i64 a.op)):=fun _ _ _ _ _ _=>rfl
 have lnm:∀G tk x y z r,loadD G ⟨x::y::z::a.cells.map .p::r,tk⟩ none (.box 3 1)=some (.p (.str a.nm)):=fun _ _ _ _ _ _=>rfl
 have ln:∀G tk x y z r,loadD G ⟨x::y::z::a.cells.map .p::r,tk⟩ none (.box 3 2)=some (.p (.int .i64 a.n)):=fun _ _ _ _ _ _=>rfl
 have lks:∀G tk x y z r,loadD G ⟨x::y::z::a.cells.map .p::r,tk⟩ none (.box 3 3)=some (.p a.kidsP):=fun _ _ _ _ _ _=>rfl
 have lnd:∀G tk x y z r,loadD G ⟨x::y::z::a.cells.map .p::r,tk⟩ (some 5) (.box 3 0)=some (.p a.pd):=fun _ _ _ _ _ _=>load_ndb (i:=3) rfl
 have k0:∀H,callD (call pg) 62 [.p a.pd,.p (.int .i64 0)] H=some (.val (.p (kidN a 0).pd),H):=kid_eq a 0 (by omega)
 have hi:=itoa_eq hn
 have w1:=wstr_eq f l (Lib.itoa a.n) (by omega) [a.cells.map .p,zC,zC]
 refine⟨[a.cells.map .p,zC,zC],call_body (fc:=fc40) rfl rfl rfl rfl ?_⟩
 rw[pd_cells] at lnd k0⊢
 simp only[pH,zC] at w1⊢
 rw[h] at lop g1 g2
 simp[fc40,evKC,evK,put,Env.get,Env.keep,entry,Opd.ev,storeD,splice,binD,clsP,cls,clsR,isCl,isW,apartRW,offB,apartWW,clash,insOk,finish,evRes,D.cells,D.refsL,D.refs,D.toksL,D.toks,isMapC,o1,ld2,ld3,g1,g2,lop,ln,w1,hi]
theorem node_prime(h:a.op=5)(h0:NodeOk (kidN a 0)):∃ex,call pg 40 [.box 0 0,.p a.pd,.p (.bool fin)] (pH f l [])=some (.val .undef,pH false (l++txt a fin) ex):=by
 have ht:txt a fin=oprK (kidN a 0).kt 14 false++[39]:=by
  rw[txt_eq];simp only[txtOf,h,kK_eq,bnd_eq];rfl
 rw[ht] at hb⊢
 try simp only[List.length_append,List.length_cons,List.length_nil] at hb
 have o1:=one_of (pd_one a)
 have g1:=ge1 f l a.op
 have g2:=ge2 f l a.op
 simp only[getT,zEnt,hl0] at g1
 simp only[getT,zEnt,hl] at g2
 have lop:∀G tk x y z r,loadD G ⟨x::y::z::a.cells.map .p::r,tk⟩ none (.box 3 0)=some (.p (.int .i64 a.op)):=fun _ _ _ _ _ _=>rfl
 have lnm:∀G tk x y z r,loadD G ⟨x::y::z::a.cells.map .p::r,tk⟩ none (.box 3 1)=some (.p (.str a.nm)):=fun _ _ _ _ _ _=>rfl
 have ln:∀G tk x y z r,loadD G ⟨x::y::z::a.cells.map .p::r,tk⟩ none (.box 3 2)=some (.p (.int .i64 a.n)):=fun _ _ _ _ _ _=>rfl
 have lks:∀G tk x y z r,loadD G ⟨x::y::z::a.cells.map .p::r,tk⟩ none (.box 3 3)=some (.p a.kidsP):=fun _ _ _ _ _ _=>rfl
 have lnd:∀G tk x y z r,loadD G ⟨x::y::z::a.cells.map .p::r,tk⟩ (some 5) (.box 3 0)=some (.p a.pd):=fun _ _ _ _ _ _=>load_ndb (i:=3) rfl
 have k0:∀H,callD (call pg) 62 [.p a.pd,.p (.int .i64 0)] H=some (.val (.p (kidN a 0).pd),H):=kid_eq a 0 (by omega)
 have w1:=opr_eq h0 14 false f l [a.cells.map .p,zC,zC] (by omega)
 have w2:callD (call pg) 64 [.box 0 0,.p (.int .u8 39)] (pH false (l++oprK (kidN a 0).kt 14 false) [a.cells.map .p,zC,zC])=some (.val (.p .nili),pH false (l++oprK (kidN a 0).kt 14 false++[39]) [a.cells.map .p,zC,zC]):=wbyte_eq false _ 39 (by simp;omega) _
 rw[←List.append_assoc]
 generalize l++oprK (kidN a 0).kt 14 false++[39]=l2 at *
 generalize l++oprK (kidN a 0).kt 14 false=l1 at *
 refine⟨[a.cells.map .p,zC,zC],call_body (fc:=fc40) rfl rfl rfl rfl ?_⟩
 rw[pd_cells] at lnd k0⊢
 simp only[pH,zC] at w1 w2⊢
 rw[h] at lop g1 g2
 simp[fc40,evKC,evK,put,Env.get,Env.keep,entry,Opd.ev,storeD,splice,binD,clsP,cls,clsR,isCl,isW,apartRW,offB,apartWW,clash,insOk,finish,evRes,D.cells,isMapC,o1,ld2,ld3,g1,g2,lop,lnd,k0,w1,w2]
theorem node_all(h:a.op=45)(h0:NodeOk (kidN a 0))(h1:NodeOk (kidN a 1)):∃ex,call pg 40 [.box 0 0,.p a.pd,.p (.bool fin)] (pH f l [])=some (.val .undef,pH false (l++txt a fin) ex):=by
 have ht:txt a fin=[97,108,108,32]++bndA a:=by
  rw[txt_eq];simp only[txtOf,h,kK_eq,bnd_eq];rfl
 rw[ht] at hb⊢
 try simp only[List.length_append,List.length_cons,List.length_nil] at hb
 have o1:=one_of (pd_one a)
 have g1:=ge1 f l a.op
 have g2:=ge2 f l a.op
 simp only[getT,zEnt,hl0] at g1
 simp only[getT,zEnt,hl] at g2
 have lop:∀G tk x y z r,loadD G ⟨x::y::z::a.cells.map .p::r,tk⟩ none (.box 3 0)=some (.p (.int .i64 a.op)):=fun _ _ _ _ _ _=>rfl
 have lnm:∀G tk x y z r,loadD G ⟨x::y::z::a.cells.map .p::r,tk⟩ none (.box 3 1)=some (.p (.str a.nm)):=fun _ _ _ _ _ _=>rfl
 have ln:∀G tk x y z r,loadD G ⟨x::y::z::a.cells.map .p::r,tk⟩ none (.box 3 2)=some (.p (.int .i64 a.n)):=fun _ _ _ _ _ _=>rfl
 have lks:∀G tk x y z r,loadD G ⟨x::y::z::a.cells.map .p::r,tk⟩ none (.box 3 3)=some (.p a.kidsP):=fun _ _ _ _ _ _=>rfl
 have lnd:∀G tk x y z r,loadD G ⟨x::y::z::a.cells.map .p::r,tk⟩ (some 5) (.box 3 0)=some (.p a.pd):=fun _ _ _ _ _ _=>load_ndb (i:=3) rfl
 have k0:∀H,callD (call pg) 62 [.p a.pd,.p (.int .i64 0)] H=some (.val (.p (kidN a 0).pd),H):=kid_eq a 0 (by omega)
 have w1:=wstr_eq f l [97,108,108,32] (by simp;omega) [a.cells.map .p,zC,zC]
 have w2:=bound_eq h0 h1 false (l++[97,108,108,32]) [a.cells.map .p,zC,zC] (by simp;omega)
 rw[←List.append_assoc]
 generalize l++[97,108,108,32]++bndA a=l2 at *
 generalize l++[97,108,108,32]=l1 at *
 refine⟨[a.cells.map .p,zC,zC],call_body (fc:=fc40) rfl rfl rfl rfl ?_⟩
 rw[pd_cells] at lnd k0 w2⊢
 simp only[pH,zC] at w1 w2⊢
 rw[h] at lop g1 g2
 simp[fc40,evKC,evK,put,Env.get,Env.keep,entry,Opd.ev,storeD,splice,binD,clsP,cls,clsR,isCl,isW,apartRW,offB,apartWW,clash,insOk,finish,evRes,D.cells,isMapC,o1,ld2,ld3,g1,g2,lop,lnd,w1,w2]
theorem node_ex(h:a.op=46)(h0:NodeOk (kidN a 0))(h1:NodeOk (kidN a 1)):∃ex,call pg 40 [.box 0 0,.p a.pd,.p (.bool fin)] (pH f l [])=some (.val .undef,pH false (l++txt a fin) ex):=by
 have ht:txt a fin=[115,111,109,101,32]++bndA a:=by
  rw[txt_eq];simp only[txtOf,h,kK_eq,bnd_eq];rfl
 rw[ht] at hb⊢
 try simp only[List.length_append,List.length_cons,List.length_nil] at hb
 have o1:=one_of (pd_one a)
 have g1:=ge1 f l a.op
 have g2:=ge2 f l a.op
 simp only[getT,zEnt,hl0] at g1
 simp only[getT,zEnt,hl] at g2
 have lop:∀G tk x y z r,loadD G ⟨x::y::z::a.cells.map .p::r,tk⟩ none (.box 3 0)=some (.p (.int .i64 a.op)):=fun _ _ _ _ _ _=>rfl
 have lnm:∀G tk x y z r,loadD G ⟨x::y::z::a.cells.map .p::r,tk⟩ none (.box 3 1)=some (.p (.str a.nm)):=fun _ _ _ _ _ _=>rfl
 have ln:∀G tk x y z r,loadD G ⟨x::y::z::a.cells.map .p::r,tk⟩ none (.box 3 2)=some (.p (.int .i64 a.n)):=fun _ _ _ _ _ _=>rfl
 have lks:∀G tk x y z r,loadD G ⟨x::y::z::a.cells.map .p::r,tk⟩ none (.box 3 3)=some (.p a.kidsP):=fun _ _ _ _ _ _=>rfl
 have lnd:∀G tk x y z r,loadD G ⟨x::y::z::a.cells.map .p::r,tk⟩ (some 5) (.box 3 0)=some (.p a.pd):=fun _ _ _ _ _ _=>load_ndb (i:=3) rfl
 have k0:∀H,callD (call pg) 62 [.p a.pd,.p (.int .i64 0)] H=some (.val (.p (kidN a 0).pd),H):=kid_eq a 0 (by omega)
 have w1:=wstr_eq f l [115,111,109,101,32] (by simp;omega) [a.cells.map .p,zC,zC]
 have w2:=bound_eq h0 h1 false (l++[115,111,109,101,32]) [a.cells.map .p,zC,zC] (by simp;omega)
 rw[←List.append_assoc]
 generalize l++[115,111,109,101,32]++bndA a=l2 at *
 generalize l++[115,111,109,101,32]=l1 at *
 refine⟨[a.cells.map .p,zC,zC],call_body (fc:=fc40) rfl rfl rfl rfl ?_⟩
 rw[pd_cells] at lnd k0 w2⊢
 simp only[pH,zC] at w1 w2⊢
 rw[h] at lop g1 g2
 simp[fc40,evKC,evK,put,Env.get,Env.keep,entry,Opd.ev,storeD,splice,binD,clsP,cls,clsR,isCl,isW,apartRW,offB,apartWW,clash,insOk,finish,evRes,D.cells,isMapC,o1,ld2,ld3,g1,g2,lop,lnd,w1,w2]
theorem node_compr(h:a.op=15)(h0:NodeOk (kidN a 0))(h1:NodeOk (kidN a 1)):∃ex,call pg 40 [.box 0 0,.p a.pd,.p (.bool fin)] (pH f l [])=some (.val .undef,pH false (l++txt a fin) ex):=by
 have ht:txt a fin=[123]++(bndA a++[125]):=by
  rw[txt_eq];simp only[txtOf,h,kK_eq,bnd_eq];rfl
 rw[ht] at hb⊢
 try simp only[List.length_append,List.length_cons,List.length_nil] at hb
 have o1:=one_of (pd_one a)
 have g1:=ge1 f l a.op
 have g2:=ge2 f l a.op
 simp only[getT,zEnt,hl0] at g1
 simp only[getT,zEnt,hl] at g2
 have lop:∀G tk x y z r,loadD G ⟨x::y::z::a.cells.map .p::r,tk⟩ none (.box 3 0)=some (.p (.int .i64 a.op)):=fun _ _ _ _ _ _=>rfl
 have lnm:∀G tk x y z r,loadD G ⟨x::y::z::a.cells.map .p::r,tk⟩ none (.box 3 1)=some (.p (.str a.nm)):=fun _ _ _ _ _ _=>rfl
 have ln:∀G tk x y z r,loadD G ⟨x::y::z::a.cells.map .p::r,tk⟩ none (.box 3 2)=some (.p (.int .i64 a.n)):=fun _ _ _ _ _ _=>rfl
 have lks:∀G tk x y z r,loadD G ⟨x::y::z::a.cells.map .p::r,tk⟩ none (.box 3 3)=some (.p a.kidsP):=fun _ _ _ _ _ _=>rfl
 have lnd:∀G tk x y z r,loadD G ⟨x::y::z::a.cells.map .p::r,tk⟩ (some 5) (.box 3 0)=some (.p a.pd):=fun _ _ _ _ _ _=>load_ndb (i:=3) rfl
 have k0:∀H,callD (call pg) 62 [.p a.pd,.p (.int .i64 0)] H=some (.val (.p (kidN a 0).pd),H):=kid_eq a 0 (by omega)
 have w1:callD (call pg) 64 [.box 0 0,.p (.int .u8 123)] (pH f l [a.cells.map .p,zC,zC])=some (.val (.p .nili),pH false (l++[123]) [a.cells.map .p,zC,zC]):=wbyte_eq f _ 123 (by omega) _
 have w2:=bound_eq h0 h1 false (l++[123]) [a.cells.map .p,zC,zC] (by simp;omega)
 have w3:callD (call pg) 64 [.box 0 0,.p (.int .u8 125)] (pH false (l++[123]++bndA a) [a.cells.map .p,zC,zC])=some (.val (.p .nili),pH false (l++[123]++bndA a++[125]) [a.cells.map .p,zC,zC]):=wbyte_eq false _ 125 (by simp;omega) _
 rw[show l++([123]++(bndA a++[125]))=l++[123]++bndA a++[125] by simp]
 generalize l++[123]++bndA a++[125]=l3 at *
 generalize l++[123]++bndA a=l2 at *
 generalize l++[123]=l1 at *
 refine⟨[a.cells.map .p,zC,zC],call_body (fc:=fc40) rfl rfl rfl rfl ?_⟩
 rw[pd_cells] at lnd k0 w2⊢
 simp only[pH,zC] at w1 w2 w3⊢
 rw[h] at lop g1 g2
 simp[fc40,evKC,evK,put,Env.get,Env.keep,entry,Opd.ev,storeD,splice,binD,clsP,cls,clsR,isCl,isW,apartRW,offB,apartWW,clash,insOk,finish,evRes,D.cells,isMapC,o1,ld2,ld3,g1,g2,lop,lnd,w1,w2,w3]
theorem node_call(h:a.op=47)(hks:∀x∈a.ks,NodeOk x)(hlen:a.ks.length≤1000000000):∃ex,call pg 40 [.box 0 0,.p a.pd,.p (.bool fin)] (pH f l [])=some (.val .undef,pH false (l++txt a fin) ex):=by
 have ht:txt a fin=a.nm++([91]++(joinL [44,32] (argsT a)++[93])):=by
  rw[txt_eq];simp only[txtOf,h,kK_eq,bnd_eq];show a.nm++([91]++(joinL [44,32] ((a.ks.map Nd.kt).map fun k=>oprK k 8 true)++[93]))=_;simp[argsT,List.map_map,Function.comp_def]
 rw[ht] at hb⊢
 try simp only[List.length_append,List.length_cons,List.length_nil] at hb
 have o1:=one_of (pd_one a)
 have g1:=ge1 f l a.op
 have g2:=ge2 f l a.op
 simp only[getT,zEnt,hl0] at g1
 simp only[getT,zEnt,hl] at g2
 have lop:∀G tk x y z r,loadD G ⟨x::y::z::a.cells.map .p::r,tk⟩ none (.box 3 0)=some (.p (.int .i64 a.op)):=fun _ _ _ _ _ _=>rfl
 have lnm:∀G tk x y z r,loadD G ⟨x::y::z::a.cells.map .p::r,tk⟩ none (.box 3 1)=some (.p (.str a.nm)):=fun _ _ _ _ _ _=>rfl
 have ln:∀G tk x y z r,loadD G ⟨x::y::z::a.cells.map .p::r,tk⟩ none (.box 3 2)=some (.p (.int .i64 a.n)):=fun _ _ _ _ _ _=>rfl
 have lks:∀G tk x y z r,loadD G ⟨x::y::z::a.cells.map .p::r,tk⟩ none (.box 3 3)=some (.p a.kidsP):=fun _ _ _ _ _ _=>rfl
 have lnd:∀G tk x y z r,loadD G ⟨x::y::z::a.cells.map .p::r,tk⟩ (some 5) (.box 3 0)=some (.p a.pd):=fun _ _ _ _ _ _=>load_ndb (i:=3) rfl
 have k0:∀H,callD (call pg) 62 [.p a.pd,.p (.int .i64 0)] H=some (.val (.p (kidN a 0).pd),H):=kid_eq a 0 (by omega)
 have hnm:a.nm.length≤140737488355327:=by omega
 have w1:=wstr_eq f l (a.nm++[91]) (by simp;omega) [a.cells.map .p,zC,zC]
 have w2:=list_eq hks hlen (l++(a.nm++[91])) [a.cells.map .p,zC,zC] (by simp;omega)
 have w3:callD (call pg) 64 [.box 0 0,.p (.int .u8 93)] (pH false (l++(a.nm++[91])++joinL [44,32] (argsT a)) [a.cells.map .p,zC,zC])=some (.val (.p .nili),pH false (l++(a.nm++[91])++joinL [44,32] (argsT a)++[93]) [a.cells.map .p,zC,zC]):=wbyte_eq false _ 93 (by simp;omega) _
 rw[show l++(a.nm++([91]++(joinL [44,32] (argsT a)++[93])))=l++(a.nm++[91])++joinL [44,32] (argsT a)++[93] by simp]
 generalize l++(a.nm++[91])++joinL [44,32] (argsT a)++[93]=l3 at *
 generalize l++(a.nm++[91])++joinL [44,32] (argsT a)=l2 at *
 generalize l++(a.nm++[91])=l1 at *
 refine⟨[a.cells.map .p,zC,zC],call_body (fc:=fc40) rfl rfl rfl rfl ?_⟩
 rw[pd_cells] at lnd k0⊢
 simp only[pH,zC] at w1 w2 w3⊢
 rw[h] at lop g1 g2
 simp[fc40,evKC,evK,put,Env.get,Env.keep,entry,Opd.ev,storeD,splice,binD,strBin,clsP,cls,clsR,isCl,isW,apartRW,offB,apartWW,clash,insOk,finish,evRes,D.cells,D.refsL,D.refs,D.toksL,D.toks,isMapC,o1,ld2,ld3,g1,g2,lop,lnm,lks,w1,w2,w3,hnm]
theorem node_none1(h:a.op=2)(h1:a.n=1):∃ex,call pg 40 [.box 0 0,.p a.pd,.p (.bool fin)] (pH f l [])=some (.val .undef,pH false (l++txt a fin) ex):=by
 have ht:txt a fin=[110,111,110,101]:=by
  rw[txt_eq];simp only[txtOf,h,kK_eq,bnd_eq];simp[h1];rfl
 rw[ht] at hb⊢
 try simp only[List.length_cons,List.length_nil] at hb
 have o1:=one_of (pd_one a)
 have g1:=ge1 f l a.op
 have g2:=ge2 f l a.op
 simp only[getT,zEnt,hl0] at g1
 simp only[getT,zEnt,hl] at g2
 have lop:∀G tk x y z r,loadD G ⟨x::y::z::a.cells.map .p::r,tk⟩ none (.box 3 0)=some (.p (.int .i64 a.op)):=fun _ _ _ _ _ _=>rfl
 have lnm:∀G tk x y z r,loadD G ⟨x::y::z::a.cells.map .p::r,tk⟩ none (.box 3 1)=some (.p (.str a.nm)):=fun _ _ _ _ _ _=>rfl
 have ln:∀G tk x y z r,loadD G ⟨x::y::z::a.cells.map .p::r,tk⟩ none (.box 3 2)=some (.p (.int .i64 a.n)):=fun _ _ _ _ _ _=>rfl
 have lks:∀G tk x y z r,loadD G ⟨x::y::z::a.cells.map .p::r,tk⟩ none (.box 3 3)=some (.p a.kidsP):=fun _ _ _ _ _ _=>rfl
 have lnd:∀G tk x y z r,loadD G ⟨x::y::z::a.cells.map .p::r,tk⟩ (some 5) (.box 3 0)=some (.p a.pd):=fun _ _ _ _ _ _=>load_ndb (i:=3) rfl
 have k0:∀H,callD (call pg) 62 [.p a.pd,.p (.int .i64 0)] H=some (.val (.p (kidN a 0).pd),H):=kid_eq a 0 (by omega)
 have w1:=wstr_eq f l [110,111,110,101] (by simp;omega) [a.cells.map .p,zC,zC]
 refine⟨[a.cells.map .p,zC,zC],call_body (fc:=fc40) rfl rfl rfl rfl ?_⟩
 rw[pd_cells] at lnd k0⊢
 simp only[pH,zC] at w1⊢
 rw[h] at lop g1 g2
 simp[fc40,evKC,evK,put,Env.get,Env.keep,entry,Opd.ev,storeD,splice,binD,clsP,cls,clsR,isCl,isW,apartRW,offB,apartWW,clash,insOk,finish,evRes,D.cells,isMapC,o1,ld2,ld3,g1,g2,lop,ln,w1,h1]
theorem node_none2(h:a.op=2)(h1:¬a.n=1)(hn:i64 a.n):∃ex,call pg 40 [.box 0 0,.p a.pd,.p (.bool fin)] (pH f l [])=some (.val .undef,pH false (l++txt a fin) ex):=by
 have ht:txt a fin=[110,111,110,101]++([91]++(Lib.itoa a.n++[93])):=by
  rw[txt_eq];simp only[txtOf,h,kK_eq,bnd_eq];simp[h1];rfl
 rw[ht] at hb⊢
 try simp only[List.length_append,List.length_cons,List.length_nil] at hb
 have o1:=one_of (pd_one a)
 have g1:=ge1 f l a.op
 have g2:=ge2 f l a.op
 simp only[getT,zEnt,hl0] at g1
 simp only[getT,zEnt,hl] at g2
 have lop:∀G tk x y z r,loadD G ⟨x::y::z::a.cells.map .p::r,tk⟩ none (.box 3 0)=some (.p (.int .i64 a.op)):=fun _ _ _ _ _ _=>rfl
 have lnm:∀G tk x y z r,loadD G ⟨x::y::z::a.cells.map .p::r,tk⟩ none (.box 3 1)=some (.p (.str a.nm)):=fun _ _ _ _ _ _=>rfl
 have ln:∀G tk x y z r,loadD G ⟨x::y::z::a.cells.map .p::r,tk⟩ none (.box 3 2)=some (.p (.int .i64 a.n)):=fun _ _ _ _ _ _=>rfl
 have lks:∀G tk x y z r,loadD G ⟨x::y::z::a.cells.map .p::r,tk⟩ none (.box 3 3)=some (.p a.kidsP):=fun _ _ _ _ _ _=>rfl
 have lnd:∀G tk x y z r,loadD G ⟨x::y::z::a.cells.map .p::r,tk⟩ (some 5) (.box 3 0)=some (.p a.pd):=fun _ _ _ _ _ _=>load_ndb (i:=3) rfl
 have k0:∀H,callD (call pg) 62 [.p a.pd,.p (.int .i64 0)] H=some (.val (.p (kidN a 0).pd),H):=kid_eq a 0 (by omega)
 have hi:=itoa_eq hn
 have h1':(a.n !=1)=true:=by simpa using h1
 have hil:(Lib.itoa a.n).length≤140737488355320:=by omega
 have hil2:1+(Lib.itoa a.n).length≤140737488355328:=by omega
 have hil3:(Lib.itoa a.n).length+1≤140737488355328:=by omega
 have hil4:(Lib.itoa a.n).length+1+1≤140737488355328:=by omega
 have w1:=wstr_eq f l [110,111,110,101] (by simp;omega) [a.cells.map .p,zC,zC]
 have w2:=wstr_eq false (l++[110,111,110,101]) ([91]++Lib.itoa a.n++[93]) (by simp;omega) [a.cells.map .p,zC,zC]
 rw[show l++([110,111,110,101]++([91]++(Lib.itoa a.n++[93])))=l++[110,111,110,101]++([91]++Lib.itoa a.n++[93]) by simp]
 generalize l++[110,111,110,101]++([91]++Lib.itoa a.n++[93])=l2 at *
 generalize l++[110,111,110,101]=l1 at *
 simp only[List.cons_append,List.nil_append] at w2
 refine⟨[a.cells.map .p,zC,zC],call_body (fc:=fc40) rfl rfl rfl rfl ?_⟩
 rw[pd_cells] at lnd k0⊢
 simp only[pH,zC] at w1 w2⊢
 rw[h] at lop g1 g2
 simp[fc40,evKC,evK,put,Env.get,Env.keep,entry,Opd.ev,storeD,splice,binD,strBin,clsP,cls,clsR,isCl,isW,apartRW,offB,apartWW,clash,insOk,finish,evRes,D.cells,D.refsL,D.refs,D.toksL,D.toks,isMapC,o1,ld2,ld3,g1,g2,lop,ln,w1,w2,hi,h1',hil2,hil4]
end
end Go.Proofs.YtalgjkpkkdljaaaDoor
namespace Go.Proofs.YtalgjkpkkdljaaaDoor
open Go.Vs
theorem cls_ins(c:Bool)(n m k:Nat):((n,m+1)=if c=true then((1 :Nat),(0 :Nat)) else(k,0))=False:=by
 cases c<;>simp
theorem node_const{a:Nd}(hl0:look binT a.op=none)(hl:look preT a.op=none)(fin f:Bool)(l:List UInt8)(hb:l.length+(txt a fin).length≤100000000000000)
    (h1:a.op≠1) (h2:a.op≠2) (h3:a.op≠20) (h4:a.op≠5) (h5:a.op≠45) (h6:a.op≠46) (h7:a.op≠15) (h8:a.op≠47):∃ex,call pg 40 [.box 0 0,.p a.pd,.p (.bool fin)] (pH f l [])=some (.val .undef,pH false (l++txt a fin) ex):=by
 have ht:txt a fin=constT a.op:=by
  rw[txt_eq];simp only[txtOf,hl0,hl,h1,h2,h3,h4,h5,h6,h7,h8,if_false]
 rw[ht] at hb⊢
 have o1:=one_of (pd_one a)
 have g1:=ge1 f l a.op
 have g2:=ge2 f l a.op
 simp only[getT,zEnt,hl0] at g1
 simp only[getT,zEnt,hl] at g2
 have lop:∀G tk x y z r,loadD G ⟨x::y::z::a.cells.map .p::r,tk⟩ none (.box 3 0)=some (.p (.int .i64 a.op)):=fun _ _ _ _ _ _=>rfl
 have mi1:∀x0 x1 x2 x3 x4 x5 tk,mapinsD 13 (.mapr 6) (.p (.int .i64 3)) (.p (.str [117,110,105,118])) ⟨x0::x1::x2::x3::x4::x5::[[.mapc 13 [] []]],tk⟩=some (.undef,⟨x0::x1::x2::x3::x4::x5::[[.mapc 13 [.int .i64 3] [.p (.str [117,110,105,118])]]],tk⟩):=fun _ _ _ _ _ _ _=>rfl
 have mi2:∀x0 x1 x2 x3 x4 x5 tk,mapinsD 13 (.mapr 6) (.p (.int .i64 4)) (.p (.str [105,100,101,110])) ⟨x0::x1::x2::x3::x4::x5::[[.mapc 13 [.int .i64 3] [.p (.str [117,110,105,118])]]],tk⟩=some (.undef,⟨x0::x1::x2::x3::x4::x5::[[.mapc 13 [.int .i64 3,.int .i64 4] [.p (.str [117,110,105,118]),.p (.str [105,100,101,110])]]],tk⟩):=fun _ _ _ _ _ _ _=>rfl
 have mi3:∀x0 x1 x2 x3 x4 x5 tk,mapinsD 13 (.mapr 6) (.p (.int .i64 30)) (.p (.str [116,114,117,101])) ⟨x0::x1::x2::x3::x4::x5::[[.mapc 13 [.int .i64 3,.int .i64 4] [.p (.str [117,110,105,118]),.p (.str [105,100,101,110])]]],tk⟩=some (.undef,⟨x0::x1::x2::x3::x4::x5::[[.mapc 13 [.int .i64 3,.int .i64 4,.int .i64 30] [.p (.str [117,110,105,118]),.p (.str [105,100,101,110]),.p (.str [116,114,117,101])]]],tk⟩):=fun _ _ _ _ _ _ _=>rfl
 have mi4:∀x0 x1 x2 x3 x4 x5 tk,mapinsD 13 (.mapr 6) (.p (.int .i64 31)) (.p (.str [102,97,108,115,101])) ⟨x0::x1::x2::x3::x4::x5::[[.mapc 13 [.int .i64 3,.int .i64 4,.int .i64 30] [.p (.str [117,110,105,118]),.p (.str [105,100,101,110]),.p (.str [116,114,117,101])]]],tk⟩=some (.undef,⟨x0::x1::x2::x3::x4::x5::[[.mapc 13 [.int .i64 3,.int .i64 4,.int .i64 30,.int .i64 31] [.p (.str [117,110,105,118]),.p (.str [105,100,101,110]),.p (.str [116,114,117,101]),.p (.str [102,97,108,115,101])]]],tk⟩):=fun _ _ _ _ _ _ _=>rfl
 have mg:∀x0 x1 x2 x3 x4 x5 tk,mapgetD 13 (.str []) false (.mapr 6) (.p (.int .i64 a.op)) ⟨x0::x1::x2::x3::x4::x5::[[.mapc 13 [.int .i64 3,.int .i64 4,.int .i64 30,.int .i64 31] [.p (.str [117,110,105,118]),.p (.str [105,100,101,110]),.p (.str [116,114,117,101]),.p (.str [102,97,108,115,101])]]],tk⟩=some (.p (.str (constT a.op))):=by
  intro x0 x1 x2 x3 x4 x5 tk
  have hk:keyKind (.int .i64 a.op)=13:=rfl
  simp only[mapgetD,List.getElem?_cons_succ,List.getElem?_cons_zero,hk,true_and,ne_eq,findK,keyEq,beq_iff_eq,constT]
  by_cases e1:a.op=3
  ·simp[e1]
  by_cases e2:a.op=4
  ·simp[e2]
  by_cases e3:a.op=30
  ·simp[e3]
  by_cases e4:a.op=31
  ·simp[e4]
  simp[e1,e2,e3,e4]
 let mb:List D:=[.mapc 13 [.int .i64 3,.int .i64 4,.int .i64 30,.int .i64 31] [.p (.str [117,110,105,118]),.p (.str [105,100,101,110]),.p (.str [116,114,117,101]),.p (.str [102,97,108,115,101])]]
 have w1:=wstr_eq f l (constT a.op) (by omega) [a.cells.map .p,zC,zC,mb]
 refine⟨[a.cells.map .p,zC,zC,mb],call_body (fc:=fc40) rfl rfl rfl rfl ?_⟩
 have b1:(a.op==1)=false:=by simpa using h1
 have b2:(a.op==2)=false:=by simpa using h2
 have b3:(a.op==20)=false:=by simpa using h3
 have b4:(a.op==5)=false:=by simpa using h4
 have b5:(a.op==45)=false:=by simpa using h5
 have b6:(a.op==46)=false:=by simpa using h6
 have b7:(a.op==15)=false:=by simpa using h7
 have b8:(a.op==47)=false:=by simpa using h8
 have c4:=fun c k=>cls_ins c 16 3 k
 have c5:=fun c k=>cls_ins c 16 4 k
 have c31:=fun c k=>cls_ins c 16 30 k
 have c32:=fun c k=>cls_ins c 16 31 k
 simp only[Nat.reduceAdd] at c4 c5 c31 c32
 rw[pd_cells]
 simp only[pH,zC,mb] at w1⊢
 simp[fc40,evKC,evK,put,Env.get,Env.keep,entry,Opd.ev,storeD,splice,binD,clsP,cls,clsR,isCl,isW,apartRW,offB,apartWW,clash,insOk,finish,evRes,D.cells,D.refsL,D.refs,D.toksL,D.toks,isMapC,o1,ld2,ld3,g1,g2,lop,b1,b2,b3,b4,b5,b6,b7,b8,mi1,mi2,mi3,mi4,mg,w1,keyCode,c4,c5,c31,c32]
mutual
def Nd.i64s:Nd→Prop
 | .mk _ _ n _ ks _=>i64 n∧Nd.i64sL ks
def Nd.i64sL:List Nd→Prop
 |[]=>True
 |k::ks=>k.i64s∧Nd.i64sL ks
end
theorem i64s_n{a:Nd}(h:a.i64s):i64 a.n:=by cases a;exact h.1
theorem i64sL_mem:∀{ks:List Nd} {x:Nd},Nd.i64sL ks→x∈ks→x.i64s
 |k::ks,x,h,hx=>by
  rcases List.mem_cons.1 hx with q |q
  ·rw[q];exact h.1
  ·exact i64sL_mem h.2 q
theorem i64s_kid{a x:Nd}(h:a.i64s)(hx:x∈a.ks):x.i64s:=by cases a;exact i64sL_mem h.2 hx
theorem size_memL:∀{ks:List Nd} {x:Nd},x∈ks→x.size≤Nd.sizeL ks
 |k::ks,x,hx=>by
  simp only[Nd.sizeL]
  rcases List.mem_cons.1 hx with q |q
  ·rw[q];omega
  ·have:=size_memL q;omega
theorem size_lt{a x:Nd}(hx:x∈a.ks):x.size<a.size:=by
 cases a
 have:=size_memL hx
 simp only[Nd.size,Nd.ks] at *
 omega
theorem size_pos(a:Nd):1≤a.size:=by cases a;simp only[Nd.size];omega
theorem lenL_size:∀ks:List Nd,ks.length≤Nd.sizeL ks
 |[]=>Nat.le_refl _
 |k::ks=>by
  have:=lenL_size ks
  have:=size_pos k
  simp only[Nd.sizeL,List.length_cons];omega
theorem len_size(a:Nd):a.ks.length≤a.size:=by
 cases a with
 |mk op nm n c ks pos=>
  have:=lenL_size ks
  simp only[Nd.size,Nd.ks];omega
theorem nodeOk_of{a:Nd}(h:∀(fin f:Bool) (l:List UInt8),l.length+(txt a fin).length≤100000000000000→∃ex,call pg 40 [.box 0 0,.p a.pd,.p (.bool fin)] (pH f l [])=some (.val .undef,pH false (l++txt a fin) ex)):NodeOk a:=by
 intro fin f l bx hb
 obtain⟨ex,h⟩:=h fin f l hb
 exact callD_pr (args:=[a.pd,.bool fin]) (fun _ _=>rfl) h
theorem node_zero:NodeOk zN:=nodeOk_of fun fin f l hb=>node_const (a:=zN) rfl rfl fin f l hb (by decide) (by decide) (by decide) (by decide) (by decide) (by decide) (by decide) (by decide)
theorem node_kid{a:Nd}(hk:∀x∈a.ks,NodeOk x)(i:Nat):NodeOk (kidN a i):=by
 unfold kidN
 cases h:a.ks[i]? with
 |none=>exact node_zero
 |some x=>exact hk x (List.mem_of_getElem? h)
def NodeC(a:Nd):Prop:=∀(fin f:Bool) (l:List UInt8),l.length+(txt a fin).length≤100000000000000→∃ex,call pg 40 [.box 0 0,.p a.pd,.p (.bool fin)] (pH f l [])=some (.val .undef,pH false (l++txt a fin) ex)
theorem node_every:∀(s:Nat) (a:Nd),a.size≤s→s≤1000000000→a.i64s→NodeC a:=by
 intro s
 induction s with
 |zero=>intro a h;have:=size_pos a;omega
 |succ s ih=>
  intro a hs hb hi
  have hk:∀x∈a.ks,NodeOk x:=fun x hx=>nodeOk_of (ih x (by have:=size_lt hx;omega) (by omega) (i64s_kid hi hx))
  have k0:=node_kid hk 0
  have k1:=node_kid hk 1
  have hn:=i64s_n hi
  have hlen:a.ks.length≤1000000000:=by have:=len_size a;omega
  intro fin f l hl
  cases h0:look binT a.op with
  |some e=>exact node_bin h0 k0 k1 fin f l hl
  |none=>
   cases h1:look preT a.op with
   |some e=>exact node_pre h0 h1 k0 fin f l hl
   |none=>
    by_cases e1:a.op=1
    ·exact node_name h0 h1 fin f l hl e1
    by_cases e2:a.op=2
    ·by_cases en:a.n=1
     ·exact node_none1 h0 h1 fin f l hl e2 en
     ·exact node_none2 h0 h1 fin f l hl e2 en hn
    by_cases e3:a.op=20
    ·exact node_lit h0 h1 fin f l hl e3 hn
    by_cases e4:a.op=5
    ·exact node_prime h0 h1 fin f l hl e4 k0
    by_cases e5:a.op=45
    ·exact node_all h0 h1 fin f l hl e5 k0 k1
    by_cases e6:a.op=46
    ·exact node_ex h0 h1 fin f l hl e6 k0 k1
    by_cases e7:a.op=15
    ·exact node_compr h0 h1 fin f l hl e7 k0 k1
    by_cases e8:a.op=47
    ·exact node_call h0 h1 fin f l hl e8 hk hlen
    exact node_const h0 h1 fin f l hl e1 e2 e3 e4 e5 e6 e7 e8
theorem callD_ofP{c:CallR}{f:Nat}{args:List D}{H:Hp}(ids tks:List Nat){as1:List D}{bx:List (List D)}{tk:List Nat}{r:Res}{H':Hp}
    (h1:reach H H.bx.length (ins [] (D.refsL args))=ids) (h2:ins [] (D.toksL args++boxToks H ids)=tks) (h3:(Vs.nodupB ids&&Vs.nodupB tks)=true)
    (h4:D.renL (idx ids) (idx tks) args=some as1) (h5:mapO (fun i=>match H.bx[i]? with |some cs=>D.renL (idx ids) (idx tks) cs |none=>none) ids=some bx)
    (h6:mapO (fun t=>H.tk[t]?) tks=some tk) (h7:c f as1 ⟨bx,tk⟩=some (r,H')):callD c f args H=back ids tks H r H':=by
 simp only[callD,h1,h2,h3,h4,h6,if_true]
 erw [h5]
 simp only[h7]
def prF(f:Bool)(l:List UInt8):List D:=[if f then .fresh 78 4 3 else .box 3 0,.tsl 0 5 1 (bytesP l),.mapr 1,.mapr 2]
def FH(a:Nd)(f:Bool)(l:List UInt8):Hp:=⟨[a.cells.map .p,tabM binT,tabM preT,prF f l],[l.length]⟩
theorem new_eq(b0:List D):callD (call pg) 39 [] ⟨[b0],[]⟩=some (.val (.box 3 0),⟨[b0,tabM binT,tabM preT,[.fresh 78 4 3,.p .nils,.mapr 1,.mapr 2]],[]⟩):=by
 refine(callD_ofP (as1:=[]) [] [] rfl rfl rfl rfl rfl rfl (call_of_evF 10 new_run)).trans ?_
 simp[back,firstN,mapO,Res.ren,D.ren,D.renL,ren_tab,putAll]
theorem refs_tab(t:List Ent):D.refsL (tabM t)=[]:=by
 have :∀l:List PD,D.refsL (l.map .p)=[]:=fun l=>by induction l with |nil=>rfl |cons x l ih=>simp[D.refsL,D.refs,ih]
 have e:(t.map fun e=>D.p e.pd)=(t.map Ent.pd).map D.p:=by simp
 simp only[tabM,e,D.refsL,D.refs,this,List.append_nil]
theorem toks_tab(t:List Ent):D.toksL (tabM t)=[]:=by
 have :∀l:List PD,D.toksL (l.map .p)=[]:=fun l=>by induction l with |nil=>rfl |cons x l ih=>simp[D.toksL,D.toks,ih]
 have e:(t.map fun e=>D.p e.pd)=(t.map Ent.pd).map D.p:=by simp
 simp only[tabM,e,D.toksL,D.toks,this,List.append_nil]
theorem callF{g:Nat}{args:List PD}{a:Nd}{f f':Bool}{l l':List UInt8}{d:D}{ex:List (List D)}(hd:∀bi ti,d.ren bi ti=some d)
    (h:call pg g (.box 0 0::args.map .p) (pH f l [])=some (.val d,pH f' l' ex)):callD (call pg) g (.box 3 0::args.map .p) (FH a f l)=some (.val d,FH a f' l'):=by
 have rp:∀l:List PD,D.refsL (l.map .p)=[]:=fun l=>by induction l with |nil=>rfl |cons x l ih=>simp[D.refsL,D.refs,ih]
 have tp:∀l:List PD,D.toksL (l.map .p)=[]:=fun l=>by induction l with |nil=>rfl |cons x l ih=>simp[D.toksL,D.toks,ih]
 have z0:ins [] (D.refsL (D.box 3 0::args.map .p))=[3]:=by simp[D.refsL,D.refs,rp,ins]
 have q1:reach (FH a f l) (FH a f l).bx.length (ins [] (D.refsL (D.box 3 0::args.map .p)))=[3,1,2]:=by
  rw[z0]
  cases f<;>simp[reach,boxRefs,ins,FH,prF,refs_tab,D.refsL,D.refs]
 have q2:ins [] (D.toksL (D.box 3 0::args.map .p)++boxToks (FH a f l) [3,1,2])=[0]:=by
  cases f<;>simp[boxToks,ins,FH,prF,toks_tab,D.toksL,D.toks,tp]
 have k3:idx [3,1,2] 3=some 0:=rfl
 have k1:idx [3,1,2] 1=some 1:=rfl
 have k2:idx [3,1,2] 2=some 2:=rfl
 have k0:idx [0] 0=some 0:=rfl
 have q4:D.renL (idx [3,1,2]) (idx [0]) (D.box 3 0::args.map .p)=some (.box 0 0::args.map .p):=by
  simp only[D.renL,D.ren,k3,renL_p,Option.map_some]
 have q5:mapO (fun i=>match(FH a f l).bx[i]? with |some cs=>D.renL (idx [3,1,2]) (idx [0]) cs |none=>none) [3,1,2]=some (pH f l []).bx:=by
  cases f<;>simp[mapO,FH,prF,pH,prC,ren_tab,D.renL,D.ren,k0,k1,k2,k3]
 refine(callD_ofP [3,1,2] [0] q1 q2 rfl q4 q5 rfl h).trans ?_
 cases f'<;>simp[back,firstN,mapO,FH,prF,pH,prC,ren_tab,D.renL,D.ren,Res.ren,hd,putAll]
theorem formula0{a:Nd}(hs:a.size≤1000000000)(hi:a.i64s)(hb:(txt a true).length≤100000000000000):∃H',call pg 14 [.p a.pd] ⟨[],[]⟩=some (.val (.p (.str (txt a true))),H'):=by
 have hkn:=pone_kids a
 have nw:=new_eq (a.cells.map .p)
 have nd:∃ex,call pg 40 (.box 0 0::[a.pd,.bool true].map .p) (pH true [] [])=some (.val .undef,pH false (txt a true) ex):=by
  exact node_every 1000000000 a hs (Nat.le_refl _) hi true true [] (by simpa using hb)
 obtain⟨ex,nd⟩:=nd
 have c1:=callF (a:=a) (fun _ _=>rfl) nd
 have c2:=callF (a:=a) (args:=[]) (fun _ _=>rfl) (bstr0 false (txt a true) (by omega))
 refine⟨FH a false (txt a true),call_body (fc:=fc14) rfl rfl rfl rfl ?_⟩
 simp only[FH,prF,List.map_cons,List.map_nil,pd_cells a,Nd.cells,bytesP,List.length_nil,if_true,Bool.false_eq_true,if_false] at nw c1 c2⊢
 simp[fc14,evKC,evK,put,Env.get,Env.keep,entry,Opd.ev,loadD,cutAt,sub,finish,evRes,evRes1,D.cells,mkAgg,pures,isMapC,nw,c1,c2,tokbD,tokD]
theorem formula_eq{a:Nd}(hs:a.size≤1000000000)(hi:a.i64s)(hb:(txt a true).length≤100000000000000)(H:Hp):callD (call pg) 14 [.p a.pd] H=some (.val (.p (.str (txt a true))),H):=
 callD_any (formula0 hs hi hb) rfl rfl rfl rfl H
end Go.Proofs.YtalgjkpkkdljaaaDoor
namespace Go.Proofs.YtalgjkpkkdljaaaDoor.Ps
open Go.Vs
def syms:List (List UInt8):=[[60,61,62],[60,61],[60],[61,62],[61],[33,61],[45,62],[45],[43,43],[43],[38,38],[38],[124,124],[124],[40],[41],[123],[125],[91],[93],[58],[59],[44],[46],[39],[126],[94],[42],[35]]
def kwL:List UInt8:=[32,115,111,114,116,32,111,114,100,101,114,101,100,32,118,97,114,32,102,105,101,108,100,32,112,114,101,100,32,102,97,99,116,32,97,108,108,32,115,111,109,101,32,110,111,32,111,110,101,32,108,111,110,101,32,97,108,119,97,121,115,32,101,118,101,110,116,117,97,108,108,121,32,97,102,116,101,114,32,117,110,116,105,108,32,110,111,110,101,32,117,110,105,118,32,105,100,101,110,32,105,110,32,110,111,116,32,116,114,117,101,32,102,97,108,115,101,32]
def kw(s:List UInt8):Bool:=Lib.contains kwL (32::s++[32])
def letter(c:UInt8):Bool:=(decide (97≤c.toNat)&&decide (c.toNat≤122))||(decide (65≤c.toNat)&&decide (c.toNat≤90))
def tailC(c:UInt8):Bool:=letter c||(c.toNat==95||(decide (48≤c.toNat)&&decide (c.toNat≤57)))
def chs:Nat→List UInt8→Bool
 |_,[]=>true
 | 0,c::r=>letter c&&chs 1 r
 |i+1,c::r=>tailC c&&chs (i+2) r
def isNm(s:List UInt8):Bool:=!(s==[])&&(decide (s.length≤16)&&(!kw s&&chs 0 s))
theorem chs_step{s:List UInt8}{k:Nat}(hlt:k<s.length):chs k (s.drop k)=((if(k==0)=true then letter s[k] else tailC s[k])&&chs (k+1) (s.drop (k+1))):=by
 rw[List.drop_eq_getElem_cons hlt]
 cases k with
 |zero=>rfl
 |succ k=>rfl
theorem lenD_str(s:List UInt8):lenD 0 (.p (.str s))=some s.length:=rfl
def knd(op:Int):Int:=if 1≤op∧op≤15 then 1 else if 20≤op∧op≤23 then 2 else if 30≤op∧op≤51 then 3 else 0
def nmd(op:Int):Bool:=op==1||(op==15||(op==45||(op==46||op==47)))
def ownB(op:Int)(nm:List UInt8)(n:Int):Bool:=
 if nmd op=true then isNm nm&&n==0
 else if(op==2)=true then nm==[]&&(decide (1≤n)&&decide (n≤3))
 else if(op==20)=true then nm==[]&&(decide (-64≤n)&&decide (n≤64))
 else nm==[]&&n==0
def ownN(a:Nd):Bool:=ownB a.op a.nm a.n
def shpT:List (Int×List UInt8):=[(1,[]),(2,[]),(3,[]),(4,[]),(5,[101]),(6,[101,101]),(7,[101,101]),(8,[101,101]),(9,[101,101]),(10,[101,101]),(11,[101]),(12,[101]),(13,[101]),(14,[101,101]),(15,[101,102]),(20,[]),(21,[101]),(22,[105,105]),(23,[105,105]),(30,[]),(31,[]),(32,[101,101]),(33,[101,101]),(34,[101]),(35,[101]),(36,[101]),(37,[101]),(38,[105,105]),(39,[105,105]),(40,[102]),(41,[102,102]),(42,[102,102]),(43,[102,102]),(44,[102,102]),(45,[101,102]),(46,[101,102]),(48,[102]),(49,[102]),(50,[102]),(51,[102,102])]
def lookS:List (Int×List UInt8)→Int→Option (List UInt8)
 |[],_=>none
 |e::t,k=>if e.1=k then some e.2 else lookS t k
def tabS:List D:=[.mapc 13 (shpT.map fun e=>.int .i64 e.1) (shpT.map fun e=>.p (.str e.2))]
def getS(k:Int):D:=match lookS shpT k with
 |some w=>.tup [.p (.str w),.p (.bool true)]
 |none=>.tup [.p (.str []),.p (.bool false)]
def isShp:Option (Res×Hp)→Bool
 |some (.val (.mapr 0),⟨[b],[]⟩)=>D.eqbL b tabS
 |_=>false
def kl(op:Int):UInt8:=if knd op=1 then 101 else if knd op=2 then 105 else if knd op=3 then 102 else 63
def fitsL:List Nd→List UInt8→Bool
 |k::ks,c::w=>(kl k.op==c)&&fitsL ks w
 |_,_=>true
def wantS(op:Int)(n:Nat):Option (List UInt8):=if op=47 then some (List.replicate n 101) else lookS shpT op
def fitsB(op:Int)(ks:List Nd):Bool:=match wantS op ks.length with
 |some w=>decide (ks.length=w.length)&&fitsL ks w
 |none=>false
theorem ix_str{w:List UInt8}{k:Nat}(h:k<w.length):indexD none (.p (.str w)) (k:Int)=some (u8 w[k]):=by
 simp[indexD,h]
theorem u8_bne(a b:UInt8):(((a.toNat:Nat):Int)!=((b.toNat:Nat):Int))= !(a==b):=by
 rw[bne_nat]
 simp only[bne]
 congr 1
 rw[Bool.eq_iff_iff]
 simp only[beq_iff_eq]
 exact UInt8.toNat_inj
mutual
def meas:Nd→Int→Int→Option Int
 | .mk op nm n _ ks _,d,l=>if 24<d∨l<1∨400<ks.length∨ownB op nm n=false∨fitsB op ks=false then none else measL ks d l 1
def measL:List Nd→Int→Int→Int→Option Int
 |[],_,_,cnt=>some cnt
 |k::ks,d,l,cnt=>match meas k (d+1) (l-cnt) with
  |some c=>measL ks d l (cnt+c)
  |none=>none
end
theorem meas_eq(a:Nd)(d l:Int):meas a d l=if 24<d∨l<1∨400<a.ks.length∨ownN a=false∨fitsB a.op a.ks=false then none else measL a.ks d l 1:=by
 cases a;rfl
mutual
theorem meas_pos:∀(a:Nd) (d l c:Int),meas a d l=some c→1≤c∧c≤a.size
 | .mk op nm n _ ks _,d,l,c,h=>by
  simp only[meas] at h
  split at h
  ·cases h
  ·have:=measL_pos ks d l 1 c h
   simp only[Nd.size]
   omega
theorem measL_pos:∀(ks:List Nd) (d l cnt c:Int),measL ks d l cnt=some c→cnt≤c∧c≤cnt+Nd.sizeL ks
 |[],d,l,cnt,c,h=>by
  simp only[measL,Option.some.injEq] at h
  simp only[Nd.sizeL]
  omega
 |k::ks,d,l,cnt,c,h=>by
  simp only[measL] at h
  split at h
  ·rename_i c1 h1
   have h2:=meas_pos k (d+1) (l-cnt) c1 h1
   have h3:=measL_pos ks d l (cnt+c1) c h
   simp only[Nd.sizeL]
   omega
  ·cases h
end
def validN(a:Nd):Bool:=(meas a 1 400).isSome
def kwsR:List (List UInt8):=[[115,111,114,116],[111,114,100,101,114,101,100],[118,97,114],[102,105,101,108,100],[112,114,101,100],[102,97,99,116],[97,108,108],[115,111,109,101],[110,111],[111,110,101],[108,111,110,101],[97,108,119,97,121,115],[101,118,101,110,116,117,97,108,108,121],[97,102,116,101,114],[117,110,116,105,108],[110,111,110,101],[117,110,105,118],[105,100,101,110],[105,110],[110,111,116],[116,114,117,101],[102,97,108,115,101]]
def hasW(s:List UInt8):List (List UInt8)→Bool
 |[]=>false
 |w::l=>(w==s)||hasW s l
def kwRS(s:List UInt8)(ws:List (List UInt8))(k:Nat):St:=⟨[(0,.p (.str s)),(3,.fsl 9 1 (ws.map .str)),(4,.p (.int .i64 k))],⟨[],[]⟩⟩
theorem lenY_fsl(l:List PD):lenD 1 (.fsl 9 1 l)=some l.length:=by simp[lenD,D.elems?]
theorem iaY_fsl{ws:List (List UInt8)}{k:Nat}(h:k<ws.length):iaddrD none 1 (.fsl 9 1 (ws.map .str)) (k:Int)=some (.ro [.str ws[k]] 0):=by
 simp[iaddrD,D.elems?,h,PD.cells]
theorem kwR_end(s:List UInt8)(ws:List (List UInt8)):∃env,evS (call pg) pg.G iterX fc76_b0 (kwRS s ws ws.length)=some (.exit 0,⟨env,⟨[],[]⟩⟩):=by
 have hl:=lenY_fsl (ws.map .str)
 rw[List.length_map] at hl
 apply Exists.intro
 simp only[kwRS]
 conv=>lhs;simp[fc76_b0,evKC,evK,evGuard,put,Env.get,Env.keep,entry,Opd.ev,loadD,storeD,splice,cutAt,indexD,D.asInt?,D.asNat?,u8,binD,strBin,unD,boundsD,sliceD,sub,minmaxD,eqvL,PD.eqv,clsP,cls,clsR,isCl,isW,apartRW,offB,apartWW,clash,insOk,finish,evRes,evRes1,mapO,D.cells,D.one,PD.one,PD.cells,D.refsL,D.refs,D.toksL,D.toks,mkAgg,pures,fillD,fillE,appendD,srcD,D.elems?,D.asPD,Int.toNat_natCast,srcH,srcBH,eqD,D.asPDL,isMapC,hl]
theorem kwR_step{s:List UInt8}{ws:List (List UInt8)}{k:Nat}(hw:ws.length≤1000)(hlt:k<ws.length):evS (call pg) pg.G iterX fc76_b0 (kwRS s ws k)=some (if ws[k]==s then(.ret,⟨[(2,.p (.bool true))],⟨[],[]⟩⟩) else(.norm,kwRS s ws (k+1))):=by
 have hl:=lenY_fsl (ws.map .str)
 rw[List.length_map] at hl
 have hi:=iaY_fsl hlt
 have hlt':(k:Int)<(ws.length:Int):=by omega
 have hk1:=inc64 (k:=k) (by omega)
 simp only[kwRS]
 cases hb:(ws[k]==s) with
 |true=>simp[fc76_b0,evKC,evK,put,Env.get,Env.keep,Opd.ev,loadD,cutAt,D.asInt?,binD,strBin,hl,hi,hlt',hb]
 |false=>simp[fc76_b0,evKC,evK,put,Env.get,Env.keep,Opd.ev,loadD,cutAt,D.asInt?,binD,strBin,hl,hi,hlt',hb,hk1]
theorem kwR_loop{s:List UInt8}{ws:List (List UInt8)}(hw:ws.length≤1000):∀(n k:Nat),ws.length-k≤n→k≤ws.length→
    (hasW s (ws.drop k)=false→∃env,loopK (call pg) pg.G [0,3,4] fc76_b0 (kwRS s ws k)=some (.exit 0,⟨env,⟨[],[]⟩⟩))∧
    (hasW s (ws.drop k)=true→loopK (call pg) pg.G [0,3,4] fc76_b0 (kwRS s ws k)=some (.ret,⟨[(2,.p (.bool true))],⟨[],[]⟩⟩)):=by
 intro n
 have hend:(hasW s (ws.drop ws.length)=false→∃env,loopK (call pg) pg.G [0,3,4] fc76_b0 (kwRS s ws ws.length)=some (.exit 0,⟨env,⟨[],[]⟩⟩))∧
     (hasW s (ws.drop ws.length)=true→loopK (call pg) pg.G [0,3,4] fc76_b0 (kwRS s ws ws.length)=some (.ret,⟨[(2,.p (.bool true))],⟨[],[]⟩⟩)):=by
  obtain⟨env,he⟩:=kwR_end s ws
  refine⟨fun _=>⟨env,loopK_out (o:=.exit 0) he (by simp)⟩,fun h=>?_⟩
  rw[List.drop_eq_nil_of_le (Nat.le_refl _)] at h
  cases h
 induction n with
 |zero=>
  intro k hn hk
  have he:k=ws.length:=by omega
  subst he
  exact hend
 |succ n ih=>
  intro k hn hk
  by_cases he:k=ws.length
  ·subst he;exact hend
  ·have hlt:k<ws.length:=by omega
   have hst:=kwR_step (s:=s) hw hlt
   obtain⟨i1,i2⟩:=ih (k+1) (by omega) (by omega)
   rw[List.drop_eq_getElem_cons hlt]
   simp only[hasW]
   cases hb:(ws[k]==s) with
   |true=>
    rw[hb,if_pos rfl] at hst
    rw[Bool.true_or]
    exact⟨fun h=>(by cases h),fun _=>loopK_out (o:=.ret) hst (by simp)⟩
   |false=>
    rw[hb,if_neg (by simp)] at hst
    rw[Bool.false_or]
    have hl:loopK (call pg) pg.G [0,3,4] fc76_b0 (kwRS s ws k)=loopK (call pg) pg.G [0,3,4] fc76_b0 (kwRS s ws (k+1)):=loopK_norm hst
    rw[hl]
    exact⟨i1,i2⟩
theorem kwR0(s:List UInt8):∃H',call pg 76 [.p (.str s)] ⟨[],[]⟩=some (.val (.p (.bool (hasW s kwsR))),H'):=by
 refine⟨⟨[],[]⟩,call_body (fc:=fc76) rfl rfl rfl rfl ?_⟩
 obtain⟨l1,l2⟩:=kwR_loop (s:=s) (ws:=kwsR) (by decide) 22 0 (by decide) (by decide)
 rw[List.drop_zero] at l1 l2
 simp only[kwRS,Int.natCast_zero] at l1 l2
 cases h4:hasW s kwsR with
 |false=>
  obtain⟨env,l1⟩:=l1 h4
  simp only[kwsR,List.map_cons,List.map_nil] at l1
  simp[fc76,evKC,evK,put,Env.get,Env.keep,entry,Opd.ev,finish,evRes,evRes1,PD.one,PD.cells,fillE,D.asPD,l1]
 |true=>
  have l2:=l2 h4
  simp only[kwsR,List.map_cons,List.map_nil] at l2
  simp[fc76,evKC,evK,put,Env.get,Env.keep,entry,Opd.ev,finish,evRes,evRes1,PD.one,PD.cells,fillE,D.asPD,l2]
theorem kwR_eq(s:List UInt8)(H:Hp):callD (call pg) 76 [.p (.str s)] H=some (.val (.p (.bool (hasW s kwsR))),H):=callD_any (kwR0 s) rfl rfl rfl rfl H
def isNmR(s:List UInt8):Bool:=!(s==[])&&(decide (s.length≤16)&&(!hasW s kwsR&&chs 0 s))
def nmRS(s:List UInt8)(k:Nat):St:=⟨[(0,.p (.str s)),(3,.p (.int .i64 k))],⟨[],[]⟩⟩
theorem ixY_byte{s:List UInt8}{k:Nat}(h:k<s.length):indexD none (.p (.str s)) (k:Int)=some (u8 s[k]):=by
 simp[indexD,h]
theorem nameR_end(s:List UInt8):∃env,evS (call pg) pg.G iterX fc44_b0 (nmRS s s.length)=some (.exit 0,⟨env,⟨[],[]⟩⟩):=by
 apply Exists.intro
 simp only[nmRS]
 conv=>lhs;simp[fc44_b0,evKC,evK,evGuard,put,Env.get,Env.keep,entry,Opd.ev,loadD,storeD,splice,cutAt,indexD,D.asInt?,D.asNat?,u8,binD,strBin,unD,lenD,boundsD,sliceD,iaddrD,sub,minmaxD,eqvL,PD.eqv,clsP,cls,clsR,isCl,isW,apartRW,offB,apartWW,clash,insOk,finish,evRes,evRes1,mapO,D.cells,D.one,PD.one,PD.cells,D.refsL,D.refs,D.toksL,D.toks,mkAgg,pures,fillD,fillE,appendD,srcD,D.elems?,D.asPD,Int.toNat_natCast,srcH,srcBH,eqD,D.asPDL,isMapC]
theorem nameR_step{s:List UInt8}{k:Nat}(hs:s.length≤1000)(hlt:k<s.length):evS (call pg) pg.G iterX fc44_b0 (nmRS s k)=some (if(if(k==0)=true then letter s[k] else tailC s[k]) then(.norm,nmRS s (k+1)) else(.ret,⟨[(2,.p (.bool false))],⟨[],[]⟩⟩)):=by
 have hlt':(k:Int)<(s.length:Int):=by omega
 have hia:=ixY_byte hlt
 have hk1:=inc64 (k:=k) (by omega)
 have hk0:((k:Int)==0)=(k==0):=beq_nat k 0
 generalize s[k]=c at *
 have hb:=c.toNat_lt
 have i1:(97≤(c.toNat:Int))=(97≤c.toNat):=propext (by omega)
 have i2:((c.toNat:Int)≤122)=(c.toNat≤122):=propext (by omega)
 have i3:(65≤(c.toNat:Int))=(65≤c.toNat):=propext (by omega)
 have i4:((c.toNat:Int)≤90)=(c.toNat≤90):=propext (by omega)
 have i5:((c.toNat:Int)=95)=(c.toNat=95):=propext (by omega)
 have i6:((c.toNat:Int)<48)=(c.toNat<48):=propext (by omega)
 have i7:(57<(c.toNat:Int))=(57<c.toNat):=propext (by omega)
 have i5':((c.toNat:Int)==95)=(c.toNat==95):=beq_nat _ 95
 have i5n:((c.toNat:Int)!=95)=(c.toNat !=95):=bne_nat _ 95
 by_cases a1:97≤c.toNat<;>by_cases a2:c.toNat≤122<;>by_cases a3:65≤c.toNat<;>by_cases a4:c.toNat≤90<;>by_cases a5:c.toNat=95<;>by_cases a6:c.toNat<48<;>by_cases a7:57<c.toNat<;>cases b8:(k==0)<;>
  first |(exfalso;omega) |(
   have b6:(48≤c.toNat)=¬(c.toNat<48):=propext (by omega)
   have b7:(c.toNat≤57)=¬(57<c.toNat):=propext (by omega)
   have b5n:(c.toNat !=95)= !decide (c.toNat=95):=by simp[a5]
   have b5:(c.toNat==95)=decide (c.toNat=95):=by simp[a5]
   simp only[letter,tailC,b5,b6,b7,a1,a2,a3,a4,a5,a6,a7,nmRS]
   simp[fc44_b0,evKC,evK,evGuard,put,Env.get,Env.keep,Opd.ev,D.asInt?,u8,binD,unD,lenD,hlt',hia,hk1,hk0,i1,i2,i3,i4,i6,i7,i5n,a1,a2,a3,a4,a5,a6,a7,b8,b5n])
theorem nameR_loop{s:List UInt8}(hs:s.length≤1000):∀(n k:Nat),s.length-k≤n→k≤s.length→
    (chs k (s.drop k)=true→∃env,loopK (call pg) pg.G [0,3] fc44_b0 (nmRS s k)=some (.exit 0,⟨env,⟨[],[]⟩⟩))∧
    (chs k (s.drop k)=false→loopK (call pg) pg.G [0,3] fc44_b0 (nmRS s k)=some (.ret,⟨[(2,.p (.bool false))],⟨[],[]⟩⟩)):=by
 intro n
 have hend:(chs s.length (s.drop s.length)=true→∃env,loopK (call pg) pg.G [0,3] fc44_b0 (nmRS s s.length)=some (.exit 0,⟨env,⟨[],[]⟩⟩))∧
     (chs s.length (s.drop s.length)=false→loopK (call pg) pg.G [0,3] fc44_b0 (nmRS s s.length)=some (.ret,⟨[(2,.p (.bool false))],⟨[],[]⟩⟩)):=by
  obtain⟨env,he⟩:=nameR_end s
  have hz:chs s.length (s.drop s.length)=true:=by
   rw[List.drop_eq_nil_of_le (Nat.le_refl _)]
   cases s.length<;>rfl
  refine⟨fun _=>⟨env,loopK_out (o:=.exit 0) he (by simp)⟩,fun h=>?_⟩
  rw[hz] at h
  cases h
 induction n with
 |zero=>
  intro k hn hk
  have he:k=s.length:=by omega
  subst he
  exact hend
 |succ n ih=>
  intro k hn hk
  by_cases he:k=s.length
  ·subst he;exact hend
  ·have hlt:k<s.length:=by omega
   have hst:=nameR_step hs hlt
   have hc:=chs_step hlt
   obtain⟨i1,i2⟩:=ih (k+1) (by omega) (by omega)
   cases hb:(if(k==0)=true then letter s[k] else tailC s[k]) with
   |true=>
    rw[hb,if_pos rfl] at hst
    rw[hb,Bool.true_and] at hc
    have hl:loopK (call pg) pg.G [0,3] fc44_b0 (nmRS s k)=loopK (call pg) pg.G [0,3] fc44_b0 (nmRS s (k+1)):=loopK_norm hst
    rw[hc,hl]
    exact⟨i1,i2⟩
   |false=>
    rw[hb,if_neg (by simp)] at hst
    rw[hb,Bool.false_and] at hc
    rw[hc]
    exact⟨fun h=>(by cases h),fun _=>loopK_out (o:=.ret) hst (by simp)⟩
theorem nameR0(s:List UInt8):∃H',call pg 44 [.p (.str s)] ⟨[],[]⟩=some (.val (.p (.bool (isNmR s))),H'):=by
 refine⟨⟨[],[]⟩,call_body (fc:=fc44) rfl rfl rfl rfl ?_⟩
 by_cases h1:s=[]
 ·subst h1
  have :isNmR []=false:=by rfl
  rw[this]
  simp[fc44,evKC,evK,evGuard,put,Env.get,Env.keep,entry,Opd.ev,binD,lenD,finish,evRes,evRes1]
 ·have h1b:(s==[])=false:=by simpa using h1
  have hne:((s.length:Int)==0)=false:=by
   have:=List.length_pos_iff.2 h1
   have :(s.length:Int)≠0:=by omega
   simpa using this
  by_cases h2:s.length≤16
  ·have h2':¬(16<(s.length:Int)):=by omega
   have hk:=kwR_eq s
   cases h3:hasW s kwsR with
   |true=>
    rw[h3] at hk
    have :isNmR s=false:=by simp[isNmR,h3]
    rw[this]
    simp[fc44,evKC,evK,evGuard,put,Env.get,Env.keep,entry,Opd.ev,binD,lenD,finish,evRes,evRes1,hne,h2',hk]
   |false=>
    rw[h3] at hk
    have e:isNmR s=chs 0 s:=by simp[isNmR,h1b,h2,h3]
    rw[e]
    obtain⟨l1,l2⟩:=nameR_loop (s:=s) (by omega) s.length 0 (by omega) (by omega)
    rw[List.drop_zero] at l1 l2
    simp only[nmRS,Int.natCast_zero] at l1 l2
    cases h4:chs 0 s with
    |true=>
     obtain⟨env,l1⟩:=l1 h4
     simp[fc44,evKC,evK,evGuard,put,Env.get,Env.keep,entry,Opd.ev,binD,lenD,finish,evRes,evRes1,hne,h2',hk,l1]
    |false=>
     have l2:=l2 h4
     simp[fc44,evKC,evK,evGuard,put,Env.get,Env.keep,entry,Opd.ev,binD,lenD,finish,evRes,evRes1,hne,h2',hk,l2]
  ·have h2':(16<(s.length:Int)):=by omega
   have :isNmR s=false:=by simp[isNmR,h2]
   rw[this]
   simp[fc44,evKC,evK,evGuard,put,Env.get,Env.keep,entry,Opd.ev,binD,lenD,finish,evRes,evRes1,hne,h2']
theorem nameR_eq(s:List UInt8)(H:Hp):callD (call pg) 44 [.p (.str s)] H=some (.val (.p (.bool (isNmR s))),H):=callD_any (nameR0 s) rfl rfl rfl rfl H
theorem cntR_loop{a:Nd}(ih:∀(k:Nd) (left:Nat),k∈a.ks→left≤1000000000→∀H,callD (call pg) 37 [.p k.pd,.p (.int .i64 left)] H=some (.val (.p (.int .i64 (cntN k.size left))),H)){left:Nat}(hl:left≤1000000000):
    ∀(n k sum:Nat),a.ks.length-k≤n→k≤a.ks.length→k<sum→sum≤left+1→
    ∃env,loopK (call pg) pg.G [1,2,5,6] fc37_b0 ⟨[(1,.p (.int .i64 left)),(2,.box 0 0),(5,.p (.int .i64 sum)),(6,.p (.int .i64 k))],⟨[a.cells.map .p],[]⟩⟩=
     some (.exit 0,⟨env,⟨[a.cells.map .p],[]⟩⟩)∧env.get 5= .p (.int .i64 (min (sum+Nd.sizeL (a.ks.drop k)) (left+1):Nat)):=by
 intro n
 have hk0:=len_kids a
 have hld:=fun(G:Nat→Option (List PD)) tk=>ld_kids (G:=G) a tk
 induction n with
 |zero=>
  intro k sum hn hk h1 h2
  have he:k=a.ks.length:=by omega
  refine⟨[(1,.p (.int .i64 left)),(2,.box 0 0),(5,.p (.int .i64 sum)),(6,.p (.int .i64 k)),(16,.p (.bool false))],?_,?_⟩
  ·refine loopK_out (o:=.exit 0) ?_ (by simp)
   simp[fc37_b0,evKC,evK,evGuard,put,Env.get,Env.keep,Opd.ev,binD,mapO,D.ren,locD,below,Out.ren,List.map,hk0,hld,he]
  ·rw[List.drop_eq_nil_of_le (by omega)]
   simp only[Nd.sizeL,Nat.add_zero,Nat.min_eq_left h2]
   rfl
 |succ n IH=>
  intro k sum hn hk h1 h2
  by_cases he:k=a.ks.length
  ·refine⟨[(1,.p (.int .i64 left)),(2,.box 0 0),(5,.p (.int .i64 sum)),(6,.p (.int .i64 k)),(16,.p (.bool false))],?_,?_⟩
   ·refine loopK_out (o:=.exit 0) ?_ (by simp)
    simp[fc37_b0,evKC,evK,evGuard,put,Env.get,Env.keep,Opd.ev,binD,mapO,D.ren,locD,below,Out.ren,List.map,hk0,hld,he]
   ·rw[List.drop_eq_nil_of_le (by omega)]
    simp only[Nd.sizeL,Nat.add_zero,Nat.min_eq_left h2]
    rfl
  ·have hlt:k<a.ks.length:=by omega
   have hlt':(k:Int)<(a.ks.length:Int):=by omega
   by_cases hs:sum≤left
   ·have hs':(sum:Int)≤(left:Int):=by omega
    have hc:=ih a.ks[k] (left-sum) (List.getElem_mem hlt) (by omega)
    have hia:=ia_kids hlt
    have hld2:=fun(G:Nat→Option (List PD)) (H:Hp)=>load_nd (G:=G) (H:=H) a.ks[k]
    have hcpos:1≤cntN a.ks[k].size (left-sum):=by have:=size_eq a.ks[k];simp only[cntN];omega
    have hcle:cntN a.ks[k].size (left-sum)≤left-sum+1:=by simp only[cntN];omega
    obtain⟨env,e1,e2⟩:=IH (k+1) (sum+cntN a.ks[k].size (left-sum)) (by omega) (by omega) (by omega) (by omega)
    refine⟨env,?_,?_⟩
    ·have hk1:=inc64 (k:=k) (by omega)
     have w1:IntKind.i64.wrap ((left:Int)-(sum:Int))=((left-sum:Nat):Int):=by rw[wrap64 (by omega) (by omega)];omega
     have w2:IntKind.i64.wrap ((sum:Int)+(cntN a.ks[k].size (left-sum):Int))=((sum+cntN a.ks[k].size (left-sum):Nat):Int):=by rw[wrap64 (by omega) (by omega)];omega
     rw[←e1]
     refine loopK_norm ?_
     generalize cntN a.ks[k].size (left-sum)=z at *
     generalize a.ks[k]=x at *
     simp[fc37_b0,evKC,evK,evGuard,put,Env.get,Env.keep,Opd.ev,D.asInt?,binD,mapO,D.ren,locD,below,Out.ren,List.map,hk0,hld,hlt',hs',hia,hld2,hc,w1,w2,hk1]
    ·rw[e2,cntN_step _ _ _ _ hs,List.drop_eq_getElem_cons hlt]
     rfl
   ·have hs':¬(sum:Int)≤(left:Int):=by omega
    refine⟨[(1,.p (.int .i64 left)),(2,.box 0 0),(5,.p (.int .i64 sum)),(6,.p (.int .i64 k)),(16,.p (.bool false))],?_,?_⟩
    ·refine loopK_out (o:=.exit 0) ?_ (by simp)
     simp[fc37_b0,evKC,evK,evGuard,put,Env.get,Env.keep,Opd.ev,binD,mapO,D.ren,locD,below,Out.ren,List.map,hk0,hld,hlt',hs']
    ·have :min (sum+Nd.sizeL (a.ks.drop k)) (left+1)=sum:=by omega
     rw[this];rfl
theorem cntR0:∀(s:Nat) (a:Nd) (left:Nat),a.size≤s→left≤1000000000→∃H',call pg 37 [.p a.pd,.p (.int .i64 left)] ⟨[],[]⟩=some (.val (.p (.int .i64 (cntN a.size left))),H'):=by
 intro s
 induction s with
 |zero=>intro a left h;have:=size_eq a;omega
 |succ s ih=>
  intro a left hs hl
  obtain⟨env,e1,e2⟩:=cntR_loop (a:=a) (left:=left) (fun k l hk hl H=>callD_any (ih k l (by have:=size_kid hk;omega) hl) rfl rfl rfl rfl H) hl a.ks.length 0 1 (by omega) (by omega) (by omega) (by omega)
  rw[List.drop_zero,←size_eq] at e2
  simp only[Int.natCast_zero,Int.natCast_one] at e1
  rw[pd_cells]
  refine⟨_,call_body (fc:=fc37) rfl rfl rfl rfl (r:=(_,⟨[a.cells.map .p],[]⟩)) ?_⟩
  simp only[cntN]
  simp[fc37,evKC,evK,put,Env.get,Env.keep,entry,Opd.ev,finish,evRes,evRes1,D.cells,List.map,e1,e2,one_all a]
theorem cntR_eq(a:Nd){left:Nat}(hl:left≤1000000000)(H:Hp):callD (call pg) 37 [.p a.pd,.p (.int .i64 left)] H=some (.val (.p (.int .i64 (cntN a.size left))),H):=
 callD_any (cntR0 _ a left (Nat.le_refl _) hl) rfl rfl rfl rfl H
def ownRB(op:Int)(nm:List UInt8)(n:Int):Bool:=
 if nmd op=true then isNmR nm&&n==0
 else if(op==2)=true then nm==[]&&(decide (1≤n)&&decide (n≤3))
 else if(op==20)=true then nm==[]&&(decide (-64≤n)&&decide (n≤64))
 else nm==[]&&n==0
def ownRN(a:Nd):Bool:=ownRB a.op a.nm a.n
theorem ownR0(a:Nd):∃H',call pg 57 [.p a.pd] ⟨[],[]⟩=some (.val (.p (.bool (ownRN a))),H'):=by
 have o1:=one_all a
 have lop:∀G tk,loadD G ⟨[a.cells.map .p],tk⟩ none (.box 0 0)=some (.p (.int .i64 a.op)):=fun _ _=>rfl
 have lnm:∀G tk,loadD G ⟨[a.cells.map .p],tk⟩ none (.box 0 1)=some (.p (.str a.nm)):=fun _ _=>rfl
 have ln:∀G tk,loadD G ⟨[a.cells.map .p],tk⟩ none (.box 0 2)=some (.p (.int .i64 a.n)):=fun _ _=>rfl
 have hn:=nameR_eq a.nm
 rw[pd_cells]
 refine⟨_,call_body (fc:=fc57) rfl rfl rfl rfl (r:=(_,⟨[a.cells.map .p],[]⟩)) ?_⟩
 unfold ownRN ownRB nmd
 have hz:isNmR []=false:=rfl
 generalize a.op=op at *
 generalize a.nm=nm at *
 generalize a.n=n at *
 cases e1:(op==1) with
 |true=>
  have f2:(op==2)=false:=by rw[eq_of_beq e1];rfl
  have f20:(op==20)=false:=by rw[eq_of_beq e1];rfl
  cases hN:isNmR nm<;>rw[hN] at hn<;>simp[fc57,evKC,evK,evGuard,put,Env.get,Env.keep,entry,Opd.ev,binD,unD,finish,evRes,evRes1,D.cells,eqD,o1,lop,lnm,ln,hn,e1,f2,f20]
 |false=>
  cases e15:(op==15) with
  |true=>
   have f2:(op==2)=false:=by rw[eq_of_beq e15];rfl
   have f20:(op==20)=false:=by rw[eq_of_beq e15];rfl
   cases hN:isNmR nm<;>rw[hN] at hn<;>simp[fc57,evKC,evK,evGuard,put,Env.get,Env.keep,entry,Opd.ev,binD,unD,finish,evRes,evRes1,D.cells,eqD,o1,lop,lnm,ln,hn,e1,e15,f2,f20]
  |false=>
   cases e45:(op==45) with
   |true=>
    have f2:(op==2)=false:=by rw[eq_of_beq e45];rfl
    have f20:(op==20)=false:=by rw[eq_of_beq e45];rfl
    cases hN:isNmR nm<;>rw[hN] at hn<;>simp[fc57,evKC,evK,evGuard,put,Env.get,Env.keep,entry,Opd.ev,binD,unD,finish,evRes,evRes1,D.cells,eqD,o1,lop,lnm,ln,hn,e1,e15,e45,f2,f20]
   |false=>
    cases e46:(op==46) with
    |true=>
     have f2:(op==2)=false:=by rw[eq_of_beq e46];rfl
     have f20:(op==20)=false:=by rw[eq_of_beq e46];rfl
     cases hN:isNmR nm<;>rw[hN] at hn<;>simp[fc57,evKC,evK,evGuard,put,Env.get,Env.keep,entry,Opd.ev,binD,unD,finish,evRes,evRes1,D.cells,eqD,o1,lop,lnm,ln,hn,e1,e15,e45,e46,f2,f20]
    |false=>
     cases e47:(op==47) with
     |true=>
      have f2:(op==2)=false:=by rw[eq_of_beq e47];rfl
      have f20:(op==20)=false:=by rw[eq_of_beq e47];rfl
      cases hN:isNmR nm<;>rw[hN] at hn<;>simp[fc57,evKC,evK,evGuard,put,Env.get,Env.keep,entry,Opd.ev,binD,unD,finish,evRes,evRes1,D.cells,eqD,o1,lop,lnm,ln,hn,e1,e15,e45,e46,e47,f2,f20]
     |false=>
      cases e2:(op==2) with
      |true=>
       cases hN:(nm==[])<;>cases hR:isNmR nm<;>rw[hR] at hn<;>by_cases h1:1≤n<;>by_cases h3:n≤3<;>first |(exfalso;rw[eq_of_beq hN,hz] at hR;cases hR;done) |simp[fc57,evKC,evK,evGuard,put,Env.get,Env.keep,entry,Opd.ev,binD,strBin,unD,finish,evRes,evRes1,D.cells,eqD,o1,lop,lnm,ln,e1,e15,e45,e46,e47,e2,hN,hn,h1,h3]
      |false=>
       cases e20:(op==20) with
       |true=>
        cases hN:(nm==[])<;>cases hR:isNmR nm<;>rw[hR] at hn<;>by_cases h1: -64≤n<;>by_cases h3:n≤64<;>first |(exfalso;rw[eq_of_beq hN,hz] at hR;cases hR;done) |simp[fc57,evKC,evK,evGuard,put,Env.get,Env.keep,entry,Opd.ev,binD,strBin,unD,finish,evRes,evRes1,D.cells,eqD,o1,lop,lnm,ln,e1,e15,e45,e46,e47,e2,e20,hN,hn,h1,h3]
       |false=>
        cases hN:(nm==[])<;>cases hR:isNmR nm<;>rw[hR] at hn<;>first |(exfalso;rw[eq_of_beq hN,hz] at hR;cases hR;done) |simp[fc57,evKC,evK,evGuard,put,Env.get,Env.keep,entry,Opd.ev,binD,strBin,unD,finish,evRes,evRes1,D.cells,eqD,o1,lop,lnm,ln,e1,e15,e45,e46,e47,e2,e20,hN,hn]
theorem ownR_eq(a:Nd)(H:Hp):callD (call pg) 57 [.p a.pd] H=some (.val (.p (.bool (ownRN a))),H):=callD_any (ownR0 a) rfl rfl rfl rfl H
def ShpR(op:Int)(n:Nat)(w:List UInt8)(b:Bool):Prop:=∃H',call pg 78 [.p (.int .i64 op),.p (.int .i64 n)] ⟨[],[]⟩=some (.val (.tup [.p (.str w),.p (.bool b)]),H')
theorem shpR_1(n:Nat):ShpR 1 n [] true:=by
 refine⟨⟨[],[]⟩,call_body (fc:=fc78) rfl rfl rfl rfl ?_⟩
 simp[fc78,evKC,evK,put,Env.get,Env.keep,entry,Opd.ev,binD,finish,evRes,evRes1,mapO]
theorem shpR_2(n:Nat):ShpR 2 n [] true:=by
 refine⟨⟨[],[]⟩,call_body (fc:=fc78) rfl rfl rfl rfl ?_⟩
 simp[fc78,evKC,evK,put,Env.get,Env.keep,entry,Opd.ev,binD,finish,evRes,evRes1,mapO]
theorem shpR_3(n:Nat):ShpR 3 n [] true:=by
 refine⟨⟨[],[]⟩,call_body (fc:=fc78) rfl rfl rfl rfl ?_⟩
 simp[fc78,evKC,evK,put,Env.get,Env.keep,entry,Opd.ev,binD,finish,evRes,evRes1,mapO]
theorem shpR_4(n:Nat):ShpR 4 n [] true:=by
 refine⟨⟨[],[]⟩,call_body (fc:=fc78) rfl rfl rfl rfl ?_⟩
 simp[fc78,evKC,evK,put,Env.get,Env.keep,entry,Opd.ev,binD,finish,evRes,evRes1,mapO]
theorem shpR_20(n:Nat):ShpR 20 n [] true:=by
 refine⟨⟨[],[]⟩,call_body (fc:=fc78) rfl rfl rfl rfl ?_⟩
 simp[fc78,evKC,evK,put,Env.get,Env.keep,entry,Opd.ev,binD,finish,evRes,evRes1,mapO]
theorem shpR_30(n:Nat):ShpR 30 n [] true:=by
 refine⟨⟨[],[]⟩,call_body (fc:=fc78) rfl rfl rfl rfl ?_⟩
 simp[fc78,evKC,evK,put,Env.get,Env.keep,entry,Opd.ev,binD,finish,evRes,evRes1,mapO]
theorem shpR_31(n:Nat):ShpR 31 n [] true:=by
 refine⟨⟨[],[]⟩,call_body (fc:=fc78) rfl rfl rfl rfl ?_⟩
 simp[fc78,evKC,evK,put,Env.get,Env.keep,entry,Opd.ev,binD,finish,evRes,evRes1,mapO]
theorem shpR_5(n:Nat):ShpR 5 n [101] true:=by
 refine⟨⟨[],[]⟩,call_body (fc:=fc78) rfl rfl rfl rfl ?_⟩
 simp[fc78,evKC,evK,put,Env.get,Env.keep,entry,Opd.ev,binD,finish,evRes,evRes1,mapO]
theorem shpR_11(n:Nat):ShpR 11 n [101] true:=by
 refine⟨⟨[],[]⟩,call_body (fc:=fc78) rfl rfl rfl rfl ?_⟩
 simp[fc78,evKC,evK,put,Env.get,Env.keep,entry,Opd.ev,binD,finish,evRes,evRes1,mapO]
theorem shpR_12(n:Nat):ShpR 12 n [101] true:=by
 refine⟨⟨[],[]⟩,call_body (fc:=fc78) rfl rfl rfl rfl ?_⟩
 simp[fc78,evKC,evK,put,Env.get,Env.keep,entry,Opd.ev,binD,finish,evRes,evRes1,mapO]
theorem shpR_13(n:Nat):ShpR 13 n [101] true:=by
 refine⟨⟨[],[]⟩,call_body (fc:=fc78) rfl rfl rfl rfl ?_⟩
 simp[fc78,evKC,evK,put,Env.get,Env.keep,entry,Opd.ev,binD,finish,evRes,evRes1,mapO]
theorem shpR_21(n:Nat):ShpR 21 n [101] true:=by
 refine⟨⟨[],[]⟩,call_body (fc:=fc78) rfl rfl rfl rfl ?_⟩
 simp[fc78,evKC,evK,put,Env.get,Env.keep,entry,Opd.ev,binD,finish,evRes,evRes1,mapO]
theorem shpR_34(n:Nat):ShpR 34 n [101] true:=by
 refine⟨⟨[],[]⟩,call_body (fc:=fc78) rfl rfl rfl rfl ?_⟩
 simp[fc78,evKC,evK,put,Env.get,Env.keep,entry,Opd.ev,binD,finish,evRes,evRes1,mapO]
theorem shpR_35(n:Nat):ShpR 35 n [101] true:=by
 refine⟨⟨[],[]⟩,call_body (fc:=fc78) rfl rfl rfl rfl ?_⟩
 simp[fc78,evKC,evK,put,Env.get,Env.keep,entry,Opd.ev,binD,finish,evRes,evRes1,mapO]
theorem shpR_36(n:Nat):ShpR 36 n [101] true:=by
 refine⟨⟨[],[]⟩,call_body (fc:=fc78) rfl rfl rfl rfl ?_⟩
 simp[fc78,evKC,evK,put,Env.get,Env.keep,entry,Opd.ev,binD,finish,evRes,evRes1,mapO]
theorem shpR_37(n:Nat):ShpR 37 n [101] true:=by
 refine⟨⟨[],[]⟩,call_body (fc:=fc78) rfl rfl rfl rfl ?_⟩
 simp[fc78,evKC,evK,put,Env.get,Env.keep,entry,Opd.ev,binD,finish,evRes,evRes1,mapO]
theorem shpR_6(n:Nat):ShpR 6 n [101,101] true:=by
 refine⟨⟨[],[]⟩,call_body (fc:=fc78) rfl rfl rfl rfl ?_⟩
 simp[fc78,evKC,evK,put,Env.get,Env.keep,entry,Opd.ev,binD,finish,evRes,evRes1,mapO]
theorem shpR_7(n:Nat):ShpR 7 n [101,101] true:=by
 refine⟨⟨[],[]⟩,call_body (fc:=fc78) rfl rfl rfl rfl ?_⟩
 simp[fc78,evKC,evK,put,Env.get,Env.keep,entry,Opd.ev,binD,finish,evRes,evRes1,mapO]
theorem shpR_8(n:Nat):ShpR 8 n [101,101] true:=by
 refine⟨⟨[],[]⟩,call_body (fc:=fc78) rfl rfl rfl rfl ?_⟩
 simp[fc78,evKC,evK,put,Env.get,Env.keep,entry,Opd.ev,binD,finish,evRes,evRes1,mapO]
theorem shpR_9(n:Nat):ShpR 9 n [101,101] true:=by
 refine⟨⟨[],[]⟩,call_body (fc:=fc78) rfl rfl rfl rfl ?_⟩
 simp[fc78,evKC,evK,put,Env.get,Env.keep,entry,Opd.ev,binD,finish,evRes,evRes1,mapO]
theorem shpR_10(n:Nat):ShpR 10 n [101,101] true:=by
 refine⟨⟨[],[]⟩,call_body (fc:=fc78) rfl rfl rfl rfl ?_⟩
 simp[fc78,evKC,evK,put,Env.get,Env.keep,entry,Opd.ev,binD,finish,evRes,evRes1,mapO]
theorem shpR_14(n:Nat):ShpR 14 n [101,101] true:=by
 refine⟨⟨[],[]⟩,call_body (fc:=fc78) rfl rfl rfl rfl ?_⟩
 simp[fc78,evKC,evK,put,Env.get,Env.keep,entry,Opd.ev,binD,finish,evRes,evRes1,mapO]
theorem shpR_32(n:Nat):ShpR 32 n [101,101] true:=by
 refine⟨⟨[],[]⟩,call_body (fc:=fc78) rfl rfl rfl rfl ?_⟩
 simp[fc78,evKC,evK,put,Env.get,Env.keep,entry,Opd.ev,binD,finish,evRes,evRes1,mapO]
theorem shpR_33(n:Nat):ShpR 33 n [101,101] true:=by
 refine⟨⟨[],[]⟩,call_body (fc:=fc78) rfl rfl rfl rfl ?_⟩
 simp[fc78,evKC,evK,put,Env.get,Env.keep,entry,Opd.ev,binD,finish,evRes,evRes1,mapO]
theorem shpR_15(n:Nat):ShpR 15 n [101,102] true:=by
 refine⟨⟨[],[]⟩,call_body (fc:=fc78) rfl rfl rfl rfl ?_⟩
 simp[fc78,evKC,evK,put,Env.get,Env.keep,entry,Opd.ev,binD,finish,evRes,evRes1,mapO]
theorem shpR_45(n:Nat):ShpR 45 n [101,102] true:=by
 refine⟨⟨[],[]⟩,call_body (fc:=fc78) rfl rfl rfl rfl ?_⟩
 simp[fc78,evKC,evK,put,Env.get,Env.keep,entry,Opd.ev,binD,finish,evRes,evRes1,mapO]
theorem shpR_46(n:Nat):ShpR 46 n [101,102] true:=by
 refine⟨⟨[],[]⟩,call_body (fc:=fc78) rfl rfl rfl rfl ?_⟩
 simp[fc78,evKC,evK,put,Env.get,Env.keep,entry,Opd.ev,binD,finish,evRes,evRes1,mapO]
theorem shpR_22(n:Nat):ShpR 22 n [105,105] true:=by
 refine⟨⟨[],[]⟩,call_body (fc:=fc78) rfl rfl rfl rfl ?_⟩
 simp[fc78,evKC,evK,put,Env.get,Env.keep,entry,Opd.ev,binD,finish,evRes,evRes1,mapO]
theorem shpR_23(n:Nat):ShpR 23 n [105,105] true:=by
 refine⟨⟨[],[]⟩,call_body (fc:=fc78) rfl rfl rfl rfl ?_⟩
 simp[fc78,evKC,evK,put,Env.get,Env.keep,entry,Opd.ev,binD,finish,evRes,evRes1,mapO]
theorem shpR_38(n:Nat):ShpR 38 n [105,105] true:=by
 refine⟨⟨[],[]⟩,call_body (fc:=fc78) rfl rfl rfl rfl ?_⟩
 simp[fc78,evKC,evK,put,Env.get,Env.keep,entry,Opd.ev,binD,finish,evRes,evRes1,mapO]
theorem shpR_39(n:Nat):ShpR 39 n [105,105] true:=by
 refine⟨⟨[],[]⟩,call_body (fc:=fc78) rfl rfl rfl rfl ?_⟩
 simp[fc78,evKC,evK,put,Env.get,Env.keep,entry,Opd.ev,binD,finish,evRes,evRes1,mapO]
theorem shpR_40(n:Nat):ShpR 40 n [102] true:=by
 refine⟨⟨[],[]⟩,call_body (fc:=fc78) rfl rfl rfl rfl ?_⟩
 simp[fc78,evKC,evK,put,Env.get,Env.keep,entry,Opd.ev,binD,finish,evRes,evRes1,mapO]
theorem shpR_48(n:Nat):ShpR 48 n [102] true:=by
 refine⟨⟨[],[]⟩,call_body (fc:=fc78) rfl rfl rfl rfl ?_⟩
 simp[fc78,evKC,evK,put,Env.get,Env.keep,entry,Opd.ev,binD,finish,evRes,evRes1,mapO]
theorem shpR_49(n:Nat):ShpR 49 n [102] true:=by
 refine⟨⟨[],[]⟩,call_body (fc:=fc78) rfl rfl rfl rfl ?_⟩
 simp[fc78,evKC,evK,put,Env.get,Env.keep,entry,Opd.ev,binD,finish,evRes,evRes1,mapO]
theorem shpR_50(n:Nat):ShpR 50 n [102] true:=by
 refine⟨⟨[],[]⟩,call_body (fc:=fc78) rfl rfl rfl rfl ?_⟩
 simp[fc78,evKC,evK,put,Env.get,Env.keep,entry,Opd.ev,binD,finish,evRes,evRes1,mapO]
theorem shpR_41(n:Nat):ShpR 41 n [102,102] true:=by
 refine⟨⟨[],[]⟩,call_body (fc:=fc78) rfl rfl rfl rfl ?_⟩
 simp[fc78,evKC,evK,put,Env.get,Env.keep,entry,Opd.ev,binD,finish,evRes,evRes1,mapO]
theorem shpR_42(n:Nat):ShpR 42 n [102,102] true:=by
 refine⟨⟨[],[]⟩,call_body (fc:=fc78) rfl rfl rfl rfl ?_⟩
 simp[fc78,evKC,evK,put,Env.get,Env.keep,entry,Opd.ev,binD,finish,evRes,evRes1,mapO]
theorem shpR_43(n:Nat):ShpR 43 n [102,102] true:=by
 refine⟨⟨[],[]⟩,call_body (fc:=fc78) rfl rfl rfl rfl ?_⟩
 simp[fc78,evKC,evK,put,Env.get,Env.keep,entry,Opd.ev,binD,finish,evRes,evRes1,mapO]
theorem shpR_44(n:Nat):ShpR 44 n [102,102] true:=by
 refine⟨⟨[],[]⟩,call_body (fc:=fc78) rfl rfl rfl rfl ?_⟩
 simp[fc78,evKC,evK,put,Env.get,Env.keep,entry,Opd.ev,binD,finish,evRes,evRes1,mapO]
theorem shpR_51(n:Nat):ShpR 51 n [102,102] true:=by
 refine⟨⟨[],[]⟩,call_body (fc:=fc78) rfl rfl rfl rfl ?_⟩
 simp[fc78,evKC,evK,put,Env.get,Env.keep,entry,Opd.ev,binD,finish,evRes,evRes1,mapO]
theorem shpR_no(op:Int)(n:Nat)(h1:(op==1)=false)(h2:(op==2)=false)(h3:(op==3)=false)(h4:(op==4)=false)(h20:(op==20)=false)(h30:(op==30)=false)(h31:(op==31)=false)(h5:(op==5)=false)(h11:(op==11)=false)(h12:(op==12)=false)(h13:(op==13)=false)(h21:(op==21)=false)(h34:(op==34)=false)(h35:(op==35)=false)(h36:(op==36)=false)(h37:(op==37)=false)(h6:(op==6)=false)(h7:(op==7)=false)(h8:(op==8)=false)(h9:(op==9)=false)(h10:(op==10)=false)(h14:(op==14)=false)(h32:(op==32)=false)(h33:(op==33)=false)(h15:(op==15)=false)(h45:(op==45)=false)(h46:(op==46)=false)(h22:(op==22)=false)(h23:(op==23)=false)(h38:(op==38)=false)(h39:(op==39)=false)(h40:(op==40)=false)(h48:(op==48)=false)(h49:(op==49)=false)(h50:(op==50)=false)(h41:(op==41)=false)(h42:(op==42)=false)(h43:(op==43)=false)(h44:(op==44)=false)(h51:(op==51)=false)(h47:(op==47)=false):ShpR op n [] false:=by
 refine⟨⟨[],[]⟩,call_body (fc:=fc78) rfl rfl rfl rfl ?_⟩
 simp[fc78,evKC,evK,put,Env.get,Env.keep,entry,Opd.ev,binD,finish,evRes,evRes1,mapO,h1,h2,h3,h4,h20,h30,h31,h5,h11,h12,h13,h21,h34,h35,h36,h37,h6,h7,h8,h9,h10,h14,h32,h33,h15,h45,h46,h22,h23,h38,h39,h40,h48,h49,h50,h41,h42,h43,h44,h51,h47]
def shpS(n k:Nat):St:=⟨[(1,.p (.int .i64 n)),(6,.p (.str (List.replicate k 101))),(7,.p (.int .i64 k))],⟨[],[]⟩⟩
theorem shpR_end(n:Nat):∃env,evS (call pg) pg.G iterX fc78_b0 (shpS n n)=some (.exit 1,⟨env,⟨[],[]⟩⟩)∧env.get 6= .p (.str (List.replicate n 101)):=by
 refine⟨[(1,.p (.int .i64 n)),(6,.p (.str (List.replicate n 101))),(7,.p (.int .i64 n)),(64,.p (.bool false))],?_,rfl⟩
 simp[shpS,fc78_b0,evKC,evK,evGuard,put,Env.get,Env.keep,Opd.ev,binD]
theorem shpR_step{n k:Nat}(hn:n≤400)(hlt:k<n):evS (call pg) pg.G iterX fc78_b0 (shpS n k)=some (.norm,shpS n (k+1)):=by
 have h1:(k:Int)<(n:Int):=by omega
 have h2:(k:Int)<401:=by omega
 have hk1:=inc64 (k:=k) (by omega)
 have hr:List.replicate k (101 :UInt8)++[101]=List.replicate (k+1) 101:=List.replicate_succ'.symm
 have hb:k+1≤140737488355328:=by omega
 simp[shpS,fc78_b0,evKC,evK,evGuard,put,Env.get,Env.keep,Opd.ev,binD,strBin,h1,h2,hk1,hr,hb]
theorem shpR_loop{n:Nat}(hn:n≤400):∀(j k:Nat),n-k≤j→k≤n→∃env,loopK (call pg) pg.G [1,6,7] fc78_b0 (shpS n k)=some (.exit 1,⟨env,⟨[],[]⟩⟩)∧env.get 6= .p (.str (List.replicate n 101)):=by
 intro j
 induction j with
 |zero=>
  intro k hj hk
  have :k=n:=by omega
  subst this
  obtain⟨env,e,g⟩:=shpR_end k
  exact⟨env,loopK_out (o:=.exit 1) e (by simp),g⟩
 |succ j ih=>
  intro k hj hk
  by_cases hq:k=n
  ·subst hq
   obtain⟨env,e,g⟩:=shpR_end k
   exact⟨env,loopK_out (o:=.exit 1) e (by simp),g⟩
  ·obtain⟨env,e,g⟩:=ih (k+1) (by omega) (by omega)
   exact⟨env,by rw[←e];exact loopK_norm (shpR_step hn (by omega)),g⟩
theorem shpR_47{n:Nat}(hn:n≤400):ShpR 47 n (List.replicate n 101) true:=by
 refine⟨⟨[],[]⟩,call_body (fc:=fc78) rfl rfl rfl rfl ?_⟩
 obtain⟨env,e,g⟩:=shpR_loop hn n 0 (by omega) (by omega)
 simp only[shpS,Int.natCast_zero,List.replicate_zero] at e
 simp[fc78,evKC,evK,put,Env.get,Env.keep,entry,Opd.ev,binD,finish,evRes,evRes1,mapO,e,g]
theorem shapeR0(op:Int){n:Nat}(hn:n≤400):ShpR op n ((wantS op n).getD []) (wantS op n).isSome:=by
 by_cases h1:op=1
 ·subst h1;exact shpR_1 n
 by_cases h2:op=2
 ·subst h2;exact shpR_2 n
 by_cases h3:op=3
 ·subst h3;exact shpR_3 n
 by_cases h4:op=4
 ·subst h4;exact shpR_4 n
 by_cases h20:op=20
 ·subst h20;exact shpR_20 n
 by_cases h30:op=30
 ·subst h30;exact shpR_30 n
 by_cases h31:op=31
 ·subst h31;exact shpR_31 n
 by_cases h5:op=5
 ·subst h5;exact shpR_5 n
 by_cases h11:op=11
 ·subst h11;exact shpR_11 n
 by_cases h12:op=12
 ·subst h12;exact shpR_12 n
 by_cases h13:op=13
 ·subst h13;exact shpR_13 n
 by_cases h21:op=21
 ·subst h21;exact shpR_21 n
 by_cases h34:op=34
 ·subst h34;exact shpR_34 n
 by_cases h35:op=35
 ·subst h35;exact shpR_35 n
 by_cases h36:op=36
 ·subst h36;exact shpR_36 n
 by_cases h37:op=37
 ·subst h37;exact shpR_37 n
 by_cases h6:op=6
 ·subst h6;exact shpR_6 n
 by_cases h7:op=7
 ·subst h7;exact shpR_7 n
 by_cases h8:op=8
 ·subst h8;exact shpR_8 n
 by_cases h9:op=9
 ·subst h9;exact shpR_9 n
 by_cases h10:op=10
 ·subst h10;exact shpR_10 n
 by_cases h14:op=14
 ·subst h14;exact shpR_14 n
 by_cases h32:op=32
 ·subst h32;exact shpR_32 n
 by_cases h33:op=33
 ·subst h33;exact shpR_33 n
 by_cases h15:op=15
 ·subst h15;exact shpR_15 n
 by_cases h45:op=45
 ·subst h45;exact shpR_45 n
 by_cases h46:op=46
 ·subst h46;exact shpR_46 n
 by_cases h22:op=22
 ·subst h22;exact shpR_22 n
 by_cases h23:op=23
 ·subst h23;exact shpR_23 n
 by_cases h38:op=38
 ·subst h38;exact shpR_38 n
 by_cases h39:op=39
 ·subst h39;exact shpR_39 n
 by_cases h40:op=40
 ·subst h40;exact shpR_40 n
 by_cases h48:op=48
 ·subst h48;exact shpR_48 n
 by_cases h49:op=49
 ·subst h49;exact shpR_49 n
 by_cases h50:op=50
 ·subst h50;exact shpR_50 n
 by_cases h41:op=41
 ·subst h41;exact shpR_41 n
 by_cases h42:op=42
 ·subst h42;exact shpR_42 n
 by_cases h43:op=43
 ·subst h43;exact shpR_43 n
 by_cases h44:op=44
 ·subst h44;exact shpR_44 n
 by_cases h51:op=51
 ·subst h51;exact shpR_51 n
 by_cases h47:op=47
 ·subst h47;exact shpR_47 hn
 have hw:wantS op n=none:=by
  unfold wantS
  rw[if_neg h47]
  simp only[shpT,lookS]
  simp[Ne.symm h1,Ne.symm h2,Ne.symm h3,Ne.symm h4,Ne.symm h20,Ne.symm h30,Ne.symm h31,Ne.symm h5,Ne.symm h11,Ne.symm h12,Ne.symm h13,Ne.symm h21,Ne.symm h34,Ne.symm h35,Ne.symm h36,Ne.symm h37,Ne.symm h6,Ne.symm h7,Ne.symm h8,Ne.symm h9,Ne.symm h10,Ne.symm h14,Ne.symm h32,Ne.symm h33,Ne.symm h15,Ne.symm h45,Ne.symm h46,Ne.symm h22,Ne.symm h23,Ne.symm h38,Ne.symm h39,Ne.symm h40,Ne.symm h48,Ne.symm h49,Ne.symm h50,Ne.symm h41,Ne.symm h42,Ne.symm h43,Ne.symm h44,Ne.symm h51]
 rw[hw]
 exact shpR_no op n (beq_eq_false_iff_ne.2 h1) (beq_eq_false_iff_ne.2 h2) (beq_eq_false_iff_ne.2 h3) (beq_eq_false_iff_ne.2 h4) (beq_eq_false_iff_ne.2 h20) (beq_eq_false_iff_ne.2 h30) (beq_eq_false_iff_ne.2 h31) (beq_eq_false_iff_ne.2 h5) (beq_eq_false_iff_ne.2 h11) (beq_eq_false_iff_ne.2 h12) (beq_eq_false_iff_ne.2 h13) (beq_eq_false_iff_ne.2 h21) (beq_eq_false_iff_ne.2 h34) (beq_eq_false_iff_ne.2 h35) (beq_eq_false_iff_ne.2 h36) (beq_eq_false_iff_ne.2 h37) (beq_eq_false_iff_ne.2 h6) (beq_eq_false_iff_ne.2 h7) (beq_eq_false_iff_ne.2 h8) (beq_eq_false_iff_ne.2 h9) (beq_eq_false_iff_ne.2 h10) (beq_eq_false_iff_ne.2 h14) (beq_eq_false_iff_ne.2 h32) (beq_eq_false_iff_ne.2 h33) (beq_eq_false_iff_ne.2 h15) (beq_eq_false_iff_ne.2 h45) (beq_eq_false_iff_ne.2 h46) (beq_eq_false_iff_ne.2 h22) (beq_eq_false_iff_ne.2 h23) (beq_eq_false_iff_ne.2 h38) (beq_eq_false_iff_ne.2 h39) (beq_eq_false_iff_ne.2 h40) (beq_eq_false_iff_ne.2 h48) (beq_eq_false_iff_ne.2 h49) (beq_eq_false_iff_ne.2 h50) (beq_eq_false_iff_ne.2 h41) (beq_eq_false_iff_ne.2 h42) (beq_eq_false_iff_ne.2 h43) (beq_eq_false_iff_ne.2 h44) (beq_eq_false_iff_ne.2 h51) (beq_eq_false_iff_ne.2 h47)
theorem shapeR_eq(op:Int){n:Nat}(hn:n≤400)(H:Hp):callD (call pg) 78 [.p (.int .i64 op),.p (.int .i64 n)] H=some (.val (.tup [.p (.str ((wantS op n).getD [])),.p (.bool (wantS op n).isSome)]),H):=
 callD_any (shapeR0 op hn) rfl rfl rfl rfl H
structure Tok where
 k:Int
 t:List UInt8
 p:Nat
deriving DecidableEq
def Tok.pd(x:Tok):PD:=.agg [.int .i64 x.k,.str x.t,.int .i64 x.p]
structure Bin where
 lv:Nat
 r:Bool
 rel:Int
 alt:Int
def Bin.pd(b:Bin):PD:=.agg [.int .i64 b.lv,.bool b.r,.int .i64 b.rel,.int .i64 b.alt]
def binT:List (List UInt8×Bin):=[([38],⟨10,false,7,0⟩),([43],⟨8,false,6,22⟩),([45],⟨8,false,8,23⟩),([46],⟨12,false,9,0⟩),([60],⟨7,false,0,39⟩),([61],⟨7,false,33,38⟩),([33,61],⟨7,false,33,38⟩),([38,38],⟨4,false,0,41⟩),([43,43],⟨9,false,14,0⟩),([45,62],⟨11,false,10,0⟩),([60,61],⟨7,false,0,39⟩),([61,62],⟨2,true,0,43⟩),([105,110],⟨7,false,32,0⟩),([124,124],⟨3,false,0,42⟩),([60,61,62],⟨1,false,0,44⟩),([117,110,116,105,108],⟨5,true,0,51⟩)]
structure Pre where
 lv:Nat
 op:Int
def Pre.pd(b:Pre):PD:=.agg [.int .i64 b.lv,.int .i64 b.op]
def preT:List (List UInt8×Pre):=[([35],⟨12,21⟩),([42],⟨13,13⟩),([94],⟨13,12⟩),([126],⟨13,11⟩),([110,111],⟨8,35⟩),([110,111,116],⟨6,40⟩),([111,110,101],⟨8,36⟩),([108,111,110,101],⟨8,37⟩),([115,111,109,101],⟨8,34⟩),([97,102,116,101,114],⟨6,50⟩),([97,108,119,97,121,115],⟨6,48⟩),([101,118,101,110,116,117,97,108,108,121],⟨6,49⟩)]
def lookT{α:Type}:List (List UInt8×α)→List UInt8→Option α
 |[],_=>none
 |e::t,k=>if e.1=k then some e.2 else lookT t k
def getT{α:Type}(f:α→PD)(z:PD)(t:List (List UInt8×α))(k:List UInt8):D:=match lookT t k with
 |some w=>.tup [.p (f w),.p (.bool true)]
 |none=>.tup [.p z,.p (.bool false)]
structure Rd where
 l:Sl Tok
 e:Nat
 X:List D
 tk:List Nat
def Rd.ts(c:Rd):List Tok:=els c.l
structure Rd.Ok (c:Rd):Prop where
 len:c.X.length=5
 refs:D.refsL c.X=[]
 toks:ins [] (D.toksL c.X)=List.range c.tk.length
 id:∀bi ti,(∀t,t<c.tk.length→ti t=some t)→D.renL bi ti c.X=some c.X
 fz:∀H,c.X.map (D.frz 4 H 8)=c.X
theorem idx_range:∀(k n t:Nat),t<n→idx (List.range' k n) (k+t)=some t:=by
 intro k n
 induction n generalizing k with
 |zero=>intro t h;omega
 |succ n ih=>
  intro t h
  simp only[List.range'_succ,idx]
  match t with
  | 0=>simp
  |t+1=>
   have:=ih (k+1) t (by omega)
   have e:k+(t+1)=k+1+t:=by omega
   rw[if_neg (by omega),e,this]
   rfl
theorem Rd.Ok.ren{c:Rd}(h:c.Ok)(bi:Nat→Option Nat):D.renL bi (idx (List.range c.tk.length)) c.X=some c.X:=h.id _ _ fun t ht=>by
 have:=idx_range 0 c.tk.length t ht
 rw[List.range_eq_range']
 simpa using this
theorem Rd.Ok.back{c:Rd}(h:c.Ok)(bi:Nat→Option Nat):D.renL bi (fun t=>(List.range c.tk.length)[t]?) c.X=some c.X:=h.id _ _ fun t ht=>by simp[ht]
inductive PR (α:Type) where
 |ok (x:α) (a:Nat)
 |bad (e:Int) (p:Nat) (a:Nat)
def Rd.tok(c:Rd)(i:Nat):Tok:=(c.ts[i]?).getD ⟨0,[],c.e⟩
structure Rd.Sz (c:Rd):Prop extends c.Ok where
 n:c.ts.length≤400000
 e:c.e≤1000000
 p:∀x∈c.ts,x.p≤1000000
 k:∀x∈c.ts,x.k≠0
 t:∀x∈c.ts,x.t.length≤1000000
 num:∀x∈c.ts,x.k=2→∃n:Nat,Lib.atoi x.t=some (n:Int)∧n≤999999999∧x.t.length≤9
theorem tok_in{c:Rd}{i:Nat}(h:i<c.ts.length):c.tok i=c.ts[i]:=by
 simp[Rd.tok,List.getElem?_eq_getElem h]
theorem tok_out{c:Rd}{i:Nat}(h:c.ts.length≤i):c.tok i=⟨0,[],c.e⟩:=by
 simp[Rd.tok,List.getElem?_eq_none h]
def namedB(x:Tok):Bool:=x.k==1&& !kw x.t
def wrongP{α:Type}(c:Rd)(a:Nat):PR α:=.bad (if(c.tok a).k=0 then 21 else 20) (c.tok a).p a
def acceptB(c:Rd)(a:Nat)(s:List UInt8):Bool:=!((c.tok a).k==0)&&(c.tok a).t==s
def expectP(c:Rd)(a:Nat)(s:List UInt8):PR Unit:=cond (acceptB c a s) (.ok () (a+1)) (wrongP c a)
def nameP(c:Rd)(a:Nat):PR Tok:=cond (namedB (c.tok a)) (.ok (c.tok a) (a+1)) (wrongP c a)
def nodeP(n:Nd)(p a:Nat):PR Nd:=cond (fitsB n.op n.ks) (.ok n a) (.bad 43 p a)
def PR.bind{α β:Type}(x:PR α)(f:α→Nat→PR β):PR β:=match x with
 | .ok v a=>f v a
 | .bad e p a=>.bad e p a
def leafN(op:Int)(nm:List UInt8)(n:Int)(p:Nat):Nd:=.mk op nm n 0 [] p
def kidsN(op:Int)(nm:List UInt8)(ks:List Nd)(p:Nat):Nd:=.mk op nm 0 2 ks p
def Tok.num(x:Tok):Nat:=match Lib.atoi x.t with
 |some n=>n.toNat
 |none=>0
def numberP(c:Rd)(most a:Nat):PR Nat:=
 if(c.tok a).k=2 then(if most<(c.tok a).num then .bad 2 (c.tok a).p a else .ok (c.tok a).num (a+1)) else wrongP c a
def digit13(s:List UInt8):Bool:=match s with
 |[b]=>decide (49≤b.toNat)&&decide (b.toNat≤51)
 |_=>false
def noneP(c:Rd)(p a:Nat):PR Nd:=
 if acceptB c a [91] then
  (if(c.tok (a+1)).k=2∧digit13 (c.tok (a+1)).t=true then
   (numberP c 3 (a+1)).bind fun n a=>(expectP c a [93]).bind fun _ a=>.ok (leafN 2 [] n p) a
  else wrongP c (a+1))
 else .ok (leafN 2 [] 1 p) a
def binOp(o:Bin)(k:Int):Int:=if k≠1∨o.rel=0 then o.alt else o.rel
def joinedP(t:Tok)(o:Bin)(x y:Nd)(a:Nat):PR Nd:=
 if binOp o (knd x.op)=0 then .bad 43 t.p a
 else(nodeP (kidsN (binOp o (knd x.op)) [] (if t.t=[60,61] then[y,x] else[x,y]) t.p) t.p a).bind fun n a=>
  .ok (if t.t=[33,61]∨t.t=[60,61] then kidsN 40 [] [n] t.p else n) a
section
variable (c : Rd) (prs : Nat → Nat → PR Nd)
def quantP(op:Int)(p a:Nat):PR Nd:=
 (nameP c a).bind fun t a=>(expectP c a [58]).bind fun _ a=>(prs 8 a).bind fun e a=>(expectP c a [124]).bind fun _ a=>
  (prs 1 a).bind fun f a=>nodeP (kidsN op t.t [e,f] p) p a
def callN(nm:List UInt8)(ks:List Nd)(p:Nat):Nd:=.mk 47 nm 0 (if ks=[] then 1 else 2) ks p
def argsP(t:Tok):Nat→List Nd→Nat→PR Nd
 | 0,ks,a=>nodeP (callN t.t ks t.p) t.p a
 |n+1,ks,a=>if acceptB c a [93] then nodeP (callN t.t ks t.p) t.p (a+1)
  else(if ks=[] then PR.ok () a else expectP c a [44]).bind fun _ a=>(prs 8 a).bind fun x a=>argsP t n (ks++[x]) a
def wordOp(s:List UInt8):Option Int:=
 if s=[116,114,117,101] then some 30 else if s=[102,97,108,115,101] then some 31 else if s=[117,110,105,118] then some 3 else if s=[105,100,101,110] then some 4 else none
def primaryP(t:Tok)(a:Nat):PR Nd:=
 match wordOp t.t with
 |some op=>.ok (leafN op [] 0 t.p) (a+1)
 |none=>
  if t.k=2 then(numberP c 64 a).bind fun n a=>.ok (leafN 20 [] n t.p) a
  else if t.t=[45]∧(c.tok (a+1)).k=2 then(numberP c 64 (a+1)).bind fun n a=>.ok (leafN 20 [] (-n) t.p) a
  else if t.t=[45] then wrongP c (a+1)
  else if acceptB c a [110,111,110,101] then noneP c t.p (a+1)
  else if acceptB c a [123] then(quantP c prs 15 t.p (a+1)).bind fun n a=>(expectP c a [125]).bind fun _ a=>.ok n a
  else if acceptB c a [40] then(prs 1 (a+1)).bind fun n a=>(expectP c a [41]).bind fun _ a=>.ok n a
  else(nameP c a).bind fun _ a=>if acceptB c a [91] then argsP c prs t (c.ts.length+1) [] (a+1) else .ok (leafN 1 t.t 0 t.p) a
def primesP:Nat→Nd→Nat→PR Nd
 | 0,n,a=>.ok n a
 |m+1,n,a=>if(c.tok a).t=[39] then(nodeP (kidsN 5 [] [n] (c.tok a).p) (c.tok a).p (a+1)).bind fun n a=>primesP m n a else .ok n a
def operandP(a:Nat):PR Nd:=
 let t:=c.tok a
 if t.k≠0∧t.t=[97,108,108] then quantP c prs 45 t.p (a+1)
 else if t.t=[115,111,109,101]∧namedB (c.tok (a+1))=true∧(c.tok (a+2)).t=[58] then quantP c prs 46 t.p (a+1)
 else match lookT preT t.t with
  |some o=>if t.k≠0 then(prs o.lv (a+1)).bind fun x a=>nodeP (kidsN o.op [] [x] t.p) t.p a else(primaryP c prs t a).bind fun n a=>primesP c (c.ts.length+1) n a
  |none=>(primaryP c prs t a).bind fun n a=>primesP c (c.ts.length+1) n a
def opsP(lev:Nat):Nat→Bool→Nd→Nat→PR Nd
 | 0,_,x,a=>.ok x a
 |m+1,compared,x,a=>
  let t:=c.tok a
  match lookT binT t.t with
  |none=>.ok x a
  |some o=>if t.k=0∨o.lv<lev∨(o.lv=7∧compared=true) then .ok x a
   else(prs (if o.r then o.lv else o.lv+1) (a+1)).bind fun y a=>(joinedP t o x y a).bind fun n a=>opsP lev m (o.lv==7) n a
end
def parseP(c:Rd):Nat→Nat→Nat→PR Nd
 | 0,_,a=>wrongP c a
 |d+1,lev,a=>if d=0∧(c.tok a).k≠0 then .bad 2 (c.tok a).p a
  else(operandP c (parseP c d) a).bind fun x a=>opsP c (parseP c d) lev (c.ts.length+1) false x a
def wholeP(c:Rd)(a:Nat):PR Nd:=
 (parseP c 101 1 a).bind fun n a'=>if knd n.op≠3 then .bad 43 (c.tok a).p a' else if validN n=false then .bad 2 (c.tok a).p a' else .ok n a'
def formulaP(c:Rd):PR Nd:=(wholeP c 0).bind fun n a=>if a<c.ts.length then wrongP c a else .ok n a
end Go.Proofs.YtalgjkpkkdljaaaDoor.Ps
namespace Go.Proofs.YtalgjkpkkdljaaaDoor.Ps
open Go.Vs
theorem bind_ok{α β:Type}(v:α)(a:Nat)(f:α→Nat→PR β):(PR.ok v a).bind f=f v a:=rfl
def Bin.nx(b:Bin):Nat:=if b.r then b.lv else b.lv+1
structure Go (c:Rd) (a lev:Nat) (cmp:Bool) (b:Bin):Prop where
 l:lookT binT (c.tok a).t=some b
 k:((c.tok a).k==0)=false
 v:¬b.lv<lev
 s:((b.lv:Int)==7)=false∨(((b.lv:Int)==7)=true∧cmp=false)
theorem tok_end{c:Rd}(h:c.Sz){a:Nat}(h0:(c.tok a).k=0):c.tok a=⟨0,[],c.e⟩:=by
 rcases Nat.lt_or_ge a c.ts.length with q |q
 ·rw[tok_in q] at h0;exact absurd h0 (h.k _ (List.getElem_mem q))
 ·exact tok_out q
theorem parseP_succ(c:Rd)(d lev a:Nat):parseP c (d+2) lev a=(operandP c (parseP c (d+1)) a).bind fun x a=>opsP c (parseP c (d+1)) lev (c.ts.length+1) false x a:=by
 show(if d+1=0∧_ then _ else _)=_
 rw[if_neg (fun q=>by omega)]
theorem sizeL_two(x y:Nd):Nd.sizeL [x,y]=x.size+y.size:=by simp[Nd.sizeL]
mutual
theorem meas_mono:∀(a:Nd) (d l d' l' c:Int),d'≤d→l≤l'→meas a d l=some c→meas a d' l'=some c
 | .mk op nm n _ ks _,d,l,d',l',c,hd,hl,h=>by
  simp only[meas] at h⊢
  split at h
  ·cases h
  ·rename_i hc
   rw[if_neg (fun q=>hc (by
    rcases q with q |q |q |q |q
    ·exact .inl (by omega)
    ·exact .inr (.inl (by omega))
    ·exact .inr (.inr (.inl q))
    ·exact .inr (.inr (.inr (.inl q)))
    ·exact .inr (.inr (.inr (.inr q)))))]
   exact measL_mono ks d l d' l' 1 c hd hl h
theorem measL_mono:∀(ks:List Nd) (d l d' l' cnt c:Int),d'≤d→l≤l'→measL ks d l cnt=some c→measL ks d' l' cnt=some c
 |[],d,l,d',l',cnt,c,hd,hl,h=>h
 |k::ks,d,l,d',l',cnt,c,hd,hl,h=>by
  simp only[measL] at h⊢
  split at h
  ·rename_i c1 h1
   rw[meas_mono k (d+1) (l-cnt) (d'+1) (l'-cnt) c1 (by omega) (by omega) h1]
   exact measL_mono ks d l d' l' (cnt+c1) c hd hl h
  ·cases h
end
theorem measL_mem:∀(ks:List Nd) (d l cnt c:Int),0≤cnt→measL ks d l cnt=some c→∀x∈ks,∃c',meas x (d+1) l=some c'
 |[],d,l,cnt,c,hc,h=>fun x hx=>by simp at hx
 |k::ks,d,l,cnt,c,hc,h=>fun x hx=>by
  simp only[measL] at h
  split at h
  ·rename_i c1 h1
   rcases List.mem_cons.1 hx with rfl |hx
   ·exact⟨c1,meas_mono _ _ _ _ _ _ (Int.le_refl _) (by omega) h1⟩
   ·exact measL_mem ks d l (cnt+c1) c (by have:=meas_pos _ _ _ _ h1;omega) h x hx
  ·cases h
theorem valid_parts{a:Nd}(h:validN a=true):a.ks.length≤400∧ownN a=true∧fitsB a.op a.ks=true∧∃c,measL a.ks 1 400 1=some c:=by
 unfold validN at h
 rw[meas_eq] at h
 split at h
 ·cases h
 ·rename_i hc
  obtain⟨c,hm⟩:=Option.isSome_iff_exists.1 h
  refine⟨?_,?_,?_,c,hm⟩
  ·exact Classical.byContradiction fun q=>hc (.inr (.inr (.inl (by omega))))
  ·exact Classical.byContradiction fun q=>hc (.inr (.inr (.inr (.inl (by simpa using q)))))
  ·exact Classical.byContradiction fun q=>hc (.inr (.inr (.inr (.inr (by simpa using q)))))
theorem valid_kid{a x:Nd}(h:validN a=true)(hx:x∈a.ks):validN x=true:=by
 obtain⟨_,_,_,c,hm⟩:=valid_parts h
 obtain⟨c',hc'⟩:=measL_mem a.ks 1 400 1 c (by omega) hm x hx
 unfold validN
 rw[meas_mono x _ _ 1 400 c' (by omega) (Int.le_refl _) hc']
 rfl
abbrev KT:=Int×List UInt8
structure BE where
 tok:KT
 lv:Nat
 a:Nat
 b:Nat
 kd:Int
def bopT:List (Int×BE):=[(6,⟨(3,[43]),8,8,9,1⟩),(7,⟨(3,[38]),10,10,11,1⟩),(8,⟨(3,[45]),8,8,9,1⟩),(9,⟨(3,[46]),12,12,13,1⟩),(10,⟨(3,[45,62]),11,11,12,1⟩),(14,⟨(3,[43,43]),9,9,10,1⟩),(22,⟨(3,[43]),8,8,9,2⟩),(23,⟨(3,[45]),8,8,9,2⟩),(32,⟨(1,[105,110]),7,8,8,1⟩),(33,⟨(3,[61]),7,8,8,1⟩),(38,⟨(3,[61]),7,8,8,2⟩),(39,⟨(3,[60]),7,8,8,2⟩),(41,⟨(3,[38,38]),4,4,5,3⟩),(42,⟨(3,[124,124]),3,3,4,3⟩),(43,⟨(3,[61,62]),2,3,2,3⟩),(44,⟨(3,[60,61,62]),1,1,2,3⟩),(51,⟨(1,[117,110,116,105,108]),5,6,5,3⟩)]
structure PE where
 tok:KT
 lv:Nat
 a:Nat
 kd:Int
def popT:List (Int×PE):=[(11,⟨(3,[126]),13,13,1⟩),(12,⟨(3,[94]),13,13,1⟩),(13,⟨(3,[42]),13,13,1⟩),(21,⟨(3,[35]),12,12,1⟩),(34,⟨(1,[115,111,109,101]),7,8,1⟩),(35,⟨(1,[110,111]),7,8,1⟩),(36,⟨(1,[111,110,101]),7,8,1⟩),(37,⟨(1,[108,111,110,101]),7,8,1⟩),(40,⟨(1,[110,111,116]),6,6,3⟩),(48,⟨(1,[97,108,119,97,121,115]),6,6,3⟩),(49,⟨(1,[101,118,101,110,116,117,97,108,108,121]),6,6,3⟩),(50,⟨(1,[97,102,116,101,114]),6,6,3⟩)]
def lookO{α:Type}:List (Int×α)→Int→Option α
 |[],_=>none
 |e::t,k=>if e.1=k then some e.2 else lookO t k
theorem lookO_mem{α:Type}:∀{t:List (Int×α)} {k:Int} {x:α},lookO t k=some x→(k,x)∈t
 |e::t,k,x,h=>by
  unfold lookO at h
  split at h
  ·rename_i he
   cases h
   rw[←he]
   exact List.mem_cons_self ..
  ·exact List.mem_cons_of_mem _ (lookO_mem h)
def lvN(op:Int):Nat:=match lookO bopT op with
 |some e=>e.lv
 |none=>match lookO popT op with
  |some e=>e.lv
  |none=>if op=5 then 14 else 15
def rlN(op:Int):Nat:=match lookO bopT op with
 |some e=>e.b
 |none=>match lookO popT op with
  |some e=>e.a
  |none=>15
def ktAt(c:Rd)(i:Nat):KT:=((c.tok i).k,(c.tok i).t)
def At(c:Rd):Nat→List KT→Prop
 |_,[]=>True
 |i,x::l=>ktAt c i=x∧At c (i+1) l
theorem at_app{c:Rd}:∀{l m:List KT} {i:Nat},At c i (l++m)↔At c i l∧At c (i+l.length) m
 |[],m,i=>by simp[At]
 |x::l,m,i=>by
  simp only[List.cons_append,At,at_app (l:=l),List.length_cons,and_assoc]
  rw[show i+1+l.length=i+(l.length+1) by omega]
def AllK(l:List KT):Prop:=∀x∈l,x.1≠0
theorem acc_at{c:Rd}{i:Nat}{x:KT}(h:ktAt c i=x)(hk:x.1≠0):acceptB c i x.2=true:=by
 subst h
 simp only[ktAt] at hk⊢
 simp[acceptB,hk]
theorem acc_not{c:Rd}{i:Nat}{x:KT}{s:List UInt8}(h:ktAt c i=x)(hs:x.2≠s):acceptB c i s=false:=by
 subst h
 simp only[ktAt] at hs
 simp[acceptB,hs]
theorem kt_k{c:Rd}{i:Nat}{x:KT}(h:ktAt c i=x):(c.tok i).k=x.1:=congrArg Prod.fst h
theorem kt_t{c:Rd}{i:Nat}{x:KT}(h:ktAt c i=x):(c.tok i).t=x.2:=congrArg Prod.snd h
def Stop(lev:Nat)(u:KT):Prop:=u.1=0∨lookT binT u.2=none∨∃b,lookT binT u.2=some b∧b.lv<lev
theorem Stop.mono{s s':Nat}{u:KT}(h:Stop s u)(hs:s≤s'):Stop s' u:=by
 rcases h with h |h |⟨b,h,hb⟩
 ·exact .inl h
 ·exact .inr (.inl h)
 ·exact .inr (.inr ⟨b,h,by omega⟩)
def Good(u:KT):Prop:=u.2≠[39]∧u.2≠[91]∧u.2≠[58]
theorem ops_stop{c:Rd}{prs:Nat→Nat→PR Nd}{lev i:Nat}{u:KT}(hu:ktAt c i=u)(hs:Stop lev u)(F:Nat)(cmp:Bool)(x:Nd):opsP c prs lev F cmp x i= .ok x i:=by
 cases F with
 |zero=>rfl
 |succ F=>
  have ht:=kt_t hu
  have hk:=kt_k hu
  unfold opsP
  dsimp only
  rw[ht,hk]
  rcases hs with h |h |⟨b,h,hb⟩
  ·cases hl:lookT binT u.2 with
   |none=>rfl
   |some b=>
    dsimp only
    rw[if_pos (.inl h)]
  ·rw[h]
  ·rw[h]
   dsimp only
   rw[if_pos (.inr (.inl hb))]
def bopOk(p:Int×BE):Bool:=
 match lookT binT p.2.tok.2 with
 |some b=>b.lv==p.2.lv&&b.nx==p.2.b&&decide (p.2.lv≤p.2.a)&&decide (p.2.lv≤p.2.b)&&(p.2.lv !=7||decide (8≤p.2.a))&&binOp b p.2.kd==p.1&&p.1 !=0&&p.2.tok.1 !=0&&p.2.tok.2 !=[60,61]&&p.2.tok.2 !=[33,61]&&p.2.tok.2 !=[39]&&p.2.tok.2 !=[91]&&p.2.tok.2 !=[58]&&decide (1≤p.2.lv)&&decide (p.2.b≤13)&&decide (1≤p.2.b)&&p.1 !=47
 |none=>false
theorem bop_all:bopT.all bopOk=true:=by decide
theorem bop_ok{op:Int}{e:BE}(h:lookO bopT op=some e):∃b,lookT binT e.tok.2=some b∧b.lv=e.lv∧b.nx=e.b∧e.lv≤e.a∧e.lv≤e.b∧(e.lv=7→8≤e.a)∧binOp b e.kd=op∧op≠0∧e.tok.1≠0∧e.tok.2≠[60,61]∧e.tok.2≠[33,61]∧Good e.tok∧1≤e.lv∧e.b≤13∧1≤e.b∧op≠47:=by
 have:=List.all_eq_true.1 bop_all _ (lookO_mem h)
 unfold bopOk at this
 dsimp only at this
 split at this
 ·rename_i b hb
  simp only[Bool.and_eq_true,Bool.or_eq_true,beq_iff_eq,bne_iff_ne,decide_eq_true_eq] at this
  obtain⟨⟨⟨⟨⟨⟨⟨⟨⟨⟨⟨⟨⟨⟨⟨⟨a1,a2⟩,a3⟩,a4⟩,a5⟩,a6⟩,a7⟩,a8⟩,a9⟩,a10⟩,a11⟩,a12⟩,a13⟩,a14⟩,a15⟩,a16⟩,a17⟩:=this
  exact⟨b,hb,a1,a2,a3,a4,fun q=>by rcases a5 with r |r;exact absurd q r;exact r,a6,a7,a8,a9,a10,⟨a11,a12,a13⟩,a14,a15,a16,a17⟩
 ·cases this
def popOk(p:Int×PE):Bool:=
 match lookT preT p.2.tok.2 with
 |some q=>q.lv==p.2.a&&q.op==p.1&&decide (p.2.lv≤p.2.a)&&decide (1≤p.2.lv)&&p.2.tok.1 !=0&&p.2.tok.2 !=[97,108,108]&&p.1 !=0&&decide (p.2.a≤13)&&(p.1==34||p.2.tok.2 !=[115,111,109,101])&&p.1 !=47
 |none=>false
theorem pop_all:popT.all popOk=true:=by decide
theorem pop_ok{op:Int}{e:PE}(h:lookO popT op=some e):∃q,lookT preT e.tok.2=some q∧q.lv=e.a∧q.op=op∧e.lv≤e.a∧1≤e.lv∧e.tok.1≠0∧e.tok.2≠[97,108,108]∧op≠0∧e.a≤13∧(op=34∨e.tok.2≠[115,111,109,101])∧op≠47:=by
 have:=List.all_eq_true.1 pop_all _ (lookO_mem h)
 unfold popOk at this
 dsimp only at this
 split at this
 ·rename_i q hq
  simp only[Bool.and_eq_true,Bool.or_eq_true,beq_iff_eq,bne_iff_ne,decide_eq_true_eq] at this
  obtain⟨⟨⟨⟨⟨⟨⟨⟨⟨a1,a2⟩,a3⟩,a4⟩,a5⟩,a6⟩,a7⟩,a8⟩,a9⟩,a10⟩:=this
  exact⟨q,hq,a1,a2,a3,a4,a5,a6,a7,a8,a9,a10⟩
 ·cases this
def leftOk(p:Int×BE):Bool:=(bopT.all fun q=>decide (q.2.lv<p.2.a)||decide (p.2.lv<q.2.b))&&(popT.all fun q=>decide (q.2.lv<p.2.a)||decide (p.2.lv<q.2.a)||(knd q.1 !=p.2.kd))&&decide (p.2.lv<13)
theorem left_all:bopT.all leftOk=true:=by decide
theorem left_ok{op op':Int}{e:BE}(h:lookO bopT op=some e)(hl:e.a≤lvN op')(hk:knd op'=e.kd):e.lv<rlN op':=by
 have:=List.all_eq_true.1 left_all _ (lookO_mem h)
 unfold leftOk at this
 simp only[Bool.and_eq_true,List.all_eq_true,Bool.or_eq_true,decide_eq_true_eq,bne_iff_ne] at this
 obtain⟨⟨h1,h2⟩,h3⟩:=this
 unfold lvN at hl
 unfold rlN
 cases hb:lookO bopT op' with
 |some q=>
  rw[hb] at hl
  dsimp only at hl⊢
  rcases h1 _ (lookO_mem hb) with r |r
  ·dsimp only at r;omega
  ·exact r
 |none=>
  rw[hb] at hl
  dsimp only at hl⊢
  cases hp:lookO popT op' with
  |some q=>
   rw[hp] at hl
   dsimp only at hl⊢
   rcases h2 _ (lookO_mem hp) with(r |r) |r
   ·dsimp only at r;omega
   ·exact r
   ·exact absurd hk r
  |none=>dsimp only;omega
theorem lv_rl(op:Int):lvN op≤rlN op:=by
 unfold lvN rlN
 cases hb:lookO bopT op with
 |some q=>obtain⟨_,_,_,_,_,h,_⟩:=bop_ok hb;exact h
 |none=>
  dsimp only
  cases hp:lookO popT op with
  |some q=>obtain⟨_,_,_,_,h,_⟩:=pop_ok hp;exact h
  |none=>dsimp only;split<;>omega
theorem lv_pos(op:Int):1≤lvN op:=by
 unfold lvN
 cases hb:lookO bopT op with
 |some q=>obtain⟨_,_,_,_,_,_,_,_,_,_,_,_,_,h,_⟩:=bop_ok hb;exact h
 |none=>
  dsimp only
  cases hp:lookO popT op with
  |some q=>obtain⟨_,_,_,_,_,h,_⟩:=pop_ok hp;exact h
  |none=>dsimp only;split<;>omega
end Go.Proofs.YtalgjkpkkdljaaaDoor.Ps
namespace Go.Proofs.YtalgjkpkkdljaaaDoor
open Go.Proofs.YtalgjkpkkdljaaaDoor.Ps
mutual
def Nd.er:Nd→Nd
 | .mk op nm n _ ks _=>.mk op nm n 0 (Nd.erL ks) 0
def Nd.erL:List Nd→List Nd
 |[]=>[]
 |k::ks=>k.er::Nd.erL ks
end
end Go.Proofs.YtalgjkpkkdljaaaDoor
namespace Go.Proofs.YtalgjkpkkdljaaaDoor.Ps
open Go.Vs
theorem erL_map:∀ks:List Nd,Nd.erL ks=ks.map Nd.er
 |[]=>rfl
 |k::ks=>by simp[Nd.erL,erL_map ks]
theorem er_eq(a:Nd):a.er= .mk a.op a.nm a.n 0 (a.ks.map Nd.er) 0:=by
 cases a;simp only[Nd.er,erL_map];rfl
theorem er_iff{a b:Nd}:a.er=b.er↔a.op=b.op∧a.nm=b.nm∧a.n=b.n∧a.ks.map Nd.er=b.ks.map Nd.er:=by
 rw[er_eq a,er_eq b,Nd.mk.injEq]
 simp
theorem er_op{a b:Nd}(h:a.er=b.er):a.op=b.op:=(er_iff.1 h).1
theorem fitsL_er:∀{ks ks':List Nd} {w:List UInt8},ks.map Nd.er=ks'.map Nd.er→fitsL ks w=fitsL ks' w
 |[],[],w,_=>by cases w<;>rfl
 |k::ks,k'::ks',w,h=>by
  simp only[List.map_cons,List.cons.injEq] at h
  cases w with
  |nil=>rfl
  |cons c w=>simp only[fitsL,er_op h.1,fitsL_er h.2]
 |[],_::_,_,h=>by simp at h
 |_::_,[],_,h=>by simp at h
theorem fits_er{op:Int}{ks ks':List Nd}(h:ks.map Nd.er=ks'.map Nd.er):fitsB op ks=fitsB op ks':=by
 have hl:ks.length=ks'.length:=by have:=congrArg List.length h;simpa using this
 unfold fitsB
 rw[hl]
 cases wantS op ks'.length with
 |none=>rfl
 |some w=>dsimp only;rw[fitsL_er h]
def wf:Nat→Nd→Prop
 | 0,_=>False
 |h+1,a=>ownN a=true∧fitsB a.op a.ks=true∧∀x∈a.ks,wf h x
def lpT:KT:=(3,[40])
def rpT:KT:=(3,[41])
def OpR(P:Bool→List KT→Prop)(op:Int)(need:Nat)(fin:Bool)(l:List KT):Prop:=
 (need≤lvN op∧(fin=true∨(op≠45∧op≠46))∧P fin l)∨∃m,l=lpT::(m++[rpT])∧P true m
def commas:List (List KT)→List KT
 |[]=>[]
 |[x]=>x
 |x::y::r=>x++(3,[44])::commas (y::r)
def bndR(K:Nd→Bool→List KT→Prop)(a:Nd)(l:List KT):Prop:=
 ∃x y lx ly,a.ks=[x,y]∧OpR (K x) x.op 8 true lx∧OpR (K y) y.op 1 true ly∧l=(1,a.nm)::(3,[58])::(lx++(3,[124])::ly)
def constW(op:Int):Option (List UInt8):=if op=3 then some [117,110,105,118] else if op=4 then some [105,100,101,110] else if op=30 then some [116,114,117,101] else if op=31 then some [102,97,108,115,101] else none
def PtB(K:Nd→Bool→List KT→Prop)(a:Nd)(fin:Bool)(l:List KT):Prop:=
 match lookO bopT a.op with
 |some e=>∃x y lx ly,a.ks=[x,y]∧OpR (K x) x.op e.a false lx∧OpR (K y) y.op e.b fin ly∧l=lx++e.tok::ly
 |none=>match lookO popT a.op with
  |some e=>∃x lx,a.ks=[x]∧OpR (K x) x.op e.a fin lx∧l=e.tok::lx
  |none=>
   (a.op=1∧a.ks=[]∧l=[(1,a.nm)])∨
   (a.op=2∧a.ks=[]∧((a.n=1∧l=[(1,[110,111,110,101])])∨l=[(1,[110,111,110,101]),(3,[91]),(2,Lib.itoa a.n),(3,[93])]))∨
   (a.op=20∧a.ks=[]∧((0≤a.n∧l=[(2,Lib.itoa a.n)])∨(a.n<0∧l=[(3,[45]),(2,Lib.itoa (-a.n))])))∨
   (a.op=5∧∃x lx,a.ks=[x]∧OpR (K x) x.op 14 false lx∧l=lx++[(3,[39])])∨
   (a.op=45∧∃m,bndR K a m∧l=(1,[97,108,108])::m)∨
   (a.op=46∧∃m,bndR K a m∧l=(1,[115,111,109,101])::m)∨
   (a.op=15∧∃m,bndR K a m∧l=(3,[123])::(m++[(3,[125])]))∨
   (a.op=47∧∃ls:List (List KT),ls.length=a.ks.length∧(∀(i:Nat) x m,a.ks[i]? =some x→ls[i]? =some m→OpR (K x) x.op 8 true m)∧l=(1,a.nm)::(3,[91])::(commas ls++[(3,[93])]))∨
   (∃w,constW a.op=some w∧a.ks=[]∧l=[(1,w)])
def Pt:Nat→Nd→Bool→List KT→Prop
 | 0=>fun _ _ _=>False
 |h+1=>PtB (Pt h)
theorem allK_app{l m:List KT}(h:AllK l)(k:AllK m):AllK (l++m):=fun x hx=>by
 rcases List.mem_append.1 hx with q |q
 ·exact h x q
 ·exact k x q
theorem allK_cons{x:KT}{l:List KT}(h:x.1≠0)(k:AllK l):AllK (x::l):=fun y hy=>by
 rcases List.mem_cons.1 hy with q |q
 ·rw[q];exact h
 ·exact k y q
theorem k1(s:List UInt8):((1,s):KT).1≠0:=(by decide:(1 :Int)≠0)
theorem k2(s:List UInt8):((2,s):KT).1≠0:=(by decide:(2 :Int)≠0)
theorem k3(s:List UInt8):((3,s):KT).1≠0:=(by decide:(3 :Int)≠0)
theorem allK_nil:AllK []:=fun x hx=>by cases hx
theorem allK_op{P:Bool→List KT→Prop}(hP:∀f l,P f l→AllK l∧l≠[]){op:Int}{need:Nat}{fin:Bool}{l:List KT}(h:OpR P op need fin l):AllK l∧l≠[]:=by
 rcases h with⟨_,_,h⟩ |⟨m,rfl,h⟩
 ·exact hP _ _ h
 ·exact⟨allK_cons (by first |exact k1 _ |exact k2 _ |exact k3 _) (allK_app (hP _ _ h).1 (allK_cons (by first |exact k1 _ |exact k2 _ |exact k3 _) allK_nil)),by simp⟩
theorem allK_commas:∀{ls:List (List KT)},(∀m∈ls,AllK m)→AllK (commas ls)
 |[],_=>allK_nil
 |[x],h=>h x (by simp)
 |x::y::r,h=>allK_app (h x (by simp)) (allK_cons (by first |exact k1 _ |exact k2 _ |exact k3 _) (allK_commas (fun m hm=>h m (by simp[hm]))))
theorem pt_allK:∀(h:Nat) (a:Nd) (fin:Bool) (l:List KT),Pt h a fin l→AllK l∧l≠[]
 | 0,a,fin,l,hp=>False.elim hp
 |h+1,a,fin,l,hp=>by
  have ih:=fun x=>fun f l=>pt_allK h x f l
  have hp:PtB (Pt h) a fin l:=hp
  have hb:∀{m:List KT},bndR (Pt h) a m→AllK m:=fun {m} q=>by
   obtain⟨x,y,lx,ly,_,h1,h2,rfl⟩:=q
   exact allK_cons (by first |exact k1 _ |exact k2 _ |exact k3 _) (allK_cons (by first |exact k1 _ |exact k2 _ |exact k3 _) (allK_app (allK_op (ih x) h1).1 (allK_cons (by first |exact k1 _ |exact k2 _ |exact k3 _) (allK_op (ih y) h2).1)))
  unfold PtB at hp
  split at hp
  ·rename_i e he
   obtain⟨x,y,lx,ly,_,h1,h2,rfl⟩:=hp
   obtain⟨_,_,_,_,_,_,_,_,_,ht,_⟩:=bop_ok he
   exact⟨allK_app (allK_op (ih x) h1).1 (allK_cons ht (allK_op (ih y) h2).1),by simp⟩
  ·split at hp
   ·rename_i e he
    obtain⟨x,lx,_,h1,rfl⟩:=hp
    obtain⟨_,_,_,_,_,_,ht,_⟩:=pop_ok he
    exact⟨allK_cons ht (allK_op (ih x) h1).1,by simp⟩
   ·rcases hp with⟨_,_,rfl⟩ |⟨_,_,⟨_,rfl⟩ |rfl⟩ |⟨_,_,⟨_,rfl⟩ |⟨_,rfl⟩⟩ |⟨_,x,lx,_,h1,rfl⟩ |⟨_,m,h1,rfl⟩ |⟨_,m,h1,rfl⟩ |⟨_,m,h1,rfl⟩ |⟨_,ls,h0,h1,rfl⟩ |⟨w,_,_,rfl⟩
    ·exact⟨allK_cons (by first |exact k1 _ |exact k2 _ |exact k3 _) allK_nil,by simp⟩
    ·exact⟨allK_cons (by first |exact k1 _ |exact k2 _ |exact k3 _) allK_nil,by simp⟩
    ·exact⟨allK_cons (by first |exact k1 _ |exact k2 _ |exact k3 _) (allK_cons (by first |exact k1 _ |exact k2 _ |exact k3 _) (allK_cons (by first |exact k1 _ |exact k2 _ |exact k3 _) (allK_cons (by first |exact k1 _ |exact k2 _ |exact k3 _) allK_nil))),by simp⟩
    ·exact⟨allK_cons (by first |exact k1 _ |exact k2 _ |exact k3 _) allK_nil,by simp⟩
    ·exact⟨allK_cons (by first |exact k1 _ |exact k2 _ |exact k3 _) (allK_cons (by first |exact k1 _ |exact k2 _ |exact k3 _) allK_nil),by simp⟩
    ·exact⟨allK_app (allK_op (ih x) h1).1 (allK_cons (by first |exact k1 _ |exact k2 _ |exact k3 _) allK_nil),by simp⟩
    ·exact⟨allK_cons (by first |exact k1 _ |exact k2 _ |exact k3 _) (hb h1),by simp⟩
    ·exact⟨allK_cons (by first |exact k1 _ |exact k2 _ |exact k3 _) (hb h1),by simp⟩
    ·exact⟨allK_cons (by first |exact k1 _ |exact k2 _ |exact k3 _) (allK_app (hb h1) (allK_cons (by first |exact k1 _ |exact k2 _ |exact k3 _) allK_nil)),by simp⟩
    ·refine⟨allK_cons (by first |exact k1 _ |exact k2 _ |exact k3 _) (allK_cons (by first |exact k1 _ |exact k2 _ |exact k3 _) (allK_app (allK_commas fun m hm=>?_) (allK_cons (by first |exact k1 _ |exact k2 _ |exact k3 _) allK_nil))),by simp⟩
     obtain⟨i,hi,hm'⟩:=List.mem_iff_getElem.1 hm
     have hi':i<a.ks.length:=by omega
     exact(allK_op (ih _) (h1 i a.ks[i] m (by simp[hi']) (by rw[List.getElem?_eq_getElem hi,hm']))).1
    ·exact⟨allK_cons (by first |exact k1 _ |exact k2 _ |exact k3 _) allK_nil,by simp⟩
def notNm:List (List UInt8):=[[97,108,108],[115,111,109,101],[116,114,117,101],[102,97,108,115,101],[117,110,105,118],[105,100,101,110],[110,111,110,101],[45],[123],[40],[35],[42],[94],[126],[110,111],[110,111,116],[111,110,101],[108,111,110,101],[97,102,116,101,114],[97,108,119,97,121,115],[101,118,101,110,116,117,97,108,108,121],[39],[91],[58],[93]]
theorem notNm_all:notNm.all (fun s=>!isNm s)=true:=by decide+kernel
theorem nm_ne{s t:List UInt8}(h:isNm s=true)(ht:t∈notNm):s≠t:=by
 intro e
 subst e
 have:=List.all_eq_true.1 notNm_all _ ht
 rw[h] at this
 cases this
theorem nm_named{s:List UInt8}(h:isNm s=true):kw s=false:=by
 unfold isNm at h
 simp only[Bool.and_eq_true,Bool.not_eq_true'] at h
 exact h.2.2.1
theorem look_none{α:Type}:∀{t:List (List UInt8×α)} {s:List UInt8},(∀e∈t,s≠e.1)→lookT t s=none
 |[],_,_=>rfl
 |e::t,s,h=>by
  unfold lookT
  rw[if_neg (fun q=>h e (by simp) q.symm)]
  exact look_none (fun x hx=>h x (by simp[hx]))
theorem nm_pre{s:List UInt8}(h:isNm s=true):lookT preT s=none:=look_none fun e he=>nm_ne h (by
 have :preT.all (fun e=>notNm.contains e.1)=true:=by decide
 have:=List.all_eq_true.1 this e he
 simpa using this)
theorem nm_word{s:List UInt8}(h:isNm s=true):wordOp s=none:=by
 unfold wordOp
 rw[if_neg (nm_ne h (by decide)),if_neg (nm_ne h (by decide)),if_neg (nm_ne h (by decide)),if_neg (nm_ne h (by decide))]
def FP(u:KT):Prop:=u.2≠[97,108,108]∧u.2≠[115,111,109,101]∧lookT preT u.2=none
theorem operand_prim{c:Rd}{prs:Nat→Nat→PR Nd}{i:Nat}(h:FP (ktAt c i)):operandP c prs i=(primaryP c prs (c.tok i) i).bind fun n a=>primesP c (c.ts.length+1) n a:=by
 obtain⟨h1,h2,h3⟩:=h
 simp only[ktAt] at h1 h2 h3
 unfold operandP
 dsimp only
 rw[if_neg (fun q=>h1 q.2),if_neg (fun q=>h2 q.1),h3]
def PrimR(c:Rd)(prs:Nat→Nat→PR Nd)(i j:Nat)(a:Nd):Prop:=
 ∀F,j-i≤F→∃F' a',F≤F'+(j-i)∧a'.er=a.er∧((primaryP c prs (c.tok i) i).bind fun n b=>primesP c F n b)=primesP c F' a' j
def SpineR(c:Rd)(prs:Nat→Nat→PR Nd)(lev i j:Nat)(a:Nd):Prop:=
 ∀F,j-i≤F→∃F' a' cmp,F≤F'+(j-i)∧a'.er=a.er∧(8≤lvN a.op→cmp=false)∧((operandP c prs i).bind fun x b=>opsP c prs lev F false x b)=opsP c prs lev F' cmp a' j
def Reads(c:Rd)(h:Nat):Prop:=∀(a:Nd) (fin:Bool) (l:List KT),wf h a→Pt h a fin l→∀(i d:Nat),At c i l→2*h≤d+1→i+l.length≤c.ts.length→
 (14≤lvN a.op→a.op≠45→a.op≠46→(ktAt c (i+l.length)).2≠[91]→PrimR c (parseP c d) i (i+l.length) a∧FP (ktAt c i))∧
 (∀(lev:Nat) (u:KT),(fin=true∨(a.op≠45∧a.op≠46))→ktAt c (i+l.length)=u→Good u→(fin=true→Stop 1 u)→(fin=false→Stop (rlN a.op) u)→1≤lev→lev≤lvN a.op→SpineR c (parseP c d) lev i (i+l.length) a)
theorem primes_stop{c:Rd}{i:Nat}{u:KT}(hu:ktAt c i=u)(h:u.2≠[39])(F:Nat)(x:Nd):primesP c F x i= .ok x i:=by
 cases F with
 |zero=>rfl
 |succ F=>
  unfold primesP
  rw[if_neg (by rw[kt_t hu];exact h)]
theorem prim_spine{c:Rd}{prs:Nat→Nat→PR Nd}{lev i j:Nat}{a:Nd}(hij:i≤j)(hj:j≤c.ts.length)(h:PrimR c prs i j a)(hf:FP (ktAt c i))(hq:(ktAt c j).2≠[39]):SpineR c prs lev i j a:=by
 intro F hF
 obtain⟨F1,a',h1,h2,h3⟩:=h (c.ts.length+1) (by omega)
 refine⟨F,a',false,by omega,h2,fun _=>rfl,?_⟩
 rw[operand_prim hf,h3,primes_stop rfl hq]
 rfl
theorem wf_pos{h:Nat}{a:Nd}(hw:wf h a):1≤h:=by
 cases h with
 |zero=>exact hw.elim
 |succ h=>omega
theorem parseP_at{c:Rd}{d lev i:Nat}(hd:1≤d):parseP c (d+1) lev i=(operandP c (parseP c d) i).bind fun x a=>opsP c (parseP c d) lev (c.ts.length+1) false x a:=by
 obtain⟨d',rfl⟩:∃d',d=d'+1:=⟨d-1,by omega⟩
 exact parseP_succ c d' lev i
theorem expect_at{c:Rd}{i:Nat}{s:List UInt8}(h:ktAt c i=(3,s)):expectP c i s= .ok () (i+1):=by
 unfold expectP
 rw[acc_at h (k3 s)]
 rfl
theorem good_bar:Good (3,[124]):=by unfold Good;decide
theorem good_rp:Good rpT:=by unfold Good;decide
theorem good_rb:Good (3,[125]):=by unfold Good;decide
theorem good_cm:Good (3,[44]):=by unfold Good;decide
theorem good_rk:Good (3,[93]):=by unfold Good;decide
theorem stop_bar(n:Nat):Stop n (3,[124]):=.inr (.inl rfl)
theorem stop_rp(n:Nat):Stop n rpT:=.inr (.inl rfl)
theorem stop_rb(n:Nat):Stop n (3,[125]):=.inr (.inl rfl)
theorem stop_cm(n:Nat):Stop n (3,[44]):=.inr (.inl rfl)
theorem stop_rk(n:Nat):Stop n (3,[93]):=.inr (.inl rfl)
section
variable {c : Rd} {h : Nat} (IH : Reads c h)
include IH
theorem paren_read{x:Nd}(hw:wf h x){m:List KT}(hm:Pt h x true m){i d:Nat}(ha:At c i (lpT::(m++[rpT])))(hd:2*h≤d)(hl:i+(m.length+2)≤c.ts.length):
    FP (ktAt c i)∧∃x',x'.er=x.er∧primaryP c (parseP c d) (c.tok i) i= .ok x' (i+(m.length+2)):=by
 obtain⟨h0,h1⟩:=ha
 obtain⟨h1,h2⟩:=at_app.1 h1
 obtain⟨h2,_⟩:=h2
 have hp:=wf_pos hw
 obtain⟨d',rfl⟩:∃d',d=d'+1:=⟨d-1,by omega⟩
 have hr:=(IH x true m hw hm (i+1) d' h1 (by omega) (by omega)).2 1 rpT (.inl rfl) h2 good_rp (fun _=>stop_rp 1) (fun q=>by cases q) (Nat.le_refl _) (lv_pos _)
 obtain⟨F',x',cmp,_,e1,_,e2⟩:=hr (c.ts.length+1) (by omega)
 have hpar:parseP c (d'+1) 1 (i+1)= .ok x' (i+1+m.length):=by
  rw[parseP_at (by omega),e2,ops_stop h2 (stop_rp 1)]
 refine⟨?_,x',e1,?_⟩
 ·rw[h0];exact⟨by decide,by decide,rfl⟩
 ·have hk:=kt_k h0
  have ht:=kt_t h0
  have hne:acceptB c i [110,111,110,101]=false:=acc_not h0 (by decide)
  have hcb:acceptB c i [123]=false:=acc_not h0 (by decide)
  have hpb:acceptB c i [40]=true:=acc_at h0 (by decide)
  unfold primaryP
  rw[ht]
  show(if(c.tok i).k=2 then _ else _)=_
  rw[if_neg (by rw[hk];decide),if_neg (fun q=>absurd q.1 (by decide)),if_neg (by decide),hne,hcb,hpb]
  simp only[Bool.false_eq_true,if_false,if_true,hpar,bind_ok]
  rw[show i+1+m.length=i+1+m.length from rfl,expect_at h2]
  simp only[bind_ok]
  congr 1
  omega
theorem opr_full{x:Nd}(hw:wf h x){need:Nat}{fin:Bool}{l:List KT}(ho:OpR (Pt h x) x.op need fin l){i D:Nat}(ha:At c i l)(hD:2*h+1≤D)(hl:i+l.length≤c.ts.length)
    {u:KT} (hu:ktAt c (i+l.length)=u) (hg:Good u) (h1:fin=true→Stop 1 u) (hs:Stop need u) (hn:1≤need):∃x',x'.er=x.er∧parseP c D need i= .ok x' (i+l.length):=by
 have hp:=wf_pos hw
 obtain⟨d,rfl⟩:∃d,D=d+1:=⟨D-1,by omega⟩
 rcases ho with⟨g1,g2,g3⟩ |⟨m,rfl,hm⟩
 ·have hr:=(IH x fin l hw g3 i d ha (by omega) hl).2 need u g2 hu hg h1 (fun _=>hs.mono (Nat.le_trans g1 (lv_rl _))) hn g1
  obtain⟨F',x',cmp,_,e1,_,e2⟩:=hr (c.ts.length+1) (by omega)
  refine⟨x',e1,?_⟩
  rw[parseP_at (by omega),e2,ops_stop hu hs]
 ·have hlen:(lpT::(m++[rpT])).length=m.length+2:=by simp
  rw[hlen] at hl hu⊢
  obtain⟨hf,x',e1,e2⟩:=paren_read IH hw hm ha (d:=d) (by omega) hl
  refine⟨x',e1,?_⟩
  rw[parseP_at (by omega),operand_prim hf,e2]
  simp only[bind_ok]
  rw[primes_stop hu hg.1]
  simp only[bind_ok]
  exact ops_stop hu hs _ _ _
theorem opr_spine{x:Nd}(hw:wf h x){need:Nat}{l:List KT}(ho:OpR (Pt h x) x.op need false l){i d:Nat}(ha:At c i l)(hd:2*h≤d)(hl:i+l.length≤c.ts.length)
    {u:KT} (hu:ktAt c (i+l.length)=u) (hg:Good u) (hs:need≤lvN x.op→Stop (rlN x.op) u) {lev:Nat} (h1:1≤lev) (hle:lev≤need):
    ∀F,l.length≤F→∃F' x' cmp,F≤F'+l.length∧x'.er=x.er∧(8≤need→cmp=false)∧((operandP c (parseP c d) i).bind fun x b=>opsP c (parseP c d) lev F false x b)=opsP c (parseP c d) lev F' cmp x' (i+l.length):=by
 intro F hF
 rcases ho with⟨g1,g2,g3⟩ |⟨m,rfl,hm⟩
 ·have hr:=(IH x false l hw g3 i d ha (by omega) hl).2 lev u g2 hu hg (fun q=>by cases q) (fun _=>hs g1) h1 (Nat.le_trans hle g1)
  obtain⟨F',x',cmp,e0,e1,e3,e2⟩:=hr F (by omega)
  exact⟨F',x',cmp,by omega,e1,fun q=>e3 (Nat.le_trans q g1),e2⟩
 ·have hlen:(lpT::(m++[rpT])).length=m.length+2:=by simp
  rw[hlen] at hl hu hF⊢
  obtain⟨hf,x',e1,e2⟩:=paren_read IH hw hm ha (d:=d) hd hl
  refine⟨F,x',false,by omega,e1,fun _=>rfl,?_⟩
  rw[operand_prim hf,e2]
  simp only[bind_ok]
  rw[primes_stop hu hg.1]
  rfl
theorem quant_read{a:Nd}(hk:∀x∈a.ks,wf h x)(hnm:isNm a.nm=true)(hfit:fitsB a.op a.ks=true){m:List KT}(hb:bndR (Pt h) a m){i d:Nat}(ha:At c i m)(hd:2*h+1≤d)(hl:i+m.length≤c.ts.length)
    {u:KT} (hu:ktAt c (i+m.length)=u) (hg:Good u) (h1:Stop 1 u) (p:Nat):
    ∃x' y',a.ks.map Nd.er=[x',y'].map Nd.er∧quantP c (parseP c d) a.op p i= .ok (kidsN a.op a.nm [x',y'] p) (i+m.length):=by
 obtain⟨x,y,lx,ly,hks,hx,hy,rfl⟩:=hb
 obtain⟨a1,a2,a3⟩:=ha
 obtain⟨a3,a4,a5⟩:=at_app.1 a3
 rw[hks] at hk
 have hlen:((1,a.nm)::(3,[58])::(lx++(3,[124])::ly):List KT).length=lx.length+ly.length+3:=by simp;omega
 rw[hlen] at hl hu⊢
 have b1:i+1+1+lx.length+1+ly.length=i+(lx.length+ly.length+3):=by omega
 obtain⟨x',ex,px⟩:=opr_full IH (hk x (by simp)) hx (i:=i+1+1) (D:=d) a3 hd (by omega) a4 good_bar (fun _=>stop_bar 1) (stop_bar 8) (by omega)
 obtain⟨y',ey,py⟩:=opr_full IH (hk y (by simp)) hy (i:=i+1+1+lx.length+1) (D:=d) a5 hd (by omega) (by rw[b1];exact hu) hg (fun _=>h1) h1 (Nat.le_refl _)
 have her:a.ks.map Nd.er=[x',y'].map Nd.er:=by rw[hks];simp[ex,ey]
 refine⟨x',y',her,?_⟩
 have hnk:=kt_k a1
 have hnt:=kt_t a1
 have hname:nameP c i= .ok (c.tok i) (i+1):=by
  unfold nameP
  have :namedB (c.tok i)=true:=by
   unfold namedB
   rw[hnk,hnt]
   simp[nm_named hnm]
  rw[this]
  rfl
 unfold quantP
 rw[hname]
 simp only[bind_ok]
 rw[expect_at a2]
 simp only[bind_ok,px]
 rw[expect_at a4]
 simp only[bind_ok,py]
 rw[hnt]
 unfold nodeP
 have hf:fitsB (kidsN a.op a.nm [x',y'] p).op (kidsN a.op a.nm [x',y'] p).ks=true:=by
  show fitsB a.op [x',y']=true
  rw[←fits_er her];exact hfit
 rw[hf,b1]
 rfl
end
end Go.Proofs.YtalgjkpkkdljaaaDoor.Ps
