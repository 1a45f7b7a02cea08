/-
  A value-level evaluator for Go functions; the functions of this cut by it; plain laws. Part 4 of 4.
-/
import Derived.Shelf.Strings.Split
import Derived.Shelf.Strings.Cut
import Derived.Shelf.Strings.Prefix
import Derived.Shelf.Strconv.Itoa3
import Derived.Shelf.Strconv.Atoi
import Derived.Shelf.Strconv.AtoiErr
import Derived.Lib.Builder
import Derived.WalkKit
import Derived.Laws.Externs
import Derived.KernelRfl
import Derived.Test.YtneleliomipddaaDoorProg
import Derived.Test.YtneleliomipddaaDoorChecked
import Derived.Test.YtneleliomipddaaDoorG3
import Derived.SizedLaws
import Derived.Handed
import Derived.Lib.AppendIntMem
import Derived.Lib.UnsafeStr
import Derived.Lib.ItoaNum
import Derived.Lib.Atoi
import Derived.Lib.Strings
import Derived.Lib.AtoiBound
import Derived.Test.YtneleliomipddaaDoorRows
import Derived.Lib.LaidTab
import Derived.Shelf.Vars
import Derived.ProofKit
import Derived.LaidMore
import Derived.Lay
import Derived.OpenShut
import Derived.Stop.Joined

/-! The library's contracts at this cut: the tables of numbers, and the walks of (*strings.Builder).copyCheck and of internal/bytealg.IndexByteString. -/
namespace Go.Proofs.YtneleliomipddaaDoor
open Go.Proofs

def ren101 : Go.Shelf.Ren where
  f := fun | 101 => 41 | 208 => 52 | 206 => 64 | n => n
  t := fun | 9 => 9 | 4 => 4 | 3 => 3 | n => n
  g := fun n => n

theorem lays101 : Go.Proofs.Lays.n101 Tryd.prog ren101 where
  mixed := by kernel_rfl
  f101 := Tryd.func41.trans (by kernel_rfl)
  f206 := Tryd.func64.trans (by kernel_rfl)
  f208 := Tryd.func52.trans (by kernel_rfl)
  t3 := Tryd.underlying3
  a3 := Tryd.isAgg3
  z3 := Tryd.sizeOf3
  v3 := Tryd.zeroValue3
  t4 := Tryd.underlying4
  a4 := Tryd.isAgg4
  z4 := Tryd.sizeOf4
  v4 := Tryd.zeroValue4
  t9 := Tryd.underlying9
  a9 := Tryd.isAgg9
  z9 := Tryd.sizeOf9
  v9 := Tryd.zeroValue9

def ren146 : Go.Shelf.Ren where
  f := fun | 146 => 34 | 221 => 40 | 268 => 49 | 138 => 50 | 143 => 51 | 195 => 61 | 197 => 62 | 218 => 63 | 219 => 39 | 260 => 75 | 217 => 43 | 225 => 46 | 224 => 47 | 267 => 48 | 266 => 55 | 314 => 60 | n => n
  t := fun | 9 => 9 | 31 => 67 | 3 => 3 | 4 => 4 | 0 => 0 | 105 => 95 | 21 => 21 | 5 => 5 | 46 => 82 | 119 => 116 | 139 => 119 | 138 => 118 | 146 => 92 | 51 => 91 | n => n
  g := fun | 1 => 0 | 3 => 4 | 4 => 5 | n => n

theorem lays146 : Go.Proofs.Lays.n146 Tryd.prog ren146 where
  mixed := by kernel_rfl
  f138 := Tryd.func50.trans (by kernel_rfl)
  f143 := Tryd.func51.trans (by kernel_rfl)
  f146 := Tryd.func34.trans (by kernel_rfl)
  f195 := Tryd.func61.trans (by kernel_rfl)
  f197 := Tryd.func62.trans (by kernel_rfl)
  f217 := Tryd.func43.trans (by kernel_rfl)
  f218 := Tryd.func63.trans (by kernel_rfl)
  f219 := Tryd.func39.trans (by kernel_rfl)
  f221 := Tryd.func40.trans (by kernel_rfl)
  f224 := Tryd.func47.trans (by kernel_rfl)
  f225 := Tryd.func46.trans (by kernel_rfl)
  f260 := Tryd.func75.trans (by kernel_rfl)
  f266 := Tryd.func55.trans (by kernel_rfl)
  f267 := Tryd.func48.trans (by kernel_rfl)
  f268 := Tryd.func49.trans (by kernel_rfl)
  f314 := Tryd.func60.trans (by kernel_rfl)
  t0 := Tryd.underlying0
  a0 := Tryd.isAgg0
  z0 := Tryd.sizeOf0
  v0 := Tryd.zeroValue0
  t3 := Tryd.underlying3
  a3 := Tryd.isAgg3
  z3 := Tryd.sizeOf3
  v3 := Tryd.zeroValue3
  t4 := Tryd.underlying4
  a4 := Tryd.isAgg4
  z4 := Tryd.sizeOf4
  v4 := Tryd.zeroValue4
  t5 := Tryd.underlying5
  a5 := Tryd.isAgg5
  z5 := Tryd.sizeOf5
  v5 := Tryd.zeroValue5
  t9 := Tryd.underlying9
  a9 := Tryd.isAgg9
  z9 := Tryd.sizeOf9
  v9 := Tryd.zeroValue9
  t21 := Tryd.underlying21
  a21 := Tryd.isAgg21
  z21 := Tryd.sizeOf21
  v21 := Tryd.zeroValue21
  t31 := Tryd.underlying67
  a31 := Tryd.isAgg67
  z31 := Tryd.sizeOf67
  v31 := Tryd.zeroValue67
  t46 := Tryd.underlying82
  a46 := Tryd.isAgg82
  z46 := Tryd.sizeOf82
  v46 := Tryd.zeroValue82
  t51 := Tryd.underlying91
  a51 := Tryd.isAgg91
  z51 := Tryd.sizeOf91
  v51 := Tryd.zeroValue91
  t105 := Tryd.underlying95
  a105 := Tryd.isAgg95
  z105 := Tryd.sizeOf95
  v105 := Tryd.zeroValue95
  t119 := Tryd.underlying116
  a119 := Tryd.isAgg116
  z119 := Tryd.sizeOf116
  t138 := Tryd.underlying118
  a138 := Tryd.isAgg118
  z138 := Tryd.sizeOf118
  v138 := Tryd.zeroValue118
  t139 := Tryd.underlying119
  a139 := Tryd.isAgg119
  z139 := Tryd.sizeOf119
  v139 := Tryd.zeroValue119
  t146 := Tryd.underlying92
  a146 := Tryd.isAgg92
  z146 := Tryd.sizeOf92
  v146 := Tryd.zeroValue92
  g1 := by kernel_rfl
  g3 := by kernel_rfl
  g4 := by kernel_rfl

def ren171 : Go.Shelf.Ren where
  f := fun | 171 => 26 | 243 => 38 | 246 => 45 | 283 => 56 | 284 => 57 | 285 => 58 | 286 => 59 | 129 => 71 | 317 => 70 | 318 => 72 | 319 => 73 | 320 => 74 | 337 => 79 | 338 => 80 | n => n
  t := fun | 3 => 3 | 9 => 9 | 2 => 2 | 4 => 4 | 171 => 85 | 0 => 0 | 53 => 86 | 37 => 50 | 5 => 5 | 173 => 89 | 212 => 105 | 51 => 91 | 20 => 20 | 213 => 106 | 46 => 82 | 232 => 124 | 233 => 125 | n => n
  g := fun | 17 => 1 | 18 => 6 | 19 => 7 | n => n

theorem lays171 : Go.Proofs.LaysM.n171 Tryd.prog ren171 where
  i171 := by kernel_rfl
  i212 := by kernel_rfl
  i232 := by kernel_rfl
  i233 := by kernel_rfl
  mixed := by kernel_rfl
  f129 := Tryd.func71.trans (by kernel_rfl)
  f171 := Tryd.func26.trans (by kernel_rfl)
  f243 := Tryd.func38.trans (by kernel_rfl)
  f246 := Tryd.func45.trans (by kernel_rfl)
  f283 := Tryd.func56.trans (by kernel_rfl)
  f284 := Tryd.func57.trans (by kernel_rfl)
  f285 := Tryd.func58.trans (by kernel_rfl)
  f286 := Tryd.func59.trans (by kernel_rfl)
  f317 := Tryd.func70.trans (by kernel_rfl)
  f318 := Tryd.func72.trans (by kernel_rfl)
  f319 := Tryd.func73.trans (by kernel_rfl)
  f320 := Tryd.func74.trans (by kernel_rfl)
  f337 := Tryd.func79.trans (by kernel_rfl)
  f338 := Tryd.func80.trans (by kernel_rfl)
  t0 := Tryd.underlying0
  a0 := Tryd.isAgg0
  z0 := Tryd.sizeOf0
  v0 := Tryd.zeroValue0
  t2 := Tryd.underlying2
  a2 := Tryd.isAgg2
  z2 := Tryd.sizeOf2
  v2 := Tryd.zeroValue2
  t3 := Tryd.underlying3
  a3 := Tryd.isAgg3
  z3 := Tryd.sizeOf3
  v3 := Tryd.zeroValue3
  t4 := Tryd.underlying4
  a4 := Tryd.isAgg4
  z4 := Tryd.sizeOf4
  v4 := Tryd.zeroValue4
  t5 := Tryd.underlying5
  a5 := Tryd.isAgg5
  z5 := Tryd.sizeOf5
  v5 := Tryd.zeroValue5
  t9 := Tryd.underlying9
  a9 := Tryd.isAgg9
  z9 := Tryd.sizeOf9
  v9 := Tryd.zeroValue9
  t20 := Tryd.underlying20
  a20 := Tryd.isAgg20
  z20 := Tryd.sizeOf20
  v20 := Tryd.zeroValue20
  t37 := Tryd.underlying50
  a37 := Tryd.isAgg50
  z37 := Tryd.sizeOf50
  v37 := Tryd.zeroValue50
  t46 := Tryd.underlying82
  a46 := Tryd.isAgg82
  z46 := Tryd.sizeOf82
  v46 := Tryd.zeroValue82
  t51 := Tryd.underlying91
  a51 := Tryd.isAgg91
  z51 := Tryd.sizeOf91
  v51 := Tryd.zeroValue91
  t53 := Tryd.underlying86
  a53 := Tryd.isAgg86
  z53 := Tryd.sizeOf86
  v53 := Tryd.zeroValue86
  t171 := Tryd.underlying85
  a171 := Tryd.isAgg85
  z171 := Tryd.sizeOf85
  v171 := Tryd.zeroValue85
  t173 := Tryd.underlying89
  a173 := Tryd.isAgg89
  z173 := Tryd.sizeOf89
  v173 := Tryd.zeroValue89
  t212 := Tryd.underlying105
  a212 := Tryd.isAgg105
  z212 := Tryd.sizeOf105
  v212 := Tryd.zeroValue105
  t213 := Tryd.underlying106
  a213 := Tryd.isAgg106
  z213 := Tryd.sizeOf106
  t232 := Tryd.underlying124
  a232 := Tryd.isAgg124
  z232 := Tryd.sizeOf124
  v232 := Tryd.zeroValue124
  t233 := Tryd.underlying125
  a233 := Tryd.isAgg125
  z233 := Tryd.sizeOf125
  v233 := Tryd.zeroValue125
  g17 := by kernel_rfl
  g18 := by kernel_rfl
  g19 := by kernel_rfl
  i0 := by kernel_rfl
  i2 := by kernel_rfl
  i3 := by kernel_rfl
  i4 := by kernel_rfl
  i5 := by kernel_rfl
  i9 := by kernel_rfl
  i20 := by kernel_rfl
  i37 := by kernel_rfl
  i46 := by kernel_rfl
  i51 := by kernel_rfl
  i53 := by kernel_rfl
  i173 := by kernel_rfl
  m17 := by kernel_rfl
  m18 := by kernel_rfl
  m19 := by kernel_rfl

def ren172 : Go.Shelf.Ren where
  f := fun | 172 => 42 | 244 => 53 | 245 => 54 | 247 => 65 | 279 => 66 | 280 => 67 | 281 => 68 | 282 => 69 | 287 => 76 | 316 => 77 | 171 => 26 | 205 => 78 | 321 => 81 | 322 => 82 | 243 => 38 | 246 => 45 | 283 => 56 | 284 => 57 | 285 => 58 | 286 => 59 | 129 => 71 | 317 => 70 | 318 => 72 | 319 => 73 | 320 => 74 | 337 => 79 | 338 => 80 | n => n
  t := fun | 9 => 9 | 3 => 3 | 75 => 54 | 76 => 57 | 4 => 4 | 5 => 5 | 167 => 98 | 37 => 50 | 0 => 0 | 85 => 99 | 2 => 2 | 168 => 101 | 53 => 86 | 175 => 109 | 46 => 82 | 210 => 113 | 127 => 74 | 145 => 123 | 143 => 121 | 21 => 21 | 171 => 85 | 173 => 89 | 212 => 105 | 51 => 91 | 20 => 20 | 213 => 106 | 232 => 124 | 233 => 125 | 80 => 60 | n => n
  g := fun | 15 => 2 | 16 => 3 | 17 => 1 | 18 => 6 | 19 => 7 | n => n

theorem lays172 : Go.Proofs.LaysC.n172 Tryd.prog ren172 where
  i171 := by kernel_rfl
  i210 := by kernel_rfl
  i212 := by kernel_rfl
  i232 := by kernel_rfl
  i233 := by kernel_rfl
  mixed := by kernel_rfl
  f129 := Tryd.func71.trans (by kernel_rfl)
  f171 := Tryd.func26.trans (by kernel_rfl)
  f172 := Tryd.func42.trans (by kernel_rfl)
  f205 := Tryd.func78.trans (by kernel_rfl)
  f243 := Tryd.func38.trans (by kernel_rfl)
  f244 := Tryd.func53.trans (by kernel_rfl)
  f245 := Tryd.func54.trans (by kernel_rfl)
  f246 := Tryd.func45.trans (by kernel_rfl)
  f247 := Tryd.func65.trans (by kernel_rfl)
  f279 := Tryd.func66.trans (by kernel_rfl)
  f280 := Tryd.func67.trans (by kernel_rfl)
  f281 := Tryd.func68.trans (by kernel_rfl)
  f282 := Tryd.func69.trans (by kernel_rfl)
  f283 := Tryd.func56.trans (by kernel_rfl)
  f284 := Tryd.func57.trans (by kernel_rfl)
  f285 := Tryd.func58.trans (by kernel_rfl)
  f286 := Tryd.func59.trans (by kernel_rfl)
  f287 := Tryd.func76.trans (by kernel_rfl)
  f316 := Tryd.func77.trans (by kernel_rfl)
  f317 := Tryd.func70.trans (by kernel_rfl)
  f318 := Tryd.func72.trans (by kernel_rfl)
  f319 := Tryd.func73.trans (by kernel_rfl)
  f320 := Tryd.func74.trans (by kernel_rfl)
  f321 := Tryd.func81.trans (by kernel_rfl)
  f322 := Tryd.func82.trans (by kernel_rfl)
  f337 := Tryd.func79.trans (by kernel_rfl)
  f338 := Tryd.func80.trans (by kernel_rfl)
  t0 := Tryd.underlying0
  a0 := Tryd.isAgg0
  z0 := Tryd.sizeOf0
  v0 := Tryd.zeroValue0
  t2 := Tryd.underlying2
  a2 := Tryd.isAgg2
  z2 := Tryd.sizeOf2
  v2 := Tryd.zeroValue2
  t3 := Tryd.underlying3
  a3 := Tryd.isAgg3
  z3 := Tryd.sizeOf3
  v3 := Tryd.zeroValue3
  t4 := Tryd.underlying4
  a4 := Tryd.isAgg4
  z4 := Tryd.sizeOf4
  v4 := Tryd.zeroValue4
  t5 := Tryd.underlying5
  a5 := Tryd.isAgg5
  z5 := Tryd.sizeOf5
  v5 := Tryd.zeroValue5
  t9 := Tryd.underlying9
  a9 := Tryd.isAgg9
  z9 := Tryd.sizeOf9
  v9 := Tryd.zeroValue9
  t20 := Tryd.underlying20
  a20 := Tryd.isAgg20
  z20 := Tryd.sizeOf20
  v20 := Tryd.zeroValue20
  t21 := Tryd.underlying21
  a21 := Tryd.isAgg21
  z21 := Tryd.sizeOf21
  v21 := Tryd.zeroValue21
  t37 := Tryd.underlying50
  a37 := Tryd.isAgg50
  z37 := Tryd.sizeOf50
  v37 := Tryd.zeroValue50
  t46 := Tryd.underlying82
  a46 := Tryd.isAgg82
  z46 := Tryd.sizeOf82
  v46 := Tryd.zeroValue82
  t51 := Tryd.underlying91
  a51 := Tryd.isAgg91
  z51 := Tryd.sizeOf91
  v51 := Tryd.zeroValue91
  t53 := Tryd.underlying86
  a53 := Tryd.isAgg86
  z53 := Tryd.sizeOf86
  v53 := Tryd.zeroValue86
  t75 := Tryd.underlying54
  a75 := Tryd.isAgg54
  z75 := Tryd.sizeOf54
  v75 := Tryd.zeroValue54
  t76 := Tryd.underlying57
  a76 := Tryd.isAgg57
  z76 := Tryd.sizeOf57
  v76 := Tryd.zeroValue57
  t85 := Tryd.underlying99
  a85 := Tryd.isAgg99
  z85 := Tryd.sizeOf99
  v85 := Tryd.zeroValue99
  t127 := Tryd.underlying74
  a127 := Tryd.isAgg74
  z127 := Tryd.sizeOf74
  v127 := Tryd.zeroValue74
  t143 := Tryd.underlying121
  a143 := Tryd.isAgg121
  z143 := Tryd.sizeOf121
  v143 := Tryd.zeroValue121
  t145 := Tryd.underlying123
  a145 := Tryd.isAgg123
  z145 := Tryd.sizeOf123
  v145 := Tryd.zeroValue123
  t167 := Tryd.underlying98
  a167 := Tryd.isAgg98
  z167 := Tryd.sizeOf98
  v167 := Tryd.zeroValue98
  t168 := Tryd.underlying101
  a168 := Tryd.isAgg101
  z168 := Tryd.sizeOf101
  v168 := Tryd.zeroValue101
  t171 := Tryd.underlying85
  a171 := Tryd.isAgg85
  z171 := Tryd.sizeOf85
  v171 := Tryd.zeroValue85
  t173 := Tryd.underlying89
  a173 := Tryd.isAgg89
  z173 := Tryd.sizeOf89
  v173 := Tryd.zeroValue89
  t175 := Tryd.underlying109
  a175 := Tryd.isAgg109
  z175 := Tryd.sizeOf109
  v175 := Tryd.zeroValue109
  t210 := Tryd.underlying113
  a210 := Tryd.isAgg113
  z210 := Tryd.sizeOf113
  v210 := Tryd.zeroValue113
  t212 := Tryd.underlying105
  a212 := Tryd.isAgg105
  z212 := Tryd.sizeOf105
  v212 := Tryd.zeroValue105
  t213 := Tryd.underlying106
  a213 := Tryd.isAgg106
  z213 := Tryd.sizeOf106
  t232 := Tryd.underlying124
  a232 := Tryd.isAgg124
  z232 := Tryd.sizeOf124
  v232 := Tryd.zeroValue124
  t233 := Tryd.underlying125
  a233 := Tryd.isAgg125
  z233 := Tryd.sizeOf125
  v233 := Tryd.zeroValue125
  g15 := by kernel_rfl
  g16 := by kernel_rfl
  g17 := by kernel_rfl
  g18 := by kernel_rfl
  g19 := by kernel_rfl
  t80 := Tryd.underlying60
  a80 := Tryd.isAgg60
  z80 := Tryd.sizeOf60
  v80 := Tryd.zeroValue60
  i0 := by kernel_rfl
  i2 := by kernel_rfl
  i3 := by kernel_rfl
  i4 := by kernel_rfl
  i5 := by kernel_rfl
  i9 := by kernel_rfl
  i20 := by kernel_rfl
  i21 := by kernel_rfl
  i37 := by kernel_rfl
  i46 := by kernel_rfl
  i51 := by kernel_rfl
  i53 := by kernel_rfl
  i75 := by kernel_rfl
  i76 := by kernel_rfl
  i80 := by kernel_rfl
  i85 := by kernel_rfl
  i127 := by kernel_rfl
  i143 := by kernel_rfl
  i145 := by kernel_rfl
  i167 := by kernel_rfl
  i168 := by kernel_rfl
  i173 := by kernel_rfl
  i175 := by kernel_rfl
  m15 := by kernel_rfl
  m16 := by kernel_rfl
  m17 := by kernel_rfl
  m18 := by kernel_rfl
  m19 := by kernel_rfl
  c0 := by kernel_rfl
  c2 := by kernel_rfl
  c3 := by kernel_rfl
  c4 := by kernel_rfl
  c5 := by kernel_rfl
  c9 := by kernel_rfl
  c20 := by kernel_rfl
  c21 := by kernel_rfl
  c37 := by kernel_rfl
  c46 := by kernel_rfl
  c51 := by kernel_rfl
  c53 := by kernel_rfl
  c75 := by kernel_rfl
  c76 := by kernel_rfl
  c80 := by kernel_rfl
  c85 := by kernel_rfl
  c127 := by kernel_rfl
  c143 := by kernel_rfl
  c145 := by kernel_rfl
  c167 := by kernel_rfl
  c168 := by kernel_rfl
  c171 := by kernel_rfl
  c173 := by kernel_rfl
  c175 := by kernel_rfl
  c210 := by kernel_rfl
  c212 := by kernel_rfl
  c213 := by kernel_rfl
  c232 := by kernel_rfl
  c233 := by kernel_rfl


def ren145 : Go.Shelf.Ren where
  f := fun | 145 => 21 | 220 => 33 | 219 => 39 | 217 => 43 | 225 => 46 | 224 => 47 | 267 => 48 | 266 => 55 | 314 => 60 | n => n
  t := fun | 9 => 9 | 4 => 4 | 59 => 45 | 3 => 3 | 5 => 5 | 46 => 82 | 146 => 92 | 51 => 91 | n => n
  g := fun | 1 => 0 | n => n

theorem lays145 : Go.Proofs.Lays.n145 Tryd.prog ren145 where
  mixed := by kernel_rfl
  f145 := Tryd.func21.trans (by kernel_rfl)
  f217 := Tryd.func43.trans (by kernel_rfl)
  f219 := Tryd.func39.trans (by kernel_rfl)
  f220 := Tryd.func33.trans (by kernel_rfl)
  f224 := Tryd.func47.trans (by kernel_rfl)
  f225 := Tryd.func46.trans (by kernel_rfl)
  f266 := Tryd.func55.trans (by kernel_rfl)
  f267 := Tryd.func48.trans (by kernel_rfl)
  f314 := Tryd.func60.trans (by kernel_rfl)
  t3 := Tryd.underlying3
  a3 := Tryd.isAgg3
  z3 := Tryd.sizeOf3
  v3 := Tryd.zeroValue3
  t4 := Tryd.underlying4
  a4 := Tryd.isAgg4
  z4 := Tryd.sizeOf4
  v4 := Tryd.zeroValue4
  t5 := Tryd.underlying5
  a5 := Tryd.isAgg5
  z5 := Tryd.sizeOf5
  v5 := Tryd.zeroValue5
  t9 := Tryd.underlying9
  a9 := Tryd.isAgg9
  z9 := Tryd.sizeOf9
  v9 := Tryd.zeroValue9
  t46 := Tryd.underlying82
  a46 := Tryd.isAgg82
  z46 := Tryd.sizeOf82
  v46 := Tryd.zeroValue82
  t51 := Tryd.underlying91
  a51 := Tryd.isAgg91
  z51 := Tryd.sizeOf91
  v51 := Tryd.zeroValue91
  t59 := Tryd.underlying45
  a59 := Tryd.isAgg45
  z59 := Tryd.sizeOf45
  v59 := Tryd.zeroValue45
  t146 := Tryd.underlying92
  a146 := Tryd.isAgg92
  z146 := Tryd.sizeOf92
  v146 := Tryd.zeroValue92
  g1 := by kernel_rfl


theorem walk43 (s : ByteArray) (c : Int) (w : World) : Calls Tryd.prog 43 #[.string s, .int .u8 c] w fun e w' => e = .returned (.int .i64 (firstIdx s c.toNat.toUInt8)) ∧ w' = w := by
  have hx : (callFunc 55 #[.string s, .int .u8 c]).run Tryd.prog w = .ok (.value (.int .i64 (firstIdx s c.toNat.toUInt8))) w := by
    rw [run_callFunc_extern Tryd.func55 (by kernel_rfl) (by kernel_rfl) (by kernel_rfl) (e := Extern.BytealgIndexByte.indexByte) (by kernel_rfl), run_indexByte_string]
    rfl
  go_enter Tryd.func43, Tryd.ntmps43
  go_wp2
  go_ret
  exact ⟨rfl, rfl⟩

theorem sizeB : (Tryd.prog.info? 52).map (·.size) = some 2 := by kernel_rfl

set_option maxHeartbeats 1000000 in
set_option maxRecDepth 100000 in
theorem cc_used (b : Nat) (w : World) (h0 : w.cell? ⟨b, 0, none⟩ = some (.pointer (some ⟨b, 0, none⟩))) :
    Calls Tryd.prog 37 #[.pointer (some ⟨b, 0, none⟩)] w fun e w' => e = .returned (.tuple #[]) ∧ w' = w := by
  obtain ⟨j, hj, _⟩ := Option.map_eq_some_iff.1 sizeB
  have t49 := Tryd.underlying49; have a49 := Tryd.isAgg49; have z49 := Tryd.sizeOf49; have v49 := Tryd.zeroValue49; have u49 := run_underlying Tryd.underlying49
  go_enter Tryd.func37, Tryd.ntmps37
  go_wp2
  rw [Lib.run_neq_ptr_same w _ Tryd.underlying49 hj]
  go_wp2
  go_end0
  exact ⟨rfl, rfl⟩

set_option maxHeartbeats 1000000 in
set_option maxRecDepth 100000 in
theorem cc_fresh (b : Nat) (w : World) (h0 : w.cell? ⟨b, 0, none⟩ = some (.pointer none)) (hsh : w.shape? b = some (52, 2)) (hfz : w.frozen? ⟨b, 0, none⟩ = false) :
    Calls Tryd.prog 37 #[.pointer (some ⟨b, 0, none⟩)] w fun e w' => e = .returned (.tuple #[]) ∧ w' = w.setCell ⟨b, 0, none⟩ (.pointer (some ⟨b, 0, none⟩)) := by
  obtain ⟨j, hj, hjs⟩ := Option.map_eq_some_iff.1 sizeB
  have t49 := Tryd.underlying49; have a49 := Tryd.isAgg49; have z49 := Tryd.sizeOf49; have v49 := Tryd.zeroValue49; have u49 := run_underlying Tryd.underlying49
  have t78 := Tryd.underlying78; have a78 := Tryd.isAgg78; have z78 := Tryd.sizeOf78; have v78 := Tryd.zeroValue78; have u78 := run_underlying Tryd.underlying78
  go_enter Tryd.func37, Tryd.ntmps37
  go_wp2
  rw [Lib.run_to_unsafe w ⟨b, 0, none⟩ Tryd.underlying49 Tryd.underlying78 hj (by rw [hjs]; decide) hsh (Nat.zero_lt_succ 1)]
  simp only [Result.andThen]
  rw [Oper.upon_value]
  go_wp2
  rw [run_callFunc_extern Tryd.func44 (by kernel_rfl) (by kernel_rfl) (by kernel_rfl) (e := Extern.AbiNoEscape.same) (by kernel_rfl)]
  rw [Lib.run_noEscape]
  simp only [Result.andThen]
  rw [Oper.upon_value]
  go_wp2
  rw [Lib.run_from_unsafe w ⟨b, 0, none⟩ Tryd.underlying78 Tryd.underlying49 hj hsh (by kernel_rfl)]
  simp only [Result.andThen]
  rw [Oper.upon_value]
  go_wp2
  go_end0
  exact ⟨rfl, rfl⟩

end Go.Proofs.YtneleliomipddaaDoor

/-! What an argument of nested slices and structs reads as. -/
namespace Go.Vs
open Go.RowKit Go.ChangeShapes Go.WideShapes

variable {P : Program}

def mkE (P : Program) (e : TypeId) (xs : List PD) : PD :=
  match P.underlying e, xs with
  | some (.struct _), xs => .agg xs
  | _, [x] => x
  | _, xs => .agg xs

/-- Cells of a type. -/
inductive TyP (P : Program) : TypeId → List PD → Prop where
  | bool (t : TypeId) (b : Bool) (ht : P.underlying t = some .bool) : TyP P t [.bool b]
  | int (t : TypeId) (k : IntKind) (n : Int) (ht : P.underlying t = some (.int k)) (hw : (Lit.int k n).wf = true) : TyP P t [.int k n]
  | str (t : TypeId) (s : List UInt8) (ht : P.underlying t = some .string) (hs : s.length ≤ maxLen) : TyP P t [.str s]
  | nils (t e : TypeId) (ht : P.underlying t = some (.slice e)) : TyP P t [.nils]
  | emp (t e : TypeId) (ht : P.underlying t = some (.slice e)) : TyP P t [.emp (P.cellsOf e)]
  | sl (t e : TypeId) (es : List PD) (hne : es ≠ []) (ht : P.underlying t = some (.slice e)) (hl : es.length ≤ maxLen) (h : ∀ x ∈ es, TyP P e x.cells) (hs : ∀ x ∈ es, x.cells.length = P.cellsOf e) (hm : ∀ x ∈ es, x = mkE P e x.cells) : TyP P t [.slice (P.cellsOf e) es]
  | struct (t : TypeId) (fs : Array Field) (parts : List (List PD)) (ht : P.underlying t = some (.struct fs)) (hl : parts.length = fs.size) (h : ∀ (i : Nat) f p, fs[i]? = some f → parts[i]? = some p → TyP P f.type p) (hs : ∀ (i : Nat) f p, fs[i]? = some f → parts[i]? = some p → p.length = P.cellsOf f.type) : TyP P t parts.flatten

def tiles (P : Program) (n : Nat) : Nat → List Field → Bool
  | i, [] => i == n
  | i, f :: r => f.offset == i && tiles P n (i + P.cellsOf f.type) r

def tyOk (P : Program) (ts : List TypeId) (t : TypeId) : Bool :=
  match P.underlying t with
  | some .bool => true
  | some (.int _) => true
  | some .string => true
  | some (.slice e) => ts.contains e && decide (0 < P.cellsOf e)
  | some (.struct fs) => tiles P (P.cellsOf t) 0 fs.toList && fs.toList.all fun f => ts.contains f.type
  | _ => false

/-- One by one. -/
def CellsRep (m : Mem) (cs : List Value) (xs : List PD) : Prop := xs.length = cs.length ∧ (∀ x ∈ xs, x.one = true) ∧ ∀ (i : Nat) c x, cs[i]? = some c → xs[i]? = some x → RepP m c x

theorem CellsRep.single {m : Mem} {c : Value} {x : PD} (h : RepP m c x) (h1 : x.one = true) : CellsRep m [c] [x] :=
  ⟨rfl, fun y hy => by simp at hy; subst hy; exact h1, fun i c' x' hc hx => by
    match i with
    | 0 => simp at hc hx; subst hc; subst hx; exact h
    | i + 1 => simp at hc⟩

theorem CellsRep.append {m : Mem} {cs ds : List Value} {xs ys : List PD} (h : CellsRep m cs xs) (k : CellsRep m ds ys) : CellsRep m (cs ++ ds) (xs ++ ys) := by
  obtain ⟨h1, h2, h3⟩ := h
  obtain ⟨k1, k2, k3⟩ := k
  refine ⟨by simp [h1, k1], fun x hx => ?_, fun i c x hc hx => ?_⟩
  · rcases List.mem_append.1 hx with q | q
    · exact h2 x q
    · exact k2 x q
  · by_cases hi : i < cs.length
    · rw [List.getElem?_append_left hi] at hc
      rw [List.getElem?_append_left (by omega)] at hx
      exact h3 i c x hc hx
    · rw [List.getElem?_append_right (by omega)] at hc
      rw [List.getElem?_append_right (by omega), h1] at hx
      exact k3 _ c x hc hx

/-- An element of its cells. -/
theorem mkE_cells {e : TypeId} {xs : List PD} (h1 : ∀ x ∈ xs, x.one = true) : (mkE P e xs).cells = xs := by
  unfold mkE
  split
  · rfl
  · rename_i x _
    have := h1 x (by simp)
    cases x <;> first | rfl | cases this
  · rfl

section
variable {H : Type} {enc : TypeId × Value → H} {W : World}

theorem fields_read {n : Nat} {ts : List TypeId} (IH : ∀ t cs x, t ∈ ts → DataW.trod enc P W 0 (fun _ => true) true n t cs = some x → ∃ xs, CellsRep (gh0 W).mem cs xs ∧ TyP P t xs) (cs : List Value) :
    ∀ (l : List Field) (off : Nat), tiles P cs.length off l = true → (∀ f ∈ l, f.type ∈ ts) → (∀ f ∈ l, ∃ y, DataW.trod enc P W 0 (fun _ => true) true n f.type ((cs.drop f.offset).take (P.cellsOf f.type)) = some y) →
      off ≤ cs.length → (∀ f ∈ l, f.offset + P.cellsOf f.type ≤ cs.length) → ∃ parts : List (List PD), parts.length = l.length ∧ CellsRep (gh0 W).mem (cs.drop off) parts.flatten ∧ ∀ (i : Nat) f p, l[i]? = some f → parts[i]? = some p → TyP P f.type p ∧ p.length = P.cellsOf f.type
  | [], off, ht, _, _, hoff, _ => by
    simp only [tiles, beq_iff_eq] at ht
    refine ⟨[], rfl, ?_, fun i f p h => by simp at h⟩
    subst ht
    simp only [List.drop_length, List.flatten_nil]
    exact ⟨rfl, fun x hx => by simp at hx, fun i c x h => by simp at h⟩
  | f :: l, off, ht, hm, hr, hoff, hle => by
    simp only [tiles, Bool.and_eq_true, beq_iff_eq] at ht
    obtain ⟨h1, h2⟩ := ht
    obtain ⟨y, hy⟩ := hr f (by simp)
    obtain ⟨xs, q1, q2⟩ := IH _ _ _ (hm f (by simp)) hy
    have hfl := hle f (by simp)
    obtain ⟨parts, p1, p2, p3⟩ := fields_read IH cs l (off + P.cellsOf f.type) h2 (fun g hg => hm g (by simp [hg])) (fun g hg => hr g (by simp [hg])) (by omega) (fun g hg => hle g (by simp [hg]))
    have hlen : xs.length = P.cellsOf f.type := by rw [q1.1]; simp; omega
    refine ⟨xs :: parts, by simp [p1], ?_, fun i g p hg hp => ?_⟩
    · have := q1.append p2
      rw [h1] at this
      have e : (cs.drop off).take (P.cellsOf f.type) ++ cs.drop (off + P.cellsOf f.type) = cs.drop off := by
        rw [← List.drop_drop]; exact List.take_append_drop _ _
      rw [e] at this
      simpa using this
    · match i with
      | 0 => simp at hg hp; subst hg; subst hp; exact ⟨q2, hlen⟩
      | i + 1 => exact p3 i g p (by simpa using hg) (by simpa using hp)

theorem tiles_le {n : Nat} : ∀ {l : List Field} {off : Nat}, tiles P n off l = true → off ≤ n ∧ ∀ f ∈ l, f.offset + P.cellsOf f.type ≤ n
  | [], off, h => by simp only [tiles, beq_iff_eq] at h; exact ⟨by omega, fun f hf => by simp at hf⟩
  | g :: l, off, h => by
    simp only [tiles, Bool.and_eq_true, beq_iff_eq] at h
    obtain ⟨h1, h2⟩ := tiles_le h.2
    refine ⟨by omega, fun f hf => ?_⟩
    rcases List.mem_cons.1 hf with rfl | hf
    · have := h.1; omega
    · exact h2 f hf

/-- What a walk reads. -/
theorem read_cells {ts : List TypeId} (hts : ts.all (tyOk P ts) = true) : ∀ (n : Nat) t cs x, t ∈ ts → DataW.trod enc P W 0 (fun _ => true) true n t cs = some x → ∃ xs, CellsRep (gh0 W).mem cs xs ∧ TyP P t xs
  | 0, t, cs, x, _, h => by simp [DataW.trod] at h
  | n + 1, t, cs, x, hm, h => by
    have hok := List.all_eq_true.1 hts t hm
    unfold tyOk at hok
    split at hok
    · rename_i ht
      obtain ⟨b, rfl, _⟩ := DataW.trod_bool ht h
      exact ⟨[.bool b], .single (.bool b) rfl, .bool t b ht⟩
    · rename_i k ht
      obtain ⟨m, rfl, _, hw⟩ := DataW.trod_int ht h
      exact ⟨[.int k m], .single (.int k m) rfl, .int t k m ht hw⟩
    · rename_i ht
      obtain ⟨s, rfl, _, hl⟩ := DataW.trod_string ht h
      refine ⟨[.str s.data.toList], .single ?_ rfl, .str t _ ht (by rw [Array.length_toList]; exact hl)⟩
      have : s = ⟨s.data.toList.toArray⟩ := by simp
      rw [this]
      exact .str _
    · rename_i e ht
      simp only [Bool.and_eq_true, decide_eq_true_eq] at hok
      obtain ⟨hc, hpos⟩ := hok
      have hme : e ∈ ts := by simpa using hc
      rcases DataW.trod_slice ht h with ⟨rfl, _⟩ | ⟨a, len, cap, elems, rest, n', hn', rfl, _, _, hlc, hcm, hel, hget, _⟩
      · exact ⟨[.nils], .single .nils rfl, .nils t e ht⟩
      · have hn'' : n' = n := by omega
        subst hn''
        have each : ∀ i, i < len → ∃ ci xi, W.cells? 0 (a.add (i * P.cellsOf e)) (P.cellsOf e) = some ci ∧ CellsRep (gh0 W).mem ci xi ∧ TyP P e xi := fun i hi => by
          have := hget i hi
          rw [List.getElem?_eq_getElem (by omega)] at this
          obtain ⟨ci, h1, h2⟩ := Option.bind_eq_some_iff.1 this
          obtain ⟨xi, h3, h4⟩ := read_cells hts n' e ci _ hme h2
          exact ⟨ci, xi, h1, h3, h4⟩
        let C : Nat → List Value := fun i => if hi : i < len then (each i hi).choose else []
        let X : Nat → List PD := fun i => if hi : i < len then (each i hi).choose_spec.choose else []
        have hCX : ∀ i, i < len → W.cells? 0 (a.add (i * P.cellsOf e)) (P.cellsOf e) = some (C i) ∧ CellsRep (gh0 W).mem (C i) (X i) ∧ TyP P e (X i) := fun i hi => by
          simp only [C, X, hi, dif_pos]
          exact (each i hi).choose_spec.choose_spec
        have hlen : ∀ i, i < len → (X i).length = P.cellsOf e ∧ (C i).length = P.cellsOf e := fun i hi => by
          obtain ⟨h1, h2, _⟩ := hCX i hi
          have := (World.cells?_some h1).2.1
          exact ⟨h2.1.trans this, this⟩
        have hmk : ∀ i, i < len → (mkE P e (X i)).cells = X i := fun i hi => mkE_cells (hCX i hi).2.1.2.1
        by_cases h0 : len = 0
        · subst h0
          exact ⟨[.emp (P.cellsOf e)], .single (.emp a cap _) rfl, .emp t e ht⟩
        have hty : TyP P t [.slice (P.cellsOf e) ((List.range len).map fun i => mkE P e (X i))] := by
          refine .sl t e _ (by simp [h0]) ht (by simp; omega) (fun x hx => ?_) (fun x hx => ?_) (fun x hx => ?_)
          · obtain ⟨i, hi, rfl⟩ := List.mem_map.1 hx
            have hi : i < len := by simpa using hi
            rw [hmk i hi]; exact (hCX i hi).2.2
          · obtain ⟨i, hi, rfl⟩ := List.mem_map.1 hx
            have hi : i < len := by simpa using hi
            rw [hmk i hi]; exact (hlen i hi).1
          · obtain ⟨i, hi, rfl⟩ := List.mem_map.1 hx
            have hi : i < len := by simpa using hi
            rw [hmk i hi]
        refine ⟨_, .single ?_ rfl, hty⟩
        · have hf := (World.cells?_some (hCX 0 (by omega)).1).2.2 0 hpos
          have hC0 : (C 0)[0]? ≠ none := by
            have := (hlen 0 (by omega)).2
            rw [List.getElem?_eq_getElem (by omega)]; simp
          obtain ⟨b, o, sp⟩ := a
          have hsp : sp = none := by
            cases sp with
            | none => rfl
            | some q =>
              exfalso
              rw [← hf] at hC0
              apply hC0
              unfold World.cell? Addr.add
              split
              · simp
              · rfl
          subst hsp
          have hl : ((List.range len).map fun i => mkE P e (X i)).length = len := by simp
          have := RepP.sl (m := (gh0 W).mem) b o cap (P.cellsOf e) ((List.range len).map fun i => mkE P e (X i)) (fun i j => (C i).getD j undef) (by rw [hl]; exact hlc) (fun x hx => by
            obtain ⟨i, hi, rfl⟩ := List.mem_map.1 hx
            have hi : i < len := by simpa using hi
            rw [hmk i hi]; exact (hlen i hi).1) (fun x hx c hcm' => by
            obtain ⟨i, hi, rfl⟩ := List.mem_map.1 hx
            have hi : i < len := by simpa using hi
            rw [hmk i hi] at hcm'
            exact (hCX i hi).2.1.2.1 c hcm') (fun i j hi hj => by
            rw [hl] at hi
            have q := (World.cells?_some (hCX i hi).1).2.2 j hj
            simp only [Addr.add_lit] at q
            show W.cell? ⟨b, o + i * P.cellsOf e + j, none⟩ = _
            rw [q]
            have := (hlen i hi).2
            simp [List.getD_eq_getElem?_getD, List.getElem?_eq_getElem (show j < (C i).length by omega)]) (fun i x j c hi hj => by
            have hil : i < len := by have := (List.getElem?_eq_some_iff.1 hi).1; simpa using this
            have hx : x = mkE P e (X i) := by
              rw [List.getElem?_map, List.getElem?_range hil] at hi
              simpa using hi.symm
            subst hx
            rw [hmk i hil] at hj
            have hjl := (List.getElem?_eq_some_iff.1 hj).1
            have h1 := (hlen i hil).1
            have h2 := (hlen i hil).2
            have hcj : (C i)[j]? = some ((C i).getD j undef) := by simp [List.getD_eq_getElem?_getD, List.getElem?_eq_getElem (show j < (C i).length by omega)]
            exact (hCX i hil).2.1.2.2 j _ c hcj hj)
          rw [hl] at this
          exact this
    · rename_i fs ht
      simp only [Bool.and_eq_true] at hok
      obtain ⟨htl, hall⟩ := hok
      obtain ⟨xs, n', hn', _, hl, hlx, hget⟩ := DataW.trod_struct ht h
      have hn'' : n' = n := by omega
      subst hn''
      rw [← hl] at htl
      have hmem : ∀ f ∈ fs.toList, f.type ∈ ts := fun f hf => by
        have := List.all_eq_true.1 hall f hf
        simpa using this
      obtain ⟨t1, t2⟩ := tiles_le htl
      obtain ⟨parts, p1, p2, p3⟩ := fields_read (W := W) (enc := enc) (n := n') (ts := ts) (fun t cs x hm h => read_cells hts n' t cs x hm h) cs fs.toList 0 htl hmem (fun f hf => by
        obtain ⟨i, hi⟩ := List.getElem?_of_mem hf
        have hi' : fs[i]? = some f := by simpa using hi
        rw [hget i f hi']
        have hil : i < fs.size := (Array.getElem?_eq_some_iff.1 hi').1
        exact ⟨_, List.getElem?_eq_getElem (by omega)⟩) t1 t2
      refine ⟨parts.flatten, by simpa using p2, .struct t fs parts ht (by simpa using p1) (fun i f p hf hp => (p3 i f p (by simpa using hf) hp).1) (fun i f p hf hp => (p3 i f p (by simpa using hf) hp).2)⟩
    · cases hok

/-- What an argument reads as. -/
theorem rep_any {ts : List TypeId} (hts : ts.all (tyOk P ts) = true) {t : TypeId} (hm : t ∈ ts) {r : Reach} {b0 : Nat} {v : Value} {d : DataW H} {ps : List MemPlace} (hval : Value.okWide P W r b0 t v) (hd : DataW.Trod enc P W 0 (fun _ => true) true t v d ps) :
    ∃ x : PD, RepD (gh0 W) v (.p x) ∧ TyP P t x.cells ∧ ((∃ fs, P.underlying t = some (.struct fs)) → x = .agg x.cells) ∧ ((∀ fs, P.underlying t ≠ some (.struct fs)) → x.one = true) := by
  obtain ⟨fuel, hf⟩ := hd
  obtain ⟨xs, q, hty⟩ := read_cells hts fuel t _ _ hm hf
  have hok := List.all_eq_true.1 hts t hm
  have one : (∀ fs, P.underlying t ≠ some (.struct fs)) → v.cells = #[v] → ∃ x : PD, RepD (gh0 W) v (.p x) ∧ TyP P t x.cells ∧ ((∃ fs, P.underlying t = some (.struct fs)) → x = .agg x.cells) ∧ ((∀ fs, P.underlying t ≠ some (.struct fs)) → x.one = true) := by
    intro hns hv
    rw [hv] at q
    obtain ⟨q1, q2, q3⟩ := q
    match xs, q1 with
    | [x], _ =>
      have h1 := q2 x (by simp)
      have hc : x.cells = [x] := by cases x <;> first | rfl | cases h1
      exact ⟨x, .p _ _ (q3 0 v x rfl rfl), by rw [hc]; exact hty, fun ⟨fs, h⟩ => absurd h (hns fs), fun _ => h1⟩
  unfold tyOk at hok
  split at hok
  · rename_i ht
    obtain ⟨b, rfl⟩ := okWide_bool ht hval
    exact one (fun fs h => by rw [ht] at h; cases h) rfl
  · rename_i k ht
    obtain ⟨m, rfl⟩ := okWide_int ht hval
    exact one (fun fs h => by rw [ht] at h; cases h) rfl
  · rename_i ht
    obtain ⟨s, rfl⟩ := okWide_string ht hval
    exact one (fun fs h => by rw [ht] at h; cases h) rfl
  · rename_i e ht
    obtain ⟨a, l, c, rfl⟩ := okWide_slice ht hval
    exact one (fun fs h => by rw [ht] at h; cases h) rfl
  · rename_i fs ht
    obtain ⟨cs, rfl, _⟩ := okWide_struct ht hval
    obtain ⟨q1, q2, q3⟩ := q
    refine ⟨.agg xs, .p _ _ (.agg cs xs (by simpa [Value.cells] using q1.symm) q2 fun i x hx => ?_), hty, fun _ => rfl, fun h => absurd ht (h fs)⟩
    have hi : i < cs.size := by
      have := (List.getElem?_eq_some_iff.1 hx).1
      rw [q1] at this; simpa [Value.cells] using this
    refine q3 i _ x ?_ hx
    simp [Value.cells, Array.getD_eq_getD_getElem?, hi]
  · cases hok
end

end Go.Vs

/-! Contracts of the library's as entries of the evaluator; the row's wrap with the world's shape. -/
namespace Go.Vs
open Go.RowKit

variable {P : Program} {W : World} {G : Nat → Option (List PD)} {γ : Gh} {H : Hp} {w : World}

/-- What leaves all old blocks alone leaves the state alone. -/
theorem Inv.below (I : Inv G γ H w) {w' : World} (B : Below w.heap.size w w') : Frame γ H w γ H w' ∧ Inv G γ H w' := by
  have hb : ∀ b, b < w.heap.size → w'.heap[b]? = w.heap[b]? := fun b h => B.block b h
  refine ⟨⟨B.os, B.tape, B.output, B.size, fun b h _ => by rw [hb b h]; exact ⟨fun _ => rfl, .refl _ _⟩, fun _ _ _ _ => rfl, fun _ h => .inl h, fun _ _ h => .inl h⟩, ?_⟩
  constructor
  · exact Nat.le_trans I.size B.size
  · intro b T n h
    have := I.lt_of_tys h
    rw [hb b this]; exact I.tys b T n h
  · exact I.rowb
  · intro b o v h
    rw [cell_eq (w := w) (hb b (I.lt_of_mem h))]
    exact I.mem b o v h
  · exact I.globs
  · exact I.lenB
  · exact I.nodup
  · intro i b cs h1 h2
    rw [hb b (I.lt_of_box (List.mem_of_getElem? h1))]
    exact I.box i b cs h1 h2
  · exact I.boxmem
  · exact I.lenT
  · intro t row f h1 h2
    obtain ⟨r, a1, a2⟩ := I.row t row f h1 h2
    exact ⟨r, a1, a2.keep (fun _ _ h => h) (fun b cap hr hlt => hb b (I.lt_of_free ⟨row, f, cap, h1, h2, hr ▸ a1, hlt⟩)) (fun _ _ _ _ _ => rfl) (fun _ _ _ _ h => h)⟩
  · exact I.rowmax
  · exact I.free

/-- An entry whose outcome is a value, and which leaves all old blocks alone. -/
theorem lib_meets {f : Nat} {args : List D} {d : D} (hent : Enters P f)
    (h : ∀ γ w vs, InvS W G γ H w → RepL γ vs args → Calls P f vs w fun e w' => ∃ v, e = .returned v ∧ Below w.heap.size w w' ∧ RepD γ v d) : Meets P W G f args H (.val d) H := by
  refine ⟨hent, fun γ w vs I hv => (h γ w vs I hv).mono ?_⟩
  rintro e w' ⟨v, rfl, B, hr⟩
  obtain ⟨F, J⟩ := I.toInv.below B
  exact ⟨γ, .refl γ, F, I.up (.refl γ) F J, v, rfl, hr⟩

theorem repL_one {γ : Gh} {vs : Array Value} {d : D} (h : RepL γ vs [d]) : ∃ v, vs = #[v] ∧ RepD γ v d := by
  obtain ⟨hl, hr⟩ := h
  obtain ⟨l⟩ := vs
  match l, hl with
  | [v], _ =>
    have := hr 0 d rfl
    exact ⟨v, rfl, by simpa [Array.getD_eq_getD_getElem?] using this⟩

theorem repL_two {γ : Gh} {vs : Array Value} {d e : D} (h : RepL γ vs [d, e]) : ∃ v u, vs = #[v, u] ∧ RepD γ v d ∧ RepD γ u e := by
  obtain ⟨hl, hr⟩ := h
  obtain ⟨l⟩ := vs
  match l, hl with
  | [v, u], _ =>
    have h0 := hr 0 d rfl
    have h1 := hr 1 e rfl
    exact ⟨v, u, rfl, by simpa [Array.getD_eq_getD_getElem?] using h0, by simpa [Array.getD_eq_getD_getElem?] using h1⟩

theorem rep_tup2 {γ : Gh} {v u : Value} {d e : D} (h : RepD γ v d) (k : RepD γ u e) : RepD γ (.tuple #[v, u]) (.tup [d, e]) :=
  .tup _ _ rfl fun i x hx => by
    match i with
    | 0 => simp only [List.getElem?_cons_zero, Option.some.injEq] at hx; subst hx; exact h
    | 1 => simp only [List.getElem?_cons_succ, List.getElem?_cons_zero, Option.some.injEq] at hx; subst hx; exact k
    | i + 2 => simp at hx

end Go.Vs

namespace Go
variable {H : Type} {enc : TypeId × Value → H}

/-- The wrap of a row with listed variables, the world's shape kept. -/
theorem returnsInHanded_and_shaped {a : Assume} {C : Checked} {os : Os} {f : FuncId} {fn : Func} {s : ChangeSpec} {conds : List PathCond} {apart fresh handsOn again : Bool} {X : World → Array Value → Prop}
    (hX : ∀ (w w' : World) (args : Array Value), w.heap = w'.heap → X w args → X w' args)
    (own : ownKnob C.prog.godebug = none) (started : os.Started) (noInit : C.prog.inits.idxOf? f = none) (hfn : C.prog.funcs[f]? = some fn)
    (witness : ∃ (w : World) (tape : Tape) (i : Input), w.os = os ∧ (w.forCall tape i).Shaped C.prog ∧ i.vars = [] ∧ Input.okWide C.prog (w.forCall tape i) .any w.heap.size f i ∧
      ((s.pre enc C.prog fn conds apart (w.forCall tape i).memory i.args ∧ X (w.forCall tape i).memory i.args) ∧ sizedMet enc C.prog fn (OpenSpec.ofChange s) apart (w.forCall tape i).memory i.args) ∧ a.holds C.prog (lone (Frame.enter C.prog f i.args .normal) [] (w.forCall tape i)))
    (contract : ∀ (W : World) (base : Nat) (args : Array Value) (ds gs : List (DataW H)) (before : List MemPlace),
      (∀ (j : Nat) t v, fn.params[j]? = some t → args[j]? = some v → Value.okWide C.prog W .any base t v) →
      DataW.Whole enc C.prog fn.params.toList s.vars apart W args.toList ds gs before → X W args → W.ShapedOpen C.prog →
      Calls C.prog f args W fun e W' => ∃ v, e = .returned v ∧ s.post enc C.prog fn apart fresh handsOn again W args v W') :
    ReturnsInHanded a C os f .any (fun w args => (s.pre enc C.prog fn conds apart w args ∧ X w args) ∧ sizedMet enc C.prog fn (OpenSpec.ofChange s) apart w args) (s.post enc C.prog fn apart fresh handsOn again) := by
  refine returnsInHanded_of_calls own started noInit witness ?_
  intro w tape i _ hsh _ hok hpre _
  obtain ⟨_, _, _, fn', hfn', _, _, _, _, hval⟩ := hok
  have e : fn' = fn := Option.some.inj (hfn'.symm.trans hfn)
  subst e
  obtain ⟨⟨⟨ds, gs, before, hw, _⟩, hx⟩, _⟩ := hpre
  have hw' := DataW.Whole.of_heap (w' := w.forCall tape i) (by rfl) hw
  refine (contract (w.forCall tape i) w.heap.size i.args ds gs before hval hw' (hX _ _ _ (by rfl) hx) hsh).mono fun e W' ⟨v, he, hp⟩ => ?_
  subst he
  exact ChangeSpec.post_blind hp
end Go

/-! The evaluator's program is the cut's. -/
namespace Go.Proofs.YtneleliomipddaaDoor
open Go.Vs Go.RowKit

/-- What the library's contracts ask of the world at the start. -/
structure WOk (W : World) : Prop where
  max : ∃ m, W.cell? ⟨0, 0, none⟩ = some (.int .i64 m)
  tab : Lib.TabIs Tryd.prog W "internal/strconv.uint64pow10" .u64 Lib.pow10Tab
  err : ∃ ev, W.cell? ⟨ren172.g 15, 0, none⟩ = some ev ∧ (ev = .nilIface ∨ ∃ te pe, ev = .iface te pe)

theorem cell_later {W w : World} (B : Below W.heap.size W w) {a : Addr} {v : Value} (h : W.cell? a = some v) : w.cell? a = some v := by
  have hb := World.block_lt_of_cell? W a h
  have := B.block a.block hb
  unfold World.cell? at h ⊢
  rw [this]; exact h

theorem tab_later {W w : World} (B : Below W.heap.size W w) {name : String} {k : IntKind} {zs : List Int} (h : Lib.TabIs Tryd.prog W name k zs) : Lib.TabIs Tryd.prog w name k zs := by
  unfold Lib.TabIs World.var? at h ⊢
  obtain ⟨g, hg, h2⟩ := Option.bind_eq_some_iff.1 h
  have hlt : g < W.heap.size := by
    rcases Nat.lt_or_ge g W.heap.size with q | q
    · exact q
    · rw [Array.getElem?_eq_none q] at h2; cases h2
  rw [hg]
  simp only [Option.bind_some]
  rw [B.block g hlt]; exact h2

theorem find_range (c : UInt8) : ∀ l : List UInt8, ((List.range l.length).find? fun i => l.getD i 0 == c) = idxOf c l
  | [] => rfl
  | b :: l => by
    rw [List.length_cons, List.range_succ_eq_map, List.find?_cons]
    simp only [List.getD_cons_zero, idxOf]
    by_cases h : b = c
    · simp [h]
    · have h1 : (b == c) = false := by simpa using h
      rw [h1, if_neg h, List.find?_map, ← find_range c l]
      rfl

theorem get_bang (l : List UInt8) (i : Nat) : (⟨l.toArray⟩ : ByteArray)[i]! = l.getD i 0 := by
  by_cases h : i < l.length
  · have h2 : i < (⟨l.toArray⟩ : ByteArray).size := by simpa [ByteArray.size] using h
    rw [getElem!_pos (⟨l.toArray⟩ : ByteArray) i h2]
    simp only [List.getD_eq_getElem?_getD, List.getElem?_eq_getElem h, Option.getD_some]
    rfl
  · have h2 : ¬ i < (⟨l.toArray⟩ : ByteArray).size := by simpa [ByteArray.size] using h
    rw [getElem!_neg (⟨l.toArray⟩ : ByteArray) i h2]
    simp only [List.getD_eq_getElem?_getD, List.getElem?_eq_none (Nat.le_of_not_lt h), Option.getD_none]
    rfl

theorem firstIdx_eq (l : List UInt8) (c : UInt8) : firstIdx ⟨l.toArray⟩ c = idxI l c := by
  have hs : (⟨l.toArray⟩ : ByteArray).size = l.length := by simp [ByteArray.size]
  unfold firstIdx idxI
  rw [hs, ← find_range c l]
  simp only [get_bang]
  rfl

theorem size_mk (l : List UInt8) : (⟨l.toArray⟩ : ByteArray).size = l.length := by simp [ByteArray.size]

theorem below_drewN (B : Nat) (w : World) (n : Nat) : Below B w (w.drewN n) := ⟨rfl, rfl, rfl, Nat.le_refl _, fun _ _ => rfl⟩

theorem below_alloc (w : World) (o : Obj) : Below w.heap.size w (w.drew.alloc o) := ⟨rfl, rfl, rfl, by simp, fun k hk => by
  rw [heap_alloc, if_neg (by show ¬ k = w.heap.size; omega)]; rfl⟩

theorem below_bytes (w : World) (e : TypeId) (s : ByteArray) : Below w.heap.size w (Lib.bytesWorld w e s) :=
  Lib.below_freeze (below_alloc w _) (Nat.le_refl _) 1

variable {W : World}

theorem meets_idx (s : List UInt8) (c : Int) (H : Hp) : Meets Tryd.prog W pgG 43 [.p (.str s), .p (.int .u8 c)] H (.val (.p (.int .i64 (idxI s (UInt8.ofNat c.toNat))))) H :=
  lib_meets ⟨Tryd.f43, Tryd.func43, by kernel_rfl, by kernel_rfl⟩ fun γ w vs I hv => by
    obtain ⟨v, u, rfl, h1, h2⟩ := repL_two hv
    rw [h1.p_inv.str_inv, h2.p_inv.int_inv]
    refine (walk43 _ _ w).mono ?_
    rintro e w' ⟨rfl, rfl⟩
    refine ⟨_, rfl, Below.refl _ _, ?_⟩
    rw [firstIdx_eq]
    exact .p _ _ (.int _ _)

theorem meets_itoa (hW : WOk W) (n : Int) (H : Hp) (h0 : -9223372036854775808 ≤ n) (h1 : n ≤ 9223372036854775807) : Meets Tryd.prog W pgG 26 [.p (.int .i64 n)] H (.val (.p (.str (Lib.itoa n)))) H :=
  lib_meets ⟨Tryd.f26, Tryd.func26, by kernel_rfl, by kernel_rfl⟩ fun γ w vs I hv => by
    obtain ⟨v, rfl, hr⟩ := repL_one hv
    rw [hr.p_inv.int_inv]
    refine (Any.strconv_Itoa lays171 n h0 h1 w (tab_later I.blw hW.tab)).mono ?_
    rintro e w' ⟨rfl, k, os, rfl⟩
    exact ⟨_, rfl, Lib.below_grow _ w (Nat.le_refl _) k os, .p _ _ (.str _)⟩

theorem meets_trim (s p : List UInt8) (H : Hp) : Meets Tryd.prog W pgG 41 [.p (.str s), .p (.str p)] H (.val (.p (.str (Lib.trimPrefix s p)))) H :=
  lib_meets ⟨Tryd.f41, Tryd.func41, by kernel_rfl, by kernel_rfl⟩ fun γ w vs I hv => by
    obtain ⟨v, u, rfl, h1, h2⟩ := repL_two hv
    rw [h1.p_inv.str_inv, h2.p_inv.str_inv]
    refine (Any.strings_TrimPrefix lays101 _ _ w).mono ?_
    rintro e w' ⟨rfl, rfl⟩
    exact ⟨_, rfl, Below.refl _ _, .p _ _ (.str _)⟩

theorem meets_cut (hW : WOk W) (s sep : List UInt8) (H : Hp) (hs : s.length < 4294967281) : Meets Tryd.prog W pgG 21 [.p (.str s), .p (.str sep)] H (.val (cutV s sep)) H :=
  lib_meets ⟨Tryd.f21, Tryd.func21, by kernel_rfl, by kernel_rfl⟩ fun γ w vs I hv => by
    obtain ⟨v, u, rfl, h1, h2⟩ := repL_two hv
    rw [h1.p_inv.str_inv, h2.p_inv.str_inv]
    obtain ⟨m, hm⟩ := hW.max
    refine (Any.strings_Cut lays145 ⟨s.toArray⟩ ⟨sep.toArray⟩ m w (by rw [size_mk]; exact hs) (cell_later I.blw hm)).mono ?_
    rintro e w' ⟨rfl, n, rfl⟩
    refine ⟨_, rfl, below_drewN _ _ _, ?_⟩
    refine .tup _ _ rfl fun i x hx => ?_
    match i with
    | 0 => simp only [List.getElem?_cons_zero, Option.some.injEq] at hx; subst hx; exact .p _ _ (.str _)
    | 1 => simp only [List.getElem?_cons_succ, List.getElem?_cons_zero, Option.some.injEq] at hx; subst hx; exact .p _ _ (.str _)
    | 2 => simp only [List.getElem?_cons_succ, List.getElem?_cons_zero, Option.some.injEq] at hx; subst hx; exact .p _ _ (.bool _)
    | i + 3 => simp at hx

theorem meets_atoi (hW : WOk W) (s : List UInt8) (H : Hp) (hs : s.length ≤ 18) : Meets Tryd.prog W pgG 42 [.p (.str s)] H (.val (atoiV s)) H :=
  lib_meets ⟨Tryd.f42, Tryd.func42, by kernel_rfl, by kernel_rfl⟩ fun γ w vs I hv => by
    obtain ⟨v, rfl, hr⟩ := repL_one hv
    rw [hr.p_inv.str_inv]
    unfold atoiV
    cases ha : Lib.atoi s with
    | some n =>
      refine (Any.strconv_Atoi lays172.toM.ton172 ⟨s.toArray⟩ n (by rw [size_mk]; exact hs) ha w).mono ?_
      rintro e w' ⟨rfl, t, rfl⟩
      exact ⟨_, rfl, below_bytes w _ _, rep_tup2 (.p _ _ (.int _ _)) (.p _ _ .nili)⟩
    | none =>
      obtain ⟨ev, hv1, hv2⟩ := hW.err
      refine (Any.strconv_Atoi_err lays172 ⟨s.toArray⟩ (by rw [size_mk]; exact hs) ha ev w (cell_later I.blw hv1) hv2).mono ?_
      rintro e w' ⟨N, rfl, _, _, B⟩
      exact ⟨_, rfl, B, rep_tup2 (.p _ _ (.int _ _)) (.ifc _ _ _ (.dead _))⟩

/-- The cells of a split, as strings. -/
theorem split_rep {m : Mem} {b : Nat} (l : List ByteArray) (hm : ∀ i, m b i = (l.map Value.string).toArray[i]?) : RepP m (.slice (some ⟨b, 0, none⟩) l.length l.length) (.slice 1 (l.map fun x => PD.str x.data.toList)) := by
  have h := RepP.sl (m := m) b 0 l.length 1 (l.map fun x => PD.str x.data.toList) (fun i _ => (l.map Value.string).getD i undef) (by simp) (fun e he => by
    obtain ⟨x, _, rfl⟩ := List.mem_map.1 he; rfl) (fun e he c hc => by
    obtain ⟨x, _, rfl⟩ := List.mem_map.1 he
    simp only [PD.cells, List.mem_singleton] at hc; subst hc; rfl) (fun i j hi hj => by
    have hi : i < l.length := by simpa using hi
    have hj : j = 0 := by omega
    subst hj
    rw [hm]
    simp [hi]) (fun i e j c he hc => by
    simp only [List.getElem?_map, Option.map_eq_some_iff] at he
    obtain ⟨x, hx, rfl⟩ := he
    match j with
    | 0 =>
      simp only [PD.cells, List.getElem?_cons_zero, Option.some.injEq] at hc
      subst hc
      have : (l.map Value.string).getD i undef = .string x := by simp [List.getD_eq_getElem?_getD, hx]
      rw [this]
      have e : x = ⟨x.data.toList.toArray⟩ := by simp
      have k := RepP.str (m := m) x.data.toList
      rw [← e] at k
      exact k
    | j + 1 => simp [PD.cells] at hc)
  simpa using h

theorem meets_split (hW : WOk W) (s sep : List UInt8) (H : Hp) (hs : s.length < 4294967281) (h1 : 1 ≤ sep.length) : Meets Tryd.prog W pgG 34 [.p (.str s), .p (.str sep)] H (.val (.p (.slice 1 (splitV s sep)))) H := by
  refine ⟨⟨Tryd.f34, Tryd.func34, by kernel_rfl, by kernel_rfl⟩, fun γ w vs I hv => ?_⟩
  obtain ⟨v, u, rfl, r1, r2⟩ := repL_two hv
  rw [r1.p_inv.str_inv, r2.p_inv.str_inv]
  obtain ⟨m, hm⟩ := hW.max
  have hi9 : (Tryd.prog.info? (ren146.t 9)).map (fun i => (i.zero, i.size, i.bytes)) = some (some (.string ByteArray.empty), 1, 16) := by kernel_rfl
  refine (Any.strings_Split lays146 hi9 ⟨s.toArray⟩ ⟨sep.toArray⟩ m w (by rw [size_mk]; exact hs) (cell_later I.blw hm) (by rw [size_mk]; exact h1)).mono ?_
  rintro e w' ⟨rfl, rfl⟩
  have hlen := Lib.splitB_all ⟨sep.toArray⟩ (by rw [size_mk]; exact h1) 0 _ ⟨s.toArray⟩ rfl
  obtain ⟨L, F, J⟩ := I.toInv.newRow ((Lib.splitB ⟨sep.toArray⟩ 0 (Lib.countB ⟨s.toArray⟩ ⟨sep.toArray⟩) ⟨s.toArray⟩).map Value.string).toArray (ren146.t 9) (0, 0) ⟨Nat.zero_le _, Nat.le_refl _⟩
  refine ⟨_, L, F, I.up L F J, _, rfl, .p _ _ ?_⟩
  rw [← hlen]
  exact split_rep _ fun i => by simp [Gh.asPD]

theorem meets_cc (H H' : Hp) (r : Res) (h : pgL 37 [.box 0 0] H = some (r, H')) : Meets Tryd.prog W pgG 37 [.box 0 0] H r H' := by
  refine ⟨⟨Tryd.f37, Tryd.func37, by kernel_rfl, by kernel_rfl⟩, fun γ w vs I hv => ?_⟩
  obtain ⟨v, rfl, hr⟩ := repL_one hv
  cases hr with
  | box _ _ b hb =>
    simp only [pgL] at h
    split at h
    · rename_i q hbx
      cases h
      obtain ⟨us, T, fr, q1, q2, q3, q4⟩ := I.box 0 b _ hb (by rw [hbx]; rfl)
      have q20 := q2.2 0 _ rfl
      generalize hu : us.getD 0 undef = u at q20
      cases q20 with
      | fresh _ _ _ b' hb' ht =>
        rw [hb] at hb'
        cases hb'
        obtain ⟨us', fr', z1, z2, _⟩ := I.tys _ _ _ ht
        rw [q1] at z1
        cases z1
        have hus : 0 < us.size := by omega
        have h0 : us[0]? = some (.pointer none) := by
          rw [Array.getElem?_eq_getElem hus]
          simpa [Array.getD_eq_getD_getElem?, hus] using hu
        have hcl := q4 (by simp)
        refine (cc_fresh b w (by simp only [World.cell?, q1]; simpa using h0) (by simp [World.shape?, q1, z2]) ?_).mono ?_
        · have := hcl 0 (Nat.le_refl _) hus
          simp only [World.frozen?, q1]
          obtain ⟨f1, f2⟩ := fr
          simp only at this ⊢
          cases hd : (decide (f1 ≤ 0) && decide (0 < f2)) with
          | false => rfl
          | true => simp at hd; exact (this ⟨by simp; omega, by simpa using hd.2⟩).elim
        · rintro e w' ⟨rfl, rfl⟩
          have hst := I.toInv.store (off := 0) hb (by rw [hbx]; rfl) (us := [.pointer (some ⟨b, 0, none⟩)]) (ds := [.box 0 0]) (repL1 (.box 0 0 b hb)) (fun d hd => by simp at hd; subst hd; rfl) (by simp) q1 hcl q2
          have hw : w.setCell ⟨b, 0, none⟩ (.pointer (some ⟨b, 0, none⟩)) = w.setRow b (us.toList.take 0 ++ [Value.pointer (some ⟨b, 0, none⟩)] ++ us.toList.drop (0 + [Value.pointer (some ⟨b, 0, none⟩)].length)).toArray := by
            rw [setCell_eq_setRow w b 0 us _ fr _ q1]
            congr 1
            apply Array.ext'
            obtain ⟨l⟩ := us
            match l, hus with
            | x :: l, _ => simp
          have hs : ∀ bx : List (List D), bx = [.fresh 52 2 0 :: q] → bx.set 0 (Vs.splice (.fresh 52 2 0 :: q) 0 [.box 0 0]) = [.box 0 0 :: q] := by
            intro bx hb; subst hb; simp [Vs.splice]
          rw [hs _ hbx] at hst
          obtain ⟨F, J⟩ := hst
          rw [hw]
          exact ⟨γ, .refl γ, F, I.up (.refl γ) F J, _, rfl, .undef⟩
    · rename_i q hbx
      cases h
      obtain ⟨us, T, fr, q1, q2, q3, q4⟩ := I.box 0 b _ hb (by rw [hbx]; rfl)
      have q20 := q2.2 0 _ rfl
      have hus : 0 < us.size := by have := q2.1; simp at this; omega
      generalize hu : us.getD 0 undef = u at q20
      cases q20 with
      | box _ _ b' hb' =>
        rw [hb] at hb'
        cases hb'
        have h0 : us[0]? = some (.pointer (some ⟨b, 0, none⟩)) := by
          rw [Array.getElem?_eq_getElem hus]
          simpa [Array.getD_eq_getD_getElem?, hus] using hu
        refine (cc_used b w (by simp only [World.cell?, q1]; simpa using h0)).mono ?_
        rintro e w' ⟨rfl, rfl⟩
        exact ⟨γ, .refl γ, .refl γ H w', I, _, rfl, .undef⟩
    · cases h

theorem lib_sound (hW : WOk W) : Sound Tryd.prog W pg.G pg.lib := by
  intro f args H r H' h
  have h : pgL f args H = some (r, H') := h
  have h0 := h
  unfold pgL at h
  split at h
  · cases h; exact meets_idx _ _ _
  · split at h
    · rename_i hc; cases h; exact meets_itoa hW _ _ hc.1 hc.2
    · cases h
  · cases h; exact meets_trim _ _ _
  · split at h
    · rename_i hc; cases h; exact meets_atoi hW _ _ hc
    · cases h
  · split at h
    · rename_i hc; cases h; exact meets_split hW _ _ _ hc.1 hc.2
    · cases h
  · split at h
    · rename_i hc; cases h; exact meets_cut hW _ _ _ hc
    · cases h
  · exact meets_cc _ _ _ h0
  · cases h

theorem pg_ok (hW : WOk W) : PgOk Tryd.prog W pg where
  mixed := Checked.mixed Tryd.checked
  lib := lib_sound hW
  fn := fun f fc h => by
    have h : pgF f = some fc := h
    unfold pgF at h
    split at h
    · cases h; exact ok3
    · cases h; exact ok4
    · cases h; exact ok5
    · cases h; exact ok6
    · cases h; exact ok7
    · cases h; exact ok8
    · cases h; exact ok9
    · cases h; exact ok10
    · cases h; exact ok11
    · cases h; exact ok12
    · cases h; exact ok13
    · cases h; exact ok14
    · cases h; exact ok15
    · cases h; exact ok16
    · cases h; exact ok17
    · cases h; exact ok18
    · cases h; exact ok19
    · cases h; exact ok20
    · cases h; exact ok22
    · cases h; exact ok23
    · cases h; exact ok24
    · cases h; exact ok25
    · cases h; exact ok27
    · cases h; exact ok28
    · cases h; exact ok29
    · cases h; exact ok30
    · cases h; exact ok31
    · cases h; exact ok32
    · cases h; exact ok35
    · cases h; exact ok36
    · cases h

end Go.Proofs.YtneleliomipddaaDoor

/-! Decimal notation, in plain lists: a number's text reads as the number. -/
namespace Go.Proofs.YtneleliomipddaaDoor

theorem decFrom_app : ∀ (a b : List UInt8) (acc : Nat), Lib.decFrom acc (a ++ b) = (Lib.decFrom acc a).bind fun m => Lib.decFrom m b
  | [], b, acc => rfl
  | x :: a, b, acc => by
    simp only [List.cons_append, Lib.decFrom]
    cases Lib.digitVal x with
    | none => rfl
    | some d => exact decFrom_app a b _

theorem digit_val {d : Nat} (h : d < 10) : Lib.digitVal (UInt8.ofNat (48 + d)) = some d := by
  have : d = 0 ∨ d = 1 ∨ d = 2 ∨ d = 3 ∨ d = 4 ∨ d = 5 ∨ d = 6 ∨ d = 7 ∨ d = 8 ∨ d = 9 := by omega
  rcases this with rfl | rfl | rfl | rfl | rfl | rfl | rfl | rfl | rfl | rfl <;> decide

def isDig (b : UInt8) : Prop := 48 ≤ b.toNat ∧ b.toNat ≤ 57

theorem digit_is {d : Nat} (h : d < 10) : isDig (UInt8.ofNat (48 + d)) := by
  have : d = 0 ∨ d = 1 ∨ d = 2 ∨ d = 3 ∨ d = 4 ∨ d = 5 ∨ d = 6 ∨ d = 7 ∨ d = 8 ∨ d = 9 := by omega
  unfold isDig
  rcases this with rfl | rfl | rfl | rfl | rfl | rfl | rfl | rfl | rfl | rfl <;> decide

theorem dec_digits (u : Nat) : ∀ n, u ≤ n → Lib.decFrom 0 (Lib.decDigits u) = some u ∧ (∀ b ∈ Lib.decDigits u, isDig b) ∧ Lib.decDigits u ≠ [] := by
  intro n
  induction n generalizing u with
  | zero =>
    intro h
    have : u = 0 := by omega
    subst this
    rw [Lib.decDigits_one (by omega)]
    refine ⟨by decide, fun b hb => ?_, by simp⟩
    simp only [List.mem_singleton] at hb
    subst hb
    exact digit_is (by omega)
  | succ n ih =>
    intro h
    by_cases hu : u < 10
    · rw [Lib.decDigits_one hu]
      refine ⟨?_, fun b hb => ?_, by simp⟩
      · simp only [Lib.decFrom, digit_val hu]; simp
      · simp only [List.mem_singleton] at hb
        subst hb
        exact digit_is hu
    · obtain ⟨h1, h2, h3⟩ := ih (u / 10) (by omega)
      rw [Lib.decDigits, dif_neg hu]
      refine ⟨?_, fun b hb => ?_, by simp⟩
      · rw [decFrom_app, h1]
        simp only [Option.bind_some, Lib.decFrom, digit_val (show u % 10 < 10 by omega)]
        congr 1; omega
      · rcases List.mem_append.1 hb with hb | hb
        · exact h2 b hb
        · simp only [List.mem_singleton] at hb
          subst hb
          exact digit_is (by omega)

theorem decDigits_len : ∀ (k u : Nat), u < 10 ^ (k + 1) → (Lib.decDigits u).length ≤ k + 1 := by
  intro k
  induction k with
  | zero => intro u h; rw [Lib.decDigits_one (by simpa using h)]; simp
  | succ k ih =>
    intro u h
    by_cases hu : u < 10
    · rw [Lib.decDigits_one hu]; simp
    · rw [Lib.decDigits, dif_neg hu]
      have := ih (u / 10) (by rw [Nat.pow_succ] at h; omega)
      simp; omega

theorem decNat_digits (u : Nat) : Lib.decNat (Lib.decDigits u) = some u := by
  obtain ⟨h1, _, h3⟩ := dec_digits u u (Nat.le_refl _)
  unfold Lib.decNat
  rw [if_neg (by simpa using h3)]
  exact h1

theorem dig_ne {b : UInt8} (h : isDig b) : (b == 45) = false ∧ (b == 43) = false ∧ b ≠ 32 ∧ b ≠ 10 := by
  refine ⟨?_, ?_, ?_, ?_⟩
  · rw [beq_eq_false_iff_ne]; rintro rfl; exact absurd h.1 (by decide)
  · rw [beq_eq_false_iff_ne]; rintro rfl; exact absurd h.1 (by decide)
  · rintro rfl; exact absurd h.1 (by decide)
  · rintro rfl; exact absurd h.1 (by decide)

theorem atoi_digits (u : Nat) : Lib.atoi (Lib.decDigits u) = some (u : Int) := by
  obtain ⟨_, h2, h3⟩ := dec_digits u u (Nat.le_refl _)
  have hd := decNat_digits u
  generalize Lib.decDigits u = l at *
  cases l with
  | nil => exact absurd rfl h3
  | cons b r =>
    obtain ⟨e1, e2, _⟩ := dig_ne (h2 b (by simp))
    simp only [Lib.atoi, e1, e2, Bool.false_eq_true, if_false, hd, Option.map_some]

theorem atoi_itoa (n : Int) : Lib.atoi (Lib.itoa n) = some n := by
  unfold Lib.itoa
  split
  · simp only [Lib.atoi, BEq.rfl, if_true, decNat_digits, Option.map_some]
    congr 1; omega
  · rw [atoi_digits]; congr 1; omega

theorem itoa_bytes {n : Int} {b : UInt8} (h : b ∈ Lib.itoa n) : b ≠ 32 ∧ b ≠ 10 := by
  unfold Lib.itoa at h
  split at h
  · rcases List.mem_cons.1 h with rfl | h
    · decide
    · obtain ⟨_, h2, _⟩ := dec_digits n.natAbs _ (Nat.le_refl _)
      exact ⟨(dig_ne (h2 b h)).2.2.1, (dig_ne (h2 b h)).2.2.2⟩
  · obtain ⟨_, h2, _⟩ := dec_digits n.toNat _ (Nat.le_refl _)
    exact ⟨(dig_ne (h2 b h)).2.2.1, (dig_ne (h2 b h)).2.2.2⟩

theorem itoa_ne (n : Int) : Lib.itoa n ≠ [] := by
  unfold Lib.itoa
  split
  · simp
  · exact (dec_digits n.toNat _ (Nat.le_refl _)).2.2

theorem itoa_len {n : Int} (k : Nat) (h : n.natAbs < 10 ^ (k + 1)) : (Lib.itoa n).length ≤ k + 2 ∧ (Lib.trimPrefix (Lib.itoa n) [45]).length ≤ k + 1 := by
  unfold Lib.itoa
  split
  · have := decDigits_len k n.natAbs h
    refine ⟨by simp; omega, ?_⟩
    simp [Lib.trimPrefix, Lib.hasPrefix]; omega
  · have := decDigits_len k n.toNat (by omega)
    refine ⟨by omega, ?_⟩
    unfold Lib.trimPrefix
    split
    · simp; omega
    · exact this

theorem itoa_inj {m n : Int} (h : Lib.itoa m = Lib.itoa n) : m = n := by
  have := atoi_itoa m
  rw [h, atoi_itoa] at this
  exact (Option.some.inj this).symm

end Go.Proofs.YtneleliomipddaaDoor

/-! Texts of proofs, in plain lists: the text of a proof reads as the proof, and only texts of proofs can be read. -/
namespace Go.Proofs.YtneleliomipddaaDoor
open Go.Vs

/-! Words. -/
def jn (ws : List (List UInt8)) : List UInt8 := ws.flatMap fun w => 32 :: w

theorem jn_cons (w : List UInt8) (ws : List (List UInt8)) : jn (w :: ws) = 32 :: (w ++ jn ws) := rfl
theorem jn_app (a b : List (List UInt8)) : jn (a ++ b) = jn a ++ jn b := by simp [jn]

theorem spl_jn : ∀ (ws : List (List UInt8)) (w : List UInt8), 32 ∉ w → (∀ u ∈ ws, 32 ∉ u) → spl 32 (w ++ jn ws) = w :: ws
  | [], w, h, _ => by simp only [jn, List.flatMap_nil, List.append_nil]; exact spl_none h
  | u :: ws, w, h, k => by
    rw [jn_cons, spl_app h, spl_jn ws u (k u (by simp)) fun x hx => k x (by simp [hx])]

theorem spl_inv : ∀ (s w : List UInt8) (ws : List (List UInt8)), spl 32 s = w :: ws → s = w ++ jn ws
  | [], w, ws, h => by simp only [spl, List.cons.injEq] at h; obtain ⟨rfl, rfl⟩ := h; rfl
  | b :: r, w, ws, h => by
    simp only [spl] at h
    split at h
    · rename_i hb
      simp only [List.cons.injEq] at h
      obtain ⟨rfl, h⟩ := h
      cases ws with
      | nil => exact absurd h (spl_ne 32 r)
      | cons u us => rw [jn_cons, ← spl_inv r u us h, hb]; rfl
    · split at h
      · rename_i v vs hv
        simp only [List.cons.injEq] at h
        obtain ⟨rfl, rfl⟩ := h
        rw [spl_inv r v vs hv]; rfl
      · rename_i hv; exact absurd hv (spl_ne 32 r)

theorem cutL_inv (c : UInt8) : ∀ s : List UInt8, (cutL c s).2.2 = true → s = (cutL c s).1 ++ c :: (cutL c s).2.1
  | [], h => by simp [cutL] at h
  | b :: r, h => by
    simp only [cutL] at h ⊢
    split
    · rename_i hb; rw [hb]; rfl
    · rename_i hb
      rw [if_neg hb] at h
      simp only at h
      have := cutL_inv c r h
      simp only [List.cons_append]
      rw [← this]

/-! Numbers. -/
theorem itoa_zero : Lib.itoa 0 = [48] := by
  unfold Lib.itoa
  rw [if_neg (by omega)]
  exact Lib.decDigits_one (by omega)

theorem numV_itoa {n : Int} (h : n.natAbs < 10 ^ 9) : numV (Lib.itoa n) = (n, true) := by
  have := (itoa_len 8 h).2
  unfold numV
  rw [if_neg (by omega), atoi_itoa]
  simp

theorem numV_inv {w : List UInt8} (h : (numV w).2 = true) : w = Lib.itoa (numV w).1 ∧ i64 (numV w).1 := by
  have hl := trim_len w
  unfold numV at h ⊢
  split at h
  · cases h
  · rename_i h9
    rw [if_neg h9]
    cases ha : Lib.atoi w with
    | none => rw [ha] at h; cases h
    | some n =>
      rw [ha] at h
      simp only [beq_iff_eq] at h
      have := Lib.atoi_bound ha (by omega)
      exact ⟨h.symm, by simp only [i64]; omega⟩

theorem nums_of : ∀ (l acc : List Int), (∀ x ∈ l, x ≠ 0 ∧ x.natAbs < 10 ^ 9) → numsV (l.map Lib.itoa ++ [[48]]) acc = some (acc ++ l)
  | [], acc, _ => by
    have h0 : numV [48] = (0, true) := by rw [← itoa_zero]; exact numV_itoa (by decide)
    simp [numsV, h0]
  | x :: l, acc, h => by
    have hx := h x (by simp)
    have h0 := numV_itoa hx.2
    have ih := nums_of l (acc ++ [x]) fun y hy => h y (by simp [hy])
    simp only [List.map_cons, List.cons_append, numsV, h0, if_true]
    rw [if_neg hx.1, ih]
    simp

theorem nums_inv : ∀ (ws : List (List UInt8)) (acc l : List Int), numsV ws acc = some l → ∃ l', l = acc ++ l' ∧ ws = l'.map Lib.itoa ++ [[48]] ∧ ∀ x ∈ l', x ≠ 0 ∧ i64 x
  | [], acc, l, h => by simp [numsV] at h
  | w :: r, acc, l, h => by
    simp only [numsV] at h
    split at h
    · rename_i hw
      obtain ⟨h1, h2⟩ := numV_inv hw
      split at h
      · rename_i h0
        split at h
        · rename_i hr
          simp only [Option.some.injEq] at h
          refine ⟨[], by simp [h], ?_, by simp⟩
          rw [h1, h0, itoa_zero, hr]; rfl
        · cases h
      · rename_i h0
        obtain ⟨l', e1, e2, e3⟩ := nums_inv r _ l h
        refine ⟨(numV w).1 :: l', by rw [e1]; simp, ?_, fun x hx => ?_⟩
        · rw [List.map_cons, ← h1, e2]; rfl
        · rcases List.mem_cons.1 hx with rfl | hx
          · exact ⟨h0, h2⟩
          · exact e3 x hx
    · cases h

/-! Steps. -/
structure CanS (s : Stp) : Prop where
  k0 : 1 ≤ s.k
  k1 : s.k ≤ 4
  y0 : s.k ≠ 4 → s.y = 0
  y1 : s.y.natAbs < 10 ^ 9
  l : ∀ x ∈ s.lits, x ≠ 0 ∧ x.natAbs < 10 ^ 9

def wordsOf (s : Stp) : List (List UInt8) := (if s.k = 4 then [Lib.itoa s.y] else []) ++ (s.lits.map Lib.itoa ++ [[48]])

theorem jn_itoa (l : List Int) : jn (l.map Lib.itoa) = l.flatMap spI := by
  induction l with
  | nil => rfl
  | cons x l ih => rw [List.map_cons, jn_cons, ih]; rfl

theorem encS_words (s : Stp) : encS s = ([letV s.k] ++ jn (wordsOf s)) ++ [10] := by
  unfold encS wordsOf
  rw [jn_app, jn_app, jn_itoa]
  split
  · simp [jn, spI]
  · simp [jn]

theorem words_bytes (s : Stp) : ∀ w ∈ wordsOf s, w ≠ [] ∧ ∀ b ∈ w, b ≠ 32 ∧ b ≠ 10 := by
  have hi : ∀ n : Int, Lib.itoa n ≠ [] ∧ ∀ b ∈ Lib.itoa n, b ≠ 32 ∧ b ≠ 10 := fun n => ⟨itoa_ne n, fun b hb => itoa_bytes hb⟩
  intro w hw
  unfold wordsOf at hw
  rcases List.mem_append.1 hw with h | h
  · split at h
    · simp only [List.mem_singleton] at h; subst h; exact hi _
    · cases h
  · rcases List.mem_append.1 h with h | h
    · obtain ⟨x, _, rfl⟩ := List.mem_map.1 h; exact hi _
    · simp only [List.mem_singleton] at h; subst h; rw [← itoa_zero]; exact hi _

theorem letV_bytes (k : Int) : letV k ≠ 32 ∧ letV k ≠ 10 := by
  unfold letV
  split
  · decide
  · split
    · decide
    · split
      · decide
      · split <;> decide

def norm (s : Stp) : Stp := ⟨s.k, slOf s.lits, s.y⟩

theorem idx_letV {k : Int} (h0 : 1 ≤ k) (h1 : k ≤ 4) : idxI letters (letV k) = k := by
  have : k = 1 ∨ k = 2 ∨ k = 3 ∨ k = 4 := by omega
  rcases this with rfl | rfl | rfl | rfl <;> decide

theorem letters_idx {c : UInt8} (h : 1 ≤ idxI letters c) : 1 ≤ idxI letters c ∧ idxI letters c ≤ 4 ∧ c = letV (idxI letters c) := by
  by_cases h0 : (63 : UInt8) = c
  · subst h0; exact absurd h (by decide)
  by_cases h1 : (108 : UInt8) = c
  · subst h1; decide
  by_cases h2 : (100 : UInt8) = c
  · subst h2; decide
  by_cases h3 : (101 : UInt8) = c
  · subst h3; decide
  by_cases h4 : (115 : UInt8) = c
  · subst h4; decide
  have : idxI letters c = -1 := by simp [idxI, letters, idxOf, h0, h1, h2, h3, h4]
  omega

theorem step_of {s : Stp} (h : CanS s) : stepV ([letV s.k] :: wordsOf s) = some (norm s) := by
  have hi := idx_letV h.k0 h.k1
  have hh : ([letV s.k] ++ [63]).headD 0 = letV s.k := rfl
  simp only [stepV, hh, hi]
  rw [if_pos ⟨rfl, h.k0⟩]
  have hn := nums_of s.lits [] h.l
  split
  · rename_i h4
    have hw : wordsOf s = Lib.itoa s.y :: (s.lits.map Lib.itoa ++ [[48]]) := by unfold wordsOf; rw [if_pos h4]; rfl
    have hy := numV_itoa h.y1
    rw [hw]
    simp only [hy, if_true, hn, List.nil_append, Option.map_some]
    simp [norm, h4]
  · rename_i h4
    have hw : wordsOf s = s.lits.map Lib.itoa ++ [[48]] := by unfold wordsOf; rw [if_neg h4]; rfl
    rw [hw, hn]
    simp [norm, h.y0 h4]

theorem step_inv {ws : List (List UInt8)} {s : Stp} (h : stepV ws = some s) : ws = [letV s.k] :: wordsOf s ∧ plS s = true ∧ i64 s.y ∧ (∀ x ∈ s.lits, i64 x) ∧ s.l ≠ .nil := by
  cases ws with
  | nil => simp [stepV] at h
  | cons w r =>
    simp only [stepV] at h
    split at h
    · rename_i hw
      obtain ⟨hw1, hw2⟩ := hw
      obtain ⟨c, rfl⟩ : ∃ c, w = [c] := by
        match w, hw1 with
        | [c], _ => exact ⟨c, rfl⟩
      have hh : ([c] ++ [63]).headD 0 = c := rfl
      rw [hh] at h hw2
      obtain ⟨i0, i1, i2⟩ := letters_idx hw2
      split at h
      · rename_i h4
        split at h
        · cases h
        · rename_i y r'
          split at h
          · rename_i hy
            obtain ⟨l, hl, rfl⟩ := Option.map_eq_some_iff.1 h
            obtain ⟨l', e1, e2, e3⟩ := nums_inv _ _ _ hl
            obtain ⟨y1, y2⟩ := numV_inv hy
            simp only [List.nil_append] at e1
            subst e1
            refine ⟨?_, ?_, y2, fun x hx => ?_, ?_⟩
            · simp only [wordsOf, Stp.lits, els_slOf, if_true]
              rw [← y1, e2, i2, h4]; rfl
            · simp only [plS, Stp.lits, els_slOf, Bool.and_eq_true, decide_eq_true_eq, List.all_eq_true]
              refine ⟨by omega, fun x hx => ?_⟩
              have := (e3 x hx).1
              simpa using this
            · simp only [Stp.lits, els_slOf] at hx
              exact (e3 x hx).2
            · cases l <;> simp [slOf]
          · cases h
      · rename_i h4
        obtain ⟨l, hl, rfl⟩ := Option.map_eq_some_iff.1 h
        obtain ⟨l', e1, e2, e3⟩ := nums_inv _ _ _ hl
        simp only [List.nil_append] at e1
        subst e1
        refine ⟨?_, ?_, by simp [i64], fun x hx => ?_, ?_⟩
        · simp only [wordsOf, Stp.lits, els_slOf]
          rw [if_neg h4, e2, ← i2]; rfl
        · simp only [plS, Stp.lits, els_slOf, Bool.and_eq_true, decide_eq_true_eq, List.all_eq_true]
          refine ⟨by omega, fun x hx => ?_⟩
          have := (e3 x hx).1
          simpa using this
        · simp only [Stp.lits, els_slOf] at hx
          exact (e3 x hx).2
        · cases l <;> simp [slOf]
    · cases h

/-! Texts. -/
theorem encL_cons (s : Stp) (l : List Stp) : encL (s :: l) = encS s ++ encL l := rfl
theorem encL_app (a b : List Stp) : encL (a ++ b) = encL a ++ encL b := by simp [encL]

theorem line_bytes (s : Stp) : 10 ∉ [letV s.k] ++ jn (wordsOf s) := by
  intro h
  rcases List.mem_append.1 h with h | h
  · simp only [List.mem_singleton] at h
    exact (letV_bytes s.k).2 h.symm
  · obtain ⟨w, hw, h⟩ := List.mem_flatMap.1 h
    rcases List.mem_cons.1 h with h | h
    · exact absurd h (by decide)
    · exact ((words_bytes s w hw).2 _ h).2 rfl

theorem line_words (s : Stp) : spl 32 ([letV s.k] ++ jn (wordsOf s)) = [letV s.k] :: wordsOf s := by
  refine spl_jn _ _ (fun h => ?_) fun u hu h => ((words_bytes s u hu).2 _ h).1 rfl
  simp only [List.mem_singleton] at h
  exact (letV_bytes s.k).1 h.symm

theorem dec_of : ∀ (l : List Stp) (n : Nat), (∀ s ∈ l, CanS s) → l.length < n → decL n (encL l) = some (l.map norm)
  | [], n + 1, _, _ => by simp [decL, encL]
  | s :: l, n + 1, h, hn => by
    have e : encL (s :: l) = ([letV s.k] ++ jn (wordsOf s)) ++ 10 :: encL l := by rw [encL_cons, encS_words]; simp
    have hne : ¬ encL (s :: l) = [] := by rw [e]; simp
    have hc := cutL_app (v := encL l) (line_bytes s)
    simp only [decL]
    rw [if_neg hne, e, hc]
    simp only [if_true]
    rw [line_words, step_of (h s (by simp)), dec_of l n (fun t ht => h t (by simp [ht])) (by simp at hn; omega)]
    rfl

theorem dec_inv : ∀ (n : Nat) (t : List UInt8) (l : List Stp), decL n t = some l → t = encL l ∧ ∀ s ∈ l, plS s = true ∧ i64 s.y ∧ (∀ x ∈ s.lits, i64 x) ∧ s.l ≠ .nil
  | 0, t, l, h => by simp [decL] at h
  | n + 1, t, l, h => by
    simp only [decL] at h
    split at h
    · rename_i ht
      simp only [Option.some.injEq] at h
      subst h
      exact ⟨by rw [ht]; rfl, by simp⟩
    · split at h
      · rename_i hc
        have hcut := cutL_inv 10 t hc
        split at h
        · rename_i x hx
          obtain ⟨l', hl, rfl⟩ := Option.map_eq_some_iff.1 h
          obtain ⟨e1, e2⟩ := dec_inv n _ _ hl
          obtain ⟨s1, s2⟩ := step_inv hx
          refine ⟨?_, fun s hs => ?_⟩
          · conv => lhs; rw [hcut]
            rw [spl_inv _ _ _ s1, e1, encL_cons, encS_words]; simp
          · rcases List.mem_cons.1 hs with rfl | hs
            · exact s2
            · exact e2 s hs
        · cases h
      · cases h

theorem encS_len (s : Stp) : 4 ≤ (encS s).length := by simp [encS]; omega

theorem encL_len (l : List Stp) : l.length ≤ (encL l).length := by
  induction l with
  | nil => simp
  | cons s l ih => have := encS_len s; rw [encL_cons]; simp; omega

theorem dec_enc {l : List Stp} (h : ∀ s ∈ l, CanS s) : dec (encL l) = some (l.map norm) := dec_of l _ h (by have := encL_len l; omega)

theorem eqS_norm (s : Stp) : eqS s (norm s) = true := by simp [eqS, norm, Stp.lits, els_slOf]

theorem eqL_norm : ∀ l : List Stp, eqL l (l.map norm) = true
  | [] => rfl
  | s :: l => by simp only [List.map_cons, eqL, eqS_norm, eqL_norm l, Bool.and_self]

theorem eqS_iff {s t : Stp} : eqS s t = true ↔ s.k = t.k ∧ s.y = t.y ∧ s.lits = t.lits := by simp [eqS, and_assoc]

theorem eqL_refl : ∀ l : List Stp, eqL l l = true
  | [] => rfl
  | s :: l => by simp only [eqL, eqS_iff.2 ⟨rfl, rfl, rfl⟩, eqL_refl l, Bool.and_self]

theorem eqL_symm : ∀ {a b : List Stp}, eqL a b = true → eqL b a = true
  | [], [], _ => rfl
  | s :: a, t :: b, h => by
    simp only [eqL, Bool.and_eq_true] at h ⊢
    obtain ⟨h1, h2, h3⟩ := eqS_iff.1 h.1
    exact ⟨eqS_iff.2 ⟨h1.symm, h2.symm, h3.symm⟩, eqL_symm h.2⟩
  | [], _ :: _, h => by cases h
  | _ :: _, [], h => by cases h

theorem eqL_comm (a b : List Stp) : eqL a b = eqL b a := by
  rw [Bool.eq_iff_iff]; exact ⟨eqL_symm, eqL_symm⟩

theorem eqL_trans : ∀ {a b c : List Stp}, eqL a b = true → eqL b c = true → eqL a c = true
  | [], [], [], _, _ => rfl
  | s :: a, t :: b, u :: c, h, k => by
    simp only [eqL, Bool.and_eq_true] at h k ⊢
    obtain ⟨h1, h2, h3⟩ := eqS_iff.1 h.1
    obtain ⟨k1, k2, k3⟩ := eqS_iff.1 k.1
    exact ⟨eqS_iff.2 ⟨h1.trans k1, h2.trans k2, h3.trans k3⟩, eqL_trans h.2 k.2⟩
  | [], _ :: _, _, h, _ => by cases h
  | _ :: _, [], _, h, _ => by cases h
  | [], [], _ :: _, _, k => by cases k
  | _ :: _, _ :: _, [], _, k => by cases k

theorem encL_eq : ∀ {a b : List Stp}, eqL a b = true → encL a = encL b
  | [], [], _ => rfl
  | s :: a, t :: b, h => by
    simp only [eqL, Bool.and_eq_true] at h
    obtain ⟨h1, h2, h3⟩ := eqS_iff.1 h.1
    rw [encL_cons, encL_cons, encL_eq h.2]
    simp [encS, h1, h2, h3]
  | [], _ :: _, h => by cases h
  | _ :: _, [], h => by cases h

/-- Two proofs are equal exactly if their texts are. -/
theorem eqL_enc {a b : List Stp} (ha : ∀ s ∈ a, CanS s) (hb : ∀ s ∈ b, CanS s) : eqL a b = (encL a == encL b) := by
  rw [Bool.eq_iff_iff, beq_iff_eq]
  refine ⟨encL_eq, fun h => ?_⟩
  have h1 := dec_enc ha
  rw [h, dec_enc hb] at h1
  have h2 := eqL_norm a
  rw [← Option.some.inj h1] at h2
  exact eqL_trans h2 (eqL_symm (eqL_norm b))

/-! Well-formed proofs. -/
theorem litOk_iff {v x : Int} : litOk v x = true ↔ x ≠ 0 ∧ x ≤ v ∧ -v ≤ x := by
  simp only [litOk, Bool.and_eq_true, Bool.not_eq_true', beq_eq_false_iff_ne, decide_eq_false_iff_not]
  omega

theorem validS_can {v v' : Int} {s : Stp} (h : validS v s = some v') (h1 : v ≤ 20000) : CanS s := by
  have hl : ∀ x : Int, litOk v x = true → x ≠ 0 ∧ x.natAbs < 10 ^ 9 := fun x hx => by
    have := litOk_iff.1 hx
    exact ⟨this.1, by omega⟩
  unfold validS at h
  split at h
  · rename_i hk
    split at h
    · rename_i hc
      exact ⟨by omega, by omega, fun _ => hc.1, by rw [hc.1]; decide, fun x hx => hl x (List.all_eq_true.1 hc.2 x hx)⟩
    · cases h
  · split at h
    · rename_i hk
      split at h
      · rename_i hc
        exact ⟨by omega, by omega, fun q => absurd hk q, by omega, fun x hx => hl x (List.all_eq_true.1 hc.2.2 x hx)⟩
      · cases h
    · split at h
      · rename_i hk
        split at h
        · rename_i x y r hlits
          split at h
          · rename_i hc
            refine ⟨by omega, by omega, fun _ => hc.1, by rw [hc.1]; decide, fun z hz => ?_⟩
            rw [hlits] at hz
            rcases List.mem_cons.1 hz with rfl | hz
            · have hy := litOk_iff.1 (List.all_eq_true.1 hc.2.2.2 y (by simp))
              have e := hc.2.1
              have e3 := hc.2.2.1
              refine ⟨?_, ?_⟩ <;> omega
            · exact hl z (List.all_eq_true.1 hc.2.2.2 z hz)
          · cases h
        · cases h
      · cases h

theorem validL_can : ∀ {l : List Stp} {v : Int}, 0 ≤ v → v ≤ 20000 → validL v l = true → ∀ s ∈ l, CanS s
  | [], v, _, _, _, s, hs => by cases hs
  | t :: l, v, h0, h1, h, s, hs => by
    simp only [validL] at h
    split at h
    · rename_i v' hv
      obtain ⟨r0, r1⟩ := validS_range hv h0 h1
      rcases List.mem_cons.1 hs with rfl | hs
      · exact validS_can hv h1
      · exact validL_can r0 r1 h s hs
    · cases h

theorem valid_iff {v : Int} {l : List Stp} : valid v l = true ↔ 0 ≤ v ∧ v ≤ 20000 ∧ l.length ≤ 20000 ∧ validL v l = true := by
  simp [valid, and_assoc]

theorem valid_can {v : Int} {l : List Stp} (h : valid v l = true) : ∀ s ∈ l, CanS s := by
  obtain ⟨h0, h1, _, h3⟩ := valid_iff.1 h
  exact validL_can h0 h1 h3

theorem itoa_len9 {n : Int} (h : n.natAbs < 10 ^ 9) : (spI n).length ≤ 11 := by
  have := (itoa_len 8 h).1
  simp [spI]; omega

theorem lits_len : ∀ {l : List Int}, (∀ x ∈ l, x ≠ 0 ∧ x.natAbs < 10 ^ 9) → (l.flatMap spI).length ≤ 11 * l.length
  | [], _ => by simp
  | x :: l, h => by
    have h1 := itoa_len9 (h x (by simp)).2
    have h2 := lits_len fun y hy => h y (List.mem_cons_of_mem _ hy)
    simp only [List.flatMap_cons, List.length_append, List.length_cons]; omega

theorem encS_len_le {s : Stp} (h : CanS s) (hf : fewS s = true) : (encS s).length ≤ 700 := by
  have h1 := lits_len h.l
  have h2 := itoa_len9 h.y1
  have h3 : s.lits.length ≤ 60 := by simpa [fewS] using hf
  unfold encS
  simp only [List.length_cons, List.length_append, List.length_nil]
  split
  · omega
  · simp only [List.length_nil]; omega

theorem encL_len_le : ∀ {l : List Stp}, (∀ s ∈ l, CanS s) → l.all fewS = true → (encL l).length ≤ 700 * l.length
  | [], _, _ => by simp [encL]
  | s :: l, h, hf => by
    simp only [List.all_cons, Bool.and_eq_true] at hf
    have h1 := encS_len_le (h s (by simp)) hf.1
    have h2 := encL_len_le (fun t ht => h t (List.mem_cons_of_mem _ ht)) hf.2
    rw [encL_cons]
    simp only [List.length_append, List.length_cons]; omega

theorem few_len {n : Int} {l : List Stp} (h : fewL n l = true) : (l.length : Int) ≤ n ∧ l.all fewS = true := by
  simpa [fewL] using h

/-! Corruption. -/
def sep (b : UInt8) : Bool := b == 32 || b == 10

def adj : Bool → List UInt8 → Bool
  | _, [] => true
  | p, b :: r => if sep b then !p && adj true r else adj false r

theorem adj_word : ∀ (w r : List UInt8) (p : Bool), w ≠ [] → (∀ b ∈ w, b ≠ 32 ∧ b ≠ 10) → adj p (w ++ r) = adj false r
  | [], _, _, h, _ => absurd rfl h
  | b :: w, r, p, _, h => by
    obtain ⟨h1, h2⟩ := h b (by simp)
    have hs : sep b = false := by simp [sep, h1, h2]
    simp only [List.cons_append, adj, hs, Bool.false_eq_true, if_false]
    cases w with
    | nil => rfl
    | cons c w => exact adj_word (c :: w) r false (by simp) fun x hx => h x (List.mem_cons_of_mem _ hx)

theorem adj_jn : ∀ (ws : List (List UInt8)) (r : List UInt8), (∀ w ∈ ws, w ≠ [] ∧ ∀ b ∈ w, b ≠ 32 ∧ b ≠ 10) → adj false (jn ws ++ r) = adj false r
  | [], r, _ => rfl
  | w :: ws, r, h => by
    obtain ⟨h1, h2⟩ := h w (by simp)
    have h32 : sep 32 = true := rfl
    rw [jn_cons]
    simp only [List.cons_append, adj, h32, if_true, Bool.not_false, Bool.true_and, List.append_assoc]
    rw [adj_word w _ true h1 h2]
    exact adj_jn ws r fun x hx => h x (List.mem_cons_of_mem _ hx)

theorem adj_enc : ∀ (l : List Stp) (p : Bool), adj p (encL l) = true
  | [], _ => rfl
  | s :: l, p => by
    have h10 : sep 10 = true := rfl
    rw [encL_cons, encS_words, List.append_assoc, List.append_assoc, adj_word _ _ p (by simp) (fun b hb => by simp only [List.mem_singleton] at hb; subst hb; exact letV_bytes s.k),
      adj_jn _ _ (words_bytes s)]
    simp only [List.cons_append, List.nil_append, adj, h10, if_true, Bool.not_false, Bool.true_and]
    exact adj_enc l true

theorem adj_two : ∀ (a r : List UInt8) (c : UInt8) (p : Bool), sep c = true → adj p (a ++ c :: c :: r) = false
  | [], r, c, p, h => by simp [adj, h]
  | b :: a, r, c, p, h => by
    simp only [List.cons_append, adj]
    split
    · rw [adj_two a r c true h]; simp
    · exact adj_two a r c false h

theorem enc_end : ∀ (l : List Stp), l ≠ [] → ∃ u, encL l = u ++ [32, 48, 10]
  | [], h => absurd rfl h
  | [s], _ => ⟨letV s.k :: ((if s.k = 4 then spI s.y else []) ++ s.lits.flatMap spI), by simp [encL, encS]⟩
  | s :: t :: l, _ => by
    obtain ⟨u, hu⟩ := enc_end (t :: l) (by simp)
    exact ⟨encS s ++ u, by rw [encL_cons, hu]; simp⟩

theorem dec_cut {l : List Stp} (h : l ≠ []) : dec ((encL l).take ((encL l).length - 1)) = none := by
  obtain ⟨u, hu⟩ := enc_end l h
  have ht : (encL l).take ((encL l).length - 1) = u ++ [32, 48] := by
    rw [hu]
    have : (u ++ [32, 48, 10] : List UInt8) = (u ++ [32, 48]) ++ [10] := by simp
    rw [this, List.take_left' (by simp)]
  rw [ht]
  cases hd : dec (u ++ [32, 48]) with
  | none => rfl
  | some l' =>
    have e := (dec_inv _ _ _ hd).1
    cases l' with
    | nil => simp [encL] at e
    | cons s l' =>
      obtain ⟨u', hu'⟩ := enc_end (s :: l') (by simp)
      rw [hu'] at e
      have := congrArg List.getLast? e
      simp at this

theorem dec_twice {l : List Stp} {i : Nat} {c : UInt8} (hi : (encL l)[i]? = some c) (hc : sep c = true) : dec ((encL l).take i ++ [c] ++ (encL l).drop i) = none := by
  cases hd : dec ((encL l).take i ++ [c] ++ (encL l).drop i) with
  | none => rfl
  | some l' =>
    have e := (dec_inv _ _ _ hd).1
    have hlt := (List.getElem?_eq_some_iff.1 hi).1
    have hcc := (List.getElem?_eq_some_iff.1 hi).2
    rw [List.drop_eq_getElem_cons hlt, hcc] at e
    have h1 := adj_enc l' true
    rw [← e, List.append_assoc, List.singleton_append, adj_two _ _ _ _ hc] at h1
    cases h1

/-! Prefixes, more variables. -/
theorem validS_defs {v v' : Int} {s : Stp} (h : validS v s = some v') : v' = v + (if s.k == 3 then 1 else 0 : Nat) := by
  unfold validS at h
  split at h
  · rename_i hk
    have : (s.k == 3) = false := by rw [beq_eq_false_iff_ne]; omega
    rw [this]
    split at h <;> cases h; simp
  · split at h
    · rename_i hk
      have : (s.k == 3) = false := by rw [beq_eq_false_iff_ne]; omega
      rw [this]
      split at h <;> cases h; simp
    · split at h
      · rename_i hk
        split at h
        · split at h <;> cases h
          simp [hk]
        · cases h
      · cases h

theorem validL_app : ∀ (a b : List Stp) (v : Int), validL v (a ++ b) = (validL v a && validL (v + defs a) b)
  | [], b, v => by simp [validL, defs]
  | s :: a, b, v => by
    simp only [List.cons_append, validL]
    cases hs : validS v s with
    | none => rfl
    | some v' =>
      have hd := validS_defs hs
      simp only
      rw [validL_app a b v', defs_cons]
      congr 2
      rw [hd]; push_cast; omega

theorem validS_more {v v' : Int} {s : Stp} (h : validS v s = some v') {w : Int} (hw : v ≤ w) (hk : s.k ≠ 3) : validS w s = some w := by
  have hl : s.lits.all (litOk v) = true → s.lits.all (litOk w) = true := fun q => by
    rw [List.all_eq_true] at q ⊢
    intro x hx
    have := litOk_iff.1 (q x hx)
    exact litOk_iff.2 ⟨this.1, by omega, by omega⟩
  unfold validS at h ⊢
  split at h
  · rename_i h12
    rw [if_pos h12]
    split at h
    · rename_i hc; rw [if_pos ⟨hc.1, hl hc.2⟩]
    · cases h
  · rename_i h12
    rw [if_neg h12]
    split at h
    · rename_i h4
      rw [if_pos h4]
      split at h
      · rename_i hc; rw [if_pos ⟨hc.1, hc.2.1, hl hc.2.2⟩]
      · cases h
    · cases h

theorem validL_more : ∀ {l : List Stp} {v w : Int}, validL v l = true → v ≤ w → defs l = 0 → validL w l = true
  | [], _, _, _, _, _ => rfl
  | s :: l, v, w, h, hw, hd => by
    rw [defs_cons] at hd
    have hk : s.k ≠ 3 := by
      intro e
      simp [e] at hd
    simp only [validL] at h ⊢
    split at h
    · rename_i v' hv
      have hv' := validS_defs hv
      have : (s.k == 3) = false := by rw [beq_eq_false_iff_ne]; exact hk
      rw [this] at hv'
      simp at hv'
      subst hv'
      rw [validS_more hv hw hk]
      exact validL_more h hw (by omega)
    · cases h

theorem validS_one {v v' w w' : Int} {s : Stp} (h : validS v s = some v') (h' : validS w s = some w') (hk : s.k = 3) : v = w := by
  unfold validS at h h'
  rw [if_neg (by omega), if_neg (by omega), if_pos hk] at h h'
  cases hl : s.lits with
  | nil => rw [hl] at h; cases h
  | cons x r =>
    cases r with
    | nil => rw [hl] at h; cases h
    | cons y r =>
      rw [hl] at h h'
      simp only at h h'
      split at h
      · rename_i c1
        split at h'
        · rename_i c2
          have := c1.2.1
          have := c2.2.1
          omega
        · cases h'
      · cases h

theorem validL_one : ∀ {l : List Stp} {v w : Int}, validL v l = true → validL w l = true → defs l ≠ 0 → v = w
  | [], _, _, _, _, hd => absurd rfl hd
  | s :: l, v, w, h, h', hd => by
    simp only [validL] at h h'
    split at h
    · rename_i v1 hv
      split at h'
      · rename_i w1 hw
        by_cases hk : s.k = 3
        · exact validS_one hv hw hk
        · have e : (s.k == 3) = false := by rw [beq_eq_false_iff_ne]; exact hk
          have h1 := validS_defs hv
          have h2 := validS_defs hw
          rw [e] at h1 h2
          rw [defs_cons, e] at hd
          have := validL_one h h' (by simpa using hd)
          simp at h1 h2
          omega
      · cases h'
    · cases h

end Go.Proofs.YtneleliomipddaaDoor

/-! The fixed examples: run by the kernel. -/
namespace Go.Proofs.YtneleliomipddaaDoor
open Go.Vs

def isTrue : Option (Res × Hp) → Bool
  | some (.val (.p (.bool true)), _) => true
  | _ => false

theorem isTrue_some {o : Option (Res × Hp)} (h : isTrue o = true) : ∃ H, o = some (.val (.p (.bool true)), H) := by
  unfold isTrue at h
  split at h
  · exact ⟨_, rfl⟩
  · cases h

theorem head_run : isTrue (evF pg 60 10 [] ⟨[], []⟩) = true := by kernel_rfl

theorem head_eq (H : Hp) : callD (call pg) 10 [] H = some (.val (.p (.bool true)), H) := by
  obtain ⟨H', h⟩ := isTrue_some head_run
  exact callD_pure (call_of_evF 60 h) rfl rfl rfl rfl

end Go.Proofs.YtneleliomipddaaDoor

/-! Arguments of the laws; shifted proofs, in plain lists. -/
namespace Go.Proofs.YtneleliomipddaaDoor
open Go.Vs

/-- What an argument is. -/
structure ArgS (s : Stp) : Prop where
  k : i64 s.k
  y : i64 s.y
  l : ∀ x ∈ s.lits, i64 x
  a : s.l ≠ .amb

structure ArgP (o : Sl Stp) : Prop where
  a : o ≠ .amb
  s : ∀ s ∈ els o, ArgS s

theorem ArgP.ok {o : Sl Stp} (h : ArgP o) {n : Int} (hn : n ≤ 1000000) (hf : fewL n (els o) = true) : OkP o := by
  obtain ⟨h1, h2⟩ := few_len hf
  refine ⟨by omega, fun s hs => ?_⟩
  have h3 := List.all_eq_true.1 h2 s hs
  have h4 : s.lits.length ≤ 60 := by simpa [fewS] using h3
  exact ⟨(h.s s hs).k, (h.s s hs).y, by omega, (h.s s hs).l⟩

theorem ArgP.cl {o : Sl Stp} (h : ArgP o) {n : Int} (hf : fewL n (els o) = true) : ∀ s ∈ els o, Cl s := by
  obtain ⟨h1, h2⟩ := few_len hf
  intro s hs
  have h3 := List.all_eq_true.1 h2 s hs
  have h4 : s.lits.length ≤ 60 := by simpa [fewS] using h3
  exact ⟨(h.s s hs).a, by have : (els s.l).length = s.lits.length := rfl; omega⟩

/-! Shifted. -/
theorem map_ne {α β : Type} {f : α → β} {o : Sl α} (h : o ≠ .amb) : o.map f ≠ .amb := by
  cases o with
  | nil => simp [Sl.map]
  | amb => exact absurd rfl h
  | of l => simp [Sl.map]

theorem lits_shS (m : Int) (s : Stp) : (shS m s).lits = s.lits.map (shl m) := els_map _ _

theorem few_shS (m : Int) (s : Stp) : fewS (shS m s) = fewS s := by simp [fewS, lits_shS]

theorem fewL_sh (n m : Int) (l : List Stp) : fewL n (l.map (shS m)) = fewL n l := by
  simp only [fewL, List.length_map, List.all_map]
  congr 2
  funext s
  exact few_shS m s

theorem wrap_i64 (n : Int) : i64 (IntKind.i64.wrap n) := by
  simp [i64, IntKind.wrap, IntKind.bits, IntKind.signed]
  omega

theorem shl_i64 (m : Int) {x : Int} (h : i64 x) : i64 (shl m x) := by
  unfold shl
  split
  · exact wrap_i64 _
  · split
    · exact wrap_i64 _
    · exact h

theorem ArgP.sh {o : Sl Stp} (h : ArgP o) (m : Int) : ArgP (o.map (shS m)) := by
  refine ⟨map_ne h.a, fun s hs => ?_⟩
  rw [els_map] at hs
  obtain ⟨t, ht, rfl⟩ := List.mem_map.1 hs
  have q := h.s t ht
  refine ⟨q.k, q.y, fun x hx => ?_, map_ne q.a⟩
  rw [lits_shS] at hx
  obtain ⟨z, hz, rfl⟩ := List.mem_map.1 hx
  exact shl_i64 m (q.l z hz)

/-- Small numbers. -/
def sm (n : Int) : Prop := -1000000 ≤ n ∧ n ≤ 1000000

theorem shl_pos {m x : Int} (hm : sm m) (h : sm x) (h0 : 0 < x) : shl m x = x + m := by
  unfold sm at hm h
  rw [shl, if_pos h0, wrap64 (by omega) (by omega)]

theorem shl_neg {m x : Int} (hm : sm m) (h : sm x) (h0 : x < 0) : shl m x = x - m := by
  unfold sm at hm h
  rw [shl, if_neg (by omega), if_pos h0, wrap64 (by omega) (by omega)]

theorem validS_sh {v v' m : Int} {s : Stp} (h : validS v s = some v') (hv : v ≤ 20000) (hm : sm m) (h0 : 0 ≤ m) (hk : s.k ≠ 3) : v' = v ∧ validS (v + m) (shS m s) = some (v + m) := by
  have hl : s.lits.all (litOk v) = true → (shS m s).lits.all (litOk (v + m)) = true := fun q => by
    rw [List.all_eq_true] at q ⊢
    intro x hx
    rw [lits_shS] at hx
    obtain ⟨z, hz, rfl⟩ := List.mem_map.1 hx
    obtain ⟨z1, z2, z3⟩ := litOk_iff.1 (q z hz)
    have hz : sm z := by unfold sm; omega
    rcases Int.lt_trichotomy 0 z with z0 | z0 | z0
    · rw [shl_pos hm hz z0]; exact litOk_iff.2 ⟨by omega, by omega, by omega⟩
    · omega
    · rw [shl_neg hm hz z0]; exact litOk_iff.2 ⟨by omega, by omega, by omega⟩
  have ek : (shS m s).k = s.k := rfl
  have ey : (shS m s).y = s.y := rfl
  unfold validS at h ⊢
  rw [ek, ey]
  split at h
  · rename_i h12
    rw [if_pos h12]
    split at h
    · rename_i hc; rw [if_pos ⟨hc.1, hl hc.2⟩]; cases h; exact ⟨rfl, rfl⟩
    · cases h
  · rename_i h12
    rw [if_neg h12]
    split at h
    · rename_i h4
      rw [if_pos h4]
      split at h
      · rename_i hc; rw [if_pos ⟨hc.1, hc.2.1, hl hc.2.2⟩]; cases h; exact ⟨rfl, rfl⟩
      · cases h
    · cases h

theorem validL_sh : ∀ {l : List Stp} {v m : Int}, validL v l = true → v ≤ 20000 → sm m → 0 ≤ m → defs l = 0 → validL (v + m) (l.map (shS m)) = true
  | [], _, _, _, _, _, _, _ => rfl
  | s :: l, v, m, h, hv, hm, h0, hd => by
    rw [defs_cons] at hd
    have hk : s.k ≠ 3 := by
      intro e
      simp [e] at hd
    simp only [validL] at h
    split at h
    · rename_i v' hs
      obtain ⟨rfl, e⟩ := validS_sh hs hv hm h0 hk
      simp only [List.map_cons, validL, e]
      exact validL_sh h hv hm h0 (by omega)
    · cases h

theorem valid_sh {l : List Stp} {v m : Int} (h : valid v l = true) (hm : sm m) (h0 : 0 ≤ m) (hd : defs l = 0) (hle : v + m ≤ 20000) : valid (v + m) (l.map (shS m)) = true := by
  obtain ⟨a, b, c, d⟩ := valid_iff.1 h
  exact valid_iff.2 ⟨by omega, hle, by simpa using c, validL_sh d b hm h0 hd⟩

/-- Literals of a well-formed proof without definitions. -/
theorem validL_lits : ∀ {l : List Stp} {v : Int}, validL v l = true → v ≤ 20000 → defs l = 0 → ∀ s ∈ l, ∀ x ∈ s.lits, x ≠ 0 ∧ -20000 ≤ x ∧ x ≤ 20000
  | [], _, _, _, _, s, hs => by cases hs
  | t :: l, v, h, hv, hd, s, hs => by
    rw [defs_cons] at hd
    have hk : t.k ≠ 3 := by
      intro e
      simp [e] at hd
    simp only [validL] at h
    split at h
    · rename_i v' ht
      rcases List.mem_cons.1 hs with rfl | hs
      · have hl : s.lits.all (litOk v) = true := by
          unfold validS at ht
          split at ht
          · split at ht
            · rename_i hc; exact hc.2
            · cases ht
          · split at ht
            · split at ht
              · rename_i hc; exact hc.2.2
              · cases ht
            · cases ht
        intro x hx
        have := litOk_iff.1 (List.all_eq_true.1 hl x hx)
        omega
      · have e : (t.k == 3) = false := by rw [beq_eq_false_iff_ne]; exact hk
        have := validS_defs ht
        rw [e] at this
        simp at this
        subst this
        exact validL_lits h hv (by omega) s hs
    · cases h

theorem eqL_of {l m : List Stp} (h : l.length = m.length) (k : ∀ i (hi : i < l.length) (hj : i < m.length), eqS l[i] m[i] = true) : eqL l m = true := by
  induction l generalizing m with
  | nil => cases m with
    | nil => rfl
    | cons _ _ => simp at h
  | cons s l ih => cases m with
    | nil => simp at h
    | cons t m =>
      simp only [eqL, Bool.and_eq_true]
      refine ⟨k 0 (by simp) (by simp), ih (by simpa using h) fun i hi hj => ?_⟩
      exact k (i + 1) (by simpa using hi) (by simpa using hj)

theorem eqL_map {f g : Stp → Stp} : ∀ {l : List Stp}, (∀ s ∈ l, eqS (f s) (g s) = true) → eqL (l.map f) (l.map g) = true
  | [], _ => rfl
  | s :: l, h => by
    simp only [List.map_cons, eqL, Bool.and_eq_true]
    exact ⟨h s (by simp), eqL_map fun t ht => h t (List.mem_cons_of_mem _ ht)⟩

theorem map_lits {f g : Int → Int} {l : List Int} (h : ∀ x ∈ l, f x = g x) : l.map f = l.map g := List.map_congr_left h

theorem shl_two {a b x : Int} (ha : sm a) (hb : sm b) (hx : -20000 ≤ x ∧ x ≤ 20000) (h0 : x ≠ 0) (hp : 0 ≤ a) (hab : 0 ≤ a + b) (ha2 : a ≤ 100000) (hb2 : b ≤ 100000) : shl b (shl a x) = shl (a + b) x := by
  have hsx : sm x := by unfold sm; omega
  have hsab : sm (a + b) := by unfold sm; omega
  rcases Int.lt_trichotomy 0 x with z | z | z
  · rw [shl_pos ha hsx z, shl_pos hsab hsx z, shl_pos hb (by unfold sm; omega) (by omega)]; omega
  · omega
  · rw [shl_neg ha hsx z, shl_neg hsab hsx z, shl_neg hb (by unfold sm; omega) (by omega)]; omega

theorem shl_zero {x : Int} (hx : -20000 ≤ x ∧ x ≤ 20000) : shl 0 x = x := by
  have h0 : sm 0 := by unfold sm; omega
  have hsx : sm x := by unfold sm; omega
  rcases Int.lt_trichotomy 0 x with z | z | z
  · rw [shl_pos h0 hsx z]; omega
  · subst z; simp [shl]
  · rw [shl_neg h0 hsx z]; omega

section
variable {l : List Stp} {v : Int} (h : valid v l = true) (hd : defs l = 0)
include h hd

theorem sh_zero_eq : eqL (l.map (shS 0)) l = true := by
  obtain ⟨_, h1, _, h3⟩ := valid_iff.1 h
  have := eqL_map (f := shS 0) (g := id) (l := l) fun s hs => eqS_iff.2 ⟨rfl, rfl, by
    rw [lits_shS]
    have := map_lits (f := shl 0) (g := id) (l := s.lits) fun x hx => shl_zero (validL_lits h3 h1 hd s hs x hx).2
    rw [this, List.map_id]; rfl⟩
  simpa using this

theorem sh_two_eq {a b : Int} (ha : sm a) (hb : sm b) (hp : 0 ≤ a) (hab : 0 ≤ a + b) (ha2 : a ≤ 100000) (hb2 : b ≤ 100000) : eqL ((l.map (shS a)).map (shS b)) (l.map (shS (a + b))) = true := by
  obtain ⟨_, h1, _, h3⟩ := valid_iff.1 h
  rw [List.map_map]
  exact eqL_map fun s hs => eqS_iff.2 ⟨rfl, rfl, by
    simp only [Function.comp]
    rw [lits_shS, lits_shS, lits_shS, List.map_map]
    exact map_lits fun x hx => shl_two ha hb (validL_lits h3 h1 hd s hs x hx).2 (validL_lits h3 h1 hd s hs x hx).1 hp hab ha2 hb2⟩

theorem sh_back_eq {a : Int} (ha : sm a) (hp : 0 ≤ a) (ha2 : a ≤ 100000) : eqL ((l.map (shS a)).map (shS (-a))) l = true := by
  have := sh_two_eq h hd ha (b := -a) (by unfold sm at *; omega) hp (by omega) ha2 (by omega)
  rw [show a + -a = 0 by omega] at this
  exact eqL_trans this (sh_zero_eq h hd)
end

end Go.Proofs.YtneleliomipddaaDoor

/-! What the library's contracts ask of the world at the start: from the listed variables and the world's shape. The arguments, as the evaluator's. -/
namespace Go.Proofs.YtneleliomipddaaDoor
open Go.Vs Go.ChangeShapes Go.WideShapes Go.ChangeAt Go.WideMaps Go.WideElems Go.RowKit

abbrev laidL : List (String × DataW Unit) := [("math/bits.deBruijn32tab", Rows.laid_math_bits_deBruijn32tab), ("math/bits.deBruijn64tab", Rows.laid_math_bits_deBruijn64tab), ("internal/strconv.uint64pow10", Rows.laid_internal_strconv_uint64pow10), ("unicode/utf8.acceptRanges", Rows.laid_unicode_utf8_acceptRanges), ("strconv.ErrRange", Rows.laid_strconv_ErrRange), ("strconv.ErrSyntax", Rows.laid_strconv_ErrSyntax), ("unicode/utf8.first", Rows.laid_unicode_utf8_first)]

theorem own : ownKnob Tryd.prog.godebug = none := by kernel_rfl
theorem laidOut : laidOutB Tryd.prog = true := by kernel_rfl
theorem gTab : Tryd.prog.globalNamed "internal/strconv.uint64pow10" = some 1 := by kernel_rfl
theorem tTab : (Tryd.prog.globals[1]?).map (·.type) = some 105 := by kernel_rfl
theorem gErr : Tryd.prog.globalNamed "strconv.ErrSyntax" = some 2 := by kernel_rfl
theorem tErr : (Tryd.prog.globals[2]?).map (·.type) = some 54 := by kernel_rfl

theorem door_met (os : Os) (args : Array Value) : laidMetH Tryd.prog laidL ((World.laidAll Tryd.prog os laidL).forCall (fun _ _ => 0) ⟨#[], args, []⟩).memory := by
  rw [MakeChecks.laidMetH_plain _ _ _ (by kernel_rfl)]
  exact laidMet_laidAll _ (by kernel_rfl) (by kernel_rfl)

theorem trod_iface {H : Type} {enc : TypeId × Value → H} {P : Program} {w : World} {base : Nat} {sp : Nat → Bool} {held : Bool} {fuel : Nat} {t : TypeId} {ms} {cs : List Value} {x : DataW H × List MemPlace}
    (ht : P.underlying t = some (.interface ms)) (h : DataW.trod enc P w base sp held fuel t cs = some x) : cs = [.nilIface] ∨ ∃ u v, cs = [.iface u v] := by
  cases fuel with
  | zero => simp [DataW.trod] at h
  | succ fuel =>
    unfold DataW.trod at h
    rw [ht] at h
    split at h <;> first | (rename_i e; cases e; done) | skip
    all_goals first | exact .inl rfl | exact .inr ⟨_, _, rfl⟩ | (cases h; done) | skip
    all_goals simp_all

set_option maxRecDepth 20000 in
theorem wok {W : World} (h : laidMetH Tryd.prog laidL W) (hs : W.ShapedOpen Tryd.prog) : WOk W := by
  rw [MakeChecks.laidMetH_plain _ _ _ (by kernel_rfl)] at h
  obtain ⟨ps, ⟨g0, t0, cs0, f0, p0, q0, _, _, _, _, ⟨g1, t1, cs1, f1, p1, q1, _, _, _, _, ⟨g2, t2, cs2, f2, p2, q2, hg2, ht2, hv2, hd2, ⟨g3, t3, cs3, f3, p3, q3, _, _, _, _, ⟨g4, t4, cs4, f4, p4, q4, _, _, _, _, ⟨g5, t5, cs5, f5, p5, q5, hg5, ht5, hv5, hd5, _⟩, _⟩, _⟩, _⟩, _⟩, _⟩, _⟩ := h
  obtain rfl := Option.some.inj (gTab.symm.trans hg2)
  obtain rfl := Option.some.inj (tTab.symm.trans ht2)
  obtain rfl := Option.some.inj (gErr.symm.trans hg5)
  obtain rfl := Option.some.inj (tErr.symm.trans ht5)
  refine ⟨?_, ?_, ?_⟩
  · exact Go.Proofs.cell_of_shapedOpen_int (zero := #[.int .i64 0]) hs (of_decide_eq_true (by kernel_rfl)) (by kernel_rfl) (by kernel_rfl) (by kernel_rfl) (by kernel_rfl) Tryd.underlying3
  · unfold Lib.TabIs
    rw [hv2]
    have h5 := Tryd.underlying105
    have h6 := Tryd.underlying86
    have e5 : (Rows.laid_internal_strconv_uint64pow10 : DataW Unit) = Lib.tabData .u64 Lib.pow10Tab := by kernel_rfl
    rw [e5] at hd2
    have := Lib.cells_of_tab (zs := Lib.pow10Tab) h5 h6 (by kernel_rfl) (by kernel_rfl) hd2
    rw [← this]
  · have h5 := Tryd.underlying54
    have hc := World.var?_cell hg5 hv5 0
    have e : ren172.g 15 = 2 := by kernel_rfl
    rw [e]
    rcases trod_iface h5 hd5 with h | ⟨u, v, h⟩
    · have : cs5 = #[.nilIface] := by rw [← Array.toList_inj]; exact h
      subst this
      exact ⟨_, hc, .inl rfl⟩
    · have : cs5 = #[.iface u v] := by rw [← Array.toList_inj]; exact h
      subst this
      exact ⟨_, hc, .inr ⟨u, v, rfl⟩⟩

end Go.Proofs.YtneleliomipddaaDoor

/-! Readings of arguments, by their type. -/
namespace Go.Vs
variable {P : Program} {t e : TypeId} {xs : List PD}

theorem typ_slice (ht : P.underlying t = some (.slice e)) (h : TyP P t xs) : xs = [.nils] ∨ xs = [.emp (P.cellsOf e)] ∨
    ∃ es, es ≠ [] ∧ es.length ≤ maxLen ∧ xs = [.slice (P.cellsOf e) es] ∧ (∀ x ∈ es, TyP P e x.cells) ∧ ∀ x ∈ es, x = mkE P e x.cells := by
  cases h with
  | bool _ b hb => rw [ht] at hb; cases hb
  | int _ k n hb => rw [ht] at hb; cases hb
  | str _ s hb => rw [ht] at hb; cases hb
  | nils _ e' hb => exact .inl rfl
  | emp _ e' hb => rw [ht] at hb; cases hb; exact .inr (.inl rfl)
  | sl _ e' es hne hb hl h hs hm => rw [ht] at hb; cases hb; exact .inr (.inr ⟨es, hne, hl, rfl, h, hm⟩)
  | struct _ fs parts hb => rw [ht] at hb; cases hb

theorem typ_int {k : IntKind} (ht : P.underlying t = some (.int k)) (h : TyP P t xs) : ∃ n, xs = [.int k n] ∧ (Lit.int k n).wf = true := by
  cases h with
  | bool _ b hb => rw [ht] at hb; cases hb
  | int _ k n hb hw => rw [ht] at hb; cases hb; exact ⟨n, rfl, hw⟩
  | str _ s hb => rw [ht] at hb; cases hb
  | nils _ e' hb => rw [ht] at hb; cases hb
  | emp _ e' hb => rw [ht] at hb; cases hb
  | sl _ e' es hne hb hl h hs hm => rw [ht] at hb; cases hb
  | struct _ fs parts hb => rw [ht] at hb; cases hb

theorem typ_bool (ht : P.underlying t = some .bool) (h : TyP P t xs) : ∃ b, xs = [.bool b] := by
  cases h with
  | bool _ b hb => exact ⟨b, rfl⟩
  | int _ k n hb hw => rw [ht] at hb; cases hb
  | str _ s hb => rw [ht] at hb; cases hb
  | nils _ e' hb => rw [ht] at hb; cases hb
  | emp _ e' hb => rw [ht] at hb; cases hb
  | sl _ e' es hne hb hl h hs hm => rw [ht] at hb; cases hb
  | struct _ fs parts hb => rw [ht] at hb; cases hb

theorem typ_str (ht : P.underlying t = some .string) (h : TyP P t xs) : ∃ s, xs = [.str s] ∧ s.length ≤ maxLen := by
  cases h with
  | bool _ b hb => rw [ht] at hb; cases hb
  | int _ k n hb hw => rw [ht] at hb; cases hb
  | str _ s hb hs => exact ⟨s, rfl, hs⟩
  | nils _ e' hb => rw [ht] at hb; cases hb
  | emp _ e' hb => rw [ht] at hb; cases hb
  | sl _ e' es hne hb hl h hs hm => rw [ht] at hb; cases hb
  | struct _ fs parts hb => rw [ht] at hb; cases hb

theorem typ_struct {fs : Array Field} (ht : P.underlying t = some (.struct fs)) (h : TyP P t xs) : ∃ parts : List (List PD), xs = parts.flatten ∧ parts.length = fs.size ∧
    ∀ (i : Nat) f p, fs[i]? = some f → parts[i]? = some p → TyP P f.type p := by
  cases h with
  | bool _ b hb => rw [ht] at hb; cases hb
  | int _ k n hb hw => rw [ht] at hb; cases hb
  | str _ s hb hs => rw [ht] at hb; cases hb
  | nils _ e' hb => rw [ht] at hb; cases hb
  | emp _ e' hb => rw [ht] at hb; cases hb
  | sl _ e' es hne hb hl h hs hm => rw [ht] at hb; cases hb
  | struct _ fs' parts hb hl h hs => rw [ht] at hb; cases hb; exact ⟨parts, rfl, hl, h⟩

theorem mkE_one {c : PD} (hn : ∀ fs, P.underlying e ≠ some (.struct fs)) : mkE P e [c] = c := by
  unfold mkE
  cases he : P.underlying e with
  | none => rfl
  | some d => cases d <;> first | exact absurd he (hn _) | rfl

theorem mkE_struct {fs : Array Field} (h : P.underlying e = some (.struct fs)) : mkE P e xs = .agg xs := by
  unfold mkE; rw [h]

theorem i64_wf {n : Int} (h : (Lit.int .i64 n).wf = true) : -9223372036854775808 ≤ n ∧ n ≤ 9223372036854775807 := by
  simp [Lit.wf, IntKind.min, IntKind.max, IntKind.signed, IntKind.bits] at h
  omega

end Go.Vs

/-! Proofs as arguments: what the cells of a []api.Step read as. -/
namespace Go.Proofs.YtneleliomipddaaDoor
open Go.Vs Go.ChangeShapes Go.WideShapes Go.RowKit

theorem arg_ints {xs : List PD} (h : TyP Tryd.prog 41 xs) : ∃ o : Sl Int, xs = [intsP o] ∧ o ≠ .amb ∧ ∀ n ∈ els o, i64 n := by
  have hc : Tryd.prog.cellsOf 3 = 1 := by kernel_rfl
  rcases typ_slice Tryd.underlying41 h with rfl | rfl | ⟨es, hne, hl, rfl, h1, h2⟩
  · exact ⟨.nil, rfl, by simp, by simp [els]⟩
  · rw [hc]; exact ⟨.of [], rfl, by simp, by simp [els]⟩
  · rw [hc]
    have hx : ∀ x ∈ es, ∃ n, x = PD.int .i64 n ∧ i64 n := by
      intro x hx
      obtain ⟨n, e1, e2⟩ := typ_int Tryd.underlying3 (h1 x hx)
      have := h2 x hx
      rw [e1, mkE_one (fun fs e => by rw [Tryd.underlying3] at e; cases e)] at this
      exact ⟨n, this, i64_wf e2⟩
    have : ∃ zs : List Int, es = zs.map (PD.int .i64) ∧ ∀ n ∈ zs, i64 n := by
      clear h1 h2 hne hl h
      induction es with
      | nil => exact ⟨[], rfl, by simp⟩
      | cons x es ih =>
        obtain ⟨n, rfl, hn⟩ := hx x (by simp)
        obtain ⟨zs, rfl, hz⟩ := ih fun y hy => hx y (by simp [hy])
        exact ⟨n :: zs, rfl, fun m hm => by rcases List.mem_cons.1 hm with rfl | hm; exact hn; exact hz m hm⟩
    obtain ⟨zs, rfl, hz⟩ := this
    refine ⟨.of zs, ?_, by simp, hz⟩
    cases zs with
    | nil => exact absurd rfl hne
    | cons z zs => rfl

theorem arg_step {xs : List PD} (h : TyP Tryd.prog 43 xs) : ∃ s : Stp, xs = s.cells ∧ ArgS s := by
  obtain ⟨parts, rfl, hl, hf⟩ := typ_struct Tryd.underlying43 h
  match parts, hl with
  | [a, b, c], _ =>
    obtain ⟨k, rfl, hk⟩ := typ_int Tryd.underlying3 (hf 0 _ a rfl rfl)
    obtain ⟨o, rfl, ho, hl⟩ := arg_ints (hf 1 _ b rfl rfl)
    obtain ⟨y, rfl, hy⟩ := typ_int Tryd.underlying3 (hf 2 _ c rfl rfl)
    exact ⟨⟨k, o, y⟩, rfl, i64_wf hk, i64_wf hy, hl, ho⟩

theorem arg_steps {xs : List PD} (h : TyP Tryd.prog 23 xs) : ∃ o : Sl Stp, xs = [stpsP o] ∧ ArgP o := by
  have hc : Tryd.prog.cellsOf 43 = 3 := by kernel_rfl
  rcases typ_slice Tryd.underlying23 h with rfl | rfl | ⟨es, hne, hl, rfl, h1, h2⟩
  · exact ⟨.nil, rfl, by simp, by simp [els]⟩
  · rw [hc]; exact ⟨.of [], rfl, by simp, by simp [els]⟩
  · rw [hc]
    have hx : ∀ x ∈ es, ∃ s : Stp, x = s.pd ∧ ArgS s := by
      intro x hx
      obtain ⟨s, e1, e2⟩ := arg_step (h1 x hx)
      have := h2 x hx
      rw [e1, mkE_struct Tryd.underlying43] at this
      exact ⟨s, this, e2⟩
    have : ∃ zs : List Stp, es = zs.map Stp.pd ∧ ∀ s ∈ zs, ArgS s := by
      clear h1 h2 hne hl h
      induction es with
      | nil => exact ⟨[], rfl, by simp⟩
      | cons x es ih =>
        obtain ⟨n, rfl, hn⟩ := hx x (by simp)
        obtain ⟨zs, rfl, hz⟩ := ih fun y hy => hx y (by simp [hy])
        exact ⟨n :: zs, rfl, fun m hm => by rcases List.mem_cons.1 hm with rfl | hm; exact hn; exact hz m hm⟩
    obtain ⟨zs, rfl, hz⟩ := this
    refine ⟨.of zs, ?_, by simp, hz⟩
    cases zs with
    | nil => exact absurd rfl hne
    | cons z zs => rfl

abbrev argTs : List TypeId := [23, 43, 41, 3]

theorem argTs_ok : argTs.all (tyOk Tryd.prog argTs) = true := by kernel_rfl

set_option maxRecDepth 20000 in
theorem rep_steps {H : Type} {enc : TypeId × Value → H} {W : World} {r : Reach} {b0 : Nat} {v : Value} {d : DataW H} {ps : List MemPlace}
    (hval : Value.okWide Tryd.prog W r b0 23 v) (hd : DataW.Trod enc Tryd.prog W 0 (fun _ => true) true 23 v d ps) :
    ∃ o : Sl Stp, RepD (gh0 W) v (.p (stpsP o)) ∧ ArgP o := by
  obtain ⟨x, h1, h2, _, hone⟩ := rep_any argTs_ok (.head _) hval hd
  obtain ⟨o, e1, e2⟩ := arg_steps h2
  have h3 := hone fun fs h => by rw [Tryd.underlying23] at h; cases h
  have hx : x = stpsP o := by
    cases x <;> first | (simp only [PD.cells, List.cons.injEq, and_true] at e1; exact e1) | (cases h3)
  exact ⟨o, hx ▸ h1, e2⟩

theorem u16_range {n : Int} (h : (Lit.int .u16 n).wf = true) : 0 ≤ n ∧ n ≤ 65535 := by
  simp [Lit.wf, IntKind.min, IntKind.max, IntKind.bits, IntKind.signed] at h
  omega

theorem u8_range' {n : Int} (h : (Lit.int .u8 n).wf = true) : 0 ≤ n ∧ n ≤ 255 := by
  simp [Lit.wf, IntKind.min, IntKind.max, IntKind.bits, IntKind.signed] at h
  omega

end Go.Proofs.YtneleliomipddaaDoor

/-! The walks of the laws on texts: round trip, only texts, prefixes. -/
namespace Go.Proofs.YtneleliomipddaaDoor
open Go.Vs

theorem dec_call {l : List Stp} (hc : ∀ s ∈ l, CanS s) (hl : (encL l).length ≤ 2000000) (H : Hp) : callD (call pg) 13 [.p (.str (encL l))] H = some (.val (.tup [.p (stpsP (slS (l.map norm))), .p (.int .i64 0)]), H) := by
  have h := decode_eq (encL l) hl H
  rw [dec_enc hc] at h
  exact h

theorem law3 {o : Sl Stp} (ho : ArgP o) (vars : Int) (hv : 0 ≤ vars ∧ vars ≤ 65535) : ∃ H, call pg 3 [.p (.int .u16 vars), .p (stpsP o)] ⟨[], []⟩ = some (.val (.p (.bool true)), H) := by
  refine ⟨⟨[], []⟩, call_body (fc := fc3) rfl rfl rfl rfl ?_⟩
  have hh := head_eq
  have hw : IntKind.i64.wrap vars = vars := wrap64 (by omega) (by omega)
  have hfew := few_eq o 200 (by omega)
  cases hf : fewL 200 (els o) with
  | false =>
    rw [hf] at hfew
    simp [fc3, evKC, evK, evGuard, put, Env.get, Env.keep, entry, Opd.ev, unD, finish, evRes, evRes1, hh, hfew]
  | true =>
    rw [hf] at hfew
    have hok := ho.ok (by omega) hf
    have hval := valid_eq vars o hok
    obtain ⟨f1, f2⟩ := few_len hf
    cases hva : valid vars (els o) with
    | false =>
      rw [hva] at hval
      simp [fc3, evKC, evK, evGuard, put, Env.get, Env.keep, entry, Opd.ev, D.asInt?, unD, finish, evRes, evRes1, hh, hfew, hw, hval]
    | true =>
      rw [hva] at hval
      have hc := valid_can hva
      have hlen := encL_len_le hc f2
      have henc := encode_eq o hok (by omega)
      have hdec := dec_call hc (by omega)
      have hr := requal_eq o (slS ((els o).map norm)) hok
      have he := equal_eq o (slS ((els o).map norm)) hok
      rw [els_slS, eqL_norm] at hr he
      simp [fc3, evKC, evK, evGuard, put, Env.get, Env.keep, entry, Opd.ev, D.asInt?, binD, unD, finish, evRes, evRes1, hh, hfew, hw, hval, henc, hdec, hr, he]

theorem law4 (s : List UInt8) : ∃ H, call pg 4 [.p (.str s)] ⟨[], []⟩ = some (.val (.p (.bool true)), H) := by
  refine ⟨⟨[], []⟩, call_body (fc := fc4) rfl rfl rfl rfl ?_⟩
  have hh := head_eq
  by_cases hl : 4000 < s.length
  · have hl' : (4000 : Int) < (s.length : Int) := by omega
    simp [fc4, evKC, evK, put, Env.get, Env.keep, entry, Opd.ev, binD, finish, evRes, evRes1, lenD_str, hh, hl']
  · have hl' : ¬ (4000 : Int) < (s.length : Int) := by omega
    have hdec := decode_eq s (by omega)
    cases hd : dec s with
    | none =>
      rw [hd] at hdec
      simp only at hdec
      have hn : lenD 1 (.p .nils) = some 0 := rfl
      simp [fc4, evKC, evK, evGuard, put, Env.get, Env.keep, entry, Opd.ev, binD, finish, evRes, evRes1, lenD_str, hh, hl', hdec, hn]
    | some l =>
      rw [hd] at hdec
      simp only at hdec
      obtain ⟨e1, e2⟩ := dec_inv _ _ _ hd
      have hn := encL_len l
      have hne : ∀ s ∈ l, s.lits.length ≤ (encL l).length := by
        intro t ht
        have h1 : (encS t).length ≤ (encL l).length := by
          obtain ⟨a, b, rfl⟩ := List.append_of_mem ht
          rw [encL_app, encL_cons]; simp; omega
        have h2 : ∀ l : List Int, l.length ≤ (l.flatMap spI).length := by
          intro l
          induction l with
          | nil => simp
          | cons x l ih => rw [List.flatMap_cons, List.length_append, List.length_cons]; have : (spI x).length = (Lib.itoa x).length + 1 := rfl; omega
        have := h2 t.lits
        simp only [encS, List.length_cons, List.length_append] at h1
        omega
      rw [← e1] at hn hne
      have hok : OkP (slS l) := ⟨by rw [els_slS]; omega, by
        rw [els_slS]
        intro t ht
        obtain ⟨p1, p2, p3, _⟩ := e2 t ht
        simp only [plS, Bool.and_eq_true, decide_eq_true_eq] at p1
        exact ⟨by simp only [i64]; omega, p2, by have := hne t ht; omega, p3⟩⟩
      have hpl := plain_eq (slS l) hok
      have henc := encode_eq (slS l) hok (by rw [els_slS, ← e1]; omega)
      have hall : l.all plS = true := List.all_eq_true.2 fun t ht => (e2 t ht).1
      rw [els_slS, hall] at hpl
      rw [els_slS, ← e1] at henc
      simp [fc4, evKC, evK, evGuard, put, Env.get, Env.keep, entry, Opd.ev, binD, strBin, finish, evRes, evRes1, lenD_str, hh, hl', hdec, hpl, henc]

theorem law9 {o q : Sl Stp} (ho : ArgP o) (hq : ArgP q) (vars : Int) (hv : 0 ≤ vars ∧ vars ≤ 65535) : ∃ H, call pg 9 [.p (.int .u16 vars), .p (stpsP o), .p (stpsP q)] ⟨[], []⟩ = some (.val (.p (.bool true)), H) := by
  refine ⟨⟨[], []⟩, call_body (fc := fc9) rfl rfl rfl rfl ?_⟩
  have hh := head_eq
  have hw : IntKind.i64.wrap vars = vars := wrap64 (by omega) (by omega)
  have hfew := few_eq o 100 (by omega)
  have hfewq := few_eq q 100 (by omega)
  cases hf : fewL 100 (els o) with
  | false =>
    rw [hf] at hfew
    simp [fc9, evKC, evK, evGuard, put, Env.get, Env.keep, entry, Opd.ev, unD, finish, evRes, evRes1, hh, hfew]
  | true =>
    rw [hf] at hfew
    have hok := ho.ok (by omega) hf
    cases hfq : fewL 100 (els q) with
    | false =>
      rw [hfq] at hfewq
      simp [fc9, evKC, evK, evGuard, put, Env.get, Env.keep, entry, Opd.ev, unD, finish, evRes, evRes1, hh, hfew, hfewq]
    | true =>
      rw [hfq] at hfewq
      have hokq := hq.ok (by omega) hfq
      have e1 := equal_eq o q hok
      have e2 := equal_eq o o hok
      have e3 := equal_eq q o hokq
      rw [eqL_refl] at e2
      rw [eqL_comm] at e3
      have hval := valid_eq vars o hok
      have hvalq := valid_eq vars q hokq
      obtain ⟨f1, f2⟩ := few_len hf
      obtain ⟨g1, g2⟩ := few_len hfq
      cases hva : valid vars (els o) with
      | false =>
        rw [hva] at hval
        simp [fc9, evKC, evK, evGuard, put, Env.get, Env.keep, entry, Opd.ev, D.asInt?, unD, finish, evRes, evRes1, eqD, hh, hfew, hfewq, e1, e2, e3, hw, hval]
      | true =>
        rw [hva] at hval
        cases hvb : valid vars (els q) with
        | false =>
          rw [hvb] at hvalq
          simp [fc9, evKC, evK, evGuard, put, Env.get, Env.keep, entry, Opd.ev, D.asInt?, unD, finish, evRes, evRes1, eqD, hh, hfew, hfewq, e1, e2, e3, hw, hval, hvalq]
        | true =>
          rw [hvb] at hvalq
          have hc := valid_can hva
          have hcq := valid_can hvb
          have hlen := encL_len_le hc f2
          have hlenq := encL_len_le hcq g2
          have henc := encode_eq o hok (by omega)
          have hencq := encode_eq q hokq (by omega)
          have hx := eqL_enc hc hcq
          simp [fc9, evKC, evK, evGuard, put, Env.get, Env.keep, entry, Opd.ev, D.asInt?, binD, strBin, unD, finish, evRes, evRes1, eqD, hh, hfew, hfewq, e1, e2, e3, hw, hval, hvalq, henc, hencq, hx]

theorem law7 {o : Sl Stp} (ho : ArgP o) (vars more : Int) (hv : 0 ≤ vars ∧ vars ≤ 65535) (hm : 0 ≤ more ∧ more ≤ 65535) : ∃ H, call pg 7 [.p (.int .u16 vars), .p (stpsP o), .p (.int .u16 more)] ⟨[], []⟩ = some (.val (.p (.bool true)), H) := by
  refine ⟨⟨[], []⟩, call_body (fc := fc7) rfl rfl rfl rfl ?_⟩
  have hh := head_eq
  have hw : IntKind.i64.wrap vars = vars := wrap64 (by omega) (by omega)
  have hwm : IntKind.i64.wrap more = more := wrap64 (by omega) (by omega)
  have hws : IntKind.i64.wrap (vars + more) = vars + more := wrap64 (by omega) (by omega)
  have hfew := few_eq o 200 (by omega)
  cases hf : fewL 200 (els o) with
  | false =>
    rw [hf] at hfew
    simp [fc7, evKC, evK, evGuard, put, Env.get, Env.keep, entry, Opd.ev, unD, finish, evRes, evRes1, hh, hfew]
  | true =>
    rw [hf] at hfew
    have hok := ho.ok (by omega) hf
    have hval := valid_eq vars o hok
    have hval2 := valid_eq (vars + more) o hok
    have hdef := defs_eq o hok
    cases hva : valid vars (els o) with
    | false =>
      rw [hva] at hval
      simp [fc7, evKC, evK, evGuard, put, Env.get, Env.keep, entry, Opd.ev, D.asInt?, unD, finish, evRes, evRes1, hh, hfew, hw, hval]
    | true =>
      rw [hva] at hval
      by_cases hs : 20000 < vars + more
      · simp [fc7, evKC, evK, evGuard, put, Env.get, Env.keep, entry, Opd.ev, D.asInt?, binD, unD, finish, evRes, evRes1, hh, hfew, hw, hwm, hws, hval, hs]
      · obtain ⟨v0, v1, v2, v3⟩ := valid_iff.1 hva
        by_cases hd : defs (els o) = 0
        · have hx : valid (vars + more) (els o) = true := valid_iff.2 ⟨by omega, by omega, v2, validL_more v3 (by omega) hd⟩
          rw [hx] at hval2
          rw [hd] at hdef
          simp [fc7, evKC, evK, evGuard, put, Env.get, Env.keep, entry, Opd.ev, D.asInt?, binD, unD, finish, evRes, evRes1, eqD, hh, hfew, hw, hwm, hws, hval, hs, hval2, hdef]
        · have hd2 : ((defs (els o) : Int) == 0) = false := by rw [beq_eq_false_iff_ne]; omega
          by_cases h0 : more = 0
          · subst h0
            rw [Int.add_zero] at hval2 hws hs
            rw [hva] at hval2
            simp [fc7, evKC, evK, evGuard, put, Env.get, Env.keep, entry, Opd.ev, D.asInt?, binD, unD, finish, evRes, evRes1, eqD, hh, hfew, hw, hwm, hval, hs, hdef, hd2]
          · have hx : valid (vars + more) (els o) = false := by
              rw [Bool.eq_false_iff]
              intro e
              have := validL_one v3 (valid_iff.1 e).2.2.2 hd
              omega
            rw [hx] at hval2
            simp [fc7, evKC, evK, evGuard, put, Env.get, Env.keep, entry, Opd.ev, D.asInt?, binD, unD, finish, evRes, evRes1, eqD, hh, hfew, hw, hwm, hws, hval, hs, hval2, hdef, hd2, h0]

end Go.Proofs.YtneleliomipddaaDoor

/-! The walk of the law on corrupted texts. -/
namespace Go.Proofs.YtneleliomipddaaDoor
open Go.Vs

theorem str_take (s : List UInt8) {j : Nat} {z : Int} (hz : z = (j : Int)) (h : j ≤ s.length) : sliceD 0 (.p (.str s)) none (some (.p (.int .i64 z))) = some (.p (.str (s.take j))) := by
  subst hz
  have h0 : (0 : Int) ≤ (j : Int) := by omega
  simp only [sliceD, boundsD, D.asNat?, h0, if_true, Int.toNat_natCast]
  rw [if_pos ⟨Nat.zero_le _, h⟩]
  simp [sub]

theorem str_drop (s : List UInt8) {j : Nat} {z : Int} (hz : z = (j : Int)) (h : j ≤ s.length) : sliceD 0 (.p (.str s)) (some (.p (.int .i64 z))) none = some (.p (.str (s.drop j))) := by
  subst hz
  have h0 : (0 : Int) ≤ (j : Int) := by omega
  simp only [sliceD, boundsD, D.asNat?, h0, if_true, Int.toNat_natCast]
  rw [if_pos ⟨h, Nat.le_refl _⟩]
  simp [sub]

theorem str_one (s : List UInt8) {j : Nat} {z z' : Int} (hz : z = (j : Int)) (hz' : z' = ((j + 1 : Nat) : Int)) (h : j < s.length) : sliceD 0 (.p (.str s)) (some (.p (.int .i64 z))) (some (.p (.int .i64 z'))) = some (.p (.str [s[j]])) := by
  subst hz; subst hz'
  have h0 : (0 : Int) ≤ (j : Int) := by omega
  have h1 : (0 : Int) ≤ ((j + 1 : Nat) : Int) := by omega
  simp only [sliceD, boundsD, D.asNat?, h0, h1, if_true, Int.toNat_natCast]
  rw [if_pos ⟨by omega, by omega⟩]
  simp only [Option.map_some, sub, Option.some.injEq, D.p.injEq, PD.str.injEq]
  rw [List.drop_take]
  simp
  rw [List.take_one, List.head?_drop, List.getElem?_eq_getElem h]; rfl

theorem idx_str (s : List UInt8) {j : Nat} (h : j < s.length) : indexD none (.p (.str s)) (j : Int) = some (u8 s[j]) := by
  have h0 : (0 : Int) ≤ (j : Int) := by omega
  simp [indexD, List.getElem?_eq_getElem h]

theorem seek_loop (up d10 : D) (s : List UInt8) (hs : s.length ≤ 2000000) : ∀ (n j : Nat), j < s.length → s.length - j ≤ n →
    ∃ i c, s[i]? = some c ∧ i < s.length ∧ (sep c = true ∨ i = s.length - 1) ∧ loopK (call pg) pg.G [7, 8, 10, 11] fc5_b0 ⟨[(7, up), (8, .p (.str s)), (10, d10), (11, .p (.int .i64 j))], ⟨[], []⟩⟩ =
      some (.exit 0, ⟨[(7, up), (8, .p (.str s)), (10, d10), (11, .p (.int .i64 i)), (66, .p (.bool false))], ⟨[], []⟩⟩) := by
  intro n
  induction n with
  | zero => intro j h1 h2; omega
  | succ n ih =>
    intro j h1 h2
    have hw : IntKind.i64.wrap ((s.length : Int) - 1) = ((s.length - 1 : Nat) : Int) := by rw [wrap64 (by omega) (by omega)]; omega
    have hls := lenD_str s
    have hix := idx_str s h1
    have hwj : IntKind.i64.wrap ((j : Int) + 1) = ((j + 1 : Nat) : Int) := by rw [wrap64 (by omega) (by omega)]; rfl
    have hget := List.getElem?_eq_getElem h1
    by_cases hj : j < s.length - 1
    · have hj' : (j : Int) < ((s.length - 1 : Nat) : Int) := by omega
      by_cases c1 : s[j] = 32
      · refine ⟨j, s[j], hget, h1, .inl (by rw [c1]; rfl), loopK_out (o := .exit 0) ?_ (by simp)⟩
        rw [c1] at hix
        generalize ((s.length - 1 : Nat) : Int) = L at *
        simp [fc5_b0, evKC, evK, evGuard, put, Env.get, Env.keep, Opd.ev, D.asInt?, u8, binD, hls, hw, hj', hix]
      · by_cases c2 : s[j] = 10
        · refine ⟨j, s[j], hget, h1, .inl (by rw [c2]; rfl), loopK_out (o := .exit 0) ?_ (by simp)⟩
          rw [c2] at hix
          generalize ((s.length - 1 : Nat) : Int) = L at *
          simp [fc5_b0, evKC, evK, evGuard, put, Env.get, Env.keep, Opd.ev, D.asInt?, u8, binD, hls, hw, hj', hix]
        · obtain ⟨i, c, e1, e2, e3, e4⟩ := ih (j + 1) (by omega) (by omega)
          refine ⟨i, c, e1, e2, e3, ?_⟩
          rw [← e4]
          refine loopK_norm ?_
          have d1 : ¬ s[j].toNat = 32 := fun e => c1 (by rw [← UInt8.toNat_inj]; exact e)
          have d2 : ¬ s[j].toNat = 10 := fun e => c2 (by rw [← UInt8.toNat_inj]; exact e)
          generalize s[j] = x at *
          have d1' : ((x.toNat : Int) != 32) = true := by simp; omega
          have d2' : ((x.toNat : Int) != 10) = true := by simp; omega
          generalize ((s.length - 1 : Nat) : Int) = L at *
          simp only [u8] at hix
          simp [fc5_b0, evKC, evK, evGuard, put, Env.get, Env.keep, Opd.ev, D.asInt?, binD, hls, hw, hj', hix, d1', d2', hwj]
    · have hj' : ¬ (j : Int) < ((s.length - 1 : Nat) : Int) := by omega
      refine ⟨j, s[j], hget, h1, .inr (by omega), loopK_out (o := .exit 0) ?_ (by simp)⟩
      generalize ((s.length - 1 : Nat) : Int) = L at *
      simp [fc5_b0, evKC, evK, evGuard, put, Env.get, Env.keep, Opd.ev, binD, hls, hw, hj']

theorem mod_nat5 {a : Int} (h : 0 ≤ a) (n : Nat) : a.tmod (n : Int) = ((a.toNat % n : Nat) : Int) := by
  rw [Int.tmod_eq_emod_of_nonneg h]
  conv => lhs; rw [show a = ((a.toNat : Nat) : Int) by omega]
  rfl

theorem law5 {o : Sl Stp} (ho : ArgP o) (vars z : Int) (hv : 0 ≤ vars ∧ vars ≤ 65535) (hz : 0 ≤ z ∧ z ≤ 65535) : ∃ H, call pg 5 [.p (.int .u16 vars), .p (stpsP o), .p (.int .u16 z)] ⟨[], []⟩ = some (.val (.p (.bool true)), H) := by
  refine ⟨⟨[], []⟩, call_body (fc := fc5) rfl rfl rfl rfl ?_⟩
  have hh := head_eq
  have hw : IntKind.i64.wrap vars = vars := wrap64 (by omega) (by omega)
  have hwz : IntKind.i64.wrap z = z := wrap64 (by omega) (by omega)
  have hfew := few_eq o 100 (by omega)
  have hlo := len_stps o
  cases hf : fewL 100 (els o) with
  | false =>
    rw [hf] at hfew
    simp [fc5, evKC, evK, evGuard, put, Env.get, Env.keep, entry, Opd.ev, unD, finish, evRes, evRes1, hh, hfew]
  | true =>
    rw [hf] at hfew
    have hok := ho.ok (by omega) hf
    have hval := valid_eq vars o hok
    obtain ⟨f1, f2⟩ := few_len hf
    by_cases hl0 : (els o).length = 0
    · have hl0' : (((els o).length : Int) == 0) = true := by rw [hl0]; rfl
      rw [hl0] at hlo
      simp [fc5, evKC, evK, evGuard, put, Env.get, Env.keep, entry, Opd.ev, binD, unD, finish, evRes, evRes1, hh, hfew, hlo]
    · have hl0' : (((els o).length : Int) == 0) = false := by rw [beq_eq_false_iff_ne]; omega
      cases hva : valid vars (els o) with
      | false =>
        rw [hva] at hval
        generalize hN : (els o).length = N at *
        simp [fc5, evKC, evK, evGuard, put, Env.get, Env.keep, entry, Opd.ev, D.asInt?, binD, unD, finish, evRes, evRes1, hh, hfew, hw, hlo, hl0', hval]
      | true =>
        rw [hva] at hval
        have hc := valid_can hva
        have hlen := encL_len_le hc f2
        have henc := encode_eq o hok (by omega)
        have hpos := encL_len (els o)
        have hne : els o ≠ [] := by intro e; rw [e] at hl0; simp at hl0
        have hcut := dec_cut hne
        have hd1 := decode_eq ((encL (els o)).take ((encL (els o)).length - 1)) (by simp; omega)
        rw [hcut] at hd1
        simp only at hd1
        have hend := enc_end (els o) hne
        have htw : ∀ (i : Nat) (c : UInt8), (encL (els o))[i]? = some c → (sep c = true ∨ i = (encL (els o)).length - 1) → dec ((encL (els o)).take i ++ [c] ++ (encL (els o)).drop i) = none := by
          intro i c hi h
          refine dec_twice hi ?_
          rcases h with h | h
          · exact h
          · obtain ⟨u, hu⟩ := hend
            subst h
            rw [hu] at hi
            have : (u ++ [32, 48, 10])[(u ++ [32, 48, 10] : List UInt8).length - 1]? = some 10 := by simp
            rw [this] at hi
            simp only [Option.some.injEq] at hi
            subst hi; rfl
        generalize encL (els o) = s at *
        have hls := lenD_str s
        have hs0 : ((s.length : Int) == 0) = false := by rw [beq_eq_false_iff_ne]; omega
        have hs1 : ¬ (s.length : Int) = 0 := by omega
        have hs2 : ¬ s.length = 0 := by omega
        have hs3 : ¬ s = [] := by intro e; rw [e] at hs2; simp at hs2
        have hwl : IntKind.i64.wrap ((s.length : Int) - 1) = ((s.length - 1 : Nat) : Int) := by rw [wrap64 (by omega) (by omega)]; omega
        have ht1 := str_take s (z := ((s.length - 1 : Nat) : Int)) rfl (by omega)
        have hmod := mod_nat5 hz.1 s.length
        have hjl : z.toNat % s.length < s.length := Nat.mod_lt _ (by omega)
        generalize z.toNat % s.length = j at *
        obtain ⟨i, c, hi, hil, hsep, hloop⟩ := seek_loop (.p (.bool true)) (.p (.int .i64 340)) s (by omega) s.length j hjl (by omega)
        have hci := (List.getElem?_eq_some_iff.1 hi).2
        have hd2 := decode_eq (s.take i ++ [c] ++ s.drop i) (by simp; omega)
        rw [htw i c hi hsep] at hd2
        simp only at hd2
        have hwi : IntKind.i64.wrap ((i : Int) + 1) = ((i + 1 : Nat) : Int) := by rw [wrap64 (by omega) (by omega)]; rfl
        have ht2 := str_take s (z := (i : Int)) rfl (by omega)
        have ht3 := str_one s (z := (i : Int)) (z' := ((i + 1 : Nat) : Int)) rfl rfl hil
        rw [hci] at ht3
        have ht4 := str_drop s (z := (i : Int)) rfl (by omega)
        have hA : (s.take i).length + 1 ≤ 140737488355328 := by simp; omega
        have hB : (s.take i).length + 1 + (s.drop i).length ≤ 140737488355328 := by simp; omega
        generalize s.take i = sa at *
        generalize s.drop i = sb at *
        generalize s.take (s.length - 1) = sc at *
        generalize ((s.length - 1 : Nat) : Int) = L at *
        generalize ((i + 1 : Nat) : Int) = I1 at *
        have hbin1 : strBin .add sa [c] = some (.str (sa ++ [c])) := by simp [strBin, hA]
        have hbin2 : strBin .add (sa ++ [c]) sb = some (.str (sa ++ [c] ++ sb)) := by simp only [strBin, List.length_append, List.length_singleton, hB, if_true]
        generalize sa ++ [c] = sac at *
        generalize sac ++ sb = sd at *
        generalize hN : (els o).length = N at *
        simp [fc5, evKC, evK, evGuard, put, Env.get, Env.keep, entry, Opd.ev, D.asInt?, binD, unD, cls, isW, apartRW, clash, finish, evRes, evRes1, D.refsL, D.refs, D.toksL, D.toks, hh, hfew, hw, hwz, hlo, hl0', hval, henc, hls, hs0, hs2, hwl, ht1, hd1, hmod, hloop, hwi, ht2, ht3, ht4, hbin1, hbin2, hd2]

end Go.Proofs.YtneleliomipddaaDoor

/-! The walks of the laws: prefixes, shifts, corruption. -/
namespace Go.Proofs.YtneleliomipddaaDoor
open Go.Vs

theorem take_stps (o : Sl Stp) (k : Nat) (hk : k ≤ (els o).length) : ∃ q : Sl Stp, sliceD 3 (.p (stpsP o)) none (some (.p (.int .i64 k))) = some (.p (stpsP q)) ∧ els q = (els o).take k := by
  match o with
  | .nil => 
    have : k = 0 := by simpa [els] using hk
    subst this
    exact ⟨.nil, rfl, rfl⟩
  | .amb =>
    have : k = 0 := by simpa [els] using hk
    subst this
    exact ⟨.amb, rfl, rfl⟩
  | .of [] =>
    have : k = 0 := by simpa [els] using hk
    subst this
    exact ⟨.amb, rfl, rfl⟩
  | .of (s :: l) =>
    simp only [els] at hk
    refine ⟨slS ((s :: l).take k), ?_, els_slS _⟩
    rw [stps_slS]
    have h0 : (0 : Int) ≤ (k : Int) := by omega
    simp only [stpsP, slP, Sl.map, sliceD, D.elems?, boundsD, D.asNat?, h0, if_true, Int.toNat_natCast, List.map_cons]
    have : (0 ≤ k ∧ k ≤ (s.pd :: l.map Stp.pd).length) := ⟨Nat.zero_le _, by simpa using hk⟩
    rw [if_pos this]
    simp [sub, ← List.map_cons, List.map_take]

theorem drop_stps (o : Sl Stp) (k : Nat) (hk : k ≤ (els o).length) : ∃ q : Sl Stp, sliceD 3 (.p (stpsP o)) (some (.p (.int .i64 k))) none = some (.p (stpsP q)) ∧ els q = (els o).drop k := by
  match o with
  | .nil => 
    have : k = 0 := by simpa [els] using hk
    subst this
    exact ⟨.nil, rfl, rfl⟩
  | .amb =>
    have : k = 0 := by simpa [els] using hk
    subst this
    exact ⟨.amb, rfl, rfl⟩
  | .of [] =>
    have : k = 0 := by simpa [els] using hk
    subst this
    exact ⟨.amb, rfl, rfl⟩
  | .of (s :: l) =>
    simp only [els] at hk
    refine ⟨slS ((s :: l).drop k), ?_, els_slS _⟩
    rw [stps_slS]
    have h0 : (0 : Int) ≤ (k : Int) := by omega
    simp only [stpsP, slP, Sl.map, sliceD, D.elems?, boundsD, D.asNat?, h0, if_true, Int.toNat_natCast, List.map_cons]
    have : (k ≤ (s.pd :: l.map Stp.pd).length ∧ (s.pd :: l.map Stp.pd).length ≤ (s.pd :: l.map Stp.pd).length) := ⟨by simpa using hk, Nat.le_refl _⟩
    rw [if_pos this]
    simp [sub, ← List.map_cons, List.map_drop]
    rw [List.take_of_length_le (by simp)]

theorem mod_nat {a : Int} (h : 0 ≤ a) (n : Nat) : a.tmod (n : Int) = ((a.toNat % n : Nat) : Int) := by
  rw [Int.tmod_eq_emod_of_nonneg h]
  conv => lhs; rw [show a = ((a.toNat : Nat) : Int) by omega]
  rfl

theorem law6 {o : Sl Stp} (ho : ArgP o) (vars z : Int) (hv : 0 ≤ vars ∧ vars ≤ 65535) (hz : 0 ≤ z ∧ z ≤ 255) : ∃ H, call pg 6 [.p (.int .u16 vars), .p (stpsP o), .p (.int .u8 z)] ⟨[], []⟩ = some (.val (.p (.bool true)), H) := by
  refine ⟨⟨[], []⟩, call_body (fc := fc6) rfl rfl rfl rfl ?_⟩
  have hh := head_eq
  have hw : IntKind.i64.wrap vars = vars := wrap64 (by omega) (by omega)
  have hwz : IntKind.i64.wrap z = z := wrap64 (by omega) (by omega)
  have hfew := few_eq o 200 (by omega)
  cases hf : fewL 200 (els o) with
  | false =>
    rw [hf] at hfew
    simp [fc6, evKC, evK, evGuard, put, Env.get, Env.keep, entry, Opd.ev, unD, finish, evRes, evRes1, hh, hfew]
  | true =>
    rw [hf] at hfew
    have hok := ho.ok (by omega) hf
    have hval := valid_eq vars o hok
    obtain ⟨f1, f2⟩ := few_len hf
    cases hva : valid vars (els o) with
    | false =>
      rw [hva] at hval
      simp [fc6, evKC, evK, evGuard, put, Env.get, Env.keep, entry, Opd.ev, D.asInt?, unD, finish, evRes, evRes1, hh, hfew, hw, hval]
    | true =>
      rw [hva] at hval
      have hc := valid_can hva
      have hlen := encL_len_le hc f2
      have henc := encode_eq o hok (by omega)
      have hls := len_stps o
      have hk : z.toNat % ((els o).length + 1) < (els o).length + 1 := Nat.mod_lt _ (by omega)
      have hwl : IntKind.i64.wrap (((els o).length : Int) + 1) = (((els o).length + 1 : Nat) : Int) := by rw [wrap64 (by omega) (by omega)]; rfl
      have hmod := mod_nat hz.1 ((els o).length + 1)
      have hne : ¬ (((els o).length + 1 : Nat) : Int) = 0 := by omega
      generalize z.toNat % ((els o).length + 1) = k at *
      generalize hN : (((els o).length + 1 : Nat) : Int) = N at *
      obtain ⟨qa, ha1, ha2⟩ := take_stps o k (by omega)
      obtain ⟨qb, hb1, hb2⟩ := drop_stps o k (by omega)
      obtain ⟨v0, v1, v2, v3⟩ := valid_iff.1 hva
      have hsplit : els qa ++ els qb = els o := by rw [ha2, hb2, List.take_append_drop]
      have hoka : OkP qa := ⟨by rw [ha2]; have := hok.n; simp; omega, fun s hs => hok.s s (by rw [ha2] at hs; exact List.mem_of_mem_take hs)⟩
      have hokb : OkP qb := ⟨by rw [hb2]; have := hok.n; simp; omega, fun s hs => hok.s s (by rw [hb2] at hs; exact List.mem_of_mem_drop hs)⟩
      have hll : (els qa).length + (els qb).length = (els o).length := by rw [← hsplit, List.length_append]
      have hle : (encL (els qa)).length + (encL (els qb)).length = (encL (els o)).length := by rw [← hsplit, encL_app, List.length_append]
      rw [← hsplit, validL_app, Bool.and_eq_true] at v3
      have hda : defs (els qa) ≤ (els qa).length := by unfold defs; exact List.length_filter_le _ _
      have hwd : IntKind.i64.wrap (vars + (defs (els qa) : Int)) = vars + defs (els qa) := wrap64 (by omega) (by omega)
      have hr : ∀ (l : List Stp) (v : Int), 0 ≤ v → v ≤ 20000 → validL v l = true → v + defs l ≤ 20000 := by
        intro l
        induction l with
        | nil => intro v _ h _; simp [defs]; omega
        | cons s l ih =>
          intro v h0 h1 h2
          simp only [validL] at h2
          split at h2
          · rename_i v' hv'
            obtain ⟨r0, r1⟩ := validS_range hv' h0 h1
            have hd := validS_defs hv'
            have := ih v' r0 r1 h2
            rw [defs_cons]
            push_cast at *
            omega
          · cases h2
      have hra := hr (els qa) vars v0 v1 v3.1
      have hva' : valid vars (els qa) = true := valid_iff.2 ⟨v0, v1, by omega, v3.1⟩
      have hvb' : valid (vars + defs (els qa)) (els qb) = true := valid_iff.2 ⟨by omega, hra, by omega, v3.2⟩
      have hvala := valid_eq vars qa hoka
      have hvalb := valid_eq (vars + defs (els qa)) qb hokb
      rw [hva'] at hvala
      rw [hvb'] at hvalb
      have hdef := defs_eq qa hoka
      have henca := encode_eq qa hoka (by omega)
      have hencb := encode_eq qb hokb (by omega)
      have hsum : (encL (els qa)).length + (encL (els qb)).length ≤ 140737488355328 := by omega
      have heq : (encL (els qa) ++ encL (els qb) == encL (els o)) = true := by rw [← encL_app, hsplit]; simp
      have heq' : encL (els qa) ++ encL (els qb) = encL (els o) := by simpa using heq
      simp [fc6, evKC, evK, evGuard, put, Env.get, Env.keep, entry, Opd.ev, D.asInt?, binD, strBin, unD, cls, isW, apartRW, clash, finish, evRes, evRes1, hh, hfew, hw, hwz, hval, hls, hwl, hne, hmod, ha1, hb1, hvala, hvalb, hdef, hwd, henca, hencb, hsum, henc, heq']

theorem shift_call {o : Sl Stp} (ho : ArgP o) {n : Int} (hf : fewL n (els o) = true) (hn : n ≤ 1000000) (m : Int) (H : Hp) : callD (call pg) 19 [.p (stpsP o), .p (.int .i64 m)] H = some (.val (.p (stpsP (o.map (shS m)))), H) := by
  have h := shift_eq o m ho.a (ho.cl hf) (by have := (few_len hf).1; omega)
  exact callD_pure h rfl rfl rfl rfl

theorem law8 {o : Sl Stp} (ho : ArgP o) (vars by' more : Int) (hv : 0 ≤ vars ∧ vars ≤ 65535) (hb : 0 ≤ by' ∧ by' ≤ 65535) (hm : 0 ≤ more ∧ more ≤ 65535) : ∃ H, call pg 8 [.p (.int .u16 vars), .p (stpsP o), .p (.int .u16 by'), .p (.int .u16 more)] ⟨[], []⟩ = some (.val (.p (.bool true)), H) := by
  refine ⟨⟨[], []⟩, call_body (fc := fc8) rfl rfl rfl rfl ?_⟩
  have hh := head_eq
  have hw : IntKind.i64.wrap vars = vars := wrap64 (by omega) (by omega)
  have hwb : IntKind.i64.wrap by' = by' := wrap64 (by omega) (by omega)
  have hwm : IntKind.i64.wrap more = more := wrap64 (by omega) (by omega)
  have hwv : IntKind.i64.wrap (vars + by') = vars + by' := wrap64 (by omega) (by omega)
  have hws : IntKind.i64.wrap (by' + more) = by' + more := wrap64 (by omega) (by omega)
  have hwn : IntKind.i64.wrap (0 - by') = -by' := by rw [wrap64 (by omega) (by omega)]; omega
  have hwn' : IntKind.i64.wrap (-by') = -by' := wrap64 (by omega) (by omega)
  have hfew := few_eq o 200 (by omega)
  cases hf : fewL 200 (els o) with
  | false =>
    rw [hf] at hfew
    simp [fc8, evKC, evK, evGuard, put, Env.get, Env.keep, entry, Opd.ev, unD, finish, evRes, evRes1, hh, hfew]
  | true =>
    rw [hf] at hfew
    have hok := ho.ok (by omega) hf
    have hval := valid_eq vars o hok
    have hdef := defs_eq o hok
    cases hva : valid vars (els o) with
    | false =>
      rw [hva] at hval
      simp [fc8, evKC, evK, evGuard, put, Env.get, Env.keep, entry, Opd.ev, D.asInt?, unD, finish, evRes, evRes1, hh, hfew, hw, hval]
    | true =>
      rw [hva] at hval
      by_cases hd : defs (els o) = 0
      · rw [hd] at hdef
        have s1 := shift_call ho hf (by omega) by'
        have hf1 : fewL 200 (els (o.map (shS by'))) = true := by rw [els_map, fewL_sh]; exact hf
        have s2 := shift_call (ho.sh by') hf1 (by omega) (-by')
        have s3 := shift_call (ho.sh by') hf1 (by omega) more
        have s4 := shift_call ho hf (by omega) (by' + more)
        have s5 := shift_call ho hf (by omega) 0
        have hf2 : fewL 200 (els ((o.map (shS by')).map (shS (-by')))) = true := by rw [els_map, fewL_sh]; exact hf1
        have hf3 : fewL 200 (els ((o.map (shS by')).map (shS more))) = true := by rw [els_map, fewL_sh]; exact hf1
        have hf5 : fewL 200 (els (o.map (shS 0))) = true := by rw [els_map, fewL_sh]; exact hf
        have q2 := requal_eq ((o.map (shS by')).map (shS (-by'))) o (((ho.sh by').sh (-by')).ok (by omega) hf2)
        have q3 := requal_eq ((o.map (shS by')).map (shS more)) (o.map (shS (by' + more))) (((ho.sh by').sh more).ok (by omega) hf3)
        have q5 := requal_eq (o.map (shS 0)) o ((ho.sh 0).ok (by omega) hf5)
        have smb : sm by' := by unfold sm; omega
        have smm : sm more := by unfold sm; omega
        rw [els_map, els_map, sh_back_eq hva hd smb hb.1 (by omega)] at q2
        rw [els_map, els_map, els_map, sh_two_eq hva hd smb smm hb.1 (by omega) (by omega) (by omega)] at q3
        rw [els_map, sh_zero_eq hva hd] at q5
        have hvalx := valid_eq (vars + by') (o.map (shS by')) ((ho.sh by').ok (by omega) hf1)
        by_cases hs : 20000 < vars + by'
        · simp [fc8, evKC, evK, evGuard, put, Env.get, Env.keep, entry, Opd.ev, D.asInt?, binD, unD, finish, evRes, evRes1, hh, hfew, hw, hwb, hwm, hwv, hws, hwn', hval, hdef, s1, s2, s3, s4, s5, q2, q3, q5, hs]
        · rw [els_map, valid_sh hva smb hb.1 hd (by omega)] at hvalx
          simp [fc8, evKC, evK, evGuard, put, Env.get, Env.keep, entry, Opd.ev, D.asInt?, binD, unD, finish, evRes, evRes1, hh, hfew, hw, hwb, hwm, hwv, hws, hwn', hval, hdef, s1, s2, s3, s4, s5, q2, q3, q5, hs, hvalx]
      · have hd1 : (0 : Int) < (defs (els o) : Int) := by omega
        have hd2 : 0 < defs (els o) := by omega
        simp [fc8, evKC, evK, evGuard, put, Env.get, Env.keep, entry, Opd.ev, D.asInt?, binD, unD, finish, evRes, evRes1, hh, hfew, hw, hval, hdef, hd2]

end Go.Proofs.YtneleliomipddaaDoor
