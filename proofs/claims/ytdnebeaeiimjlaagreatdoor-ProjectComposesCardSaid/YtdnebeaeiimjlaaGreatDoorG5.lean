/-
  A value-level evaluator for Go functions; the functions of this cut by it; plain laws. Text G5.
-/
import Derived.Test.YtdnebeaeiimjlaaGreatDoorG1
import Derived.Test.YtdnebeaeiimjlaaGreatDoorG4
import Derived.Test.YtdnebeaeiimjlaaGreatDoorProg
import Derived.KernelRfl
import Derived.Shelf.Slices.SearchI
import Derived.Shelf.Slices.Empties
import Derived.RangeFuncKeeps
import Derived.RangeFuncLeaves
import Derived.Shelf.Abstract
import Derived.WalkKit
import Derived.OwnWalkIn
import Derived.TacticsInMore
import Derived.LoopNIn
import Derived.LoopIn
import Derived.WalkSmall
import Derived.Sort.QuietIn
import Derived.Deep.RegionHeld3
import Derived.Tactics2
import Derived.Deep.QuietTactic
import Derived.BigQuiet
import Derived.IntWalk
import Derived.Stop.RegionWithIn
import Derived.Shelf.Lays2
import Derived.Shelf.Spec.SlicesInsert
import Derived.Shelf.Spec.SlicesInsertGrow
import Derived.Shelf.Sort.Plain
import Derived.Maps.RangeRun
import Derived.Test.YtdnebeaeiimjlaaGreatDoorG3
import Derived.TacticsIn

namespace Go.Proofs.YtdnebeaeiimjlaaGreatDoor
open Go.Vs
def intOf : PD → Option Int
 | .int .i64 n => some n
 | _ => none
def intsOf : PD → Option (List Int)
 | .nils => some []
 | .emp sz => if sz = 1 then some [] else none
 | .slice sz es => if sz = 1 then mapO intOf es else none
 | _ => none
def srtd : List Int → Bool
 | a :: b :: r => decide (a ≤ b) && srtd (b :: r)
 | _ => true
def gen226 (fi cap : List D) (_ : Hp) : Option (List (List D)) :=
 match fi, cap with
 | [], [.ro [_, lo, _, up] 0] => match intsOf lo, intsOf up with
  | some l, some u => if srtd l = true ∧ l.length < 4611686018427387904 ∧ u.length < 4611686018427387904 then some ((u.filter fun t => !l.contains t).map fun t => [.p (.int .i64 t)]) else none
  | _, _ => none
 | _, _ => none
def varOf : PD → Option Bool
 | .agg [_, _, .bool v] => some v
 | _ => none
def varsOf : PD → Option (List Bool)
 | .nils => some []
 | .emp sz => if sz = 3 then some [] else none
 | .slice sz es => if sz = 3 then mapO varOf es else none
 | _ => none
def pairOf : PD → Option (Int × Int)
 | .agg [.int .i64 a, .int .i64 b] => some (a, b)
 | _ => none
def pairsOf : PD → Option (List (Int × Int))
 | .nils => some []
 | .emp sz => if sz = 2 then some [] else none
 | .slice sz es => if sz = 2 then mapO pairOf es else none
 | _ => none
def skipE (vs : List Bool) (s : Nat) (a : Int) : Bool := decide (0 < s) && !(vs.getD a.toNat false)
def ents (vs : List Bool) (s : Nat) : List (Int × Int) → Nat → List (Nat × Nat × Int × Int)
 | [], _ => []
 | (a, b) :: r, v => if skipE vs s a then ents vs s r v else (v + 1, s, a, b) :: ents vs s r (v + 1)
def entsA (vs : List Bool) (free : List (Int × Int)) : Nat → Nat → Nat → List (Nat × Nat × Int × Int)
 | 0, _, _ => []
 | n + 1, s, v => ents vs s free v ++ entsA vs free n (s + 1) (v + (ents vs s free v).length)
def selN (steps : Int) : Nat := if 1 < steps then steps.toNat else 0
def entD (e : Nat × Nat × Int × Int) : List D := [.p (.agg [.int .i64 (e.1 : Int), .int .i64 (e.2.1 : Int), .int .i64 e.2.2.1, .int .i64 e.2.2.2])]
def gen68 (fi cap : List D) (_ : Hp) : Option (List (List D)) :=
 match fi, cap with
 | [.ro [_, .int .i64 steps, _, fs, _, _, _, fr] 0], [] => match varsOf fs, pairsOf fr with
  | some vs, some free =>
   if steps < 4611686018427387904 ∧ free.length < 4611686018427387904 ∧ (free.all fun p => decide (0 ≤ p.1 ∧ p.1 < (vs.length : Int))) = true ∧ selN steps + (entsA vs free steps.toNat 0 (selN steps)).length < 4611686018427387904 then
    some ((entsA vs free steps.toNat 0 (selN steps)).map entD) else none
  | _, _ => none
 | _, _ => none
def tupL (ats : List Int) : List Int → Int → List Int
 | [], p => [p]
 | s :: r, p => (List.range (ats.getD s.toNat 0).toNat).flatMap fun (j : Nat) => tupL ats r (IntKind.i64.wrap (IntKind.i64.wrap (p * ats.sum) + ((ats.take s.toNat).sum + (j : Int))))
def gen237 (fi cap : List D) (_ : Hp) : Option (List (List D)) :=
 match fi, cap with
 | [], [.ro [sd] 0, .ro [.int .i64 p] 0, .ro [ad, _] 0] => match intsOf sd, intsOf ad with
  | some ss, some ats =>
   if (ats.all fun a => decide (0 ≤ a)) = true ∧ ats.sum < 4611686018427387904 ∧ (ss.all fun s => decide (0 ≤ s ∧ s < (ats.length : Int))) = true ∧ ats.length < 4611686018427387904 ∧ ss.length < 4611686018427387904 then
    some ((tupL ats ss p).map fun t => [.p (.int .i64 t)]) else none
  | _, _ => none
 | _, _ => none
def varsL (steps : Int) (vs : List Bool) (free : List (Int × Int)) (want : List Int) : List Nat :=
 (List.range (selN steps)).map (· + 1) ++ ((entsA vs free steps.toNat 0 (selN steps)).filter fun e => want.contains e.2.2.1).map (·.1)
def asP : D → Option PD
 | .p x => some x
 | .fsl _ sz es => some (.slice sz es)
 | _ => none
def pairUp : List D → Option (List (Int × Int))
 | [] => some []
 | .p (.int .i64 a) :: .p (.int .i64 b) :: r => (pairUp r).map ((a, b) :: ·)
 | _ => none
def pairsD (d : D) (H : Hp) : Option (List (Int × Int)) := match d with
 | .p .nils => some []
 | .gsl i _ n 2 => match H.bx[i]? with
  | some cs => match pairUp (cs.take (n * 2)) with
   | some l => if l.length = n then some l else none
   | none => none
  | none => none
 | _ => none
def gen33 (freeR : PD → Option (List (Int × Int))) (fi cap : List D) (H : Hp) : Option (List (List D)) :=
 match fi, cap with
 | [.box i 0], [] => match H.bx[i]? with
  | some [_, _, fs, _, _, _, .p (.int .i64 steps), b, fd, _] => match (asP fs).bind varsOf, (asP b).bind freeR, (asP fd).bind intsOf with
   | some vs, some free, some want =>
    if steps < 4611686018427387904 ∧ free.length < 4611686018427387904 ∧ want.length < 4611686018427387904 ∧ (free.all fun p => decide (0 ≤ p.1 ∧ p.1 < (vs.length : Int))) = true ∧ selN steps + (entsA vs free steps.toNat 0 (selN steps)).length < 4611686018427387904 then
     some ((varsL steps vs free want).map fun (v : Nat) => [.p (.int .i64 (v : Int))]) else none
   | _, _, _ => none
  | _ => none
 | _, _ => none
def intD : D → Option Int
 | .p (.int .i64 n) => some n
 | _ => none
def insL (l : List Int) (k : Nat) (t : Int) : List Int := l.take k ++ t :: l.drop k
def insLib (aa : List D) (H : Hp) : Option (Res × Hp) :=
 match aa with
 | [s, .p (.int .i64 k), .gsl j 3 1 1] => match H.bx[j]? with
  | some [.p (.int .i64 t)] => match s with
   | .gsl i 3 n 1 => match H.bx[i]? with
    | some cs => match mapO intD (cs.take n) with
     | some l => if i ≠ j ∧ isMapC cs = false ∧ n ≤ cs.length ∧ cs ≠ [] ∧ 0 ≤ k ∧ k ≤ (n : Int) ∧ n < 1000000 then
         some (.val (.gsl H.bx.length 3 (n + 1) 1), { H with bx := H.bx.set i [] ++ [(insL l k.toNat t).map fun x => .p (.int .i64 x)] }) else none
     | none => none
    | none => none
   | s => match fullD 1 s with
    | some es => match mapO intD (es.map .p) with
     | some l => if 0 ≤ k ∧ k ≤ (es.length : Int) ∧ es.length < 1000000 then
         some (.val (.gsl H.bx.length 3 (es.length + 1) 1), { H with bx := H.bx ++ [(insL l k.toNat t).map fun x => .p (.int .i64 x)] }) else none
     | none => none
    | none => none
  | _ => none
 | _ => none
def genA : Nat → List D → List D → Hp → Option (List (List D))
 | 66 => gen68
 | 158 => gen226
 | 126 => gen237
 | _ => fun _ _ _ => none
def cfA : Cf := ⟨[20, 36, 45, 162, 164, 63, 79, 6, 71, 118, 24, 12], [16, 20, 21, 22, 30, 31, 34, 55, 57, 60, 62, 63, 67, 68, 69, 70, 71, 72, 74, 75, 76, 78, 79, 84, 90, 91, 93, 97, 98, 100, 102, 107, 111, 113, 118, 125, 126, 130, 134, 141, 152, 158, 161, 162, 164, 200, 203, 221, 229, 241, 242, 264, 267, 269, 272, 273, 274, 278, 281, 286, 297, 298, 299, 300, 301], [(54, 66), (78, 66), (32, 66), (67, 158), (42, 126), (21, 33)], genA, [], [], [], [6, 36, 24, 118, 30, 21]⟩
noncomputable def f67 := autoF Tryz.prog cfA 67 Tryz.f67
noncomputable def f117 := autoF Tryz.prog cfA 117 Tryz.f117
noncomputable def f58 := autoF Tryz.prog cfA 58 Tryz.f58

noncomputable def pgA : Pg := ⟨fun | 67 => f67 | 117 => f117 | 58 => f58 | _ => none, fun _ => none, fun _ _ _ => none, fun _ => none⟩

noncomputable def freeR (b : PD) : Option (List (Int × Int)) := match evF pgA 20 67 [.p b] ⟨[], []⟩ with
 | some (.val d, H) => pairsD d H
 | _ => none

noncomputable def genG : Nat → List D → List D → Hp → Option (List (List D))
 | 33 => gen33 freeR
 | n => genA n

noncomputable def cf : Cf := ⟨[20, 36, 45, 162, 164, 63, 79, 6, 71, 118, 24, 12], [16, 20, 21, 22, 30, 31, 34, 55, 57, 60, 62, 63, 68, 69, 70, 71, 72, 74, 75, 76, 78, 79, 84, 90, 91, 93, 97, 98, 100, 102, 107, 111, 113, 118, 125, 126, 130, 134, 141, 152, 158, 161, 162, 164, 200, 203, 221, 229, 241, 242, 264, 267, 269, 272, 273, 274, 278, 281, 286, 297, 298, 299, 300, 301], [(54, 66), (78, 66), (32, 66), (67, 158), (42, 126), (21, 33)], genG, [], [], [], [6, 36, 24, 118, 30, 21]⟩
noncomputable def cfU : Cf := ⟨[20, 36, 45, 162, 164, 63, 79, 6, 71, 118, 24, 12], [6, 16, 20, 21, 22, 30, 31, 34, 55, 57, 60, 62, 63, 68, 69, 70, 71, 72, 74, 75, 76, 78, 79, 84, 90, 91, 93, 97, 98, 100, 102, 107, 111, 113, 118, 125, 126, 130, 134, 141, 152, 158, 161, 162, 164, 200, 203, 221, 229, 241, 242, 264, 267, 269, 272, 273, 274, 278, 281, 286, 297, 298, 299, 300, 301], [(54, 66), (78, 66), (32, 66), (67, 158), (42, 126), (21, 33)], genG, [], [], [], [6, 36, 24, 118, 30, 21]⟩

noncomputable def aF (i : Nat) (f : Func) : Option FC := autoF Tryz.prog cf i f
noncomputable def u6 := autoF Tryz.prog cfU 6 Tryz.f6
noncomputable def u24 := autoF Tryz.prog cfU 24 Tryz.f24
noncomputable def a3 := aF 3 Tryz.f3
noncomputable def a4 := aF 4 Tryz.f4
noncomputable def a5 := aF 5 Tryz.f5
noncomputable def a6 := aF 6 Tryz.f6
noncomputable def a7 := aF 7 Tryz.f7
noncomputable def a8 := aF 8 Tryz.f8
noncomputable def a9 := aF 9 Tryz.f9
noncomputable def a10 := aF 10 Tryz.f10
noncomputable def a11 := aF 11 Tryz.f11
noncomputable def a12 := aF 12 Tryz.f12
noncomputable def a13 := aF 13 Tryz.f13
noncomputable def a14 := aF 14 Tryz.f14
noncomputable def a15 := aF 15 Tryz.f15
noncomputable def a16 := aF 16 Tryz.f16
noncomputable def a17 := aF 17 Tryz.f17
noncomputable def a18 := aF 18 Tryz.f18
noncomputable def a19 := aF 19 Tryz.f19
noncomputable def a20 := aF 20 Tryz.f20
noncomputable def a21 := aF 21 Tryz.f21
noncomputable def a22 := aF 22 Tryz.f22
noncomputable def a23 := aF 23 Tryz.f23
noncomputable def a25 := aF 25 Tryz.f25
noncomputable def a26 := aF 26 Tryz.f26
noncomputable def a27 := aF 27 Tryz.f27
noncomputable def a28 := aF 28 Tryz.f28
noncomputable def a29 := aF 29 Tryz.f29
noncomputable def a30 := aF 30 Tryz.f30
noncomputable def a31 := aF 31 Tryz.f31
noncomputable def a32 := aF 32 Tryz.f32
noncomputable def a34 := aF 34 Tryz.f34
noncomputable def a35 := aF 35 Tryz.f35
noncomputable def a36 := aF 36 Tryz.f36
noncomputable def a37 := aF 37 Tryz.f37
noncomputable def a38 := aF 38 Tryz.f38
noncomputable def a39 := aF 39 Tryz.f39
noncomputable def a40 := aF 40 Tryz.f40
noncomputable def a41 := aF 41 Tryz.f41
noncomputable def a42 := aF 42 Tryz.f42
noncomputable def a43 := aF 43 Tryz.f43
noncomputable def a44 := aF 44 Tryz.f44
noncomputable def a45 := aF 45 Tryz.f45
noncomputable def a46 := aF 46 Tryz.f46
noncomputable def a47 := aF 47 Tryz.f47
noncomputable def a48 := aF 48 Tryz.f48
noncomputable def a49 := aF 49 Tryz.f49
noncomputable def a50 := aF 50 Tryz.f50
noncomputable def a51 := aF 51 Tryz.f51
noncomputable def a52 := aF 52 Tryz.f52
noncomputable def a53 := aF 53 Tryz.f53
noncomputable def a54 := aF 54 Tryz.f54
noncomputable def a55 := aF 55 Tryz.f55
noncomputable def a57 := aF 57 Tryz.f57
noncomputable def a58 := aF 58 Tryz.f58
noncomputable def a59 := aF 59 Tryz.f59
noncomputable def a60 := aF 60 Tryz.f60
noncomputable def a61 := aF 61 Tryz.f61
noncomputable def a62 := aF 62 Tryz.f62
noncomputable def a63 := aF 63 Tryz.f63
noncomputable def a64 := aF 64 Tryz.f64
noncomputable def a65 := aF 65 Tryz.f65
noncomputable def a67 := aF 67 Tryz.f67
noncomputable def a68 := aF 68 Tryz.f68
noncomputable def a69 := aF 69 Tryz.f69
noncomputable def a70 := aF 70 Tryz.f70
noncomputable def a71 := aF 71 Tryz.f71
noncomputable def a72 := aF 72 Tryz.f72
noncomputable def a74 := aF 74 Tryz.f74
noncomputable def a75 := aF 75 Tryz.f75
noncomputable def a76 := aF 76 Tryz.f76
noncomputable def a77 := aF 77 Tryz.f77
noncomputable def a78 := aF 78 Tryz.f78
noncomputable def a79 := aF 79 Tryz.f79
noncomputable def a81 := aF 81 Tryz.f81
noncomputable def a82 := aF 82 Tryz.f82
noncomputable def a83 := aF 83 Tryz.f83
noncomputable def a84 := aF 84 Tryz.f84
noncomputable def a85 := aF 85 Tryz.f85
noncomputable def a86 := aF 86 Tryz.f86
noncomputable def a87 := aF 87 Tryz.f87
noncomputable def a88 := aF 88 Tryz.f88
noncomputable def a89 := aF 89 Tryz.f89
noncomputable def a90 := aF 90 Tryz.f90
noncomputable def a95 := aF 95 Tryz.f95
noncomputable def a97 := aF 97 Tryz.f97
noncomputable def a98 := aF 98 Tryz.f98
noncomputable def a99 := aF 99 Tryz.f99
noncomputable def a100 := aF 100 Tryz.f100
noncomputable def a102 := aF 102 Tryz.f102
noncomputable def a103 := aF 103 Tryz.f103
noncomputable def a104 := aF 104 Tryz.f104
noncomputable def a105 := aF 105 Tryz.f105
noncomputable def a106 := aF 106 Tryz.f106
noncomputable def a109 := aF 109 Tryz.f109
noncomputable def a110 := aF 110 Tryz.f110
noncomputable def a111 := aF 111 Tryz.f111
noncomputable def a112 := aF 112 Tryz.f112
noncomputable def a113 := aF 113 Tryz.f113
noncomputable def a114 := aF 114 Tryz.f114
noncomputable def a115 := aF 115 Tryz.f115
noncomputable def a116 := aF 116 Tryz.f116
noncomputable def a117 := aF 117 Tryz.f117
noncomputable def a118 := aF 118 Tryz.f118
noncomputable def a121 := aF 121 Tryz.f121
noncomputable def a122 := aF 122 Tryz.f122
noncomputable def a123 := aF 123 Tryz.f123
noncomputable def a124 := aF 124 Tryz.f124
noncomputable def a125 := aF 125 Tryz.f125
noncomputable def a127 := aF 127 Tryz.f127
noncomputable def a128 := aF 128 Tryz.f128
noncomputable def a129 := aF 129 Tryz.f129
noncomputable def a137 := aF 137 Tryz.f137
noncomputable def a139 := aF 139 Tryz.f139
noncomputable def a140 := aF 140 Tryz.f140
noncomputable def a142 := aF 142 Tryz.f142
noncomputable def a146 := aF 146 Tryz.f146
noncomputable def a148 := aF 148 Tryz.f148
noncomputable def a151 := aF 151 Tryz.f151
noncomputable def a152 := aF 152 Tryz.f152
noncomputable def a153 := aF 153 Tryz.f153
noncomputable def a154 := aF 154 Tryz.f154
noncomputable def a156 := aF 156 Tryz.f156
noncomputable def a157 := aF 157 Tryz.f157
noncomputable def a161 := aF 161 Tryz.f161
noncomputable def a162 := aF 162 Tryz.f162
noncomputable def a163 := aF 163 Tryz.f163
noncomputable def a164 := aF 164 Tryz.f164
noncomputable def a166 := aF 166 Tryz.f166
noncomputable def a175 := aF 175 Tryz.f175
noncomputable def a178 := aF 178 Tryz.f178
noncomputable def a180 := aF 180 Tryz.f180
noncomputable def a184 := aF 184 Tryz.f184
noncomputable def a200 := aF 200 Tryz.f200
noncomputable def a202 := aF 202 Tryz.f202
noncomputable def a203 := aF 203 Tryz.f203
noncomputable def a213 := aF 213 Tryz.f213
noncomputable def a215 := aF 215 Tryz.f215
noncomputable def a228 := aF 228 Tryz.f228
noncomputable def a233 := aF 233 Tryz.f233
noncomputable def a247 := aF 247 Tryz.f247
noncomputable def a248 := aF 248 Tryz.f248
noncomputable def a249 := aF 249 Tryz.f249
noncomputable def a250 := aF 250 Tryz.f250
noncomputable def a251 := aF 251 Tryz.f251
noncomputable def a277 := aF 277 Tryz.f277
noncomputable def a278 := aF 278 Tryz.f278
def fc92 : FC where
 nt := 7
 np := 1
 res := [.cell 2 (some 2)]
 body := (.seq (.region [2] [⟨some 4, .move (.t 0), none⟩, ⟨some 5, .call (.t 4) [], none⟩]) (.seq (.region [2] [⟨some 6, .load (some 2) (.t 2), none⟩, ⟨none, .store 2 (.t 2) (.t 6), none⟩]) .ret))
 dfr := some ⟨[
  (.region [0, 2] [
  ⟨some 2, .alloc [.int .i64 0, .int .i64 0], none⟩])],
  [0, 2], [
  ⟨some 3, .mkfn 130 [] [(.t 2)], none⟩],
  (.t 3), []⟩
def fc101 : FC where
 nt := 32
 np := 6
 res := [.cell 12 (some 1), .cell 13 none]
 body := (.seq (.draw [5, 12, 13, 14] [(0, 1), (0, 2), (1, 2), (0, 5), (1, 5), (2, 5), (0, 6), (1, 6), (2, 6)] [⟨some 16, .load (some 1) (.t 10), none⟩, ⟨some 17, .load (some 4) (.t 6), none⟩, ⟨some 18, .load (some 2) (.t 7), none⟩, ⟨some 19, .move (.t 2), none⟩, ⟨some 20, .move (.t 3), none⟩, ⟨some 21, .load (some 2) (.t 7), none⟩, ⟨some 22, .call (.c (.fn 38 [] [])) [(.t 21)], none⟩,
  ⟨some 23, .build [.nils, .nils, .nils, .nils, .nils, .nils, .int .i64 0, .nils, .int .i64 0, .int .i64 0] [(0, 1, (.t 16)), (1, 4, (.t 17)), (5, 2, (.t 18)), (7, 1, (.t 19)), (8, 1, (.t 20)), (9, 1, (.t 22))], none⟩, ⟨some 24, .box (.t 23), none⟩, ⟨some 14, .move (.t 24), none⟩]) (.seq (.region [12, 13, 14] [⟨some 25, .move (.t 5), none⟩, ⟨some 26, .move (.t 14), none⟩,
  ⟨some 27, .call (.t 25) [(.t 26)], none⟩]) (.seq (.region [12, 13] [⟨some 28, .move (.t 14), none⟩, ⟨some 29, .nilCheck (.t 28), none⟩, ⟨some 30, .faddr (.t 29) 0, none⟩, ⟨some 31, .load (some 1) (.t 30), none⟩, ⟨none, .store 1 (.t 12) (.t 31), none⟩, ⟨none, .store 1 (.t 13) (.c (.p (.int .i64 0))), none⟩]) .ret)))
 dfr := some ⟨[
  (.region [2, 3, 5, 6, 7, 10, 12, 13] [
  ⟨some 6, .box (.t 0), none⟩,
  ⟨some 7, .box (.t 1), none⟩,
  ⟨some 10, .box (.t 4), none⟩,
  ⟨some 12, .alloc [.nils], none⟩,
  ⟨some 13, .alloc [.int .i64 0], none⟩])],
  [2, 3, 5, 6, 7, 10, 12, 13], [
  ⟨some 15, .mkfn 141 [] [(.t 10), (.t 12), (.t 13)], none⟩],
  (.t 15), []⟩
def fc130 : FC where
 nt := 12
 np := 1
 res := []
 body := (.seq (.region [0, 4] [⟨some 4, .move (.t 4), none⟩]) (.block 0 (.seq (.region [0, 4, 6] [⟨some 6, .eqk 4 false (.t 4) (.c (.p (.nili))), none⟩]) (.cond (.t 6) (.region [] [⟨some 1, .move (.t 4), none⟩]) (.seq (.region [0, 4, 8, 9] [⟨some 7, .tassert 217 (.agg [.int .i64 0, .int .i64 0]) true (.t 4), none⟩, ⟨some 8, .extract (.t 7) 1, none⟩, ⟨some 9, .extract (.t 7) 0, none⟩])
  (.cond (.t 8) (.seq (.region [0, 2] [⟨some 2, .alloc [.int .i64 0, .int .i64 0], none⟩, ⟨none, .store 2 (.t 2) (.t 9), none⟩]) (.region [] [⟨some 10, .faddr (.t 2) 0, none⟩, ⟨some 11, .load (some 2) (.t 10), none⟩, ⟨none, .store 2 (.t 0) (.t 11), none⟩])) (.seq (.region [3] [⟨some 3, .move (.t 4), none⟩]) (.region [] [⟨some 5, .move (.t 3), none⟩, ⟨none, .panic (.t 5), none⟩]))))))))
def fc141 : FC where
 nt := 20
 np := 3
 res := []
 body := (.seq (.region [0, 1, 2, 3] [⟨some 6, .move (.t 6), none⟩, ⟨some 3, .move (.t 6), none⟩]) (.seq (.region [0, 1, 2, 3, 8] [⟨some 7, .move (.t 3), none⟩, ⟨some 8, .eqk 4 true (.t 7) (.c (.p (.nili))), none⟩]) (.cond (.t 8) (.seq (.region [0, 1, 2, 3, 4, 5] [⟨some 10, .move (.t 3), none⟩, ⟨some 11, .tassert 233 (.agg [.int .i64 0]) true (.t 10), none⟩, ⟨some 9, .move (.t 11), none⟩,
  ⟨some 12, .extract (.t 9) 0, none⟩, ⟨some 13, .extract (.t 9) 1, none⟩, ⟨some 4, .alloc [.int .i64 0], none⟩, ⟨none, .store 1 (.t 4) (.t 12), none⟩, ⟨some 5, .move (.t 13), none⟩]) (.seq (.seq (.region [0, 1, 2, 3, 4, 15] [⟨some 14, .move (.t 5), none⟩, ⟨some 15, .un .not (.t 14), none⟩]) (.cond (.t 15) (.region [0, 1, 2, 4] [⟨some 16, .move (.t 3), none⟩, ⟨none, .panic (.t 16), none⟩]) .skip))
  (.draw [] [(0, 2), (2, 3)] [⟨some 17, .load (some 1) (.t 0), none⟩, ⟨some 18, .faddr (.t 4) 0, none⟩, ⟨some 19, .load none (.t 18), none⟩, ⟨none, .store 1 (.t 1) (.t 17), none⟩, ⟨none, .store 1 (.t 2) (.t 19), none⟩]))) .skip)))
def pgD : Nat → Option (Nat × FC)
 | 130 => some (4, fc130)
 | 141 => some (6, fc141)
 | _ => none

noncomputable def pgF : Nat → Option FC
 | 3 => a3
 | 4 => a4
 | 5 => a5
 | 6 => a6
 | 7 => a7
 | 8 => a8
 | 9 => a9
 | 10 => a10
 | 11 => a11
 | 12 => a12
 | 13 => a13
 | 14 => a14
 | 15 => a15
 | 16 => a16
 | 17 => a17
 | 18 => a18
 | 19 => a19
 | 20 => a20
 | 21 => a21
 | 22 => a22
 | 23 => a23
 | 25 => a25
 | 26 => a26
 | 27 => a27
 | 28 => a28
 | 29 => a29
 | 30 => a30
 | 31 => a31
 | 32 => a32
 | 34 => a34
 | 35 => a35
 | 36 => a36
 | 37 => a37
 | 38 => a38
 | 39 => a39
 | 40 => a40
 | 41 => a41
 | 42 => a42
 | 43 => a43
 | 44 => a44
 | 45 => a45
 | 46 => a46
 | 47 => a47
 | 48 => a48
 | 49 => a49
 | 50 => a50
 | 51 => a51
 | 52 => a52
 | 53 => a53
 | 54 => a54
 | 55 => a55
 | 57 => a57
 | 58 => a58
 | 59 => a59
 | 60 => a60
 | 61 => a61
 | 62 => a62
 | 63 => a63
 | 64 => a64
 | 65 => a65
 | 67 => a67
 | 68 => a68
 | 69 => a69
 | 70 => a70
 | 71 => a71
 | 72 => a72
 | 74 => a74
 | 75 => a75
 | 76 => a76
 | 77 => a77
 | 78 => a78
 | 79 => a79
 | 81 => a81
 | 82 => a82
 | 83 => a83
 | 84 => a84
 | 85 => a85
 | 86 => a86
 | 87 => a87
 | 88 => a88
 | 89 => a89
 | 90 => a90
 | 95 => a95
 | 97 => a97
 | 98 => a98
 | 99 => a99
 | 100 => a100
 | 102 => a102
 | 103 => a103
 | 104 => a104
 | 105 => a105
 | 106 => a106
 | 109 => a109
 | 110 => a110
 | 111 => a111
 | 112 => a112
 | 113 => a113
 | 114 => a114
 | 115 => a115
 | 116 => a116
 | 117 => a117
 | 118 => a118
 | 121 => a121
 | 122 => a122
 | 123 => a123
 | 124 => a124
 | 125 => a125
 | 127 => a127
 | 128 => a128
 | 129 => a129
 | 137 => a137
 | 139 => a139
 | 140 => a140
 | 142 => a142
 | 146 => a146
 | 148 => a148
 | 151 => a151
 | 152 => a152
 | 153 => a153
 | 154 => a154
 | 156 => a156
 | 157 => a157
 | 161 => a161
 | 162 => a162
 | 163 => a163
 | 164 => a164
 | 166 => a166
 | 175 => a175
 | 178 => a178
 | 180 => a180
 | 184 => a184
 | 200 => a200
 | 202 => a202
 | 203 => a203
 | 213 => a213
 | 215 => a215
 | 228 => a228
 | 233 => a233
 | 247 => a247
 | 248 => a248
 | 249 => a249
 | 250 => a250
 | 251 => a251
 | 277 => a277
 | 278 => a278
 | 92 => some fc92
 | 101 => some fc101
 | _ => none

end Go.Proofs.YtdnebeaeiimjlaaGreatDoor

namespace Go.Proofs.YtdnebeaeiimjlaaGreatDoor
open Go Go.Vs
def tabF : List ((Nat × List D) × D) → Nat → List D → Option D
 | [], _, _ => none
 | ((g, xs), r) :: t, f, args => if (Nat.beq g f && D.eqbL xs args) = true then some r else tabF t f args
def tabC (t : List ((Nat × List D) × D)) (lib : CallR) : CallR := fun f args H => match H with
 | ⟨[], []⟩ => match tabF t f args with
  | some r => some (.val r, H)
  | none => lib f args H
 | _ => lib f args H
def libI : CallR
 | 80 => insLib
 | _ => fun _ _ => none

noncomputable def pgUF : Nat → Option FC
 | 6 => u6
 | 24 => u24
 | f => pgF f

noncomputable def pgU : Pg := ⟨pgUF, fun _ => none, libI, pgD⟩
def argC' : PD := .agg [.slice 3 [.agg [.int .i64 0, .int .i64 0, .int .i64 0], .agg [.int .i64 1, .int .i64 1, .int .i64 0], .agg [.int .i64 1, .int .i64 2, .int .i64 0], .agg [.int .i64 1, .int .i64 3, .int .i64 0], .agg [.int .i64 1, .int .i64 4, .int .i64 0],
 .agg [.int .i64 2, .int .i64 3, .int .i64 5], .agg [.int .i64 2, .int .i64 2, .int .i64 7], .agg [.int .i64 2, .int .i64 4, .int .i64 9], .agg [.int .i64 2, .int .i64 13, .int .i64 15], .agg [.int .i64 2, .int .i64 11, .int .i64 16]]]

noncomputable def libB : CallR
 | 80 => insLib
 | 24 => evF pgU 60 24
 | 56 => tabC [((56, [.p argC', .p (.int .i64 18)]), .p (.slice 1 [.int .i64 5, .int .i64 6, .int .i64 7, .int .i64 8, .int .i64 9]))] (fun _ _ _ => none) 56
 | _ => fun _ _ => none

noncomputable def pg : Pg := ⟨pgF, fun _ => none, libB, pgD⟩
def isVal : Option (Res × Hp) → Bool
 | some (.val _, _) => true
 | _ => false
theorem tab_sound {P : Program} {W : World} {G : Nat → Option (List PD)} {lib : CallR} (S : Sound P W G lib) : ∀ {t : List ((Nat × List D) × D)}, (∀ e ∈ t, Meets P W G e.1.1 e.1.2 ⟨[], []⟩ (.val e.2) ⟨[], []⟩) → Sound P W G (tabC t lib) := by
 intro t ht f args H r H' h
 unfold tabC at h
 split at h
 ·split at h
  ·rename_i d hd
   cases h
   induction t with
   | nil => cases hd
   | cons e t ih =>
    obtain ⟨⟨g, xs⟩, d'⟩ := e
    simp only [tabF] at hd
    split at hd
    ·rename_i he
     cases hd
     rw [Bool.and_eq_true] at he
     have h1 : g = f := Nat.eq_of_beq_eq_true he.1
     have h2 := D.eqbL_eq _ _ he.2
     subst h1
     have := ht ((g, xs), d) (by simp)
     rw [← h2]
     exact this
    ·exact ih (fun e he => ht e (by simp [he])) hd
  ·exact S _ _ _ _ _ h
 ·exact S _ _ _ _ _ h
def tabH : List ((Nat × List D × Hp) × (Res × Hp)) → CallR → CallR
 | [], lib, f, args, H => lib f args H
 | ((g, xs, K), r) :: t, lib, f, args, H => if (Nat.beq g f && D.eqbL xs args && hpEq K H) = true then some r else tabH t lib f args H
def resB : Res → Res → Bool
 | .val a, .val b => D.eqb a b
 | .pan a, .pan b => D.eqb a b
 | _, _ => false
def runB : Option (Res × Hp) → Res × Hp → Bool
 | some (r, H), (r', H') => resB r r' && hpEq H H'
 | none, _ => false
theorem runB_eq {x : Option (Res × Hp)} {y : Res × Hp} (h : runB x y = true) : x = some y := by
 obtain ⟨r', H'⟩ := y
 cases x with
 | none => cases h
 | some z =>
  obtain ⟨r, H⟩ := z
  simp only [runB, Bool.and_eq_true] at h
  have h2 := hpEq_eq h.2
  have h1 : r = r' := by
   have h1 := h.1
   unfold resB at h1
   split at h1
   ·rw [D.eqb_eq _ _ h1]
   ·rw [D.eqb_eq _ _ h1]
   ·cases h1
  rw [h1, h2]
theorem tabH_sound {P : Program} {W : World} {G : Nat → Option (List PD)} {lib : CallR} (S : Sound P W G lib) : ∀ {t : List ((Nat × List D × Hp) × (Res × Hp))}, (∀ e ∈ t, Meets P W G e.1.1 e.1.2.1 e.1.2.2 e.2.1 e.2.2) → Sound P W G (tabH t lib) := by
 intro t
 induction t with
 | nil => exact fun _ => S
 | cons e t ih =>
  intro ht f args H r H' h
  obtain ⟨⟨g, xs, K⟩, r', K'⟩ := e
  simp only [tabH] at h
  split at h
  ·rename_i he
   cases h
   rw [Bool.and_eq_true, Bool.and_eq_true] at he
   have h1 : g = f := Nat.eq_of_beq_eq_true he.1.1
   have h2 := D.eqbL_eq _ _ he.1.2
   have h3 := hpEq_eq he.2
   subst h1 h2 h3
   exact ht _ (List.mem_cons_self ..)
  ·exact ih (fun e he => ht e (by simp [he])) _ _ _ _ _ h

end Go.Proofs.YtdnebeaeiimjlaaGreatDoor

namespace Go.Proofs.YtdnebeaeiimjlaaGreatDoor
open Go.Proofs Go.Shelf
def ren25 : Go.Shelf.Ren where
 f := fun | 25 => 58 | 31 => 109 | 32 => 110 | 37 => 156 | n => n
 t := fun | 22 => 28 | 3 => 3 | 4 => 4 | 40 => 198 | 0 => 0 | n => n
 g := fun n => n
theorem lays25 : Lays2.n25 Tryz.prog ren25 where
 mixed := by kernel_rfl
 f25 := Tryz.func58.trans (by kernel_rfl)
 f31 := Tryz.func109.trans (by kernel_rfl)
 f32 := Tryz.func110.trans (by kernel_rfl)
 f37 := Tryz.func156.trans (by kernel_rfl)
 t0 := Tryz.underlying0
 a0 := Tryz.isAgg0
 z0 := Tryz.sizeOf0
 v0 := Tryz.zeroValue0
 t3 := Tryz.underlying3
 a3 := Tryz.isAgg3
 z3 := Tryz.sizeOf3
 v3 := Tryz.zeroValue3
 t4 := Tryz.underlying4
 a4 := Tryz.isAgg4
 z4 := Tryz.sizeOf4
 v4 := Tryz.zeroValue4
 t22 := Tryz.underlying28
 a22 := Tryz.isAgg28
 z22 := Tryz.sizeOf28
 v22 := Tryz.zeroValue28
 t40 := Tryz.underlying198
 a40 := Tryz.isAgg198
 z40 := Tryz.sizeOf198
 v40 := Tryz.zeroValue198

end Go.Proofs.YtdnebeaeiimjlaaGreatDoor

namespace Go.Proofs.YtdnebeaeiimjlaaGreatDoor
open Go.Vs Go.RowKit Go.Shelf

attribute [local go_sem] Oper.semAt_some
def SlAt (l : List Int) (v : Value) (w : World) : Prop := ∃ ad cap, v = .slice ad l.length cap ∧ l.length ≤ cap ∧ (l ≠ [] → ∃ b o, ad = some ⟨b, o, none⟩ ∧ ∀ (j : Nat) x, l[j]? = some x → w.cell? ⟨b, o + j, none⟩ = some (.int .i64 x))
theorem mapO_int {es : List PD} {l : List Int} (h : mapO intOf es = some l) : l.length = es.length ∧ ∀ (j : Nat) x, l[j]? = some x → es[j]? = some (.int .i64 x) := by
 obtain ⟨h1, h2⟩ := mapO_get h
 refine ⟨h1, fun j x hx => ?_⟩
 obtain ⟨e, he, hf⟩ := mapO_back h hx
 rw [he]
 unfold intOf at hf
 split at hf
 ·cases hf; rfl
 ·cases hf
theorem intsOf_rep {m : Mem} {v : Value} {d : PD} (h : RepP m v d) {l : List Int} (hl : intsOf d = some l) {w : World} (hm : ∀ b o x, m b o = some x → w.cell? ⟨b, o, none⟩ = some x) : SlAt l v w := by
 unfold intsOf at hl
 split at hl
 ·cases hl; cases h; exact ⟨none, 0, rfl, Nat.le_refl _, fun h => (h rfl).elim⟩
 ·split at hl
  ·cases hl; cases h; exact ⟨_, _, rfl, Nat.zero_le _, fun h => (h rfl).elim⟩
  ·cases hl
 ·split at hl
  ·rename_i sz es hsz
   subst hsz
   obtain ⟨h1, h2⟩ := mapO_int hl
   obtain ⟨ad, cap, rfl, hc, hne⟩ := slice_inv h
   refine ⟨ad, cap, by rw [h1], by rw [h1]; exact hc, fun hl0 => ?_⟩
   have he0 : es ≠ [] := fun e => hl0 (List.eq_nil_of_length_eq_zero (by rw [h1, e]; rfl))
   obtain ⟨b, o, vs, rfl, hsz, hone, hmm, hr⟩ := hne he0
   refine ⟨b, o, rfl, fun j x hx => ?_⟩
   have he := h2 j x hx
   have hj : j < es.length := (List.getElem?_eq_some_iff.1 he).1
   have := hm _ _ _ (hmm j 0 hj (by decide))
   have hv := (hr j _ 0 _ he rfl).int_inv
   rw [hv] at this
   simpa using this
  ·cases hl
 ·cases hl
theorem srtd_pair : ∀ {l : List Int}, srtd l = true → l.Pairwise (· ≤ ·)
 | [], _ => .nil
 | [a], _ => by simp
 | a :: b :: r, h => by
  simp only [srtd, Bool.and_eq_true, decide_eq_true_eq] at h
  have q := srtd_pair h.2
  refine .cons (fun x hx => ?_) q
  rcases List.mem_cons.1 hx with rfl | hx
  ·exact h.1
  ·exact Int.le_trans h.1 ((List.pairwise_cons.1 q).1 x hx)
theorem search_call {l : List Int} (hs : srtd l = true) (hl : l.length < 4611686018427387904) {v : Value} {w : World} (h : SlAt l v w) (x : Int) :
    Calls Tryz.prog 58 #[v, .int .i64 x] w fun e w' => ∃ k : Int, e = .returned (.tuple #[.int .i64 k, .bool (l.contains x)]) ∧ ∃ q, w' = w.drewN q := by
 obtain ⟨ad, cap, rfl, -, hne⟩ := h
 have e25 : ren25.f 25 = 58 := rfl
 cases l with
 | nil =>
  have := Any.slices_BinarySearch_int_empty lays25 ad cap x w
  rw [e25] at this
  refine this.mono ?_
  rintro e w' ⟨rfl, hw⟩
  exact ⟨0, by simp, 0, hw⟩
 | cons a r =>
  obtain ⟨b, o, rfl, hc⟩ := hne (by simp)
  have := Any.slices_BinarySearch_int lays25 b o (a :: r).length cap (a :: r) x w (Nat.le_refl _) hl (fun j hj => by
   have := hc j _ (List.getElem?_eq_getElem hj)
   rw [this, List.getD_eq_getElem?_getD, List.getElem?_eq_getElem hj]; rfl) (by rw [List.take_length]; exact srtd_pair hs)
  rw [e25, List.take_length] at this
  refine this.mono ?_
  rintro e w' ⟨rfl, hw⟩
  exact ⟨_, rfl, hw⟩
def restN (n : Nat) : Value → Nat
 | .int _ i => n - i.toNat
 | _ => 0
def At226 (B O : Nat) (l u : List Int) (w : World) : Prop := ∃ vl vu, w.cell? ⟨B, O + 1, none⟩ = some vl ∧ w.cell? ⟨B, O + 3, none⟩ = some vu ∧ SlAt l vl w ∧ SlAt u vu w

set_option maxRecDepth 100000 in
set_option maxHeartbeats 2000000 in
theorem walk226 (F : Fence) (n : Nat) (h226 : F.fn 158) (h69 : F.fn 58) (hro : F.round = none) (hn : 1 ≤ n) (us : List Int) (ls : List Int) (hlen : us.length < 4611686018427387904) (lp B O : Nat) (J : Nat → (Nat → Prop) → World → Prop) (X : Ending → World → Prop) (w0 : World)
    (hK : ∀ k fb A, J k fb A → At226 B O ls us A) (hU : ∃ vu, w0.cell? ⟨B, O + 3, none⟩ = some vu ∧ ∀ k fb A, J k fb A → SlAt us vu A)
    (hbs : ∀ A v x, SlAt ls v A → CallsIn F (n - 1) Tryz.prog 58 #[v, .int .i64 x] A fun e w' => ∃ k : Int, e = .returned (.tuple #[.int .i64 k, .bool (ls.contains x)]) ∧ ∃ q, w' = A.drewN q)
    (hJ : ∀ k fb A B, J k fb A → RowKit.Below A.heap.size A B → J k (fun b => fb b ∨ (A.heap.size ≤ b ∧ b < B.heap.size)) B)
    (hY : ∀ k fb x A, (us.filter fun t => !ls.contains t)[k]? = some x → J k fb A → YieldAt F (n - 1) Tryz.prog lp #[.int .i64 x] A fun e B => (A.heap.size ≤ B.heap.size ∧ ∀ b, fb b → Stands b A B) ∧ ((e = .returned (.bool true) ∧ J (k + 1) fb B) ∨ (e = .returned (.bool false) ∧ X e B) ∨ ∃ ch, e = .panicked ch ∧ X e B))
    (h0 : J 0 (fun _ => False) w0) :
    CallsIn F n Tryz.prog 158 #[.func (.yield lp) #[] #[], .pointer (some ⟨B, O, none⟩)] w0 fun e B => ((∃ v, e = .returned v) ∧ ((∃ fb, J (us.filter fun t => !ls.contains t).length fb B) ∨ X (.returned (.bool false)) B)) ∨ ∃ ch, e = .panicked ch ∧ X e B := by
 refine callsIn_of_wp Tryz.func158 rfl h226 ?_ hro
 simp only [Tryz.ntmps158, List.size_toArray, List.length_cons, List.length_nil, Nat.reduceAdd, Nat.reduceSub, Array.replicate_succ, Array.replicate_zero, List.push_toArray, List.append_toArray, List.nil_append, List.cons_append]
 have t3 := Tryz.underlying3; have a3 := Tryz.isAgg3; have z3 := Tryz.sizeOf3; have v3 := Tryz.zeroValue3; have t4 := Tryz.underlying4; have a4 := Tryz.isAgg4; have z4 := Tryz.sizeOf4; have v4 := Tryz.zeroValue4; have t28 := Tryz.underlying28; have a28 := Tryz.isAgg28; have z28 := Tryz.sizeOf28; have v28 := Tryz.zeroValue28; have t98 := Tryz.underlying48; have a98 := Tryz.isAgg48; have z98 := Tryz.sizeOf48; have t85 := Tryz.underlying45; have a85 := Tryz.isAgg45; have z85 := Tryz.sizeOf45; have t135 := Tryz.underlying95; have a135 := Tryz.isAgg95; have z135 := Tryz.sizeOf95; have v135 := Tryz.zeroValue95
 have u3 := run_underlying Tryz.underlying3; have u4 := run_underlying Tryz.underlying4; have u28 := run_underlying Tryz.underlying28; have u98 := run_underlying Tryz.underlying48; have u85 := run_underlying Tryz.underlying45; have u135 := run_underlying Tryz.underlying95
 obtain ⟨vu, hcu, hsu⟩ := hU
 obtain ⟨ad, cap, rfl, -, hne⟩ := hsu 0 _ _ h0
 gi_wp2
 gi_loopw [4, 5, 6, 11] (fun _ _ _ v wr => ∃ (i k : Nat) (fb : Nat → Prop), v = .int .i64 (i : Int) ∧ i ≤ us.length ∧ (us.drop i).filter (fun t => !ls.contains t) = (us.filter fun t => !ls.contains t).drop k ∧ k ≤ (us.filter fun t => !ls.contains t).length ∧ J k fb wr)
  (fun _ _ _ v _ => restN us.length v)
 case atStart =>
  exact ⟨0, 0, _, rfl, Nat.zero_le _, rfl, Nat.zero_le _, h0⟩
 case round =>
  obtain ⟨i, k, fb, rfl, hi, hk, hkle, hJk⟩ := hrel
  rcases Nat.lt_or_ge i us.length with hlt | hge
  ·obtain ⟨ad2, cap2, heq, -, hne2⟩ := hsu k fb wr hJk
   cases heq
   obtain ⟨b, o, rfl, hc⟩ := hne2 (by intro e; subst e; simp at hlt)
   obtain ⟨x, hxi⟩ : ∃ x, us[i]? = some x := ⟨_, List.getElem?_eq_getElem hlt⟩
   have hx := hc i x hxi
   clear hc hne2
   have hb1 : (i : Int) < (us.length : Int) := by omega
   have hb0 : (0 : Int) ≤ (i : Int) := by omega
   rw [List.drop_eq_getElem_cons hlt, List.filter_cons, (List.getElem?_eq_some_iff.1 hxi).2] at hk
   obtain ⟨vl, vu2, q1, q2, q3, q4⟩ := hK k fb wr hJk
   have hcall := hbs wr vl x q3
   clear hsu hcu
   by_cases hin : ls.contains x = true
   ·rw [hin] at hk hcall
    simp only [Bool.not_true, Bool.false_eq_true, if_false] at hk
    gi_wp2_with (gi_at_call 58; refine hcall.mono ?_; rintro e w' ⟨kk, rfl, q, rfl⟩)
    refine ⟨fun f h => (by cases h), ?_⟩
    gi_wp2
    go_roundw
    case rel => exact ⟨i + 1, k, _, by simp, hlt, hk, hkle, hJ _ _ _ _ hJk (below_drewN (.refl _ _) q)⟩
    case measure => simp only [restN]; omega
   ·have hin : ls.contains x = false := by simpa using hin
    rw [hin] at hk hcall
    simp only [Bool.not_false, if_true] at hk
    have hget : (us.filter fun t => !ls.contains t)[k]? = some x := by
     have := congrArg (·[0]?) hk
     simpa [List.getElem?_drop] using this.symm
    have hnext : (us.drop (i + 1)).filter (fun t => !ls.contains t) = (us.filter fun t => !ls.contains t).drop (k + 1) := by
     have := congrArg List.tail hk
     simpa using this
    gi_wp2_with (gi_at_call 58; refine hcall.mono ?_; rintro e w' ⟨kk, rfl, q, rfl⟩; obtain ⟨fn, tmps, assign, body, hy, hR⟩ := hY k _ x _ hget (hJ _ _ _ _ hJk (below_drewN (.refl _ wr) q)))
    refine hR.mono ?_
    rintro e W3 ⟨-, (⟨rfl, hJ3⟩ | ⟨rfl, hX3⟩ | ⟨ch, rfl, hX3⟩)⟩
    ·gi_wp2
     go_roundw
     case rel => exact ⟨i + 1, k + 1, _, by simp, hlt, hnext, (List.getElem?_eq_some_iff.1 hget).1, hJ3⟩
     case measure => simp only [restN]; omega
    ·gi_wp2
     refine bodyPost_ret (results_none rfl _ _ _) rfl ?_
     exact .inl ⟨⟨_, rfl⟩, .inr hX3⟩
    ·first
     | exact ⟨rfl, Or.inr ⟨ch, rfl, hX3⟩⟩
     | exact ⟨rfl, Or.inr ⟨⟨ch, rfl⟩, hX3⟩⟩
  ·have hb1 : ¬ (i : Int) < (us.length : Int) := by omega
   gi_wp2
   go_end0
   have hii : i = us.length := by omega
   subst hii
   rw [List.drop_length] at hk
   have hkl : (us.filter fun t => !ls.contains t).length ≤ k := by
    have := congrArg List.length hk
    rw [List.filter_nil, List.length_nil, List.length_drop] at this
    omega
   have hke : k = (us.filter fun t => !ls.contains t).length := by omega
   refine .inl ⟨⟨_, rfl⟩, .inl ⟨fb, ?_⟩⟩
   rw [hke] at hJk
   simpa using hJk
theorem int_en {γ : Gh} (x : Int) : RepL γ #[Value.int .i64 x] [.p (.int .i64 x)] :=
 ⟨rfl, fun i d hd => match i with
  | 0 => by simp only [List.getElem?_cons_zero, Option.some.injEq] at hd; subst hd; exact .p _ _ (.int _ _)
  | i + 1 => by simp at hd⟩

variable {W : World} {G : Nat → Option (List PD)}
theorem gen226_ok : GenOk Tryz.prog W G 158 gen226 := by
 refine ⟨⟨Tryz.f158, Tryz.func158, by kernel_rfl, by kernel_rfl⟩, fun fi cap H xs hg γ w la lb I hra hrb => ?_⟩
 unfold gen226 at hg
 split at hg
 ·rename_i c0 lo c2 up
  split at hg
  ·rename_i l u hl hu
   split at hg
   ·rename_i hc
    obtain ⟨hs, hll, hul⟩ := hc
    cases hg
    have hla : la = #[] := Array.eq_empty_of_size_eq_zero hra.1
    subst hla
    obtain ⟨v, rfl, hv⟩ := repL_one hrb
    cases hv with
    | ro b o _ _ vs hm hr =>
     have fact : ∀ A, Kept W G γ H (capIds (.fn 158 [] [.ro [c0, lo, c2, up] 0]) H) A → A.cell? ⟨b, o + 1, none⟩ = some (vs 1) ∧ A.cell? ⟨b, o + 3, none⟩ = some (vs 3) ∧ SlAt l (vs 1) A ∧ SlAt u (vs 3) A := by
      rintro A ⟨γ', H', L, I', _⟩
      refine ⟨I'.toInv.mem _ _ _ (L.mem _ _ _ (hm 1 (by simp))), I'.toInv.mem _ _ _ (L.mem _ _ _ (hm 3 (by simp))), ?_, ?_⟩
      ·exact intsOf_rep ((hr 1 lo rfl).1.mono L.mem) hl I'.toInv.mem
      ·exact intsOf_rep ((hr 3 up rfl).1.mono L.mem) hu I'.toInv.mem
     refine ⟨fun k => match (u.filter fun t => !l.contains t)[k]? with | some x => #[.int .i64 x] | none => #[], fun k x hx => ?_, fun lp J X w0 hB hKp hJ hT hX hXT hY h0 => ?_⟩
     ·simp only [List.getElem?_map, Option.map_eq_some_iff] at hx
      obtain ⟨p, hp, rfl⟩ := hx
      simp only [hp]
      exact ⟨rfl, fun γ' => int_en p⟩
     ·have f0 := fact w0 (hKp 0 _ w0 h0)
      have h := walk226 (wr none) 1 trivial trivial rfl (Nat.le_refl _) u l hul lp b o J X w0 (fun k fb A hj => by
       obtain ⟨q1, q2, q3, q4⟩ := fact A (hKp k fb A hj)
       exact ⟨_, _, q1, q2, q3, q4⟩) ⟨vs 3, f0.2.1, fun k fb A hj => (fact A (hKp k fb A hj)).2.2.2⟩ (fun A v x ha => callsIn_wr.2 (search_call hs hll ha x)) hJ (fun k fb x A hx hj => by
       have := hY k fb _ A (by rw [List.getElem?_map, hx]; rfl) hj
       simp only [hx] at this
       exact this) h0
      rw [List.length_map]
      exact callsIn_wr.2 (callsIn_wr.1 h)
   ·cases hg
  ·cases hg
 ·cases hg

end Go.Proofs.YtdnebeaeiimjlaaGreatDoor

namespace Go.Proofs.YtdnebeaeiimjlaaGreatDoor
open Go.Vs Go.RowKit Go.Shelf

attribute [local go_sem] Oper.semAt_some
def VarsAt (l : List Bool) (v : Value) (w : World) : Prop := ∃ ad cap, v = .slice ad l.length cap ∧ (l ≠ [] → ∃ b o, ad = some ⟨b, o, none⟩ ∧ ∀ (j : Nat) x, l[j]? = some x → w.cell? ⟨b, o + j * 3 + 2, none⟩ = some (.bool x))
def PairsAt (l : List (Int × Int)) (v : Value) (w : World) : Prop := ∃ ad cap, v = .slice ad l.length cap ∧ (l ≠ [] → ∃ b o, ad = some ⟨b, o, none⟩ ∧ ∀ (j : Nat) x, l[j]? = some x → w.cell? ⟨b, o + j * 2, none⟩ = some (.int .i64 x.1) ∧ w.cell? ⟨b, o + j * 2 + 1, none⟩ = some (.int .i64 x.2))
theorem mapO_f {α : Type} {f : PD → Option α} {es : List PD} {l : List α} (h : mapO f es = some l) : l.length = es.length ∧ ∀ (j : Nat) x, l[j]? = some x → ∃ e, es[j]? = some e ∧ f e = some x := by
 obtain ⟨h1, h2⟩ := mapO_get h
 refine ⟨h1, fun j x hx => ?_⟩
 obtain ⟨e, he, hf⟩ := mapO_back h hx
 exact ⟨e, he, hf⟩
theorem varsOf_rep {m : Mem} {v : Value} {d : PD} (h : RepP m v d) {l : List Bool} (hl : varsOf d = some l) {w : World} (hm : ∀ b o x, m b o = some x → w.cell? ⟨b, o, none⟩ = some x) : VarsAt l v w := by
 unfold varsOf at hl
 split at hl
 ·cases hl; cases h; exact ⟨none, 0, rfl, fun h => (h rfl).elim⟩
 ·split at hl
  ·cases hl; cases h; exact ⟨_, _, rfl, fun h => (h rfl).elim⟩
  ·cases hl
 ·split at hl
  ·rename_i sz es hsz
   subst hsz
   obtain ⟨h1, h2⟩ := mapO_f hl
   obtain ⟨ad, cap, rfl, hc, hne⟩ := slice_inv h
   refine ⟨ad, cap, by rw [h1], fun hl0 => ?_⟩
   have he0 : es ≠ [] := fun e => hl0 (List.eq_nil_of_length_eq_zero (by rw [h1, e]; rfl))
   obtain ⟨b, o, vs, rfl, hsz, hone, hmm, hr⟩ := hne he0
   refine ⟨b, o, rfl, fun j x hx => ?_⟩
   obtain ⟨e, he, hf⟩ := h2 j x hx
   have hj : j < es.length := (List.getElem?_eq_some_iff.1 he).1
   unfold varOf at hf
   split at hf
   ·cases hf
    have := hm _ _ _ (hmm j 2 hj (by decide))
    have hv := (hr j _ 2 _ he rfl).bool_inv
    rw [hv] at this
    exact this
   ·cases hf
  ·cases hl
 ·cases hl
theorem pairsOf_rep {m : Mem} {v : Value} {d : PD} (h : RepP m v d) {l : List (Int × Int)} (hl : pairsOf d = some l) {w : World} (hm : ∀ b o x, m b o = some x → w.cell? ⟨b, o, none⟩ = some x) : PairsAt l v w := by
 unfold pairsOf at hl
 split at hl
 ·cases hl; cases h; exact ⟨none, 0, rfl, fun h => (h rfl).elim⟩
 ·split at hl
  ·cases hl; cases h; exact ⟨_, _, rfl, fun h => (h rfl).elim⟩
  ·cases hl
 ·split at hl
  ·rename_i sz es hsz
   subst hsz
   obtain ⟨h1, h2⟩ := mapO_f hl
   obtain ⟨ad, cap, rfl, hc, hne⟩ := slice_inv h
   refine ⟨ad, cap, by rw [h1], fun hl0 => ?_⟩
   have he0 : es ≠ [] := fun e => hl0 (List.eq_nil_of_length_eq_zero (by rw [h1, e]; rfl))
   obtain ⟨b, o, vs, rfl, hsz, hone, hmm, hr⟩ := hne he0
   refine ⟨b, o, rfl, fun j x hx => ?_⟩
   obtain ⟨e, he, hf⟩ := h2 j x hx
   have hj : j < es.length := (List.getElem?_eq_some_iff.1 he).1
   unfold pairOf at hf
   split at hf
   ·cases hf
    have c0 := hm _ _ _ (hmm j 0 hj (by decide))
    have c1 := hm _ _ _ (hmm j 1 hj (by decide))
    have v0 := (hr j _ 0 _ he rfl).int_inv
    have v1 := (hr j _ 1 _ he rfl).int_inv
    rw [v0] at c0
    rw [v1] at c1
    exact ⟨c0, c1⟩
   ·cases hf
  ·cases hl
 ·cases hl
def At68 (B O : Nat) (steps : Int) (vs : List Bool) (fr : List (Int × Int)) (vf vr : Value) (w : World) : Prop := w.cell? ⟨B, O + 1, none⟩ = some (.int .i64 steps) ∧ w.cell? ⟨B, O + 3, none⟩ = some vf ∧ w.cell? ⟨B, O + 7, none⟩ = some vr ∧ VarsAt vs vf w ∧ PairsAt fr vr w
theorem walk75 (F : Fence) (n : Nat) (h75 : F.fn 77) (hro : F.round = none) (B O : Nat) (steps : Int) (w : World) (hc : w.cell? ⟨B, O + 1, none⟩ = some (.int .i64 steps)) :
    CallsIn F n Tryz.prog 77 #[.pointer (some ⟨B, O, none⟩)] w fun e w' => e = .returned (.int .i64 ((selN steps : Nat) : Int)) ∧ w' = w := by
 refine callsIn_of_wp Tryz.func77 rfl h75 ?_ hro
 simp only [Tryz.ntmps77, List.size_toArray, List.length_cons, List.length_nil, Nat.reduceAdd, Nat.reduceSub, Array.replicate_succ, Array.replicate_zero, List.push_toArray, List.append_toArray, List.nil_append, List.cons_append]
 have t3 := Tryz.underlying3; have a3 := Tryz.isAgg3; have z3 := Tryz.sizeOf3; have v3 := Tryz.zeroValue3; have t119 := Tryz.underlying176; have t30 := Tryz.underlying30
 have u3 := run_underlying Tryz.underlying3; have u119 := run_underlying Tryz.underlying176; have u30 := run_underlying Tryz.underlying30
 by_cases h1 : 1 < steps
 ·have hd : ((selN steps : Nat) : Int) = steps := by simp [selN, h1]; omega
  rw [hd]
  gi_wp2
  refine bodyPost_ret (results_tmp rfl _ _ _) rfl ?_
  exact ⟨rfl, rfl⟩
 ·have hd : selN steps = 0 := by simp [selN, h1]
  rw [hd]
  gi_wp2
  refine bodyPost_ret (results_tmp rfl _ _ _) rfl ?_
  exact ⟨rfl, rfl⟩

set_option maxRecDepth 100000 in
set_option maxHeartbeats 4000000 in
theorem walk68 (F : Fence) (n : Nat) (h68 : F.fn 66) (h75 : F.fn 77) (hro : F.round = none) (hn : 1 ≤ n) (steps : Int) (vs : List Bool) (fr : List (Int × Int)) (hst : steps < 4611686018427387904) (hfr : fr.length < 4611686018427387904) (hin : ∀ (i : Nat) p, fr[i]? = some p → 0 ≤ p.1 ∧ p.1 < (vs.length : Int))
    (L : List (Nat × Nat × Int × Int)) (hL : L = entsA vs fr steps.toNat 0 (selN steps)) (hbd : selN steps + L.length < 4611686018427387904) (lp B O : Nat) (J : Nat → (Nat → Prop) → World → Prop) (X : Ending → World → Prop) (w0 : World)
    (vf vr : Value) (hK : ∀ k fb A, J k fb A → At68 B O steps vs fr vf vr A)
    (hJ : ∀ k fb A B, J k fb A → RowKit.Below A.heap.size A B → J k (fun b => fb b ∨ (A.heap.size ≤ b ∧ b < B.heap.size)) B)
    (hY : ∀ k fb (x : Nat × Nat × Int × Int) A, L[k]? = some x → J k fb A → YieldAt F (n - 1) Tryz.prog lp #[.agg #[.int .i64 (x.1 : Int), .int .i64 (x.2.1 : Int), .int .i64 x.2.2.1, .int .i64 x.2.2.2]] A fun e B => (A.heap.size ≤ B.heap.size ∧ ∀ b, fb b → Stands b A B) ∧ ((e = .returned (.bool true) ∧ J (k + 1) fb B) ∨ (e = .returned (.bool false) ∧ X e B) ∨ ∃ ch, e = .panicked ch ∧ X e B))
    (h0 : J 0 (fun _ => False) w0) :
    CallsIn F n Tryz.prog 66 #[.pointer (some ⟨B, O, none⟩), .func (.yield lp) #[] #[]] w0 fun e B => ((∃ v, e = .returned v) ∧ ((∃ fb, J L.length fb B) ∨ X (.returned (.bool false)) B)) ∨ ∃ ch, e = .panicked ch ∧ X e B := by
 refine callsIn_of_wp Tryz.func66 rfl h68 ?_ hro
 simp only [Tryz.ntmps66, List.size_toArray, List.length_cons, List.length_nil, Nat.reduceAdd, Nat.reduceSub, Array.replicate_succ, Array.replicate_zero, List.push_toArray, List.append_toArray, List.nil_append, List.cons_append]
 have t3 := Tryz.underlying3; have a3 := Tryz.isAgg3; have z3 := Tryz.sizeOf3; have v3 := Tryz.zeroValue3; have t4 := Tryz.underlying4; have a4 := Tryz.isAgg4; have z4 := Tryz.sizeOf4; have v4 := Tryz.zeroValue4; have t23 := Tryz.underlying23; have a23 := Tryz.isAgg23; have z23 := Tryz.sizeOf23; have v23 := Tryz.zeroValue23; have t27 := Tryz.underlying27; have t30 := Tryz.underlying30; have t95 := Tryz.underlying43; have a95 := Tryz.isAgg43; have z95 := Tryz.sizeOf43; have t110 := Tryz.underlying141; have a110 := Tryz.isAgg141; have z110 := Tryz.sizeOf141; have t112 := Tryz.underlying143; have a112 := Tryz.isAgg143; have z112 := Tryz.sizeOf143; have v112 := Tryz.zeroValue143; have t119 := Tryz.underlying176; have t123 := Tryz.underlying140; have a123 := Tryz.isAgg140; have z123 := Tryz.sizeOf140; have v123 := Tryz.zeroValue140
 have u3 := run_underlying Tryz.underlying3; have u4 := run_underlying Tryz.underlying4; have u23 := run_underlying Tryz.underlying23; have u27 := run_underlying Tryz.underlying27; have u30 := run_underlying Tryz.underlying30; have u95 := run_underlying Tryz.underlying43; have u110 := run_underlying Tryz.underlying141; have u112 := run_underlying Tryz.underlying143; have u119 := run_underlying Tryz.underlying176; have u123 := run_underlying Tryz.underlying140
 obtain ⟨q1, q2, q3, q4, q5⟩ := hK 0 _ _ h0
 have hsel := walk75 F (n - 1) h75 hro B O steps w0 q1
 gi_wp2_with (gi_at_call 77; refine hsel.mono ?_; rintro e w' ⟨rfl, rfl⟩)
 clear hsel q2 q3 q4 q5 q1
 gi_loopw [4, 5, 7, 15] (fun v _ _ s wr => ∃ (i k : Nat) (fb : Nat → Prop), s = .int .i64 (i : Int) ∧ (i : Int) ≤ max steps 0 ∧ v = .int .i64 ((selN steps + k : Nat) : Int) ∧ entsA vs fr (steps.toNat - i) i (selN steps + k) = L.drop k ∧ k ≤ L.length ∧ J k fb wr)
  (fun _ _ _ s _ => restN steps.toNat s)
 case atStart =>
  exact ⟨0, 0, _, rfl, by omega, by simp, by rw [hL]; rfl, Nat.zero_le _, h0⟩
 case round =>
  obtain ⟨i, k, fb, rfl, hi, rfl, hk, hkle, hJk⟩ := hrel
  rcases Int.lt_or_le (i : Int) steps with hlt | hge
  ·have hst1 : steps.toNat - i = (steps.toNat - (i + 1)) + 1 := by omega
   rw [hst1] at hk
   simp only [entsA] at hk
   obtain ⟨q1, q2, q3, q4, q5⟩ := hK k fb wr hJk
   obtain ⟨adr, capr, rfl, hner⟩ := q5
   clear q4
   gi_wp2
   clear q1 q2 q3 hner
   gi_loopw [4, 7, 23] (fun v _ j wr2 => ∃ (j' k2 : Nat) (fb2 : Nat → Prop), j = .int .i64 (j' : Int) ∧ j' ≤ fr.length ∧ v = .int .i64 ((selN steps + k2 : Nat) : Int) ∧ ents vs i (fr.drop j') (selN steps + k2) ++ entsA vs fr (steps.toNat - (i + 1)) (i + 1) (selN steps + k2 + (ents vs i (fr.drop j') (selN steps + k2)).length) = L.drop k2 ∧ k2 ≤ L.length ∧ J k2 fb2 wr2)
    (fun _ _ j _ => restN fr.length j)
   case atStart => exact ⟨0, k, fb, rfl, Nat.zero_le _, rfl, by simpa using hk, hkle, hJk⟩
   case round =>
    clear hk hkle hJk
    obtain ⟨j, k2, fb2, rfl, hj, rfl, hk2, hkle2, hJ2⟩ := hrel
    rcases Nat.lt_or_ge j fr.length with hjl | hjg
    ·obtain ⟨⟨a, b⟩, hp⟩ : ∃ x, fr[j]? = some x := ⟨_, List.getElem?_eq_getElem hjl⟩
     obtain ⟨ha0, ha1⟩ := hin j _ hp
     simp only at ha0 ha1
     obtain ⟨q1, q2, q3, q4, q5⟩ := hK k2 fb2 _ hJ2
     obtain ⟨ad2, cap2, heq, hne2⟩ := q5
     cases heq
     obtain ⟨rb, ro, rfl, hc⟩ := hne2 (by intro e; subst e; simp at hjl)
     obtain ⟨hca, hcb⟩ := hc j _ hp
     clear hc hne2
     have hb1 : (j : Int) < (fr.length : Int) := by omega
     have hb0 : (0 : Int) ≤ (j : Int) := by omega
     rw [List.drop_eq_getElem_cons hjl, (List.getElem?_eq_some_iff.1 hp).2] at hk2
     simp only [ents] at hk2
     gi_wp2
     clear hca hcb hb1 hb0 q1 q2 q3 q4
     have hBel : RowKit.Below wr.heap.size wr (wr.alloc (Obj.cells #[Value.int IntKind.i64 a, Value.int IntKind.i64 b] 143)) := RowKit.Below.alloc (.refl _ _) (Nat.le_refl _) _
     have hJ3 := hJ _ _ _ _ hJ2 hBel
     have e0 : (wr.alloc (Obj.cells #[Value.int IntKind.i64 a, Value.int IntKind.i64 b] 143)).cell? ⟨wr.heap.size, 0, none⟩ = some (.int .i64 a) := by simp [go_sem]
     have e1 : (wr.alloc (Obj.cells #[Value.int IntKind.i64 a, Value.int IntKind.i64 b] 143)).cell? ⟨wr.heap.size, 1, none⟩ = some (.int .i64 b) := by simp [go_sem]
     generalize hW1 : wr.alloc (Obj.cells #[Value.int IntKind.i64 a, Value.int IntKind.i64 b] 143) = W1 at *
     generalize hfb : (fun b => fb2 b ∨ wr.heap.size ≤ b ∧ b < W1.heap.size) = fb3 at *
     generalize wr.heap.size = N1 at *
     clear hBel hW1 hfb hJ2
     obtain ⟨q1, q2, q3, ⟨adf, capf, rfl, hnf⟩, q5⟩ := hK _ _ _ hJ3
     obtain ⟨fb', fo, rfl, hcf⟩ := hnf (by intro e; subst e; simp at ha1; omega)
     obtain ⟨x, hx⟩ : ∃ x, vs[a.toNat]? = some x := ⟨_, List.getElem?_eq_getElem (by omega)⟩
     have hcx := hcf _ _ hx
     clear hcf hnf q1 q3 q5
     have hgd : vs.getD a.toNat false = x := by simp [List.getD, hx]
     by_cases hsk : skipE vs i a = true
     ·have hi0 : 0 < i ∧ x = false := by simpa [skipE, hx] using hsk
      obtain ⟨hi0, rfl⟩ := hi0
      have hii : (0 : Int) < (i : Int) := by omega
      rw [if_pos hsk] at hk2
      (refine wpIn_region_quiet_lit hro (by kernel_rfl) (by kernel_rfl) ?_
       repeat (gi_big_quiet_step (fail))
       refine wpQuietIn_nil ?_
       intro _ hw'
       obtain ⟨nq, hw''⟩ := hw'
       subst hw'')
      gi_wp2
      go_roundw
      case rel => exact ⟨j + 1, k2, _, by simp, hjl, rfl, hk2, hkle2, hJ _ _ _ _ hJ3 (below_drewN (.refl _ _) nq)⟩
      case measure => simp only [restN]; omega
     ·rw [if_neg hsk] at hk2
      have hget : L[k2]? = some (selN steps + k2 + 1, i, a, b) := by
       have := congrArg (·[0]?) hk2
       simpa [List.getElem?_drop] using this.symm
      have hnext : ents vs i (fr.drop (j + 1)) (selN steps + (k2 + 1)) ++ entsA vs fr (steps.toNat - (i + 1)) (i + 1) (selN steps + (k2 + 1) + (ents vs i (fr.drop (j + 1)) (selN steps + (k2 + 1))).length) = L.drop (k2 + 1) := by
       have := congrArg List.tail hk2
       simpa [Nat.add_assoc, Nat.add_comm 1] using this
      have hk2lt : k2 < L.length := (List.getElem?_eq_some_iff.1 hget).1
      clear hk2
      have hif : (decide (0 < i) = false) ∨ (0 < i ∧ x = true) := by
       cases x
       ·left
        refine decide_eq_false fun hi => ?_
        exact hsk (by simp [skipE, hx]; omega)
       ·rcases Nat.eq_zero_or_pos i with h | h
        ·exact .inl (by simp [h])
        ·exact .inr ⟨h, rfl⟩
      clear hsk hgd hx
      have hv1 : (0 : Int) ≤ (selN steps : Int) + (k2 : Int) := by omega
      have hv2 : (selN steps : Int) + (k2 : Int) + 1 < 4611686018427387904 := by omega
      rcases hif with hii | ⟨hii, rfl⟩
      all_goals
       (refine wpIn_region_quiet_lit hro (by kernel_rfl) (by kernel_rfl) ?_
        repeat (gi_big_quiet_step (fail))
        refine wpQuietIn_nil ?_
        intro _ hw'
        obtain ⟨nq, hw''⟩ := hw'
        subst hw'')
      all_goals have hJ4 := hJ _ _ _ _ hJ3 (below_drewN (.refl _ W1) nq)
      all_goals obtain ⟨fn, tmps, assign, body, hy, hR⟩ := hY k2 _ _ _ hget hJ4
      all_goals (simp at hy)
      all_goals gi_wp2
      all_goals refine hR.mono ?_
      all_goals rintro e W3 ⟨-, (⟨rfl, hJ5⟩ | ⟨rfl, hX3⟩ | ⟨ch, rfl, hX3⟩)⟩
      all_goals try gi_wp2
      all_goals first
       | exact ⟨⟨j + 1, k2 + 1, _, rfl, hjl, congrArg (Value.int .i64) (by omega), hnext, hk2lt, hJ5⟩, by simp only [restN]; omega⟩
       | exact ⟨rfl, Or.inr ⟨ch, rfl, hX3⟩⟩
       | exact ⟨rfl, Or.inr ⟨⟨ch, rfl⟩, hX3⟩⟩
       | (refine bodyPost_ret (results_none rfl _ _ _) rfl ?_; exact .inl ⟨⟨_, rfl⟩, .inr hX3⟩)
    ·have hb1 : ¬ (j : Int) < (fr.length : Int) := by omega
     gi_wp2
     have hje : j = fr.length := by omega
     subst hje
     rw [List.drop_length] at hk2
     simp only [ents, List.nil_append, List.length_nil, Nat.add_zero] at hk2
     refine ⟨⟨i + 1, k2, _, rfl, by omega, rfl, hk2, hkle2, hJ2⟩, ?_⟩
     simp only [restN]
     omega
  ·have hb1 : ¬ (i : Int) < steps := by omega
   gi_wp2
   go_end0
   have hz : steps.toNat - i = 0 := by omega
   rw [hz] at hk
   simp only [entsA] at hk
   have hkl : L.length ≤ k := by
    have := congrArg List.length hk
    rw [List.length_nil, List.length_drop] at this
    omega
   have hke : k = L.length := by omega
   rw [hke, hL] at hJk
   exact .inl ⟨⟨_, rfl⟩, .inl ⟨fb, hJk⟩⟩
theorem ent_en {γ : Gh} (x : Nat × Nat × Int × Int) : RepL γ #[Value.agg #[.int .i64 (x.1 : Int), .int .i64 (x.2.1 : Int), .int .i64 x.2.2.1, .int .i64 x.2.2.2]] (entD x) :=
 ⟨rfl, fun i d hd => match i with
  | 0 => by
   simp only [entD, List.getElem?_cons_zero, Option.some.injEq] at hd
   subst hd
   refine .p _ _ (.agg _ _ rfl (by simp [PD.one]) fun i d hd => ?_)
   match i with
   | 0 => cases hd; exact .int _ _
   | 1 => cases hd; exact .int _ _
   | 2 => cases hd; exact .int _ _
   | 3 => cases hd; exact .int _ _
   | i + 4 => simp at hd
  | i + 1 => by simp [entD] at hd⟩

variable {W : World} {G : Nat → Option (List PD)}
theorem gen68_ok : GenOk Tryz.prog W G 66 gen68 := by
 refine ⟨⟨Tryz.f66, Tryz.func66, by kernel_rfl, by kernel_rfl⟩, fun fi cap H xs hg γ w la lb I hra hrb => ?_⟩
 unfold gen68 at hg
 split at hg
 ·rename_i c0 steps c2 fs c4 c5 c6 fr
  split at hg
  ·rename_i vs free hv hf
   split at hg
   ·rename_i hc
    obtain ⟨hs, hfl, hal, hbd⟩ := hc
    cases hg
    have hlb : lb = #[] := Array.eq_empty_of_size_eq_zero hrb.1
    subst hlb
    obtain ⟨v, rfl, hv0⟩ := repL_one hra
    cases hv0 with
    | ro b o _ _ cs hm hr =>
     have c1 : cs 1 = .int .i64 steps := (hr 1 _ rfl).1.int_inv
     have fact : ∀ A, Kept W G γ H (capIds (.fn 66 [.ro [c0, .int .i64 steps, c2, fs, c4, c5, c6, fr] 0] []) H) A → At68 b o steps vs free (cs 3) (cs 7) A := by
      rintro A ⟨γ', H', L, I', _⟩
      refine ⟨?_, I'.toInv.mem _ _ _ (L.mem _ _ _ (hm 3 (by simp))), I'.toInv.mem _ _ _ (L.mem _ _ _ (hm 7 (by simp))), ?_, ?_⟩
      ·have := I'.toInv.mem _ _ _ (L.mem _ _ _ (hm 1 (by simp)))
       rw [c1] at this
       exact this
      ·exact varsOf_rep ((hr 3 fs rfl).1.mono L.mem) hv I'.toInv.mem
      ·exact pairsOf_rep ((hr 7 fr rfl).1.mono L.mem) hf I'.toInv.mem
     generalize hL : entsA vs free steps.toNat 0 (selN steps) = L at hbd
     refine ⟨fun k => match L[k]? with | some x => #[.agg #[.int .i64 (x.1 : Int), .int .i64 (x.2.1 : Int), .int .i64 x.2.2.1, .int .i64 x.2.2.2]] | none => #[], fun k x hx => ?_, fun lp J X w0 hB hKp hJ hT hX hXT hY h0 => ?_⟩
     ·simp only [List.getElem?_map, Option.map_eq_some_iff] at hx
      obtain ⟨p, hp, rfl⟩ := hx
      simp only [hp]
      exact ⟨rfl, fun γ' => ent_en p⟩
     ·have h := walk68 (wr none) 1 trivial trivial rfl (Nat.le_refl _) steps vs free hs hfl (fun i p hp => by
       have := List.all_eq_true.1 hal p (List.mem_of_getElem? hp)
       exact of_decide_eq_true this) L hL.symm hbd lp b o J X w0 (cs 3) (cs 7) (fun k fb A hj => fact A (hKp k fb A hj)) hJ (fun k fb x A hx hj => by
       have := hY k fb _ A (by rw [List.getElem?_map, hx]; rfl) hj
       simp only [hx] at this
       exact this) h0
      rw [List.length_map]
      exact callsIn_wr.2 (callsIn_wr.1 h)
   ·cases hg
  ·cases hg
 ·cases hg

end Go.Proofs.YtdnebeaeiimjlaaGreatDoor

namespace Go.Proofs.YtdnebeaeiimjlaaGreatDoor
open Go.Vs Go.RowKit Go.Shelf

attribute [local go_sem] Oper.semAt_some
theorem cell_lt {w : World} {a : Addr} {v : Value} (h : w.cell? a = some v) : a.block < w.heap.size := by
 unfold World.cell? at h
 split at h
 ·rename_i hb; exact (Array.getElem?_eq_some_iff.1 hb).1
 ·cases h
theorem SlAt.below {l : List Int} {v : Value} {w w' : World} (h : SlAt l v w) (hb : RowKit.Below w.heap.size w w') : SlAt l v w' := by
 obtain ⟨ad, cap, rfl, hcap, hne⟩ := h
 refine ⟨ad, cap, rfl, hcap, fun hl => ?_⟩
 obtain ⟨b, o, e, hc⟩ := hne hl
 refine ⟨b, o, e, fun j x hx => ?_⟩
 have := hc j x hx
 rw [hb.cell (cell_lt this)]
 exact this
theorem sumG_nonneg {l : List Int} (h : ∀ x ∈ l, 0 ≤ x) : 0 ≤ l.sum := by
 induction l with
 | nil => simp
 | cons a l ih =>
  have h1 := h a (by simp)
  have h2 := ih fun x hx => h x (by simp [hx])
  simp only [List.sum_cons]
  omega
theorem sum_take_le {l : List Int} (h : ∀ x ∈ l, 0 ≤ x) (n : Nat) : 0 ≤ (l.take n).sum ∧ (l.take n).sum ≤ l.sum := by
 have h1 := sumG_nonneg (l := l.take n) fun x hx => h x (List.mem_of_mem_take hx)
 have h2 := sumG_nonneg (l := l.drop n) fun x hx => h x (List.mem_of_mem_drop hx)
 have h3 : (l.take n).sum + (l.drop n).sum = l.sum := by rw [← List.sum_append, List.take_append_drop]
 exact ⟨h1, by omega⟩

set_option maxRecDepth 100000 in
set_option maxHeartbeats 2000000 in
theorem sum_call (F : Fence) (n : Nat) (h173 : F.fn 82) (hro : F.round = none) (l : List Int) (hlen : l.length < 4611686018427387904) (hp : ∀ x ∈ l, 0 ≤ x) (hs : l.sum < 4611686018427387904) (v : Value) (w : World) (h : SlAt l v w) :
    CallsIn F n Tryz.prog 82 #[v] w fun e w' => e = .returned (.int .i64 l.sum) ∧ w' = w := by
 refine callsIn_of_wp Tryz.func82 rfl h173 ?_ hro
 simp only [Tryz.ntmps82, List.size_toArray, List.length_cons, List.length_nil, Nat.reduceAdd, Nat.reduceSub, Array.replicate_succ, Array.replicate_zero, List.push_toArray, List.append_toArray, List.nil_append, List.cons_append]
 have t3 := Tryz.underlying3; have a3 := Tryz.isAgg3; have z3 := Tryz.sizeOf3; have v3 := Tryz.zeroValue3; have t4 := Tryz.underlying4; have a4 := Tryz.isAgg4; have z4 := Tryz.sizeOf4; have v4 := Tryz.zeroValue4; have t28 := Tryz.underlying28; have a28 := Tryz.isAgg28; have z28 := Tryz.sizeOf28; have v28 := Tryz.zeroValue28
 have u3 := run_underlying Tryz.underlying3; have u4 := run_underlying Tryz.underlying4; have u28 := run_underlying Tryz.underlying28
 obtain ⟨ad, cap, rfl, -, hne⟩ := h
 gi_wp2
 gi_loopw [3, 5, 8] (fun a _ i w' => ∃ j : Nat, i = .int .i64 (j : Int) ∧ j ≤ l.length ∧ a = .int .i64 (l.take j).sum ∧ w' = w)
  (fun _ _ i _ => restN l.length i)
 case atStart => exact ⟨0, rfl, Nat.zero_le _, rfl, rfl⟩
 case round =>
  obtain ⟨j, rfl, hj, rfl, rfl⟩ := hrel
  rcases Nat.lt_or_ge j l.length with hlt | hge
  ·obtain ⟨b, o, rfl, hc⟩ := hne (by intro e; subst e; simp at hlt)
   obtain ⟨x, hxi⟩ : ∃ x, l[j]? = some x := ⟨_, List.getElem?_eq_getElem hlt⟩
   have hx := hc j x hxi
   clear hc hne
   have hb1 : (j : Int) < (l.length : Int) := by omega
   have hb0 : (0 : Int) ≤ (j : Int) := by omega
   have ht : (l.take (j + 1)).sum = (l.take j).sum + x := by
    rw [List.take_add_one, hxi]
    simp
   have h1 := sum_take_le hp j
   have h2 := sum_take_le hp (j + 1)
   have hx0 := hp x (List.mem_of_getElem? hxi)
   rw [ht] at h2
   have h3 : (l.take j).sum + x < 4611686018427387904 := by omega
   gi_wp2
   go_roundw
   case rel => exact ⟨j + 1, by simp, hlt, by rw [ht], trivial⟩
   case measure => simp only [restN]; omega
  ·have hb1 : ¬ (j : Int) < (l.length : Int) := by omega
   have hje : j = l.length := by omega
   subst hje
   gi_wp2
   refine bodyPost_ret (results_tmp rfl _ _ _) rfl ?_
   exact ⟨rfl, rfl⟩

set_option maxRecDepth 100000 in
set_option maxHeartbeats 2000000 in
theorem atomsG_call (F : Fence) (n : Nat) (h112 : F.fn 38) (h173 : F.fn 82) (hro : F.round = none) (hn : 1 ≤ n) (l : List Int) (hlen : l.length < 4611686018427387904) (hp : ∀ x ∈ l, 0 ≤ x) (hs : l.sum < 4611686018427387904) (va vst : Value) (w : World) (h : SlAt l va w) :
    CallsIn F n Tryz.prog 38 #[.agg #[va, vst]] w fun e w' => e = .returned (.int .i64 l.sum) ∧ RowKit.Below w.heap.size w w' := by
 refine callsIn_of_wp Tryz.func38 rfl h112 ?_ hro
 simp only [Tryz.ntmps38, List.size_toArray, List.length_cons, List.length_nil, Nat.reduceAdd, Nat.reduceSub, Array.replicate_succ, Array.replicate_zero, List.push_toArray, List.append_toArray, List.nil_append, List.cons_append]
 have t3 := Tryz.underlying3; have a3 := Tryz.isAgg3; have z3 := Tryz.sizeOf3; have t28 := Tryz.underlying28; have a28 := Tryz.isAgg28; have z28 := Tryz.sizeOf28; have t30 := Tryz.underlying30; have a30 := Tryz.isAgg30; have z30 := Tryz.sizeOf30
 have v3 := Tryz.zeroValue3; have v28 := Tryz.zeroValue28
 have u3 := run_underlying Tryz.underlying3; have u28 := run_underlying Tryz.underlying28; have u30 := run_underlying Tryz.underlying30
 have hcall := fun w1 (hb : RowKit.Below w.heap.size w w1) => sum_call F (n - 1) h173 hro l hlen hp hs va w1 (h.below hb)
 have hB : ∀ o, RowKit.Below w.heap.size w (w.alloc o) := fun o => RowKit.Below.alloc (.refl _ _) (Nat.le_refl _) o
 gi_wp2_with (gi_at_call 82; refine (hcall _ (hB _)).mono ?_; rintro e w' ⟨rfl, rfl⟩)
 refine bodyPost_ret (results_tmp rfl _ _ _) rfl ?_
 exact ⟨rfl, hB _⟩

set_option maxRecDepth 100000 in
set_option maxHeartbeats 2000000 in
theorem first_call (F : Fence) (n : Nat) (h238 : F.fn 127) (h173 : F.fn 82) (hro : F.round = none) (hn : 1 ≤ n) (l : List Int) (hlen : l.length < 4611686018427387904) (hp : ∀ x ∈ l, 0 ≤ x) (hs : l.sum < 4611686018427387904) (s : Int) (hs0 : 0 ≤ s) (hs1 : s < (l.length : Int)) (va vst : Value) (w : World) (h : SlAt l va w) :
    CallsIn F n Tryz.prog 127 #[.agg #[va, vst], .int .i64 s] w fun e w' => e = .returned (.int .i64 (l.take s.toNat).sum) ∧ RowKit.Below w.heap.size w w' := by
 refine callsIn_of_wp Tryz.func127 rfl h238 ?_ hro
 simp only [Tryz.ntmps127, List.size_toArray, List.length_cons, List.length_nil, Nat.reduceAdd, Nat.reduceSub, Array.replicate_succ, Array.replicate_zero, List.push_toArray, List.append_toArray, List.nil_append, List.cons_append]
 have t3 := Tryz.underlying3; have a3 := Tryz.isAgg3; have z3 := Tryz.sizeOf3; have t28 := Tryz.underlying28; have a28 := Tryz.isAgg28; have z28 := Tryz.sizeOf28; have t30 := Tryz.underlying30; have a30 := Tryz.isAgg30; have z30 := Tryz.sizeOf30
 have v3 := Tryz.zeroValue3; have v28 := Tryz.zeroValue28
 have u3 := run_underlying Tryz.underlying3; have u28 := run_underlying Tryz.underlying28; have u30 := run_underlying Tryz.underlying30
 have hB : ∀ o, RowKit.Below w.heap.size w (w.alloc o) := fun o => RowKit.Below.alloc (.refl _ _) (Nat.le_refl _) o
 obtain ⟨ad, cap, rfl, hcap, hne⟩ := h
 have hl0 : l ≠ [] := by intro e; subst e; simp at hs1; omega
 obtain ⟨b, o, rfl, hc⟩ := hne hl0
 have hcap1 : s ≤ (cap : Int) := by omega
 have hS : ∀ w1, RowKit.Below w.heap.size w w1 → SlAt (l.take s.toNat) (.slice (some ⟨b, o, none⟩) s.toNat cap) w1 := fun w1 hb => by
  refine ⟨_, _, by rw [List.length_take, Nat.min_eq_left (by omega)], by rw [List.length_take]; omega, fun _ => ⟨b, o, rfl, fun j x hx => ?_⟩⟩
  have hx' : l[j]? = some x := by
   rw [List.getElem?_take] at hx
   split at hx
   ·exact hx
   ·cases hx
  have := hc j x hx'
  rw [hb.cell (cell_lt this)]
  exact this
 have hsum := sum_take_le hp s.toNat
 have hcall := fun w1 (hb : RowKit.Below w.heap.size w w1) => sum_call F (n - 1) h173 hro (l.take s.toNat) (by rw [List.length_take]; omega) (fun x hx => hp x (List.mem_of_mem_take hx)) (by omega) _ w1 (hS w1 hb)
 gi_wp2_with (gi_at_call 82; refine (hcall _ (hB _)).mono ?_; rintro e w' ⟨rfl, rfl⟩)
 refine bodyPost_ret (results_tmp rfl _ _ _) rfl ?_
 exact ⟨rfl, hB _⟩

set_option maxRecDepth 100000 in
set_option maxHeartbeats 2000000 in
theorem tuples_call (F : Fence) (n : Nat) (h178 : F.fn 87) (hro : F.round = none) (p : Int) (va vst : Value) (ad : Option Addr) (k cap : Nat) (w : World) :
    CallsIn F n Tryz.prog 87 #[.agg #[va, vst], .int .i64 p, .slice ad k cap] w fun e w' => ∃ c1 c2 c3, e = .returned (.func (.func 126) #[] #[.pointer (some ⟨c1, 0, none⟩), .pointer (some ⟨c2, 0, none⟩), .pointer (some ⟨c3, 0, none⟩)]) ∧ RowKit.Below w.heap.size w w' ∧
     (w.heap.size ≤ c1 ∧ w.heap.size ≤ c2 ∧ w.heap.size ≤ c3) ∧ w'.cell? ⟨c1, 0, none⟩ = some (.slice ad k cap) ∧ w'.cell? ⟨c2, 0, none⟩ = some (.int .i64 p) ∧ w'.cell? ⟨c3, 0, none⟩ = some va ∧ w'.cell? ⟨c3, 1, none⟩ = some vst := by
 refine callsIn_of_wp Tryz.func87 rfl h178 ?_ hro
 simp only [Tryz.ntmps87, List.size_toArray, List.length_cons, List.length_nil, Nat.reduceAdd, Nat.reduceSub, Array.replicate_succ, Array.replicate_zero, List.push_toArray, List.append_toArray, List.nil_append, List.cons_append]
 have t3 := Tryz.underlying3; have a3 := Tryz.isAgg3; have z3 := Tryz.sizeOf3; have t28 := Tryz.underlying28; have a28 := Tryz.isAgg28; have z28 := Tryz.sizeOf28; have t30 := Tryz.underlying30; have a30 := Tryz.isAgg30; have z30 := Tryz.sizeOf30; have t245 := Tryz.underlying155; have a245 := Tryz.isAgg155; have z245 := Tryz.sizeOf155; have t228 := Tryz.underlying94; have a228 := Tryz.isAgg94; have z228 := Tryz.sizeOf94
 have v3 := Tryz.zeroValue3; have v28 := Tryz.zeroValue28
 have u3 := run_underlying Tryz.underlying3; have u28 := run_underlying Tryz.underlying28; have u30 := run_underlying Tryz.underlying30; have u245 := run_underlying Tryz.underlying155; have u228 := run_underlying Tryz.underlying94
 gi_wp2
 refine bodyPost_ret (results_tmp rfl _ _ _) rfl ?_
 refine ⟨_, _, _, rfl, RowKit.Below.alloc (RowKit.Below.alloc (RowKit.Below.alloc (.refl _ _) (Nat.le_refl _) _) (by simp) _) (by simp; omega) _, ⟨by omega, by omega, by omega⟩, ?_, ?_, ?_, ?_⟩
 all_goals simp [go_sem]
structure Mine (fb : Nat → Prop) (A : World) (C : List (Nat × Nat × Value)) (O : List (Nat × Obj)) : Prop where
 cells : ∀ x ∈ C, fb x.1 ∧ A.cell? ⟨x.1, x.2.1, none⟩ = some x.2.2
 objs : ∀ x ∈ O, fb x.1 ∧ Obj.plainO x.2 = true ∧ A.heap[x.1]? = some x.2

section
variable {fb : Nat → Prop} {A B : World} {C C' : List (Nat × Nat × Value)} {O O' : List (Nat × Obj)}
theorem Mine.nil : Mine fb A [] [] := ⟨fun _ h => (List.not_mem_nil h).elim, fun _ h => (List.not_mem_nil h).elim⟩
theorem Mine.app (h : Mine fb A C O) (h' : Mine fb A C' O') : Mine fb A (C' ++ C) (O' ++ O) :=
 ⟨fun x hx => (List.mem_append.1 hx).elim (h'.cells x) (h.cells x), fun x hx => (List.mem_append.1 hx).elim (h'.objs x) (h.objs x)⟩
theorem Mine.sub (h : Mine fb A C O) (hc : ∀ x ∈ C', x ∈ C) (ho : ∀ x ∈ O', x ∈ O) : Mine fb A C' O' :=
 ⟨fun x hx => h.cells x (hc x hx), fun x hx => h.objs x (ho x hx)⟩
theorem Mine.fbs {fb' : Nat → Prop} (h : Mine fb A C O) (hf : ∀ b, fb b → fb' b) : Mine fb' A C O :=
 ⟨fun x hx => ⟨hf _ (h.cells x hx).1, (h.cells x hx).2⟩, fun x hx => ⟨hf _ (h.objs x hx).1, (h.objs x hx).2⟩⟩
theorem Mine.below (h : Mine fb A C O) (hb : RowKit.Below A.heap.size A B) : Mine fb B C O :=
 ⟨fun x hx => ⟨(h.cells x hx).1, by rw [hb.cell (cell_lt (h.cells x hx).2)]; exact (h.cells x hx).2⟩,
  fun x hx => ⟨(h.objs x hx).1, (h.objs x hx).2.1, by rw [hb.block x.1 (Array.getElem?_eq_some_iff.1 (h.objs x hx).2.2).1]; exact (h.objs x hx).2.2⟩⟩
theorem Mine.stands (h : Mine fb A C O) (hs : ∀ b, fb b → Stands b A B) : Mine fb B C O :=
 ⟨fun x hx => ⟨(h.cells x hx).1, by rw [(hs _ (h.cells x hx).1).1]; exact (h.cells x hx).2⟩,
  fun x hx => ⟨(h.objs x hx).1, (h.objs x hx).2.1, (hs _ (h.objs x hx).1).2 _ (h.objs x hx).2.2 (h.objs x hx).2.1⟩⟩
theorem Mine.turn (h : Mine fb A C O) {b : Nat} {o o' : Obj} (hb : A.heap[b]? = some o) (ho : Obj.plainO o = true) (hn : ∀ x ∈ O, x.1 ≠ b) : Mine fb (A.putObj b o') C O := by
 refine ⟨fun x hx => ⟨(h.cells x hx).1, ?_⟩, fun x hx => ⟨(h.objs x hx).1, (h.objs x hx).2.1, ?_⟩⟩
 ·have q := (h.cells x hx).2
  have hne : x.1 ≠ b := fun e => by
   rw [e] at q
   simp only [World.cell?, hb] at q
   cases o <;> first | (cases ho; done) | (simp at q)
  rw [cellO (w := A) (World.putObj_heap_other hne)]
  exact q
 ·rw [World.putObj_heap_other (hn x hx)]
  exact (h.objs x hx).2.2
end
theorem first_call' (l : List Int) (hlen : l.length < 4611686018427387904) (hp : ∀ x ∈ l, 0 ≤ x) (hs : l.sum < 4611686018427387904) (s : Int) (hs0 : 0 ≤ s) (hs1 : s < (l.length : Int)) (va vst : Value) (w : World) (h : SlAt l va w) :
    Calls Tryz.prog 127 #[.agg #[va, vst], .int .i64 s] w fun e w' => e = .returned (.int .i64 (l.take s.toNat).sum) ∧ RowKit.Below w.heap.size w w' :=
 callsIn_wr.1 (first_call (wr none) 1 trivial trivial rfl (Nat.le_refl _) l hlen hp hs s hs0 hs1 va vst w h)
theorem atomsG_call' (l : List Int) (hlen : l.length < 4611686018427387904) (hp : ∀ x ∈ l, 0 ≤ x) (hs : l.sum < 4611686018427387904) (va vst : Value) (w : World) (h : SlAt l va w) :
    Calls Tryz.prog 38 #[.agg #[va, vst]] w fun e w' => e = .returned (.int .i64 l.sum) ∧ RowKit.Below w.heap.size w w' :=
 callsIn_wr.1 (atomsG_call (wr none) 1 trivial trivial rfl (Nat.le_refl _) l hlen hp hs va vst w h)
theorem tuples_call' (p : Int) (va vst : Value) (ad : Option Addr) (k cap : Nat) (w : World) :
    Calls Tryz.prog 87 #[.agg #[va, vst], .int .i64 p, .slice ad k cap] w fun e w' => ∃ c1 c2 c3, e = .returned (.func (.func 126) #[] #[.pointer (some ⟨c1, 0, none⟩), .pointer (some ⟨c2, 0, none⟩), .pointer (some ⟨c3, 0, none⟩)]) ∧ RowKit.Below w.heap.size w w' ∧
     (w.heap.size ≤ c1 ∧ w.heap.size ≤ c2 ∧ w.heap.size ≤ c3) ∧ w'.cell? ⟨c1, 0, none⟩ = some (.slice ad k cap) ∧ w'.cell? ⟨c2, 0, none⟩ = some (.int .i64 p) ∧ w'.cell? ⟨c3, 0, none⟩ = some va ∧ w'.cell? ⟨c3, 1, none⟩ = some vst :=
 callsIn_wr.1 (tuples_call (wr none) 1 trivial rfl p va vst ad k cap w)
theorem below_drew {B : Nat} {a w : World} (h : RowKit.Below B a w) : RowKit.Below B a w.drew := ⟨h.os, h.tape, h.output, h.size, h.block⟩
theorem keep3 {c1 c2 c3 c4 : Addr} {v1 v2 v3 v4 : Value} {l : List Int} {va : Value} {W w w' : World}
    (h : w.cell? c1 = some v1 ∧ w.cell? c2 = some v2 ∧ w.cell? c3 = some v3 ∧ w.cell? c4 = some v4 ∧ SlAt l va w ∧ RowKit.Below W.heap.size W w) (hb : RowKit.Below w.heap.size w w') :
    w'.cell? c1 = some v1 ∧ w'.cell? c2 = some v2 ∧ w'.cell? c3 = some v3 ∧ w'.cell? c4 = some v4 ∧ SlAt l va w' ∧ RowKit.Below W.heap.size W w' := by
 obtain ⟨h1, h2, h3, h4, h5, h6⟩ := h
 exact ⟨by rw [hb.cell (cell_lt h1)]; exact h1, by rw [hb.cell (cell_lt h2)]; exact h2, by rw [hb.cell (cell_lt h3)]; exact h3, by rw [hb.cell (cell_lt h4)]; exact h4, h5.below hb, h6.trans (hb.mono h6.size)⟩
theorem SlAt.tail {s : Int} {r : List Int} {sb so cap : Nat} {A : World} {adn : Option Addr} (h : SlAt (s :: r) (.slice (some ⟨sb, so, none⟩) (s :: r).length cap) A) (hadn : (if cap = 1 then some (⟨sb, so, none⟩ : Addr) else some ⟨sb, so + 1, none⟩) = adn) : SlAt r (.slice adn r.length (cap - 1)) A := by
 obtain ⟨ad, cp, heq, hcp, hne⟩ := h
 cases heq
 simp only [List.length_cons] at hcp
 refine ⟨_, _, rfl, by omega, fun hr => ?_⟩
 have h1 : cap ≠ 1 := fun e => hr (List.eq_nil_of_length_eq_zero (by omega))
 rw [if_neg h1] at hadn
 obtain ⟨b, o, heq, hc⟩ := hne (by simp)
 cases heq
 refine ⟨sb, so + 1, hadn.symm, fun j x hx => ?_⟩
 have := hc (j + 1) x (by simpa using hx)
 rw [show so + 1 + j = so + (j + 1) by omega]
 exact this
theorem stands_trans {b : Nat} {A B C : World} (h : Stands b A B) (k : Stands b B C) : Stands b A C :=
 ⟨fun o => (k.1 o).trans (h.1 o), fun o h1 h2 => k.2 o (h.2 o h1 h2) h2⟩
theorem stands_put {b l : Nat} {A : World} {o : Obj} (h : b ≠ l) : Stands b A (A.putObj l o) :=
 ⟨fun _ => cellO (World.putObj_heap_other h) _, fun _ h1 _ => (World.putObj_heap_other h).trans h1⟩
def At237 (p1 p2 p3 : Nat × Nat) (ss : List Int) (p : Int) (ats : List Int) (vs va vst : Value) (w : World) : Prop :=
 w.cell? ⟨p1.1, p1.2, none⟩ = some vs ∧ w.cell? ⟨p2.1, p2.2, none⟩ = some (.int .i64 p) ∧ w.cell? ⟨p3.1, p3.2, none⟩ = some va ∧ w.cell? ⟨p3.1, p3.2 + 1, none⟩ = some vst ∧ SlAt ss vs w ∧ SlAt ats va w
def tm237 (t0 t1 t2 t3 t4 t5 t6 : Value) (U : Nat → Value) : Array Value := #[t0, t1, t2, t3, t4, t5, t6, U 7, U 8, U 9, U 10, U 11, U 12, U 13, U 14, U 15, U 16, U 17, U 18, U 19, U 20, U 21, U 22, U 23, U 24, U 25, U 26, U 27, U 28, U 29, U 30, U 31, U 32, U 33, U 34, U 35, U 36, U 37, U 38, U 39, U 40, U 41, U 42, U 43, U 44, U 45, U 46, U 47]
theorem tm237_def (t0 t1 t2 t3 t4 t5 t6 : Value) (U : Nat → Value) : tm237 t0 t1 t2 t3 t4 t5 t6 U = #[t0, t1, t2, t3, t4, t5, t6, U 7, U 8, U 9, U 10, U 11, U 12, U 13, U 14, U 15, U 16, U 17, U 18, U 19, U 20, U 21, U 22, U 23, U 24, U 25, U 26, U 27, U 28, U 29, U 30, U 31, U 32, U 33, U 34, U 35, U 36, U 37, U 38, U 39, U 40, U 41, U 42, U 43, U 44, U 45, U 46, U 47] := rfl
theorem act237_eq {arr : Array Value} {ds : List Deferred} (h : arr.size = 48) : ({ tmps := arr, defers := ds } : Act) = { tmps := tm237 (arr.getD 0 undef) (arr.getD 1 undef) (arr.getD 2 undef) (arr.getD 3 undef) (arr.getD 4 undef) (arr.getD 5 undef) (arr.getD 6 undef) (fun i => arr.getD i undef), defers := ds } := by
 have e : arr = tm237 (arr.getD 0 undef) (arr.getD 1 undef) (arr.getD 2 undef) (arr.getD 3 undef) (arr.getD 4 undef) (arr.getD 5 undef) (arr.getD 6 undef) (fun i => arr.getD i undef) := by
  apply Array.ext
  ·rw [h]; rfl
  ·intro i h1 h2
   have hi : i < 48 := by omega
   have hg : arr[i] = arr.getD i undef := by simp [Array.getD, h1]
   rw [hg]
   match i, hi with
   | 0, _ => rfl
   | 1, _ => rfl
   | 2, _ => rfl
   | 3, _ => rfl
   | 4, _ => rfl
   | 5, _ => rfl
   | 6, _ => rfl
   | 7, _ => rfl
   | 8, _ => rfl
   | 9, _ => rfl
   | 10, _ => rfl
   | 11, _ => rfl
   | 12, _ => rfl
   | 13, _ => rfl
   | 14, _ => rfl
   | 15, _ => rfl
   | 16, _ => rfl
   | 17, _ => rfl
   | 18, _ => rfl
   | 19, _ => rfl
   | 20, _ => rfl
   | 21, _ => rfl
   | 22, _ => rfl
   | 23, _ => rfl
   | 24, _ => rfl
   | 25, _ => rfl
   | 26, _ => rfl
   | 27, _ => rfl
   | 28, _ => rfl
   | 29, _ => rfl
   | 30, _ => rfl
   | 31, _ => rfl
   | 32, _ => rfl
   | 33, _ => rfl
   | 34, _ => rfl
   | 35, _ => rfl
   | 36, _ => rfl
   | 37, _ => rfl
   | 38, _ => rfl
   | 39, _ => rfl
   | 40, _ => rfl
   | 41, _ => rfl
   | 42, _ => rfl
   | 43, _ => rfl
   | 44, _ => rfl
   | 45, _ => rfl
   | 46, _ => rfl
   | 47, _ => rfl
   | n + 48, hi => exact absurd hi (by omega)
 exact congrArg (fun t => ({ tmps := t, defers := ds } : Act)) e
theorem wp_behind {P : Program} {c : Code} {Q : Exit → Act → World → Prop} {a : Act} {w : World} (h : ∀ Q' : Exit → Act → World → Prop, (∀ e a w, Q e a w → Q' e a w ∨ False) → c.wp P Q' a w) : c.wp P Q a w := h Q fun _ _ _ q => .inl q
theorem wpR_loop_rel {P : Program} {ro : Option Nat} {fid : Nat} {c : Code} {Q : Exit → Act → World → Prop} {Rel : Nat → Act → World → Prop}
    (h : ∀ i a w, Rel i a w → wpR ro fid P c (Exit.then (fun a w => ∃ i', i = i' + 1 ∧ Rel i' a w) Q) a w) {m : Nat} {a : Act} {w : World} (h0 : Rel m a w) : wpR ro fid P (.loop c) Q a w := by
 refine wpR_loop (m + 1) fun R _ hs => ?_
 have key : ∀ i a w, Rel i a w → R (i + 1) a w := by
  intro i
  induction i with
  | zero =>
   intro a w hr
   refine hs 0 a w (wpR_mono (h 0 a w hr) fun e a w q => ?_)
   cases e with
   | normal => obtain ⟨i', e, _⟩ := q; omega
   | _ => exact q
  | succ i ih =>
   intro a w hr
   refine hs (i + 1) a w (wpR_mono (h (i + 1) a w hr) fun e a w q => ?_)
   cases e with
   | normal =>
    obtain ⟨i', e, q⟩ := q
    have : i = i' := by omega
    subst this
    exact ih a w q
   | _ => exact q
 exact key m a w h0
theorem wpR_range' {P : Program} {fid : Nat} {g : Operand} {ps : Array Tmp} {asg body : Code} {Q : Exit → Act → World → Prop} {a : Act} {w : World} {gf : Nat} {la lb : Array Value} (hg : a.eval g = .func (.func gf) la lb) (hent : Vs.Enters P gf)
    (h : ∀ rec : Loop, rec = { state := .ready, pending := none, fn := fid, tmps := a.tmps, params := ps, assign := asg, body, defers := w.heap.size } →
     Calls P gf (la ++ #[.func (.yield (w.heap.size + 1)) #[] #[]] ++ lb) ((w.alloc (.deferred (some []))).alloc (.loop rec)) fun e B => match e with
     | .returned _ => ∃ jump w4, (Instr.endLoop (w.heap.size + 1)).run P B = .ok jump w4 ∧ (match jump with
      | none => Q .normal { a with defers := Vs.mark w.heap.size :: a.defers } w4
      | some c => wpR none fid P c Q { a with defers := Vs.mark w.heap.size :: a.defers } w4)
     | .panicked ch => Q (.panic ch) { a with defers := Vs.mark w.heap.size :: a.defers } B
     | .outgrown => False) : wpR none fid P (.rangeFunc g ps asg body) Q a w := wpR_range hg hent (h _ rfl)
theorem roundIn_wr {ro : Option Nat} {n : Nat} {P : Program} {l : Nat} {f : FuncId} {tmps : Array Value} {assign body : Code} {w : World} {R : Ending → World → Prop} (h : RoundIn (wr none) n P l f tmps assign body w R) : RoundIn (wr ro) n P l f tmps assign body w R := h
theorem leaves_own {P : Program} {fn : Func} {tmps : Array Value} {R : Ending → World → Prop} {u : FrameMode} {K : World → Prop} (hu : u ≠ .run) (hK : ∀ w, K w → Leaves P fn tmps R [] u w) :
    ∀ (ms : List Nat) (w : World), K w → ms.Nodup → (∀ m ∈ ms, w.heap[m]? = some (.deferred (some []))) → (∀ w m, m ∈ ms → K w → w.heap[m]? = some (.deferred (some [])) → K (w.putObj m (.deferred none))) → LvM P fn tmps R (ms.map Vs.mark) u w
 | [], w, h, _, _, _ => lvM_of (hK w h)
 | m :: ms, w, h, hn, hm, hT => by
  obtain ⟨h1, h2⟩ := List.nodup_cons.1 hn
  have g2 := hm m (by simp)
  refine .inl ⟨hu, m, w.putObj m (.deferred none), rfl, run_takeDeferred g2, ?_⟩
  refine leaves_own hu hK ms _ (hT w m (by simp) h g2) h2 (fun k hk => ?_) fun w k hk => hT w k (by simp [hk])
  exact (World.putObj_heap_other (fun e => h1 (by rw [← e]; exact hk))).trans (hm k (by simp [hk]))

set_option maxRecDepth 100000 in
set_option maxHeartbeats 4000000 in
theorem walk237 (ats : List Int) (hal : ∀ x ∈ ats, 0 ≤ x) (hsum : ats.sum < 4611686018427387904) (hlen : ats.length < 4611686018427387904) : ∀ (ss : List Int), ss.length < 4611686018427387904 → (∀ s ∈ ss, 0 ≤ s ∧ s < (ats.length : Int)) →
    ∀ (p : Int) (lp : Nat) (p1 p2 p3 : Nat × Nat) (vs va vst : Value) (J : Nat → (Nat → Prop) → World → Prop) (X : Ending → World → Prop) (w0 : World),
     (∀ k fb A, J k fb A → At237 p1 p2 p3 ss p ats vs va vst A) →
     (∀ k fb A B, J k fb A → RowKit.Below A.heap.size A B → J k (fun b => fb b ∨ (A.heap.size ≤ b ∧ b < B.heap.size)) B) →
     (∀ k fb A b o o', J k fb A → fb b → A.heap[b]? = some o → Obj.plainO o = true → J k fb (A.putObj b o')) → (∀ e A B, X e A → RowKit.Below A.heap.size A B → X e B) →
     (∀ e A b o o', X e A → w0.heap.size ≤ b → A.heap[b]? = some o → Obj.plainO o = true → X e (A.putObj b o')) →
     (∀ k fb x A, (tupL ats ss p)[k]? = some x → J k fb A → YieldAt (wr none) 0 Tryz.prog lp #[.int .i64 x] A fun e B => (A.heap.size ≤ B.heap.size ∧ ∀ b, fb b → Stands b A B) ∧ ((e = .returned (.bool true) ∧ J (k + 1) fb B) ∨ (e = .returned (.bool false) ∧ X e B) ∨ ∃ ch, e = .panicked ch ∧ X e B)) →
     J 0 (fun _ => False) w0 →
     Calls Tryz.prog 126 #[.func (.yield lp) #[] #[], .pointer (some ⟨p1.1, p1.2, none⟩), .pointer (some ⟨p2.1, p2.2, none⟩), .pointer (some ⟨p3.1, p3.2, none⟩)] w0 fun e B => ((∃ v, e = .returned v) ∧ ((∃ fb, J (tupL ats ss p).length fb B) ∨ X (.returned (.bool false)) B)) ∨ ∃ ch, e = .panicked ch ∧ X e B
 | [], _, _, p, lp, p1, p2, p3, vs, va, vst, J, X, w0, hK, hJ, hT, hX, hXT, hY, h0 => by
  have hc : CallsIn (wr none) 1 Tryz.prog 126 #[.func (.yield lp) #[] #[], .pointer (some ⟨p1.1, p1.2, none⟩), .pointer (some ⟨p2.1, p2.2, none⟩), .pointer (some ⟨p3.1, p3.2, none⟩)] w0 fun e B => ((∃ v, e = .returned v) ∧ ((∃ fb, J (tupL ats [] p).length fb B) ∨ X (.returned (.bool false)) B)) ∨ ∃ ch, e = .panicked ch ∧ X e B := by
   refine callsIn_of_wp Tryz.func126 rfl trivial ?_ rfl
   simp only [Tryz.ntmps126, List.size_toArray, List.length_cons, List.length_nil, Nat.reduceAdd, Nat.reduceSub, Array.replicate_succ, Array.replicate_zero, List.push_toArray, List.append_toArray, List.nil_append, List.cons_append]
   have t3 := Tryz.underlying3; have a3 := Tryz.isAgg3; have z3 := Tryz.sizeOf3; have t4 := Tryz.underlying4; have a4 := Tryz.isAgg4; have z4 := Tryz.sizeOf4; have t28 := Tryz.underlying28; have a28 := Tryz.isAgg28; have z28 := Tryz.sizeOf28; have t30 := Tryz.underlying30; have a30 := Tryz.isAgg30; have z30 := Tryz.sizeOf30; have t135 := Tryz.underlying95; have a135 := Tryz.isAgg95; have z135 := Tryz.sizeOf95; have v3 := Tryz.zeroValue3; have v4 := Tryz.zeroValue4; have v28 := Tryz.zeroValue28; have v135 := Tryz.zeroValue95; have u3 := run_underlying Tryz.underlying3; have u4 := run_underlying Tryz.underlying4; have u28 := run_underlying Tryz.underlying28; have u30 := run_underlying Tryz.underlying30; have u135 := run_underlying Tryz.underlying95
   have hro : (wr none).round = none := rfl
   have hB1 : RowKit.Below w0.heap.size w0 (w0.alloc (Obj.cells #[Value.func (.yield lp) #[] #[]] 95)) := RowKit.Below.alloc (.refl _ _) (Nat.le_refl _) _
   have hJ1 := hJ _ _ _ _ h0 hB1
   have hce : (w0.alloc (Obj.cells #[Value.func (.yield lp) #[] #[]] 95)).cell? ⟨w0.heap.size, 0, none⟩ = some (.func (.yield lp) #[] #[]) := by simp [go_sem]
   obtain ⟨q1, q2, q3, q4, ⟨ad, cap, rfl, hcap, hne⟩, q6⟩ := hK _ _ _ hJ1
   clear hne q6 q3 q4
   obtain ⟨fn, tmps, assign, body, hy, hR⟩ := hY 0 _ p _ rfl hJ1
   gi_wp2
   refine hR.mono ?_
   rintro e W3 ⟨-, (⟨rfl, hJ3⟩ | ⟨rfl, hX3⟩ | ⟨ch, rfl, hX3⟩)⟩
   ·gi_wp2
    refine bodyPost_ret (results_none rfl _ _ _) rfl ?_
    exact .inl ⟨⟨_, rfl⟩, .inl ⟨_, hJ3⟩⟩
   ·gi_wp2
    refine bodyPost_ret (results_none rfl _ _ _) rfl ?_
    exact .inl ⟨⟨_, rfl⟩, .inr hX3⟩
   ·gi_wp2
    first
     | exact ⟨rfl, Or.inr ⟨ch, rfl, hX3⟩⟩
     | exact ⟨rfl, Or.inr ⟨⟨ch, rfl⟩, hX3⟩⟩
  exact callsIn_wr.1 hc
 | s :: r, hsl, hss, p, lp, p1, p2, p3, vs, va, vst, J, X, w0, hK, hJ, hT, hX, hXT, hY, h0 => by
  have IH := walk237 ats hal hsum hlen r (by simp at hsl; omega) (fun s hs => hss s (by simp [hs]))
  obtain ⟨hs0, hs1⟩ := hss s (by simp)
  refine calls_of_R Tryz.func126 rfl ?_
  simp only [Tryz.ntmps126, List.size_toArray, List.length_cons, List.length_nil, Nat.reduceAdd, Nat.reduceSub, Array.replicate_succ, Array.replicate_zero, List.push_toArray, List.append_toArray, List.nil_append, List.cons_append]
  have t3 := Tryz.underlying3; have a3 := Tryz.isAgg3; have z3 := Tryz.sizeOf3; have t4 := Tryz.underlying4; have a4 := Tryz.isAgg4; have z4 := Tryz.sizeOf4; have t28 := Tryz.underlying28; have a28 := Tryz.isAgg28; have z28 := Tryz.sizeOf28; have t30 := Tryz.underlying30; have a30 := Tryz.isAgg30; have z30 := Tryz.sizeOf30; have t135 := Tryz.underlying95; have a135 := Tryz.isAgg95; have z135 := Tryz.sizeOf95; have v3 := Tryz.zeroValue3; have v4 := Tryz.zeroValue4; have v28 := Tryz.zeroValue28; have v135 := Tryz.zeroValue95; have u3 := run_underlying Tryz.underlying3; have u4 := run_underlying Tryz.underlying4; have u28 := run_underlying Tryz.underlying28; have u30 := run_underlying Tryz.underlying30; have u135 := run_underlying Tryz.underlying95
  have hB1 : RowKit.Below w0.heap.size w0 (w0.alloc (Obj.cells #[Value.func (.yield lp) #[] #[]] 95)) := RowKit.Below.alloc (.refl _ _) (Nat.le_refl _) _
  have hJ1 := hJ _ _ _ _ h0 hB1
  have hce : (w0.alloc (Obj.cells #[Value.func (.yield lp) #[] #[]] 95)).cell? ⟨w0.heap.size, 0, none⟩ = some (.func (.yield lp) #[] #[]) := by simp [go_sem]
  generalize hQ : bodyM Tryz.prog Tryz.f126 (fun e B => ((∃ v, e = Ending.returned v) ∧ ((∃ fb, J (tupL ats (s :: r) p).length fb B) ∨ X (Ending.returned (Value.bool false)) B)) ∨ ∃ ch, e = Ending.panicked ch ∧ X e B) = Q
  refine wpR_seq (wpR_of_wp ?_)
  go_wp2
  have hsz1 : w0.heap.size < (w0.alloc (Obj.cells #[Value.func (.yield lp) #[] #[]] 95)).heap.size := by simp
  have hM1 : Mine (fun b => False ∨ (w0.heap.size ≤ b ∧ b < (w0.alloc (Obj.cells #[Value.func (.yield lp) #[] #[]] 95)).heap.size)) (w0.alloc (Obj.cells #[Value.func (.yield lp) #[] #[]] 95)) [(w0.heap.size, 0, .func (.yield lp) #[] #[])] [] :=
   ⟨fun x hx => by rw [List.mem_singleton] at hx; subst hx; exact ⟨.inr ⟨Nat.le_refl _, hsz1⟩, hce⟩, fun x hx => (List.not_mem_nil hx).elim⟩
  have hw01 := hB1.size
  generalize w0.alloc (Obj.cells #[Value.func (.yield lp) #[] #[]] 95) = W1 at *
  generalize (fun b => False ∨ (w0.heap.size ≤ b ∧ b < W1.heap.size)) = fb1 at *
  obtain ⟨q1, q2, q3, q4, q5, q6⟩ := hK _ _ _ hJ1
  obtain ⟨ad, cap, rfl, hcap, hne⟩ := q5
  obtain ⟨sb, so, rfl, hsc⟩ := hne (by simp)
  have hs := hsc 0 s rfl
  rw [Nat.add_zero] at hs
  have hln : (0 : Int) < ((s :: r).length : Int) := by simp
  clear hsc hne
  refine wpR_seq (wpR_of_wp ?_)
  go_wp2
  have hBB : RowKit.Below W1.heap.size W1 W1 := .refl _ _
  refine wpR_seq (wpR_of_wp ?_)
  go_region_held3 (fun w' => w'.cell? ⟨p1.1, p1.2, none⟩ = some (.slice (some ⟨sb, so, none⟩) (s :: r).length cap) ∧ w'.cell? ⟨p3.1, p3.2, none⟩ = some va ∧ w'.cell? ⟨p3.1, p3.2 + 1, none⟩ = some vst ∧ w'.cell? ⟨sb, so, none⟩ = some (.int .i64 s) ∧ SlAt ats va w' ∧ RowKit.Below W1.heap.size W1 w')
   (first
    | exact ⟨q1, q3, q4, hs, q6, below_drew (.refl _ _)⟩
    | (refine keep3 ⟨q1, q3, q4, hs, q6, hBB⟩ (RowKit.Below.trans (below_drew (.refl _ W1)) ?_); assumption))
   ((go_at_call 127; refine (first_call' ats hlen hal hsum s hs0 hs1 va vst _ (by assumption)).mono ?_; rintro e w2 ⟨rfl, hb2⟩))
  have hB2 : RowKit.Below W1.heap.size W1 w2 := (below_drew (.refl _ W1)).trans hb2
  have hJ2 := hJ _ _ _ _ hJ1 hB2
  have hM2 := (hM1.below hB2).fbs (fb' := fun b => fb1 b ∨ (W1.heap.size ≤ b ∧ b < w2.heap.size)) fun b h => .inl h
  have hw02 : w0.heap.size ≤ w2.heap.size := Nat.le_trans hw01 hB2.size
  generalize (fun b => fb1 b ∨ (W1.heap.size ≤ b ∧ b < w2.heap.size)) = fb2 at hJ2 hM2
  rename_i hHeld
  clear hHeld hb2 hB2 hBB hs q1 q2 q3 q4 q6 hM1 hJ1 hce hB1
  refine wpR_seq (wpR_of_wp ?_)
  go_wp2
  refine wpR_block ?_
  obtain ⟨x, hx⟩ : ∃ x, ats[s.toNat]? = some x := ⟨_, List.getElem?_eq_getElem (by omega)⟩
  have hx0 : 0 ≤ x := hal x (List.mem_of_getElem? hx)
  have hgx : ats.getD s.toNat 0 = x := by simp [List.getD, hx]
  obtain ⟨f, hf⟩ : ∃ f, (List.take s.toNat ats).sum = f := ⟨_, rfl⟩
  have hf0 : 0 ≤ f ∧ f + x < 4611686018427387904 := by
   have h1 := sum_take_le hal s.toNat
   have h2 := sum_take_le hal (s.toNat + 1)
   rw [List.take_add_one, hx] at h2
   simp only [List.sum_append, Option.toList_some, List.sum_cons, List.sum_nil] at h2
   omega
  obtain ⟨L, hL⟩ : ∃ L, tupL ats (s :: r) p = L := ⟨_, rfl⟩
  have hLe : (List.range x.toNat).flatMap (fun (j : Nat) => tupL ats r (IntKind.i64.wrap (IntKind.i64.wrap (p * ats.sum) + (f + (j : Int))))) = L := by
   rw [← hL, tupL, hgx, hf]
  rw [hL] at hQ hY
  have hLe1 : ∀ (tm : Array Value) (w : World), ((∃ fb, J L.length fb w) ∨ X (.returned (.bool false)) w) → Leaves Tryz.prog Tryz.f126 tm (fun e B => ((∃ v, e = Ending.returned v) ∧ ((∃ fb, J L.length fb B) ∨ X (Ending.returned (Value.bool false)) B)) ∨ ∃ ch, e = Ending.panicked ch ∧ X e B) [] .returning w := fun tm w hw => by
   show ∃ v, (results Tryz.f126 tm).run Tryz.prog w = .ok v w ∧ _
   exact ⟨_, results_none rfl _ _ _, .inl ⟨⟨_, rfl⟩, hw⟩⟩
  have hLe2 : ∀ ch (tm : Array Value) (w : World), X (.panicked ch) w → Leaves Tryz.prog Tryz.f126 tm (fun e B => ((∃ v, e = Ending.returned v) ∧ ((∃ fb, J L.length fb B) ∨ X (Ending.returned (Value.bool false)) B)) ∨ ∃ ch, e = Ending.panicked ch ∧ X e B) [] (.panicking ch) w := fun ch tm w hw => by
   show _ ∨ _
   exact .inr ⟨ch, rfl, hw⟩
  have hEnd : ∀ (e : Exit), (e = .normal ∨ e = .ret) → ∀ (tm : Array Value) (ms : List Nat) (A : World), ms.Nodup → (∀ m ∈ ms, w0.heap.size ≤ m ∧ A.heap[m]? = some (.deferred (some []))) → ((∃ fb, J L.length fb A ∧ ∀ m ∈ ms, fb m) ∨ X (.returned (.bool false)) A) → Q e { tmps := tm, defers := ms.map Vs.mark } A := by
   intro e he tm ms A hnd hmm hK0
   rw [← hQ]
   have key : LvM Tryz.prog Tryz.f126 tm (fun e B => ((∃ v, e = Ending.returned v) ∧ ((∃ fb, J L.length fb B) ∨ X (Ending.returned (Value.bool false)) B)) ∨ ∃ ch, e = Ending.panicked ch ∧ X e B) (ms.map Vs.mark) .returning A := by
    refine leaves_own (K := fun w => (∃ fb, J L.length fb w ∧ ∀ m ∈ ms, fb m) ∨ X (.returned (.bool false)) w) (by simp) (fun w hw => hLe1 tm w (hw.imp (fun ⟨fb, h, _⟩ => ⟨fb, h⟩) id)) ms A hK0 hnd (fun m hm => (hmm m hm).2) fun w m hm hw hh => ?_
    rcases hw with ⟨fb, h1, h2⟩ | h1
    ·exact .inl ⟨fb, hT _ _ _ _ _ _ h1 (h2 m hm) hh rfl, h2⟩
    ·exact .inr (hXT _ _ _ _ _ h1 (hmm m hm).1 hh rfl)
   rcases he with rfl | rfl
   ·exact key
   ·exact key
  have hPan : ∀ ch (tm : Array Value) (ms : List Nat) (A : World), ms.Nodup → (∀ m ∈ ms, w0.heap.size ≤ m ∧ A.heap[m]? = some (.deferred (some []))) → X (.panicked ch) A → Q (.panic ch) { tmps := tm, defers := ms.map Vs.mark } A := by
   intro ch tm ms A hnd hmm hK0
   rw [← hQ]
   show LvM Tryz.prog Tryz.f126 tm _ (ms.map Vs.mark) (.panicking ch) A
   exact leaves_own (K := fun w => X (.panicked ch) w) (by simp) (fun w hw => hLe2 ch tm w hw) ms A hK0 hnd (fun m hm => (hmm m hm).2) fun w m hm hw hh => hXT _ _ _ _ _ hw (hmm m hm).1 hh rfl
  rw [hf]
  refine wpR_loop_rel (Rel := fun i a A => ∃ (j k : Nat) (fb : Nat → Prop) (ms : List Nat) (U : Nat → Value), i + j = x.toNat ∧
      a = { tmps := tm237 (.func (.yield lp) #[] #[]) (.pointer (some ⟨p1.1, p1.2, none⟩)) (.pointer (some ⟨p2.1, p2.2, none⟩)) (.pointer (some ⟨p3.1, p3.2, none⟩)) (.pointer (some ⟨w0.heap.size, 0, none⟩)) (.int .i64 f) (.int .i64 (f + (j : Int))) U, defers := ms.map Vs.mark } ∧
      ((List.range x.toNat).drop j).flatMap (fun (j : Nat) => tupL ats r (IntKind.i64.wrap (IntKind.i64.wrap (p * ats.sum) + (f + (j : Int))))) = L.drop k ∧ k ≤ L.length ∧ J k fb A ∧ Mine fb A [(w0.heap.size, 0, .func (.yield lp) #[] #[])] (ms.map fun m => (m, .deferred (some []))) ∧ ms.Nodup ∧ (∀ m ∈ ms, w0.heap.size ≤ m) ∧ w0.heap.size ≤ A.heap.size) (m := x.toNat) ?_ ?_
  ·rintro i a A ⟨j, k, fb, ms, U, hij, rfl, hk, hkle, hJk, hMk, hnd, hms, hA0⟩
   rw [tm237_def]
   obtain ⟨q1, q2, q3, q4, q5, q6⟩ := hK k fb A hJk
   obtain ⟨ada, capa, rfl, hcapa, hnea⟩ := q6
   obtain ⟨ab, ao, rfl, hca⟩ := hnea (by intro e; subst e; simp at hx)
   have hxc := hca _ _ hx
   obtain ⟨ad5, cap5, heq, -, hne5⟩ := q5
   cases heq
   obtain ⟨b5, o5, heq, hsc⟩ := hne5 (by simp)
   cases heq
   have hs := hsc 0 s rfl
   rw [Nat.add_zero] at hs
   clear hsc hne5 hnea hca
   refine wpR_seq (wpR_of_wp ?_)
   rcases Nat.lt_or_ge j x.toNat with hlt | hge
   ·have hl1 : (j : Int) < x := by omega
    have hl2 : f + (j : Int) < f + x := by omega
    have hl3 : f + x < 4611686018427387904 := hf0.2
    have hl4 : 0 ≤ f := hf0.1
    have hw1 : IntKind.i64.wrap (f + x) = f + x := IntWalk.i64_in _ (by omega)
    go_wp2
    go_quiet (fail)
    clear hw1
    go_wp2
    have hJ3 := hJ _ _ _ _ hJk (below_drewN (.refl _ A) nq)
    have hM3 := (hMk.below (below_drewN (.refl _ A) nq)).fbs (fb' := fun b => fb b ∨ (A.heap.size ≤ b ∧ b < (A.drewN nq).heap.size)) fun b h => .inl h
    have hA1 : w0.heap.size ≤ (A.drewN nq).heap.size := hA0
    generalize (fun b => fb b ∨ (A.heap.size ≤ b ∧ b < (A.drewN nq).heap.size)) = fb3 at hJ3 hM3
    generalize A.drewN nq = A1 at *
    clear q1 q2 q3 q4 hs hxc hJk hMk
    obtain ⟨q1, q2, q3, q4, q5, q6⟩ := hK k fb3 A1 hJ3
    have hcp1 : (r.length : Int) + 1 ≤ (cap : Int) := by simp at hcap; omega
    have hcp2 : (1 : Int) ≤ (r.length : Int) + 1 := by omega
    have hcp3 : (0 : Int) ≤ (r.length : Int) + 1 := by omega
    have hcp4 : (1 : Int) ≤ (cap : Int) := by omega
    obtain ⟨adn, hadn⟩ : ∃ adn, (if cap = 1 then some (⟨sb, so, none⟩ : Addr) else some ⟨sb, so + 1, none⟩) = adn := ⟨_, rfl⟩
    refine wpR_seq (wpR_block (wpR_seq (wpR_of_wp ?_)))
    go_region_held3 (fun w' => w'.cell? ⟨p1.1, p1.2, none⟩ = some (.slice (some ⟨sb, so, none⟩) (s :: r).length cap) ∧ w'.cell? ⟨p3.1, p3.2, none⟩ = some (.slice (some ⟨ab, ao, none⟩) ats.length capa) ∧ w'.cell? ⟨p3.1, p3.2 + 1, none⟩ = some vst ∧ w'.cell? ⟨p2.1, p2.2, none⟩ = some (.int .i64 p) ∧ SlAt ats (.slice (some ⟨ab, ao, none⟩) ats.length capa) w' ∧ RowKit.Below A1.heap.size A1 w')
     (first
      | exact ⟨q1, q3, q4, q2, q6, below_drew (.refl _ _)⟩
      | (refine keep3 ⟨q1, q3, q4, q2, q6, .refl _ _⟩ (RowKit.Below.trans (below_drew (.refl _ A1)) ?_); assumption)
      | (refine keep3 (by assumption) ?_; assumption))
     ((first
      | (go_at_call 38; refine (atomsG_call' ats hlen hal hsum _ vst _ (by assumption)).mono ?_; rintro e w3 ⟨rfl, hb3⟩)
      | (go_at_call 87; refine (tuples_call' _ _ vst _ _ _ _).mono ?_; rintro e w4 ⟨c1, c2, c3, rfl, hb4, hc4, g1, g2, g3, g4⟩)))
    rename_i hHeld
    obtain ⟨-, -, -, -, -, hb5⟩ := hHeld
    clear hcp1 hcp2 hcp3 hcp4 hl1 hl2 hl3 hl4 q1 q2 q3 q4
    obtain ⟨p', hp'⟩ : ∃ p', IntKind.i64.wrap (IntKind.i64.wrap (p * ats.sum) + (f + (j : Int))) = p' := ⟨_, rfl⟩
    rw [hp'] at g2 ⊢
    have hc4' : A1.heap.size ≤ c1 ∧ A1.heap.size ≤ c2 ∧ A1.heap.size ≤ c3 := by
     have := hb3.size
     have e : A1.drew.heap.size = A1.heap.size := rfl
     omega
    have hJ4 := hJ _ _ _ _ hJ3 hb5
    have hM4 := (hM3.below hb5).fbs (fb' := fun b => fb3 b ∨ (A1.heap.size ≤ b ∧ b < w4.heap.size)) fun b h => .inl h
    have hM4c : Mine (fun b => fb3 b ∨ (A1.heap.size ≤ b ∧ b < w4.heap.size)) w4 [(c1, 0, Value.slice adn r.length (cap - 1)), (c2, 0, .int .i64 p'), (c3, 0, Value.slice (some ⟨ab, ao, none⟩) ats.length capa), (c3, 1, vst)] [] := by
     refine ⟨fun x hx => ?_, fun x hx => (List.not_mem_nil hx).elim⟩
     simp only [List.mem_cons, List.not_mem_nil, or_false] at hx
     rcases hx with rfl | rfl | rfl | rfl
     ·exact ⟨.inr ⟨hc4'.1, cell_lt g1⟩, g1⟩
     ·exact ⟨.inr ⟨hc4'.2.1, cell_lt g2⟩, g2⟩
     ·exact ⟨.inr ⟨hc4'.2.2, cell_lt g3⟩, g3⟩
     ·exact ⟨.inr ⟨hc4'.2.2, cell_lt g4⟩, g4⟩
    have hM4 := hM4.app hM4c
    have hA4 : w0.heap.size ≤ w4.heap.size := Nat.le_trans hA1 hb5.size
    generalize (fun b => fb3 b ∨ (A1.heap.size ≤ b ∧ b < w4.heap.size)) = fb4 at hJ4 hM4
    clear hM4c hM3 hJ3 hb3 hb4 hb5 hc4 hc4' g1 g2 g3 g4 q5 q6
    refine wpR_block (wpR_range' rfl ⟨Tryz.f126, Tryz.func126, by kernel_rfl, by kernel_rfl⟩ fun rec hrec => ?_)
    obtain ⟨W5, hW5⟩ : ∃ W5, (w4.alloc (.deferred (some []))).alloc (.loop rec) = W5 := ⟨_, rfl⟩
    have hl5 : W5.heap[w4.heap.size + 1]? = some (.loop rec) := by
     rw [← hW5]; have := World.alloc_heap_new (w4.alloc (.deferred (some []))) (.loop rec); rwa [World.size_alloc] at this
    have hk5 : W5.heap[w4.heap.size]? = some (.deferred (some [])) := by
     rw [← hW5]; exact (RowKit.Below.heap_alloc _ _ _ (by simp)).trans (World.alloc_heap_new w4 _)
    have hB5 : RowKit.Below w4.heap.size w4 W5 := by
     rw [← hW5]; exact ((RowKit.Below.refl _ w4).alloc (Nat.le_refl _) _).alloc (by simp) _
    have hs5 : W5.heap.size = w4.heap.size + 2 := by rw [← hW5]; simp
    rw [hW5]
    clear hW5
    have hJ5 := hJ _ _ _ _ hJ4 hB5
    have hM5 := (hM4.below hB5).fbs (fb' := fun b => fb4 b ∨ (w4.heap.size ≤ b ∧ b < W5.heap.size)) fun b h => .inl h
    have hms4 : ∀ m ∈ ms, m < w4.heap.size := fun m hm => (Array.getElem?_eq_some_iff.1 (hM4.objs (m, .deferred (some [])) (by simp only [List.mem_append, List.mem_map]; exact .inr ⟨m, hm, rfl⟩)).2.2).1
    have hM5o : Mine (fun b => fb4 b ∨ (w4.heap.size ≤ b ∧ b < W5.heap.size)) W5 [] [(w4.heap.size + 1, .loop rec), (w4.heap.size, .deferred (some []))] := by
     refine ⟨fun x hx => (List.not_mem_nil hx).elim, fun x hx => ?_⟩
     simp only [List.mem_cons, List.not_mem_nil, or_false] at hx
     rcases hx with rfl | rfl
     ·exact ⟨.inr ⟨by omega, by omega⟩, rfl, hl5⟩
     ·exact ⟨.inr ⟨by omega, by omega⟩, rfl, hk5⟩
    have hM5 := hM5.app hM5o
    generalize (fun b => fb4 b ∨ (w4.heap.size ≤ b ∧ b < W5.heap.size)) = fb5 at hJ5 hM5
    clear hM5o hM4 hJ4 hB5 hl5 hk5
    simp only [List.nil_append, List.cons_append] at hM5
    obtain ⟨l, hl⟩ : ∃ l, w4.heap.size + 1 = l := ⟨_, rfl⟩
    obtain ⟨mk, hmk⟩ : ∃ mk, w4.heap.size = mk := ⟨_, rfl⟩
    rw [hmk] at hrec hms4 hA4
    rw [hl, hmk] at hM5 ⊢
    have hml : mk + 1 = l := by omega
    have hs5 : W5.heap.size = mk + 2 := by omega
    clear hl hmk
    obtain ⟨C5, hC5⟩ : ∃ C5, [(c1, 0, Value.slice adn r.length (cap - 1)), (c2, 0, .int .i64 p'), (c3, 0, Value.slice (some ⟨ab, ao, none⟩) ats.length capa), (c3, 1, vst), (w0.heap.size, 0, .func (.yield lp) #[] #[])] = C5 := ⟨_, rfl⟩
    obtain ⟨O5, hO5⟩ : ∃ O5 : List (Nat × Obj), (mk, .deferred (some [])) :: ms.map (fun m => (m, .deferred (some []))) = O5 := ⟨_, rfl⟩
    rw [hC5, hO5] at hM5
    have hO5l : ∀ x ∈ O5, x.1 ≠ l ∧ x.1 < W5.heap.size := by
     intro x hx
     rw [← hO5] at hx
     rcases List.mem_cons.1 hx with rfl | hx
     ·exact ⟨by show mk ≠ l; omega, by show mk < _; omega⟩
     ·obtain ⟨m, hm, rfl⟩ := List.mem_map.1 hx
      have := hms4 m hm
      exact ⟨by show m ≠ l; omega, by show m < _; omega⟩
    obtain ⟨L', hL'⟩ : ∃ L', tupL ats r p' = L' := ⟨_, rfl⟩
    obtain ⟨rest, hrest⟩ : ∃ rest, ((List.range x.toNat).drop (j + 1)).flatMap (fun (j : Nat) => tupL ats r (IntKind.i64.wrap (IntKind.i64.wrap (p * ats.sum) + (f + (j : Int))))) = rest := ⟨_, rfl⟩
    have hsplit : L' ++ rest = L.drop k := by
     have hd : (List.range x.toNat).drop j = j :: (List.range x.toNat).drop (j + 1) := by
      rw [List.drop_eq_getElem_cons (by simpa using hlt)]
      simp
     rw [← hk, hd, List.flatMap_cons, hrest, hp', hL']
    have hLk : ∀ k' y, L'[k']? = some y → L[k + k']? = some y := fun k' y hy => by
     have h1 : (L.drop k)[k']? = some y := by
      rw [← hsplit, List.getElem?_append_left (List.getElem?_eq_some_iff.1 hy).1]
      exact hy
     rwa [List.getElem?_drop] at h1
    have hih := IH p' l (c1, 0) (c2, 0) (c3, 0) (.slice adn r.length (cap - 1)) (.slice (some ⟨ab, ao, none⟩) ats.length capa) vst
     (fun k' fb' A => ∃ fb, J (k + k') fb A ∧ (∀ b, fb' b → fb b ∧ W5.heap.size ≤ b) ∧ Mine fb A C5 ((l, .loop rec) :: O5))
     (fun e B => X e B ∧ Mine (fun _ => True) B [] O5 ∧ l < B.heap.size ∧ ∀ v, e = .returned v → B.heap[l]? = some (.loop { rec with state := .done, pending := some .ret }))
     W5 ?_ ?_ ?_ ?_ ?_ ?_ ?_
    ·have hndm : (mk :: ms).Nodup := List.nodup_cons.2 ⟨fun h => by have := hms4 mk h; omega, hnd⟩
     have hmsm : ∀ m ∈ mk :: ms, w0.heap.size ≤ m := fun m hm => by
      rcases List.mem_cons.1 hm with rfl | hm
      ·exact hA4
      ·exact hms m hm
     have hO5m : ∀ m ∈ mk :: ms, (m, Obj.deferred (some [])) ∈ O5 := fun m hm => by
      rw [← hO5]
      rcases List.mem_cons.1 hm with rfl | hm
      ·exact List.mem_cons_self
      ·exact List.mem_cons_of_mem _ (List.mem_map.2 ⟨m, hm, rfl⟩)
     refine Calls.mono hih ?_
     rintro e B (⟨⟨v, rfl⟩, ⟨fb', fb, hj, hsub, hm⟩ | ⟨x1, x2, x3, x4⟩⟩ | ⟨ch, rfl, x1, x2, x3, x4⟩)
     ·have hlB : B.heap[l]? = some (.loop rec) := (hm.objs (l, .loop rec) (by simp)).2.2
      have he := run_endLoop (P := Tryz.prog) hlB (by rw [hrec]; simp)
      have hpd : rec.pending = none := by rw [hrec]
      rw [hpd] at he
      have hfl : fb l := (hm.objs (l, .loop rec) (by simp)).1
      rw [hL'] at hj
      have hJB := hT _ _ _ l _ (.loop { rec with state := .exhausted, pending := none }) hj hfl hlB rfl
      have hMB : Mine fb (B.putObj l (.loop { rec with state := .exhausted, pending := none })) C5 O5 := (hm.sub (C' := C5) (O' := O5) (fun _ h => h) (fun _ h => List.mem_cons_of_mem _ h)).turn hlB rfl fun x hx => (hO5l x hx).1
      have hlt : l < B.heap.size := (Array.getElem?_eq_some_iff.1 hlB).1
      have hAB : w0.heap.size ≤ (B.putObj l (.loop { rec with state := .exhausted, pending := none })).heap.size := by rw [World.putObj_size]; omega
      refine ⟨none, _, he, ?_⟩
      show wpR none 126 Tryz.prog _ _ _ _
      generalize B.putObj l (.loop { rec with state := .exhausted, pending := none }) = B1 at hJB hMB hAB
      refine wpR_of_wp ?_
      dsimp only
      have hw9 : f + (j : Int) + 1 < 4611686018427387904 := by have := hf0.2; omega
      have hw8 : 0 ≤ f + (j : Int) := by have := hf0.1; omega
      have hwf : IntKind.i64.wrap (f + (j : Int) + 1) = f + (j : Int) + 1 := IntWalk.i64_in _ (by omega)
      refine wp_behind fun PQ hPQ => ?_
      go_wp2
      have e0 : f + ((j + 1 : Nat) : Int) = f + (j : Int) + 1 := by omega
      have hrl : rest = L.drop (k + L'.length) := by
       have := congrArg (List.drop L'.length) hsplit
       rw [List.drop_append_of_le_length (Nat.le_refl _), List.drop_length, List.nil_append, List.drop_drop] at this
       exact this
      have hkl : k + L'.length ≤ L.length := by
       have := congrArg List.length hsplit
       rw [List.length_append, List.length_drop] at this
       omega
      refine (hPQ .normal _ _ ?_).resolve_right id
      refine ⟨i - 1, by omega, j + 1, k + L'.length, fb, mk :: ms, _, by omega, (by rw [e0]; exact act237_eq rfl), (by rw [hrest]; exact hrl), hkl, hJB, hMB.sub (fun y hy => ?_) (fun y hy => ?_), hndm, hmsm, hAB⟩
      ·rw [List.mem_singleton] at hy
       subst hy
       rw [← hC5]
       simp
      ·obtain ⟨m, hm, rfl⟩ := List.mem_map.1 hy
       exact hO5m m hm
     ·have he := run_endLoop (P := Tryz.prog) (x4 _ rfl) (by simp)
      refine ⟨some .ret, _, he, ?_⟩
      refine wpR_of_in (wpIn_ret ?_)
      have x2' := x2.turn (b := l) (o' := .loop { rec with state := .exhausted, pending := some .ret }) (x4 _ rfl) rfl fun x hx => (hO5l x hx).1
      exact hEnd .ret (.inr rfl) _ (mk :: ms) _ hndm (fun m hm => ⟨hmsm m hm, (x2'.objs _ (hO5m m hm)).2.2⟩) (.inr (hXT _ _ _ _ _ x1 (by omega) (x4 _ rfl) rfl))
     ·exact hPan ch _ (mk :: ms) _ hndm (fun m hm => ⟨hmsm m hm, (x2.objs _ (hO5m m hm)).2.2⟩) x1
    ·rintro k' fb' B ⟨fb, hj, hsub, hm⟩
     have hat := hK _ _ _ hj
     obtain ⟨z1, z2, z3, z4, z5, z6⟩ := hat
     refine ⟨?_, ?_, ?_, ?_, z5.tail hadn, z6⟩
     ·exact (hm.cells (c1, 0, Value.slice adn r.length (cap - 1)) (by rw [← hC5]; simp)).2
     ·exact (hm.cells (c2, 0, .int .i64 p') (by rw [← hC5]; simp)).2
     ·exact (hm.cells (c3, 0, Value.slice (some ⟨ab, ao, none⟩) ats.length capa) (by rw [← hC5]; simp)).2
     ·exact (hm.cells (c3, 1, vst) (by rw [← hC5]; simp)).2
    ·rintro k' fb' B B' ⟨fb, hj, hsub, hm⟩ hb
     have hsz : W5.heap.size ≤ B.heap.size := by
      have h1 := (Array.getElem?_eq_some_iff.1 (hm.objs (l, .loop rec) (by simp)).2.2).1
      have h1 : l < B.heap.size := h1
      omega
     exact ⟨_, hJ _ _ _ _ hj hb, fun b h => h.elim (fun h => ⟨.inl (hsub b h).1, (hsub b h).2⟩) (fun h => ⟨.inr h, by omega⟩), (hm.below hb).fbs fun b h => .inl h⟩
    ·rintro k' fb' B b o o' ⟨fb, hj, hsub, hm⟩ hb ho hpl
     obtain ⟨hb1, hb2⟩ := hsub b hb
     refine ⟨fb, hT _ _ _ _ _ _ hj hb1 ho hpl, hsub, hm.turn ho hpl fun x hx => ?_⟩
     rcases List.mem_cons.1 hx with rfl | hx
     ·show l ≠ b; omega
     ·have := (hO5l x hx).2; omega
    ·rintro e B B' ⟨h1, h2, h3, h4⟩ hb
     exact ⟨hX _ _ _ h1 hb, h2.below hb, Nat.lt_of_lt_of_le h3 hb.size, fun v hv => (hb.block l h3).trans (h4 v hv)⟩
    ·rintro e B b o o' ⟨h1, h2, h3, h4⟩ hb ho hpl
     refine ⟨hXT _ _ _ _ _ h1 (by omega) ho hpl, h2.turn ho hpl fun x hx => ?_, by rw [World.putObj_size]; exact h3, fun v hv => (World.putObj_heap_other (by omega)).trans (h4 v hv)⟩
     have := (hO5l x hx).2
     omega
    ·rintro k' fb' y A hy ⟨fb, hj, hsub, hm⟩
     have hlA : A.heap[l]? = some (.loop rec) := (hm.objs (l, .loop rec) (by simp)).2.2
     have hfl : fb l := (hm.objs (l, .loop rec) (by simp)).1
     have hyl := run_yield (P := Tryz.prog) (args := #[.int .i64 y]) hlA (by rw [hrec]; rfl)
     have hbr := run_beginRound (P := Tryz.prog) hlA (by rw [hrec])
     have hJ6 := hT _ _ _ l _ (.loop { rec with state := .busy }) hj hfl hlA rfl
     have hM6 : Mine fb (A.putObj l (.loop { rec with state := .busy })) C5 O5 := (hm.sub (C' := C5) (O' := O5) (fun _ h => h) (fun _ h => List.mem_cons_of_mem _ h)).turn hlA rfl fun x hx => (hO5l x hx).1
     have hl6 : (A.putObj l (.loop { rec with state := .busy })).heap[l]? = some (.loop { rec with state := .busy }) := World.putObj_heap_same (Array.getElem?_eq_some_iff.1 hlA).1
     have hs6 : (A.putObj l (.loop { rec with state := .busy })).heap.size = A.heap.size := World.putObj_size
     have hst6 : ∀ b, fb' b → Stands b A (A.putObj l (.loop { rec with state := .busy })) := fun b hb => stands_put (by have := (hsub b hb).2; omega)
     have hce6 : (A.putObj l (.loop { rec with state := .busy })).cell? ⟨w0.heap.size, 0, none⟩ = some (.func (.yield lp) #[] #[]) := (hM6.cells (w0.heap.size, 0, .func (.yield lp) #[] #[]) (by rw [← hC5]; simp)).2
     obtain ⟨fn, tmps, assign, body, hy2, hR2⟩ := hY (k + k') fb y _ (hLk k' y (by rw [← hL']; exact hy)) hJ6
     have hcore : ∀ R : Ending → World → Prop,
         (∀ W7, A.heap.size ≤ W7.heap.size → (∀ b, fb b → Stands b (A.putObj l (.loop { rec with state := .busy })) W7) → J (k + k' + 1) fb W7 → R (.returned (.bool true)) (W7.putObj l (.loop rec))) →
         (∀ W7, A.heap.size ≤ W7.heap.size → (∀ b, fb b → Stands b (A.putObj l (.loop { rec with state := .busy })) W7) → X (.returned (.bool false)) W7 → R (.returned (.bool false)) (W7.putObj l (.loop { rec with state := .done, pending := some .ret }))) →
         (∀ ch W7, A.heap.size ≤ W7.heap.size → (∀ b, fb b → Stands b (A.putObj l (.loop { rec with state := .busy })) W7) → X (.panicked ch) W7 → R (.panicked ch) W7) →
         wpR (some l) rec.fn Tryz.prog rec.assign (Exit.then (fun a₁ w₁ => ∃ w₂, (Instr.beginRound l).run Tryz.prog w₁ = .ok () w₂ ∧ wpR (some l) rec.fn Tryz.prog rec.body (roundEnd Tryz.prog l R) a₁ w₂) (fun _ _ _ => False))
          { tmps := (rec.params.zip #[.int .i64 y]).foldl (fun tmps (t, a) => tmps.setIfInBounds t a) rec.tmps, defers := [] } A := by
      intro R h1 h2 h3
      have hro : (wr (some l)).round = some l := rfl
      have e0 := congrArg Loop.fn hrec
      have e1 := congrArg Loop.assign hrec
      have e2 := congrArg Loop.body hrec
      have e3 := congrArg Loop.params hrec
      have e4 := congrArg Loop.tmps hrec
      dsimp only at e0 e1 e2 e3 e4
      rw [e0, e1, e2, e3, e4]
      have hre : ({ rec with state := .ready, pending := none } : Loop) = rec := by rw [hrec]
      clear e0 e1 e2 e3 e4 hrec hyl hY hJ hT hX hXT IH hEnd hPan hLe1 hLe2 hK hJ5 hM5 hJ6 hM6 hm hj
      generalize A.putObj l (.loop { rec with state := .busy }) = W6 at *
      rw [show (#[43] : Array Nat).zip #[Value.int .i64 y] = #[(43, Value.int .i64 y)] from by first | (simp; done) | kernel_rfl | (apply Array.ext <;> simp)]
      simp only [List.foldl_toArray', List.foldl_cons, List.foldl_nil, List.size_toArray, List.setIfInBounds_toArray, List.set_cons_succ, List.set_cons_zero]
      refine wpR_of_in ?_
      gi_wp2
      refine ⟨_, hbr, ?_⟩
      refine wpR_block (wpR_of_in ?_)
      have hR3 := roundIn_wr (ro := some l) hR2
      gi_wp2
      refine ⟨rfl, hR3.mono ?_⟩
      rintro e W7 ⟨⟨hs7, hst7⟩, hW7⟩
      have hl7 := (hst7 l hfl).2 _ hl6 rfl
      rcases hW7 with ⟨rfl, hJ7⟩ | ⟨rfl, hX7⟩ | ⟨ch, rfl, hX7⟩
      ·gi_wp2
       have hend := run_endRound (P := Tryz.prog) none hl7
       dsimp only [Option.isNone_none] at hend
       rw [if_pos rfl, hre] at hend
       exact ⟨_, _, hend, h1 W7 (by omega) hst7 hJ7⟩
      ·gi_wp2
       exact ⟨_, _, run_endRound (P := Tryz.prog) (some .ret) hl7, h2 W7 (by omega) hst7 hX7⟩
      ·gi_wp2
       exact ⟨rfl, h3 ch W7 (by omega) hst7 hX7⟩
     refine ⟨_, _, _, _, hyl, round_of_wp (fnc := Tryz.f126) (by rw [hrec]; exact Tryz.func126) (hcore _ ?_ ?_ ?_)⟩
     ·intro W7 z1 z2 z3
      refine ⟨⟨by rw [World.putObj_size]; exact z1, fun b hb => stands_trans (stands_trans (hst6 b hb) (z2 b (hsub b hb).1)) (stands_put (by have := (hsub b hb).2; omega))⟩, .inl ⟨rfl, fb, ?_, hsub, ?_⟩⟩
      ·exact hT _ _ _ _ _ _ z3 hfl ((z2 l hfl).2 _ hl6 rfl) rfl
      ·have hm7 := (hM6.stands z2).turn (b := l) (o' := .loop rec) ((z2 l hfl).2 _ hl6 rfl) rfl fun x hx => (hO5l x hx).1
       exact ⟨hm7.cells, fun x hx => by
        rcases List.mem_cons.1 hx with rfl | hx
        ·exact ⟨hfl, rfl, World.putObj_heap_same (Array.getElem?_eq_some_iff.1 ((z2 l hfl).2 _ hl6 rfl)).1⟩
        ·exact hm7.objs x hx⟩
     ·intro W7 z1 z2 z3
      have hl7 := (z2 l hfl).2 _ hl6 rfl
      refine ⟨⟨by rw [World.putObj_size]; exact z1, fun b hb => stands_trans (stands_trans (hst6 b hb) (z2 b (hsub b hb).1)) (stands_put (by have := (hsub b hb).2; omega))⟩, .inr (.inl ⟨rfl, ?_, ?_, ?_, ?_⟩)⟩
      ·exact hXT _ _ _ _ _ z3 (by omega) hl7 rfl
      ·exact (((hM6.stands z2).turn (b := l) hl7 rfl fun x hx => (hO5l x hx).1).fbs fun _ _ => trivial).sub (C' := []) (fun _ h => (List.not_mem_nil h).elim) (fun _ h => h)
      ·rw [World.putObj_size]; exact (Array.getElem?_eq_some_iff.1 hl7).1
      ·exact fun v _ => World.putObj_heap_same (Array.getElem?_eq_some_iff.1 hl7).1
     ·intro ch W7 z1 z2 z3
      have hl7 := (z2 l hfl).2 _ hl6 rfl
      refine ⟨⟨z1, fun b hb => stands_trans (hst6 b hb) (z2 b (hsub b hb).1)⟩, .inr (.inr ⟨ch, rfl, z3, ?_, ?_, ?_⟩)⟩
      ·exact ((hM6.stands z2).fbs fun _ _ => trivial).sub (C' := []) (fun _ h => (List.not_mem_nil h).elim) (fun _ h => h)
      ·exact (Array.getElem?_eq_some_iff.1 hl7).1
      ·exact fun v hv => by cases hv
    ·exact ⟨fb5, hJ5, fun _ h => h.elim, hM5⟩
   ·have hl1 : ¬ (j : Int) < x := by omega
    have hl2 : ¬ f + (j : Int) < f + x := by omega
    have hw1 : IntKind.i64.wrap (f + x) = f + x := IntWalk.i64_in _ (by omega)
    go_wp2
    go_quiet (fail)
    clear hw1
    go_wp2
    have hje : j = x.toNat := by omega
    subst hje
    have hkL : k = L.length := by
     have h0 : (List.range x.toNat).drop x.toNat = [] := List.drop_eq_nil_of_le (by simp)
     rw [h0] at hk
     have := congrArg List.length hk
     rw [List.flatMap_nil, List.length_nil, List.length_drop] at this
     omega
    subst hkL
    refine hEnd _ (.inl rfl) _ ms _ hnd (fun m hm => ⟨hms m hm, ?_⟩) (.inl ⟨_, hJ _ _ _ _ hJk (below_drewN (.refl _ A) nq), fun m hm => .inl (hMk.objs (m, .deferred (some [])) (List.mem_map.2 ⟨m, hm, rfl⟩)).1⟩)
    exact (hMk.objs (m, .deferred (some [])) (List.mem_map.2 ⟨m, hm, rfl⟩)).2.2
  ·have e0 : f + ((0 : Nat) : Int) = f := by simp
   refine ⟨0, 0, fb2, [], _, by omega, by rw [e0]; exact act237_eq rfl, by rw [List.drop_zero, List.drop_zero]; exact hLe, Nat.zero_le _, hJ2, hM2, List.nodup_nil, fun _ h => (List.not_mem_nil h).elim, hw02⟩

end Go.Proofs.YtdnebeaeiimjlaaGreatDoor

namespace Go.Proofs.YtdnebeaeiimjlaaGreatDoor
open Go.Vs Go.RowKit Go.Shelf
theorem repL_three {γ : Gh} {vs : Array Value} {d1 d2 d3 : D} (h : RepL γ vs [d1, d2, d3]) : ∃ v1 v2 v3, vs = #[v1, v2, v3] ∧ RepD γ v1 d1 ∧ RepD γ v2 d2 ∧ RepD γ v3 d3 := by
 obtain ⟨hs, hr⟩ := h
 obtain ⟨l⟩ := vs
 match l, hs with
 | [v1, v2, v3], _ => exact ⟨v1, v2, v3, rfl, hr 0 _ rfl, hr 1 _ rfl, hr 2 _ rfl⟩

variable {W : World} {G : Nat → Option (List PD)}
theorem gen237_ok : GenOk Tryz.prog W G 126 gen237 := by
 refine ⟨⟨Tryz.f126, Tryz.func126, by kernel_rfl, by kernel_rfl⟩, fun fi cap H xs hg γ w la lb I hra hrb => ?_⟩
 unfold gen237 at hg
 split at hg
 ·rename_i sd p ad vst
  split at hg
  ·rename_i ss ats hss hats
   split at hg
   ·rename_i hc
    obtain ⟨hal, hsum, hin, hlen, hsl⟩ := hc
    cases hg
    have hla : la = #[] := Array.eq_empty_of_size_eq_zero hra.1
    subst hla
    obtain ⟨v1, v2, v3, rfl, r1, r2, r3⟩ := repL_three hrb
    cases r1 with
    | ro b1 o1 _ _ cs1 hm1 hr1 =>
    cases r2 with
    | ro b2 o2 _ _ cs2 hm2 hr2 =>
    cases r3 with
    | ro b3 o3 _ _ cs3 hm3 hr3 =>
     have hp : cs2 0 = .int .i64 p := (hr2 0 _ rfl).1.int_inv
     have fact : ∀ A, Kept W G γ H (capIds (.fn 126 [] [.ro [sd] 0, .ro [.int .i64 p] 0, .ro [ad, vst] 0]) H) A → At237 (b1, o1) (b2, o2) (b3, o3) ss p ats (cs1 0) (cs3 0) (cs3 1) A := by
      rintro A ⟨γ', H', L, I', _⟩
      refine ⟨I'.toInv.mem _ _ _ (L.mem _ _ _ (hm1 0 (by simp))), ?_, I'.toInv.mem _ _ _ (L.mem _ _ _ (hm3 0 (by simp))), I'.toInv.mem _ _ _ (L.mem _ _ _ (hm3 1 (by simp))), ?_, ?_⟩
      ·have := I'.toInv.mem _ _ _ (L.mem _ _ _ (hm2 0 (by simp)))
       rw [hp] at this
       exact this
      ·exact intsOf_rep ((hr1 0 sd rfl).1.mono L.mem) hss I'.toInv.mem
      ·exact intsOf_rep ((hr3 0 ad rfl).1.mono L.mem) hats I'.toInv.mem
     refine ⟨fun k => match (tupL ats ss p)[k]? with | some x => #[.int .i64 x] | none => #[], fun k x hx => ?_, fun lp J X w0 hB hKp hJ hT hX hXT hY h0 => ?_⟩
     ·simp only [List.getElem?_map, Option.map_eq_some_iff] at hx
      obtain ⟨q, hq, rfl⟩ := hx
      simp only [hq]
      exact ⟨rfl, fun γ' => int_en q⟩
     ·have h := walk237 ats (fun x hx => of_decide_eq_true (List.all_eq_true.1 hal x hx)) hsum hlen ss hsl (fun s hs => of_decide_eq_true (List.all_eq_true.1 hin s hs)) p lp (b1, o1) (b2, o2) (b3, o3) (cs1 0) (cs3 0) (cs3 1) J X w0 (fun k fb A hj => fact A (hKp k fb A hj)) hJ hT hX hXT (fun k fb x A hx hj => by
       have := hY k fb _ A (by rw [List.getElem?_map, hx]; rfl) hj
       simp only [hx] at this
       exact this) h0
      rw [List.length_map]
      exact callsIn_wr.2 h
   ·cases hg
  ·cases hg
 ·cases hg

end Go.Proofs.YtdnebeaeiimjlaaGreatDoor

namespace Go.Proofs.YtdnebeaeiimjlaaGreatDoor
open Go.Vs Go.RowKit Go.Shelf

attribute [local go_sem] Oper.semAt_some

set_option maxRecDepth 100000 in
theorem walk25 (F : Fence) (n : Nat) (h25 : F.fn 25) (hro : F.round = none) (l : List Int) (hl : l.length < 4611686018427387904) (v : Value) (w : World) (h : SlAt l v w) (x : Int) :
    CallsIn F n Tryz.prog 25 #[v, .int .i64 x] w fun e w' => (∃ k : Int, e = .returned (.int .i64 k) ∧ decide (0 ≤ k) = l.contains x) ∧ w' = w := by
 obtain ⟨ad, cap, rfl, hcap, hne⟩ := h
 refine callsIn_of_wp Tryz.func25 rfl h25 ?_ hro
 simp only [Tryz.ntmps25, List.size_toArray, List.length_cons, List.length_nil, Nat.reduceAdd, Nat.reduceSub, Array.replicate_succ, Array.replicate_zero, List.push_toArray, List.append_toArray, List.nil_append, List.cons_append]
 have t3 := Tryz.underlying3; have a3 := Tryz.isAgg3; have z3 := Tryz.sizeOf3; have v3 := Tryz.zeroValue3; have t4 := Tryz.underlying4; have a4 := Tryz.isAgg4; have z4 := Tryz.sizeOf4; have v4 := Tryz.zeroValue4; have t28 := Tryz.underlying28; have a28 := Tryz.isAgg28; have z28 := Tryz.sizeOf28; have v28 := Tryz.zeroValue28
 have u3 := run_underlying Tryz.underlying3; have u4 := run_underlying Tryz.underlying4; have u28 := run_underlying Tryz.underlying28
 gi_wp2
 gi_loopw [4, 5, 8] (fun _ _ s wr => ∃ i : Nat, s = .int .i64 (i : Int) ∧ i ≤ l.length ∧ (l.take i).contains x = false ∧ wr = w)
  (fun _ _ s _ => restN l.length s)
 case atStart => exact ⟨0, rfl, Nat.zero_le _, by simp, rfl⟩
 case round =>
  obtain ⟨i, rfl, hi, hx, rfl⟩ := hrel
  rcases Nat.lt_or_ge i l.length with hlt | hge
  ·obtain ⟨b, o, rfl, hc⟩ := hne (by intro e; subst e; simp at hlt)
   obtain ⟨y, hy⟩ : ∃ y, l[i]? = some y := ⟨_, List.getElem?_eq_getElem hlt⟩
   have hcy := hc i y hy
   have hb1 : (i : Int) < (l.length : Int) := by omega
   have hb0 : (0 : Int) ≤ (i : Int) := by omega
   clear hc hne
   by_cases hxy : x = y
   ·subst hxy
    gi_wp2
    refine bodyPost_ret (results_tmp rfl _ _ _) rfl ?_
    have hmem : x ∈ l := List.mem_of_getElem? hy
    exact ⟨⟨_, rfl, by simp [hmem]⟩, by trivial⟩
   ·gi_wp2
    go_roundw
    case rel =>
     refine ⟨i + 1, by simp, hlt, ?_, by trivial⟩
     rw [List.take_add_one, hy]
     simpa [hxy] using hx
    case measure => simp only [restN]; omega
  ·have hb1 : ¬ (i : Int) < (l.length : Int) := by omega
   gi_wp2
   refine bodyPost_ret (results_tmp rfl _ _ _) rfl ?_
   have hil : i = l.length := by omega
   subst hil
   rw [List.take_length] at hx
   have hnm : ¬ x ∈ l := by simpa using hx
   exact ⟨⟨_, rfl, by simp [hnm]⟩, by trivial⟩
theorem walk17 (F : Fence) (n : Nat) (h17 : F.fn 17) (h25 : F.fn 25) (hro : F.round = none) (hn : 1 ≤ n) (l : List Int) (hl : l.length < 4611686018427387904) (v : Value) (w : World) (h : SlAt l v w) (x : Int) :
    CallsIn F n Tryz.prog 17 #[v, .int .i64 x] w fun e w' => e = .returned (.bool (l.contains x)) ∧ w' = w := by
 have hsel := walk25 F (n - 1) h25 hro l hl v w h x
 refine callsIn_of_wp Tryz.func17 rfl h17 ?_ hro
 simp only [Tryz.ntmps17, List.size_toArray, List.length_cons, List.length_nil, Nat.reduceAdd, Nat.reduceSub, Array.replicate_succ, Array.replicate_zero, List.push_toArray, List.append_toArray, List.nil_append, List.cons_append]
 have t3 := Tryz.underlying3; have a3 := Tryz.isAgg3; have z3 := Tryz.sizeOf3; have v3 := Tryz.zeroValue3; have t4 := Tryz.underlying4; have a4 := Tryz.isAgg4; have z4 := Tryz.sizeOf4; have v4 := Tryz.zeroValue4; have t28 := Tryz.underlying28; have a28 := Tryz.isAgg28; have z28 := Tryz.sizeOf28; have v28 := Tryz.zeroValue28
 have u3 := run_underlying Tryz.underlying3; have u4 := run_underlying Tryz.underlying4; have u28 := run_underlying Tryz.underlying28
 gi_wp2_with (gi_at_call 25; refine hsel.mono ?_; rintro e w' ⟨⟨k, rfl, hk⟩, rfl⟩)
 refine bodyPost_ret (results_tmp rfl _ _ _) rfl ?_
 rw [← hk]
 refine ⟨?_, rfl⟩
 by_cases hx : x ∈ l
 ·simp [hx] at hk ⊢
  omega
 ·simp [hx] at hk ⊢
  omega

end Go.Proofs.YtdnebeaeiimjlaaGreatDoor

namespace Go.Proofs.YtdnebeaeiimjlaaGreatDoor
open Go.Vs Go.RowKit Go.Shelf
def PairsN (l : List (Int × Int)) (v : Value) (N : Nat) (w : World) : Prop := ∃ ad cap, v = .slice ad l.length cap ∧ (l ≠ [] → ∃ b, N ≤ b ∧ b < w.heap.size ∧ ad = some ⟨b, 0, none⟩ ∧ ∀ (j : Nat) x, l[j]? = some x → w.cell? ⟨b, j * 2, none⟩ = some (.int .i64 x.1) ∧ w.cell? ⟨b, j * 2 + 1, none⟩ = some (.int .i64 x.2))
theorem pairUp_get : ∀ {ds : List D} {l : List (Int × Int)}, pairUp ds = some l → ds.length = l.length * 2 ∧ ∀ (j : Nat) x, l[j]? = some x → ds[j * 2]? = some (.p (.int .i64 x.1)) ∧ ds[j * 2 + 1]? = some (.p (.int .i64 x.2))
 | [], l, h => by cases h; exact ⟨rfl, fun j x hx => by simp at hx⟩
 | [d], l, h => by cases d <;> simp [pairUp] at h
 | d1 :: d2 :: r, l, h => by
  unfold pairUp at h
  split at h
  ·cases ‹_ :: _ = []›
  ·rename_i a b r' heq
   cases heq
   obtain ⟨l', hl', rfl⟩ := Option.map_eq_some_iff.1 h
   obtain ⟨h1, h2⟩ := pairUp_get hl'
   refine ⟨by simp only [List.length_cons, h1]; omega, fun j x hx => ?_⟩
   match j with
   | 0 => cases hx; exact ⟨rfl, rfl⟩
   | j + 1 =>
    have := h2 j x (by simpa using hx)
    have e1 : (j + 1) * 2 = j * 2 + 1 + 1 := by omega
    rw [e1]
    exact ⟨by simpa using this.1, by simpa using this.2⟩
  ·cases h
def ghA (A : World) : Gh := ⟨A.heap.size, fun _ => none, fun b o => A.cell? ⟨b, o, none⟩, [], []⟩
theorem ghA_inv (A : World) : InvS A (fun _ => none) (ghA A) ⟨[], []⟩ A where
 size := Nat.le_refl _
 tys := fun b T n h => by cases h
 rowb := fun t row n b cap h => by simp [ghA] at h
 mem := fun b o v h => h
 globs := fun g cs h => by cases h
 lenB := rfl
 nodup := fun i j b ci cj h => by simp [ghA] at h
 box := fun i b cs h => by simp [ghA] at h
 boxmem := fun b o h => by obtain ⟨i, cs, h, _⟩ := h; simp [ghA] at h
 empt := fun i b h => by simp [ghA] at h
 lenT := rfl
 row := fun t row f h => by simp [ghA] at h
 rowmax := fun t row f h => by simp [ghA] at h
 free := fun t t' b h => by obtain ⟨row, f, cap, h, _⟩ := h; simp [ghA] at h
 bse := rfl
 blw := .refl _ _
 own := fun b h => by
  rcases h with ⟨i, cs, h, _⟩ | ⟨t, row, f, cap, h, _⟩ <;> simp [ghA] at h
theorem ghA_own {A : World} {b : Nat} : ¬ Owned (ghA A) ⟨[], []⟩ b := fun h => by
 rcases h with ⟨i, cs, h, _⟩ | ⟨t, row, f, cap, h, _⟩ <;> simp [ghA] at h
theorem free_call {free : PD → Option (List (Int × Int))} (hF : ∀ (A : World) x l, free x = some l → ∃ d H', pairsD d H' = some l ∧ Meets Tryz.prog A (fun _ => none) 67 [.p x] ⟨[], []⟩ (.val d) H')
    {A : World} {m : Mem} {v : Value} {x : PD} (hx : RepP m v x) (hm : ∀ b o y, m b o = some y → A.cell? ⟨b, o, none⟩ = some y) {l : List (Int × Int)} (hl : free x = some l) :
    Calls Tryz.prog 67 #[v] A fun e B => ∃ vr, e = .returned vr ∧ RowKit.Below A.heap.size A B ∧ PairsN l vr A.heap.size B := by
 obtain ⟨d, H', hd, -, h⟩ := hF A x l hl
 have hr : RepL (ghA A) #[v] [.p x] := ⟨rfl, fun i d hd => match i with
  | 0 => by
   simp only [List.getElem?_cons_zero, Option.some.injEq] at hd
   subst hd
   exact .p _ _ (hx.mono hm)
  | i + 1 => by simp at hd⟩
 refine (h (ghA A) A #[v] (ghA_inv A) hr).mono ?_
 rintro e B ⟨γ', L, Fr, I, vr, rfl, hvr⟩
 refine ⟨vr, rfl, ⟨Fr.os, Fr.tape, Fr.output, Fr.size, fun k hk => (Fr.blk k hk ghA_own).1 hk⟩, ?_⟩
 unfold pairsD at hd
 split at hd
 ·cases hd
  cases hvr with
  | p _ _ hp => cases hp; exact ⟨none, 0, rfl, fun h => (h rfl).elim⟩
 ·rename_i i ety n
  split at hd
  ·rename_i cs hcs
   split at hd
   ·rename_i l' hl'
    split at hd
    ·rename_i hn
     cases hd
     cases hvr with
     | gsl _ _ _ _ b c hb hc hmx hk ht =>
      obtain ⟨h1, h2⟩ := pairUp_get hl'
      refine ⟨_, c, by rw [hn], fun hne => ?_⟩
      have hcs0 : cs ≠ [] := by
       intro e0
       subst e0
       simp at h1
       exact hne (List.eq_nil_of_length_eq_zero (by omega))
      have hlv : Lv γ' H' b := ⟨i, cs, hb, hcs, hcs0⟩
      have hN : A.heap.size ≤ b := by
       rcases Fr.box b hlv with ⟨j, cj, hj, _⟩ | h
       ·simp [ghA] at hj
       ·exact h
      obtain ⟨vs, T, fr, hv, hB, -, hclr⟩ := I.box i b cs hb hcs
      have hmc : isMapC cs = false := by
       cases hmc : isMapC cs with
       | false => rfl
       | true =>
        exfalso
        match cs, hmc with
        | [.mapc _ _ _], _ =>
         obtain ⟨y, hy⟩ : ∃ y, l[0]? = some y := ⟨_, List.getElem?_eq_getElem (by
          rcases Nat.eq_zero_or_pos l.length with h | h
          ·exact absurd (List.eq_nil_of_length_eq_zero h) hne
          ·exact h)⟩
         have := (h2 0 y hy).1
         rw [List.getElem?_take] at this
         split at this
         ·simp at this
         ·cases this
      rw [viewC_of hmc] at hv
      have hbs : b < B.heap.size := by
       rcases Nat.lt_or_ge b B.heap.size with h | h
       ·exact h
       ·rw [Array.getElem?_eq_none h] at hv; cases hv
      refine ⟨b, hN, hbs, rfl, fun j y hy => ?_⟩
      obtain ⟨q1, q2⟩ := h2 j y hy
      have key : ∀ (k : Nat) (z : Int), (cs.take (n * 2))[k]? = some (.p (.int .i64 z)) → B.cell? ⟨b, k, none⟩ = some (.int .i64 z) := by
       intro k z hk
       rw [List.getElem?_take] at hk
       split at hk
       ·have hkl : k < cs.length := (List.getElem?_eq_some_iff.1 hk).1
        have hrd := hB.2 k _ hk
        have hks : k < vs.size := Nat.lt_of_lt_of_le hkl hB.1
        have hgd : vs[k]? = some (vs.getD k Go.undef) := by simp [Array.getD, hks]
        generalize vs.getD k Go.undef = xv at hrd hgd
        cases hrd with
        | p _ _ hp =>
         have hvk := hp.int_inv
         subst hvk
         simp only [World.cell?, hv, hgd, Option.isSome_none, Bool.false_eq_true, if_false]
       ·cases hk
      exact ⟨key _ _ q1, key _ _ q2⟩
    ·cases hd
   ·cases hd
  ·cases hd
 ·cases hd
attribute [local go_sem] Oper.semAt_some
def At33 (B : Nat) (steps : Int) (vs : List Bool) (x : PD) (want : List Int) (A : World) : Prop :=
 A.cell? ⟨B, 6, none⟩ = some (.int .i64 steps) ∧ (∃ vf, A.cell? ⟨B, 2, none⟩ = some vf ∧ VarsAt vs vf A) ∧ (∃ vb m, A.cell? ⟨B, 7, none⟩ = some vb ∧ RepP m vb x ∧ ∀ b o y, m b o = some y → A.cell? ⟨b, o, none⟩ = some y) ∧ ∃ vd, A.cell? ⟨B, 8, none⟩ = some vd ∧ SlAt want vd A
def PairsF (l : List (Int × Int)) (v : Value) (fb : Nat → Prop) (w : World) : Prop := ∃ ad cap, v = .slice ad l.length cap ∧ (l ≠ [] → ∃ b, fb b ∧ ad = some ⟨b, 0, none⟩ ∧ ∀ (j : Nat) x, l[j]? = some x → w.cell? ⟨b, j * 2, none⟩ = some (.int .i64 x.1) ∧ w.cell? ⟨b, j * 2 + 1, none⟩ = some (.int .i64 x.2))
theorem PairsF.stand {l : List (Int × Int)} {v : Value} {fb : Nat → Prop} {A B : World} (h : PairsF l v fb A) (hs : ∀ b, fb b → Stands b A B) : PairsF l v fb B := by
 obtain ⟨ad, cap, rfl, h⟩ := h
 refine ⟨ad, cap, rfl, fun hne => ?_⟩
 obtain ⟨b, hb, e, hc⟩ := h hne
 exact ⟨b, hb, e, fun j x hx => ⟨((hs b hb).1 _).trans (hc j x hx).1, ((hs b hb).1 _).trans (hc j x hx).2⟩⟩
theorem PairsF.below {l : List (Int × Int)} {v : Value} {fb : Nat → Prop} {A B : World} (h : PairsF l v fb A) (hs : RowKit.Below A.heap.size A B) : PairsF l v (fun b => fb b ∨ (A.heap.size ≤ b ∧ b < B.heap.size)) B := by
 obtain ⟨ad, cap, rfl, h⟩ := h
 refine ⟨ad, cap, rfl, fun hne => ?_⟩
 obtain ⟨b, hb, e, hc⟩ := h hne
 have key : ∀ o y, A.cell? ⟨b, o, none⟩ = some y → B.cell? ⟨b, o, none⟩ = some y := fun o y hy => by
  have hlt := World.block_lt_of_cell? A _ hy
  unfold World.cell? at hy ⊢
  rw [hs.block b hlt]
  exact hy
 exact ⟨b, .inl hb, e, fun j x hx => ⟨key _ _ (hc j x hx).1, key _ _ (hc j x hx).2⟩⟩
theorem PairsN.own {l : List (Int × Int)} {v : Value} {fb : Nat → Prop} {N : Nat} {A : World} (h : PairsN l v N A) : PairsF l v (fun b => fb b ∨ (N ≤ b ∧ b < A.heap.size)) A := by
 obtain ⟨ad, cap, rfl, h⟩ := h
 refine ⟨ad, cap, rfl, fun hne => ?_⟩
 obtain ⟨b, h1, h2, e, hc⟩ := h hne
 exact ⟨b, .inr ⟨h1, h2⟩, e, hc⟩
theorem varsL_sel {steps : Int} {vs : List Bool} {fr : List (Int × Int)} {want : List Int} {i : Nat} (h : i < selN steps) : (varsL steps vs fr want)[i]? = some (i + 1) := by
 unfold varsL
 rw [List.getElem?_append_left (by simpa using h)]
 simp [h]

set_option maxRecDepth 100000 in
set_option maxHeartbeats 4000000 in
theorem walk33 (F : Fence) (n : Nat) (h33 : F.fn 33) (h67 : F.fn 67) (h17 : F.fn 17) (h25 : F.fn 25) (hro : F.round = none) (hn : 2 ≤ n) (steps : Int) (vs : List Bool) (x : PD) (want : List Int) (fr : List (Int × Int)) (hst : steps < 4611686018427387904) (hfl : fr.length < 4611686018427387904) (hwl : want.length < 4611686018427387904) (hin : ∀ (i : Nat) p, fr[i]? = some p → 0 ≤ p.1 ∧ p.1 < (vs.length : Int))
    (hbd : selN steps + (entsA vs fr steps.toNat 0 (selN steps)).length < 4611686018427387904) (lp B : Nat) (J : Nat → (Nat → Prop) → World → Prop) (X : Ending → World → Prop) (w0 : World)
    (hK : ∀ k fb A, J k fb A → At33 B steps vs x want A)
    (hfr : ∀ A vb m, RepP m vb x → (∀ b o y, m b o = some y → A.cell? ⟨b, o, none⟩ = some y) → CallsIn F (n - 1) Tryz.prog 67 #[vb] A fun e B => ∃ vr, e = .returned vr ∧ RowKit.Below A.heap.size A B ∧ PairsN fr vr A.heap.size B)
    (hJ : ∀ k fb A B, J k fb A → RowKit.Below A.heap.size A B → J k (fun b => fb b ∨ (A.heap.size ≤ b ∧ b < B.heap.size)) B)
    (hY : ∀ k fb (x : Nat) A, (varsL steps vs fr want)[k]? = some x → J k fb A → YieldAt F (n - 1) Tryz.prog lp #[.int .i64 (x : Int)] A fun e B => (A.heap.size ≤ B.heap.size ∧ ∀ b, fb b → Stands b A B) ∧ ((e = .returned (.bool true) ∧ J (k + 1) fb B) ∨ (e = .returned (.bool false) ∧ X e B) ∨ ∃ ch, e = .panicked ch ∧ X e B))
    (h0 : J 0 (fun _ => False) w0) :
    CallsIn F n Tryz.prog 33 #[.pointer (some ⟨B, 0, none⟩), .func (.yield lp) #[] #[]] w0 fun e A => ((∃ v, e = .returned v) ∧ ((∃ fb, J (varsL steps vs fr want).length fb A) ∨ X (.returned (.bool false)) A)) ∨ ∃ ch, e = .panicked ch ∧ X e A := by
 refine callsIn_of_wp Tryz.func33 rfl h33 ?_ hro
 simp only [Tryz.ntmps33, List.size_toArray, List.length_cons, List.length_nil, Nat.reduceAdd, Nat.reduceSub, Array.replicate_succ, Array.replicate_zero, List.push_toArray, List.append_toArray, List.nil_append, List.cons_append]
 have t3 := Tryz.underlying3; have a3 := Tryz.isAgg3; have z3 := Tryz.sizeOf3; have v3 := Tryz.zeroValue3; have t4 := Tryz.underlying4; have a4 := Tryz.isAgg4; have z4 := Tryz.sizeOf4; have v4 := Tryz.zeroValue4; have t23 := Tryz.underlying23; have a23 := Tryz.isAgg23; have z23 := Tryz.sizeOf23; have v23 := Tryz.zeroValue23; have t27 := Tryz.underlying27; have t30 := Tryz.underlying30; have t95 := Tryz.underlying43; have a95 := Tryz.isAgg43; have z95 := Tryz.sizeOf43; have t110 := Tryz.underlying141; have a110 := Tryz.isAgg141; have z110 := Tryz.sizeOf141; have t112 := Tryz.underlying143; have a112 := Tryz.isAgg143; have z112 := Tryz.sizeOf143; have v112 := Tryz.zeroValue143; have t90 := Tryz.underlying90; have t49 := Tryz.underlying49; have a49 := Tryz.isAgg49; have z49 := Tryz.sizeOf49; have t28 := Tryz.underlying28; have a28 := Tryz.isAgg28; have z28 := Tryz.sizeOf28; have v28 := Tryz.zeroValue28
 have u3 := run_underlying Tryz.underlying3; have u4 := run_underlying Tryz.underlying4; have u23 := run_underlying Tryz.underlying23; have u27 := run_underlying Tryz.underlying27; have u30 := run_underlying Tryz.underlying30; have u95 := run_underlying Tryz.underlying43; have u110 := run_underlying Tryz.underlying141; have u112 := run_underlying Tryz.underlying143; have u90 := run_underlying Tryz.underlying90; have u49 := run_underlying Tryz.underlying49; have u28 := run_underlying Tryz.underlying28
 have hn1 : 1 ≤ n := by omega
 have hn2 : 1 ≤ n - 1 := by omega
 generalize hE : entsA vs fr steps.toNat 0 (selN steps) = E at *
 generalize hM : varsL steps vs fr want = M at *
 have hMd : M.drop (selN steps) = (E.filter fun e => want.contains e.2.2.1).map (·.1) := by
  rw [← hM, ← hE]
  unfold varsL
  rw [List.drop_left' (by simp)]
 have hMl : selN steps ≤ M.length := by rw [← hM]; unfold varsL; simp
 rcases Int.lt_or_le 1 steps with h1 | h1
 case' inl =>
  obtain ⟨q1, -, -, -⟩ := hK 0 _ _ h0
  gi_wp2
  clear q1
  gi_loopw [4, 20] (fun v s wr => ∃ (i : Nat) (fb : Nat → Prop), s = .int .i64 (i : Int) ∧ (i : Int) ≤ steps ∧ v = .int .i64 (i : Int) ∧ J i fb wr) (fun _ s _ => restN steps.toNat s)
  case atStart => exact ⟨0, _, rfl, by omega, rfl, h0⟩
  case' round =>
   clear h0
   obtain ⟨i, fb, rfl, hi, rfl, hJi⟩ := hrel
   rcases Int.lt_or_le (i : Int) steps with hlt | hge
   ·have hget : M[i]? = some (i + 1) := by
     rw [← hM]
     exact varsL_sel (by simp [selN, h1]; omega)
    obtain ⟨fn, tmps, assign, body, hyy, hR⟩ := hY i _ _ _ hget hJi
    simp at hyy
    gi_wp2
    refine hR.mono ?_
    rintro e W3 ⟨-, (⟨rfl, hJ5⟩ | ⟨rfl, hX3⟩ | ⟨ch, rfl, hX3⟩)⟩
    all_goals try gi_wp2
    all_goals first
     | exact ⟨⟨i + 1, _, rfl, by omega, congrArg (Value.int .i64) (by omega), hJ5⟩, by simp only [restN]; omega⟩
     | exact ⟨rfl, Or.inr ⟨ch, rfl, hX3⟩⟩
     | exact ⟨rfl, Or.inr ⟨⟨ch, rfl⟩, hX3⟩⟩
     | (refine bodyPost_ret (results_none rfl _ _ _) rfl ?_; exact .inl ⟨⟨_, rfl⟩, .inr hX3⟩)
   obtain ⟨-, -, ⟨vb, m, q4, q5, q6⟩, -⟩ := hK _ _ _ hJi
   have hfree := hfr wr vb m q5 q6
   have hb1 : ¬ (i : Int) < steps := by omega
   gi_wp2_with (gi_at_call 67; refine hfree.mono ?_; rintro e w' ⟨vr, rfl, hBel, hP⟩; have hJw := hJ _ _ _ _ hJi hBel; have hPF := PairsN.own (fb := fb) hP; obtain ⟨p1, -, -, -⟩ := hK _ _ _ hJw)
   have hsel : i = selN steps := by simp [selN, h1]; omega
   rw [hsel] at hJw
   have hs0 : ∃ z : Nat, z = selN steps ∧ z = i := ⟨_, rfl, hsel.symm⟩
   clear hsel q4 q5 q6 hfree hb1 hBel hP p1 hJi hge hi
   generalize hfb0 : (fun b => fb b ∨ (wr.heap.size ≤ b ∧ b < w'.heap.size)) = fb0 at *
   clear hfb0
 case' inr =>
  obtain ⟨q1, -, ⟨vb, m, q4, q5, q6⟩, -⟩ := hK 0 _ _ h0
  have hfree := hfr w0 vb m q5 q6
  have hb1 : ¬ 1 < steps := by omega
  gi_wp2_with (gi_at_call 67; refine hfree.mono ?_; rintro e w' ⟨vr, rfl, hBel, hP⟩; have hJw := hJ _ _ _ _ h0 hBel; have hPF := PairsN.own (fb := fun _ => False) hP; obtain ⟨p1, -, -, -⟩ := hK _ _ _ hJw)
  have hsel : 0 = selN steps := by simp [selN]; omega
  rw [hsel] at hJw
  have hs0 : ∃ z : Nat, z = selN steps ∧ z = 0 := ⟨_, rfl, hsel.symm⟩
  clear hsel q1 q4 q5 q6 hfree hb1 h0 hBel hP p1
  generalize hfb0 : (fun b => (fun _ => False) b ∨ (w0.heap.size ≤ b ∧ b < w'.heap.size)) = fb0 at *
  clear hfb0
 all_goals
    (gi_loopw [4, 6, 8, 39] (fun v _ _ s wr => ∃ (i k kM : Nat) (fb : Nat → Prop), s = .int .i64 (i : Int) ∧ (i : Int) ≤ max steps 0 ∧ v = .int .i64 ((selN steps + k : Nat) : Int) ∧ entsA vs fr (steps.toNat - i) i (selN steps + k) = E.drop k ∧ k ≤ E.length ∧ M.drop kM = ((E.drop k).filter fun e => want.contains e.2.2.1).map (·.1) ∧ kM ≤ M.length ∧ J kM fb wr ∧ PairsF fr vr fb wr)
     (fun _ _ _ s _ => restN steps.toNat s)
     case atStart =>
      obtain ⟨z, hz1, hz2⟩ := hs0
      exact ⟨0, 0, selN steps, _, rfl, by omega, congrArg (Value.int .i64) (by omega), by rw [Nat.sub_zero, Nat.add_zero, hE]; rfl, Nat.zero_le _, by rw [hMd]; rfl, hMl, hJw, hPF⟩
     case round =>
      clear hJw hPF
      clear hs0
      obtain ⟨i, k, kM, fb, rfl, hi, rfl, hk, hkle, hkM, hkMl, hJk, hPk⟩ := hrel
      rcases Int.lt_or_le (i : Int) steps with hlt | hge
      ·have hst1 : steps.toNat - i = (steps.toNat - (i + 1)) + 1 := by omega
       rw [hst1] at hk
       simp only [entsA] at hk
       obtain ⟨adr, capr, rfl, hner⟩ := id hPk
       gi_wp2
       clear hner
       gi_loopw [4, 8, 44] (fun v _ j wr2 => ∃ (j' k2 kM2 : Nat) (fb2 : Nat → Prop), j = .int .i64 (j' : Int) ∧ j' ≤ fr.length ∧ v = .int .i64 ((selN steps + k2 : Nat) : Int) ∧ ents vs i (fr.drop j') (selN steps + k2) ++ entsA vs fr (steps.toNat - (i + 1)) (i + 1) (selN steps + k2 + (ents vs i (fr.drop j') (selN steps + k2)).length) = E.drop k2 ∧ k2 ≤ E.length ∧ M.drop kM2 = ((E.drop k2).filter fun e => want.contains e.2.2.1).map (·.1) ∧ kM2 ≤ M.length ∧ J kM2 fb2 wr2 ∧ PairsF fr (.slice adr fr.length capr) fb2 wr2)
        (fun _ _ j _ => restN fr.length j)
       case atStart => exact ⟨0, k, kM, fb, rfl, Nat.zero_le _, rfl, by simpa using hk, hkle, hkM, hkMl, hJk, hPk⟩
       case round =>
        clear hk hkle hkM hkMl hJk hPk
        obtain ⟨j, k2, kM2, fb2, rfl, hj, rfl, hk2, hkle2, hkM2, hkMl2, hJ2, hP2⟩ := hrel
        rcases Nat.lt_or_ge j fr.length with hjl | hjg
        ·obtain ⟨⟨a, b⟩, hp⟩ : ∃ x, fr[j]? = some x := ⟨_, List.getElem?_eq_getElem hjl⟩
         obtain ⟨ha0, ha1⟩ := hin j _ hp
         simp only at ha0 ha1
         obtain ⟨ad2, cap2, heq, hne2⟩ := id hP2
         cases heq
         obtain ⟨rb, hfb2, rfl, hc⟩ := hne2 (by intro e; subst e; simp at hjl)
         obtain ⟨hca, hcb⟩ := hc j _ hp
         clear hc hne2
         have hb1 : (j : Int) < (fr.length : Int) := by omega
         have hb0 : (0 : Int) ≤ (j : Int) := by omega
         rw [List.drop_eq_getElem_cons hjl, (List.getElem?_eq_some_iff.1 hp).2] at hk2
         simp only [ents] at hk2
         gi_wp2
         clear hca hcb hb1 hb0
         have hBel : RowKit.Below wr.heap.size wr (wr.alloc (Obj.cells #[Value.int IntKind.i64 a, Value.int IntKind.i64 b] 143)) := RowKit.Below.alloc (.refl _ _) (Nat.le_refl _) _
         have hJ3 := hJ _ _ _ _ hJ2 hBel
         have hP3 := hP2.below hBel
         have e0 : (wr.alloc (Obj.cells #[Value.int IntKind.i64 a, Value.int IntKind.i64 b] 143)).cell? ⟨wr.heap.size, 0, none⟩ = some (.int .i64 a) := by simp [go_sem]
         have e1 : (wr.alloc (Obj.cells #[Value.int IntKind.i64 a, Value.int IntKind.i64 b] 143)).cell? ⟨wr.heap.size, 1, none⟩ = some (.int .i64 b) := by simp [go_sem]
         generalize hW1 : wr.alloc (Obj.cells #[Value.int IntKind.i64 a, Value.int IntKind.i64 b] 143) = W1 at *
         generalize hfb : (fun b => fb2 b ∨ wr.heap.size ≤ b ∧ b < W1.heap.size) = fb3 at *
         generalize wr.heap.size = N1 at *
         clear hBel hW1 hfb hJ2 hP2
         obtain ⟨-, ⟨vf, r2, r3⟩, -, ⟨vd, r7, r8⟩⟩ := hK _ _ _ hJ3
         obtain ⟨adf, capf, rfl, hnf⟩ := r3
         obtain ⟨fb', fo, rfl, hcf⟩ := hnf (by intro e; subst e; simp at ha1; omega)
         obtain ⟨y, hy⟩ : ∃ y, vs[a.toNat]? = some y := ⟨_, List.getElem?_eq_getElem (by omega)⟩
         have hcx := hcf _ _ hy
         clear hcf hnf
         by_cases hsk : skipE vs i a = true
         ·have hi0 : 0 < i ∧ y = false := by simpa [skipE, hy] using hsk
          obtain ⟨hi0, rfl⟩ := hi0
          have hii : (0 : Int) < (i : Int) := by omega
          rw [if_pos hsk] at hk2
          clear r7 r8
          first
          | (exfalso; omega)
          | ((refine wpIn_region_quiet_lit hro (by kernel_rfl) (by kernel_rfl) ?_
              repeat (gi_big_quiet_step (fail))
              refine wpQuietIn_nil ?_
              intro _ hw'
              obtain ⟨nq, hw''⟩ := hw'
              subst hw'')
             gi_wp2
             go_roundw
             case rel => exact ⟨j + 1, k2, kM2, _, by simp, hjl, rfl, hk2, hkle2, hkM2, hkMl2, hJ _ _ _ _ hJ3 (below_drewN (.refl _ _) nq), hP3.below (below_drewN (.refl _ _) nq)⟩
             case measure => simp only [restN]; omega)
         ·rw [if_neg hsk] at hk2
          have hget : E[k2]? = some (selN steps + k2 + 1, i, a, b) := by
           have := congrArg (·[0]?) hk2
           simpa [List.getElem?_drop] using this.symm
          have hnext : ents vs i (fr.drop (j + 1)) (selN steps + (k2 + 1)) ++ entsA vs fr (steps.toNat - (i + 1)) (i + 1) (selN steps + (k2 + 1) + (ents vs i (fr.drop (j + 1)) (selN steps + (k2 + 1))).length) = E.drop (k2 + 1) := by
           have := congrArg List.tail hk2
           simpa [Nat.add_assoc, Nat.add_comm 1] using this
          have hk2lt : k2 < E.length := (List.getElem?_eq_some_iff.1 hget).1
          clear hk2
          have hif : (decide (0 < i) = false) ∨ (0 < i ∧ y = true) := by
           cases y
           ·left
            refine decide_eq_false fun hi => ?_
            exact hsk (by simp [skipE, hy]; omega)
           ·rcases Nat.eq_zero_or_pos i with h | h
            ·exact .inl (by simp [h])
            ·exact .inr ⟨h, rfl⟩
          clear hsk hy
          rw [List.drop_eq_getElem_cons hk2lt, (List.getElem?_eq_some_iff.1 hget).2, List.filter_cons] at hkM2
          have hv1 : (0 : Int) ≤ (selN steps : Int) + (k2 : Int) := by omega
          have hv2 : (selN steps : Int) + (k2 : Int) + 1 < 4611686018427387904 := by omega
          rcases hif with hii | ⟨hii, rfl⟩
          all_goals try (exfalso; omega)
          all_goals
           (refine wpIn_region_quiet_lit hro (by kernel_rfl) (by kernel_rfl) ?_
            repeat (gi_big_quiet_step (fail))
            refine wpQuietIn_nil ?_
            intro _ hw'
            obtain ⟨nq, hw''⟩ := hw'
            subst hw'')
          all_goals gi_wp2
          all_goals have hJ4 := hJ _ _ _ _ hJ3 (below_drewN (.refl _ W1) (nq + 1))
          all_goals have hP4 := hP3.below (below_drewN (.refl _ W1) (nq + 1))
          all_goals have hcon : ∀ q, CallsIn F (n - 1) Tryz.prog 17 #[vd, .int .i64 a] (W1.drewN q) fun e w' => e = .returned (.bool (want.contains a)) ∧ w' = W1.drewN q := fun q => walk17 F (n - 1) h17 h25 hro hn2 want hwl vd (W1.drewN q) r8 a
          all_goals rcases hwc : want.contains a with _ | _
          all_goals rw [hwc] at hcon
          all_goals simp only [hwc, Bool.false_eq_true, if_true, if_false] at hkM2
          all_goals refine wpIn_region_any (by kernel_rfl) ?_
          all_goals change wpAnyIn _ _ _ _ _ _ _ _ _ (World.drewN W1 (nq + 1))
          all_goals refine wpAnyIn_take (i := 0) (v := .pointer (some ⟨B, 0, none⟩)) hro rfl (by kernel_rfl) (by kernel_rfl) (by kernel_rfl) (fun _ _ _ h => h) ⟨Or.inl ⟨by rfl, by (intro w; go_simp)⟩, fun _ => rfl⟩ ?_
          all_goals refine wpAnyIn_take (i := 1) (v := .pointer (some ⟨B, 0, none⟩)) hro rfl (by kernel_rfl) (by kernel_rfl) (by kernel_rfl) (fun _ _ _ h => h) ⟨Or.inl ⟨by rfl, by (intro w; go_simp)⟩, fun _ => rfl⟩ ?_
          all_goals refine wpAnyIn_take (i := 2) (v := .pointer (some ⟨B, 8, none⟩)) hro rfl (by kernel_rfl) (by kernel_rfl) (by kernel_rfl) (fun _ _ _ h => h) ⟨Or.inl ⟨by rfl, by (intro w; go_simp)⟩, fun _ => rfl⟩ ?_
          all_goals refine wpAnyIn_take (i := 4) (v := .pointer (some ⟨N1, 0, none⟩)) hro rfl (by kernel_rfl) (by kernel_rfl) (by kernel_rfl) (fun _ _ _ h => h) ⟨Or.inl ⟨by rfl, by (intro w; go_simp)⟩, fun _ => rfl⟩ ?_
          all_goals
           (refine wpAnyIn_ready (rs := [3, 5]) (by kernel_rfl) (by simp) (AllReadyIn.cons rfl (fun K hK => ?_) (AllReadyIn.cons rfl (fun K hK => ?_) AllReadyIn.nil))
            all_goals go_simp
            all_goals refine hK _ _ ?_
            all_goals clear hK K
            case' refine_1 =>
             refine wpAnyIn_ready (rs := [5]) (by kernel_rfl) (by simp) (AllReadyIn.cons rfl (fun K hK => ?_) AllReadyIn.nil)
            case' refine_2 =>
             refine wpAnyIn_ready (rs := [3]) (by kernel_rfl) (by simp) (AllReadyIn.cons rfl (fun K hK => ?_) AllReadyIn.nil))
          all_goals go_simp
          all_goals refine hK _ _ ?_
          all_goals clear hK K
          all_goals refine wpAnyIn_ready (rs := [6]) (by kernel_rfl) (by simp) (AllReadyIn.cons rfl (fun K hK => ?_) AllReadyIn.nil)
          all_goals go_simp
          all_goals refine (hcon _).mono ?_
          all_goals rintro e w' ⟨rfl, rfl⟩
          all_goals refine hK _ _ ?_
          all_goals clear hK K hcon
          all_goals first
          | (have hq : want.contains a = false := hwc
             refine wpAnyIn_take (i := 7) (v := .bool false) hro rfl (by kernel_rfl) (by kernel_rfl) (by kernel_rfl) (fun _ _ _ h => h) ⟨Or.inl ⟨by rfl, by (intro w; go_simp)⟩, fun _ => rfl⟩ ?_
             refine wpAnyIn_take (i := 8) (v := undef) hro rfl (by kernel_rfl) (by kernel_rfl) (by kernel_rfl) (fun _ _ _ h => h) ⟨Or.inr ⟨by rfl, rfl⟩, fun _ => rfl⟩ ?_
             refine wpAnyIn_take (i := 9) (v := undef) hro rfl (by kernel_rfl) (by kernel_rfl) (by kernel_rfl) (fun _ _ _ h => h) ⟨Or.inr ⟨by rfl, rfl⟩, fun _ => rfl⟩ ?_
             refine wpAnyIn_take (i := 10) (v := undef) hro rfl (by kernel_rfl) (by kernel_rfl) (by kernel_rfl) (fun _ _ _ h => h) ⟨Or.inr ⟨by rfl, rfl⟩, fun _ => rfl⟩ ?_
             refine wpAnyIn_take (i := 11) (v := undef) hro rfl (by kernel_rfl) (by kernel_rfl) (by kernel_rfl) (fun _ _ _ h => h) ⟨Or.inr ⟨by rfl, rfl⟩, fun _ => rfl⟩ ?_
             refine wpAnyIn_take (i := 12) (v := .bool false) hro rfl (by kernel_rfl) (by kernel_rfl) (by kernel_rfl) (fun _ _ _ h => h) ⟨Or.inl ⟨by rfl, by (intro w; go_simp)⟩, fun _ => rfl⟩ ?_
             refine wpAnyIn_done (by kernel_rfl) ?_ _
             go_simp
             gi_wp2
             go_roundw
             case rel => exact ⟨j + 1, k2 + 1, kM2, _, by simp, hjl, congrArg (Value.int .i64) (by omega), hnext, hk2lt, hkM2, hkMl2, hJ4, hP4⟩
             case measure => simp only [restN]; omega)
          | (have hq : want.contains a = true := hwc
             refine wpAnyIn_take (i := 7) (v := .bool true) hro rfl (by kernel_rfl) (by kernel_rfl) (by kernel_rfl) (fun _ _ _ h => h) ⟨Or.inl ⟨by rfl, by (intro w; go_simp)⟩, fun _ => rfl⟩ ?_
             refine wpAnyIn_take (i := 8) (v := .func (.yield lp) #[] #[]) hro rfl (by kernel_rfl) (by kernel_rfl) (by kernel_rfl) (fun _ _ _ h => h) ⟨Or.inl ⟨by rfl, by (intro w; go_simp)⟩, fun _ => rfl⟩ ?_
             refine wpAnyIn_take (i := 9) (v := .int .i64 (↑(selN steps) + ↑k2 + 1)) hro rfl (by kernel_rfl) (by kernel_rfl) (by kernel_rfl) (fun _ _ _ h => h) ⟨Or.inl ⟨by rfl, by (intro w; go_simp)⟩, fun _ => rfl⟩ ?_
             have hgM : M[kM2]? = some (selN steps + k2 + 1) := by
              have := congrArg (·[0]?) hkM2
              simpa [List.getElem?_drop] using this
             have hnM : M.drop (kM2 + 1) = ((E.drop (k2 + 1)).filter fun e => want.contains e.2.2.1).map (·.1) := by
              have := congrArg List.tail hkM2
              simpa using this
             have hkM2lt : kM2 < M.length := (List.getElem?_eq_some_iff.1 hgM).1
             obtain ⟨fn, tmps, assign, body, hyy, hR⟩ := hY kM2 _ _ _ hgM hJ4
             simp at hyy
             refine wpAnyIn_ready (rs := [10]) (by kernel_rfl) (by simp) (AllReadyIn.cons rfl (fun K hKK => ?_) AllReadyIn.nil)
             go_simp
             refine hR.mono ?_
             rintro e W3 ⟨⟨-, hst⟩, (⟨rfl, hJ5⟩ | ⟨rfl, hX3⟩ | ⟨ch, rfl, hX3⟩)⟩
             ·refine hKK _ _ ?_
              clear hKK K
              refine wpAnyIn_take (i := 11) (v := .bool false) hro rfl (by kernel_rfl) (by kernel_rfl) (by kernel_rfl) (fun _ _ _ h => h) ⟨Or.inl ⟨by rfl, by (intro w; go_simp)⟩, fun _ => rfl⟩ ?_
              refine wpAnyIn_take (i := 12) (v := .bool false) hro rfl (by kernel_rfl) (by kernel_rfl) (by kernel_rfl) (fun _ _ _ h => h) ⟨Or.inl ⟨by rfl, by (intro w; go_simp)⟩, fun _ => rfl⟩ ?_
              refine wpAnyIn_done (by kernel_rfl) ?_ _
              go_simp
              gi_wp2
              go_roundw
              case rel => exact ⟨j + 1, k2 + 1, kM2 + 1, _, by simp, hjl, congrArg (Value.int .i64) (by omega), hnext, hk2lt, hnM, hkM2lt, hJ5, hP4.stand hst⟩
              case measure => simp only [restN]; omega
             ·refine hKK _ _ ?_
              clear hKK K
              refine wpAnyIn_take (i := 11) (v := .bool true) hro rfl (by kernel_rfl) (by kernel_rfl) (by kernel_rfl) (fun _ _ _ h => h) ⟨Or.inl ⟨by rfl, by (intro w; go_simp)⟩, fun _ => rfl⟩ ?_
              refine wpAnyIn_take (i := 12) (v := .bool true) hro rfl (by kernel_rfl) (by kernel_rfl) (by kernel_rfl) (fun _ _ _ h => h) ⟨Or.inl ⟨by rfl, by (intro w; go_simp)⟩, fun _ => rfl⟩ ?_
              refine wpAnyIn_done (by kernel_rfl) ?_ _
              go_simp
              gi_wp2
              refine bodyPost_ret (results_none rfl _ _ _) rfl ?_
              exact .inl ⟨⟨_, rfl⟩, .inr hX3⟩
             ·first
              | exact ⟨rfl, Or.inr ⟨ch, rfl, hX3⟩⟩
              | exact ⟨rfl, Or.inr ⟨⟨ch, rfl⟩, hX3⟩⟩)
        ·have hb1 : ¬ (j : Int) < (fr.length : Int) := by omega
         gi_wp2
         have hje : j = fr.length := by omega
         subst hje
         rw [List.drop_length] at hk2
         simp only [ents, List.nil_append, List.length_nil, Nat.add_zero] at hk2
         refine ⟨⟨i + 1, k2, kM2, _, rfl, by omega, rfl, hk2, hkle2, hkM2, hkMl2, hJ2, hP2⟩, ?_⟩
         simp only [restN]
         omega
      ·have hb1 : ¬ (i : Int) < steps := by omega
       gi_wp2
       go_end0
       have hz : steps.toNat - i = 0 := by omega
       rw [hz] at hk
       simp only [entsA] at hk
       have hkl : E.length ≤ k := by
        have := congrArg List.length hk
        rw [List.length_nil, List.length_drop] at this
        omega
       rw [List.drop_eq_nil_of_le hkl] at hkM
       have hMl2 : M.length ≤ kM := by
        have := congrArg List.length hkM
        simp only [List.filter_nil, List.map_nil, List.length_nil, List.length_drop] at this
        omega
       have hke : kM = M.length := by omega
       rw [hke] at hJk
       exact .inl ⟨⟨_, rfl⟩, .inl ⟨fb, hJk⟩⟩)

end Go.Proofs.YtdnebeaeiimjlaaGreatDoor

namespace Go.Proofs.YtdnebeaeiimjlaaGreatDoor
open Go.Vs Go.RowKit Go.Shelf
theorem asP_rep {γ : Gh} {v : Value} {d : D} (h : RepD γ v d) {x : PD} (hx : asP d = some x) : RepP γ.mem v x := by
 unfold asP at hx
 split at hx
 ·cases hx
  cases h with
  | p _ _ h => exact h
 ·cases hx
  cases h with
  | fsl b n e sz es hb ht hn h => exact h
 ·cases hx
theorem yieldAt_room {m n : Nat} {l : Nat} {args : Array Value} {A : World} {R : Ending → World → Prop} (h : YieldAt (wr none) m Tryz.prog l args A R) : YieldAt (wr none) n Tryz.prog l args A R := by
 obtain ⟨fn, tmps, assign, body, h1, h2, h3⟩ := h
 exact ⟨fn, tmps, assign, body, h1, h2, fun c cs hr => h3 c cs (fun d hd => by cases hd)⟩

variable {W : World} {G : Nat → Option (List PD)}
theorem gen33_ok {free : PD → Option (List (Int × Int))} (hF : ∀ (A : World) x l, free x = some l → ∃ d H', pairsD d H' = some l ∧ Meets Tryz.prog A (fun _ => none) 67 [.p x] ⟨[], []⟩ (.val d) H') : GenOk Tryz.prog W G 33 (gen33 free) := by
 refine ⟨⟨Tryz.f33, Tryz.func33, by kernel_rfl, by kernel_rfl⟩, fun fi cap H xs hg γ w la lb I hra hrb => ?_⟩
 unfold gen33 at hg
 split at hg
 ·rename_i i
  split at hg
  ·rename_i c0 c1 fs c3 c4 c5 steps b fd c9 hbx
   split at hg
   ·rename_i vs fr want hvs hfr hwant
    split at hg
    ·rename_i hc
     obtain ⟨hs, hfl, hwl, hal, hbd⟩ := hc
     cases hg
     have hlb : lb = #[] := Array.eq_empty_of_size_eq_zero hrb.1
     subst hlb
     obtain ⟨v, rfl, hv0⟩ := repL_one hra
     obtain ⟨pf, hpf, hvs⟩ := Option.bind_eq_some_iff.1 hvs
     obtain ⟨pb, hpb, hfr⟩ := Option.bind_eq_some_iff.1 hfr
     obtain ⟨pd, hpd, hwant⟩ := Option.bind_eq_some_iff.1 hwant
     cases hv0 with
     | box _ _ B hB =>
      have fact : ∀ A, Kept W G γ H (capIds (.fn 33 [.box i 0] []) H) A → At33 B steps vs pb want A := by
       rintro A ⟨γ', H', L, I', hkeep⟩
       have hi' : H'.bx[i]? = some [c0, c1, fs, c3, c4, c5, .p (.int .i64 steps), b, fd, c9] := by
        rw [hkeep i (by obtain ⟨r, hr⟩ := reach_pre H H.bx.length [i]; show i ∈ reach H H.bx.length [i]; rw [hr]; simp)]
        exact hbx
       obtain ⟨us, T, fro, hv, hR, -, -⟩ := I'.box i B _ (L.boxes _ _ hB) hi'
       rw [viewC_of (by cases c0 <;> rfl)] at hv
       have hcell : ∀ (k : Nat), k < 10 → A.cell? ⟨B, k, none⟩ = some (us.getD k Go.undef) := by
        intro k hk
        have hks : k < us.size := Nat.lt_of_lt_of_le hk hR.1
        simp only [World.cell?, hv, Option.isSome_none, Bool.false_eq_true, if_false]
        simp [Array.getD, hks]
       refine ⟨?_, ⟨_, hcell 2 (by decide), varsOf_rep (asP_rep (hR.2 2 fs rfl) hpf) hvs I'.toInv.mem⟩, ⟨_, γ'.mem, hcell 7 (by decide), asP_rep (hR.2 7 b rfl) hpb, I'.toInv.mem⟩, ⟨_, hcell 8 (by decide), intsOf_rep (asP_rep (hR.2 8 fd rfl) hpd) hwant I'.toInv.mem⟩⟩
       rw [hcell 6 (by decide)]
       have h6 := hR.2 6 _ rfl
       have := (asP_rep h6 rfl).int_inv
       rw [this]
      refine ⟨fun k => match (varsL steps vs fr want)[k]? with | some x => #[.int .i64 (x : Int)] | none => #[], fun k x hx => ?_, fun lp J X w0 hB hKp hJ hT hX hXT hY h0 => ?_⟩
      ·simp only [List.getElem?_map, Option.map_eq_some_iff] at hx
       obtain ⟨p, hp, rfl⟩ := hx
       simp only [hp]
       exact ⟨rfl, fun γ' => int_en _⟩
      ·have h := walk33 (wr none) 2 trivial trivial trivial trivial rfl (Nat.le_refl _) steps vs pb want fr hs hfl hwl (fun i p hp => by
        have := List.all_eq_true.1 hal p (List.mem_of_getElem? hp)
        exact of_decide_eq_true this) hbd lp B J X w0 (fun k fb A hj => fact A (hKp k fb A hj)) (fun A vb m h1 h2 => callsIn_wr.2 (free_call hF h1 h2 hfr)) hJ (fun k fb x A hx hj => by
        have := hY k fb _ A (by rw [List.getElem?_map, hx]; rfl) hj
        simp only [hx] at this
        exact yieldAt_room this) h0
       rw [List.length_map]
       exact callsIn_wr.2 (callsIn_wr.1 h)
    ·cases hg
   ·cases hg
  ·cases hg
 ·cases hg

end Go.Proofs.YtdnebeaeiimjlaaGreatDoor

namespace Go.Proofs.YtdnebeaeiimjlaaGreatDoor
open Go.Proofs Go.Shelf
def ren21 : Go.Shelf.Ren where
 f := fun | 21 => 80 | 27 => 119 | 28 => 120 | 35 => 159 | 39 => 197 | n => n
 t := fun | 22 => 28 | 3 => 3 | 4 => 4 | 0 => 0 | n => n
 g := fun n => n
theorem lays21 : Lays2.n21 Tryz.prog ren21 where
 mixed := by kernel_rfl
 f21 := Tryz.func80.trans (by kernel_rfl)
 f27 := Tryz.func119.trans (by kernel_rfl)
 f28 := Tryz.func120.trans (by kernel_rfl)
 f35 := Tryz.func159.trans (by kernel_rfl)
 f39 := Tryz.func197.trans (by kernel_rfl)
 t0 := Tryz.underlying0
 a0 := Tryz.isAgg0
 z0 := Tryz.sizeOf0
 v0 := Tryz.zeroValue0
 t3 := Tryz.underlying3
 a3 := Tryz.isAgg3
 z3 := Tryz.sizeOf3
 v3 := Tryz.zeroValue3
 t4 := Tryz.underlying4
 a4 := Tryz.isAgg4
 z4 := Tryz.sizeOf4
 v4 := Tryz.zeroValue4
 t22 := Tryz.underlying28
 a22 := Tryz.isAgg28
 z22 := Tryz.sizeOf28
 v22 := Tryz.zeroValue28
 i3 := by kernel_rfl

end Go.Proofs.YtdnebeaeiimjlaaGreatDoor

namespace Go.Proofs.YtdnebeaeiimjlaaGreatDoor
open Go Go.Vs Go.RowKit Go.Shelf

variable {W : World} {G : Nat → Option (List PD)}
theorem setCells_row (b : Nat) (T : TypeId) (fr : Nat × Nat) : ∀ (vs : List Value) (o : Nat) (cur : Array Value) (w : World), w.heap[b]? = some (.cells cur T fr) → o + vs.length ≤ cur.size →
    w.setCells b o vs = w.setRow b (cur.toList.take o ++ vs ++ cur.toList.drop (o + vs.length)).toArray
 | [], o, cur, w, hg, _ => by
  simp only [World.setCells, List.append_nil, List.length_nil, Nat.add_zero, List.take_append_drop, Array.toArray_toList]
  rw [setRow_self w b cur T fr hg]
 | v :: rest, o, cur, w, hg, hl => by
  have ih := setCells_row b T fr rest (o + 1) (cur.setIfInBounds o v) (w.setRow b (cur.setIfInBounds o v)) (setRow_heap w b cur _ T _ hg) (by simp at hl ⊢; omega)
  simp only [World.setCells, setCell_eq_setRow w b o cur T fr v hg, ih, setRow_setRow]
  congr 2
  have := list_seg_step cur.toList o v rest (by simp at hl ⊢; omega)
  have e2 : o + (v :: rest).length = o + (rest.length + 1) := by simp
  have e3 : o + 1 + rest.length = o + (rest.length + 1) := by omega
  rw [e2]
  simpa [Array.toList_setIfInBounds, e3] using this
theorem alloc_row (w : World) (X Y : Array Value) (T : TypeId) : (w.alloc (.cells X T)).setRow w.heap.size Y = w.alloc (.cells Y T) := by
 unfold World.setRow World.alloc
 congr 1
 apply Array.ext
 ·simp
 ·intro i h1 h2
  simp only [Array.getElem_modify]
  split
  ·rename_i h
   subst h
   simp
  ·rename_i h
   have : i < w.heap.size := by simp at h2; omega
   simp [Array.getElem_push, this]
theorem mapO_intD : ∀ {cs : List D} {l : List Int}, mapO intD cs = some l → cs = l.map fun x => .p (.int .i64 x)
 | [], l, h => by cases h; rfl
 | c :: cs, l, h => by
  simp only [mapO] at h
  split at h
  ·rename_i t ht
   obtain ⟨l', h1, rfl⟩ := Option.map_eq_some_iff.1 h
   have e : c = .p (.int .i64 t) := by
    unfold intD at ht
    split at ht
    ·cases ht; rfl
    ·cases ht
   rw [e, mapO_intD h1]; rfl
  ·cases h
def ivs (l : List Int) : List Value := l.map fun x => .int .i64 x
def idv (l : List Int) : List D := l.map fun x => .p (.int .i64 x)
theorem ivs_one (l : List Int) : ∀ v ∈ ivs l, v.oneCell' = true := fun v hv => by
 obtain ⟨x, _, rfl⟩ := List.mem_map.1 hv; rfl
theorem idv_one (l : List Int) : ∀ c ∈ idv l, c.one = true := fun v hv => by
 obtain ⟨x, _, rfl⟩ := List.mem_map.1 hv; rfl
theorem rep_idv {γ : Gh} (l : List Int) (tl : List Value) : RepB γ (ivs l ++ tl).toArray (idv l) := by
 refine ⟨by simp [ivs, idv], fun k d hd => ?_⟩
 unfold idv at hd
 rw [List.getElem?_map] at hd
 cases hx : l[k]? with
 | none => rw [hx] at hd; cases hd
 | some x =>
  rw [hx] at hd
  cases hd
  have hk := (List.getElem?_eq_some_iff.1 hx).1
  have : (ivs l ++ tl).toArray.getD k undef = .int .i64 x := by
   simp [ivs, Array.getD_eq_getD_getElem?, List.getElem?_append, hk]
   have := (List.getElem?_eq_some_iff.1 hx).2
   exact this
  rw [this]
  exact .p _ _ (.int _ _)
theorem idv_of {γ : Gh} {vs : Array Value} {cs : List D} (r : RepB γ vs cs) {n : Nat} {l : List Int} (h : cs.take n = idv l) (hn : n ≤ cs.length) : l.length = n ∧ ∀ (j : Nat) v, (ivs l)[j]? = some v → vs[j]? = some v := by
 have hl : l.length = n := by
  have := congrArg List.length h
  rw [List.length_take, Nat.min_eq_left hn] at this
  simpa [idv] using this.symm
 refine ⟨hl, fun j v hv => ?_⟩
 unfold ivs at hv
 rw [List.getElem?_map] at hv
 cases hx : l[j]? with
 | none => rw [hx] at hv; cases hv
 | some x =>
  rw [hx] at hv
  cases hv
  have hj := (List.getElem?_eq_some_iff.1 hx).1
  have hc : cs[j]? = some (.p (.int .i64 x)) := by
   have h2 : (cs.take n)[j]? = some (.p (.int .i64 x)) := by rw [h]; simp [idv, hx]
   rw [List.getElem?_take] at h2
   split at h2
   ·exact h2
   ·cases h2
  have h3 := (r.2 j _ hc).p_inv.int_inv
  have hjs : j < vs.size := by have := r.1; omega
  rw [Array.getElem?_eq_getElem hjs]
  simpa [Array.getD_eq_getD_getElem?, hjs] using h3
theorem take_ivs {vs : Array Value} {l : List Int} (h : ∀ (j : Nat) v, (ivs l)[j]? = some v → vs[j]? = some v) : vs.toList = ivs l ++ vs.toList.drop l.length := by
 have h1 : vs.toList.take l.length = ivs l := by
  apply List.ext_getElem?
  intro j
  rcases Nat.lt_or_ge j l.length with hj | hj
  ·have hj2 : j < (ivs l).length := by simpa [ivs] using hj
   rw [List.getElem?_take, if_pos hj, List.getElem?_eq_getElem hj2, Array.getElem?_toList]
   exact h j _ (List.getElem?_eq_getElem hj2)
  ·rw [List.getElem?_eq_none (by simp; omega), List.getElem?_eq_none (by simpa [ivs] using hj)]
 conv => lhs; rw [← List.take_append_drop l.length vs.toList, h1]

end Go.Proofs.YtdnebeaeiimjlaaGreatDoor

namespace Go.Proofs.YtdnebeaeiimjlaaGreatDoor
open Go Go.Vs Go.RowKit Go.Shelf

variable {W : World} {G : Nat → Option (List PD)}
theorem ins_enters : Vs.Enters Tryz.prog 80 := ⟨Tryz.f80, Tryz.func80, by kernel_rfl, by kernel_rfl⟩
theorem own_row {γ : Gh} {H : Hp} {w : World} (I : Vs.Inv G γ H w) {i b : Nat} {cs : List D} (hb : γ.boxes[i]? = some b) (hc : H.bx[i]? = some cs) (hm : isMapC cs = false) (hn : cs ≠ []) {k c : Nat} (hk : k < 1) (ht : γ.tys b = some (2 * 3 + k, c * 1)) :
    ∃ (vs : Array Value) (fr : Nat × Nat), w.heap[b]? = some (.cells vs 3 fr) ∧ vs.size = c ∧ RepB γ vs cs ∧ clear fr 0 vs.size ∧ (∀ j, j < c → w.frozen? ⟨b, j, none⟩ = false) ∧ w.frozen? ⟨b, c, none⟩ = false ∧ w.shape? b = some (3, c) := by
 obtain ⟨vs, T, fr, q1, q2, q3, q4⟩ := I.box i b cs hb hc
 rw [viewC_of hm] at q1
 have q4 := q4 hn
 obtain rfl : k = 0 := by omega
 obtain ⟨vs', fr', z1, z2, z3⟩ := I.tys b _ _ ht
 rw [q1] at z1
 cases z1
 rw [Nat.mul_one] at z2
 have hfz : ∀ j, j < c → w.frozen? ⟨b, j, none⟩ = false := fun j hj => by
  have := q4 j (Nat.zero_le _) (by omega)
  simp only [World.frozen?, q1]
  cases hd : (decide (fr.1 ≤ j) && decide (j < fr.2)) with
  | false => rfl
  | true => simp at hd; exact (this hd).elim
 have hfe : w.frozen? ⟨b, c, none⟩ = false := by
  have h2 := (z3 rfl).1
  simp only [World.frozen?, q1]
  have : ¬ c < fr.2 := by omega
  simp [this]
 exact ⟨vs, fr, q1, z2, q2, q4, hfz, hfe, by simp [World.shape?, q1, z2]⟩
theorem rep3 {γ : Gh} {vs : Array Value} {d1 d2 d3 : D} (h : RepL γ vs [d1, d2, d3]) : ∃ v1 v2 v3, vs = #[v1, v2, v3] ∧ RepD γ v1 d1 ∧ RepD γ v2 d2 ∧ RepD γ v3 d3 := by
 obtain ⟨hs, hr⟩ := h
 obtain ⟨l⟩ := vs
 match l, hs with
 | [v1, v2, v3], _ => exact ⟨v1, v2, v3, rfl, hr 0 _ rfl, hr 1 _ rfl, hr 2 _ rfl⟩
theorem new_row {γ0 γ : Gh} {H0 H : Hp} {w0 w : World} (I0 : InvS W G γ0 H0 w0) (L : γ0.le γ) (F : Vs.Frame γ0 H0 w0 γ H w) (I : Vs.Inv G γ H w) (l : List Int) (tl : List Value) (c : Nat) (hn : l.length ≤ c) (hcm : c ≤ maxLen) (hs : (ivs l ++ tl).length = c) :
    ∃ γ', γ0.le γ' ∧ Vs.Frame γ0 H0 w0 γ' { H with bx := H.bx ++ [idv l] } (w.alloc (.cells (ivs l ++ tl).toArray 3)) ∧ InvS W G γ' { H with bx := H.bx ++ [idv l] } (w.alloc (.cells (ivs l ++ tl).toArray 3)) ∧
     RepD γ' (.slice (some ⟨w.heap.size, 0, none⟩) l.length c) (.gsl H.bx.length 3 l.length 1) := by
 obtain ⟨γ', a1, a2, a5, a3, a4⟩ := I.newBoxT 3 (vs := (ivs l ++ tl).toArray) (cs := idv l) (fun _ _ _ _ => rep_idv l tl) (idv_one l)
 have FF := F.trans L.base a3
 refine ⟨γ', L.trans a1, FF, I0.up (L.trans a1) FF a4, .gsl _ _ _ _ _ c a2 hn hcm (k := 0) (by decide) ?_⟩
 have : (ivs l ++ tl).toArray.size = c * 1 := by simpa using hs
 rw [this] at a5
 exact a5
theorem ivs_ins (l : List Int) (k : Nat) (t : Int) : ivs (insL l k t) = (ivs l).take k ++ Value.int .i64 t :: (ivs l).drop k := by
 simp [ivs, insL, List.map_take, List.map_drop]
theorem insL_len (l : List Int) (k : Nat) (t : Int) (hk : k ≤ l.length) : (insL l k t).length = l.length + 1 := by
 simp [insL]; omega
theorem take_abc {k : Nat} (A B C : List Value) (h : A.length = k) : (A ++ B ++ C).take k = A := by
 rw [List.append_assoc, List.take_left' h]
theorem grow_row (w : World) (X : Array Value) (T : TypeId) (vs cs : List Value) (i : Nat) (hs : i + vs.length + cs.length ≤ X.size) :
    ((w.alloc (.cells X T)).drew.setCells w.heap.size i vs).drew.setCells w.heap.size (i + vs.length) cs = w.drew.drew.alloc (.cells (X.toList.take i ++ vs ++ cs ++ X.toList.drop (i + vs.length + cs.length)).toArray T) := by
 have g : ∀ (w : World) (X : Array Value), (w.alloc (.cells X T)).heap[w.heap.size]? = some (.cells X T (0, 0)) := fun w X => by unfold World.alloc; simp
 have e0 : (w.alloc (.cells X T)).drew = w.drew.alloc (.cells X T) := rfl
 have s0 : w.heap.size = w.drew.heap.size := rfl
 rw [e0, s0, setCells_row _ T (0, 0) vs i X _ (g w.drew X) (by omega), alloc_row]
 generalize hY : (X.toList.take i ++ vs ++ X.toList.drop (i + vs.length)).toArray = Y
 have hYs : Y.size = X.size := by rw [← hY]; simp; omega
 have e1 : (w.drew.alloc (.cells Y T)).drew = w.drew.drew.alloc (.cells Y T) := rfl
 have s1 : w.drew.heap.size = w.drew.drew.heap.size := rfl
 rw [e1, s1, setCells_row _ T (0, 0) cs _ Y _ (g w.drew.drew Y) (by omega), alloc_row]
 congr 3
 rw [← hY]
 have a1 : (X.toList.take i ++ vs ++ X.toList.drop (i + vs.length)).take (i + vs.length) = X.toList.take i ++ vs := by
  rw [List.take_append_of_le_length (by simp; omega), List.take_of_length_le (by simp; omega)]
 have a2 : (X.toList.take i ++ vs ++ X.toList.drop (i + vs.length)).drop (i + vs.length + cs.length) = X.toList.drop (i + vs.length + cs.length) := by
  rw [← List.drop_drop, List.drop_left' (by simp; omega), List.drop_drop]
 simp only [a1, a2]

set_option maxHeartbeats 1000000 in
theorem ins_own {γ : Gh} {H : Hp} {w : World} (I : InvS W G γ H w) {i j b vb n c vc k k1 k2 : Nat} {cs : List D} {l : List Int} {t : Int} (hij : i ≠ j) (hb : γ.boxes[i]? = some b) (hvb : γ.boxes[j]? = some vb)
    (hc : H.bx[i]? = some cs) (hcj : H.bx[j]? = some [.p (.int .i64 t)]) (hm : isMapC cs = false) (hnc : n ≤ cs.length) (hne : cs ≠ []) (hl : cs.take n = idv l) (hcc : n ≤ c) (hcm : c ≤ maxLen)
    (hk1 : k1 < 1) (hty : γ.tys b = some (2 * 3 + k1, c * 1)) (hvc : 1 ≤ vc) (hk2 : k2 < 1) (hty2 : γ.tys vb = some (2 * 3 + k2, vc * 1)) (hk : k ≤ n) (hn : n < 1000000) :
    Calls Tryz.prog 80 #[.slice (some ⟨b, 0, none⟩) n c, .int .i64 k, .slice (some ⟨vb, 0, none⟩) 1 vc] w fun e w' => ∃ γ', γ.le γ' ∧ Vs.Frame γ H w γ' { H with bx := H.bx.set i [] ++ [idv (insL l k t)] } w' ∧ InvS W G γ' { H with bx := H.bx.set i [] ++ [idv (insL l k t)] } w' ∧
     Ends' γ' (.val (.gsl H.bx.length 3 (n + 1) 1)) e := by
 have hvb2 : vb ≠ b := fun h => by
  subst h
  exact hij (I.nodup i j vb _ _ hb hvb hc hcj hne (by simp))
 obtain ⟨vs, fr, q1, qs, q2, q4, hfz, hfe, hsh⟩ := own_row I.toInv hb hc hm hne hk1 hty
 obtain ⟨us, fr2, u1, us1, u2, u4, ufz, ufe, ush⟩ := own_row I.toInv hvb hcj rfl (by simp) hk2 hty2
 obtain ⟨hll, hvl⟩ := idv_of q2 hl hnc
 have hu0 : us[0]? = some (.int .i64 t) := by
  have h3 := (u2.2 0 _ rfl).p_inv.int_inv
  have : 0 < us.size := by omega
  rw [Array.getElem?_eq_getElem this]
  simpa [Array.getD_eq_getD_getElem?, this] using h3
 have hcell : ∀ (p : Nat) v, (ivs l)[p]? = some v → w.cell? ⟨b, 0 + p, none⟩ = some v := fun p v hp => by
  rw [Nat.zero_add]; simp only [World.cell?, q1]; exact hvl p v hp
 have hucell : ∀ (p : Nat) v, [Value.int .i64 t][p]? = some v → w.cell? ⟨vb, 0 + p, none⟩ = some v := fun p v hp => by
  cases p with
  | zero => cases hp; simp only [World.cell?, u1]; exact hu0
  | succ p => simp at hp
 have h1 : ∀ v ∈ [Value.int .i64 t], v.oneCell' = true := fun v hv => by rw [List.mem_singleton.1 hv]; rfl
 have hil : (insL l k t).length = n + 1 := by rw [insL_len l k t (by omega), hll]
 have hvs := take_ivs hvl
 have hivl : (ivs l).length = n := by simpa [ivs] using hll
 have hbL : (γ.boxes ++ [b])[H.bx.length]? = some b := by rw [← I.lenB]; simp
 -- in place
 have place : n + 1 ≤ c → ∀ w', w' = w.drew.setRow b (ivs (insL l k t) ++ vs.toList.drop (n + 1)).toArray ∨ w' = w.setRow b (ivs (insL l k t) ++ vs.toList.drop (n + 1)).toArray → ∃ γ', γ.le γ' ∧ Vs.Frame γ H w γ' { H with bx := H.bx.set i [] ++ [idv (insL l k t)] } w' ∧ InvS W G γ' { H with bx := H.bx.set i [] ++ [idv (insL l k t)] } w' ∧
     Ends' γ' (.val (.gsl H.bx.length 3 (n + 1) 1)) (.returned (.slice (some ⟨b, 0, none⟩) (n + 1) c)) := by
  intro hr w' hw'
  have hsz : (ivs (insL l k t) ++ vs.toList.drop (n + 1)).toArray.size = vs.size := by
   simp only [List.size_toArray, List.length_append, List.length_drop, Array.length_toList]
   have : (ivs (insL l k t)).length = n + 1 := by simpa [ivs] using hil
   omega
  rcases hw' with rfl | rfl
  ·obtain ⟨g1, g2, g3⟩ := I.toInv.drew.growBox hb hc hne hm q1 q4 hsz hty (rep_idv (insL l k t) (vs.toList.drop (n + 1))) (idv_one _)
   have FF := (Vs.Frame.drew γ H w).trans rfl g2
   exact ⟨_, g1, FF, I.up g1 FF g3, _, rfl, .gsl _ _ _ _ b c hbL hr hcm hk1 hty⟩
  ·obtain ⟨g1, g2, g3⟩ := I.toInv.growBox hb hc hne hm q1 q4 hsz hty (rep_idv (insL l k t) (vs.toList.drop (n + 1))) (idv_one _)
   exact ⟨_, g1, g2, I.up g1 g2 g3, _, rfl, .gsl _ _ _ _ b c hbL hr hcm hk1 hty⟩
 -- a new row
 have fresh : ∀ w0 w' (tl : List Value) (c' : Nat), w0.heap.size = w.heap.size → (Vs.Inv G γ H w → Vs.Inv G γ H w0) → Vs.Frame γ H w γ H w0 → n + 1 ≤ c' → c' ≤ maxLen → (ivs (insL l k t) ++ tl).length = c' → w' = w0.alloc (.cells (ivs (insL l k t) ++ tl).toArray 3) →
     ∃ γ', γ.le γ' ∧ Vs.Frame γ H w γ' { H with bx := H.bx.set i [] ++ [idv (insL l k t)] } w' ∧ InvS W G γ' { H with bx := H.bx.set i [] ++ [idv (insL l k t)] } w' ∧ Ends' γ' (.val (.gsl H.bx.length 3 (n + 1) 1)) (.returned (.slice (some ⟨w.heap.size, 0, none⟩) (n + 1) c')) := by
  rintro w0 w' tl c' hs0 hI hF h2 h3 h4 rfl
  obtain ⟨f1, I1⟩ := (hI I.toInv).retire hb hc hne hty
  obtain ⟨γ', a1, a2, a3, a4⟩ := new_row I (.refl γ) (hF.trans rfl f1) I1 (insL l k t) tl c' (by omega) h3 h4
  rw [hil, List.length_set, hs0] at a4
  exact ⟨γ', a1, a2, a3, _, rfl, a4⟩
 have htk : vs.toList.take n = ivs l := by
  rw [hvs, List.take_append_of_le_length (by omega), List.take_of_length_le (by omega)]
 have hsp : ∀ p, p < c → (w.cell? ⟨b, p, none⟩).isSome = true := fun p hp => by
  simp only [World.cell?, q1]
  rw [Array.getElem?_eq_getElem (by omega)]; rfl
 have h63 : c ≤ 9223372036854775807 := by simpa [maxLen] using hcm
 by_cases hend : k = n
 ·subst hend
  have hins : ivs (insL l k t) = ivs l ++ [Value.int .i64 t] := by
   rw [ivs_ins, List.take_of_length_le (by omega), List.drop_of_length_le (by omega)]
  by_cases hr : k + 1 ≤ c
  ·refine (Any2.slices_Insert_int_end_room lays21 b 0 k c vb 0 1 vc [.int .i64 t] w (by decide) hr h63 rfl (fun p hp => ?_) (fun p hp => ?_) hucell h1).mono ?_
   ·obtain rfl : p = 0 := by omega
    rw [Nat.zero_add]; exact hsp _ (by omega)
   ·obtain rfl : p = 0 := by omega
    rw [Nat.zero_add]; exact hfz _ (by omega)
   ·rintro e w' ⟨rfl, rfl⟩
    refine place hr _ (.inr ?_)
    rw [Nat.zero_add, setCells_row b 3 fr _ _ vs w q1 (by simp; omega), htk, hins]
    rfl
  ·have hg1 := grownCap_ge w (k + 1) c 3
   have hg2 := grownCap_le_maxLen w (k + 1) c 3 (by simp only [maxLen]; omega)
   refine (Any2.slices_Insert_int_end_grow lays21 (some ⟨b, 0, none⟩) k c vb 0 1 vc (ivs l) [.int .i64 t] w (by decide) hcc (by omega) (by omega) hivl rfl (fun h => by cases h) (fun a ha p v hp => by cases ha; rw [Addr.add_lit]; exact hcell p v hp) hucell h1).mono ?_
   rintro e w' ⟨rfl, rfl⟩
   refine fresh w.drew _ (Builtin.zeroCells (Value.int .i64 0).cells (grownCap w (k + 1) c 3 - (k + 1))).toList _ rfl (fun I => I.drew) (Vs.Frame.drew γ H w) hg1 hg2 ?_ ?_
   ·have : (ivs (insL l k t)).length = k + 1 := by simpa [ivs] using hil
    rw [List.length_append, this, Array.length_toList, size_zeroCells]
    have : (Value.int IntKind.i64 0).cells.size = 1 := rfl
    have e3 : ren21.t 3 = 3 := rfl
    rw [this, e3]; omega
   ·rw [hins]
    congr 2
    apply Array.ext'
    simp
    rfl
 ·have hkn : k < n := by omega
  have hins : ivs (insL l k t) = (ivs l).take k ++ Value.int .i64 t :: (ivs l).drop k := ivs_ins l k t
  have hdl : ((ivs l).drop k).length = n - k := by rw [List.length_drop, hivl]
  by_cases hr : n + 1 ≤ c
  ·refine (Any2.slices_Insert_int_shift lays21 b 0 n c k vb 0 1 vc (ivs l) [.int .i64 t] w hkn (by decide) hr h63 hvb2 hivl rfl hcell (fun p hp => ?_) (fun p hp => ?_) hucell (ivs_one l) h1 3 3 vc c ush hsh (by omega) (ufz 0 (by omega)) ufe).mono ?_
   ·rw [Nat.zero_add]; exact hsp _ (by omega)
   ·rw [Nat.zero_add]; exact hfz _ (by omega)
   ·rintro e w' ⟨rfl, rfl⟩
    refine place hr _ (.inl ?_)
    have q1' : w.drew.heap[b]? = some (.cells vs 3 fr) := q1
    rw [Nat.zero_add, Nat.zero_add, setCells_row b 3 fr _ _ vs w.drew q1' (by rw [hdl]; omega)]
    rw [setCells_row b 3 fr _ _ _ _ (setRow_heap w.drew b vs _ 3 fr q1') (by simp only [List.size_toArray, List.length_append, List.length_take, List.length_drop, Array.length_toList, hdl, List.length_singleton]; omega), setRow_setRow]
    congr 2
    simp only
    rw [hins, hdl, show k + 1 + (n - k) = n + 1 by omega]
    have e1 : (vs.toList.take (k + 1) ++ (ivs l).drop k ++ vs.toList.drop (n + 1)).take k = (ivs l).take k := by
     rw [List.append_assoc, List.take_append_of_le_length (by simp; omega), List.take_take, Nat.min_eq_left (by omega), ← htk, List.take_take, Nat.min_eq_left (by omega)]
    have e2 : (vs.toList.take (k + 1) ++ (ivs l).drop k ++ vs.toList.drop (n + 1)).drop (k + 1) = (ivs l).drop k ++ vs.toList.drop (n + 1) := by
     rw [List.append_assoc, List.drop_append_of_le_length (by simp; omega), List.drop_of_length_le (by simp; omega), List.nil_append]
    have e3 : k + [Value.int IntKind.i64 t].length = k + 1 := rfl
    rw [e1, e3, e2]
    simp
  ·have hg1 := grownCap_ge w (n + 1) c 3
   have hg2 := grownCap_le_maxLen w (n + 1) c 3 (by simp only [maxLen]; omega)
   refine (Any2.slices_Insert_int_grow lays21 b 0 n c k vb 0 1 vc (ivs l) [.int .i64 t] w hkn (by decide) hcc (by omega) (by omega) hivl rfl hcell hucell (ivs_one l) h1).mono ?_
   rintro e w' ⟨rfl, rfl⟩
   refine fresh w.drew.drew _ (Builtin.zeroCells (Value.int .i64 0).cells (grownCap w (n + 1) c 3 - (n + 1))).toList _ rfl (fun I => I.drew.drew) ((Vs.Frame.drew γ H w).trans rfl (Vs.Frame.drew γ H w.drew)) hg1 hg2 ?_ ?_
   ·have : (ivs (insL l k t)).length = n + 1 := by simpa [ivs] using hil
    rw [List.length_append, this, Array.length_toList, size_zeroCells]
    have : (Value.int IntKind.i64 0).cells.size = 1 := rfl
    have e3 : ren21.t 3 = 3 := rfl
    rw [this, e3]; omega
   ·have e3 : ren21.t 3 = 3 := rfl
    have z1 : (Value.int IntKind.i64 0).cells.size = 1 := rfl
    have hkl : ((ivs l).take k).length = k := by rw [List.length_take, hivl]; omega
    refine (grow_row w _ _ [.int .i64 t] ((ivs l).drop k) k ?_).trans ?_
    ·simp only [Array.size_append, List.size_toArray, size_zeroCells, z1, hkl, hdl, List.length_singleton]; omega
    ·rw [e3, hins]
     congr 2
     simp only [Array.toList_append, List.length_singleton, hdl]
     rw [take_abc _ _ _ hkl, show k + 1 + (n - k) = n + 1 by omega, List.drop_left' (by
      rw [List.length_append, hkl, Array.length_toList, size_zeroCells, z1]; omega)]
     simp

end Go.Proofs.YtdnebeaeiimjlaaGreatDoor

namespace Go.Proofs.YtdnebeaeiimjlaaGreatDoor
open Go Go.Vs Go.RowKit Go.Shelf

variable {W : World} {G : Nat → Option (List PD)}
theorem full_slice {γ : Gh} {v : Value} {s : D} {sz : Nat} {es : List PD} (r : RepD γ v s) (h : fullD sz s = some es) : ∃ base, v = .slice base es.length es.length ∧ RepP γ.mem (.slice base es.length es.length) (.slice sz es) := by
 unfold fullD at h
 split at h
 ·cases h
  exact ⟨none, r.p_inv.nils_inv, .sl0 _ _ _⟩
 ·split at h
  ·cases h
   cases r with
   | esl a _ => exact ⟨a, rfl, .sl0 _ _ _⟩
  ·cases h
 ·split at h
  ·rename_i hs
   subst hs
   cases h
   cases r with
   | fsl b n e sz es hb ht hn hr => subst hn; exact ⟨_, rfl, hr⟩
  ·cases h
 ·split at h
  ·rename_i hs
   subst hs
   cases h
   cases r with
   | csl a n sz es hn hr => subst hn; exact ⟨_, rfl, hr⟩
  ·cases h
 ·cases h
theorem full_cells {γ : Gh} {H : Hp} {w : World} (I : Vs.Inv G γ H w) {base : Option Addr} {l : List Int} {n : Nat} (hn : l.length = n) (r : RepP γ.mem (.slice base n n) (.slice 1 (l.map fun x => .int .i64 x))) :
    l = [] ∨ ∃ b off, base = some ⟨b, off, none⟩ ∧ ∀ (p : Nat) v, (ivs l)[p]? = some v → w.cell? ⟨b, off + p, none⟩ = some v := by
 generalize hes : l.map (fun x => PD.int .i64 x) = es at r
 generalize hv : Value.slice base n n = v at r
 cases r with
 | sl0 a cap sz =>
  left
  simpa using hes
 | sl b o cap sz es vs hc hsz hone hm hr =>
  right
  cases hv
  refine ⟨b, o, rfl, fun p v hp => ?_⟩
  unfold ivs at hp
  rw [List.getElem?_map] at hp
  cases hx : l[p]? with
  | none => rw [hx] at hp; cases hp
  | some x =>
   rw [hx] at hp
   cases hp
   have he : es[p]? = some (.int .i64 x) := by rw [← hes, List.getElem?_map, hx]; rfl
   have hpl : p < es.length := (List.getElem?_eq_some_iff.1 he).1
   have h1 := I.mem _ _ _ (hm p 0 hpl (by decide))
   have h2 := (hr p _ 0 _ he rfl).int_inv
   rw [h2] at h1
   simpa using h1

set_option maxHeartbeats 1000000 in
theorem ins_full {γ : Gh} {H : Hp} {w : World} (I : InvS W G γ H w) {j vb n k vc k2 : Nat} {l : List Int} {t : Int} {base : Option Addr} (hvb : γ.boxes[j]? = some vb) (hcj : H.bx[j]? = some [.p (.int .i64 t)]) (hvc : 1 ≤ vc) (hk2 : k2 < 1) (hty2 : γ.tys vb = some (2 * 3 + k2, vc * 1))
    (hll : l.length = n) (hr : RepP γ.mem (.slice base n n) (.slice 1 (l.map fun x => .int .i64 x))) (hk : k ≤ n) (hn : n < 1000000) :
    Calls Tryz.prog 80 #[.slice base n n, .int .i64 k, .slice (some ⟨vb, 0, none⟩) 1 vc] w fun e w' => ∃ γ', γ.le γ' ∧ Vs.Frame γ H w γ' { H with bx := H.bx ++ [idv (insL l k t)] } w' ∧ InvS W G γ' { H with bx := H.bx ++ [idv (insL l k t)] } w' ∧
     Ends' γ' (.val (.gsl H.bx.length 3 (n + 1) 1)) e := by
 obtain ⟨us, fr2, u1, us1, u2, u4, ufz, ufe, ush⟩ := own_row I.toInv hvb hcj rfl (by simp) hk2 hty2
 have hu0 : us[0]? = some (.int .i64 t) := by
  have h3 := (u2.2 0 _ rfl).p_inv.int_inv
  have : 0 < us.size := by omega
  rw [Array.getElem?_eq_getElem this]
  simpa [Array.getD_eq_getD_getElem?, this] using h3
 have hucell : ∀ (p : Nat) v, [Value.int .i64 t][p]? = some v → w.cell? ⟨vb, 0 + p, none⟩ = some v := fun p v hp => by
  cases p with
  | zero => cases hp; simp only [World.cell?, u1]; exact hu0
  | succ p => simp at hp
 have h1 : ∀ v ∈ [Value.int .i64 t], v.oneCell' = true := fun v hv => by rw [List.mem_singleton.1 hv]; rfl
 have hil : (insL l k t).length = n + 1 := by rw [insL_len l k t (by omega), hll]
 have hilv : (ivs (insL l k t)).length = n + 1 := by simpa [ivs] using hil
 have hivl : (ivs l).length = n := by simpa [ivs] using hll
 have hfc := full_cells I.toInv hll hr
 have z1 : (Value.int IntKind.i64 0).cells.size = 1 := rfl
 have e3 : ren21.t 3 = 3 := rfl
 have hg1 := grownCap_ge w (n + 1) n 3
 have hg2 := grownCap_le_maxLen w (n + 1) n 3 (by simp only [maxLen]; omega)
 have fresh : ∀ w0 w', w0.heap.size = w.heap.size → (Vs.Inv G γ H w → Vs.Inv G γ H w0) → Vs.Frame γ H w γ H w0 →
     w' = w0.alloc (.cells (ivs (insL l k t) ++ (Builtin.zeroCells (Value.int .i64 0).cells (grownCap w (n + 1) n 3 - (n + 1))).toList).toArray 3) →
     ∃ γ', γ.le γ' ∧ Vs.Frame γ H w γ' { H with bx := H.bx ++ [idv (insL l k t)] } w' ∧ InvS W G γ' { H with bx := H.bx ++ [idv (insL l k t)] } w' ∧ Ends' γ' (.val (.gsl H.bx.length 3 (n + 1) 1)) (.returned (.slice (some ⟨w.heap.size, 0, none⟩) (n + 1) (grownCap w (n + 1) n 3))) := by
  rintro w0 w' hs0 hI hF rfl
  have zl : (Builtin.zeroCells (Value.int .i64 0).cells (grownCap w (n + 1) n 3 - (n + 1))).toList.length = grownCap w (n + 1) n 3 - (n + 1) := by
   rw [Array.length_toList, size_zeroCells, z1]; omega
  obtain ⟨γ', a1, a2, a3, a4⟩ := new_row I (.refl γ) hF (hI I.toInv) (insL l k t) (Builtin.zeroCells (Value.int .i64 0).cells (grownCap w (n + 1) n 3 - (n + 1))).toList (grownCap w (n + 1) n 3) (by omega) hg2 (by
   rw [List.length_append, hilv, zl]; omega)
  rw [hil, hs0] at a4
  exact ⟨γ', a1, a2, a3, _, rfl, a4⟩
 by_cases hend : k = n
 ·subst hend
  have hins : ivs (insL l k t) = ivs l ++ [Value.int .i64 t] := by
   rw [ivs_ins, List.take_of_length_le (by omega), List.drop_of_length_le (by omega)]
  refine (Any2.slices_Insert_int_end_grow lays21 base k k vb 0 1 vc (ivs l) [.int .i64 t] w (by decide) (by omega) (by omega) (by omega) hivl rfl (fun h => ?_) (fun a ha p v hp => ?_) hucell h1).mono ?_
  ·rcases hfc with rfl | ⟨b, off, h2, _⟩
   ·simpa using hll.symm
   ·rw [h] at h2; cases h2
  ·rcases hfc with rfl | ⟨b, off, h2, h3⟩
   ·simp [ivs] at hp
   ·rw [h2] at ha
    cases ha
    rw [Addr.add_lit]; exact h3 p v hp
  ·rintro e w' ⟨rfl, rfl⟩
   refine fresh w.drew _ rfl (fun I => I.drew) (Vs.Frame.drew γ H w) ?_
   rw [hins]
   congr 2
   apply Array.ext'
   simp
   rfl
 ·have hkn : k < n := by omega
  have hins : ivs (insL l k t) = (ivs l).take k ++ Value.int .i64 t :: (ivs l).drop k := ivs_ins l k t
  have hdl : ((ivs l).drop k).length = n - k := by rw [List.length_drop, hivl]
  rcases hfc with rfl | ⟨b, off, rfl, hcell⟩
  ·simp at hll; omega
  refine (Any2.slices_Insert_int_grow lays21 b off n n k vb 0 1 vc (ivs l) [.int .i64 t] w hkn (by decide) (by omega) (by omega) (by omega) hivl rfl hcell hucell (ivs_one l) h1).mono ?_
  rintro e w' ⟨rfl, rfl⟩
  refine fresh w.drew.drew _ rfl (fun I => I.drew.drew) ((Vs.Frame.drew γ H w).trans rfl (Vs.Frame.drew γ H w.drew)) ?_
  have hkl : ((ivs l).take k).length = k := by rw [List.length_take, hivl]; omega
  refine (grow_row w _ _ [.int .i64 t] ((ivs l).drop k) k ?_).trans ?_
  ·simp only [Array.size_append, List.size_toArray, size_zeroCells, z1, hkl, hdl, List.length_singleton]; omega
  ·rw [e3, hins]
   congr 2
   simp only [Array.toList_append, List.length_singleton, hdl]
   rw [take_abc _ _ _ hkl, show k + 1 + (n - k) = n + 1 by omega, List.drop_left' (by
    rw [List.length_append, hkl, Array.length_toList, size_zeroCells, z1]; omega)]
   simp
theorem ins_meets {aa : List D} {H : Hp} {r : Res} {H' : Hp} (h : insLib aa H = some (r, H')) : Meets Tryz.prog W G 80 aa H r H' := by
 refine ⟨ins_enters, fun γ w vs I r0 => ?_⟩
 unfold insLib at h
 split at h
 ·rename_i s k j
  obtain ⟨v1, v2, v3, rfl, r1, r2, r3⟩ := rep3 r0
  have r2 := r2.p_inv.int_inv
  subst r2
  split at h
  ·rename_i t hcj
   cases r3 with
   | gsl _ _ _ _ vb vc hvb hvc hvm hk2 ht2 =>
   split at h
   ·rename_i i n
    split at h
    ·rename_i cs hc
     split at h
     ·rename_i l hl
      split at h
      ·rename_i hh
       obtain ⟨a1, a2, a3, a4, a5, a6, a7⟩ := hh
       cases h
       cases r1 with
       | gsl _ _ _ _ b c hb hcc hcm hk1 hty =>
       obtain ⟨k', rfl⟩ : ∃ k' : Nat, k = (k' : Int) := ⟨k.toNat, by omega⟩
       exact ins_own I a1 hb hvb hc hcj a2 a3 a4 (mapO_intD hl) hcc hcm hk1 hty hvc hk2 ht2 (by omega) a7
      ·cases h
     ·cases h
    ·cases h
   ·split at h
    ·rename_i es hf
     split at h
     ·rename_i l hl
      split at h
      ·rename_i hk
       obtain ⟨a5, a6, a7⟩ := hk
       cases h
       obtain ⟨base, rfl, hr⟩ := full_slice r1 hf
       have he : es = l.map fun x => .int .i64 x := by
        have h2 := mapO_intD hl
        have h3 : es.map D.p = (l.map fun x => PD.int .i64 x).map D.p := by rw [h2, List.map_map]; rfl
        exact List.map_inj_right (fun a b h => by cases h; rfl) |>.1 h3
       have hll : l.length = es.length := by rw [he, List.length_map]
       obtain ⟨k', rfl⟩ : ∃ k' : Nat, k = (k' : Int) := ⟨k.toNat, by omega⟩
       exact ins_full I hvb hcj hvc hk2 ht2 hll (by rw [← he]; exact hr) (by omega) a7
      ·cases h
     ·cases h
    ·cases h
  ·cases h
 ·cases h

end Go.Proofs.YtdnebeaeiimjlaaGreatDoor

namespace Go.Proofs.YtdnebeaeiimjlaaGreatDoor
open Go.Proofs Go.Shelf
def ren189 : Go.Shelf.Ren where
 f := fun | 189 => 108 | 125 => 140 | 257 => 155 | 128 => 174 | 129 => 175 | 294 => 189 | 295 => 190 | 296 => 191 | 297 => 192 | 298 => 193 | 299 => 194 | 216 => 109 | 300 => 195 | 301 => 196 | 328 => 223 | 329 => 206 | 330 => 207 | 331 => 224 | 332 => 225 | 215 => 156 | 343 => 263 | n => n
 t := fun | 28 => 28 | 3 => 3 | 46 => 198 | 0 => 0 | 51 => 266 | 53 => 268 | 4 => 4 | 183 => 260 | 182 => 259 | 131 => 127 | 5 => 5 | 9 => 9 | 218 => 294 | 222 => 298 | 228 => 328 | 229 => 329 | n => n
 g := fun n => n
theorem lays189 : Lays.n189 Tryz.prog ren189 where
 mixed := by kernel_rfl
 f125 := Tryz.func140.trans (by kernel_rfl)
 f128 := Tryz.func174.trans (by kernel_rfl)
 f129 := Tryz.func175.trans (by kernel_rfl)
 f189 := Tryz.func108.trans (by kernel_rfl)
 f215 := Tryz.func156.trans (by kernel_rfl)
 f216 := Tryz.func109.trans (by kernel_rfl)
 f257 := Tryz.func155.trans (by kernel_rfl)
 f294 := Tryz.func189.trans (by kernel_rfl)
 f295 := Tryz.func190.trans (by kernel_rfl)
 f296 := Tryz.func191.trans (by kernel_rfl)
 f297 := Tryz.func192.trans (by kernel_rfl)
 f298 := Tryz.func193.trans (by kernel_rfl)
 f299 := Tryz.func194.trans (by kernel_rfl)
 f300 := Tryz.func195.trans (by kernel_rfl)
 f301 := Tryz.func196.trans (by kernel_rfl)
 f328 := Tryz.func223.trans (by kernel_rfl)
 f329 := Tryz.func206.trans (by kernel_rfl)
 f330 := Tryz.func207.trans (by kernel_rfl)
 f331 := Tryz.func224.trans (by kernel_rfl)
 f332 := Tryz.func225.trans (by kernel_rfl)
 f343 := Tryz.func263.trans (by kernel_rfl)
 t0 := Tryz.underlying0
 a0 := Tryz.isAgg0
 z0 := Tryz.sizeOf0
 v0 := Tryz.zeroValue0
 t3 := Tryz.underlying3
 a3 := Tryz.isAgg3
 z3 := Tryz.sizeOf3
 v3 := Tryz.zeroValue3
 t4 := Tryz.underlying4
 a4 := Tryz.isAgg4
 z4 := Tryz.sizeOf4
 v4 := Tryz.zeroValue4
 t5 := Tryz.underlying5
 a5 := Tryz.isAgg5
 z5 := Tryz.sizeOf5
 v5 := Tryz.zeroValue5
 t9 := Tryz.underlying9
 a9 := Tryz.isAgg9
 z9 := Tryz.sizeOf9
 v9 := Tryz.zeroValue9
 t28 := Tryz.underlying28
 a28 := Tryz.isAgg28
 z28 := Tryz.sizeOf28
 v28 := Tryz.zeroValue28
 t46 := Tryz.underlying198
 a46 := Tryz.isAgg198
 z46 := Tryz.sizeOf198
 v46 := Tryz.zeroValue198
 t51 := Tryz.underlying266
 a51 := Tryz.isAgg266
 z51 := Tryz.sizeOf266
 v51 := Tryz.zeroValue266
 t53 := Tryz.underlying268
 a53 := Tryz.isAgg268
 z53 := Tryz.sizeOf268
 v53 := Tryz.zeroValue268
 t131 := Tryz.underlying127
 a131 := Tryz.isAgg127
 z131 := Tryz.sizeOf127
 v131 := Tryz.zeroValue127
 t182 := Tryz.underlying259
 a182 := Tryz.isAgg259
 z182 := Tryz.sizeOf259
 v182 := Tryz.zeroValue259
 t183 := Tryz.underlying260
 a183 := Tryz.isAgg260
 z183 := Tryz.sizeOf260
 v183 := Tryz.zeroValue260
 t218 := Tryz.underlying294
 a218 := Tryz.isAgg294
 z218 := Tryz.sizeOf294
 v218 := Tryz.zeroValue294
 t222 := Tryz.underlying298
 a222 := Tryz.isAgg298
 z222 := Tryz.sizeOf298
 v222 := Tryz.zeroValue298
 t228 := Tryz.underlying328
 a228 := Tryz.isAgg328
 z228 := Tryz.sizeOf328
 v228 := Tryz.zeroValue328
 t229 := Tryz.underlying329
 a229 := Tryz.isAgg329
 z229 := Tryz.sizeOf329
 v229 := Tryz.zeroValue329

end Go.Proofs.YtdnebeaeiimjlaaGreatDoor

namespace Go.Proofs.YtdnebeaeiimjlaaGreatDoor
open Go Go.Vs Go.RowKit Go.Shelf

variable {W : World} {G : Nat → Option (List PD)}
def sortI (l : List Int) : List Int := l.mergeSort fun x y => decide (x ≤ y)
def sortLib (aa : List D) (H : Hp) : Option (Res × Hp) :=
 match aa with
 | [.gsl i e n 1] => if e = 3 then (match H.bx[i]? with
  | some cs => match mapO intD (cs.take n) with
   | some l => if isMapC cs = false ∧ n ≤ cs.length ∧ cs ≠ [] ∧ n < 4611686018427387904 then some (.val .undef, { H with bx := H.bx.set i (Vs.splice cs 0 (idv (sortI l))) }) else none
   | none => none
  | none => none) else none
 | _ => none
theorem sort_enters : Vs.Enters Tryz.prog 108 := ⟨Tryz.f108, Tryz.func108, by kernel_rfl, by kernel_rfl⟩
theorem Inv.ahead {γ : Gh} {H : Hp} {w : World} (I : Vs.Inv G γ H w) (n : Nat) : Vs.Inv G γ H (Sort.ahead w n) := ⟨I.size, I.tys, I.rowb, I.mem, I.globs, I.lenB, I.nodup, I.box, I.boxmem, I.empt, I.lenT, I.row, I.rowmax, I.free⟩
theorem Frame.ahead (γ : Gh) (H : Hp) (w : World) (n : Nat) : Vs.Frame γ H w γ H (Sort.ahead w n) := ⟨rfl, rfl, rfl, Nat.le_refl _, fun _ _ _ => ⟨fun _ => rfl, .refl _ _⟩, fun _ _ _ _ => rfl, fun _ h => .inl h, fun _ _ h => .inl h, fun _ h => .inl h⟩
theorem grow_cons (w : World) (o : Obj) (l : List Obj) : Sort.grow w (o :: l).toArray = Sort.grow (w.alloc o) l.toArray := by
 unfold Sort.grow World.alloc
 congr 1
 apply Array.ext'
 simp
theorem grow_inv {γ : Gh} {H : Hp} : ∀ (l : List Obj) {w : World}, Vs.Inv G γ H w → Vs.Frame γ H w γ H (Sort.grow w l.toArray) ∧ Vs.Inv G γ H (Sort.grow w l.toArray)
 | [], w, I => by
  have : Sort.grow w ([] : List Obj).toArray = w := Sort.grow_empty w
  rw [this]; exact ⟨.refl γ H w, I⟩
 | o :: l, w, I => by
  obtain ⟨F, J⟩ := I.allocObj o
  obtain ⟨F2, J2⟩ := grow_inv l J
  rw [grow_cons]
  exact ⟨F.trans rfl F2, J2⟩
theorem putRow_row {w : World} {b : Nat} {vs : Array Value} {T : TypeId} {fr : Nat × Nat} (hb : w.heap[b]? = some (.cells vs T fr)) (l : List Int) (hl : l.length ≤ vs.size) :
    Sort.putRow (Value.int .i64) w b 0 l.toArray = w.setRow b (vs.toList.take 0 ++ ivs l ++ vs.toList.drop (0 + (ivs l).length)).toArray := by
 have hlt : b < w.heap.size := (Array.getElem?_eq_some_iff.1 hb).1
 have hbv := (Array.getElem?_eq_some_iff.1 hb).2
 unfold Sort.putRow Sort.mapBlock World.setRow
 congr 1
 apply Array.ext
 ·simp
 ·intro i h1 h2
  simp only [Array.getElem_modify]
  split
  ·rename_i h
   subst h
   rw [hbv]
   simp only [Sort.onCells]
   congr 1
   apply Array.ext'
   apply List.ext_getElem?
   intro k
   simp only [Sort.putCells, Array.toList_mapIdx, List.getElem?_mapIdx, Nat.zero_le, true_and, Nat.zero_add, Nat.sub_zero, List.size_toArray, List.take_zero, List.nil_append]
   have hil : (ivs l).length = l.length := by simp [ivs]
   by_cases hk : k < l.length
   ·rw [List.getElem?_append_left (by omega)]
    have hv : k < vs.toList.length := by simpa using Nat.lt_of_lt_of_le hk hl
    rw [List.getElem?_eq_getElem hv]
    simp [hk, ivs]
   ·rw [List.getElem?_append_right (by omega), List.getElem?_drop, hil, show l.length + (k - l.length) = k by omega]
    simp only [hk, if_false]
    simp
  ·rfl
theorem sort_meets {aa : List D} {H : Hp} {r : Res} {H' : Hp} (h : sortLib aa H = some (r, H')) : Meets Tryz.prog W G 108 aa H r H' := by
 refine ⟨sort_enters, fun γ w vs I r0 => ?_⟩
 unfold sortLib at h
 split at h
 ·rename_i i e n
  split at h
  ·rename_i he
   subst he
   split at h
   ·rename_i cs hc
    split at h
    ·rename_i l hl
     split at h
     ·rename_i hh
      obtain ⟨hm, hn, hne, hlt⟩ := hh
      cases h
      obtain ⟨v, rfl, hv⟩ : ∃ v, vs = #[v] ∧ RepD γ v (.gsl i 3 n 1) := by
       obtain ⟨hs, hr⟩ := r0
       obtain ⟨l⟩ := vs
       match l, hs with
       | [v], _ => exact ⟨v, rfl, hr 0 _ rfl⟩
      cases hv with
      | gsl _ _ _ _ b c hb hcc hcm hk ht =>
      obtain ⟨us, fr, q1, qs, q2, q4, hfz, hfe, hsh⟩ := own_row I.toInv hb hc hm hne hk ht
      obtain ⟨hll, hvl⟩ := idv_of q2 (mapO_intD hl) hn
      have hblt : b < w.heap.size := (Array.getElem?_eq_some_iff.1 q1).1
      have hsl : (sortI l).length = n := by simp [sortI, hll]
      have hus : n ≤ us.size := by omega
      have e1 : ren189.f 189 = 108 := rfl
      have := Any.slices_Sort_int lays189 b 0 c l w (fun j hj => by
       have hj' : j < l.length := by simpa using hj
       rw [Nat.zero_add]
       refine ⟨?_, hfz j (by omega)⟩
       simp only [World.cell?, q1]
       have := hvl j (.int .i64 l[j]) (by simp [ivs, hj'])
       simpa [hj'] using this) hblt (by omega)
      rw [e1, hll] at this
      refine this.mono ?_
      rintro e w' ⟨rfl, m, os, rfl⟩
      have I1 := Inv.ahead I.toInv m
      have F1 := Frame.ahead γ H w m
      have q1' : (Sort.ahead w m).heap[b]? = some (.cells us 3 fr) := q1
      obtain ⟨F2, I2⟩ := I1.store (off := 0) hb hc (us := ivs (sortI l)) (ds := idv (sortI l)) (by
       refine ⟨by simp [ivs, idv], fun k d hd => ?_⟩
       have h2 := (rep_idv (γ := γ) (sortI l) []).2 k d hd
       simpa only [List.append_nil] using h2) (idv_one _) (by simp [idv, hsl]; exact hn) q1' q4 q2 hm hne
      rw [← putRow_row q1' (sortI l) (by omega)] at F2 I2
      obtain ⟨F3, I3⟩ := grow_inv os.toList I2
      have FF := (F1.trans rfl F2).trans rfl F3
      refine ⟨γ, .refl γ, FF, I.up (.refl γ) FF I3, _, rfl, ?_⟩
      exact .undef
     ·cases h
    ·cases h
   ·cases h
  ·cases h
 ·cases h

end Go.Proofs.YtdnebeaeiimjlaaGreatDoor

namespace Go.Proofs.YtdnebeaeiimjlaaGreatDoor
open Go Go.Vs Go.RowKit Go.Shelf

variable {W : World} {G : Nat → Option (List PD)}
theorem filter_take {e : MapEntry} {p : MapEntry → Bool} : ∀ {L : List MapEntry}, (L.map (·.born)).Nodup → e ∈ L → p e = true → (L.filter p).Perm (e :: L.filter fun x => p x && x.born != e.born)
 | [], _, h, _ => by simp at h
 | x :: L, hn, he, hp => by
  rw [List.map_cons, List.nodup_cons] at hn
  obtain ⟨h1, h2⟩ := hn
  rcases List.mem_cons.1 he with rfl | he
  ·have e1 : (L.filter fun y => p y && y.born != e.born) = L.filter p := List.filter_congr fun y hy => by
    have : y.born ≠ e.born := fun q => h1 (q ▸ List.mem_map_of_mem hy)
    simp [this]
   rw [List.filter_cons_of_pos hp, List.filter_cons_of_neg (by simp), e1]
  ·have hne : x.born ≠ e.born := fun q => h1 (q ▸ List.mem_map_of_mem he)
   have ih := filter_take (p := p) h2 he hp
   by_cases hx : p x = true
   ·rw [List.filter_cons_of_pos hx, List.filter_cons_of_pos (by simp [hx, hne])]
    exact (ih.cons x).trans (.swap _ _ _)
   ·rw [List.filter_cons_of_neg hx, List.filter_cons_of_neg (by simp [hx])]
    exact ih
theorem leftOf_take {es : Array MapEntry} {seen : Array Nat} (hn : (es.toList.map (·.born)).Nodup) {e : MapEntry} (he : e ∈ (leftOf es seen).toList) : (leftOf es seen).toList.Perm (e :: (leftOf es (seen.push e.born)).toList) := by
 simp only [leftOf, Array.toList_filter] at he ⊢
 obtain ⟨h1, h2⟩ := List.mem_filter.1 he
 refine (filter_take hn h1 h2).trans (.of_eq ?_)
 congr 1
 refine List.filter_congr fun x _ => ?_
 rw [Bool.eq_iff_iff]
 simp
theorem leftOf_none (es : Array MapEntry) : (leftOf es #[]).toList = es.toList := by
 simp [leftOf]
def keyI (e : MapEntry) : Int := match e.key with
 | .int _ x => x
 | _ => 0
theorem sortI_perm {l l' : List Int} (h : l.Perm l') : sortI l = sortI l' := by
 have tr : ∀ a b c : Int, decide (a ≤ b) = true → decide (b ≤ c) = true → decide (a ≤ c) = true := fun a b c h1 h2 => by simp only [decide_eq_true_eq] at *; omega
 have to : ∀ a b : Int, (decide (a ≤ b) || decide (b ≤ a)) = true := fun a b => by simp only [Bool.or_eq_true, decide_eq_true_eq]; omega
 refine List.Perm.eq_of_pairwise (le := fun a b => decide (a ≤ b) = true) (fun a b _ _ h1 h2 => ?_) (List.pairwise_mergeSort tr to l) (List.pairwise_mergeSort tr to l') (((List.mergeSort_perm l _).trans h).trans (List.mergeSort_perm l' _).symm)
 simp only [decide_eq_true_eq] at h1 h2
 omega
theorem keys_perm {γ : Gh} {es : Array MapEntry} {kd : Nat} {ks : List PD} {vs : List D} {s : Nat → Nat} (M : MapRep γ es kd ks vs s) {l : List Int} (hk : ks = l.map fun x => .int .i64 x) :
    (es.toList.map keyI).Perm l ∧ ∀ e ∈ es.toList, e.key = .int .i64 (keyI e) := by
 have hn : es.size = l.length := by rw [M.n, hk]; simp
 have hlen : ks.length = l.length := by rw [hk]; simp
 have key : ∀ j, j < l.length → ∃ e, es[s j]? = some e ∧ e.key = .int .i64 (l.getD j 0) := fun j hj => by
  have hs : s j < es.size := by rw [hn, ← hlen]; exact M.rng j (by omega)
  refine ⟨es[s j], by simp [hs], ?_⟩
  have hx : ks[j]? = some (.int .i64 (l.getD j 0)) := by rw [hk]; simp [hj]
  exact (M.key j _ _ (by simp [hs]) hx).1.int_inv
 have all : ∀ m, m < es.size → ∃ j, j < l.length ∧ s j = m := fun m hm => by
  obtain ⟨j, h1, h2⟩ := M.sur m (by omega)
  exact ⟨j, by omega, h2⟩
 have hint : ∀ e ∈ es.toList, e.key = .int .i64 (keyI e) := fun e he => by
  obtain ⟨m, hm, rfl⟩ := List.getElem_of_mem he
  have hm' : m < es.size := by simpa using hm
  obtain ⟨j, hj, rfl⟩ := all m hm'
  obtain ⟨e, h1, h2⟩ := key j hj
  have : e = es.toList[s j] := by
   have := h1
   rw [Array.getElem?_eq_getElem hm'] at this
   simpa using this.symm
  rw [← this]
  simp [keyI, h2]
 refine ⟨?_, hint⟩
 have e1 : l = (List.range l.length).map fun j => ((es.toList.map keyI).getD (s j) 0) := by
  refine List.ext_getElem (by simp) fun j h1 h2 => ?_
  have hj : j < l.length := h1
  obtain ⟨e, h3, h4⟩ := key j hj
  have hs : s j < es.size := (Array.getElem?_eq_some_iff.1 h3).1
  have h5 : es[s j] = e := (Array.getElem?_eq_some_iff.1 h3).2
  have h6 : es.toList[s j]? = some e := by simp [hs, h5]
  simp only [List.getElem_map, List.getElem_range, List.getD_eq_getElem?_getD, List.getElem?_map, h6, Option.map_some, Option.getD_some, keyI, h4]
  simp [hj]
 have e2 : es.toList.map keyI = (List.range l.length).map fun m => ((es.toList.map keyI).getD m 0) := by
  refine List.ext_getElem (by simp [hn]) fun j h1 h2 => ?_
  have hj : j < es.size := by simpa using h1
  simp [hj]
 rw [e2]
 conv => rhs; rw [e1]
 have e3 : ((List.range l.length).map fun j => ((es.toList.map keyI).getD (s j) 0)) = ((List.range l.length).map s).map fun m => ((es.toList.map keyI).getD m 0) := by simp
 rw [e3]
 refine List.Perm.map _ ?_
 refine (List.perm_ext_iff_of_nodup List.nodup_range ?_).2 fun m => ?_
 ·refine List.pairwise_map.2 (List.nodup_range.imp_of_mem fun {a b} ha hb hne h => hne ?_)
  rw [List.mem_range] at ha hb
  exact M.inj a b (by omega) (by omega) h
 ·rw [List.mem_range, List.mem_map]
  constructor
  ·intro hm
   obtain ⟨j, h1, h2⟩ := all m (by omega)
   exact ⟨j, List.mem_range.2 h1, h2⟩
  ·rintro ⟨j, h1, rfl⟩
   have := M.rng j (by rw [List.mem_range] at h1; omega)
   omega

end Go.Proofs.YtdnebeaeiimjlaaGreatDoor

namespace Go.Proofs.YtdnebeaeiimjlaaGreatDoor
open Go Go.Vs Go.RowKit Go.Shelf

variable {W : World} {G : Nat → Option (List PD)}
theorem stepO {P : Program} {ops : Array Oper} {Q : Exit → Act → World → Prop} {o : Oper} {rest : List Oper} {a : Act} {w w' : World} {v : Value} (hg : o.guard = none) (hr : (execOp a.eval o).run P w = .ok (.value v) w')
    (h : wpList P ops Q rest (a.put o.dst v) w') : wpList P ops Q (o :: rest) a w :=
 wpList_step fun K hK => by
  have hw : Region.wanted o (yielded ops a.tmps) = true := by simp [Region.wanted, hg]
  rw [if_pos hw]
  unfold Oper.wp
  rw [hr]
  exact hK _ _ h
def Hk : List Int → Hp
 | [] => ⟨[], []⟩
 | l => ⟨List.replicate (l.length - 1) [] ++ [idv l], []⟩
def Dk : List Int → D
 | [] => .p .nils
 | l => .gsl (l.length - 1) 3 l.length 1
def sc9 : SC := .region [7, 16] [⟨some 21, .move (.t 7), none⟩, ⟨some 22, .move (.t 8), none⟩, ⟨some 23, .bslice 3 1 1 (.int .i64 0) [(0, .t 22)], none⟩, ⟨some 24, .appendg 3 1 8 (.t 21) (.t 23), none⟩, ⟨some 7, .move (.t 24), none⟩]
theorem app_cons (x : Int) (l : List Int) (k : Int) (hl : l.length < 1000000) : appendgD 3 1 8 (.gsl l.length 3 (l.length + 1) 1) 1 [.p (.int .i64 k)] (Hk (x :: l)) = some (.gsl (l.length + 1) 3 (l.length + 1 + 1) 1, Hk (x :: l ++ [k])) := by
 have h1 : (Hk (x :: l)).bx[l.length]? = some (idv (x :: l)) := by simp [Hk]
 have h2 : (Hk (x :: l)).bx.length = l.length + 1 := by simp [Hk]
 have h3 : isMapC (idv (x :: l)) = false := isMapC_one (idv_one _)
 have h4 : (idv (x :: l)).length = l.length + 1 := by simp [idv]
 unfold appendgD
 dsimp only
 rw [if_pos ⟨rfl, rfl⟩, if_neg (by decide), h1]
 dsimp only
 rw [if_pos ⟨h3, by omega, by simp [idv]⟩, if_neg (by omega), if_pos (by simp [roomy]; omega), h2]
 congr 2
 have h5 : (idv (x :: l)).take ((l.length + 1) * 1) = idv (x :: l) := List.take_of_length_le (by omega)
 rw [h5]
 simp only [Hk, List.cons_append, List.length_cons, List.length_append, List.length_nil]
 congr 1
 rw [List.set_append_right _ _ (by simp)]
 simp [idv, List.replicate_succ']
theorem app_step {c : CallR} {it : It} (r : Nat) (l : List Int) (k : Int) (hl : l.length < 1000000) : ∃ e', evS c G it sc9 ⟨[(7, Dk l), (8, .p (.int .i64 k)), (16, .glob r 0)], Hk l⟩ = some (.norm, ⟨e', Hk (l ++ [k])⟩) ∧ e'.get 7 = Dk (l ++ [k]) ∧ e'.get 16 = .glob r 0 := by
 cases l with
 | nil =>
  refine ⟨_, rfl, rfl, rfl⟩
 | cons x l =>
  have h := app_cons x l k (by simp at hl; omega)
  refine ⟨[(7, .gsl (l.length + 1) 3 (l.length + 1 + 1) 1), (16, .glob r 0)], ?_, by simp [Env.get, Dk], by simp [Env.get]⟩
  simp only [sc9, evS, evOps, evGuard, evKC, evK, Opd.ev, Env.get, put, Dk, if_true, List.length_cons, Nat.add_sub_cancel]
  rw [List.cons_append] at h ⊢
  simp [Env.get, fillE, srcC, srcD, PD.cells, PD.one, D.asPD, D.elems?, h, Env.keep]
def r7 : Code := .region 7 #[{ dst := some 17, op := .next (.tmp 16) false, type := 0, pos := "cnf.go:49", after := #[], guard := none },
 { dst := some 18, op := .extract (.tmp 17) 0, type := 4, pos := "cnf.go:49", after := #[{ on := 0, ground := .data }], guard := none }] false
def r8 : Code := .region 8 #[{ dst := some 19, op := .entry (.tmp 16), type := 0, pos := "cnf.go:49", after := #[], guard := none },
 { dst := some 20, op := .extract (.tmp 19) 0, type := 3, pos := "cnf.go:49", after := #[{ on := 0, ground := .data }], guard := none },
 { dst := some 8, op := .assign (.tmp 20), type := 3, pos := "cnf.go:49", after := #[{ on := 1, ground := .data }, { on := 0, ground := .phase }, { on := 1, ground := .phase }], guard := none }] false
def r9 : Code := .region 9 #[{ dst := some 21, op := .move (.tmp 7), type := 28, pos := "cnf.go:50", after := #[], guard := none },
 { dst := some 22, op := .move (.tmp 8), type := 3, pos := "cnf.go:50", after := #[], guard := none },
 { dst := some 23, op := .buildSlice 28 1 #[(0, .tmp 22)], type := 28, pos := "cnf.go:50", after := #[{ on := 1, ground := .data }], guard := none },
 { dst := some 24, op := .call { callee := .builtin .append, args := #[.tmp 21, .tmp 23], argTypes := #[28, 28] }, type := 28, pos := "cnf.go:50", after := #[{ on := 0, ground := .data }, { on := 2, ground := .data }], guard := none },
 { dst := some 7, op := .assign (.tmp 24), type := 28, pos := "cnf.go:50", after := #[{ on := 3, ground := .data }, { on := 3, ground := .chain }, { on := 0, ground := .phase }, { on := 1, ground := .phase }, { on := 2, ground := .phase }, { on := 3, ground := .phase }], guard := none }] false
def body56 : Code := .seq r7 (.seq (.cond (.tmp 18) .skip (.exit 0)) (.block 1 (.seq r8 r9)))
theorem sc9_ok : compC Tryz.prog 28 sc9 r9 = some sc9 := by kernel_rfl
theorem put_get {a : Act} {i t : Nat} {v : Value} (hi : i < a.tmps.size) : (a.put (some i) v).tmps.getD t undef = if i = t then v else a.tmps.getD t undef := by
 simp only [Act.put, Array.getD_eq_getD_getElem?, Array.getElem?_setIfInBounds]
 by_cases h : i = t
 ·subst h; simp [hi]
 ·simp [h]
theorem put_size {a : Act} {o : Option Nat} {v : Value} : (a.put o v).tmps.size = a.tmps.size := by
 cases o <;> simp [Act.put]
theorem put_defers {a : Act} {o : Option Nat} {v : Value} : (a.put o v).defers = a.defers := by
 cases o <;> simp [Act.put]
def LI (W : World) (G : Nat → Option (List PD)) (γ1 : Gh) (w1 : World) (bm r : Nat) (es : Array MapEntry) (ck : Nat) (l0 : List Int) (a : Act) (w : World) : Prop :=
 ∃ γ' l seen, a.tmps.size = 28 ∧ a.defers = [] ∧ γ1.le γ' ∧ Vs.Frame γ1 ⟨[], []⟩ w1 γ' (Hk l) w ∧ InvS W G γ' (Hk l) w ∧ a.tmps.getD 16 undef = .pointer (some ⟨r, 0, none⟩) ∧ RepD γ' (a.tmps.getD 7 undef) (Dk l) ∧
  w.heap[r]? = some (.mapIter (some bm) ck seen ck) ∧ w.heap[bm]? = some (.map es ck) ∧ (l ++ (leftOf es seen).toList.map keyI).Perm l0
def leftN (es : Array MapEntry) (r : Nat) (w : World) : Nat := match w.heap[r]? with
 | some (.mapIter _ _ seen _) => (leftOf es seen).size
 | _ => 0
theorem glob_inv {γ : Gh} {v : Value} {g o : Nat} (h : RepD γ v (.glob g o)) : v = .pointer (some ⟨g, o, none⟩) := by
 cases h; rfl

set_option maxHeartbeats 1000000 in
theorem loop56 {c : CallR} (S : Sound Tryz.prog W G c) (hm : Tryz.prog.follows .mixedOrders = true) {it : It} (hit : ∀ b s r, it b s = some r → ∃ m, iter b m s = some r) {γ1 : Gh} {w1 : World} {bm r ck : Nat} {es : Array MapEntry} {l0 : List Int}
    (hbo : bornOk es ck = true) (hki : ∀ e ∈ es.toList, e.key = .int .i64 (keyI e)) (hr1 : w1.heap.size ≤ r) (hW : W.heap.size ≤ w1.heap.size) (hbm : bm < w1.heap.size) (hb1 : w1.heap[bm]? = some (.map es ck)) (hno : ∀ b, ¬ Owned γ1 ⟨[], []⟩ b) (hl0 : l0.length < 1000000)
    {Q : Exit → Act → World → Prop} (hQo : ∀ a w, ¬ Q .outgrown a w)
    (hQ : ∀ a w γ' l, a.tmps.size = 28 → a.defers = [] → γ1.le γ' → Vs.Frame γ1 ⟨[], []⟩ w1 γ' (Hk l) w → InvS W G γ' (Hk l) w → RepD γ' (a.tmps.getD 7 undef) (Dk l) → l.Perm l0 → Q (.exit 0) a w)
    {a : Act} {w : World} (h0 : LI W G γ1 w1 bm r es ck l0 a w) : (Code.loop body56).wp Tryz.prog Q a w := by
 simp only [bornOk, Bool.and_eq_true, List.all_eq_true, decide_eq_true_eq] at hbo
 obtain ⟨hb2, hb3⟩ := hbo
 refine wp_loop (LI W G γ1 w1 bm r es ck l0) (fun _ w => leftN es r w) h0 fun a w hI => ?_
 obtain ⟨γ', l, seen, hsz, hdf, hle, hF, hI, h16, h7, hr, hb, hp⟩ := hI
 refine wp_seq (wp_region_list ?_)
 show wpList _ _ _ [_, _] a w
 rcases run_next_at (P := Tryz.prog) w 0 r bm ck ck seen es ck hr hb hb2 (Nat.le_refl _) with ⟨hz, hrun⟩ | ⟨e, he, w2, hw2, hrun⟩
 ·refine stepO rfl (v := .tuple #[.bool false]) (w' := w) (by simp [execOp, Act.eval, h16, hrun]) (stepO rfl (v := .bool false) (w' := w) ?_ (wpList_nil ?_))
  ·have e1 := put_get (a := a) (i := 17) (t := 17) (v := .tuple #[.bool false]) (by omega)
   simp only [if_true] at e1
   simp [execOp, Act.eval, e1, Instr.extract]
  ·have hs1 : (a.put (some 17) (.tuple #[.bool false])).tmps.size = 28 := by rw [put_size, hsz]
   generalize ha2 : (a.put (some 17) (.tuple #[.bool false])).put (some 18) (.bool false) = a2
   have e2 : a2.tmps.getD 18 undef = .bool false := by rw [← ha2, put_get (by omega), if_pos rfl]
   have e7 : a2.tmps.getD 7 undef = a.tmps.getD 7 undef := by rw [← ha2, put_get (by omega), if_neg (by decide), put_get (by omega), if_neg (by decide)]
   show (Code.seq _ _).wp _ _ a2 w
   refine wp_seq (wp_cond_false (by simpa [Act.eval] using e2) (wp_exit ?_))
   show Q (.exit 0) a2 w
   refine hQ _ _ γ' l (by rw [← ha2, put_size, hs1]) (by rw [← ha2, put_defers, put_defers, hdf]) hle hF hI (by rw [e7]; exact h7) ?_
   have : (leftOf es seen).toList = [] := List.eq_nil_of_length_eq_zero (by simpa using hz)
   simpa [this] using hp
 ·have hel : e ∈ es.toList := by
   simp only [leftOf, Array.toList_filter] at he
   exact (List.mem_filter.1 he).1
  have htk := leftOf_take hb3 he
  have hrlt : r < w.heap.size := (Array.getElem?_eq_some_iff.1 hr).1
  have hIw2 : InvS W G γ' (Hk l) w2 := by
   rcases hw2 with rfl | rfl
   ·exact hI
   ·exact hI.up (.refl γ') (Vs.Frame.drew _ _ _) hI.toInv.drew
  have hFw2 : Vs.Frame γ1 ⟨[], []⟩ w1 γ' (Hk l) w2 := by
   rcases hw2 with rfl | rfl
   ·exact hF
   ·exact hF.trans hle.base (Vs.Frame.drew _ _ _)
  have hh2 : w2.heap = w.heap := by rcases hw2 with rfl | rfl <;> rfl
  have hr2 : w2.heap[r]? = some (.mapIter (some bm) ck seen ck) := by rw [hh2]; exact hr
  have hI3 := hIw2.turn hr2 rfl (Nat.le_trans hW hr1) (.mapIter (some bm) ck (seen.push e.born) ck)
  have hF3 := hFw2.turn (b := r) hr1 (.mapIter (some bm) ck (seen.push e.born) ck)
  generalize hw3 : w2.putObj r (.mapIter (some bm) ck (seen.push e.born) ck) = w3 at hI3 hF3
  have hrun : (Instr.next (.pointer (some ⟨r, 0, none⟩)) false 0).run Tryz.prog w = .ok (.tuple #[.bool true, e.key, e.val]) w3 := by rw [← hw3]; exact hrun
  have hr3 : w3.heap[r]? = some (.mapIter (some bm) ck (seen.push e.born) ck) := by rw [← hw3]; exact World.putObj_heap_same (by rw [hh2]; exact hrlt)
  have hb3' : w3.heap[bm]? = some (.map es ck) := by
   rw [← hw3, World.putObj_heap_other (by omega), hh2]; exact hb
  have hent := run_entry_at (P := Tryz.prog) w3 r bm ck seen es ck e hr3 hb3' hel hb3
  refine stepO rfl (v := .tuple #[.bool true, e.key, e.val]) (w' := w3) (by simp [execOp, Act.eval, h16, hrun]) (stepO rfl (v := .bool true) (w' := w3) ?_ (wpList_nil ?_))
  ·have e1 := put_get (a := a) (i := 17) (t := 17) (v := .tuple #[.bool true, e.key, e.val]) (by omega)
   simp only [if_true] at e1
   simp [execOp, Act.eval, e1, Instr.extract]
  ·have hs1 : (a.put (some 17) (.tuple #[.bool true, e.key, e.val])).tmps.size = 28 := by rw [put_size, hsz]
   generalize ha2 : (a.put (some 17) (.tuple #[.bool true, e.key, e.val])).put (some 18) (.bool true) = a2
   have hs2 : a2.tmps.size = 28 := by rw [← ha2, put_size, hs1]
   have hd2 : a2.defers = [] := by rw [← ha2, put_defers, put_defers, hdf]
   have g : ∀ t, t ≠ 17 → t ≠ 18 → a2.tmps.getD t undef = a.tmps.getD t undef := fun t h1 h2 => by
    rw [← ha2, put_get (by omega), if_neg (Ne.symm h2), put_get (by omega), if_neg (Ne.symm h1)]
   have e2 : a2.tmps.getD 18 undef = .bool true := by rw [← ha2, put_get (by omega), if_pos rfl]
   show (Code.seq _ _).wp _ _ a2 w3
   refine wp_seq (wp_cond_true (by simpa [Act.eval] using e2) (wp_skip ?_))
   show (Code.block 1 (.seq r8 r9)).wp _ _ a2 w3
   refine wp_block (wp_seq (wp_region_list ?_))
   show wpList _ _ _ [_, _, _] a2 w3
   have h16' : a2.tmps.getD 16 undef = .pointer (some ⟨r, 0, none⟩) := (g 16 (by decide) (by decide)).trans h16
   refine stepO rfl (v := .tuple #[e.key, e.val]) (w' := w3) (by simp [execOp, Act.eval, h16', hent]) (stepO rfl (v := e.key) (w' := w3) ?_ (stepO rfl (v := e.key) (w' := w3) ?_ (wpList_nil ?_)))
   ·have e1 := put_get (a := a2) (i := 19) (t := 19) (v := .tuple #[e.key, e.val]) (by omega)
    simp only [if_true] at e1
    simp [execOp, Act.eval, e1, Instr.extract]
   ·have e1 := put_get (a := a2.put (some 19) (.tuple #[e.key, e.val])) (i := 20) (t := 20) (v := e.key) (by rw [put_size]; omega)
    simp only [if_true] at e1
    simp [execOp, Act.eval, e1]
   ·generalize ha3 : ((a2.put (some 19) (.tuple #[e.key, e.val])).put (some 20) e.key).put (some 8) e.key = a3
    have hs3 : a3.tmps.size = 28 := by rw [← ha3, put_size, put_size, put_size, hs2]
    have hd3 : a3.defers = [] := by rw [← ha3, put_defers, put_defers, put_defers, hd2]
    have g3 : ∀ t, t ≠ 19 → t ≠ 20 → t ≠ 8 → a3.tmps.getD t undef = a2.tmps.getD t undef := fun t h1 h2 h3 => by
     rw [← ha3, put_get (by rw [put_size, put_size]; omega), if_neg (Ne.symm h3), put_get (by rw [put_size]; omega), if_neg (Ne.symm h2), put_get (by omega), if_neg (Ne.symm h1)]
    have e8 : a3.tmps.getD 8 undef = .int .i64 (keyI e) := by rw [← ha3, put_get (by rw [put_size, put_size]; omega), if_pos rfl]; exact hki e hel
    have e7 : a3.tmps.getD 7 undef = a.tmps.getD 7 undef := (g3 7 (by decide) (by decide) (by decide)).trans (g 7 (by decide) (by decide))
    have e16 : a3.tmps.getD 16 undef = .pointer (some ⟨r, 0, none⟩) := (g3 16 (by decide) (by decide) (by decide)).trans h16'
    have hll : l.length < 1000000 := by
     have := hp.length_eq
     simp only [List.length_append] at this
     omega
    obtain ⟨e', hev, q7, q16⟩ := app_step (c := c) (G := G) (it := it) r l (keyI e) hll
    show r9.wp _ _ a3 w3
    refine code_wp S hm hit sc9 r9 sc9 sc9_ok rfl _ γ' _ a3 w3 .norm _ (fun a w q => ?_) hev hI3 (fun t => ?_) hs3 hd3 (fun γ'' a4 w4 L4 F4 J4 D4 => ?_)
    ·exact hQo a w q
    ·show RepD γ' (a3.tmps.getD t undef) (Env.get _ t)
     simp only [Env.get]
     split
     ·rename_i ht; subst ht; rw [e7]; exact h7
     ·split
      ·rename_i ht; subst ht; rw [e8]; exact .p _ _ (.int _ _)
      ·split
       ·rename_i ht; subst ht; rw [e16]; exact .glob r 0
       ·exact .dead _
    ·intro hn4 E4
     show LI W G γ1 w1 bm r es ck l0 a4 w4 ∧ leftN es r w4 < leftN es r w
     have F' := hF3.trans hle.base F4
     have hr4 : w4.heap[r]? = some (.mapIter (some bm) ck (seen.push e.born) ck) := by
      have hlt : r < w3.heap.size := (Array.getElem?_eq_some_iff.1 hr3).1
      rcases (F4.blk r hlt (hI3.toInv.not_owned hr3 rfl)).2 with q | ⟨_, _, _, _, q, _⟩
      ·rw [q, hr3]
      ·rw [hr3] at q; cases q
     have hb4 : w4.heap[bm]? = some (.map es ck) := by
      rcases (F'.blk bm hbm (hno bm)).2 with q | ⟨_, _, _, _, q, _⟩
      ·rw [q, hb1]
      ·rw [hb1] at q; cases q
     have r16 := E4 16
     rw [q16] at r16
     have r7 := E4 7
     rw [q7] at r7
     refine ⟨⟨γ'', l ++ [keyI e], seen.push e.born, hn4, D4, hle.trans L4, F', J4, ?_, r7, hr4, hb4, ?_⟩, ?_⟩
     ·exact glob_inv r16
     ·refine List.Perm.trans ?_ hp
      rw [List.append_assoc]
      refine List.Perm.append_left l ?_
      simpa using (htk.map keyI).symm
     ·have := htk.length_eq
      simp only [List.length_cons, Array.length_toList] at this
      simp only [leftN, hr4, hr]
      omega

end Go.Proofs.YtdnebeaeiimjlaaGreatDoor

namespace Go.Proofs.YtdnebeaeiimjlaaGreatDoor
open Go Go.Vs Go.RowKit Go.Shelf

variable {W : World} {G : Nat → Option (List PD)}

noncomputable def c56 : Code := Tryz.f56.body.getD .skip
noncomputable def pre6 : List Code := (Vs.spine c56).take 6
def r6 : Code := .region 6 #[{ dst := some 15, op := .load 197 (.tmp 5), type := 197, pos := "cnf.go:49", after := #[], guard := none },
 { dst := some 16, op := .range 197 (.tmp 15), type := 0, pos := "cnf.go:49", after := #[{ on := 0, ground := .data }], guard := none }] false
noncomputable def post3 : List Code := (Vs.spine c56).drop 8
theorem spine56 : Vs.spine c56 = pre6 ++ (r6 :: .block 0 (.loop body56) :: post3) := by kernel_rfl

noncomputable def sk56 (c : Code) : SC := match skS cf 56 c with
 | .region _ h => .region (List.range 28) h
 | x => x
noncomputable def pl6 : Option (List SC) := compLs Tryz.prog 28 (pre6.map sk56) pre6
noncomputable def pl3 : Option (List SC) := compLs Tryz.prog 28 (post3.map sk56) post3
theorem pl6_some : (pl6.map fun l => l.all SC.noR) = some true := by kernel_rfl
theorem pl3_some : (pl3.map fun l => l.all SC.noR) = some true := by kernel_rfl
def o15 : Oper := { dst := some 15, op := .load 197 (.tmp 5), type := 197, pos := "cnf.go:49", after := #[], guard := none }
def o16 : Oper := { dst := some 16, op := .range 197 (.tmp 15), type := 0, pos := "cnf.go:49", after := #[{ on := 0, ground := .data }], guard := none }
theorem so15_ok : soOf Tryz.prog 28 #[o15, o16] none o15 = some ⟨some 15, .load none (.t 5), none⟩ := by kernel_rfl
theorem part_le {γ γ1 : Gh} (L : γ.le γ1) (h1 : γ.boxes = []) (h2 : γ.rows = []) : γ.le (γ1.part [] []) :=
 ⟨L.base, L.tys, L.mem, fun i b h => by rw [h1] at h; simp at h, fun t r h => by rw [h2] at h; simp at h⟩
theorem part_none {γ : Gh} (b : Nat) : ¬ Owned (γ.part [] []) ⟨[], []⟩ b := by
 rintro (⟨i, c, h1, h2, _⟩ | ⟨t, row, f, cap, h1, _⟩)
 ·simp at h2
 ·simp [Gh.part] at h1
theorem part_frame {γ γ1 : Gh} {H H1 : Hp} {w w1 : World} (F : Vs.Frame γ H w γ1 H1 w1) : Vs.Frame γ H w (γ1.part [] []) ⟨[], []⟩ w1 :=
 ⟨F.os, F.tape, F.output, F.size, F.blk, F.mem, fun b h => (part_none b (.inl h)).elim, fun t b h => (part_none b (.inr ⟨t, h⟩)).elim, fun b h => by simp [Gh.part] at h⟩
theorem body56_eq : Tryz.f56.body = some c56 := by kernel_rfl
theorem mapr_inv {γ : Gh} {v : Value} {m : Nat} (h : RepD γ v (.mapr m)) : ∃ b, v = .map (some b) ∧ γ.boxes[m]? = some b := by
 cases h with
 | mapr _ b h => exact ⟨b, rfl, h⟩

set_option maxHeartbeats 1000000 in
theorem needed_of {c : CallR} (S : Sound Tryz.prog W G c) (hm : Tryz.prog.follows .mixedOrders = true) {it : It} (hit : ∀ b s r, it b s = some r → ∃ m, iter b m s = some r) {l1 l3 : List SC} (h1 : pl6 = some l1) (h3 : pl3 = some l3)
    {args : List D} (hal : args.length = 2) {s1 : St} (hrun : evSeqL c G it l1 ⟨entry 0 args, ⟨[], []⟩⟩ = some (.norm, s1)) {i5 m kd : Nat} {vs0 : List D} {l0 : List Int} (h7 : s1.env.get 7 = .p .nils) (h5 : s1.env.get 5 = .box i5 0) (h5c : s1.hp.bx[i5]? = some [.mapr m])
    (hmr : s1.hp.bx[m]? = some [.mapc kd (l0.map fun x => .int .i64 x) vs0]) (hl0 : l0.length < 1000000)
    (htail : ∀ l, l.Perm l0 → ∃ s', evSeqL c G it l3 ⟨[(7, Dk l)], Hk l⟩ = some (.ret, s') ∧ s'.hp = Hk (sortI l0) ∧ s'.env.get 4 = Dk l0) :
    Meets Tryz.prog W G 56 args ⟨[], []⟩ (.val (Dk l0)) (Hk (sortI l0)) := by
 have hN1 : l1.all SC.noR = true := by have := pl6_some; rw [h1] at this; simpa using this
 have hN3 : l3.all SC.noR = true := by have := pl3_some; rw [h3] at this; simpa using this
 refine ⟨⟨Tryz.f56, Tryz.func56, by kernel_rfl, by kernel_rfl⟩, fun γ w vs I hv => ?_⟩
 have hvs : vs.size = 2 := by rw [hv.1, hal]
 refine calls_of_wp Tryz.func56 body56_eq ?_
 generalize hR : (fun (e : Ending) (w' : World) => ∃ γ', γ.le γ' ∧ Vs.Frame γ ⟨[], []⟩ w γ' (Hk (sortI l0)) w' ∧ InvS W G γ' (Hk (sortI l0)) w' ∧ Ends' γ' (.val (Dk l0)) e) = R
 have hQo : ∀ (a : Act) (w' : World), ¬ bodyPost Tryz.prog Tryz.f56 R .outgrown a w' := by
  intro a w' q
  have q : R .outgrown w' := q
  rw [← hR] at q
  obtain ⟨_, _, _, _, q⟩ := q
  exact no_out q
 have hγb : γ.boxes = [] := List.eq_nil_of_length_eq_zero (by have := I.lenB; simpa using this)
 have hγr : γ.rows = [] := List.eq_nil_of_length_eq_zero (by have := I.lenT; simpa using this)
 have hnt : Tryz.f56.ntmps = 28 := by kernel_rfl
 rw [hnt, hvs]
 refine Vs.wp_spine c56 ?_
 rw [spine56]
 refine wpL_app' _ _ _ _ _ ?_
 refine compLs_wp S hm hit (pre6.map sk56) pre6 l1 h1 hN1 _ γ ⟨entry 0 args, ⟨[], []⟩⟩ _ w .norm s1 (fun a w q => hQo a w q) hrun I (entry_rep hv _) (by simp [hvs]) rfl (fun γ1 a1 w1 L1 F1 J1 D1 => ?_)
 intro hn1 E1
 show r6.wp _ (Exit.then (wpL _ (.block 0 (.loop body56) :: post3) _) _) a1 w1
 refine wp_region_list ?_
 show wpList _ #[o15, o16] _ ([o15] ++ [o16]) a1 w1
 refine ops_wpR (c := c) (G := G) S (nt := 28) ?_ [o16] [o15] [⟨some 15, .load none (.t 5), none⟩] γ1 s1.env s1.hp a1 w1 rfl ?_ J1 E1 hn1 (.ok ((15, .mapr m) :: s1.env) s1.hp) ?_ (fun γ2 e2 H2 a2 w2 hr L2 F2 J2 E2 hn2 hd2 => ?_) (fun _ _ _ _ _ _ _ hr => by cases hr)
 ·intro j o' t ho ht
  match j, ho with
  | 0, ho => cases ho; cases ht; decide
  | 1, ho => cases ho; cases ht; decide
  | j + 2, ho => simp at ho
 ·intro i o so ho hs
  match i, ho, hs with
  | 0, ho, hs => cases ho; cases hs; exact soOf_ok so15_ok
  | i + 1, ho, _ => simp at ho
 ·simp [evOps, evGuard, evKC, evK, Opd.ev, h5, loadD, h5c, put, isMapC, cutAt]
 ·cases hr
  have r15 := E2 15
  simp only [Env.get, if_true] at r15
  obtain ⟨bm, hv15, hbm⟩ := mapr_inv r15
  obtain ⟨es, ck, s, hmap, M, hbo⟩ := J2.toInv.mapBlock hbm hmr
  obtain ⟨hperm, hki⟩ := keys_perm M rfl
  have hbmlt : bm < w2.heap.size := (Array.getElem?_eq_some_iff.1 hmap).1
  have hrg := run_range_map (P := Tryz.prog) w2 197 3 4 bm es ck Tryz.underlying197 hmap
  refine stepO rfl (v := .pointer (some ⟨w2.heap.size, 0, none⟩)) (w' := w2.alloc (.mapIter (some bm) ck #[] ck)) (by simp [execOp, o16, Act.eval, hv15, hrg]) (wpList_nil ?_)
  have J2p : InvS W G (γ2.part [] []) ⟨[], []⟩ w2 := part_invS List.nodup_nil List.nodup_nil rfl rfl J2
  obtain ⟨F3, J3⟩ := J2p.toInv.allocObj (.mapIter (some bm) ck #[] ck)
  have J3 := J2p.up (.refl _) F3 J3
  have L2p : γ.le (γ2.part [] []) := part_le (L1.trans L2) hγb hγr
  have F2p : Vs.Frame γ ⟨[], []⟩ w (γ2.part [] []) ⟨[], []⟩ w2 := part_frame (F1.trans L1.base F2)
  have hd1 : a2.defers = [] := by rw [hd2]; exact D1
  show (Code.block 0 (.loop body56)).wp _ _ _ _
  refine wp_block (loop56 S hm hit (γ1 := γ2.part [] []) (w1 := w2) (bm := bm) (r := w2.heap.size) hbo hki (Nat.le_refl _) J2.blw.size hbmlt hmap part_none hl0 (Q := Exit.inBlock 0 (Exit.then (wpL Tryz.prog post3 (bodyPost Tryz.prog Tryz.f56 R)) (bodyPost Tryz.prog Tryz.f56 R))) (fun a w q => hQo a w q) (fun a4 w4 γ4 l hn4 hd4 L4 F4 J4 r7 hp4 => ?_) ?_)
  ·show wpL _ post3 _ a4 w4
   obtain ⟨s', hs, hh, h4⟩ := htail l hp4
   refine compLs_wp S hm hit (post3.map sk56) post3 l3 h3 hN3 _ γ4 ⟨[(7, Dk l)], Hk l⟩ a4 w4 .ret s' hQo hs J4 (fun t => ?_) hn4 hd4 (fun γ5 a5 w5 L5 F5 J5 D5 => ?_)
   ·show RepD γ4 (a4.tmps.getD t undef) (Env.get _ t)
    simp only [Env.get]
    split
    ·rename_i ht; subst ht; exact r7
    ·exact .dead _
   ·intro hn5 E5
    rw [hh] at F5 J5
    obtain ⟨v, q1, q2⟩ := results_ok (fn := Tryz.f56) (rs := [.t 4]) J5.toInv E5 (by kernel_rfl) (d := Dk l0) (by simp [evRes, evRes1, h4])
    refine ⟨D5, v, q1, ?_⟩
    rw [← hR]
    exact ⟨γ5, L2p.trans (L4.trans L5), F2p.trans L2p.base (F4.trans L4.base F5), J5, v, rfl, q2⟩
  ·refine ⟨γ2.part [] [], [], #[], by rw [put_size, hn2], by rw [put_defers, hd1], .refl _, F3, J3, ?_, ?_, ?_, ?_, ?_⟩
   ·show (a2.put (some 16) _).tmps.getD 16 undef = _
    rw [put_get (by omega), if_pos rfl]
   ·show RepD _ ((a2.put (some 16) _).tmps.getD 7 undef) (.p .nils)
    rw [put_get (by omega), if_neg (by decide)]
    have r7 := E2 7
    simp only [Env.get] at r7
    rw [if_neg (by decide), h7] at r7
    exact .p _ _ r7.p_inv
   ·rw [heap_alloc, if_pos rfl]
   ·rw [heap_alloc, if_neg (by omega)]; exact hmap
   ·rw [List.nil_append, leftOf_none]; exact hperm

end Go.Proofs.YtdnebeaeiimjlaaGreatDoor

namespace Go.Proofs.YtdnebeaeiimjlaaGreatDoor
open Go Go.Vs Go.RowKit Go.Shelf

variable {W : World} {G : Nat → Option (List PD)}
theorem idv_refs (l : List Int) : D.refsL (idv l) = [] := by
 induction l with
 | nil => rfl
 | cons x l ih => simpa [idv, D.refsL, D.refs] using ih
theorem idv_toks (l : List Int) : D.toksL (idv l) = [] := by
 induction l with
 | nil => rfl
 | cons x l ih => simpa [idv, D.toksL, D.toks] using ih
theorem idv_ren (f g : Nat → Option Nat) (l : List Int) : D.renL f g (idv l) = some (idv l) := by
 induction l with
 | nil => rfl
 | cons x l ih =>
  have ih : D.renL f g (l.map fun x => D.p (.int .i64 x)) = some (l.map fun x => D.p (.int .i64 x)) := ih
  simp [idv, D.renL, D.ren, ih]
theorem idv_int (l : List Int) : mapO intD (idv l) = some l := by
 induction l with
 | nil => rfl
 | cons x l ih =>
  have ih : mapO intD (l.map fun x => D.p (.int .i64 x)) = some l := ih
  simp [idv, mapO, intD, ih]
theorem sort_at (l : List Int) (hne : l ≠ []) (hl : l.length < 1000000) : sortLib [.gsl 0 3 l.length 1] ⟨[idv l], []⟩ = some (.val .undef, ⟨[idv (sortI l)], []⟩) := by
 have h1 : (idv l).length = l.length := by simp [idv]
 have h2 : (idv (sortI l)).length = l.length := by simp [idv, sortI]
 have h3 : (idv l).take l.length = idv l := List.take_of_length_le (by omega)
 have h4 : isMapC (idv l) = false := isMapC_one (idv_one _)
 have h5 : idv l ≠ [] := fun h => hne (List.eq_nil_of_length_eq_zero (by rw [← h1, h]; rfl))
 simp only [sortLib, if_true, List.getElem?_cons_zero, h3, idv_int]
 rw [if_pos ⟨h4, by omega, h5, by omega⟩]
 simp [Vs.splice, h2, ← h1]
theorem sort_callD {c : CallR} (hc : ∀ aa H r, sortLib aa H = some r → c 108 aa H = some r) (l : List Int) (hne : l ≠ []) (hl : l.length < 1000000) {H : Hp} {i : Nat} (hi : H.bx[i]? = some (idv l)) :
    callD c 108 [.gsl i 3 l.length 1] H = some (.val .undef, { H with bx := H.bx.set i (idv (sortI l)) }) := by
 have hrc : ∀ n, reach H n [i] = [i]
  | 0 => rfl
  | n + 1 => by simp [reach, boxRefs, hi, idv_refs]
 have hs := hc _ _ _ (sort_at l hne hl)
 simp only [callD, D.refsL, D.refs, List.append_nil, ins, List.contains_nil, Bool.false_eq_true, if_false, List.nil_append, hrc, D.toksL, D.toks, boxToks, hi, idv_toks, Vs.nodupB, Bool.not_false, Bool.and_self, if_true, idx, D.renL, D.ren, Option.map_some, mapO, idv_ren, hs, back, firstN]
 simp [idv_ren, Res.ren, D.ren, mapO, putAll]
def k28 : List Nat := List.range 28
def l3 : List SC := [.region k28 [⟨some 25, .move (.t 7), none⟩, ⟨some 26, .call (.c (.fn 108 [] [])) [.t 25], none⟩], .region k28 [⟨some 27, .move (.t 7), none⟩, ⟨some 4, .move (.t 27), none⟩], .ret]
theorem pl3_eq : pl3 = some l3 := by kernel_rfl
theorem tail_ok {c : CallR} {it : It} (hc : ∀ aa H r, sortLib aa H = some r → c 108 aa H = some r) {l0 : List Int} (hne : l0 ≠ []) (hl0 : l0.length < 1000000) (l : List Int) (hp : l.Perm l0) :
    ∃ s', evSeqL c G it l3 ⟨[(7, Dk l)], Hk l⟩ = some (.ret, s') ∧ s'.hp = Hk (sortI l0) ∧ s'.env.get 4 = Dk l0 := by
 have hlen := hp.length_eq
 obtain ⟨x, t, rfl⟩ : ∃ x t, l = x :: t := by
  cases l with
  | nil => exact absurd (List.eq_nil_of_length_eq_zero (by simpa using hlen.symm)) hne
  | cons x t => exact ⟨x, t, rfl⟩
 have hD : Dk l0 = .gsl t.length 3 (t.length + 1) 1 := by
  cases l0 with
  | nil => exact absurd rfl hne
  | cons y u => simp at hlen; simp [Dk, hlen]
 have hi : (Hk (x :: t)).bx[t.length]? = some (idv (x :: t)) := by simp [Hk]
 have hs := sort_callD hc (x :: t) (by simp) (by omega) hi
 have hH : ({ Hk (x :: t) with bx := (Hk (x :: t)).bx.set t.length (idv (sortI (x :: t))) } : Hp) = Hk (sortI l0) := by
  have hsl : (sortI l0).length = t.length + 1 := by simp [sortI, ← hlen]
  rw [sortI_perm hp]
  cases hS : sortI l0 with
  | nil => rw [hS] at hsl; simp at hsl
  | cons y u =>
   rw [hS] at hsl
   simp only [List.length_cons, Nat.add_right_cancel_iff] at hsl
   simp only [Hk, List.length_cons, Nat.add_sub_cancel, hsl]
   congr 1
   rw [List.set_append_right _ _ (by simp)]
   simp
 rw [hH] at hs
 rw [hD]
 simp only [List.length_cons] at hs
 obtain ⟨d, hd⟩ : ∃ d, D.gsl t.length 3 (t.length + 1) 1 = d := ⟨_, rfl⟩
 have hd7 : Dk (x :: t) = d := hd
 rw [hd] at hs ⊢
 rw [hd7]
 refine ⟨⟨Env.keep k28 ((4, d) :: (27, d) :: Env.keep k28 [(26, .undef), (25, d), (7, d)]), Hk (sortI l0)⟩, ?_, rfl, ?_⟩
 ·have g7 : (Env.keep k28 [(26, .undef), (25, d), (7, d)]).get 7 = d := by simp [Env.get_keep, k28, Env.get]
  simp [l3, evSeqL, evS, evOps, evGuard, evKC, evK, Opd.ev, put, Env.get, callV, hs, g7]
 ·simp [Env.get_keep, k28, Env.get]

end Go.Proofs.YtdnebeaeiimjlaaGreatDoor

namespace Go.Proofs.YtdnebeaeiimjlaaGreatDoor
open Go Go.Vs Go.RowKit Go.Shelf

variable {W : World}

noncomputable def a107 := aF 107 Tryz.f107
def libN : CallR
 | 108 => sortLib
 | _ => fun _ _ => none
noncomputable def fN : Nat → Option FC
 | 107 => a107
 | _ => none
noncomputable def pgN : Pg := ⟨fN, fun _ => none, libN, fun _ => none⟩
theorem pgN_ok : PgOk Tryz.prog W pgN where
 mixed := by kernel_rfl
 lib := by
  intro f args H r H' h
  change libN f args H = some (r, H') at h
  unfold libN at h
  split at h
  ·exact sort_meets h
  ·cases h
 fn := by
  intro f fc h
  change fN f = some fc at h
  unfold fN at h
  split at h
  ·exact autoF_good Tryz.func107 h fun g hg => by
    have : findS 107 cf.rg = none := by kernel_rfl
    rw [this] at hg; cases hg
  ·cases h
def argC : PD := .agg [.slice 3 [.agg [.int .i64 0, .int .i64 0, .int .i64 0], .agg [.int .i64 1, .int .i64 1, .int .i64 0], .agg [.int .i64 1, .int .i64 2, .int .i64 0], .agg [.int .i64 1, .int .i64 3, .int .i64 0], .agg [.int .i64 1, .int .i64 4, .int .i64 0],
 .agg [.int .i64 2, .int .i64 3, .int .i64 5], .agg [.int .i64 2, .int .i64 2, .int .i64 7], .agg [.int .i64 2, .int .i64 4, .int .i64 9], .agg [.int .i64 2, .int .i64 13, .int .i64 15], .agg [.int .i64 2, .int .i64 11, .int .i64 16]]]
def argR : PD := .int .i64 18
def keysN : List Int := [5, 6, 7, 8, 9]

noncomputable def st6 : Option (Out × St) := match pl6 with
 | some l => evSeqL (evF pgN 60) (fun _ => none) (fun b s => iter b 60 s) l ⟨entry 0 [.p argC, .p argR], ⟨[], []⟩⟩
 | none => none
def chkN : Option (Out × St) → Bool
 | some (.norm, s) => (match s.env.get 7 with | .p .nils => true | _ => false) && (match s.env.get 5 with
  | .box i 0 => match s.hp.bx[i]? with
   | some [.mapr m] => match s.hp.bx[m]? with
    | some [.mapc _ ks _] => PD.eqbL ks (keysN.map fun x => .int .i64 x)
    | _ => false
   | _ => false
  | _ => false)
 | _ => false
theorem chkN_ok : chkN st6 = true := by kernel_rfl
theorem libN_evF (n : Nat) : ∀ aa H r, sortLib aa H = some r → evF pgN (n + 1) 108 aa H = some r := fun aa H r h => by
 have h2 : pgN.lib 108 aa H = some r := h
 simp only [evF, h2]
theorem needed_raw : Meets Tryz.prog W (fun _ => none) 56 [.p argC, .p argR] ⟨[], []⟩ (.val (Dk keysN)) (Hk (sortI keysN)) := by
 have hk := chkN_ok
 unfold chkN at hk
 split at hk
 ·rename_i s1 hst
  rw [Bool.and_eq_true] at hk
  obtain ⟨hk7, hk5⟩ := hk
  split at hk5
  ·rename_i i5 h5
   split at hk5
   ·rename_i m h5c
    split at hk5
    ·rename_i kd ks vs hmr
     have hks := PD.eqbL_eq _ _ hk5
     subst hks
     have h7 : s1.env.get 7 = .p .nils := by
      split at hk7
      ·assumption
      ·cases hk7
     unfold st6 at hst
     cases hp : pl6 with
     | none => rw [hp] at hst; cases hst
     | some l =>
      rw [hp] at hst
      exact needed_of (evF_sound (W := W) pgN_ok 60) (by kernel_rfl) (fun b s r h => ⟨60, h⟩) hp pl3_eq rfl hst h7 h5 h5c hmr (by decide) (tail_ok (libN_evF 59) (by decide) (by decide))
    ·cases hk5
   ·cases hk5
  ·cases hk5
 ·cases hk
theorem needed_row : Meets Tryz.prog W (fun _ => none) 56 [.p argC, .p argR] ⟨[], []⟩ (.val (.p (.slice 1 (keysN.map fun x => .int .i64 x)))) ⟨[], []⟩ := by
 have e : closeF true (Hp.bx ⟨[], []⟩).length (some (.val (Dk keysN), Hk (sortI keysN))) = some (.val (.p (.slice 1 (keysN.map fun x => .int .i64 x))), ⟨[], []⟩) := by
  have : sortI keysN = keysN := by simp [sortI, keysN, List.mergeSort]
  rw [this]
  rfl
 exact close_ok e fun r0 H0 h => by cases h; exact needed_raw

end Go.Proofs.YtdnebeaeiimjlaaGreatDoor

namespace Go.Proofs.YtdnebeaeiimjlaaGreatDoor
open Go.Vs

variable {W : World} {G : Nat → Option (List PD)}
theorem gen158_ok : GenOk Tryz.prog W G 158 (genA 158) := gen226_ok
theorem pA_ok (A : World) : PgOk Tryz.prog A pgA := by
 refine ⟨by kernel_rfl, ?_, ?_, ?_⟩
 ·intro f args H r H' h
  cases h
 rotate_left
 ·intro f x h
  cases h
 intro f fc h
 unfold pgA at h
 dsimp only at h
 split at h
 ·exact autoF_good (cf := cfA) Tryz.func67 h fun g hg => by
   have e : findS 67 cfA.rg = some 158 := rfl
   rw [e] at hg
   cases hg
   exact gen158_ok
 ·exact autoF_good (cf := cfA) Tryz.func117 h fun g hg => by
   have e : findS 117 cfA.rg = none := rfl
   rw [e] at hg
   cases hg
 ·exact autoF_good (cf := cfA) Tryz.func58 h fun g hg => by
   have e : findS 58 cfA.rg = none := rfl
   rw [e] at hg
   cases hg
 ·cases h
theorem free_meets (A : World) (x : PD) (l : List (Int × Int)) (h : freeR x = some l) : ∃ d H', pairsD d H' = some l ∧ Meets Tryz.prog A (fun _ => none) 67 [.p x] ⟨[], []⟩ (.val d) H' := by
 unfold freeR at h
 split at h
 ·rename_i d H' he
  exact ⟨d, H', h, evF_sound (pA_ok A) 20 _ _ _ _ _ he⟩
 ·cases h
theorem gens_all {fi g : Nat} (h : findS fi [(54, 66), (78, 66), (32, 66), (67, 158), (42, 126), (21, 33)] = some g) : GenOk Tryz.prog W G g (genG g) := by
 have h66 : GenOk Tryz.prog W G 66 (genG 66) := gen68_ok
 have h158 : GenOk Tryz.prog W G 158 (genG 158) := gen226_ok
 have h126 : GenOk Tryz.prog W G 126 (genG 126) := gen237_ok
 have h33 : GenOk Tryz.prog W G 33 (genG 33) := gen33_ok free_meets
 simp only [findS] at h
 split at h
 ·cases h; exact h66
 ·split at h
  ·cases h; exact h66
  ·split at h
   ·cases h; exact h66
   ·split at h
    ·cases h; exact h158
    ·split at h
     ·cases h; exact h126
     ·split at h
      ·cases h; exact h33
      ·cases h
theorem gens_ok {fi g : Nat} (h : findS fi cf.rg = some g) : GenOk Tryz.prog W G g (cf.gens g) := gens_all h
theorem gensU_ok {fi g : Nat} (h : findS fi cfU.rg = some g) : GenOk Tryz.prog W G g (cfU.gens g) := gens_all h

set_option maxRecDepth 100000 in
theorem pg_fn : ∀ f fc, pgF f = some fc → FGood Tryz.prog W G f fc := by
 intro f fc h
 unfold pgF at h
 split at h
 ·exact autoF_good (cf := cf) Tryz.func3 h fun _ => gens_ok
 ·exact autoF_good (cf := cf) Tryz.func4 h fun _ => gens_ok
 ·exact autoF_good (cf := cf) Tryz.func5 h fun _ => gens_ok
 ·exact autoF_good (cf := cf) Tryz.func6 h fun _ => gens_ok
 ·exact autoF_good (cf := cf) Tryz.func7 h fun _ => gens_ok
 ·exact autoF_good (cf := cf) Tryz.func8 h fun _ => gens_ok
 ·exact autoF_good (cf := cf) Tryz.func9 h fun _ => gens_ok
 ·exact autoF_good (cf := cf) Tryz.func10 h fun _ => gens_ok
 ·exact autoF_good (cf := cf) Tryz.func11 h fun _ => gens_ok
 ·exact autoF_good (cf := cf) Tryz.func12 h fun _ => gens_ok
 ·exact autoF_good (cf := cf) Tryz.func13 h fun _ => gens_ok
 ·exact autoF_good (cf := cf) Tryz.func14 h fun _ => gens_ok
 ·exact autoF_good (cf := cf) Tryz.func15 h fun _ => gens_ok
 ·exact autoF_good (cf := cf) Tryz.func16 h fun _ => gens_ok
 ·exact autoF_good (cf := cf) Tryz.func17 h fun _ => gens_ok
 ·exact autoF_good (cf := cf) Tryz.func18 h fun _ => gens_ok
 ·exact autoF_good (cf := cf) Tryz.func19 h fun _ => gens_ok
 ·exact autoF_good (cf := cf) Tryz.func20 h fun _ => gens_ok
 ·exact autoF_good (cf := cf) Tryz.func21 h fun _ => gens_ok
 ·exact autoF_good (cf := cf) Tryz.func22 h fun _ => gens_ok
 ·exact autoF_good (cf := cf) Tryz.func23 h fun _ => gens_ok
 ·exact autoF_good (cf := cf) Tryz.func25 h fun _ => gens_ok
 ·exact autoF_good (cf := cf) Tryz.func26 h fun _ => gens_ok
 ·exact autoF_good (cf := cf) Tryz.func27 h fun _ => gens_ok
 ·exact autoF_good (cf := cf) Tryz.func28 h fun _ => gens_ok
 ·exact autoF_good (cf := cf) Tryz.func29 h fun _ => gens_ok
 ·exact autoF_good (cf := cf) Tryz.func30 h fun _ => gens_ok
 ·exact autoF_good (cf := cf) Tryz.func31 h fun _ => gens_ok
 ·exact autoF_good (cf := cf) Tryz.func32 h fun _ => gens_ok
 ·exact autoF_good (cf := cf) Tryz.func34 h fun _ => gens_ok
 ·exact autoF_good (cf := cf) Tryz.func35 h fun _ => gens_ok
 ·exact autoF_good (cf := cf) Tryz.func36 h fun _ => gens_ok
 ·exact autoF_good (cf := cf) Tryz.func37 h fun _ => gens_ok
 ·exact autoF_good (cf := cf) Tryz.func38 h fun _ => gens_ok
 ·exact autoF_good (cf := cf) Tryz.func39 h fun _ => gens_ok
 ·exact autoF_good (cf := cf) Tryz.func40 h fun _ => gens_ok
 ·exact autoF_good (cf := cf) Tryz.func41 h fun _ => gens_ok
 ·exact autoF_good (cf := cf) Tryz.func42 h fun _ => gens_ok
 ·exact autoF_good (cf := cf) Tryz.func43 h fun _ => gens_ok
 ·exact autoF_good (cf := cf) Tryz.func44 h fun _ => gens_ok
 ·exact autoF_good (cf := cf) Tryz.func45 h fun _ => gens_ok
 ·exact autoF_good (cf := cf) Tryz.func46 h fun _ => gens_ok
 ·exact autoF_good (cf := cf) Tryz.func47 h fun _ => gens_ok
 ·exact autoF_good (cf := cf) Tryz.func48 h fun _ => gens_ok
 ·exact autoF_good (cf := cf) Tryz.func49 h fun _ => gens_ok
 ·exact autoF_good (cf := cf) Tryz.func50 h fun _ => gens_ok
 ·exact autoF_good (cf := cf) Tryz.func51 h fun _ => gens_ok
 ·exact autoF_good (cf := cf) Tryz.func52 h fun _ => gens_ok
 ·exact autoF_good (cf := cf) Tryz.func53 h fun _ => gens_ok
 ·exact autoF_good (cf := cf) Tryz.func54 h fun _ => gens_ok
 ·exact autoF_good (cf := cf) Tryz.func55 h fun _ => gens_ok
 ·exact autoF_good (cf := cf) Tryz.func57 h fun _ => gens_ok
 ·exact autoF_good (cf := cf) Tryz.func58 h fun _ => gens_ok
 ·exact autoF_good (cf := cf) Tryz.func59 h fun _ => gens_ok
 ·exact autoF_good (cf := cf) Tryz.func60 h fun _ => gens_ok
 ·exact autoF_good (cf := cf) Tryz.func61 h fun _ => gens_ok
 ·exact autoF_good (cf := cf) Tryz.func62 h fun _ => gens_ok
 ·exact autoF_good (cf := cf) Tryz.func63 h fun _ => gens_ok
 ·exact autoF_good (cf := cf) Tryz.func64 h fun _ => gens_ok
 ·exact autoF_good (cf := cf) Tryz.func65 h fun _ => gens_ok
 ·exact autoF_good (cf := cf) Tryz.func67 h fun _ => gens_ok
 ·exact autoF_good (cf := cf) Tryz.func68 h fun _ => gens_ok
 ·exact autoF_good (cf := cf) Tryz.func69 h fun _ => gens_ok
 ·exact autoF_good (cf := cf) Tryz.func70 h fun _ => gens_ok
 ·exact autoF_good (cf := cf) Tryz.func71 h fun _ => gens_ok
 ·exact autoF_good (cf := cf) Tryz.func72 h fun _ => gens_ok
 ·exact autoF_good (cf := cf) Tryz.func74 h fun _ => gens_ok
 ·exact autoF_good (cf := cf) Tryz.func75 h fun _ => gens_ok
 ·exact autoF_good (cf := cf) Tryz.func76 h fun _ => gens_ok
 ·exact autoF_good (cf := cf) Tryz.func77 h fun _ => gens_ok
 ·exact autoF_good (cf := cf) Tryz.func78 h fun _ => gens_ok
 ·exact autoF_good (cf := cf) Tryz.func79 h fun _ => gens_ok
 ·exact autoF_good (cf := cf) Tryz.func81 h fun _ => gens_ok
 ·exact autoF_good (cf := cf) Tryz.func82 h fun _ => gens_ok
 ·exact autoF_good (cf := cf) Tryz.func83 h fun _ => gens_ok
 ·exact autoF_good (cf := cf) Tryz.func84 h fun _ => gens_ok
 ·exact autoF_good (cf := cf) Tryz.func85 h fun _ => gens_ok
 ·exact autoF_good (cf := cf) Tryz.func86 h fun _ => gens_ok
 ·exact autoF_good (cf := cf) Tryz.func87 h fun _ => gens_ok
 ·exact autoF_good (cf := cf) Tryz.func88 h fun _ => gens_ok
 ·exact autoF_good (cf := cf) Tryz.func89 h fun _ => gens_ok
 ·exact autoF_good (cf := cf) Tryz.func90 h fun _ => gens_ok
 ·exact autoF_good (cf := cf) Tryz.func95 h fun _ => gens_ok
 ·exact autoF_good (cf := cf) Tryz.func97 h fun _ => gens_ok
 ·exact autoF_good (cf := cf) Tryz.func98 h fun _ => gens_ok
 ·exact autoF_good (cf := cf) Tryz.func99 h fun _ => gens_ok
 ·exact autoF_good (cf := cf) Tryz.func100 h fun _ => gens_ok
 ·exact autoF_good (cf := cf) Tryz.func102 h fun _ => gens_ok
 ·exact autoF_good (cf := cf) Tryz.func103 h fun _ => gens_ok
 ·exact autoF_good (cf := cf) Tryz.func104 h fun _ => gens_ok
 ·exact autoF_good (cf := cf) Tryz.func105 h fun _ => gens_ok
 ·exact autoF_good (cf := cf) Tryz.func106 h fun _ => gens_ok
 ·exact autoF_good (cf := cf) Tryz.func109 h fun _ => gens_ok
 ·exact autoF_good (cf := cf) Tryz.func110 h fun _ => gens_ok
 ·exact autoF_good (cf := cf) Tryz.func111 h fun _ => gens_ok
 ·exact autoF_good (cf := cf) Tryz.func112 h fun _ => gens_ok
 ·exact autoF_good (cf := cf) Tryz.func113 h fun _ => gens_ok
 ·exact autoF_good (cf := cf) Tryz.func114 h fun _ => gens_ok
 ·exact autoF_good (cf := cf) Tryz.func115 h fun _ => gens_ok
 ·exact autoF_good (cf := cf) Tryz.func116 h fun _ => gens_ok
 ·exact autoF_good (cf := cf) Tryz.func117 h fun _ => gens_ok
 ·exact autoF_good (cf := cf) Tryz.func118 h fun _ => gens_ok
 ·exact autoF_good (cf := cf) Tryz.func121 h fun _ => gens_ok
 ·exact autoF_good (cf := cf) Tryz.func122 h fun _ => gens_ok
 ·exact autoF_good (cf := cf) Tryz.func123 h fun _ => gens_ok
 ·exact autoF_good (cf := cf) Tryz.func124 h fun _ => gens_ok
 ·exact autoF_good (cf := cf) Tryz.func125 h fun _ => gens_ok
 ·exact autoF_good (cf := cf) Tryz.func127 h fun _ => gens_ok
 ·exact autoF_good (cf := cf) Tryz.func128 h fun _ => gens_ok
 ·exact autoF_good (cf := cf) Tryz.func129 h fun _ => gens_ok
 ·exact autoF_good (cf := cf) Tryz.func137 h fun _ => gens_ok
 ·exact autoF_good (cf := cf) Tryz.func139 h fun _ => gens_ok
 ·exact autoF_good (cf := cf) Tryz.func140 h fun _ => gens_ok
 ·exact autoF_good (cf := cf) Tryz.func142 h fun _ => gens_ok
 ·exact autoF_good (cf := cf) Tryz.func146 h fun _ => gens_ok
 ·exact autoF_good (cf := cf) Tryz.func148 h fun _ => gens_ok
 ·exact autoF_good (cf := cf) Tryz.func151 h fun _ => gens_ok
 ·exact autoF_good (cf := cf) Tryz.func152 h fun _ => gens_ok
 ·exact autoF_good (cf := cf) Tryz.func153 h fun _ => gens_ok
 ·exact autoF_good (cf := cf) Tryz.func154 h fun _ => gens_ok
 ·exact autoF_good (cf := cf) Tryz.func156 h fun _ => gens_ok
 ·exact autoF_good (cf := cf) Tryz.func157 h fun _ => gens_ok
 ·exact autoF_good (cf := cf) Tryz.func161 h fun _ => gens_ok
 ·exact autoF_good (cf := cf) Tryz.func162 h fun _ => gens_ok
 ·exact autoF_good (cf := cf) Tryz.func163 h fun _ => gens_ok
 ·exact autoF_good (cf := cf) Tryz.func164 h fun _ => gens_ok
 ·exact autoF_good (cf := cf) Tryz.func166 h fun _ => gens_ok
 ·exact autoF_good (cf := cf) Tryz.func175 h fun _ => gens_ok
 ·exact autoF_good (cf := cf) Tryz.func178 h fun _ => gens_ok
 ·exact autoF_good (cf := cf) Tryz.func180 h fun _ => gens_ok
 ·exact autoF_good (cf := cf) Tryz.func184 h fun _ => gens_ok
 ·exact autoF_good (cf := cf) Tryz.func200 h fun _ => gens_ok
 ·exact autoF_good (cf := cf) Tryz.func202 h fun _ => gens_ok
 ·exact autoF_good (cf := cf) Tryz.func203 h fun _ => gens_ok
 ·exact autoF_good (cf := cf) Tryz.func213 h fun _ => gens_ok
 ·exact autoF_good (cf := cf) Tryz.func215 h fun _ => gens_ok
 ·exact autoF_good (cf := cf) Tryz.func228 h fun _ => gens_ok
 ·exact autoF_good (cf := cf) Tryz.func233 h fun _ => gens_ok
 ·exact autoF_good (cf := cf) Tryz.func247 h fun _ => gens_ok
 ·exact autoF_good (cf := cf) Tryz.func248 h fun _ => gens_ok
 ·exact autoF_good (cf := cf) Tryz.func249 h fun _ => gens_ok
 ·exact autoF_good (cf := cf) Tryz.func250 h fun _ => gens_ok
 ·exact autoF_good (cf := cf) Tryz.func251 h fun _ => gens_ok
 ·exact autoF_good (cf := cf) Tryz.func277 h fun _ => gens_ok
 ·exact autoF_good (cf := cf) Tryz.func278 h fun _ => gens_ok
 ·cases h; exact FOk.good (FOk.of Tryz.func92 (by kernel_rfl))
 ·cases h; exact FOk.good (FOk.of Tryz.func101 (by kernel_rfl))
 ·cases h
theorem pg_dfn : ∀ f x, pgD f = some x → DOk Tryz.prog f x.1 x.2 := by
 intro f x h
 unfold pgD at h
 split at h
 ·cases h; exact DOk.of Tryz.func130 (by kernel_rfl)
 ·cases h; exact DOk.of Tryz.func141 (by kernel_rfl)
 ·cases h
theorem pgU_fn : ∀ f fc, pgUF f = some fc → FGood Tryz.prog W G f fc := by
 intro f fc h
 unfold pgUF at h
 split at h
 ·exact autoF_good (cf := cfU) Tryz.func6 h fun _ => gensU_ok
 ·exact autoF_good (cf := cfU) Tryz.func24 h fun _ => gensU_ok
 ·exact pg_fn _ _ h
theorem libI_ok : Sound Tryz.prog W G libI := by
 intro f args H r H' h
 unfold libI at h
 split at h
 ·exact ins_meets h
 ·cases h
theorem pgU_ok : PgOk Tryz.prog W pgU := ⟨by kernel_rfl, libI_ok, pgU_fn, pg_dfn⟩
theorem none_ok : Sound Tryz.prog W G (fun _ _ _ => none) := fun f args H r H' h => by cases h
theorem libB_ok : Sound Tryz.prog W (fun _ => none) libB := by
 intro f args H r H' h
 unfold libB at h
 split at h
 ·exact ins_meets h
 ·exact evF_sound pgU_ok 60 _ _ _ _ _ h
 ·refine tab_sound none_ok (fun e he => ?_) _ _ _ _ _ h
  rw [List.mem_singleton] at he
  subst he
  exact needed_row
 ·cases h
theorem pg_ok : PgOk Tryz.prog W pg := ⟨by kernel_rfl, libB_ok, pg_fn, pg_dfn⟩

end Go.Proofs.YtdnebeaeiimjlaaGreatDoor

namespace Go.Proofs.YtdnebeaeiimjlaaGreatDoor
open Go Go.Vs
def fc16 : FC where
 nt := 8
 np := 1
 res := [.t 2]
 body := (.seq (.region [0] [⟨some 2, .move (.c (.p (.nils))), none⟩]) (.seq (.seq (.region [0, 4] [⟨some 3, .move (.t 0), none⟩, ⟨some 4, .eqk 2 false (.t 3) (.c (.p (.nils))), none⟩]) (.cond (.t 4) (.seq (.region [2] [⟨some 2, .move (.c (.p (.nils))), none⟩]) .ret) .skip)) (.seq (.region [2] [⟨some 5, .bslice 3 1 0 (.int .i64 0) [], none⟩, ⟨some 6, .move (.t 0), none⟩,
  ⟨some 7, .appendg 3 1 8 (.t 5) (.t 6), none⟩, ⟨some 2, .move (.t 7), none⟩]) .ret)))
 frz := true
def fc7_b0 : SC :=
 (.loc (.seq (.seq (.region [0, 1, 5, 6, 7, 17] [⟨some 14, .move (.t 7), none⟩, ⟨some 15, .move (.t 1), none⟩, ⟨some 16, .len 1 (.t 15), none⟩, ⟨some 17, .bin .lss (.t 14) (.t 16), none⟩]) (.cond (.t 17) .skip (.exit 2))) (.seq (.block 3 (.seq (.draw [0, 1, 5, 6, 7, 28] [(3, 7)] [⟨some 20, .move (.t 0), none⟩, ⟨some 21, .move (.t 6), none⟩, ⟨some 22, .iaddr none 1 (.t 20) (.t 21), none⟩,
 ⟨some 23, .load none (.t 22), none⟩, ⟨some 24, .move (.t 1), none⟩, ⟨some 25, .move (.t 7), none⟩, ⟨some 26, .iaddr none 1 (.t 24) (.t 25), none⟩, ⟨some 27, .load none (.t 26), none⟩, ⟨some 28, .bin .eql (.t 23) (.t 27), none⟩]) (.cond (.t 28) (.region [0, 1, 5, 6, 7] [⟨some 29, .move (.t 5), none⟩, ⟨some 30, .move (.t 0), none⟩, ⟨some 31, .move (.t 6), none⟩,
 ⟨some 32, .iaddr none 1 (.t 30) (.t 31), none⟩, ⟨some 33, .load none (.t 32), none⟩, ⟨some 34, .bslice 3 1 1 (.int .i64 0) [(0, (.t 33))], none⟩, ⟨some 35, .append 3 1 8 (.t 29) (.t 34), none⟩, ⟨some 5, .move (.t 35), none⟩]) .skip))) (.region [0, 1, 5, 6, 7] [⟨some 18, .move (.t 7), none⟩, ⟨some 19, .bin .add (.t 18) (.c (.p (.int .i64 1))), none⟩, ⟨some 7, .move (.t 19), none⟩]))))
def fc7_b1 : SC :=
 (.loc (.seq (.seq (.region [0, 1, 5, 6, 11] [⟨some 8, .move (.t 6), none⟩, ⟨some 9, .move (.t 0), none⟩, ⟨some 10, .len 1 (.t 9), none⟩, ⟨some 11, .bin .lss (.t 8) (.t 10), none⟩]) (.cond (.t 11) .skip (.exit 0))) (.seq (.block 1 (.seq (.region [0, 1, 5, 6, 7] [⟨some 7, .move (.c (.p (.int .i64 0))), none⟩]) (.block 2 (.seq (.tok 5 3 1) (.loop [0, 1, 5, 6, 7] fc7_b0))))) (.region [0, 1, 5, 6] [
 ⟨some 12, .move (.t 6), none⟩, ⟨some 13, .bin .add (.t 12) (.c (.p (.int .i64 1))), none⟩, ⟨some 6, .move (.t 13), none⟩]))))
def fc7 : FC where
 nt := 37
 np := 2
 res := [.t 4]
 body := (.seq (.region [0, 1] [⟨some 4, .move (.c (.p (.nils))), none⟩]) (.seq (.region [0, 1, 5] [⟨some 5, .move (.c (.p (.nils))), none⟩]) (.seq (.seq (.region [0, 1, 5, 6] [⟨some 6, .move (.c (.p (.int .i64 0))), none⟩]) (.block 0 (.seq (.tok 5 3 1) (.loop [0, 1, 5, 6] fc7_b1)))) (.seq (.region [4] [⟨some 36, .move (.t 5), none⟩, ⟨some 4, .move (.t 36), none⟩]) .ret))))
 frz := true
def fc6_b0 : SC :=
 (.loc (.seq (.region [1, 4, 5, 8, 24, 25, 26, 30, 31, 32, 33] [⟨some 33, .bin .lss (.t 32) (.t 31), none⟩]) (.seq (.cond (.t 33) .skip (.exit 2)) (.seq (.block 3 (.seq (.region [1, 4, 5, 8, 9, 10, 24, 25, 26, 30, 31, 32] [⟨some 34, .move (.t 32), none⟩, ⟨some 35, .iaddr none 2 (.t 30) (.t 32), none⟩, ⟨some 36, .load (some 2) (.t 35), none⟩, ⟨some 10, .alloc [.int .i64 0, .nils], none⟩,
 ⟨some 9, .move (.t 34), none⟩, ⟨none, .store 2 (.t 10) (.t 36), none⟩]) (.seq (.region [1, 4, 5, 8, 9, 10, 11, 24, 25, 26, 30, 31, 32] [⟨some 37, .faddr (.t 10) 0, none⟩, ⟨some 38, .load none (.t 37), none⟩, ⟨some 39, .build [.int .i64 0, .nils] [(0, 1, (.t 38))], none⟩, ⟨some 11, .alloc [.int .i64 0, .nils], none⟩, ⟨none, .store 2 (.t 11) (.t 39), none⟩]) (.seq (.seq
 (.region [1, 4, 5, 8, 10, 11, 24, 25, 26, 30, 31, 32, 42] [⟨some 40, .move (.t 1), none⟩, ⟨some 41, .move (.t 9), none⟩, ⟨some 42, .call (.c (.fn 17 [] [])) [(.t 40), (.t 41)], none⟩]) (.cond (.t 42) (.region [1, 4, 5, 8, 11, 24, 25, 26, 30, 31, 32] [⟨some 43, .faddr (.t 10) 1, none⟩, ⟨some 44, .load none (.t 43), none⟩, ⟨some 45, .call (.c (.fn 16 [] [])) [(.t 44)], none⟩,
 ⟨some 46, .faddr (.t 11) 1, none⟩, ⟨none, .store 1 (.t 46) (.t 45), none⟩]) .skip)) (.region [1, 4, 5, 8, 24, 25, 26, 30, 31, 32] [⟨some 47, .move (.t 8), none⟩, ⟨some 48, .load (some 2) (.t 11), none⟩, ⟨some 49, .bslice 45 2 1 (.agg [.int .i64 0, .nils]) [(0, (.t 48))], none⟩, ⟨some 50, .append 45 2 32 (.t 47) (.t 49), none⟩, ⟨some 8, .move (.t 50), none⟩])))))
 (.region [1, 4, 5, 8, 24, 25, 26, 30, 31, 32] [⟨some 51, .bin .add (.t 32) (.c (.p (.int .i64 1))), none⟩, ⟨some 32, .move (.t 51), none⟩])))))
def fc6_b1 : SC :=
 (.loc (.seq (.region [1, 4, 5, 24, 25, 26, 27] [⟨some 27, .bin .lss (.t 26) (.t 25), none⟩]) (.seq (.cond (.t 27) .skip (.exit 0)) (.seq (.block 1 (.seq (.region [1, 4, 5, 7, 24, 25, 26] [⟨some 28, .iaddr none 1 (.t 24) (.t 26), none⟩, ⟨some 29, .load none (.t 28), none⟩, ⟨some 7, .move (.t 29), none⟩]) (.seq (.region [1, 4, 5, 7, 8, 24, 25, 26] [⟨some 8, .move (.c (.p (.nils))), none⟩]) (.seq
 (.seq (.region [1, 4, 5, 8, 24, 25, 26, 30, 31, 32] [⟨some 30, .move (.t 7), none⟩, ⟨some 31, .len 1 (.t 30), none⟩, ⟨some 32, .move (.c (.p (.int .i64 0))), none⟩]) (.block 2 (.seq (.tok 8 45 2) (.loop [1, 4, 5, 8, 24, 25, 26, 30, 31, 32] fc6_b0)))) (.region [1, 4, 5, 24, 25, 26] [⟨some 52, .faddr (.t 5) 2, none⟩, ⟨some 53, .load none (.t 52), none⟩, ⟨some 54, .move (.t 8), none⟩,
 ⟨some 55, .bslice 63 1 1 (.nils) [(0, (.t 54))], none⟩, ⟨some 56, .append 63 1 24 (.t 53) (.t 55), none⟩, ⟨some 57, .faddr (.t 5) 2, none⟩, ⟨none, .store 1 (.t 57) (.t 56), none⟩]))))) (.region [1, 4, 5, 24, 25, 26] [⟨some 58, .bin .add (.t 26) (.c (.p (.int .i64 1))), none⟩, ⟨some 26, .move (.t 58), none⟩])))))
def fc6 : FC where
 nt := 60
 np := 2
 res := [.cell 4 (some 4)]
 body := (.seq (.region [1, 2, 4] [⟨some 2, .box (.t 0), none⟩, ⟨some 4, .alloc [.nils, .int .i64 0, .nils, .int .i64 0], none⟩]) (.seq (.draw [1, 2, 4, 5] [(2, 6), (3, 6), (2, 9), (3, 9), (6, 9), (2, 11), (3, 11), (6, 11), (9, 11)] [⟨some 12, .faddr (.t 2) 0, none⟩, ⟨some 13, .faddr (.t 12) 0, none⟩, ⟨some 14, .load none (.t 13), none⟩, ⟨some 15, .call (.c (.fn 16 [] [])) [(.t 14)], none⟩,
  ⟨some 16, .faddr (.t 2) 0, none⟩, ⟨some 17, .faddr (.t 16) 1, none⟩, ⟨some 18, .load none (.t 17), none⟩, ⟨some 19, .build [.nils, .int .i64 0] [(0, 1, (.t 15)), (1, 1, (.t 18))], none⟩, ⟨some 20, .faddr (.t 2) 3, none⟩, ⟨some 21, .load none (.t 20), none⟩, ⟨some 22, .build [.nils, .int .i64 0, .nils, .int .i64 0] [(0, 2, (.t 19)), (3, 1, (.t 21))], none⟩,
  ⟨some 5, .alloc [.nils, .int .i64 0, .nils, .int .i64 0], none⟩, ⟨none, .store 4 (.t 5) (.t 22), none⟩]) (.seq (.tokb 5 2 63 1) (.seq (.seq (.region [1, 4, 5, 24, 25, 26] [⟨some 23, .faddr (.t 2) 2, none⟩, ⟨some 24, .load none (.t 23), none⟩, ⟨some 25, .len 1 (.t 24), none⟩, ⟨some 26, .move (.c (.p (.int .i64 0))), none⟩]) (.block 0 (.loop [1, 4, 5, 24, 25, 26] fc6_b1))) (.seq (.region [4] [
  ⟨some 59, .load (some 4) (.t 5), none⟩, ⟨none, .store 4 (.t 4) (.t 59), none⟩]) .ret)))))
 frz := true
def fc3_b0 : SC :=
 (.loc (.seq (.seq (.region [2, 3, 5, 9, 10, 11, 32] [⟨some 31, .move (.t 11), none⟩, ⟨some 32, .bin .lss (.t 31) (.c (.p (.int .i64 10))), none⟩]) (.cond (.t 32) .skip (.exit 0))) (.seq (.block 1 (.region [2, 3, 5, 9, 10, 11] [⟨some 35, .move (.t 10), none⟩, ⟨some 36, .move (.t 11), none⟩, ⟨some 37, .bslice 3 1 1 (.int .i64 0) [(0, (.t 36))], none⟩, ⟨some 38, .append 3 1 8 (.t 35) (.t 37), none⟩,
 ⟨some 10, .move (.t 38), none⟩])) (.region [2, 3, 5, 9, 10, 11] [⟨some 33, .move (.t 11), none⟩, ⟨some 34, .bin .add (.t 33) (.c (.p (.int .i64 1))), none⟩, ⟨some 11, .move (.t 34), none⟩]))))
def fc3 : FC where
 nt := 70
 np := 4
 res := [.t 8]
 body := (.seq (.region [2, 3, 4, 5] [⟨some 4, .box (.t 0), none⟩, ⟨some 5, .box (.t 1), none⟩, ⟨some 8, .move (.c (.p (.bool false))), none⟩]) (.seq (.region [2, 3, 4, 5, 9] [⟨some 15, .call (.c (.fn 4 [] [])) [], none⟩, ⟨some 9, .move (.t 15), none⟩]) (.seq (.seq (.region [2, 3, 5, 9, 29] [⟨some 16, .move (.t 2), none⟩, ⟨some 17, .len 1 (.t 16), none⟩,
  ⟨some 18, .bin .gtr (.t 17) (.c (.p (.int .i64 10))), none⟩, ⟨some 19, .move (.t 18), none⟩, ⟨some 20, .move (.t 3), some (19, false)⟩, ⟨some 21, .len 1 (.t 20), some (19, false)⟩, ⟨some 22, .bin .gtr (.t 21) (.c (.p (.int .i64 10))), some (19, false)⟩, ⟨some 23, .pick (.t 19) (.c (.p (.bool true))) (.t 22), none⟩, ⟨some 24, .move (.t 23), none⟩,
  ⟨some 25, .load (some 4) (.t 4), some (24, false)⟩, ⟨some 26, .load (some 4) (.t 5), some (24, false)⟩, ⟨some 27, .call (.c (.fn 5 [] [])) [(.t 25), (.t 26)], some (24, false)⟩, ⟨some 28, .un .not (.t 27), some (24, false)⟩, ⟨some 29, .pick (.t 24) (.c (.p (.bool true))) (.t 28), none⟩]) (.cond (.t 29) (.seq (.region [8] [⟨some 30, .move (.t 9), none⟩, ⟨some 8, .move (.t 30), none⟩]) .ret)
  .skip)) (.seq (.region [2, 3, 5, 9, 10] [⟨some 10, .move (.c (.p (.nils))), none⟩]) (.seq (.seq (.region [2, 3, 5, 9, 10, 11] [⟨some 11, .move (.c (.p (.int .i64 0))), none⟩]) (.loc (.block 0 (.seq (.tok 10 3 1) (.loop [2, 3, 5, 9, 10, 11] fc3_b0))))) (.seq (.region [2, 3, 5, 9, 10, 12] [⟨some 39, .load (some 4) (.t 5), none⟩, ⟨some 40, .move (.t 10), none⟩,
  ⟨some 41, .call (.c (.fn 6 [] [])) [(.t 39), (.t 40)], none⟩, ⟨some 12, .alloc [.nils, .int .i64 0, .nils, .int .i64 0], none⟩, ⟨none, .store 4 (.t 12) (.t 41), none⟩]) (.seq (.region [2, 3, 5, 9, 10, 12, 13] [⟨some 42, .load (some 4) (.t 5), none⟩, ⟨some 43, .move (.t 2), none⟩, ⟨some 44, .call (.c (.fn 6 [] [])) [(.t 42), (.t 43)], none⟩, ⟨some 45, .move (.t 3), none⟩,
  ⟨some 46, .call (.c (.fn 6 [] [])) [(.t 44), (.t 45)], none⟩, ⟨some 13, .alloc [.nils, .int .i64 0, .nils, .int .i64 0], none⟩, ⟨none, .store 4 (.t 13) (.t 46), none⟩]) (.seq (.draw [5, 9, 10, 12, 13, 14] [(0, 3), (0, 5), (3, 5), (4, 5)] [⟨some 47, .load (some 4) (.t 5), none⟩, ⟨some 48, .move (.t 2), none⟩, ⟨some 49, .move (.t 3), none⟩,
  ⟨some 50, .call (.c (.fn 7 [] [])) [(.t 48), (.t 49)], none⟩, ⟨some 51, .call (.c (.fn 6 [] [])) [(.t 47), (.t 50)], none⟩, ⟨some 14, .alloc [.nils, .int .i64 0, .nils, .int .i64 0], none⟩, ⟨none, .store 4 (.t 14) (.t 51), none⟩]) (.seq (.draw [8] [(2, 3), (7, 8), (12, 15), (14, 15)] [⟨some 52, .move (.t 9), none⟩, ⟨some 53, .move (.t 52), none⟩,
  ⟨some 54, .load (some 4) (.t 13), some (53, true)⟩, ⟨some 55, .load (some 4) (.t 14), some (53, true)⟩, ⟨some 56, .call (.c (.fn 8 [] [])) [(.t 54), (.t 55)], some (53, true)⟩, ⟨some 57, .pick (.t 53) (.t 56) (.c (.p (.bool false))), none⟩, ⟨some 58, .move (.t 57), none⟩, ⟨some 59, .load (some 4) (.t 12), some (58, true)⟩, ⟨some 60, .load (some 4) (.t 5), some (58, true)⟩,
  ⟨some 61, .call (.c (.fn 8 [] [])) [(.t 59), (.t 60)], some (58, true)⟩, ⟨some 62, .pick (.t 58) (.t 61) (.c (.p (.bool false))), none⟩, ⟨some 63, .move (.t 62), none⟩, ⟨some 64, .load (some 4) (.t 5), some (63, true)⟩, ⟨some 65, .move (.t 10), some (63, true)⟩, ⟨some 66, .call (.c (.fn 6 [] [])) [(.t 64), (.t 65)], some (63, true)⟩, ⟨some 67, .load (some 4) (.t 12), some (63, true)⟩,
  ⟨some 68, .call (.c (.fn 8 [] [])) [(.t 66), (.t 67)], some (63, true)⟩, ⟨some 69, .pick (.t 63) (.t 68) (.c (.p (.bool false))), none⟩, ⟨some 8, .move (.t 69), none⟩]) .ret)))))))))
 frz := true

noncomputable def wf3 : Option FC := some fc3
noncomputable def wf6 : Option FC := some fc6
noncomputable def wf7 : Option FC := some fc7
noncomputable def wf16 : Option FC := some fc16
noncomputable def wf5 : Option FC := a5
noncomputable def wf8 : Option FC := a8
noncomputable def wf17 : Option FC := a17
noncomputable def wf18 : Option FC := a18
noncomputable def wf19 : Option FC := a19
noncomputable def wf25 : Option FC := a25
noncomputable def wf26 : Option FC := a26
noncomputable def pgLF : Nat → Option FC
 | 3 => wf3
 | 5 => wf5
 | 6 => wf6
 | 7 => wf7
 | 8 => wf8
 | 16 => wf16
 | 17 => wf17
 | 18 => wf18
 | 19 => wf19
 | 25 => wf25
 | 26 => wf26
 | _ => none
def headE : (Nat × List D × Hp) × (Res × Hp) := ((4, [], ⟨[], []⟩), (.val (.p (.bool true)), ⟨[], []⟩))
def libL : CallR
 | 4 => tabH [headE] (fun _ _ _ => none) 4
 | _ => fun _ _ => none
noncomputable def pgL : Pg := ⟨pgLF, fun _ => none, libL, fun _ => none⟩
theorem fc3_ok : FOk Tryz.prog 3 fc3 := FOk.of Tryz.func3 (by kernel_rfl)
theorem fc6_ok : FOk Tryz.prog 6 fc6 := FOk.of Tryz.func6 (by kernel_rfl)
theorem fc7_ok : FOk Tryz.prog 7 fc7 := FOk.of Tryz.func7 (by kernel_rfl)
theorem fc16_ok : FOk Tryz.prog 16 fc16 := FOk.of Tryz.func16 (by kernel_rfl)

end Go.Proofs.YtdnebeaeiimjlaaGreatDoor

namespace Go.Proofs.YtdnebeaeiimjlaaGreatDoor
open Go.Vs
def loopsOf : SC → List (List Nat × SC)
 | .loop k b => (k, b) :: loopsOf b
 | .seq a b | .cond _ a b | .rangef _ _ _ _ a b => loopsOf a ++ loopsOf b
 | .block _ b | .scope b | .loc b | .locz b => loopsOf b
 | _ => []

noncomputable def bd (x : Option FC) (n : Nat) : SC := (((x.map fun f => loopsOf f.body).getD []).getD n ([], .skip)).2
def post (Q : Out → Env → Hp → Prop) : Option (Out × St) → Prop
 | some (o, ⟨e, H⟩) => Q o e H
 | none => False

@[simp] theorem post_some (Q : Out → Env → Hp → Prop) (o : Out) (e : Env) (H : Hp) : post Q (some (o, ⟨e, H⟩)) ↔ Q o e H := Iff.rfl
theorem post_get {Q : Out → Env → Hp → Prop} {x : Option (Out × St)} (h : post Q x) : ∃ o e H, x = some (o, ⟨e, H⟩) ∧ Q o e H := by
 cases x with
 | none => exact h.elim
 | some y => obtain ⟨o, e, H⟩ := y; exact ⟨o, e, H, rfl, h⟩
theorem post_mono {Q R : Out → Env → Hp → Prop} {x : Option (Out × St)} (h : post Q x) (hq : ∀ o e H, Q o e H → R o e H) : post R x := by
 cases x with
 | none => exact h.elim
 | some y => obtain ⟨o, e, H⟩ := y; exact hq _ _ _ h

variable {c : CallR} {G : Nat → Option (List PD)}

@[simp] theorem one_p (x : PD) : (D.p x).one = x.one := rfl
theorem cells_of_one {x : PD} (h : x.one = true) : (D.p x).cells = [.p x] := by cases x <;> first | rfl | cases h
theorem pcells_of_one {x : PD} (h : x.one = true) : x.cells = [x] := by cases x <;> first | rfl | cases h
theorem cells_pagg (cs : List PD) : (D.p (.agg cs)).cells = cs.map .p := rfl
theorem pcells_agg (cs : List PD) : (PD.agg cs).cells = cs := rfl
theorem cells_dagg (cs : List D) : (D.agg cs).cells = cs := rfl
theorem cells_box (i o : Nat) : (D.box i o).cells = [.box i o] := rfl
theorem cells_tsl (t e sz : Nat) (es : List PD) : (D.tsl t e sz es).cells = [.tsl t e sz es] := rfl
theorem cells_fsl (e sz : Nat) (es : List PD) : (D.fsl e sz es).cells = [.fsl e sz es] := rfl
theorem cells_gsl (i e n sz : Nat) : (D.gsl i e n sz).cells = [.gsl i e n sz] := rfl
theorem cells_msl (i o n : Nat) (c : Option Nat) (sz : Nat) : (D.msl i o n c sz).cells = [.msl i o n c sz] := rfl
theorem cells_fn (f : Nat) (a c : List D) : (D.fn f a c).cells = [.fn f a c] := rfl
theorem cells_mapr (i : Nat) : (D.mapr i).cells = [.mapr i] := rfl
theorem cells_pint (k : IntKind) (n : Int) : (D.p (.int k n)).cells = [.p (.int k n)] := rfl
theorem cells_pbool (b : Bool) : (D.p (.bool b)).cells = [.p (.bool b)] := rfl
theorem cells_pstr (s : List UInt8) : (D.p (.str s)).cells = [.p (.str s)] := rfl
theorem cells_pslice (sz : Nat) (es : List PD) : (D.p (.slice sz es)).cells = [.p (.slice sz es)] := rfl
theorem cells_pnils : (D.p .nils).cells = [.p .nils] := rfl
theorem pcells_int (k : IntKind) (n : Int) : (PD.int k n).cells = [.int k n] := rfl
theorem pcells_bool (b : Bool) : (PD.bool b).cells = [.bool b] := rfl
theorem pcells_str (s : List UInt8) : (PD.str s).cells = [.str s] := rfl
@[simp] theorem pone_emp (sz : Nat) : (PD.emp sz).one = true := rfl
@[simp] theorem pone_nilp : PD.nilp.one = true := rfl
theorem condK_if (b : Bool) (x y : SC) (s : St) : condK c G (.p (.bool b)) x y s = if b = true then evS c G iterX x s else evS c G iterX y s := rfl
theorem opsG_if (keep : List Nat) (b : Bool) (o : SO) (r : List SO) (env : Env) (H : Hp) : opsG c G keep (some b) o r env H = if b = true then opsV c G keep (evKC c G env H o.k) o.dst r env else opsX c G keep r (put o.dst .undef env) H := by
 cases b <;> rfl
theorem drG_if (keep : List Nat) (pairs : List (Nat × Nat)) (un : Env) (b : Bool) (o : SO) (r : List SO) (env : Env) (H : Hp) (acc : List (Nat × Nat)) : drG c G keep pairs un (some b) o r env H acc = if b = true then drV c G keep pairs un (evKC c G env H o.k) o r env H acc else drX c G keep pairs un r (put o.dst .undef env) H (acc ++ [(0, 0)]) := by
 cases b <;> rfl
def nx (keep : List Nat) (E : Env) (H : Hp) : Out → Env → Hp → Prop := fun o e H' => o = .norm ∧ H' = H ∧ e.keep keep = E.keep keep
theorem loopK_keep {keep : List Nat} {b : SC} {env env' : Env} {H : Hp} (h : env.keep keep = env'.keep keep) : loopK c G keep b ⟨env, H⟩ = loopK c G keep b ⟨env', H⟩ :=
 iterX_same (by dsimp only; rw [h])
theorem loopW {σ : Type} {keep : List Nat} {b : SC} (E : σ → Env) (Hh : σ → Hp) (m : σ → Nat) (I : σ → Prop) (Q : Out → Env → Hp → Prop)
    (h : ∀ s, I s → post (fun o e H => (∃ s', I s' ∧ m s' < m s ∧ nx keep (E s') (Hh s') o e H) ∨ (o ≠ .norm ∧ Q o e H)) (evS c G iterX b ⟨(E s).keep keep, Hh s⟩)) :
    ∀ s, I s → post Q (loopK c G keep b ⟨E s, Hh s⟩) := by
 have key : ∀ n s, m s = n → I s → post Q (loopK c G keep b ⟨E s, Hh s⟩) := by
  intro n
  induction n using Nat.strongRecOn with
  | _ n ih =>
   intro s hm hi
   obtain ⟨o, e, H, hx, hq⟩ := post_get (h s hi)
   rcases hq with ⟨s', hi', hm', ho, hH, he⟩ | ⟨ho, hq⟩
   ·subst ho
    rw [loopK_norm hx, loopK_keep he, hH]
    exact ih (m s') (hm ▸ hm') s' rfl hi'
   ·rw [loopK_out hx ho]
    exact hq
 exact fun s => key (m s) s rfl
theorem loopN {keep : List Nat} {b : SC} (E : Nat → Env) (Hh : Nat → Hp) (n : Nat) (I : Nat → Prop) (Q : Out → Env → Hp → Prop) (h0 : I 0)
    (h : ∀ i, i < n → I i → post (fun o e H => (I (i + 1) ∧ nx keep (E (i + 1)) (Hh (i + 1)) o e H) ∨ (o ≠ .norm ∧ Q o e H)) (evS c G iterX b ⟨(E i).keep keep, Hh i⟩))
    (hn : I n → post (fun o e H => o ≠ .norm ∧ Q o e H) (evS c G iterX b ⟨(E n).keep keep, Hh n⟩)) :
    post Q (loopK c G keep b ⟨E 0, Hh 0⟩) := by
 refine loopW E Hh (fun i => n - i) (fun i => i ≤ n ∧ I i) Q ?_ 0 ⟨Nat.zero_le _, h0⟩
 rintro i ⟨hi, hI⟩
 rcases Nat.lt_or_ge i n with hlt | hge
 ·refine post_mono (h i hlt hI) ?_
  rintro o e H (⟨h1, h2⟩ | h1)
  ·exact .inl ⟨i + 1, ⟨hlt, h1⟩, by omega, h2⟩
  ·exact .inr h1
 ·have : i = n := by omega
  subst this
  exact post_mono (hn hI) fun o e H h => .inr h
theorem loopB {keep : List Nat} {b : SC} (E : Nat → Env) (H : Hp) (n : Nat) (P : Nat → Prop) (x : Nat) (Q R : Env → Prop)
    (h : ∀ i, i < n → (∀ j, j < i → P j) → P i → post (nx keep (E (i + 1)) H) (evS c G iterX b ⟨(E i).keep keep, H⟩))
    (hr : ∀ i, i < n → (∀ j, j < i → P j) → ¬ P i → post (fun o e H' => o = .ret ∧ H' = H ∧ R e) (evS c G iterX b ⟨(E i).keep keep, H⟩))
    (hn : post (fun o e H' => o = .exit x ∧ H' = H ∧ Q e) (evS c G iterX b ⟨(E n).keep keep, H⟩)) :
    (∃ e, loopK c G keep b ⟨E 0, H⟩ = some (.exit x, ⟨e, H⟩) ∧ Q e ∧ ∀ i, i < n → P i) ∨ (∃ e, loopK c G keep b ⟨E 0, H⟩ = some (.ret, ⟨e, H⟩) ∧ R e ∧ ¬ ∀ i, i < n → P i) := by
 have := loopN (c := c) (G := G) (keep := keep) (b := b) E (fun _ => H) n (fun i => ∀ j, j < i → P j) (fun o e H' => H' = H ∧ ((o = .exit x ∧ Q e ∧ ∀ i, i < n → P i) ∨ (o = .ret ∧ R e ∧ ¬ ∀ i, i < n → P i))) (fun j hj => by omega) ?_ ?_
 ·obtain ⟨o, e, H', hx, rfl, hq⟩ := post_get this
  rcases hq with ⟨rfl, h1, h2⟩ | ⟨rfl, h1, h2⟩
  ·exact .inl ⟨e, hx, h1, h2⟩
  ·exact .inr ⟨e, hx, h1, h2⟩
 ·intro i hi hI
  by_cases hp : P i
  ·refine post_mono (h i hi hI hp) fun o e H' hh => .inl ⟨fun j hj => ?_, hh⟩
   rcases Nat.lt_or_ge j i with h1 | h1
   ·exact hI j h1
   ·have : j = i := by omega
    exact this ▸ hp
  ·refine post_mono (hr i hi hI hp) fun o e H' hh => .inr ?_
   obtain ⟨rfl, rfl, h1⟩ := hh
   exact ⟨by simp, rfl, .inr ⟨rfl, h1, fun hh => hp (hh i hi)⟩⟩
 ·intro hI
  refine post_mono hn fun o e H' hh => ?_
  obtain ⟨rfl, rfl, h1⟩ := hh
  exact ⟨by simp, rfl, .inl ⟨rfl, h1, hI⟩⟩
theorem loopA {keep : List Nat} {b : SC} (E : Nat → Env) (H : Hp) (n : Nat) (P : Nat → Prop) (x : Nat) (Q R : Env → Prop)
    (h : ∀ i, i < n → P i → post (nx keep (E (i + 1)) H) (evS c G iterX b ⟨(E i).keep keep, H⟩))
    (hr : ∀ i, i < n → ¬ P i → post (fun o e H' => o = .ret ∧ H' = H ∧ R e) (evS c G iterX b ⟨(E i).keep keep, H⟩))
    (hn : post (fun o e H' => o = .exit x ∧ H' = H ∧ Q e) (evS c G iterX b ⟨(E n).keep keep, H⟩)) :
    (∃ e, loopK c G keep b ⟨E 0, H⟩ = some (.exit x, ⟨e, H⟩) ∧ Q e ∧ ∀ i, i < n → P i) ∨ (∃ e, loopK c G keep b ⟨E 0, H⟩ = some (.ret, ⟨e, H⟩) ∧ R e ∧ ¬ ∀ i, i < n → P i) :=
 loopB E H n P x Q R (fun i hi _ => h i hi) (fun i hi _ => hr i hi) hn
def fin (frz : Bool) (d : D) (H : Hp) (y : D) : Prop := ∃ d1, (if frz then (d.frz 0 H 8).ren (below 0) some else some d) = some d1 ∧ d1.ren (fun _ => none) (fun _ => none) = some y

@[simp] theorem fin_p (frz : Bool) (x y : PD) (H : Hp) : fin frz (.p x) H (.p y) ↔ x = y := by
 unfold fin
 cases frz
 ·simp [D.ren]
 ·simp [D.frz, D.ren]

@[simp] theorem fin_tsl (frz : Bool) (t e sz : Nat) (es : List PD) (H : Hp) (y : D) : fin frz (.tsl t e sz es) H y ↔ y = .p (.slice sz es) := by
 unfold fin
 cases frz
 ·simp [D.ren, eq_comm]
 ·simp [D.frz, D.ren, eq_comm]
theorem frz_p (k : Nat) (H : Hp) : ∀ (n : Nat) (x : PD), (D.p x).frz k H n = .p x
 | 0, _ => by unfold D.frz; rfl
 | n + 1, _ => by unfold D.frz; rfl
theorem fin_tup (frz : Bool) (xs : List PD) (H : Hp) : fin frz (.tup (xs.map .p)) H (.tup (xs.map .p)) := by
 have h1 : ∀ f g, (D.tup (xs.map .p)).ren f g = some (.tup (xs.map .p)) := fun f g => by simp [D.ren]
 unfold fin
 refine ⟨.tup (xs.map .p), ?_, h1 _ _⟩
 cases frz
 ·rfl
 ·have h2 : (D.tup (xs.map .p)).frz 0 H 8 = .tup (xs.map .p) := by
   unfold D.frz
   simp [frz_p]
  rw [if_pos rfl, h2, h1]

@[simp] theorem fin_tup2 (frz : Bool) (a b c d : PD) (H : Hp) : fin frz (.tup [.p a, .p b]) H (.tup [.p c, .p d]) ↔ a = c ∧ b = d := by
 constructor
 ·intro h
  obtain ⟨d1, h1, h2⟩ := h
  obtain ⟨d2, h3, h4⟩ := fin_tup frz [a, b] H
  have e : d1 = d2 := by
   rw [show [D.p a, D.p b] = [a, b].map D.p from rfl] at h1
   rw [h1] at h3
   cases h3; rfl
  subst e
  rw [h2] at h4
  simp at h4
  exact ⟨h4.1.symm, h4.2.symm⟩
 ·rintro ⟨rfl, rfl⟩
  exact fin_tup frz [a, b] H
theorem frz_tsl (k : Nat) (H : Hp) (t e sz : Nat) (es : List PD) : ∀ n : Nat, (D.tsl t e sz es).frz k H n = .tsl t e sz es
 | 0 => by unfold D.frz; rfl
 | n + 1 => by unfold D.frz; rfl
theorem fin_agg2 (frz : Bool) (a : PD) (t e sz : Nat) (es : List PD) (H : Hp) (y : D) : fin frz (.agg [.p a, .tsl t e sz es]) H y ↔ y = .agg [.p a, .p (.slice sz es)] := by
 have h1 : (D.agg [.p a, .tsl t e sz es]).frz 0 H 8 = .agg [.p a, .tsl t e sz es] := by
  unfold D.frz
  simp [frz_p, frz_tsl, mkAgg, pures]
 unfold fin
 rw [h1]
 constructor
 ·rintro ⟨d1, g1, g2⟩
  have : d1 = .agg [.p a, .tsl t e sz es] := by
   cases frz
   ·cases g1; rfl
   ·simp [D.ren, D.renL] at g1
    exact g1.symm
  subst this
  simp [D.ren, D.renL] at g2
  exact g2.symm
 ·rintro rfl
  refine ⟨.agg [.p a, .tsl t e sz es], ?_, by simp [D.ren, D.renL]⟩
  cases frz
  ·rfl
  ·simp [D.ren, D.renL]
def gives (frz : Bool) (res : List SRes) (y : D) : Out → Env → Hp → Prop := fun o e H => (o = .ret ∨ o = .norm) ∧ ∃ d, evRes pgL.G e H res = some d ∧ fin frz d H y
theorem callQ {f : Nat} {fc : FC} {aa : List D} {y : D} (hF : pgL.F f = some fc) (hlib : pgL.lib f aa ⟨[], []⟩ = none) (hn : aa.length = fc.np) (hd : fc.dfr = none) (hr : D.refsL aa = []) (ht : D.toksL aa = []) (ha : D.renL (idx []) (idx []) aa = some aa)
    (h : post (gives fc.frz fc.res y) (evS (call pgL) pgL.G iterX fc.body ⟨entry 0 aa, ⟨[], []⟩⟩)) :
    ∀ H, callD (call pgL) f aa H = some (.val y, H) := by
 intro H
 obtain ⟨o, e, H1, hx, ho, d, hr1, d1, h1, h2⟩ := post_get h
 have hfin : finish pgL.G fc.res (some (o, ⟨e, H1⟩)) = some (.val d, H1) := by
  rcases ho with rfl | rfl
  ·simp only [finish, hr1]
  ·simp only [finish, hr1]
 have hc : ∃ Hl, call pgL f aa ⟨[], []⟩ = some (.val d1, Hl) := by
  cases hz : fc.frz with
  | false =>
   rw [hz] at h1
   cases h1
   exact ⟨H1, call_runF hlib hF hn (by simp only [hz, closeF, runF, hd, hx, hfin]; rfl)⟩
  | true =>
   rw [hz, if_pos rfl] at h1
   exact ⟨⟨[], H1.tk⟩, call_runF hlib hF hn (by
    simp only [hz, closeF, runF, hd, hx, hfin, if_true, Option.map_some, sealF, List.length_nil, List.take_zero, mapO, Res.frz, Res.ren, h1, Nat.zero_le])⟩
 obtain ⟨Hl, hc⟩ := hc
 exact callD_pure hc hr ht ha h2
theorem callP {f : Nat} {fc : FC} {aa : List PD} {y : D} (hF : pgL.F f = some fc) (hlib : pgL.lib f (aa.map .p) ⟨[], []⟩ = none) (hn : aa.length = fc.np) (hd : fc.dfr = none)
    (h : post (gives fc.frz fc.res y) (evS (call pgL) pgL.G iterX fc.body ⟨entry 0 (aa.map .p), ⟨[], []⟩⟩)) :
    ∀ H, callD (call pgL) f (aa.map .p) H = some (.val y, H) :=
 callQ hF hlib (by simpa using hn) hd (refsL_p aa) (toksL_p aa) (renL_p _ _ aa) h
theorem get_ren (f g : Nat → Option Nat) : ∀ (e : Env) (s : Nat), Env.get (e.map fun y => (y.1, (y.2.ren f g).getD .dead)) s = ((e.get s).ren f g).getD .dead
 | [], s => by simp [Env.get, D.ren]
 | (t, d) :: e, s => by
  simp only [List.map_cons, Env.get]
  split
  ·rfl
  ·exact get_ren f g e s

end Go.Proofs.YtdnebeaeiimjlaaGreatDoor

namespace Go.Proofs.YtdnebeaeiimjlaaGreatDoor
open Go.Vs
set_option maxRecDepth 100000
theorem iaddr_box (n sz b o : Nat) (i : Int) : iaddrD (some n) sz (.box b o) i = if 0 ≤ i ∧ i < n then some (.box b (o + i.toNat * sz)) else none := rfl
theorem iaddr_ro (n sz : Nat) (cs : List PD) (o : Nat) (i : Int) : iaddrD (some n) sz (.ro cs o) i = if 0 ≤ i ∧ i < n then some (.ro cs (o + i.toNat * sz)) else none := rfl
attribute [local simp] evKC evK evGuard put Env.get Env.keep entry Opd.ev loadD storeD splice cutAt indexD D.asInt? D.asNat? u8 binD strBin unD boundsD sub minmaxD eqvL PD.eqv clsP cls clsR isCl isW apartRW offB apartWW clash insOk finish evRes evRes1 mapO D.refsL D.refs D.toksL D.toks mkAgg pures fillD fillE appendD srcD D.elems? D.asPD Int.toNat_natCast srcH srcBH eqD D.asPDL isMapC lenD_str lenD_nils lenD_sl lenD_fsl lenD_tsl iaddr_box iaddr_ro gives nx condK_if opsG_if drG_if Int.natCast_inj one_p locD below Out.ren D.ren D.renL get_ren fin_agg2 cells_of_one pcells_of_one cells_pagg pcells_agg cells_dagg cells_box cells_tsl cells_fsl cells_gsl cells_msl cells_fn cells_mapr cells_pint cells_pbool cells_pstr cells_pslice cells_pnils pcells_int pcells_bool pcells_str
def intsP (a : Sl Int) : PD := slP 1 (a.map (PD.int .i64))
theorem len_ints (a : Sl Int) : lenD 1 (.p (intsP a)) = some (els a).length := len_map 1 _ a
theorem ia_ints {a : Sl Int} {k : Nat} (h : k < (els a).length) : iaddrD none 1 (.p (intsP a)) (k : Int) = some (.ro [.int .i64 (els a)[k]] 0) := ia_map h
@[simp] theorem one_ints (a : Sl Int) : (D.p (intsP a)).one = true := one_slP 1 _
@[simp] theorem pone_ints (a : Sl Int) : (intsP a).one = true := pone_slP 1 _
structure Rl where
 ar : Int
 tu : Sl Int
def Rl.p (r : Rl) : PD := .agg [.int .i64 r.ar, intsP r.tu]
def relsP (s : Sl Rl) : PD := slP 2 (s.map Rl.p)
theorem len_rels (s : Sl Rl) : lenD 1 (.p (relsP s)) = some (els s).length := len_map 2 _ s
theorem ia_rels {s : Sl Rl} {k : Nat} (h : k < (els s).length) : iaddrD none 2 (.p (relsP s)) (k : Int) = some (.ro [.int .i64 (els s)[k].ar, intsP (els s)[k].tu] 0) := ia_map h
@[simp] theorem pone_rels (a : Sl Rl) : (relsP a).one = true := pone_slP 2 _
def statesP (s : Sl (Sl Rl)) : PD := slP 1 (s.map relsP)
theorem len_states (s : Sl (Sl Rl)) : lenD 1 (.p (statesP s)) = some (els s).length := len_map 1 _ s
theorem cells_rels (a : Sl Rl) : (relsP a).cells = [relsP a] := by
 unfold relsP
 cases a with
 | nil => rfl
 | amb => rfl
 | of l => cases l <;> rfl
theorem ia_states {s : Sl (Sl Rl)} {k : Nat} (h : k < (els s).length) : iaddrD none 1 (.p (statesP s)) (k : Int) = some (.ro [relsP (els s)[k]] 0) := by
 have := ia_map (sz := 1) (f := relsP) h
 rw [cells_rels] at this
 exact this
@[simp] theorem pone_states (a : Sl (Sl Rl)) : (statesP a).one = true := pone_slP 1 _
structure Fi where
 nm : List UInt8
 so : Sl Int
 va : Bool
def Fi.p (f : Fi) : PD := .agg [.str f.nm, intsP f.so, .bool f.va]
def fieldsP (s : Sl Fi) : PD := slP 3 (s.map Fi.p)
theorem len_fields (s : Sl Fi) : lenD 1 (.p (fieldsP s)) = some (els s).length := len_map 3 _ s
theorem ia_fields {s : Sl Fi} {k : Nat} (h : k < (els s).length) : iaddrD none 3 (.p (fieldsP s)) (k : Int) = some (.ro [.str (els s)[k].nm, intsP (els s)[k].so, .bool (els s)[k].va] 0) := ia_map h
@[simp] theorem pone_fields (a : Sl Fi) : (fieldsP a).one = true := pone_slP 3 _
structure Bn where
 lo : Rl
 up : Rl
def Bn.p (b : Bn) : PD := .agg [.int .i64 b.lo.ar, intsP b.lo.tu, .int .i64 b.up.ar, intsP b.up.tu]
def boundsP (s : Sl Bn) : PD := slP 4 (s.map Bn.p)
@[simp] theorem pone_bounds (a : Sl Bn) : (boundsP a).one = true := pone_slP 4 _
theorem ints_call (a b : Sl Int) (ha : (els a).length < 4611686018427387904) :
    ∃ r : Bool, (∀ H, callD (call pgL) 18 [.p (intsP a), .p (intsP b)] H = some (.val (.p (.bool r)), H)) ∧ (r = true ↔ els a = els b) := by
 have hb0 : bd wf18 0 = bd wf18 0 := rfl
 conv at hb0 => rhs; reduce
 have hf : wf18 = wf18 := rfl
 conv at hf => rhs; reduce
 rw [← hb0] at hf
 by_cases hl : (els a).length = (els b).length
 ·have key := loopA (c := call pgL) (G := pgL.G) (keep := [0, 1, 5]) (b := bd wf18 0) (fun i => [(0, .p (intsP a)), (1, .p (intsP b)), (5, .p (.int .i64 (i : Int)))]) ⟨[], []⟩ (els a).length
   (fun i => (els a)[i]? = (els b)[i]?) 0 (fun _ => True) (fun e => e.get 4 = .p (.bool false)) ?_ ?_ ?_
  ·rcases key with ⟨e, hx, -, hp⟩ | ⟨e, hx, hr, hp⟩
   ·refine ⟨true, callP (aa := [_, _]) hf rfl rfl rfl ?_, iff_of_true rfl ?_⟩
    ·simp [len_ints, hl] at hx ⊢
     simp [hx]
    ·refine List.ext_getElem? fun i => ?_
     rcases Nat.lt_or_ge i (els a).length with h | h
     ·exact hp i h
     ·rw [List.getElem?_eq_none h, List.getElem?_eq_none (hl ▸ h)]
   ·refine ⟨false, callP (aa := [_, _]) hf rfl rfl rfl ?_, iff_of_false (by simp) fun hh => hp fun i _ => by rw [hh]⟩
    simp [len_ints, hl] at hx ⊢
    simp [hx, hr]
  ·intro i hi hP
   rw [hb0]; clear hf hb0
   have hi2 : i < (els b).length := hl ▸ hi
   rw [List.getElem?_eq_getElem hi, List.getElem?_eq_getElem hi2, Option.some.injEq] at hP
   simp [len_ints, ia_ints hi, ia_ints hi2, hi, hP, inc64 (k := i) (by omega)]
  ·intro i hi hP
   rw [hb0]; clear hf hb0
   have hi2 : i < (els b).length := hl ▸ hi
   rw [List.getElem?_eq_getElem hi, List.getElem?_eq_getElem hi2, Option.some.injEq] at hP
   simp [len_ints, ia_ints hi, ia_ints hi2, hi, hP]
  ·rw [hb0]; clear hf hb0
   simp [len_ints]
 ·refine ⟨false, callP (aa := [_, _]) hf rfl rfl rfl ?_, iff_of_false (by simp) fun h => hl (by rw [h])⟩
  simp [len_ints, hl]

end Go.Proofs.YtdnebeaeiimjlaaGreatDoor
