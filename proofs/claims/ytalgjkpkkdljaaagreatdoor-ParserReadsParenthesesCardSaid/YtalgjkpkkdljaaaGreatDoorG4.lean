/-
  A value-level evaluator for Go functions; the functions of this cut by it; plain laws. Part 4 of 6.
-/
import Derived.Test.YtalgjkpkkdljaaaGreatDoorProg
import Derived.Test.YtalgjkpkkdljaaaGreatDoorG3
import Derived.KernelRfl
import Derived.Lib.ItoaNum
import Derived.Lib.Atoi
import Derived.Lib.IndexMore
import Derived.Lib.Bytealg
import Derived.Shelf.Strings.Shaped
import Derived.Shelf.Strings.Repeat
import Derived.Shelf.Strconv.Itoa3
import Derived.Shelf.Strconv.Atoi
import Derived.Shelf.Strconv.AtoiErr
import Derived.Shelf.Vars
import Derived.Lib.Builder
import Derived.WalkKit
import Derived.Laws.Externs
import Derived.Test.YtalgjkpkkdljaaaGreatDoorChecked
import Derived.Lib.AppendIntMem
import Derived.Lib.UnsafeStr
import Derived.Test.YtalgjkpkkdljaaaGreatDoorRows
import Derived.Lib.LaidTab
import Derived.ProofKit
import Derived.LaidMore
import Derived.Lay
import Derived.OpenShut
import Derived.Stop.Joined
namespace Go.Proofs.YtalgjkpkkdljaaaGreatDoor
open Go.Vs
def fc4 : FC where
 nt := 33
 np := 1
 res := [.t 2]
 body := (.seq (.region [1] [⟨some 1,.box (.t 0),none⟩,⟨some 2,.move (.c (.p (.bool false))),none⟩]) (.seq (.region [1,3] [⟨some 5,.call (.c (.fn 13 [] [])) [],none⟩,⟨some 3,.move (.t 5),none⟩]) (.seq (.seq (.region [1,3,19] [⟨some 6,.load (some 5) (.t 1),none⟩,⟨some 7,.call (.c (.fn 18 [] [])) [(.t 6)],none⟩,⟨some 8,.un .not (.t 7),none⟩,⟨some 9,.move (.t 8),none⟩,
  ⟨some 10,.load (some 5) (.t 1),some (9,false)⟩,⟨some 11,.call (.c (.fn 15 [] [])) [(.t 10)],some (9,false)⟩,⟨some 12,.un .not (.t 11),some (9,false)⟩,⟨some 13,.pick (.t 9) (.c (.p (.bool true))) (.t 12),none⟩,⟨some 14,.move (.t 13),none⟩,⟨some 15,.faddr (.t 1) 0,some (14,false)⟩,⟨some 16,.load none (.t 15),some (14,false)⟩,
  ⟨some 17,.call (.c (.fn 16 [] [])) [(.t 16)],some (14,false)⟩,⟨some 18,.bin .neq (.t 17) (.c (.p (.int .u8 102))),some (14,false)⟩,⟨some 19,.pick (.t 14) (.c (.p (.bool true))) (.t 18),none⟩]) (.cond (.t 19) (.seq (.region [2] [⟨some 20,.move (.t 3),none⟩,⟨some 2,.move (.t 20),none⟩]) .ret) .skip)) (.seq (.region [1,3,4] [⟨some 21,.load (some 5) (.t 1),none⟩,
  ⟨some 22,.call (.c (.fn 19 [] [])) [(.t 21)],none⟩,⟨some 4,.move (.t 22),none⟩]) (.seq (.seq (.region [1,3,4,25] [⟨some 23,.move (.t 4),none⟩,⟨some 24,.len 0 (.t 23),none⟩,⟨some 25,.bin .gtr (.t 24) (.c (.p (.int .i64 20000))),none⟩]) (.cond (.t 25) (.seq (.region [2] [⟨some 26,.move (.t 3),none⟩,⟨some 2,.move (.t 26),none⟩]) .ret) .skip)) (.seq (.region [2] [
  ⟨some 27,.move (.t 3),none⟩,⟨some 28,.move (.t 27),none⟩,⟨some 29,.move (.t 4),some (28,true)⟩,⟨some 30,.load (some 5) (.t 1),some (28,true)⟩,⟨some 31,.call (.c (.fn 20 [] [])) [(.t 29),(.t 30)],some (28,true)⟩,⟨some 32,.pick (.t 28) (.t 31) (.c (.p (.bool false))),none⟩,⟨some 2,.move (.t 32),none⟩]) .ret))))))
theorem ok4 : FOk Tryz.prog 4 fc4 := FOk.of Tryz.func4 (by kernel_rfl)
def fc9_b0 : SC :=
 (.loc (.seq (.seq (.region [1,2,5,6,25] [⟨some 21,.move (.t 6),none⟩,⟨some 22,.faddr (.t 2) 3,none⟩,⟨some 23,.load none (.t 22),none⟩,⟨some 24,.len 1 (.t 23),none⟩,⟨some 25,.bin .lss (.t 21) (.t 24),none⟩]) (.cond (.t 25) .skip (.exit 0))) (.seq (.block 1 (.seq (.region [1,2,5,6,34] [⟨some 28,.faddr (.t 2) 3,none⟩,⟨some 29,.load none (.t 28),none⟩,
 ⟨some 30,.move (.t 6),none⟩,⟨some 31,.iaddr none 5 (.t 29) (.t 30),none⟩,⟨some 32,.load (some 5) (.t 31),none⟩,⟨some 33,.call (.c (.fn 15 [] [])) [(.t 32)],none⟩,⟨some 34,.un .not (.t 33),none⟩]) (.cond (.t 34) (.seq (.region [4] [⟨some 4,.move (.c (.p (.bool false))),none⟩]) .ret) .skip))) (.region [1,2,5,6] [⟨some 26,.move (.t 6),none⟩,
 ⟨some 27,.bin .add (.t 26) (.c (.p (.int .i64 1))),none⟩,⟨some 6,.move (.t 27),none⟩]))))
def fc9 : FC where
 nt := 78
 np := 2
 res := [.t 4]
 body := (.seq (.region [1,2] [⟨some 2,.box (.t 0),none⟩,⟨some 4,.move (.c (.p (.bool false))),none⟩]) (.seq (.region [1,2,5] [⟨some 11,.call (.c (.fn 13 [] [])) [],none⟩,⟨some 5,.move (.t 11),none⟩]) (.seq (.seq (.region [1,2,5,19] [⟨some 12,.load (some 5) (.t 2),none⟩,⟨some 13,.call (.c (.fn 18 [] [])) [(.t 12)],none⟩,⟨some 14,.un .not (.t 13),none⟩,
  ⟨some 15,.move (.t 14),none⟩,⟨some 16,.load (some 5) (.t 2),some (15,false)⟩,⟨some 17,.call (.c (.fn 15 [] [])) [(.t 16)],some (15,false)⟩,⟨some 18,.un .not (.t 17),some (15,false)⟩,⟨some 19,.pick (.t 15) (.c (.p (.bool true))) (.t 18),none⟩]) (.cond (.t 19) (.seq (.region [4] [⟨some 20,.move (.t 5),none⟩,⟨some 4,.move (.t 20),none⟩]) .ret) .skip)) (.seq (.seq
  (.region [1,2,5,6] [⟨some 6,.move (.c (.p (.int .i64 0))),none⟩]) (.block 0 (.loop [1,2,5,6] fc9_b0))) (.seq (.region [1,2,5,7] [⟨some 35,.load (some 5) (.t 2),none⟩,⟨some 7,.alloc [.int .i64 0,.str [],.int .i64 0,.nils,.int .i64 0],none⟩,⟨none,.store 5 (.t 7) (.t 35),none⟩]) (.seq (.loc (.region [1,2,5,7] [
  ⟨some 36,.bslice 39 5 0 (.agg [.int .i64 0,.str [],.int .i64 0,.nils,.int .i64 0]) [],none⟩,⟨some 37,.faddr (.t 2) 3,none⟩,⟨some 38,.load none (.t 37),none⟩,⟨some 39,.append 39 5 64 (.t 36) (.t 38),none⟩,⟨some 40,.call (.c (.fn 22 [] [])) [(.c (.p (.str [97])))],none⟩,⟨some 41,.call (.c (.fn 21 [] [])) [(.c (.p (.int .i64 35))),(.t 40)],none⟩,
  ⟨some 42,.bslice 39 5 1 (.agg [.int .i64 0,.str [],.int .i64 0,.nils,.int .i64 0]) [(0,(.t 41))],none⟩,⟨some 43,.append 39 5 64 (.t 39) (.t 42),none⟩,⟨some 44,.faddr (.t 7) 3,none⟩,⟨none,.store 1 (.t 44) (.t 43),none⟩])) (.seq (.region [1,2,5,7,8] [⟨some 45,.load (some 5) (.t 2),none⟩,⟨some 8,.alloc [.int .i64 0,.str [],.int .i64 0,.nils,.int .i64 0],none⟩,
  ⟨none,.store 5 (.t 8) (.t 45),none⟩]) (.seq (.region [2,5,7,8] [⟨some 46,.move (.t 1),none⟩,⟨some 47,.conv .i64 (.t 46),none⟩,⟨some 48,.bin .add (.c (.p (.int .i64 52))) (.t 47),none⟩,⟨some 49,.faddr (.t 8) 0,none⟩,⟨none,.store 1 (.t 49) (.t 48),none⟩]) (.seq (.region [2,5,7,8,9] [⟨some 50,.load (some 5) (.t 2),none⟩,
  ⟨some 9,.alloc [.int .i64 0,.str [],.int .i64 0,.nils,.int .i64 0],none⟩,⟨none,.store 5 (.t 9) (.t 50),none⟩]) (.seq (.region [2,5,7,8,9] [⟨some 51,.faddr (.t 2) 1,none⟩,⟨some 52,.load none (.t 51),none⟩,⟨some 53,.bin .add (.t 52) (.c (.p (.str [33]))),none⟩,⟨some 54,.faddr (.t 9) 1,none⟩,⟨none,.store 1 (.t 54) (.t 53),none⟩]) (.seq (.region [5,7,8,9,10] [
  ⟨some 55,.load (some 5) (.t 2),none⟩,⟨some 10,.alloc [.int .i64 0,.str [],.int .i64 0,.nils,.int .i64 0],none⟩,⟨none,.store 5 (.t 10) (.t 55),none⟩]) (.seq (.region [5,7,8,9,10] [⟨some 56,.faddr (.t 10) 2,none⟩,⟨none,.store 1 (.t 56) (.c (.p (.int .i64 1000))),none⟩]) (.seq (.region [4] [⟨some 57,.move (.t 5),none⟩,⟨some 58,.move (.t 57),none⟩,
  ⟨some 59,.load (some 5) (.t 7),some (58,true)⟩,⟨some 60,.call (.c (.fn 15 [] [])) [(.t 59)],some (58,true)⟩,⟨some 61,.un .not (.t 60),some (58,true)⟩,⟨some 62,.pick (.t 58) (.t 61) (.c (.p (.bool false))),none⟩,⟨some 63,.move (.t 62),none⟩,⟨some 64,.load (some 5) (.t 8),some (63,true)⟩,⟨some 65,.call (.c (.fn 15 [] [])) [(.t 64)],some (63,true)⟩,
  ⟨some 66,.un .not (.t 65),some (63,true)⟩,⟨some 67,.pick (.t 63) (.t 66) (.c (.p (.bool false))),none⟩,⟨some 68,.move (.t 67),none⟩,⟨some 69,.load (some 5) (.t 9),some (68,true)⟩,⟨some 70,.call (.c (.fn 15 [] [])) [(.t 69)],some (68,true)⟩,⟨some 71,.un .not (.t 70),some (68,true)⟩,⟨some 72,.pick (.t 68) (.t 71) (.c (.p (.bool false))),none⟩,
  ⟨some 73,.move (.t 72),none⟩,⟨some 74,.load (some 5) (.t 10),some (73,true)⟩,⟨some 75,.call (.c (.fn 15 [] [])) [(.t 74)],some (73,true)⟩,⟨some 76,.un .not (.t 75),some (73,true)⟩,⟨some 77,.pick (.t 73) (.t 76) (.c (.p (.bool false))),none⟩,⟨some 4,.move (.t 77),none⟩]) .ret)))))))))))))
theorem ok9 : FOk Tryz.prog 9 fc9 := FOk.of Tryz.func9 (by kernel_rfl)
def fc13 : FC where
 nt := 162
 np := 0
 res := [.t 0]
 body := (.seq (.region [] [⟨some 0,.move (.c (.p (.bool false))),none⟩]) (.seq (.region [1,2,3] [⟨some 15,.call (.c (.fn 22 [] [])) [(.c (.p (.str [97])))],none⟩,⟨some 16,.call (.c (.fn 22 [] [])) [(.c (.p (.str [98])))],none⟩,⟨some 17,.call (.c (.fn 22 [] [])) [(.c (.p (.str [99])))],none⟩,⟨some 1,.alloc [.int .i64 0,.str [],.int .i64 0,.nils,.int .i64 0],none⟩,
  ⟨some 2,.alloc [.int .i64 0,.str [],.int .i64 0,.nils,.int .i64 0],none⟩,⟨some 3,.alloc [.int .i64 0,.str [],.int .i64 0,.nils,.int .i64 0],none⟩,⟨none,.store 5 (.t 1) (.t 15),none⟩,⟨none,.store 5 (.t 2) (.t 16),none⟩,⟨none,.store 5 (.t 3) (.t 17),none⟩]) (.seq (.region [1,2,3,4] [
  ⟨some 18,.build [.int .i64 0,.str [],.int .i64 0,.nils,.int .i64 0] [(0,1,(.c (.p (.int .i64 20)))),(2,1,(.c (.p (.int .i64 1))))],none⟩,⟨some 4,.alloc [.int .i64 0,.str [],.int .i64 0,.nils,.int .i64 0],none⟩,⟨none,.store 5 (.t 4) (.t 18),none⟩]) (.seq (.draw [1,2,4,5] [(0,1),(0,2),(1,2),(0,3)] [⟨some 19,.load (some 5) (.t 1),none⟩,
  ⟨some 20,.load (some 5) (.t 2),none⟩,⟨some 21,.load (some 5) (.t 3),none⟩,⟨some 22,.call (.c (.fn 25 [] [])) [(.c (.p (.int .i64 9))),(.t 20),(.t 21)],none⟩,⟨some 23,.call (.c (.fn 25 [] [])) [(.c (.p (.int .i64 7))),(.t 19),(.t 22)],none⟩,⟨some 24,.call (.c (.fn 21 [] [])) [(.c (.p (.int .i64 35))),(.t 23)],none⟩,
  ⟨some 25,.call (.c (.fn 20 [] [])) [(.c (.p (.str [110,111,32,97,32,38,32,98,46,99]))),(.t 24)],none⟩,⟨some 5,.move (.t 25),none⟩]) (.seq (.draw [1,2,4,5,6] [(0,1),(0,4),(1,4),(2,4),(3,4)] [⟨some 26,.load (some 5) (.t 1),none⟩,⟨some 27,.load (some 5) (.t 2),none⟩,⟨some 28,.call (.c (.fn 25 [] [])) [(.c (.p (.int .i64 9))),(.t 26),(.t 27)],none⟩,
  ⟨some 29,.call (.c (.fn 21 [] [])) [(.c (.p (.int .i64 21))),(.t 28)],none⟩,⟨some 30,.load (some 5) (.t 4),none⟩,⟨some 31,.call (.c (.fn 25 [] [])) [(.c (.p (.int .i64 22))),(.t 29),(.t 30)],none⟩,⟨some 32,.build [.int .i64 0,.str [],.int .i64 0,.nils,.int .i64 0] [(0,1,(.c (.p (.int .i64 20)))),(2,1,(.c (.p (.int .i64 3))))],none⟩,
  ⟨some 33,.call (.c (.fn 25 [] [])) [(.c (.p (.int .i64 39))),(.t 31),(.t 32)],none⟩,⟨some 34,.call (.c (.fn 20 [] [])) [(.c (.p (.str [35,97,46,98,32,43,32,49,32,60,32,51]))),(.t 33)],none⟩,⟨some 6,.move (.t 34),none⟩]) (.seq (.draw [1,4,5,6,7] [(0,1),(0,2),(1,2),(0,3),(0,4),(0,5),(1,5),(2,5),(3,5),(4,5),(0,6),(0,7),(0,8)] [
  ⟨some 35,.load (some 5) (.t 1),none⟩,⟨some 36,.call (.c (.fn 22 [] [])) [(.c (.p (.str [120])))],none⟩,⟨some 37,.load (some 5) (.t 2),none⟩,⟨some 38,.call (.c (.fn 25 [] [])) [(.c (.p (.int .i64 32))),(.t 36),(.t 37)],none⟩,⟨some 39,.call (.c (.fn 22 [] [])) [(.c (.p (.str [120])))],none⟩,⟨some 40,.load (some 5) (.t 2),none⟩,
  ⟨some 41,.call (.c (.fn 25 [] [])) [(.c (.p (.int .i64 9))),(.t 39),(.t 40)],none⟩,⟨some 42,.call (.c (.fn 21 [] [])) [(.c (.p (.int .i64 35))),(.t 41)],none⟩,⟨some 43,.call (.c (.fn 25 [] [])) [(.c (.p (.int .i64 43))),(.t 38),(.t 42)],none⟩,⟨some 44,.bslice 39 5 2 (.agg [.int .i64 0,.str [],.int .i64 0,.nils,.int .i64 0]) [(0,(.t 35)),(1,(.t 43))],none⟩,
  ⟨some 45,.build [.int .i64 0,.str [],.int .i64 0,.nils,.int .i64 0] [(0,1,(.c (.p (.int .i64 45)))),(1,1,(.c (.p (.str [120])))),(3,1,(.t 44))],none⟩,⟨some 46,.call (.c (.fn 20 [] [])) [(.c (.p (.str [97,108,108,32,120,58,32,97,32,124,32,120,32,105,110,32,98,32,61,62,32,110,111,32,120,46,98]))),(.t 45)],none⟩,⟨some 7,.move (.t 46),none⟩]) (.seq
  (.region [1,4,5,6,7,8] [⟨some 47,.call (.c (.fn 39 [] [])) [(.c (.p (.str [97,32,61,32,35,98]))),(.c (.p (.int .i64 43))),(.c (.p (.int .i64 2)))],none⟩,⟨some 48,.move (.t 47),none⟩,⟨some 49,.call (.c (.fn 39 [] [])) [(.c (.p (.str [97,32,61,32,98,32,61,32,99]))),(.c (.p (.int .i64 20))),(.c (.p (.int .i64 6)))],some (48,true)⟩,
  ⟨some 50,.pick (.t 48) (.t 49) (.c (.p (.bool false))),none⟩,⟨some 51,.move (.t 50),none⟩,⟨some 52,.call (.c (.fn 39 [] [])) [(.c (.p (.str [110,111]))),(.c (.p (.int .i64 21))),(.c (.p (.int .i64 2)))],some (51,true)⟩,⟨some 53,.pick (.t 51) (.t 52) (.c (.p (.bool false))),none⟩,⟨some 54,.move (.t 53),none⟩,
  ⟨some 55,.call (.c (.fn 39 [] [])) [(.c (.p (.str [97]))),(.c (.p (.int .i64 43))),(.c (.p (.int .i64 0)))],some (54,true)⟩,⟨some 56,.pick (.t 54) (.t 55) (.c (.p (.bool false))),none⟩,⟨some 57,.move (.t 56),none⟩,⟨some 58,.call (.c (.fn 39 [] [])) [(.c (.p (.str [49,32,60,32,54,53]))),(.c (.p (.int .i64 2))),(.c (.p (.int .i64 4)))],some (57,true)⟩,
  ⟨some 59,.pick (.t 57) (.t 58) (.c (.p (.bool false))),none⟩,⟨some 8,.move (.t 59),none⟩]) (.seq (.region [1,4,5,6,7,8,9,10] [
  ⟨some 61,.call (.c (.fn 14 [] [])) [(.c (.p (.str [115,111,114,116,32,65,32,111,114,100,101,114,101,100,59,32,118,97,114,32,102,105,101,108,100,32,102,58,32,65,32,45,62,32,65,59,32,112,114,101,100,32,112,91,120,58,32,65,93,32,123,32,115,111,109,101,32,120,46,102,32,125,32,102,97,99,116,32,113,32,123,32,112,91,65,93,32,124,124,32,116,114,117,101,32,125])))],none⟩,
  ⟨some 60,.move (.t 61),none⟩,⟨some 62,.extract (.t 60) 0,none⟩,⟨some 63,.extract (.t 60) 1,none⟩,⟨some 9,.alloc [.nils,.nils,.nils,.nils],none⟩,⟨none,.store 4 (.t 9) (.t 62),none⟩,⟨some 10,.move (.t 63),none⟩]) (.seq (.region [1,4,5,6,7,8,9,10,12] [
  ⟨some 65,.call (.c (.fn 14 [] [])) [(.c (.p (.str [115,111,114,116,32,65,59,32,102,105,101,108,100,32,102,58,32,66,59,32,115,111,114,116,32,59])))],none⟩,⟨some 64,.move (.t 65),none⟩,⟨some 66,.extract (.t 64) 0,none⟩,⟨some 67,.extract (.t 64) 1,none⟩,⟨some 11,.alloc [.nils,.nils,.nils,.nils],none⟩,⟨none,.store 4 (.t 11) (.t 66),none⟩,
  ⟨some 12,.move (.t 67),none⟩]) (.seq (.seq (.region [1,4,5,6,7,8,9,12,103] [⟨some 68,.move (.t 10),none⟩,⟨some 69,.len 1 (.t 68),none⟩,⟨some 70,.bin .gtr (.t 69) (.c (.p (.int .i64 0))),none⟩,⟨some 71,.move (.t 70),none⟩,⟨some 72,.faddr (.t 9) 0,some (71,false)⟩,⟨some 73,.load none (.t 72),some (71,false)⟩,⟨some 74,.len 1 (.t 73),some (71,false)⟩,
  ⟨some 75,.bin .neq (.t 74) (.c (.p (.int .i64 1))),some (71,false)⟩,⟨some 76,.pick (.t 71) (.c (.p (.bool true))) (.t 75),none⟩,⟨some 77,.move (.t 76),none⟩,⟨some 78,.faddr (.t 9) 1,some (77,false)⟩,⟨some 79,.load none (.t 78),some (77,false)⟩,⟨some 80,.len 1 (.t 79),some (77,false)⟩,⟨some 81,.bin .neq (.t 80) (.c (.p (.int .i64 1))),some (77,false)⟩,
  ⟨some 82,.pick (.t 77) (.c (.p (.bool true))) (.t 81),none⟩,⟨some 83,.move (.t 82),none⟩,⟨some 84,.faddr (.t 9) 2,some (83,false)⟩,⟨some 85,.load none (.t 84),some (83,false)⟩,⟨some 86,.len 1 (.t 85),some (83,false)⟩,⟨some 87,.bin .neq (.t 86) (.c (.p (.int .i64 1))),some (83,false)⟩,⟨some 88,.pick (.t 83) (.c (.p (.bool true))) (.t 87),none⟩,
  ⟨some 89,.move (.t 88),none⟩,⟨some 90,.faddr (.t 9) 3,some (89,false)⟩,⟨some 91,.load none (.t 90),some (89,false)⟩,⟨some 92,.len 1 (.t 91),some (89,false)⟩,⟨some 93,.bin .neq (.t 92) (.c (.p (.int .i64 1))),some (89,false)⟩,⟨some 94,.pick (.t 89) (.c (.p (.bool true))) (.t 93),none⟩,⟨some 95,.move (.t 94),none⟩,⟨some 96,.faddr (.t 9) 1,some (95,false)⟩,
  ⟨some 97,.load none (.t 96),some (95,false)⟩,⟨some 98,.iaddr none 3 (.t 97) (.c (.p (.int .i64 0))),some (95,false)⟩,⟨some 99,.faddr (.t 98) 1,some (95,false)⟩,⟨some 100,.load none (.t 99),some (95,false)⟩,⟨some 101,.len 1 (.t 100),some (95,false)⟩,⟨some 102,.bin .neq (.t 101) (.c (.p (.int .i64 2))),some (95,false)⟩,
  ⟨some 103,.pick (.t 95) (.c (.p (.bool true))) (.t 102),none⟩]) (.cond (.t 103) (.seq (.region [0] [⟨some 0,.move (.c (.p (.bool false))),none⟩]) .ret) .skip)) (.seq (.region [1,4,5,6,7,8,12,13] [⟨some 104,.faddr (.t 9) 0,none⟩,⟨some 105,.load none (.t 104),none⟩,⟨some 106,.iaddr none 2 (.t 105) (.c (.p (.int .i64 0))),none⟩,⟨some 107,.load (some 2) (.t 106),none⟩,
  ⟨some 108,.build [.str [],.bool false] [(0,1,(.c (.p (.str [65])))),(1,1,(.c (.p (.bool true))))],none⟩,⟨some 109,.eqs false [2,0] (.t 107) (.t 108),none⟩,⟨some 110,.move (.t 109),none⟩,⟨some 111,.faddr (.t 9) 1,some (110,true)⟩,⟨some 112,.load none (.t 111),some (110,true)⟩,⟨some 113,.iaddr none 3 (.t 112) (.c (.p (.int .i64 0))),some (110,true)⟩,
  ⟨some 114,.faddr (.t 113) 2,some (110,true)⟩,⟨some 115,.load none (.t 114),some (110,true)⟩,⟨some 116,.pick (.t 110) (.t 115) (.c (.p (.bool false))),none⟩,⟨some 117,.move (.t 116),none⟩,⟨some 118,.faddr (.t 9) 3,some (117,true)⟩,⟨some 119,.load none (.t 118),some (117,true)⟩,⟨some 120,.iaddr none 6 (.t 119) (.c (.p (.int .i64 0))),some (117,true)⟩,
  ⟨some 121,.faddr (.t 120) 1,some (117,true)⟩,⟨some 122,.faddr (.t 121) 0,some (117,true)⟩,⟨some 123,.load none (.t 122),some (117,true)⟩,⟨some 124,.bin .eql (.t 123) (.c (.p (.int .i64 42))),some (117,true)⟩,⟨some 125,.pick (.t 117) (.t 124) (.c (.p (.bool false))),none⟩,⟨some 13,.move (.t 125),none⟩]) (.seq (.region [1,4,5,6,7,8,13,14] [
  ⟨some 126,.move (.t 12),none⟩,⟨some 127,.build [.int .i64 0,.int .i64 0] [(0,1,(.c (.p (.int .i64 40)))),(1,1,(.c (.p (.int .i64 17))))],none⟩,⟨some 128,.build [.int .i64 0,.int .i64 0] [(0,1,(.c (.p (.int .i64 20)))),(1,1,(.c (.p (.int .i64 25))))],none⟩,⟨some 129,.bslice 34 2 2 (.agg [.int .i64 0,.int .i64 0]) [(0,(.t 127)),(1,(.t 128))],none⟩,
  ⟨some 130,.call (.c (.fn 40 [] [])) [(.t 126),(.t 129)],none⟩,⟨some 14,.move (.t 130),none⟩]) (.seq (.region [0] [⟨some 131,.move (.t 5),none⟩,⟨some 132,.move (.t 131),none⟩,⟨some 133,.move (.t 6),some (132,true)⟩,⟨some 134,.pick (.t 132) (.t 133) (.c (.p (.bool false))),none⟩,⟨some 135,.move (.t 134),none⟩,⟨some 136,.move (.t 7),some (135,true)⟩,
  ⟨some 137,.pick (.t 135) (.t 136) (.c (.p (.bool false))),none⟩,⟨some 138,.move (.t 137),none⟩,⟨some 139,.move (.t 8),some (138,true)⟩,⟨some 140,.pick (.t 138) (.t 139) (.c (.p (.bool false))),none⟩,⟨some 141,.move (.t 140),none⟩,⟨some 142,.move (.t 13),some (141,true)⟩,⟨some 143,.pick (.t 141) (.t 142) (.c (.p (.bool false))),none⟩,⟨some 144,.move (.t 143),none⟩,
  ⟨some 145,.move (.t 14),some (144,true)⟩,⟨some 146,.pick (.t 144) (.t 145) (.c (.p (.bool false))),none⟩,⟨some 147,.move (.t 146),none⟩,⟨some 148,.load (some 5) (.t 1),some (147,true)⟩,⟨some 149,.call (.c (.fn 15 [] [])) [(.t 148)],some (147,true)⟩,⟨some 150,.pick (.t 147) (.t 149) (.c (.p (.bool false))),none⟩,⟨some 151,.move (.t 150),none⟩,
  ⟨some 152,.load (some 5) (.t 4),some (151,true)⟩,⟨some 153,.call (.c (.fn 21 [] [])) [(.c (.p (.int .i64 35))),(.t 152)],some (151,true)⟩,⟨some 154,.call (.c (.fn 15 [] [])) [(.t 153)],some (151,true)⟩,⟨some 155,.un .not (.t 154),some (151,true)⟩,⟨some 156,.pick (.t 151) (.t 155) (.c (.p (.bool false))),none⟩,⟨some 157,.move (.t 156),none⟩,
  ⟨some 158,.call (.c (.fn 22 [] [])) [(.c (.p (.str [110,111])))],some (157,true)⟩,⟨some 159,.call (.c (.fn 15 [] [])) [(.t 158)],some (157,true)⟩,⟨some 160,.un .not (.t 159),some (157,true)⟩,⟨some 161,.pick (.t 157) (.t 160) (.c (.p (.bool false))),none⟩,⟨some 0,.move (.t 161),none⟩]) .ret)))))))))))))
theorem ok13 : FOk Tryz.prog 13 fc13 := FOk.of Tryz.func13 (by kernel_rfl)
def fc14_b0 : SC :=
 (.loc (.seq (.seq (.draw [2,4,6,36] [(3,7)] [⟨some 19,.move (.t 4),none⟩,⟨some 20,.nilCheck (.t 19),none⟩,⟨some 21,.faddr (.t 20) 1,none⟩,⟨some 22,.load none (.t 21),none⟩,⟨some 23,.move (.t 4),none⟩,⟨some 24,.nilCheck (.t 23),none⟩,⟨some 25,.faddr (.t 24) 0,none⟩,⟨some 26,.load none (.t 25),none⟩,⟨some 27,.len 1 (.t 26),none⟩,
 ⟨some 28,.bin .lss (.t 22) (.t 27),none⟩,⟨some 29,.move (.t 28),none⟩,⟨some 30,.move (.t 4),some (29,true)⟩,⟨some 31,.nilCheck (.t 30),some (29,true)⟩,⟨some 32,.faddr (.t 31) 7,some (29,true)⟩,⟨some 33,.load none (.t 32),some (29,true)⟩,⟨some 34,.len 1 (.t 33),some (29,true)⟩,⟨some 35,.bin .lss (.t 34) (.c (.p (.int .i64 20))),some (29,true)⟩,
 ⟨some 36,.pick (.t 29) (.t 35) (.c (.p (.bool false))),none⟩]) (.cond (.t 36) .skip (.exit 0))) (.block 1 (.seq (.region [2,4,6,40] [⟨some 37,.move (.t 4),none⟩,⟨some 38,.move (.t 6),none⟩,⟨some 39,.call (.c (.fn 43 [] [])) [(.t 37),(.t 38)],none⟩,⟨some 40,.un .not (.t 39),none⟩]) (.cond (.t 40) (.seq (.seq (.draw [2,4,6,54] [(3,7)] [⟨some 41,.move (.t 4),none⟩,
 ⟨some 42,.nilCheck (.t 41),none⟩,⟨some 43,.faddr (.t 42) 7,none⟩,⟨some 44,.load none (.t 43),none⟩,⟨some 45,.move (.t 4),none⟩,⟨some 46,.nilCheck (.t 45),none⟩,⟨some 47,.faddr (.t 46) 7,none⟩,⟨some 48,.load none (.t 47),none⟩,⟨some 49,.len 1 (.t 48),none⟩,⟨some 50,.bin .sub (.t 49) (.c (.p (.int .i64 1))),none⟩,⟨some 51,.iaddr none 2 (.t 44) (.t 50),none⟩,
 ⟨some 52,.faddr (.t 51) 0,none⟩,⟨some 53,.load none (.t 52),none⟩,⟨some 54,.bin .eql (.t 53) (.c (.p (.int .i64 21))),none⟩]) (.cond (.t 54) (.exit 0) .skip)) (.region [2,4,6] [⟨some 55,.move (.t 4),none⟩,⟨some 56,.call (.c (.fn 44 [] [])) [(.t 55)],none⟩])) .skip)))))
def fc14 : FC where
 nt := 72
 np := 1
 res := [.cell 2 (some 4), .t 3]
 body := (.seq (.region [0,2] [⟨some 2,.alloc [.nils,.nils,.nils,.nils],none⟩,⟨some 3,.move (.c (.p (.nils))),none⟩]) (.seq (.region [2,4,5] [⟨some 8,.move (.t 0),none⟩,⟨some 9,.call (.c (.fn 41 [] [])) [(.t 8)],none⟩,⟨some 7,.move (.t 9),none⟩,⟨some 10,.extract (.t 7) 0,none⟩,⟨some 11,.extract (.t 7) 1,none⟩,⟨some 4,.move (.t 10),none⟩,⟨some 5,.move (.t 11),none⟩])
  (.seq (.tokb 4 7 34 2) (.seq (.tokb 4 8 81 2) (.seq (.tokb 4 9 70 3) (.seq (.tokb 4 10 41 7) (.seq (.tokb 4 11 44 6) (.seq (.seq (.region [2,4,5,14] [⟨some 12,.move (.t 5),none⟩,⟨some 13,.len 1 (.t 12),none⟩,⟨some 14,.bin .gtr (.t 13) (.c (.p (.int .i64 0))),none⟩]) (.cond (.t 14) (.seq (.region [2,3] [⟨some 15,.build [.nils,.nils,.nils,.nils] [],none⟩,
  ⟨some 16,.move (.t 5),none⟩,⟨none,.store 4 (.t 2) (.t 15),none⟩,⟨some 3,.move (.t 16),none⟩]) .ret) .skip)) (.seq (.region [2,4,6] [⟨some 17,.move (.t 4),none⟩,⟨some 18,.mkfn 42 [(.t 17)] [],none⟩,⟨some 6,.move (.t 18),none⟩]) (.seq (.block 0 (.loop [2,4,6] fc14_b0)) (.seq (.seq (.region [2,4,62] [⟨some 57,.move (.t 4),none⟩,⟨some 58,.nilCheck (.t 57),none⟩,
  ⟨some 59,.faddr (.t 58) 7,none⟩,⟨some 60,.load none (.t 59),none⟩,⟨some 61,.len 1 (.t 60),none⟩,⟨some 62,.bin .gtr (.t 61) (.c (.p (.int .i64 0))),none⟩]) (.cond (.t 62) (.seq (.draw [2,3] [(4,5)] [⟨some 63,.build [.nils,.nils,.nils,.nils] [],none⟩,⟨some 64,.move (.t 4),none⟩,⟨some 65,.nilCheck (.t 64),none⟩,⟨some 66,.faddr (.t 65) 7,none⟩,
  ⟨some 67,.load none (.t 66),none⟩,⟨none,.store 4 (.t 2) (.t 63),none⟩,⟨some 3,.move (.t 67),none⟩]) .ret) .skip)) (.seq (.region [2,3] [⟨some 68,.move (.t 4),none⟩,⟨some 69,.nilCheck (.t 68),none⟩,⟨some 70,.faddr (.t 69) 8,none⟩,⟨some 71,.load (some 4) (.t 70),none⟩,⟨none,.store 4 (.t 2) (.t 71),none⟩,⟨some 3,.move (.c (.p (.nils))),none⟩]) .ret))))))))))))
 frz := true
theorem ok14 : FOk Tryz.prog 14 fc14 := FOk.of Tryz.func14 (by kernel_rfl)
def fc15 : FC where
 nt := 12
 np := 1
 res := [.t 2]
 body := (.seq (.region [1] [⟨some 1,.box (.t 0),none⟩,⟨some 2,.move (.c (.p (.bool false))),none⟩]) (.seq (.draw [4] [(0,1)] [⟨some 6,.call (.c (.fn 46 [] [])) [],none⟩,⟨some 7,.load (some 5) (.t 1),none⟩,⟨some 8,.call (.c (.fn 45 [] [])) [(.t 6),(.t 7),(.c (.p (.int .i64 1))),(.c (.p (.int .i64 400)))],none⟩,⟨some 5,.move (.t 8),none⟩,⟨some 9,.extract (.t 5) 0,none⟩,
  ⟨some 10,.extract (.t 5) 1,none⟩,⟨some 3,.move (.t 9),none⟩,⟨some 4,.move (.t 10),none⟩]) (.seq (.region [2] [⟨some 11,.move (.t 4),none⟩,⟨some 2,.move (.t 11),none⟩]) .ret)))
theorem ok15 : FOk Tryz.prog 15 fc15 := FOk.of Tryz.func15 (by kernel_rfl)
def fc16 : FC where
 nt := 21
 np := 1
 res := [.t 2]
 body := (.seq (.region [0] [⟨some 2,.move (.c (.p (.int .u8 0))),none⟩]) (.seq (.seq (.region [0,8] [⟨some 3,.move (.t 0),none⟩,⟨some 4,.bin .geq (.t 3) (.c (.p (.int .i64 1))),none⟩,⟨some 5,.move (.t 4),none⟩,⟨some 6,.move (.t 0),some (5,true)⟩,⟨some 7,.bin .leq (.t 6) (.c (.p (.int .i64 15))),some (5,true)⟩,⟨some 8,.pick (.t 5) (.t 7) (.c (.p (.bool false))),none⟩])
  (.cond (.t 8) (.seq (.region [2] [⟨some 2,.move (.c (.p (.int .u8 101))),none⟩]) .ret) .skip)) (.seq (.seq (.region [0,14] [⟨some 9,.move (.t 0),none⟩,⟨some 10,.bin .geq (.t 9) (.c (.p (.int .i64 20))),none⟩,⟨some 11,.move (.t 10),none⟩,⟨some 12,.move (.t 0),some (11,true)⟩,⟨some 13,.bin .leq (.t 12) (.c (.p (.int .i64 23))),some (11,true)⟩,
  ⟨some 14,.pick (.t 11) (.t 13) (.c (.p (.bool false))),none⟩]) (.cond (.t 14) (.seq (.region [2] [⟨some 2,.move (.c (.p (.int .u8 105))),none⟩]) .ret) .skip)) (.seq (.seq (.region [20] [⟨some 15,.move (.t 0),none⟩,⟨some 16,.bin .geq (.t 15) (.c (.p (.int .i64 30))),none⟩,⟨some 17,.move (.t 16),none⟩,⟨some 18,.move (.t 0),some (17,true)⟩,
  ⟨some 19,.bin .leq (.t 18) (.c (.p (.int .i64 51))),some (17,true)⟩,⟨some 20,.pick (.t 17) (.t 19) (.c (.p (.bool false))),none⟩]) (.cond (.t 20) (.seq (.region [2] [⟨some 2,.move (.c (.p (.int .u8 102))),none⟩]) .ret) .skip)) (.seq (.region [2] [⟨some 2,.move (.c (.p (.int .u8 0))),none⟩]) .ret)))))
theorem ok16 : FOk Tryz.prog 16 fc16 := FOk.of Tryz.func16 (by kernel_rfl)
def fc17 : FC where
 nt := 27
 np := 1
 res := [.cell 2 (some 5), .t 3]
 body := (.seq (.region [0,2] [⟨some 2,.alloc [.int .i64 0,.str [],.int .i64 0,.nils,.int .i64 0],none⟩,⟨some 3,.move (.c (.p (.nils))),none⟩]) (.seq (.region [2,4,5,10] [⟨some 8,.move (.t 0),none⟩,⟨some 9,.call (.c (.fn 41 [] [])) [(.t 8)],none⟩,⟨some 7,.move (.t 9),none⟩,⟨some 10,.extract (.t 7) 0,none⟩,⟨some 11,.extract (.t 7) 1,none⟩,⟨some 4,.alloc [.nilp],none⟩,
  ⟨none,.store 1 (.t 4) (.t 10),none⟩,⟨some 5,.move (.t 11),none⟩]) (.seq (.tokb 10 7 34 2) (.seq (.seq (.region [2,4,5,14] [⟨some 12,.move (.t 5),none⟩,⟨some 13,.len 1 (.t 12),none⟩,⟨some 14,.bin .gtr (.t 13) (.c (.p (.int .i64 0))),none⟩]) (.cond (.t 14) (.seq (.region [2,3] [⟨some 15,.build [.int .i64 0,.str [],.int .i64 0,.nils,.int .i64 0] [],none⟩,
  ⟨some 16,.move (.t 5),none⟩,⟨none,.store 5 (.t 2) (.t 15),none⟩,⟨some 3,.move (.t 16),none⟩]) .ret) .skip)) (.seq (.region [2,4,6] [⟨some 6,.alloc [.int .i64 0,.str [],.int .i64 0,.nils,.int .i64 0],none⟩]) (.seq (.seq (.region [2,4,6,20] [⟨some 17,.load none (.t 4),none⟩,⟨some 18,.mkfn 47 [] [(.t 4),(.t 6)],none⟩,
  ⟨some 19,.call (.c (.fn 43 [] [])) [(.t 17),(.t 18)],none⟩,⟨some 20,.un .not (.t 19),none⟩]) (.cond (.t 20) (.seq (.draw [2,3] [(1,5),(4,5)] [⟨some 21,.build [.int .i64 0,.str [],.int .i64 0,.nils,.int .i64 0] [],none⟩,⟨some 22,.load none (.t 4),none⟩,⟨some 23,.nilCheck (.t 22),none⟩,⟨some 24,.faddr (.t 23) 7,none⟩,⟨some 25,.load none (.t 24),none⟩,
  ⟨none,.store 5 (.t 2) (.t 21),none⟩,⟨some 3,.move (.t 25),none⟩]) .ret) .skip)) (.seq (.region [2,3] [⟨some 26,.load (some 5) (.t 6),none⟩,⟨none,.store 5 (.t 2) (.t 26),none⟩,⟨some 3,.move (.c (.p (.nils))),none⟩]) .ret)))))))
 frz := true
theorem ok17 : FOk Tryz.prog 17 fc17 := FOk.of Tryz.func17 (by kernel_rfl)
def fc18 : FC where
 nt := 6
 np := 1
 res := [.t 2]
 body := (.seq (.region [1] [⟨some 1,.box (.t 0),none⟩,⟨some 2,.move (.c (.p (.bool false))),none⟩]) (.seq (.region [2] [⟨some 3,.load (some 5) (.t 1),none⟩,⟨some 4,.call (.c (.fn 50 [] [])) [(.t 3),(.c (.p (.int .i64 400)))],none⟩,⟨some 5,.bin .leq (.t 4) (.c (.p (.int .i64 400))),none⟩,⟨some 2,.move (.t 5),none⟩]) .ret))
theorem ok18 : FOk Tryz.prog 18 fc18 := FOk.of Tryz.func18 (by kernel_rfl)
def fc19_b0 : SC :=
 (.loc (.seq (.seq (.region [1,3,4,98] [⟨some 94,.move (.t 4),none⟩,⟨some 95,.faddr (.t 1) 3,none⟩,⟨some 96,.load none (.t 95),none⟩,⟨some 97,.len 1 (.t 96),none⟩,⟨some 98,.bin .lss (.t 94) (.t 97),none⟩]) (.cond (.t 98) .skip (.exit 1))) (.seq (.block 2 (.seq (.seq (.region [1,3,4,102] [⟨some 101,.move (.t 4),none⟩,
 ⟨some 102,.bin .gtr (.t 101) (.c (.p (.int .i64 0))),none⟩]) (.cond (.t 102) (.region [1,3,4] [⟨some 103,.move (.t 3),none⟩,⟨some 104,.bin .add (.t 103) (.c (.p (.str [44,32]))),none⟩,⟨some 3,.move (.t 104),none⟩]) .skip)) (.region [1,3,4] [⟨some 105,.move (.t 3),none⟩,⟨some 106,.faddr (.t 1) 3,none⟩,⟨some 107,.load none (.t 106),none⟩,⟨some 108,.move (.t 4),none⟩,
 ⟨some 109,.iaddr none 5 (.t 107) (.t 108),none⟩,⟨some 110,.load (some 5) (.t 109),none⟩,⟨some 111,.call (.c (.fn 52 [] [])) [(.t 110)],none⟩,⟨some 112,.bin .add (.t 105) (.t 111),none⟩,⟨some 3,.move (.t 112),none⟩]))) (.region [1,3,4] [⟨some 99,.move (.t 4),none⟩,⟨some 100,.bin .add (.t 99) (.c (.p (.int .i64 1))),none⟩,⟨some 4,.move (.t 100),none⟩]))))
def fc19 : FC where
 nt := 152
 np := 1
 res := [.t 2]
 body := (.seq (.region [1] [⟨some 1,.box (.t 0),none⟩,⟨some 2,.move (.c (.p (.str []))),none⟩]) (.seq (.seq (.region [1,6] [⟨some 5,.faddr (.t 1) 0,none⟩,⟨some 6,.load none (.t 5),none⟩]) (.block 0 (.seq (.region [1,6,7] [⟨some 8,.bin .eql (.t 6) (.c (.p (.int .i64 1))),none⟩,⟨some 7,.move (.t 8),none⟩]) (.cond (.t 7) (.seq (.region [2] [⟨some 9,.faddr (.t 1) 1,none⟩,
  ⟨some 10,.load none (.t 9),none⟩,⟨some 2,.move (.t 10),none⟩]) .ret) (.seq (.region [1,6,11] [⟨some 12,.bin .eql (.t 6) (.c (.p (.int .i64 2))),none⟩,⟨some 11,.move (.t 12),none⟩]) (.cond (.t 11) (.seq (.region [2] [⟨some 13,.faddr (.t 1) 2,none⟩,⟨some 14,.load none (.t 13),none⟩,⟨some 15,.call (.c (.fn 51 [] [])) [(.t 14)],none⟩,
  ⟨some 16,.bin .add (.c (.p (.str [110,111,110,101,91]))) (.t 15),none⟩,⟨some 17,.bin .add (.t 16) (.c (.p (.str [93]))),none⟩,⟨some 2,.move (.t 17),none⟩]) .ret) (.seq (.region [1,6,18] [⟨some 19,.bin .eql (.t 6) (.c (.p (.int .i64 20))),none⟩,⟨some 18,.move (.t 19),none⟩]) (.cond (.t 18) (.seq (.region [2] [⟨some 20,.faddr (.t 1) 2,none⟩,
  ⟨some 21,.load none (.t 20),none⟩,⟨some 22,.call (.c (.fn 51 [] [])) [(.t 21)],none⟩,⟨some 2,.move (.t 22),none⟩]) .ret) (.seq (.region [1,6,23] [⟨some 24,.bin .eql (.t 6) (.c (.p (.int .i64 5))),none⟩,⟨some 23,.move (.t 24),none⟩]) (.cond (.t 23) (.seq (.region [2] [⟨some 25,.faddr (.t 1) 3,none⟩,⟨some 26,.load none (.t 25),none⟩,
  ⟨some 27,.iaddr none 5 (.t 26) (.c (.p (.int .i64 0))),none⟩,⟨some 28,.load (some 5) (.t 27),none⟩,⟨some 29,.call (.c (.fn 52 [] [])) [(.t 28)],none⟩,⟨some 30,.bin .add (.t 29) (.c (.p (.str [39]))),none⟩,⟨some 2,.move (.t 30),none⟩]) .ret) (.seq (.region [1,6,31] [⟨some 32,.bin .eql (.t 6) (.c (.p (.int .i64 15))),none⟩,⟨some 31,.move (.t 32),none⟩]) (.cond (.t 31) (.seq
  (.draw [2] [(1,5),(1,7),(1,8),(1,12),(5,12),(7,12),(8,12),(1,14),(5,14),(7,14),(8,14),(1,15)] [⟨some 33,.faddr (.t 1) 1,none⟩,⟨some 34,.load none (.t 33),none⟩,⟨some 35,.bin .add (.c (.p (.str [123]))) (.t 34),none⟩,⟨some 36,.bin .add (.t 35) (.c (.p (.str [58,32]))),none⟩,⟨some 37,.faddr (.t 1) 3,none⟩,⟨some 38,.load none (.t 37),none⟩,
  ⟨some 39,.iaddr none 5 (.t 38) (.c (.p (.int .i64 0))),none⟩,⟨some 40,.load (some 5) (.t 39),none⟩,⟨some 41,.call (.c (.fn 52 [] [])) [(.t 40)],none⟩,⟨some 42,.bin .add (.t 36) (.t 41),none⟩,⟨some 43,.bin .add (.t 42) (.c (.p (.str [32,124,32]))),none⟩,⟨some 44,.faddr (.t 1) 3,none⟩,⟨some 45,.load none (.t 44),none⟩,
  ⟨some 46,.iaddr none 5 (.t 45) (.c (.p (.int .i64 1))),none⟩,⟨some 47,.load (some 5) (.t 46),none⟩,⟨some 48,.call (.c (.fn 52 [] [])) [(.t 47)],none⟩,⟨some 49,.bin .add (.t 43) (.t 48),none⟩,⟨some 50,.bin .add (.t 49) (.c (.p (.str [125]))),none⟩,⟨some 2,.move (.t 50),none⟩]) .ret) (.seq (.region [1,6,51] [⟨some 52,.bin .eql (.t 6) (.c (.p (.int .i64 45))),none⟩,
  ⟨some 51,.move (.t 52),none⟩]) (.cond (.t 51) (.seq (.draw [2] [(1,5),(1,7),(1,8),(1,12),(5,12),(7,12),(8,12),(1,14),(5,14),(7,14),(8,14),(1,15)] [⟨some 53,.faddr (.t 1) 1,none⟩,⟨some 54,.load none (.t 53),none⟩,⟨some 55,.bin .add (.c (.p (.str [97,108,108,32]))) (.t 54),none⟩,⟨some 56,.bin .add (.t 55) (.c (.p (.str [58,32]))),none⟩,
  ⟨some 57,.faddr (.t 1) 3,none⟩,⟨some 58,.load none (.t 57),none⟩,⟨some 59,.iaddr none 5 (.t 58) (.c (.p (.int .i64 0))),none⟩,⟨some 60,.load (some 5) (.t 59),none⟩,⟨some 61,.call (.c (.fn 52 [] [])) [(.t 60)],none⟩,⟨some 62,.bin .add (.t 56) (.t 61),none⟩,⟨some 63,.bin .add (.t 62) (.c (.p (.str [32,124,32]))),none⟩,⟨some 64,.faddr (.t 1) 3,none⟩,
  ⟨some 65,.load none (.t 64),none⟩,⟨some 66,.iaddr none 5 (.t 65) (.c (.p (.int .i64 1))),none⟩,⟨some 67,.load (some 5) (.t 66),none⟩,⟨some 68,.call (.c (.fn 52 [] [])) [(.t 67)],none⟩,⟨some 69,.bin .add (.t 63) (.t 68),none⟩,⟨some 2,.move (.t 69),none⟩]) .ret) (.seq (.region [1,6,70] [⟨some 71,.bin .eql (.t 6) (.c (.p (.int .i64 46))),none⟩,⟨some 70,.move (.t 71),none⟩])
  (.cond (.t 70) (.seq (.draw [2] [(1,5),(1,7),(1,8),(1,12),(5,12),(7,12),(8,12),(1,14),(5,14),(7,14),(8,14),(1,15)] [⟨some 72,.faddr (.t 1) 1,none⟩,⟨some 73,.load none (.t 72),none⟩,⟨some 74,.bin .add (.c (.p (.str [115,111,109,101,32]))) (.t 73),none⟩,⟨some 75,.bin .add (.t 74) (.c (.p (.str [58,32]))),none⟩,⟨some 76,.faddr (.t 1) 3,none⟩,
  ⟨some 77,.load none (.t 76),none⟩,⟨some 78,.iaddr none 5 (.t 77) (.c (.p (.int .i64 0))),none⟩,⟨some 79,.load (some 5) (.t 78),none⟩,⟨some 80,.call (.c (.fn 52 [] [])) [(.t 79)],none⟩,⟨some 81,.bin .add (.t 75) (.t 80),none⟩,⟨some 82,.bin .add (.t 81) (.c (.p (.str [32,124,32]))),none⟩,⟨some 83,.faddr (.t 1) 3,none⟩,⟨some 84,.load none (.t 83),none⟩,
  ⟨some 85,.iaddr none 5 (.t 84) (.c (.p (.int .i64 1))),none⟩,⟨some 86,.load (some 5) (.t 85),none⟩,⟨some 87,.call (.c (.fn 52 [] [])) [(.t 86)],none⟩,⟨some 88,.bin .add (.t 82) (.t 87),none⟩,⟨some 2,.move (.t 88),none⟩]) .ret) (.seq (.region [1,89] [⟨some 90,.bin .eql (.t 6) (.c (.p (.int .i64 47))),none⟩,⟨some 89,.move (.t 90),none⟩]) (.cond (.t 89) (.seq (.region [1,3] [
  ⟨some 91,.faddr (.t 1) 1,none⟩,⟨some 92,.load none (.t 91),none⟩,⟨some 93,.bin .add (.t 92) (.c (.p (.str [91]))),none⟩,⟨some 3,.move (.t 93),none⟩]) (.seq (.seq (.region [1,3,4] [⟨some 4,.move (.c (.p (.int .i64 0))),none⟩]) (.block 1 (.loop [1,3,4] fc19_b0))) (.seq (.region [2] [⟨some 113,.move (.t 3),none⟩,⟨some 114,.bin .add (.t 113) (.c (.p (.str [93]))),none⟩,
  ⟨some 2,.move (.t 114),none⟩]) .ret))) .skip)))))))))))))))))) (.seq (.seq (.region [1,117] [⟨some 115,.faddr (.t 1) 3,none⟩,⟨some 116,.load none (.t 115),none⟩,⟨some 117,.len 1 (.t 116),none⟩]) (.block 3 (.seq (.region [1,117,118] [⟨some 119,.bin .eql (.t 117) (.c (.p (.int .i64 0))),none⟩,⟨some 118,.move (.t 119),none⟩]) (.cond (.t 118) (.seq (.region [2] [
  ⟨some 120,.faddr (.t 1) 0,none⟩,⟨some 121,.load none (.t 120),none⟩,⟨some 122,.call (.c (.fn 53 [] [])) [(.t 121)],none⟩,⟨some 2,.move (.t 122),none⟩]) .ret) (.seq (.region [1,123] [⟨some 124,.bin .eql (.t 117) (.c (.p (.int .i64 1))),none⟩,⟨some 123,.move (.t 124),none⟩]) (.cond (.t 123) (.seq (.draw [2] [(1,5),(2,5),(1,7),(2,7)] [⟨some 125,.faddr (.t 1) 0,none⟩,
  ⟨some 126,.load none (.t 125),none⟩,⟨some 127,.call (.c (.fn 53 [] [])) [(.t 126)],none⟩,⟨some 128,.bin .add (.t 127) (.c (.p (.str [32]))),none⟩,⟨some 129,.faddr (.t 1) 3,none⟩,⟨some 130,.load none (.t 129),none⟩,⟨some 131,.iaddr none 5 (.t 130) (.c (.p (.int .i64 0))),none⟩,⟨some 132,.load (some 5) (.t 131),none⟩,⟨some 133,.call (.c (.fn 52 [] [])) [(.t 132)],none⟩,
  ⟨some 134,.bin .add (.t 128) (.t 133),none⟩,⟨some 2,.move (.t 134),none⟩]) .ret) .skip)))))) (.seq (.draw [2] [(1,7),(3,7),(4,7),(1,12),(3,12),(4,12),(7,12),(8,12),(1,14),(3,14),(4,14),(7,14),(8,14)] [⟨some 135,.faddr (.t 1) 3,none⟩,⟨some 136,.load none (.t 135),none⟩,⟨some 137,.iaddr none 5 (.t 136) (.c (.p (.int .i64 0))),none⟩,
  ⟨some 138,.load (some 5) (.t 137),none⟩,⟨some 139,.call (.c (.fn 52 [] [])) [(.t 138)],none⟩,⟨some 140,.bin .add (.t 139) (.c (.p (.str [32]))),none⟩,⟨some 141,.faddr (.t 1) 0,none⟩,⟨some 142,.load none (.t 141),none⟩,⟨some 143,.call (.c (.fn 54 [] [])) [(.t 142)],none⟩,⟨some 144,.bin .add (.t 140) (.t 143),none⟩,⟨some 145,.bin .add (.t 144) (.c (.p (.str [32]))),none⟩,
  ⟨some 146,.faddr (.t 1) 3,none⟩,⟨some 147,.load none (.t 146),none⟩,⟨some 148,.iaddr none 5 (.t 147) (.c (.p (.int .i64 1))),none⟩,⟨some 149,.load (some 5) (.t 148),none⟩,⟨some 150,.call (.c (.fn 52 [] [])) [(.t 149)],none⟩,⟨some 151,.bin .add (.t 145) (.t 150),none⟩,⟨some 2,.move (.t 151),none⟩]) .ret))))
theorem ok19 : FOk Tryz.prog 19 fc19 := FOk.of Tryz.func19 (by kernel_rfl)
def fc20 : FC where
 nt := 20
 np := 2
 res := [.t 4]
 body := (.seq (.region [0,3] [⟨some 3,.box (.t 1),none⟩,⟨some 4,.move (.c (.p (.bool false))),none⟩]) (.seq (.region [3,5,6] [⟨some 8,.move (.t 0),none⟩,⟨some 9,.call (.c (.fn 17 [] [])) [(.t 8)],none⟩,⟨some 7,.move (.t 9),none⟩,⟨some 10,.extract (.t 7) 0,none⟩,⟨some 11,.extract (.t 7) 1,none⟩,⟨some 5,.alloc [.int .i64 0,.str [],.int .i64 0,.nils,.int .i64 0],none⟩,
  ⟨none,.store 5 (.t 5) (.t 10),none⟩,⟨some 6,.move (.t 11),none⟩]) (.seq (.region [4] [⟨some 12,.move (.t 6),none⟩,⟨some 13,.len 1 (.t 12),none⟩,⟨some 14,.bin .eql (.t 13) (.c (.p (.int .i64 0))),none⟩,⟨some 15,.move (.t 14),none⟩,⟨some 16,.load (some 5) (.t 5),some (15,true)⟩,⟨some 17,.load (some 5) (.t 3),some (15,true)⟩,
  ⟨some 18,.call (.c (.fn 29 [] [])) [(.t 16),(.t 17),(.c (.p (.bool false)))],some (15,true)⟩,⟨some 19,.pick (.t 15) (.t 18) (.c (.p (.bool false))),none⟩,⟨some 4,.move (.t 19),none⟩]) .ret)))
theorem ok20 : FOk Tryz.prog 20 fc20 := FOk.of Tryz.func20 (by kernel_rfl)
def fc21 : FC where
 nt := 9
 np := 2
 res := [.cell 4 (some 5)]
 body := (.seq (.region [0,3,4] [⟨some 3,.box (.t 1),none⟩,⟨some 4,.alloc [.int .i64 0,.str [],.int .i64 0,.nils,.int .i64 0],none⟩]) (.seq (.region [4] [⟨some 5,.move (.t 0),none⟩,⟨some 6,.load (some 5) (.t 3),none⟩,⟨some 7,.bslice 39 5 1 (.agg [.int .i64 0,.str [],.int .i64 0,.nils,.int .i64 0]) [(0,(.t 6))],none⟩,
  ⟨some 8,.build [.int .i64 0,.str [],.int .i64 0,.nils,.int .i64 0] [(0,1,(.t 5)),(3,1,(.t 7))],none⟩,⟨none,.store 5 (.t 4) (.t 8),none⟩]) .ret))
 frz := true
theorem ok21 : FOk Tryz.prog 21 fc21 := FOk.of Tryz.func21 (by kernel_rfl)
def fc22 : FC where
 nt := 5
 np := 1
 res := [.cell 2 (some 5)]
 body := (.seq (.region [0,2] [⟨some 2,.alloc [.int .i64 0,.str [],.int .i64 0,.nils,.int .i64 0],none⟩]) (.seq (.region [2] [⟨some 3,.move (.t 0),none⟩,⟨some 4,.build [.int .i64 0,.str [],.int .i64 0,.nils,.int .i64 0] [(0,1,(.c (.p (.int .i64 1)))),(1,1,(.t 3))],none⟩,⟨none,.store 5 (.t 2) (.t 4),none⟩]) .ret))
 frz := true
theorem ok22 : FOk Tryz.prog 22 fc22 := FOk.of Tryz.func22 (by kernel_rfl)
def fc23 : FC where
 nt := 46
 np := 2
 res := [.t 4]
 body := (.seq (.region [0,1] [⟨some 4,.move (.c (.p (.int .i64 0))),none⟩]) (.seq (.seq (.region [0,6] [⟨some 5,.move (.t 1),none⟩,⟨some 6,.bin .eql (.t 5) (.c (.p (.int .u8 101))),none⟩]) (.cond (.t 6) (.seq (.region [0,7] [⟨some 7,.move (.t 0),none⟩]) (.block 0 (.seq (.region [0,7,8] [⟨some 9,.bin .eql (.t 7) (.c (.p (.str [105,110]))),none⟩,⟨some 8,.move (.t 9),none⟩])
  (.cond (.t 8) (.seq (.region [4] [⟨some 4,.move (.c (.p (.int .i64 32))),none⟩]) .ret) (.seq (.seq (.region [0,7,10] [⟨some 11,.bin .eql (.t 7) (.c (.p (.str [61]))),none⟩,⟨some 10,.move (.t 11),none⟩]) (.cond (.t 10) .skip (.region [0,7,10] [⟨some 12,.bin .eql (.t 7) (.c (.p (.str [33,61]))),none⟩,⟨some 10,.move (.t 12),none⟩]))) (.cond (.t 10) (.seq (.region [4] [
  ⟨some 4,.move (.c (.p (.int .i64 33))),none⟩]) .ret) (.seq (.region [0,7,13] [⟨some 14,.bin .eql (.t 7) (.c (.p (.str [43]))),none⟩,⟨some 13,.move (.t 14),none⟩]) (.cond (.t 13) (.seq (.region [4] [⟨some 4,.move (.c (.p (.int .i64 6))),none⟩]) .ret) (.seq (.region [0,7,15] [⟨some 16,.bin .eql (.t 7) (.c (.p (.str [45]))),none⟩,⟨some 15,.move (.t 16),none⟩]) (.cond (.t 15) (.seq
  (.region [4] [⟨some 4,.move (.c (.p (.int .i64 8))),none⟩]) .ret) (.seq (.region [0,7,17] [⟨some 18,.bin .eql (.t 7) (.c (.p (.str [43,43]))),none⟩,⟨some 17,.move (.t 18),none⟩]) (.cond (.t 17) (.seq (.region [4] [⟨some 4,.move (.c (.p (.int .i64 14))),none⟩]) .ret) (.seq (.region [0,7,19] [⟨some 20,.bin .eql (.t 7) (.c (.p (.str [38]))),none⟩,⟨some 19,.move (.t 20),none⟩])
  (.cond (.t 19) (.seq (.region [4] [⟨some 4,.move (.c (.p (.int .i64 7))),none⟩]) .ret) (.seq (.region [0,7,21] [⟨some 22,.bin .eql (.t 7) (.c (.p (.str [45,62]))),none⟩,⟨some 21,.move (.t 22),none⟩]) (.cond (.t 21) (.seq (.region [4] [⟨some 4,.move (.c (.p (.int .i64 10))),none⟩]) .ret) (.seq (.region [0,23] [⟨some 24,.bin .eql (.t 7) (.c (.p (.str [46]))),none⟩,
  ⟨some 23,.move (.t 24),none⟩]) (.cond (.t 23) (.seq (.region [4] [⟨some 4,.move (.c (.p (.int .i64 9))),none⟩]) .ret) .skip)))))))))))))))))) .skip)) (.seq (.seq (.region [25] [⟨some 25,.move (.t 0),none⟩]) (.block 1 (.seq (.region [25,26] [⟨some 27,.bin .eql (.t 25) (.c (.p (.str [60,61,62]))),none⟩,⟨some 26,.move (.t 27),none⟩]) (.cond (.t 26) (.seq (.region [4] [
  ⟨some 4,.move (.c (.p (.int .i64 44))),none⟩]) .ret) (.seq (.region [25,28] [⟨some 29,.bin .eql (.t 25) (.c (.p (.str [61,62]))),none⟩,⟨some 28,.move (.t 29),none⟩]) (.cond (.t 28) (.seq (.region [4] [⟨some 4,.move (.c (.p (.int .i64 43))),none⟩]) .ret) (.seq (.region [25,30] [⟨some 31,.bin .eql (.t 25) (.c (.p (.str [124,124]))),none⟩,⟨some 30,.move (.t 31),none⟩])
  (.cond (.t 30) (.seq (.region [4] [⟨some 4,.move (.c (.p (.int .i64 42))),none⟩]) .ret) (.seq (.region [25,32] [⟨some 33,.bin .eql (.t 25) (.c (.p (.str [38,38]))),none⟩,⟨some 32,.move (.t 33),none⟩]) (.cond (.t 32) (.seq (.region [4] [⟨some 4,.move (.c (.p (.int .i64 41))),none⟩]) .ret) (.seq (.region [25,34] [
  ⟨some 35,.bin .eql (.t 25) (.c (.p (.str [117,110,116,105,108]))),none⟩,⟨some 34,.move (.t 35),none⟩]) (.cond (.t 34) (.seq (.region [4] [⟨some 4,.move (.c (.p (.int .i64 51))),none⟩]) .ret) (.seq (.seq (.region [25,36] [⟨some 37,.bin .eql (.t 25) (.c (.p (.str [61]))),none⟩,⟨some 36,.move (.t 37),none⟩]) (.cond (.t 36) .skip (.region [25,36] [
  ⟨some 38,.bin .eql (.t 25) (.c (.p (.str [33,61]))),none⟩,⟨some 36,.move (.t 38),none⟩]))) (.cond (.t 36) (.seq (.region [4] [⟨some 4,.move (.c (.p (.int .i64 38))),none⟩]) .ret) (.seq (.seq (.region [25,39] [⟨some 40,.bin .eql (.t 25) (.c (.p (.str [60]))),none⟩,⟨some 39,.move (.t 40),none⟩]) (.cond (.t 39) .skip (.region [25,39] [
  ⟨some 41,.bin .eql (.t 25) (.c (.p (.str [60,61]))),none⟩,⟨some 39,.move (.t 41),none⟩]))) (.cond (.t 39) (.seq (.region [4] [⟨some 4,.move (.c (.p (.int .i64 39))),none⟩]) .ret) (.seq (.region [25,42] [⟨some 43,.bin .eql (.t 25) (.c (.p (.str [43]))),none⟩,⟨some 42,.move (.t 43),none⟩]) (.cond (.t 42) (.seq (.region [4] [⟨some 4,.move (.c (.p (.int .i64 22))),none⟩]) .ret) (.seq
  (.region [44] [⟨some 45,.bin .eql (.t 25) (.c (.p (.str [45]))),none⟩,⟨some 44,.move (.t 45),none⟩]) (.cond (.t 44) (.seq (.region [4] [⟨some 4,.move (.c (.p (.int .i64 23))),none⟩]) .ret) .skip)))))))))))))))))))) (.seq (.region [4] [⟨some 4,.move (.c (.p (.int .i64 0))),none⟩]) .ret))))
theorem ok23 : FOk Tryz.prog 23 fc23 := FOk.of Tryz.func23 (by kernel_rfl)
def fc25 : FC where
 nt := 12
 np := 3
 res := [.cell 6 (some 5)]
 body := (.seq (.region [0,4,5,6] [⟨some 4,.box (.t 1),none⟩,⟨some 5,.box (.t 2),none⟩,⟨some 6,.alloc [.int .i64 0,.str [],.int .i64 0,.nils,.int .i64 0],none⟩]) (.seq (.region [6] [⟨some 7,.move (.t 0),none⟩,⟨some 8,.load (some 5) (.t 4),none⟩,⟨some 9,.load (some 5) (.t 5),none⟩,
  ⟨some 10,.bslice 39 5 2 (.agg [.int .i64 0,.str [],.int .i64 0,.nils,.int .i64 0]) [(0,(.t 8)),(1,(.t 9))],none⟩,⟨some 11,.build [.int .i64 0,.str [],.int .i64 0,.nils,.int .i64 0] [(0,1,(.t 7)),(3,1,(.t 10))],none⟩,⟨none,.store 5 (.t 6) (.t 11),none⟩]) .ret))
 frz := true
theorem ok25 : FOk Tryz.prog 25 fc25 := FOk.of Tryz.func25 (by kernel_rfl)
def fc26_b0 : SC :=
 (.loc (.seq (.seq (.region [0,5,6,23] [⟨some 17,.move (.t 5),none⟩,⟨some 18,.nilCheck (.t 17),none⟩,⟨some 19,.faddr (.t 18) 1,none⟩,⟨some 20,.load none (.t 19),none⟩,⟨some 21,.move (.t 0),none⟩,⟨some 22,.len 0 (.t 21),none⟩,⟨some 23,.bin .lss (.t 20) (.t 22),none⟩]) (.cond (.t 23) .skip (.exit 0))) (.seq (.block 1 (.seq (.region [0,5,6,7,8] [
 ⟨some 27,.move (.t 5),none⟩,⟨some 28,.call (.c (.fn 56 [] [])) [(.t 27)],none⟩,⟨some 26,.move (.t 28),none⟩,⟨some 29,.extract (.t 26) 0,none⟩,⟨some 30,.extract (.t 26) 1,none⟩,⟨some 7,.alloc [.int .i64 0,.str [],.int .i64 0],none⟩,⟨none,.store 3 (.t 7) (.t 29),none⟩,⟨some 8,.move (.t 30),none⟩]) (.seq (.seq (.region [0,5,6,7,32] [⟨some 31,.move (.t 8),none⟩,
 ⟨some 32,.un .not (.t 31),none⟩]) (.cond (.t 32) (.seq (.draw [2,3,4] [] [⟨some 33,.faddr (.t 7) 2,none⟩,⟨some 34,.load none (.t 33),none⟩,⟨some 2,.move (.c (.p (.nils))),none⟩,⟨some 3,.move (.c (.p (.int .i64 10))),none⟩,⟨some 4,.move (.t 34),none⟩]) .ret) .skip)) (.region [0,5,6] [⟨some 35,.move (.t 6),none⟩,⟨some 36,.load (some 3) (.t 7),none⟩,
 ⟨some 37,.bslice 64 3 1 (.agg [.int .i64 0,.str [],.int .i64 0]) [(0,(.t 36))],none⟩,⟨some 38,.append 64 3 32 (.t 35) (.t 37),none⟩,⟨some 6,.move (.t 38),none⟩])))) (.region [0,5,6] [⟨some 24,.move (.t 5),none⟩,⟨some 25,.call (.c (.fn 55 [] [])) [(.t 24)],none⟩]))))
def fc26 : FC where
 nt := 40
 np := 1
 res := [.t 2, .t 3, .t 4]
 body := (.seq (.region [0] [⟨some 2,.move (.c (.p (.nils))),none⟩,⟨some 3,.move (.c (.p (.int .i64 0))),none⟩,⟨some 4,.move (.c (.p (.int .i64 0))),none⟩]) (.seq (.seq (.region [0,11] [⟨some 9,.move (.t 0),none⟩,⟨some 10,.len 0 (.t 9),none⟩,⟨some 11,.bin .gtr (.t 10) (.c (.p (.int .i64 20000))),none⟩]) (.cond (.t 11) (.seq (.region [2,3,4] [
  ⟨some 2,.move (.c (.p (.nils))),none⟩,⟨some 3,.move (.c (.p (.int .i64 2))),none⟩,⟨some 4,.move (.c (.p (.int .i64 0))),none⟩]) .ret) .skip)) (.seq (.region [0,5] [⟨some 12,.move (.t 0),none⟩,⟨some 13,.build [.str [],.int .i64 0] [(0,1,(.t 12))],none⟩,⟨some 14,.box (.t 13),none⟩,⟨some 5,.move (.t 14),none⟩]) (.seq (.region [0,5,6] [
  ⟨some 6,.move (.c (.p (.nils))),none⟩]) (.seq (.seq (.region [0,5,6] [⟨some 15,.move (.t 5),none⟩,⟨some 16,.call (.c (.fn 55 [] [])) [(.t 15)],none⟩]) (.block 0 (.seq (.tok 6 64 3) (.loop [0,5,6] fc26_b0)))) (.seq (.region [2,3,4] [⟨some 39,.move (.t 6),none⟩,⟨some 2,.move (.t 39),none⟩,⟨some 3,.move (.c (.p (.int .i64 0))),none⟩,
  ⟨some 4,.move (.c (.p (.int .i64 0))),none⟩]) .ret))))))
theorem ok26 : FOk Tryz.prog 26 fc26 := FOk.of Tryz.func26 (by kernel_rfl)
def fc29_b0 : SC :=
 (.loc (.seq (.seq (.region [2,3,4,7,50] [⟨some 46,.move (.t 7),none⟩,⟨some 47,.faddr (.t 3) 3,none⟩,⟨some 48,.load none (.t 47),none⟩,⟨some 49,.len 1 (.t 48),none⟩,⟨some 50,.bin .lss (.t 46) (.t 49),none⟩]) (.cond (.t 50) .skip (.exit 0))) (.seq (.block 1 (.seq (.draw [2,3,4,7,65] [(1,6),(4,6),(1,9),(4,9)] [⟨some 53,.faddr (.t 3) 3,none⟩,
 ⟨some 54,.load none (.t 53),none⟩,⟨some 55,.move (.t 7),none⟩,⟨some 56,.iaddr none 5 (.t 54) (.t 55),none⟩,⟨some 57,.load (some 5) (.t 56),none⟩,⟨some 58,.faddr (.t 4) 3,none⟩,⟨some 59,.load none (.t 58),none⟩,⟨some 60,.move (.t 7),none⟩,⟨some 61,.iaddr none 5 (.t 59) (.t 60),none⟩,⟨some 62,.load (some 5) (.t 61),none⟩,⟨some 63,.move (.t 2),none⟩,
 ⟨some 64,.call (.c (.fn 29 [] [])) [(.t 57),(.t 62),(.t 63)],none⟩,⟨some 65,.un .not (.t 64),none⟩]) (.cond (.t 65) (.seq (.region [6] [⟨some 6,.move (.c (.p (.bool false))),none⟩]) .ret) .skip))) (.region [2,3,4,7] [⟨some 51,.move (.t 7),none⟩,⟨some 52,.bin .add (.t 51) (.c (.p (.int .i64 1))),none⟩,⟨some 7,.move (.t 52),none⟩]))))
def fc29 : FC where
 nt := 66
 np := 3
 res := [.t 6]
 body := (.seq (.region [2,3,4] [⟨some 3,.box (.t 0),none⟩,⟨some 4,.box (.t 1),none⟩,⟨some 6,.move (.c (.p (.bool false))),none⟩]) (.seq (.seq (.region [2,3,4,45] [⟨some 8,.faddr (.t 3) 0,none⟩,⟨some 9,.load none (.t 8),none⟩,⟨some 10,.faddr (.t 4) 0,none⟩,⟨some 11,.load none (.t 10),none⟩,⟨some 12,.bin .neq (.t 9) (.t 11),none⟩,⟨some 13,.move (.t 12),none⟩,
  ⟨some 14,.faddr (.t 3) 1,some (13,false)⟩,⟨some 15,.load none (.t 14),some (13,false)⟩,⟨some 16,.faddr (.t 4) 1,some (13,false)⟩,⟨some 17,.load none (.t 16),some (13,false)⟩,⟨some 18,.bin .neq (.t 15) (.t 17),some (13,false)⟩,⟨some 19,.pick (.t 13) (.c (.p (.bool true))) (.t 18),none⟩,⟨some 20,.move (.t 19),none⟩,⟨some 21,.faddr (.t 3) 2,some (20,false)⟩,
  ⟨some 22,.load none (.t 21),some (20,false)⟩,⟨some 23,.faddr (.t 4) 2,some (20,false)⟩,⟨some 24,.load none (.t 23),some (20,false)⟩,⟨some 25,.bin .neq (.t 22) (.t 24),some (20,false)⟩,⟨some 26,.pick (.t 20) (.c (.p (.bool true))) (.t 25),none⟩,⟨some 27,.move (.t 26),none⟩,⟨some 28,.move (.t 2),some (27,false)⟩,⟨some 29,.move (.t 28),some (27,false)⟩,
  ⟨some 30,.faddr (.t 3) 4,some (29,true)⟩,⟨some 31,.load none (.t 30),some (29,true)⟩,⟨some 32,.faddr (.t 4) 4,some (29,true)⟩,⟨some 33,.load none (.t 32),some (29,true)⟩,⟨some 34,.bin .neq (.t 31) (.t 33),some (29,true)⟩,⟨some 35,.pick (.t 29) (.t 34) (.c (.p (.bool false))),some (27,false)⟩,⟨some 36,.pick (.t 27) (.c (.p (.bool true))) (.t 35),none⟩,
  ⟨some 37,.move (.t 36),none⟩,⟨some 38,.faddr (.t 3) 3,some (37,false)⟩,⟨some 39,.load none (.t 38),some (37,false)⟩,⟨some 40,.len 1 (.t 39),some (37,false)⟩,⟨some 41,.faddr (.t 4) 3,some (37,false)⟩,⟨some 42,.load none (.t 41),some (37,false)⟩,⟨some 43,.len 1 (.t 42),some (37,false)⟩,⟨some 44,.bin .neq (.t 40) (.t 43),some (37,false)⟩,
  ⟨some 45,.pick (.t 37) (.c (.p (.bool true))) (.t 44),none⟩]) (.cond (.t 45) (.seq (.region [6] [⟨some 6,.move (.c (.p (.bool false))),none⟩]) .ret) .skip)) (.seq (.seq (.region [2,3,4,7] [⟨some 7,.move (.c (.p (.int .i64 0))),none⟩]) (.block 0 (.loop [2,3,4,7] fc29_b0))) (.seq (.region [6] [⟨some 6,.move (.c (.p (.bool true))),none⟩]) .ret))))
theorem ok29 : FOk Tryz.prog 29 fc29 := FOk.of Tryz.func29 (by kernel_rfl)
def fc35 : FC where
 nt := 31
 np := 2
 res := [.t 4]
 body := (.seq (.region [2,3] [⟨some 2,.box (.t 0),none⟩,⟨some 3,.box (.t 1),none⟩,⟨some 4,.move (.c (.p (.bool false))),none⟩]) (.seq (.region [4] [⟨some 5,.faddr (.t 2) 0,none⟩,⟨some 6,.load none (.t 5),none⟩,⟨some 7,.faddr (.t 3) 0,none⟩,⟨some 8,.load none (.t 7),none⟩,⟨some 9,.bin .eql (.t 6) (.t 8),none⟩,⟨some 10,.move (.t 9),none⟩,
  ⟨some 11,.faddr (.t 2) 1,some (10,true)⟩,⟨some 12,.load none (.t 11),some (10,true)⟩,⟨some 13,.faddr (.t 3) 1,some (10,true)⟩,⟨some 14,.load none (.t 13),some (10,true)⟩,⟨some 15,.bin .eql (.t 12) (.t 14),some (10,true)⟩,⟨some 16,.pick (.t 10) (.t 15) (.c (.p (.bool false))),none⟩,⟨some 17,.move (.t 16),none⟩,⟨some 18,.faddr (.t 2) 2,some (17,true)⟩,
  ⟨some 19,.load none (.t 18),some (17,true)⟩,⟨some 20,.faddr (.t 3) 2,some (17,true)⟩,⟨some 21,.load none (.t 20),some (17,true)⟩,⟨some 22,.bin .eql (.t 19) (.t 21),some (17,true)⟩,⟨some 23,.pick (.t 17) (.t 22) (.c (.p (.bool false))),none⟩,⟨some 24,.move (.t 23),none⟩,⟨some 25,.faddr (.t 2) 3,some (24,true)⟩,⟨some 26,.load none (.t 25),some (24,true)⟩,
  ⟨some 27,.faddr (.t 3) 3,some (24,true)⟩,⟨some 28,.load none (.t 27),some (24,true)⟩,⟨some 29,.call (.c (.fn 68 [] [])) [(.t 26),(.t 28),(.c (.fn 35 [] []))],some (24,true)⟩,⟨some 30,.pick (.t 24) (.t 29) (.c (.p (.bool false))),none⟩,⟨some 4,.move (.t 30),none⟩]) .ret))
theorem ok35 : FOk Tryz.prog 35 fc35 := FOk.of Tryz.func35 (by kernel_rfl)
def fc37 : FC where
 nt := 6
 np := 1
 res := [.t 2]
 body := (.seq (.region [1] [⟨some 1,.box (.t 0),none⟩,⟨some 2,.move (.c (.p (.bool false))),none⟩]) (.seq (.region [2] [⟨some 3,.load (some 5) (.t 1),none⟩,⟨some 4,.call (.c (.fn 69 [] [])) [(.t 3),(.c (.p (.int .i64 400)))],none⟩,⟨some 5,.bin .leq (.t 4) (.c (.p (.int .i64 400))),none⟩,⟨some 2,.move (.t 5),none⟩]) .ret))
theorem ok37 : FOk Tryz.prog 37 fc37 := FOk.of Tryz.func37 (by kernel_rfl)
def fc39 : FC where
 nt := 20
 np := 3
 res := [.t 6]
 body := (.seq (.region [0,1,2] [⟨some 6,.move (.c (.p (.bool false))),none⟩]) (.seq (.region [1,2,8] [⟨some 10,.move (.t 0),none⟩,⟨some 11,.call (.c (.fn 17 [] [])) [(.t 10)],none⟩,⟨some 9,.move (.t 11),none⟩,⟨some 12,.extract (.t 9) 0,none⟩,⟨some 13,.extract (.t 9) 1,none⟩,⟨some 7,.alloc [.int .i64 0,.str [],.int .i64 0,.nils,.int .i64 0],none⟩,
  ⟨none,.store 5 (.t 7) (.t 12),none⟩,⟨some 8,.move (.t 13),none⟩]) (.seq (.region [6] [⟨some 14,.move (.t 8),none⟩,⟨some 15,.move (.t 1),none⟩,⟨some 16,.move (.t 2),none⟩,⟨some 17,.build [.int .i64 0,.int .i64 0] [(0,1,(.t 15)),(1,1,(.t 16))],none⟩,⟨some 18,.bslice 34 2 1 (.agg [.int .i64 0,.int .i64 0]) [(0,(.t 17))],none⟩,
  ⟨some 19,.call (.c (.fn 40 [] [])) [(.t 14),(.t 18)],none⟩,⟨some 6,.move (.t 19),none⟩]) .ret)))
theorem ok39 : FOk Tryz.prog 39 fc39 := FOk.of Tryz.func39 (by kernel_rfl)
def fc40_b0 : SC :=
 (.seq (.seq (.region [0,1,5,14] [⟨some 11,.move (.t 5),none⟩,⟨some 12,.move (.t 0),none⟩,⟨some 13,.len 1 (.t 12),none⟩,⟨some 14,.bin .lss (.t 11) (.t 13),none⟩]) (.cond (.t 14) .skip (.exit 0))) (.seq (.block 1 (.seq (.draw [0,1,5,25] [(3,7)] [⟨some 17,.move (.t 0),none⟩,⟨some 18,.move (.t 5),none⟩,⟨some 19,.iaddr none 2 (.t 17) (.t 18),none⟩,
 ⟨some 20,.load (some 2) (.t 19),none⟩,⟨some 21,.move (.t 1),none⟩,⟨some 22,.move (.t 5),none⟩,⟨some 23,.iaddr none 2 (.t 21) (.t 22),none⟩,⟨some 24,.load (some 2) (.t 23),none⟩,⟨some 25,.eqs true [1,1] (.t 20) (.t 24),none⟩]) (.cond (.t 25) (.seq (.region [4] [⟨some 4,.move (.c (.p (.bool false))),none⟩]) .ret) .skip))) (.region [0,1,5] [⟨some 15,.move (.t 5),none⟩,
 ⟨some 16,.bin .add (.t 15) (.c (.p (.int .i64 1))),none⟩,⟨some 5,.move (.t 16),none⟩])))
def fc40 : FC where
 nt := 26
 np := 2
 res := [.t 4]
 body := (.seq (.region [0,1] [⟨some 4,.move (.c (.p (.bool false))),none⟩]) (.seq (.seq (.region [0,1,10] [⟨some 6,.move (.t 0),none⟩,⟨some 7,.len 1 (.t 6),none⟩,⟨some 8,.move (.t 1),none⟩,⟨some 9,.len 1 (.t 8),none⟩,⟨some 10,.bin .neq (.t 7) (.t 9),none⟩]) (.cond (.t 10) (.seq (.region [4] [⟨some 4,.move (.c (.p (.bool false))),none⟩]) .ret) .skip)) (.seq (.seq
  (.region [0,1,5] [⟨some 5,.move (.c (.p (.int .i64 0))),none⟩]) (.block 0 (.loop [0,1,5] fc40_b0))) (.seq (.region [4] [⟨some 4,.move (.c (.p (.bool true))),none⟩]) .ret))))
theorem ok40 : FOk Tryz.prog 40 fc40 := FOk.of Tryz.func40 (by kernel_rfl)
def fc41 : FC where
 nt := 27
 np := 1
 res := [.t 2, .t 3]
 body := (.seq (.region [0] [⟨some 2,.move (.c (.p (.nilp))),none⟩,⟨some 3,.move (.c (.p (.nils))),none⟩]) (.seq (.region [0,4,5,6] [⟨some 8,.move (.t 0),none⟩,⟨some 9,.call (.c (.fn 26 [] [])) [(.t 8)],none⟩,⟨some 7,.move (.t 9),none⟩,⟨some 10,.extract (.t 7) 0,none⟩,⟨some 11,.extract (.t 7) 1,none⟩,⟨some 12,.extract (.t 7) 2,none⟩,⟨some 4,.move (.t 10),none⟩,
  ⟨some 5,.move (.t 11),none⟩,⟨some 6,.move (.t 12),none⟩]) (.seq (.seq (.region [0,4,5,6,14] [⟨some 13,.move (.t 5),none⟩,⟨some 14,.bin .neq (.t 13) (.c (.p (.int .i64 0))),none⟩]) (.cond (.t 14) (.seq (.region [2,3] [⟨some 15,.move (.t 5),none⟩,⟨some 16,.move (.t 6),none⟩,⟨some 17,.build [.int .i64 0,.int .i64 0] [(0,1,(.t 15)),(1,1,(.t 16))],none⟩,
  ⟨some 18,.bslice 34 2 1 (.agg [.int .i64 0,.int .i64 0]) [(0,(.t 17))],none⟩,⟨some 2,.move (.c (.p (.nilp))),none⟩,⟨some 3,.move (.t 18),none⟩]) .ret) .skip)) (.seq (.region [2,3] [⟨some 19,.move (.t 4),none⟩,⟨some 20,.move (.t 0),none⟩,⟨some 21,.len 0 (.t 20),none⟩,⟨some 22,.call (.c (.fn 70 [] [])) [],none⟩,⟨some 23,.call (.c (.fn 71 [] [])) [],none⟩,
  ⟨some 24,.call (.c (.fn 46 [] [])) [],none⟩,⟨some 25,.build [.nils,.int .i64 0,.int .i64 0,.int .i64 0,.nilm,.nilm,.nilm,.nils,.nils,.nils,.nils,.nils] [(0,1,(.t 19)),(2,1,(.t 21)),(4,1,(.t 22)),(5,1,(.t 23)),(6,1,(.t 24))],none⟩,⟨some 26,.box (.t 25),none⟩,⟨some 2,.move (.t 26),none⟩,⟨some 3,.move (.c (.p (.nils))),none⟩]) .ret))))
theorem ok41 : FOk Tryz.prog 41 fc41 := FOk.of Tryz.func41 (by kernel_rfl)
def fc42 : FC where
 nt := 34
 np := 1
 res := []
 body := (.seq (.region [0,2] [⟨some 3,.move (.t 0),none⟩,⟨some 4,.call (.c (.fn 72 [] [])) [(.t 3),(.c (.p (.int .i64 0)))],none⟩,⟨some 2,.alloc [.int .i64 0,.str [],.int .i64 0],none⟩,⟨none,.store 3 (.t 2) (.t 4),none⟩]) (.seq (.region [0,2,6] [⟨some 5,.faddr (.t 2) 1,none⟩,⟨some 6,.load none (.t 5),none⟩]) (.block 0 (.seq (.region [0,2,6,9] [
  ⟨some 10,.bin .eql (.t 6) (.c (.p (.str [115,111,114,116]))),none⟩,⟨some 9,.move (.t 10),none⟩]) (.cond (.t 9) (.region [] [⟨some 11,.move (.t 0),none⟩,⟨some 12,.faddr (.t 2) 2,none⟩,⟨some 13,.load none (.t 12),none⟩,⟨some 14,.call (.c (.fn 73 [] [])) [(.t 11),(.t 13)],none⟩]) (.seq (.seq (.region [0,2,6,15] [
  ⟨some 16,.bin .eql (.t 6) (.c (.p (.str [118,97,114]))),none⟩,⟨some 15,.move (.t 16),none⟩]) (.cond (.t 15) .skip (.region [0,2,6,15] [⟨some 17,.bin .eql (.t 6) (.c (.p (.str [102,105,101,108,100]))),none⟩,⟨some 15,.move (.t 17),none⟩]))) (.cond (.t 15) (.region [] [⟨some 18,.move (.t 0),none⟩,⟨some 19,.faddr (.t 2) 2,none⟩,⟨some 20,.load none (.t 19),none⟩,
  ⟨some 21,.call (.c (.fn 74 [] [])) [(.t 18),(.t 20)],none⟩]) (.seq (.region [0,2,6,22] [⟨some 23,.bin .eql (.t 6) (.c (.p (.str [112,114,101,100]))),none⟩,⟨some 22,.move (.t 23),none⟩]) (.cond (.t 22) (.region [] [⟨some 24,.move (.t 0),none⟩,⟨some 25,.faddr (.t 2) 2,none⟩,⟨some 26,.load none (.t 25),none⟩,⟨some 27,.call (.c (.fn 75 [] [])) [(.t 24),(.t 26)],none⟩])
  (.seq (.region [0,2,28] [⟨some 29,.bin .eql (.t 6) (.c (.p (.str [102,97,99,116]))),none⟩,⟨some 28,.move (.t 29),none⟩]) (.cond (.t 28) (.region [] [⟨some 30,.move (.t 0),none⟩,⟨some 31,.faddr (.t 2) 2,none⟩,⟨some 32,.load none (.t 31),none⟩,⟨some 33,.call (.c (.fn 76 [] [])) [(.t 30),(.t 32)],none⟩]) (.region [] [⟨some 7,.move (.t 0),none⟩,
  ⟨some 8,.call (.c (.fn 49 [] [])) [(.t 7)],none⟩]))))))))))))
theorem ok42 : FOk Tryz.prog 42 fc42 := FOk.of Tryz.func42 (by kernel_rfl)
def fc43 : FC where
 nt := 8
 np := 2
 res := [.cell 4 none]
 body := (.seq (.region [4] [⟨some 6,.move (.t 1),none⟩,⟨some 7,.call (.t 6) [],none⟩]) (.seq (.region [4] [⟨none,.store 1 (.t 4) (.c (.p (.bool true))),none⟩]) .ret))
 dfr := some ⟨[
  (.region [1,2,4] [
  ⟨some 2,.box (.t 0),none⟩,
  ⟨some 4,.alloc [.bool false],none⟩])],
  [1, 4], [
  ⟨some 5,.mkfn 77 [] [(.t 2),(.t 4)],none⟩],
  (.t 5),[]⟩
theorem ok43 : FOk Tryz.prog 43 fc43 := FOk.of Tryz.func43 (by kernel_rfl)
def fc44_b0 : SC :=
 (.seq (.seq (.draw [0,12] [(3,7)] [⟨some 3,.move (.t 0),none⟩,⟨some 4,.nilCheck (.t 3),none⟩,⟨some 5,.faddr (.t 4) 1,none⟩,⟨some 6,.load none (.t 5),none⟩,⟨some 7,.move (.t 0),none⟩,⟨some 8,.nilCheck (.t 7),none⟩,⟨some 9,.faddr (.t 8) 0,none⟩,⟨some 10,.load none (.t 9),none⟩,⟨some 11,.len 1 (.t 10),none⟩,⟨some 12,.bin .lss (.t 6) (.t 11),none⟩]) (.cond (.t 12) .skip
 (.exit 0))) (.block 1 (.seq (.draw [0,2] [(3,7)] [⟨some 13,.move (.t 0),none⟩,⟨some 14,.nilCheck (.t 13),none⟩,⟨some 15,.faddr (.t 14) 0,none⟩,⟨some 16,.load none (.t 15),none⟩,⟨some 17,.move (.t 0),none⟩,⟨some 18,.nilCheck (.t 17),none⟩,⟨some 19,.faddr (.t 18) 1,none⟩,⟨some 20,.load none (.t 19),none⟩,⟨some 21,.iaddr none 3 (.t 16) (.t 20),none⟩,
 ⟨some 22,.faddr (.t 21) 1,none⟩,⟨some 23,.load none (.t 22),none⟩,⟨some 2,.move (.t 23),none⟩]) (.seq (.region [0,2] [⟨some 24,.move (.t 0),none⟩,⟨some 25,.nilCheck (.t 24),none⟩,⟨some 26,.faddr (.t 25) 1,none⟩,⟨some 27,.load none (.t 26),none⟩,⟨some 28,.bin .add (.t 27) (.c (.p (.int .i64 1))),none⟩,⟨some 29,.nilCheck (.t 24),none⟩,⟨some 30,.faddr (.t 29) 1,none⟩,
 ⟨none,.store 1 (.t 30) (.t 28),none⟩]) (.seq (.region [0,36] [⟨some 31,.move (.t 2),none⟩,⟨some 32,.bin .eql (.t 31) (.c (.p (.str [59]))),none⟩,⟨some 33,.move (.t 32),none⟩,⟨some 34,.move (.t 2),some (33,false)⟩,⟨some 35,.bin .eql (.t 34) (.c (.p (.str [125]))),some (33,false)⟩,⟨some 36,.pick (.t 33) (.c (.p (.bool true))) (.t 35),none⟩]) (.cond (.t 36) .ret .skip))))))
def fc44 : FC where
 nt := 37
 np := 1
 res := []
 body := (.block 0 (.loop [0] fc44_b0))
theorem ok44 : FOk Tryz.prog 44 fc44 := FOk.of Tryz.func44 (by kernel_rfl)
def fc45_b0 : SC :=
 (.loc (.seq (.region [0,2,3,10,42,43,44,45] [⟨some 45,.bin .lss (.t 44) (.t 43),none⟩]) (.seq (.cond (.t 45) .skip (.exit 0)) (.seq (.block 1 (.seq (.region [0,2,3,10,12,42,43,44] [⟨some 46,.iaddr none 5 (.t 42) (.t 44),none⟩,⟨some 47,.load (some 5) (.t 46),none⟩,⟨some 12,.alloc [.int .i64 0,.str [],.int .i64 0,.nils,.int .i64 0],none⟩,
 ⟨none,.store 5 (.t 12) (.t 47),none⟩]) (.seq (.region [0,2,3,10,13,14,42,43,44] [⟨some 49,.move (.t 0),none⟩,⟨some 50,.load (some 5) (.t 12),none⟩,⟨some 51,.move (.t 2),none⟩,⟨some 52,.bin .add (.t 51) (.c (.p (.int .i64 1))),none⟩,⟨some 53,.move (.t 3),none⟩,⟨some 54,.move (.t 10),none⟩,⟨some 55,.bin .sub (.t 53) (.t 54),none⟩,
 ⟨some 56,.call (.c (.fn 45 [] [])) [(.t 49),(.t 50),(.t 52),(.t 55)],none⟩,⟨some 48,.move (.t 56),none⟩,⟨some 57,.extract (.t 48) 0,none⟩,⟨some 58,.extract (.t 48) 1,none⟩,⟨some 13,.move (.t 57),none⟩,⟨some 14,.move (.t 58),none⟩]) (.seq (.seq (.region [0,2,3,10,13,42,43,44,60] [⟨some 59,.move (.t 14),none⟩,⟨some 60,.un .not (.t 59),none⟩]) (.cond (.t 60) (.seq
 (.region [8,9] [⟨some 8,.move (.c (.p (.int .i64 0))),none⟩,⟨some 9,.move (.c (.p (.bool false))),none⟩]) .ret) .skip)) (.region [0,2,3,10,42,43,44] [⟨some 61,.move (.t 10),none⟩,⟨some 62,.move (.t 13),none⟩,⟨some 63,.bin .add (.t 61) (.t 62),none⟩,⟨some 10,.move (.t 63),none⟩]))))) (.region [0,2,3,10,42,43,44] [
 ⟨some 64,.bin .add (.t 44) (.c (.p (.int .i64 1))),none⟩,⟨some 44,.move (.t 64),none⟩])))))
def fc45 : FC where
 nt := 66
 np := 4
 res := [.t 8, .t 9]
 body := (.seq (.region [0,2,3,5] [⟨some 5,.box (.t 1),none⟩,⟨some 8,.move (.c (.p (.int .i64 0))),none⟩,⟨some 9,.move (.c (.p (.bool false))),none⟩]) (.seq (.seq (.region [0,2,3,5,40] [⟨some 15,.move (.t 2),none⟩,⟨some 16,.bin .gtr (.t 15) (.c (.p (.int .i64 24))),none⟩,⟨some 17,.move (.t 16),none⟩,⟨some 18,.move (.t 3),some (17,false)⟩,
  ⟨some 19,.bin .lss (.t 18) (.c (.p (.int .i64 1))),some (17,false)⟩,⟨some 20,.pick (.t 17) (.c (.p (.bool true))) (.t 19),none⟩,⟨some 21,.move (.t 20),none⟩,⟨some 22,.faddr (.t 5) 3,some (21,false)⟩,⟨some 23,.load none (.t 22),some (21,false)⟩,⟨some 24,.len 1 (.t 23),some (21,false)⟩,⟨some 25,.bin .gtr (.t 24) (.c (.p (.int .i64 400))),some (21,false)⟩,
  ⟨some 26,.pick (.t 21) (.c (.p (.bool true))) (.t 25),none⟩,⟨some 27,.move (.t 26),none⟩,⟨some 28,.load (some 5) (.t 5),some (27,false)⟩,⟨some 29,.call (.c (.fn 78 [] [])) [(.t 28)],some (27,false)⟩,⟨some 30,.un .not (.t 29),some (27,false)⟩,⟨some 31,.pick (.t 27) (.c (.p (.bool true))) (.t 30),none⟩,⟨some 32,.move (.t 31),none⟩,⟨some 33,.move (.t 0),some (32,false)⟩,
  ⟨some 34,.faddr (.t 5) 0,some (32,false)⟩,⟨some 35,.load none (.t 34),some (32,false)⟩,⟨some 36,.faddr (.t 5) 3,some (32,false)⟩,⟨some 37,.load none (.t 36),some (32,false)⟩,⟨some 38,.call (.c (.fn 79 [] [])) [(.t 33),(.t 35),(.t 37)],some (32,false)⟩,⟨some 39,.un .not (.t 38),some (32,false)⟩,⟨some 40,.pick (.t 32) (.c (.p (.bool true))) (.t 39),none⟩])
  (.cond (.t 40) (.seq (.region [8,9] [⟨some 8,.move (.c (.p (.int .i64 0))),none⟩,⟨some 9,.move (.c (.p (.bool false))),none⟩]) .ret) .skip)) (.seq (.region [0,2,3,5,10] [⟨some 10,.move (.c (.p (.int .i64 1))),none⟩]) (.seq (.seq (.region [0,2,3,10,42,43,44] [⟨some 41,.faddr (.t 5) 3,none⟩,⟨some 42,.load none (.t 41),none⟩,⟨some 43,.len 1 (.t 42),none⟩,
  ⟨some 44,.move (.c (.p (.int .i64 0))),none⟩]) (.block 0 (.loop [0,2,3,10,42,43,44] fc45_b0))) (.seq (.region [8,9] [⟨some 65,.move (.t 10),none⟩,⟨some 8,.move (.t 65),none⟩,⟨some 9,.move (.c (.p (.bool true))),none⟩]) .ret)))))
theorem ok45 : FOk Tryz.prog 45 fc45 := FOk.of Tryz.func45 (by kernel_rfl)
def fc46 : FC where
 nt := 3
 np := 0
 res := [.t 0]
 body := (.seq (.region [] [⟨some 0,.move (.c (.p (.nilm))),none⟩]) (.seq (.region [0] [⟨some 1,.mkmap 13,none⟩,⟨none,.mapins 13 (.t 1) (.c (.p (.int .i64 1))) (.c (.p (.str []))),none⟩,⟨none,.mapins 13 (.t 1) (.c (.p (.int .i64 2))) (.c (.p (.str []))),none⟩,⟨none,.mapins 13 (.t 1) (.c (.p (.int .i64 3))) (.c (.p (.str []))),none⟩,
  ⟨none,.mapins 13 (.t 1) (.c (.p (.int .i64 4))) (.c (.p (.str []))),none⟩,⟨none,.mapins 13 (.t 1) (.c (.p (.int .i64 5))) (.c (.p (.str [101]))),none⟩,⟨none,.mapins 13 (.t 1) (.c (.p (.int .i64 6))) (.c (.p (.str [101,101]))),none⟩,⟨none,.mapins 13 (.t 1) (.c (.p (.int .i64 7))) (.c (.p (.str [101,101]))),none⟩,
  ⟨none,.mapins 13 (.t 1) (.c (.p (.int .i64 8))) (.c (.p (.str [101,101]))),none⟩,⟨none,.mapins 13 (.t 1) (.c (.p (.int .i64 9))) (.c (.p (.str [101,101]))),none⟩,⟨none,.mapins 13 (.t 1) (.c (.p (.int .i64 10))) (.c (.p (.str [101,101]))),none⟩,⟨none,.mapins 13 (.t 1) (.c (.p (.int .i64 11))) (.c (.p (.str [101]))),none⟩,
  ⟨none,.mapins 13 (.t 1) (.c (.p (.int .i64 12))) (.c (.p (.str [101]))),none⟩,⟨none,.mapins 13 (.t 1) (.c (.p (.int .i64 13))) (.c (.p (.str [101]))),none⟩,⟨none,.mapins 13 (.t 1) (.c (.p (.int .i64 14))) (.c (.p (.str [101,101]))),none⟩,⟨none,.mapins 13 (.t 1) (.c (.p (.int .i64 15))) (.c (.p (.str [101,102]))),none⟩,
  ⟨none,.mapins 13 (.t 1) (.c (.p (.int .i64 20))) (.c (.p (.str []))),none⟩,⟨none,.mapins 13 (.t 1) (.c (.p (.int .i64 21))) (.c (.p (.str [101]))),none⟩,⟨none,.mapins 13 (.t 1) (.c (.p (.int .i64 22))) (.c (.p (.str [105,105]))),none⟩,⟨none,.mapins 13 (.t 1) (.c (.p (.int .i64 23))) (.c (.p (.str [105,105]))),none⟩,
  ⟨none,.mapins 13 (.t 1) (.c (.p (.int .i64 30))) (.c (.p (.str []))),none⟩,⟨none,.mapins 13 (.t 1) (.c (.p (.int .i64 31))) (.c (.p (.str []))),none⟩,⟨none,.mapins 13 (.t 1) (.c (.p (.int .i64 32))) (.c (.p (.str [101,101]))),none⟩,⟨none,.mapins 13 (.t 1) (.c (.p (.int .i64 33))) (.c (.p (.str [101,101]))),none⟩,
  ⟨none,.mapins 13 (.t 1) (.c (.p (.int .i64 34))) (.c (.p (.str [101]))),none⟩,⟨none,.mapins 13 (.t 1) (.c (.p (.int .i64 35))) (.c (.p (.str [101]))),none⟩,⟨none,.mapins 13 (.t 1) (.c (.p (.int .i64 36))) (.c (.p (.str [101]))),none⟩,⟨none,.mapins 13 (.t 1) (.c (.p (.int .i64 37))) (.c (.p (.str [101]))),none⟩,
  ⟨none,.mapins 13 (.t 1) (.c (.p (.int .i64 38))) (.c (.p (.str [105,105]))),none⟩,⟨none,.mapins 13 (.t 1) (.c (.p (.int .i64 39))) (.c (.p (.str [105,105]))),none⟩,⟨none,.mapins 13 (.t 1) (.c (.p (.int .i64 40))) (.c (.p (.str [102]))),none⟩,⟨none,.mapins 13 (.t 1) (.c (.p (.int .i64 41))) (.c (.p (.str [102,102]))),none⟩,
  ⟨none,.mapins 13 (.t 1) (.c (.p (.int .i64 42))) (.c (.p (.str [102,102]))),none⟩,⟨none,.mapins 13 (.t 1) (.c (.p (.int .i64 43))) (.c (.p (.str [102,102]))),none⟩,⟨none,.mapins 13 (.t 1) (.c (.p (.int .i64 44))) (.c (.p (.str [102,102]))),none⟩,⟨none,.mapins 13 (.t 1) (.c (.p (.int .i64 45))) (.c (.p (.str [101,102]))),none⟩,
  ⟨none,.mapins 13 (.t 1) (.c (.p (.int .i64 46))) (.c (.p (.str [101,102]))),none⟩,⟨none,.mapins 13 (.t 1) (.c (.p (.int .i64 48))) (.c (.p (.str [102]))),none⟩,⟨none,.mapins 13 (.t 1) (.c (.p (.int .i64 49))) (.c (.p (.str [102]))),none⟩,⟨none,.mapins 13 (.t 1) (.c (.p (.int .i64 50))) (.c (.p (.str [102]))),none⟩,
  ⟨none,.mapins 13 (.t 1) (.c (.p (.int .i64 51))) (.c (.p (.str [102,102]))),none⟩,⟨some 2,.move (.t 1),none⟩,⟨some 0,.move (.t 2),none⟩]) .ret))
theorem ok46 : FOk Tryz.prog 46 fc46 := FOk.of Tryz.func46 (by kernel_rfl)
def fc47 : FC where
 nt := 16
 np := 2
 res := []
 body := (.seq (.region [0] [⟨some 2,.load none (.t 0),none⟩,⟨some 3,.call (.c (.fn 48 [] [])) [(.t 2)],none⟩,⟨none,.store 5 (.t 1) (.t 3),none⟩]) (.seq (.draw [0,13] [(0,4),(3,4),(0,7),(3,7)] [⟨some 4,.load none (.t 0),none⟩,⟨some 5,.nilCheck (.t 4),none⟩,⟨some 6,.faddr (.t 5) 1,none⟩,⟨some 7,.load none (.t 6),none⟩,⟨some 8,.load none (.t 0),none⟩,
  ⟨some 9,.nilCheck (.t 8),none⟩,⟨some 10,.faddr (.t 9) 0,none⟩,⟨some 11,.load none (.t 10),none⟩,⟨some 12,.len 1 (.t 11),none⟩,⟨some 13,.bin .lss (.t 7) (.t 12),none⟩]) (.cond (.t 13) (.region [] [⟨some 14,.load none (.t 0),none⟩,⟨some 15,.call (.c (.fn 49 [] [])) [(.t 14)],none⟩]) .skip)))
theorem ok47 : FOk Tryz.prog 47 fc47 := FOk.of Tryz.func47 (by kernel_rfl)
def fc48 : FC where
 nt := 22
 np := 1
 res := [.cell 2 (some 5)]
 body := (.seq (.region [0,2] [⟨some 2,.alloc [.int .i64 0,.str [],.int .i64 0,.nils,.int .i64 0],none⟩]) (.seq (.region [0,2,3] [⟨some 5,.move (.t 0),none⟩,⟨some 6,.call (.c (.fn 72 [] [])) [(.t 5),(.c (.p (.int .i64 0)))],none⟩,⟨some 7,.field (.t 6) 2 none,none⟩,⟨some 3,.move (.t 7),none⟩]) (.seq (.region [2,3,4] [⟨some 8,.move (.t 0),none⟩,
  ⟨some 9,.call (.c (.fn 80 [] [])) [(.t 8),(.c (.p (.int .i64 1)))],none⟩,⟨some 4,.alloc [.int .i64 0,.str [],.int .i64 0,.nils,.int .i64 0],none⟩,⟨none,.store 5 (.t 4) (.t 9),none⟩]) (.seq (.seq (.region [2,3,4,13] [⟨some 10,.faddr (.t 4) 0,none⟩,⟨some 11,.load none (.t 10),none⟩,⟨some 12,.call (.c (.fn 81 [] [])) [(.t 11)],none⟩,
  ⟨some 13,.bin .neq (.t 12) (.c (.p (.int .i64 3))),none⟩]) (.cond (.t 13) (.region [2,3,4] [⟨some 14,.move (.t 3),none⟩,⟨some 15,.call (.c (.fn 82 [] [])) [(.c (.p (.int .i64 43))),(.t 14)],none⟩]) .skip)) (.seq (.seq (.region [2,3,4,18] [⟨some 16,.load (some 5) (.t 4),none⟩,⟨some 17,.call (.c (.fn 15 [] [])) [(.t 16)],none⟩,⟨some 18,.un .not (.t 17),none⟩]) (.cond (.t 18)
  (.region [2,4] [⟨some 19,.move (.t 3),none⟩,⟨some 20,.call (.c (.fn 82 [] [])) [(.c (.p (.int .i64 2))),(.t 19)],none⟩]) .skip)) (.seq (.region [2] [⟨some 21,.load (some 5) (.t 4),none⟩,⟨none,.store 5 (.t 2) (.t 21),none⟩]) .ret))))))
 frz := true
theorem ok48 : FOk Tryz.prog 48 fc48 := FOk.of Tryz.func48 (by kernel_rfl)
def fc49 : FC where
 nt := 16
 np := 1
 res := []
 body := (.seq (.region [0,2] [⟨some 3,.move (.t 0),none⟩,⟨some 4,.call (.c (.fn 72 [] [])) [(.t 3),(.c (.p (.int .i64 0)))],none⟩,⟨some 2,.alloc [.int .i64 0,.str [],.int .i64 0],none⟩,⟨none,.store 3 (.t 2) (.t 4),none⟩]) (.seq (.seq (.region [0,2,7] [⟨some 5,.faddr (.t 2) 0,none⟩,⟨some 6,.load none (.t 5),none⟩,⟨some 7,.bin .eql (.t 6) (.c (.p (.int .i64 0))),none⟩])
  (.cond (.t 7) (.region [2] [⟨some 8,.move (.t 0),none⟩,⟨some 9,.nilCheck (.t 8),none⟩,⟨some 10,.faddr (.t 9) 2,none⟩,⟨some 11,.load none (.t 10),none⟩,⟨some 12,.call (.c (.fn 82 [] [])) [(.c (.p (.int .i64 21))),(.t 11)],none⟩]) .skip)) (.region [] [⟨some 13,.faddr (.t 2) 2,none⟩,⟨some 14,.load none (.t 13),none⟩,
  ⟨some 15,.call (.c (.fn 82 [] [])) [(.c (.p (.int .i64 20))),(.t 14)],none⟩])))
theorem ok49 : FOk Tryz.prog 49 fc49 := FOk.of Tryz.func49 (by kernel_rfl)
def fc50_b0 : SC :=
 (.loc (.seq (.seq (.region [1,2,5,6,16] [⟨some 7,.move (.t 6),none⟩,⟨some 8,.faddr (.t 2) 3,none⟩,⟨some 9,.load none (.t 8),none⟩,⟨some 10,.len 1 (.t 9),none⟩,⟨some 11,.bin .lss (.t 7) (.t 10),none⟩,⟨some 12,.move (.t 11),none⟩,⟨some 13,.move (.t 5),some (12,true)⟩,⟨some 14,.move (.t 1),some (12,true)⟩,⟨some 15,.bin .leq (.t 13) (.t 14),some (12,true)⟩,
 ⟨some 16,.pick (.t 12) (.t 15) (.c (.p (.bool false))),none⟩]) (.cond (.t 16) .skip (.exit 0))) (.seq (.block 1 (.region [1,2,5,6] [⟨some 19,.move (.t 5),none⟩,⟨some 20,.faddr (.t 2) 3,none⟩,⟨some 21,.load none (.t 20),none⟩,⟨some 22,.move (.t 6),none⟩,⟨some 23,.iaddr none 5 (.t 21) (.t 22),none⟩,⟨some 24,.load (some 5) (.t 23),none⟩,⟨some 25,.move (.t 1),none⟩,
 ⟨some 26,.move (.t 5),none⟩,⟨some 27,.bin .sub (.t 25) (.t 26),none⟩,⟨some 28,.call (.c (.fn 50 [] [])) [(.t 24),(.t 27)],none⟩,⟨some 29,.bin .add (.t 19) (.t 28),none⟩,⟨some 5,.move (.t 29),none⟩])) (.region [1,2,5,6] [⟨some 17,.move (.t 6),none⟩,⟨some 18,.bin .add (.t 17) (.c (.p (.int .i64 1))),none⟩,⟨some 6,.move (.t 18),none⟩]))))
def fc50 : FC where
 nt := 31
 np := 2
 res := [.t 4]
 body := (.seq (.region [1,2] [⟨some 2,.box (.t 0),none⟩,⟨some 4,.move (.c (.p (.int .i64 0))),none⟩]) (.seq (.region [1,2,5] [⟨some 5,.move (.c (.p (.int .i64 1))),none⟩]) (.seq (.seq (.region [1,2,5,6] [⟨some 6,.move (.c (.p (.int .i64 0))),none⟩]) (.block 0 (.loop [1,2,5,6] fc50_b0))) (.seq (.region [4] [⟨some 30,.move (.t 5),none⟩,⟨some 4,.move (.t 30),none⟩]) .ret))))
theorem ok50 : FOk Tryz.prog 50 fc50 := FOk.of Tryz.func50 (by kernel_rfl)
def fc51 : FC where
 nt := 26
 np := 1
 res := [.t 2]
 body := (.seq (.region [0] [⟨some 2,.move (.c (.p (.str []))),none⟩]) (.seq (.seq (.region [0,4] [⟨some 3,.move (.t 0),none⟩,⟨some 4,.bin .lss (.t 3) (.c (.p (.int .i64 0))),none⟩]) (.cond (.t 4) (.seq (.region [2] [⟨some 5,.move (.t 0),none⟩,⟨some 6,.un .neg (.t 5),none⟩,⟨some 7,.call (.c (.fn 51 [] [])) [(.t 6)],none⟩,⟨some 8,.bin .add (.c (.p (.str [45]))) (.t 7),none⟩,
  ⟨some 2,.move (.t 8),none⟩]) .ret) .skip)) (.seq (.seq (.region [0,10] [⟨some 9,.move (.t 0),none⟩,⟨some 10,.bin .lss (.t 9) (.c (.p (.int .i64 10))),none⟩]) (.cond (.t 10) (.seq (.region [2] [⟨some 11,.move (.t 0),none⟩,⟨some 12,.bin .add (.c (.p (.int .i64 48))) (.t 11),none⟩,⟨some 13,.conv .u8 (.t 12),none⟩,⟨some 14,.bslice 5 1 1 (.int .u8 0) [(0,(.t 13))],none⟩,
  ⟨some 15,.toStr (.t 14),none⟩,⟨some 2,.move (.t 15),none⟩]) .ret) .skip)) (.seq (.region [2] [⟨some 16,.move (.t 0),none⟩,⟨some 17,.bin .quo (.t 16) (.c (.p (.int .i64 10))),none⟩,⟨some 18,.bin .add (.c (.p (.int .i64 48))) (.t 17),none⟩,⟨some 19,.conv .u8 (.t 18),none⟩,⟨some 20,.move (.t 0),none⟩,⟨some 21,.bin .rem (.t 20) (.c (.p (.int .i64 10))),none⟩,
  ⟨some 22,.bin .add (.c (.p (.int .i64 48))) (.t 21),none⟩,⟨some 23,.conv .u8 (.t 22),none⟩,⟨some 24,.bslice 5 1 2 (.int .u8 0) [(0,(.t 19)),(1,(.t 23))],none⟩,⟨some 25,.toStr (.t 24),none⟩,⟨some 2,.move (.t 25),none⟩]) .ret))))
theorem ok51 : FOk Tryz.prog 51 fc51 := FOk.of Tryz.func51 (by kernel_rfl)
def fc52 : FC where
 nt := 7
 np := 1
 res := [.t 2]
 body := (.seq (.region [1] [⟨some 1,.box (.t 0),none⟩,⟨some 2,.move (.c (.p (.str []))),none⟩]) (.seq (.region [2] [⟨some 3,.load (some 5) (.t 1),none⟩,⟨some 4,.call (.c (.fn 19 [] [])) [(.t 3)],none⟩,⟨some 5,.bin .add (.c (.p (.str [40]))) (.t 4),none⟩,⟨some 6,.bin .add (.t 5) (.c (.p (.str [41]))),none⟩,⟨some 2,.move (.t 6),none⟩]) .ret))
theorem ok52 : FOk Tryz.prog 52 fc52 := FOk.of Tryz.func52 (by kernel_rfl)
def fc53_b0 : SC :=
 (.loc (.seq (.seq (.region [0,3,4,11] [⟨some 8,.move (.t 4),none⟩,⟨some 9,.move (.t 3),none⟩,⟨some 10,.len 1 (.t 9),none⟩,⟨some 11,.bin .lss (.t 8) (.t 10),none⟩]) (.cond (.t 11) .skip (.exit 0))) (.seq (.block 1 (.seq (.region [0,3,4,5] [⟨some 15,.move (.t 3),none⟩,⟨some 16,.move (.t 4),none⟩,⟨some 17,.iaddr none 1 (.t 15) (.t 16),none⟩,
 ⟨some 18,.load none (.t 17),none⟩,⟨some 19,.call (.c (.fn 83 [] [])) [(.t 18)],none⟩,⟨some 14,.move (.t 19),none⟩,⟨some 20,.extract (.t 14) 0,none⟩,⟨some 21,.extract (.t 14) 1,none⟩,⟨some 5,.move (.t 20),none⟩,⟨some 6,.move (.t 21),none⟩]) (.seq (.region [0,3,4,24] [⟨some 22,.move (.t 5),none⟩,⟨some 23,.move (.t 0),none⟩,⟨some 24,.bin .eql (.t 22) (.t 23),none⟩])
 (.cond (.t 24) (.seq (.region [2] [⟨some 25,.move (.t 3),none⟩,⟨some 26,.move (.t 4),none⟩,⟨some 27,.iaddr none 1 (.t 25) (.t 26),none⟩,⟨some 28,.load none (.t 27),none⟩,⟨some 2,.move (.t 28),none⟩]) .ret) .skip)))) (.region [0,3,4] [⟨some 12,.move (.t 4),none⟩,⟨some 13,.bin .add (.t 12) (.c (.p (.int .i64 1))),none⟩,⟨some 4,.move (.t 13),none⟩]))))
def fc53 : FC where
 nt := 38
 np := 1
 res := [.t 2]
 body := (.seq (.region [0] [⟨some 2,.move (.c (.p (.str []))),none⟩]) (.seq (.region [0,3] [
  ⟨some 7,.bslice 9 1 12 (.str []) [(0,(.c (.p (.str [110,111,116])))),(1,(.c (.p (.str [97,108,119,97,121,115])))),(2,(.c (.p (.str [101,118,101,110,116,117,97,108,108,121])))),(3,(.c (.p (.str [97,102,116,101,114])))),(4,(.c (.p (.str [110,111])))),(5,(.c (.p (.str [115,111,109,101])))),(6,(.c (.p (.str [111,110,101])))),(7,(.c (.p (.str [108,111,110,101])))),(8,(.c (.p (.str [35])))),(9,(.c (.p (.str [126])))),(10,(.c (.p (.str [94])))),(11,(.c (.p (.str [42]))))],none⟩,
  ⟨some 3,.move (.t 7),none⟩]) (.seq (.seq (.region [0,3,4] [⟨some 4,.move (.c (.p (.int .i64 0))),none⟩]) (.block 0 (.loop [0,3,4] fc53_b0))) (.seq (.seq (.region [29] [⟨some 29,.move (.t 0),none⟩]) (.block 2 (.seq (.region [29,30] [⟨some 31,.bin .eql (.t 29) (.c (.p (.int .i64 30))),none⟩,⟨some 30,.move (.t 31),none⟩]) (.cond (.t 30) (.seq (.region [2] [
  ⟨some 2,.move (.c (.p (.str [116,114,117,101]))),none⟩]) .ret) (.seq (.region [29,32] [⟨some 33,.bin .eql (.t 29) (.c (.p (.int .i64 31))),none⟩,⟨some 32,.move (.t 33),none⟩]) (.cond (.t 32) (.seq (.region [2] [⟨some 2,.move (.c (.p (.str [102,97,108,115,101]))),none⟩]) .ret) (.seq (.region [29,34] [⟨some 35,.bin .eql (.t 29) (.c (.p (.int .i64 3))),none⟩,
  ⟨some 34,.move (.t 35),none⟩]) (.cond (.t 34) (.seq (.region [2] [⟨some 2,.move (.c (.p (.str [117,110,105,118]))),none⟩]) .ret) (.seq (.region [36] [⟨some 37,.bin .eql (.t 29) (.c (.p (.int .i64 4))),none⟩,⟨some 36,.move (.t 37),none⟩]) (.cond (.t 36) (.seq (.region [2] [⟨some 2,.move (.c (.p (.str [105,100,101,110]))),none⟩]) .ret) .skip)))))))))) (.seq (.region [2] [
  ⟨some 2,.move (.c (.p (.str []))),none⟩]) .ret)))))
theorem ok53 : FOk Tryz.prog 53 fc53 := FOk.of Tryz.func53 (by kernel_rfl)
def fc54_b0 : SC :=
 (.loc (.seq (.seq (.region [0,3,4,9] [⟨some 6,.move (.t 4),none⟩,⟨some 7,.move (.t 3),none⟩,⟨some 8,.len 1 (.t 7),none⟩,⟨some 9,.bin .lss (.t 6) (.t 8),none⟩]) (.cond (.t 9) .skip (.exit 0))) (.seq (.block 1 (.seq (.region [0,3,4,27] [⟨some 12,.move (.t 3),none⟩,⟨some 13,.move (.t 4),none⟩,⟨some 14,.iaddr none 1 (.t 12) (.t 13),none⟩,⟨some 15,.load none (.t 14),none⟩,
 ⟨some 16,.call (.c (.fn 23 [] [])) [(.t 15),(.c (.p (.int .u8 101)))],none⟩,⟨some 17,.move (.t 0),none⟩,⟨some 18,.bin .eql (.t 16) (.t 17),none⟩,⟨some 19,.move (.t 18),none⟩,⟨some 20,.move (.t 3),some (19,false)⟩,⟨some 21,.move (.t 4),some (19,false)⟩,⟨some 22,.iaddr none 1 (.t 20) (.t 21),some (19,false)⟩,⟨some 23,.load none (.t 22),some (19,false)⟩,
 ⟨some 24,.call (.c (.fn 23 [] [])) [(.t 23),(.c (.p (.int .u8 0)))],some (19,false)⟩,⟨some 25,.move (.t 0),some (19,false)⟩,⟨some 26,.bin .eql (.t 24) (.t 25),some (19,false)⟩,⟨some 27,.pick (.t 19) (.c (.p (.bool true))) (.t 26),none⟩]) (.cond (.t 27) (.seq (.region [2] [⟨some 28,.move (.t 3),none⟩,⟨some 29,.move (.t 4),none⟩,⟨some 30,.iaddr none 1 (.t 28) (.t 29),none⟩,
 ⟨some 31,.load none (.t 30),none⟩,⟨some 2,.move (.t 31),none⟩]) .ret) .skip))) (.region [0,3,4] [⟨some 10,.move (.t 4),none⟩,⟨some 11,.bin .add (.t 10) (.c (.p (.int .i64 1))),none⟩,⟨some 4,.move (.t 11),none⟩]))))
def fc54 : FC where
 nt := 32
 np := 1
 res := [.t 2]
 body := (.seq (.region [0] [⟨some 2,.move (.c (.p (.str []))),none⟩]) (.seq (.region [0,3] [
  ⟨some 5,.bslice 9 1 14 (.str []) [(0,(.c (.p (.str [60,61,62])))),(1,(.c (.p (.str [61,62])))),(2,(.c (.p (.str [124,124])))),(3,(.c (.p (.str [38,38])))),(4,(.c (.p (.str [117,110,116,105,108])))),(5,(.c (.p (.str [105,110])))),(6,(.c (.p (.str [61])))),(7,(.c (.p (.str [60])))),(8,(.c (.p (.str [43])))),(9,(.c (.p (.str [45])))),(10,(.c (.p (.str [43,43])))),(11,(.c (.p (.str [38])))),(12,(.c (.p (.str [45,62])))),(13,(.c (.p (.str [46]))))],none⟩,
  ⟨some 3,.move (.t 5),none⟩]) (.seq (.seq (.region [0,3,4] [⟨some 4,.move (.c (.p (.int .i64 0))),none⟩]) (.block 0 (.loop [0,3,4] fc54_b0))) (.seq (.region [2] [⟨some 2,.move (.c (.p (.str []))),none⟩]) .ret))))
theorem ok54 : FOk Tryz.prog 54 fc54 := FOk.of Tryz.func54 (by kernel_rfl)
def fc55_b0 : SC :=
 (.loc (.seq (.seq (.draw [0,15] [(3,7)] [⟨some 6,.move (.t 0),none⟩,⟨some 7,.nilCheck (.t 6),none⟩,⟨some 8,.faddr (.t 7) 0,none⟩,⟨some 9,.load none (.t 8),none⟩,⟨some 10,.move (.t 0),none⟩,⟨some 11,.nilCheck (.t 10),none⟩,⟨some 12,.faddr (.t 11) 1,none⟩,⟨some 13,.load none (.t 12),none⟩,⟨some 14,.slice 0 (.t 9) (some (.t 13)) none,none⟩,
 ⟨some 15,.call (.c (.fn 86 [] [])) [(.t 14),(.c (.p (.str [47,47])))],none⟩]) (.cond (.t 15) .skip (.exit 0))) (.seq (.block 1 (.region [0] [⟨some 20,.move (.t 0),none⟩,⟨some 21,.move (.t 0),none⟩,⟨some 22,.mkfn 87 [(.t 21)] [],none⟩,⟨some 23,.call (.c (.fn 84 [] [])) [(.t 20),(.t 22)],none⟩])) (.region [0] [⟨some 16,.move (.t 0),none⟩,⟨some 17,.move (.t 0),none⟩,
 ⟨some 18,.mkfn 85 [(.t 17)] [],none⟩,⟨some 19,.call (.c (.fn 84 [] [])) [(.t 16),(.t 18)],none⟩]))))
def fc55 : FC where
 nt := 24
 np := 1
 res := []
 body := (.seq (.region [0] [⟨some 2,.move (.t 0),none⟩,⟨some 3,.move (.t 0),none⟩,⟨some 4,.mkfn 85 [(.t 3)] [],none⟩,⟨some 5,.call (.c (.fn 84 [] [])) [(.t 2),(.t 4)],none⟩]) (.block 0 (.loop [0] fc55_b0)))
theorem ok55 : FOk Tryz.prog 55 fc55 := FOk.of Tryz.func55 (by kernel_rfl)
def fc56 : FC where
 nt := 43
 np := 1
 res := [.cell 2 (some 3), .t 3]
 body := (.seq (.region [0,2] [⟨some 2,.alloc [.int .i64 0,.str [],.int .i64 0],none⟩,⟨some 3,.move (.c (.p (.bool false))),none⟩]) (.seq (.region [0,2,4] [⟨some 6,.move (.t 0),none⟩,⟨some 7,.nilCheck (.t 6),none⟩,⟨some 8,.faddr (.t 7) 1,none⟩,⟨some 9,.load none (.t 8),none⟩,⟨some 10,.build [.int .i64 0,.str [],.int .i64 0] [(2,1,(.t 9))],none⟩,
  ⟨some 4,.alloc [.int .i64 0,.str [],.int .i64 0],none⟩,⟨none,.store 3 (.t 4) (.t 10),none⟩]) (.seq (.region [0,2,4] [⟨some 5,.move (.c (.p (.bool true))),none⟩]) (.seq (.block 0 (.seq (.region [0,2,4,18] [⟨some 19,.move (.t 0),none⟩,⟨some 20,.call (.c (.fn 88 [] [])) [(.t 19)],none⟩,⟨some 18,.move (.t 20),none⟩]) (.cond (.t 18) (.seq (.region [0,2,4] [
  ⟨some 21,.faddr (.t 4) 0,none⟩,⟨none,.store 1 (.t 21) (.c (.p (.int .i64 1))),none⟩]) (.seq (.region [2,4] [⟨some 22,.move (.t 0),none⟩,⟨some 23,.move (.t 0),none⟩,⟨some 24,.mkfn 89 [(.t 23)] [],none⟩,⟨some 25,.call (.c (.fn 84 [] [])) [(.t 22),(.t 24)],none⟩,⟨some 26,.faddr (.t 4) 1,none⟩,⟨none,.store 1 (.t 26) (.t 25),none⟩]) (.region [2,4,5] [
  ⟨some 27,.faddr (.t 4) 1,none⟩,⟨some 28,.load none (.t 27),none⟩,⟨some 29,.len 0 (.t 28),none⟩,⟨some 30,.bin .leq (.t 29) (.c (.p (.int .i64 16))),none⟩,⟨some 5,.move (.t 30),none⟩]))) (.seq (.region [0,2,4,31] [⟨some 32,.move (.t 0),none⟩,⟨some 33,.call (.c (.fn 90 [] [])) [(.t 32)],none⟩,⟨some 31,.move (.t 33),none⟩]) (.cond (.t 31) (.seq (.region [0,2,4] [
  ⟨some 34,.faddr (.t 4) 0,none⟩,⟨none,.store 1 (.t 34) (.c (.p (.int .i64 2))),none⟩]) (.region [2,4,5] [⟨some 36,.move (.t 0),none⟩,⟨some 37,.call (.c (.fn 91 [] [])) [(.t 36)],none⟩,⟨some 35,.move (.t 37),none⟩,⟨some 38,.extract (.t 35) 0,none⟩,⟨some 39,.extract (.t 35) 1,none⟩,⟨some 40,.faddr (.t 4) 1,none⟩,⟨none,.store 1 (.t 40) (.t 38),none⟩,
  ⟨some 5,.move (.t 39),none⟩])) (.seq (.region [0,2,4] [⟨some 11,.faddr (.t 4) 0,none⟩,⟨none,.store 1 (.t 11) (.c (.p (.int .i64 3))),none⟩]) (.region [2,4,5] [⟨some 13,.move (.t 0),none⟩,⟨some 14,.call (.c (.fn 92 [] [])) [(.t 13)],none⟩,⟨some 12,.move (.t 14),none⟩,⟨some 15,.extract (.t 12) 0,none⟩,⟨some 16,.extract (.t 12) 1,none⟩,⟨some 17,.faddr (.t 4) 1,none⟩,
  ⟨none,.store 1 (.t 17) (.t 15),none⟩,⟨some 5,.move (.t 16),none⟩]))))))) (.seq (.region [2,3] [⟨some 41,.load (some 3) (.t 4),none⟩,⟨some 42,.move (.t 5),none⟩,⟨none,.store 3 (.t 2) (.t 41),none⟩,⟨some 3,.move (.t 42),none⟩]) .ret)))))
theorem ok56 : FOk Tryz.prog 56 fc56 := FOk.of Tryz.func56 (by kernel_rfl)
def fc68_b0 : SC :=
 (.loc (.seq (.region [1,2,15,16,17,18] [⟨some 18,.bin .lss (.t 17) (.t 16),none⟩]) (.seq (.cond (.t 18) .skip (.exit 0)) (.seq (.block 1 (.seq (.region [1,2,7,8,15,16,17] [⟨some 19,.move (.t 17),none⟩,⟨some 20,.iaddr none 5 (.t 15) (.t 17),none⟩,⟨some 21,.load (some 5) (.t 20),none⟩,⟨some 8,.alloc [.int .i64 0,.str [],.int .i64 0,.nils,.int .i64 0],none⟩,
 ⟨some 7,.move (.t 19),none⟩,⟨none,.store 5 (.t 8) (.t 21),none⟩]) (.seq (.region [1,2,8,9,15,16,17] [⟨some 22,.move (.t 1),none⟩,⟨some 23,.move (.t 7),none⟩,⟨some 24,.iaddr none 5 (.t 22) (.t 23),none⟩,⟨some 25,.load (some 5) (.t 24),none⟩,⟨some 9,.alloc [.int .i64 0,.str [],.int .i64 0,.nils,.int .i64 0],none⟩,⟨none,.store 5 (.t 9) (.t 25),none⟩]) (.seq
 (.region [1,2,15,16,17,30] [⟨some 26,.move (.t 2),none⟩,⟨some 27,.load (some 5) (.t 8),none⟩,⟨some 28,.load (some 5) (.t 9),none⟩,⟨some 29,.call (.t 26) [(.t 27),(.t 28)],none⟩,⟨some 30,.un .not (.t 29),none⟩]) (.cond (.t 30) (.seq (.region [6] [⟨some 6,.move (.c (.p (.bool false))),none⟩]) .ret) .skip))))) (.region [1,2,15,16,17] [
 ⟨some 31,.bin .add (.t 17) (.c (.p (.int .i64 1))),none⟩,⟨some 17,.move (.t 31),none⟩])))))
def fc68 : FC where
 nt := 32
 np := 3
 res := [.t 6]
 body := (.seq (.region [0,1,2] [⟨some 6,.move (.c (.p (.bool false))),none⟩]) (.seq (.seq (.region [0,1,2,14] [⟨some 10,.move (.t 0),none⟩,⟨some 11,.len 1 (.t 10),none⟩,⟨some 12,.move (.t 1),none⟩,⟨some 13,.len 1 (.t 12),none⟩,⟨some 14,.bin .neq (.t 11) (.t 13),none⟩]) (.cond (.t 14) (.seq (.region [6] [⟨some 6,.move (.c (.p (.bool false))),none⟩]) .ret) .skip)) (.seq (.seq
  (.region [1,2,15,16,17] [⟨some 15,.move (.t 0),none⟩,⟨some 16,.len 1 (.t 15),none⟩,⟨some 17,.move (.c (.p (.int .i64 0))),none⟩]) (.block 0 (.loop [1,2,15,16,17] fc68_b0))) (.seq (.region [6] [⟨some 6,.move (.c (.p (.bool true))),none⟩]) .ret))))
theorem ok68 : FOk Tryz.prog 68 fc68 := FOk.of Tryz.func68 (by kernel_rfl)
def fc69_b0 : SC :=
 (.loc (.seq (.seq (.region [1,2,5,6,17] [⟨some 8,.move (.t 6),none⟩,⟨some 9,.faddr (.t 2) 3,none⟩,⟨some 10,.load none (.t 9),none⟩,⟨some 11,.len 1 (.t 10),none⟩,⟨some 12,.bin .lss (.t 8) (.t 11),none⟩,⟨some 13,.move (.t 12),none⟩,⟨some 14,.move (.t 5),some (13,true)⟩,⟨some 15,.move (.t 1),some (13,true)⟩,⟨some 16,.bin .leq (.t 14) (.t 15),some (13,true)⟩,
 ⟨some 17,.pick (.t 13) (.t 16) (.c (.p (.bool false))),none⟩]) (.cond (.t 17) .skip (.exit 0))) (.seq (.block 1 (.seq (.region [1,2,5,6,7] [⟨some 20,.faddr (.t 2) 3,none⟩,⟨some 21,.load none (.t 20),none⟩,⟨some 22,.move (.t 6),none⟩,⟨some 23,.iaddr none 5 (.t 21) (.t 22),none⟩,⟨some 24,.load (some 5) (.t 23),none⟩,⟨some 25,.move (.t 1),none⟩,⟨some 26,.move (.t 5),none⟩,
 ⟨some 27,.bin .sub (.t 25) (.t 26),none⟩,⟨some 28,.call (.c (.fn 69 [] [])) [(.t 24),(.t 27)],none⟩,⟨some 7,.move (.t 28),none⟩]) (.region [1,2,5,6] [⟨some 29,.move (.t 5),none⟩,⟨some 30,.move (.t 7),none⟩,⟨some 31,.bin .add (.t 29) (.t 30),none⟩,⟨some 5,.move (.t 31),none⟩]))) (.region [1,2,5,6] [⟨some 18,.move (.t 6),none⟩,
 ⟨some 19,.bin .add (.t 18) (.c (.p (.int .i64 1))),none⟩,⟨some 6,.move (.t 19),none⟩]))))
def fc69 : FC where
 nt := 33
 np := 2
 res := [.t 4]
 body := (.seq (.region [1,2] [⟨some 2,.box (.t 0),none⟩,⟨some 4,.move (.c (.p (.int .i64 0))),none⟩]) (.seq (.region [1,2,5] [⟨some 5,.move (.c (.p (.int .i64 1))),none⟩]) (.seq (.seq (.region [1,2,5,6] [⟨some 6,.move (.c (.p (.int .i64 0))),none⟩]) (.block 0 (.loop [1,2,5,6] fc69_b0))) (.seq (.region [4] [⟨some 32,.move (.t 5),none⟩,⟨some 4,.move (.t 32),none⟩]) .ret))))
theorem ok69 : FOk Tryz.prog 69 fc69 := FOk.of Tryz.func69 (by kernel_rfl)
def fc70 : FC where
 nt := 19
 np := 0
 res := [.t 0]
 body := (.seq (.region [] [⟨some 0,.move (.c (.p (.nilm))),none⟩]) (.seq (.region [0] [⟨some 1,.mkmap 2,none⟩,⟨some 2,.build [.int .i64 0,.bool false,.int .i64 0,.int .i64 0] [(0,1,(.c (.p (.int .i64 1)))),(1,1,(.c (.p (.bool false)))),(2,1,(.c (.p (.int .i64 0)))),(3,1,(.c (.p (.int .i64 44))))],none⟩,⟨none,.mapins 2 (.t 1) (.c (.p (.str [60,61,62]))) (.t 2),none⟩,
  ⟨some 3,.build [.int .i64 0,.bool false,.int .i64 0,.int .i64 0] [(0,1,(.c (.p (.int .i64 2)))),(1,1,(.c (.p (.bool true)))),(2,1,(.c (.p (.int .i64 0)))),(3,1,(.c (.p (.int .i64 43))))],none⟩,⟨none,.mapins 2 (.t 1) (.c (.p (.str [61,62]))) (.t 3),none⟩,
  ⟨some 4,.build [.int .i64 0,.bool false,.int .i64 0,.int .i64 0] [(0,1,(.c (.p (.int .i64 3)))),(1,1,(.c (.p (.bool false)))),(2,1,(.c (.p (.int .i64 0)))),(3,1,(.c (.p (.int .i64 42))))],none⟩,⟨none,.mapins 2 (.t 1) (.c (.p (.str [124,124]))) (.t 4),none⟩,
  ⟨some 5,.build [.int .i64 0,.bool false,.int .i64 0,.int .i64 0] [(0,1,(.c (.p (.int .i64 4)))),(1,1,(.c (.p (.bool false)))),(2,1,(.c (.p (.int .i64 0)))),(3,1,(.c (.p (.int .i64 41))))],none⟩,⟨none,.mapins 2 (.t 1) (.c (.p (.str [38,38]))) (.t 5),none⟩,
  ⟨some 6,.build [.int .i64 0,.bool false,.int .i64 0,.int .i64 0] [(0,1,(.c (.p (.int .i64 5)))),(1,1,(.c (.p (.bool true)))),(2,1,(.c (.p (.int .i64 0)))),(3,1,(.c (.p (.int .i64 51))))],none⟩,⟨none,.mapins 2 (.t 1) (.c (.p (.str [117,110,116,105,108]))) (.t 6),none⟩,
  ⟨some 7,.build [.int .i64 0,.bool false,.int .i64 0,.int .i64 0] [(0,1,(.c (.p (.int .i64 7)))),(1,1,(.c (.p (.bool false)))),(2,1,(.c (.p (.int .i64 32)))),(3,1,(.c (.p (.int .i64 0))))],none⟩,⟨none,.mapins 2 (.t 1) (.c (.p (.str [105,110]))) (.t 7),none⟩,
  ⟨some 8,.build [.int .i64 0,.bool false,.int .i64 0,.int .i64 0] [(0,1,(.c (.p (.int .i64 7)))),(1,1,(.c (.p (.bool false)))),(2,1,(.c (.p (.int .i64 33)))),(3,1,(.c (.p (.int .i64 38))))],none⟩,⟨none,.mapins 2 (.t 1) (.c (.p (.str [61]))) (.t 8),none⟩,
  ⟨some 9,.build [.int .i64 0,.bool false,.int .i64 0,.int .i64 0] [(0,1,(.c (.p (.int .i64 7)))),(1,1,(.c (.p (.bool false)))),(2,1,(.c (.p (.int .i64 33)))),(3,1,(.c (.p (.int .i64 38))))],none⟩,⟨none,.mapins 2 (.t 1) (.c (.p (.str [33,61]))) (.t 9),none⟩,
  ⟨some 10,.build [.int .i64 0,.bool false,.int .i64 0,.int .i64 0] [(0,1,(.c (.p (.int .i64 7)))),(1,1,(.c (.p (.bool false)))),(2,1,(.c (.p (.int .i64 0)))),(3,1,(.c (.p (.int .i64 39))))],none⟩,⟨none,.mapins 2 (.t 1) (.c (.p (.str [60]))) (.t 10),none⟩,
  ⟨some 11,.build [.int .i64 0,.bool false,.int .i64 0,.int .i64 0] [(0,1,(.c (.p (.int .i64 7)))),(1,1,(.c (.p (.bool false)))),(2,1,(.c (.p (.int .i64 0)))),(3,1,(.c (.p (.int .i64 39))))],none⟩,⟨none,.mapins 2 (.t 1) (.c (.p (.str [60,61]))) (.t 11),none⟩,
  ⟨some 12,.build [.int .i64 0,.bool false,.int .i64 0,.int .i64 0] [(0,1,(.c (.p (.int .i64 8)))),(1,1,(.c (.p (.bool false)))),(2,1,(.c (.p (.int .i64 6)))),(3,1,(.c (.p (.int .i64 22))))],none⟩,⟨none,.mapins 2 (.t 1) (.c (.p (.str [43]))) (.t 12),none⟩,
  ⟨some 13,.build [.int .i64 0,.bool false,.int .i64 0,.int .i64 0] [(0,1,(.c (.p (.int .i64 8)))),(1,1,(.c (.p (.bool false)))),(2,1,(.c (.p (.int .i64 8)))),(3,1,(.c (.p (.int .i64 23))))],none⟩,⟨none,.mapins 2 (.t 1) (.c (.p (.str [45]))) (.t 13),none⟩,
  ⟨some 14,.build [.int .i64 0,.bool false,.int .i64 0,.int .i64 0] [(0,1,(.c (.p (.int .i64 9)))),(1,1,(.c (.p (.bool false)))),(2,1,(.c (.p (.int .i64 14)))),(3,1,(.c (.p (.int .i64 0))))],none⟩,⟨none,.mapins 2 (.t 1) (.c (.p (.str [43,43]))) (.t 14),none⟩,
  ⟨some 15,.build [.int .i64 0,.bool false,.int .i64 0,.int .i64 0] [(0,1,(.c (.p (.int .i64 10)))),(1,1,(.c (.p (.bool false)))),(2,1,(.c (.p (.int .i64 7)))),(3,1,(.c (.p (.int .i64 0))))],none⟩,⟨none,.mapins 2 (.t 1) (.c (.p (.str [38]))) (.t 15),none⟩,
  ⟨some 16,.build [.int .i64 0,.bool false,.int .i64 0,.int .i64 0] [(0,1,(.c (.p (.int .i64 11)))),(1,1,(.c (.p (.bool false)))),(2,1,(.c (.p (.int .i64 10)))),(3,1,(.c (.p (.int .i64 0))))],none⟩,⟨none,.mapins 2 (.t 1) (.c (.p (.str [45,62]))) (.t 16),none⟩,
  ⟨some 17,.build [.int .i64 0,.bool false,.int .i64 0,.int .i64 0] [(0,1,(.c (.p (.int .i64 12)))),(1,1,(.c (.p (.bool false)))),(2,1,(.c (.p (.int .i64 9)))),(3,1,(.c (.p (.int .i64 0))))],none⟩,⟨none,.mapins 2 (.t 1) (.c (.p (.str [46]))) (.t 17),none⟩,⟨some 18,.move (.t 1),none⟩,⟨some 0,.move (.t 18),none⟩]) .ret))
theorem ok70 : FOk Tryz.prog 70 fc70 := FOk.of Tryz.func70 (by kernel_rfl)
def fc71 : FC where
 nt := 15
 np := 0
 res := [.t 0]
 body := (.seq (.region [] [⟨some 0,.move (.c (.p (.nilm))),none⟩]) (.seq (.region [0] [⟨some 1,.mkmap 2,none⟩,⟨some 2,.build [.int .i64 0,.int .i64 0] [(0,1,(.c (.p (.int .i64 6)))),(1,1,(.c (.p (.int .i64 40))))],none⟩,⟨none,.mapins 2 (.t 1) (.c (.p (.str [110,111,116]))) (.t 2),none⟩,
  ⟨some 3,.build [.int .i64 0,.int .i64 0] [(0,1,(.c (.p (.int .i64 6)))),(1,1,(.c (.p (.int .i64 48))))],none⟩,⟨none,.mapins 2 (.t 1) (.c (.p (.str [97,108,119,97,121,115]))) (.t 3),none⟩,⟨some 4,.build [.int .i64 0,.int .i64 0] [(0,1,(.c (.p (.int .i64 6)))),(1,1,(.c (.p (.int .i64 49))))],none⟩,
  ⟨none,.mapins 2 (.t 1) (.c (.p (.str [101,118,101,110,116,117,97,108,108,121]))) (.t 4),none⟩,⟨some 5,.build [.int .i64 0,.int .i64 0] [(0,1,(.c (.p (.int .i64 6)))),(1,1,(.c (.p (.int .i64 50))))],none⟩,⟨none,.mapins 2 (.t 1) (.c (.p (.str [97,102,116,101,114]))) (.t 5),none⟩,
  ⟨some 6,.build [.int .i64 0,.int .i64 0] [(0,1,(.c (.p (.int .i64 8)))),(1,1,(.c (.p (.int .i64 35))))],none⟩,⟨none,.mapins 2 (.t 1) (.c (.p (.str [110,111]))) (.t 6),none⟩,⟨some 7,.build [.int .i64 0,.int .i64 0] [(0,1,(.c (.p (.int .i64 8)))),(1,1,(.c (.p (.int .i64 34))))],none⟩,⟨none,.mapins 2 (.t 1) (.c (.p (.str [115,111,109,101]))) (.t 7),none⟩,
  ⟨some 8,.build [.int .i64 0,.int .i64 0] [(0,1,(.c (.p (.int .i64 8)))),(1,1,(.c (.p (.int .i64 36))))],none⟩,⟨none,.mapins 2 (.t 1) (.c (.p (.str [111,110,101]))) (.t 8),none⟩,⟨some 9,.build [.int .i64 0,.int .i64 0] [(0,1,(.c (.p (.int .i64 8)))),(1,1,(.c (.p (.int .i64 37))))],none⟩,⟨none,.mapins 2 (.t 1) (.c (.p (.str [108,111,110,101]))) (.t 9),none⟩,
  ⟨some 10,.build [.int .i64 0,.int .i64 0] [(0,1,(.c (.p (.int .i64 12)))),(1,1,(.c (.p (.int .i64 21))))],none⟩,⟨none,.mapins 2 (.t 1) (.c (.p (.str [35]))) (.t 10),none⟩,⟨some 11,.build [.int .i64 0,.int .i64 0] [(0,1,(.c (.p (.int .i64 13)))),(1,1,(.c (.p (.int .i64 11))))],none⟩,⟨none,.mapins 2 (.t 1) (.c (.p (.str [126]))) (.t 11),none⟩,
  ⟨some 12,.build [.int .i64 0,.int .i64 0] [(0,1,(.c (.p (.int .i64 13)))),(1,1,(.c (.p (.int .i64 12))))],none⟩,⟨none,.mapins 2 (.t 1) (.c (.p (.str [94]))) (.t 12),none⟩,⟨some 13,.build [.int .i64 0,.int .i64 0] [(0,1,(.c (.p (.int .i64 13)))),(1,1,(.c (.p (.int .i64 13))))],none⟩,⟨none,.mapins 2 (.t 1) (.c (.p (.str [42]))) (.t 13),none⟩,⟨some 14,.move (.t 1),none⟩,
  ⟨some 0,.move (.t 14),none⟩]) .ret))
theorem ok71 : FOk Tryz.prog 71 fc71 := FOk.of Tryz.func71 (by kernel_rfl)
def fc72 : FC where
 nt := 34
 np := 2
 res := [.cell 4 (some 3)]
 body := (.seq (.region [0,1,4] [⟨some 4,.alloc [.int .i64 0,.str [],.int .i64 0],none⟩]) (.seq (.seq (.draw [0,1,4,16] [(3,9)] [⟨some 5,.move (.t 0),none⟩,⟨some 6,.nilCheck (.t 5),none⟩,⟨some 7,.faddr (.t 6) 1,none⟩,⟨some 8,.load none (.t 7),none⟩,⟨some 9,.move (.t 1),none⟩,⟨some 10,.bin .add (.t 8) (.t 9),none⟩,⟨some 11,.move (.t 0),none⟩,
  ⟨some 12,.nilCheck (.t 11),none⟩,⟨some 13,.faddr (.t 12) 0,none⟩,⟨some 14,.load none (.t 13),none⟩,⟨some 15,.len 1 (.t 14),none⟩,⟨some 16,.bin .lss (.t 10) (.t 15),none⟩]) (.cond (.t 16) (.seq (.draw [4] [(3,7)] [⟨some 17,.move (.t 0),none⟩,⟨some 18,.nilCheck (.t 17),none⟩,⟨some 19,.faddr (.t 18) 0,none⟩,⟨some 20,.load none (.t 19),none⟩,⟨some 21,.move (.t 0),none⟩,
  ⟨some 22,.nilCheck (.t 21),none⟩,⟨some 23,.faddr (.t 22) 1,none⟩,⟨some 24,.load none (.t 23),none⟩,⟨some 25,.move (.t 1),none⟩,⟨some 26,.bin .add (.t 24) (.t 25),none⟩,⟨some 27,.iaddr none 3 (.t 20) (.t 26),none⟩,⟨some 28,.load (some 3) (.t 27),none⟩,⟨none,.store 3 (.t 4) (.t 28),none⟩]) .ret) .skip)) (.seq (.region [4] [⟨some 29,.move (.t 0),none⟩,
  ⟨some 30,.nilCheck (.t 29),none⟩,⟨some 31,.faddr (.t 30) 2,none⟩,⟨some 32,.load none (.t 31),none⟩,⟨some 33,.build [.int .i64 0,.str [],.int .i64 0] [(2,1,(.t 32))],none⟩,⟨none,.store 3 (.t 4) (.t 33),none⟩]) .ret)))
theorem ok72 : FOk Tryz.prog 72 fc72 := FOk.of Tryz.func72 (by kernel_rfl)
def fc73 : FC where
 nt := 40
 np := 2
 res := []
 body := (.seq (.region [0] [⟨some 5,.move (.t 0),none⟩,⟨some 6,.nilCheck (.t 5),none⟩,⟨some 7,.faddr (.t 6) 8,none⟩,⟨some 8,.faddr (.t 7) 0,none⟩,⟨some 9,.load none (.t 8),none⟩,⟨some 10,.len 1 (.t 9),none⟩,⟨some 11,.move (.t 1),none⟩,⟨some 12,.call (.c (.fn 119 [] [])) [(.t 10),(.c (.p (.int .i64 4))),(.t 11)],none⟩]) (.seq (.region [0] [⟨some 13,.move (.t 0),none⟩,
  ⟨some 14,.nilCheck (.t 13),none⟩,⟨some 15,.faddr (.t 14) 1,none⟩,⟨some 16,.load none (.t 15),none⟩,⟨some 17,.bin .add (.t 16) (.c (.p (.int .i64 1))),none⟩,⟨some 18,.nilCheck (.t 13),none⟩,⟨some 19,.faddr (.t 18) 1,none⟩,⟨none,.store 1 (.t 19) (.t 17),none⟩]) (.seq (.region [0,4] [⟨some 20,.move (.t 0),none⟩,⟨some 21,.call (.c (.fn 120 [] [])) [(.t 20)],none⟩,
  ⟨some 22,.field (.t 21) 1 none,none⟩,⟨some 23,.move (.t 0),none⟩,⟨some 24,.call (.c (.fn 121 [] [])) [(.t 23),(.c (.p (.str [111,114,100,101,114,101,100])))],none⟩,⟨some 25,.build [.str [],.bool false] [(0,1,(.t 22)),(1,1,(.t 24))],none⟩,⟨some 4,.alloc [.str [],.bool false],none⟩,⟨none,.store 2 (.t 4) (.t 25),none⟩]) (.seq (.region [0,4] [
  ⟨some 26,.move (.t 0),none⟩,⟨some 27,.call (.c (.fn 122 [] [])) [(.t 26),(.c (.p (.str [59])))],none⟩]) (.draw [] [(5,6)] [⟨some 28,.move (.t 0),none⟩,⟨some 29,.move (.t 0),none⟩,⟨some 30,.nilCheck (.t 29),none⟩,⟨some 31,.faddr (.t 30) 8,none⟩,⟨some 32,.faddr (.t 31) 0,none⟩,⟨some 33,.load none (.t 32),none⟩,⟨some 34,.load (some 2) (.t 4),none⟩,
  ⟨some 35,.bslice 81 2 1 (.agg [.str [],.bool false]) [(0,(.t 34))],none⟩,⟨some 36,.append 81 2 24 (.t 33) (.t 35),none⟩,⟨some 37,.nilCheck (.t 28),none⟩,⟨some 38,.faddr (.t 37) 8,none⟩,⟨some 39,.faddr (.t 38) 0,none⟩,⟨none,.store 1 (.t 39) (.t 36),none⟩])))))
theorem ok73 : FOk Tryz.prog 73 fc73 := FOk.of Tryz.func73 (by kernel_rfl)
def fc74_b0 : SC :=
 (.loc (.seq (.seq (.region [0,4,38] [⟨some 31,.faddr (.t 4) 1,none⟩,⟨some 32,.load none (.t 31),none⟩,⟨some 33,.len 1 (.t 32),none⟩,⟨some 34,.bin .lss (.t 33) (.c (.p (.int .i64 3))),none⟩,⟨some 35,.move (.t 34),none⟩,⟨some 36,.move (.t 0),some (35,true)⟩,⟨some 37,.call (.c (.fn 121 [] [])) [(.t 36),(.c (.p (.str [45,62])))],some (35,true)⟩,
 ⟨some 38,.pick (.t 35) (.t 37) (.c (.p (.bool false))),none⟩]) (.cond (.t 38) .skip (.exit 0))) (.block 1 (.draw [0,4] [(1,3)] [⟨some 39,.faddr (.t 4) 1,none⟩,⟨some 40,.load none (.t 39),none⟩,⟨some 41,.move (.t 0),none⟩,⟨some 42,.call (.c (.fn 123 [] [])) [(.t 41)],none⟩,⟨some 43,.bslice 3 1 1 (.int .i64 0) [(0,(.t 42))],none⟩,⟨some 44,.append 3 1 8 (.t 40) (.t 43),none⟩,
 ⟨some 45,.faddr (.t 4) 1,none⟩,⟨none,.store 1 (.t 45) (.t 44),none⟩]))))
def fc74 : FC where
 nt := 60
 np := 2
 res := []
 body := (.seq (.region [0] [⟨some 5,.move (.t 0),none⟩,⟨some 6,.nilCheck (.t 5),none⟩,⟨some 7,.faddr (.t 6) 8,none⟩,⟨some 8,.faddr (.t 7) 1,none⟩,⟨some 9,.load none (.t 8),none⟩,⟨some 10,.len 1 (.t 9),none⟩,⟨some 11,.move (.t 1),none⟩,⟨some 12,.call (.c (.fn 119 [] [])) [(.t 10),(.c (.p (.int .i64 6))),(.t 11)],none⟩]) (.seq (.region [0,4] [
  ⟨some 13,.move (.t 0),none⟩,⟨some 14,.call (.c (.fn 121 [] [])) [(.t 13),(.c (.p (.str [118,97,114])))],none⟩,⟨some 15,.build [.str [],.nils,.bool false] [(2,1,(.t 14))],none⟩,⟨some 4,.alloc [.str [],.nils,.bool false],none⟩,⟨none,.store 3 (.t 4) (.t 15),none⟩]) (.seq (.region [0,4] [⟨some 16,.move (.t 0),none⟩,
  ⟨some 17,.call (.c (.fn 122 [] [])) [(.t 16),(.c (.p (.str [102,105,101,108,100])))],none⟩]) (.seq (.region [0,4] [⟨some 18,.move (.t 0),none⟩,⟨some 19,.call (.c (.fn 120 [] [])) [(.t 18)],none⟩,⟨some 20,.field (.t 19) 1 none,none⟩,⟨some 21,.faddr (.t 4) 0,none⟩,⟨none,.store 1 (.t 21) (.t 20),none⟩]) (.seq (.region [0,4] [⟨some 22,.move (.t 0),none⟩,
  ⟨some 23,.call (.c (.fn 122 [] [])) [(.t 22),(.c (.p (.str [58])))],none⟩]) (.seq (.draw [0,4] [(1,3)] [⟨some 24,.faddr (.t 4) 1,none⟩,⟨some 25,.load none (.t 24),none⟩,⟨some 26,.move (.t 0),none⟩,⟨some 27,.call (.c (.fn 123 [] [])) [(.t 26)],none⟩,⟨some 28,.bslice 3 1 1 (.int .i64 0) [(0,(.t 27))],none⟩,⟨some 29,.append 3 1 8 (.t 25) (.t 28),none⟩,
  ⟨some 30,.faddr (.t 4) 1,none⟩,⟨none,.store 1 (.t 30) (.t 29),none⟩]) (.seq (.block 0 (.loop [0,4] fc74_b0)) (.seq (.region [0,4] [⟨some 46,.move (.t 0),none⟩,⟨some 47,.call (.c (.fn 122 [] [])) [(.t 46),(.c (.p (.str [59])))],none⟩]) (.draw [] [(5,6)] [⟨some 48,.move (.t 0),none⟩,⟨some 49,.move (.t 0),none⟩,⟨some 50,.nilCheck (.t 49),none⟩,
  ⟨some 51,.faddr (.t 50) 8,none⟩,⟨some 52,.faddr (.t 51) 1,none⟩,⟨some 53,.load none (.t 52),none⟩,⟨some 54,.load (some 3) (.t 4),none⟩,⟨some 55,.bslice 70 3 1 (.agg [.str [],.nils,.bool false]) [(0,(.t 54))],none⟩,⟨some 56,.append 70 3 48 (.t 53) (.t 55),none⟩,⟨some 57,.nilCheck (.t 48),none⟩,⟨some 58,.faddr (.t 57) 8,none⟩,⟨some 59,.faddr (.t 58) 1,none⟩,
  ⟨none,.store 1 (.t 59) (.t 56),none⟩])))))))))
theorem ok74 : FOk Tryz.prog 74 fc74 := FOk.of Tryz.func74 (by kernel_rfl)
def fc75_b0 : SC :=
 (.loc (.seq (.seq (.region [0,4,29] [⟨some 27,.move (.t 0),none⟩,⟨some 28,.call (.c (.fn 121 [] [])) [(.t 27),(.c (.p (.str [93])))],none⟩,⟨some 29,.un .not (.t 28),none⟩]) (.cond (.t 29) .skip (.exit 0))) (.block 1 (.seq (.seq (.region [0,4,33] [⟨some 30,.faddr (.t 4) 1,none⟩,⟨some 31,.load none (.t 30),none⟩,⟨some 32,.len 1 (.t 31),none⟩,
 ⟨some 33,.bin .gtr (.t 32) (.c (.p (.int .i64 0))),none⟩]) (.cond (.t 33) (.region [0,4] [⟨some 34,.move (.t 0),none⟩,⟨some 35,.call (.c (.fn 122 [] [])) [(.t 34),(.c (.p (.str [44])))],none⟩]) .skip)) (.seq (.region [0,4,5] [⟨some 36,.move (.t 0),none⟩,⟨some 37,.call (.c (.fn 120 [] [])) [(.t 36)],none⟩,⟨some 5,.alloc [.int .i64 0,.str [],.int .i64 0],none⟩,
 ⟨none,.store 3 (.t 5) (.t 37),none⟩]) (.seq (.region [0,4,5] [⟨some 38,.move (.t 0),none⟩,⟨some 39,.call (.c (.fn 122 [] [])) [(.t 38),(.c (.p (.str [58])))],none⟩]) (.draw [0,4] [(1,3),(1,5),(3,5)] [⟨some 40,.faddr (.t 4) 1,none⟩,⟨some 41,.load none (.t 40),none⟩,⟨some 42,.faddr (.t 5) 1,none⟩,⟨some 43,.load none (.t 42),none⟩,⟨some 44,.move (.t 0),none⟩,
 ⟨some 45,.call (.c (.fn 123 [] [])) [(.t 44)],none⟩,⟨some 46,.build [.str [],.int .i64 0] [(0,1,(.t 43)),(1,1,(.t 45))],none⟩,⟨some 47,.bslice 72 2 1 (.agg [.str [],.int .i64 0]) [(0,(.t 46))],none⟩,⟨some 48,.append 72 2 24 (.t 41) (.t 47),none⟩,⟨some 49,.faddr (.t 4) 1,none⟩,⟨none,.store 1 (.t 49) (.t 48),none⟩])))))))
def fc75 : FC where
 nt := 65
 np := 2
 res := []
 body := (.seq (.region [0] [⟨some 6,.move (.t 0),none⟩,⟨some 7,.nilCheck (.t 6),none⟩,⟨some 8,.faddr (.t 7) 8,none⟩,⟨some 9,.faddr (.t 8) 2,none⟩,⟨some 10,.load none (.t 9),none⟩,⟨some 11,.len 1 (.t 10),none⟩,⟨some 12,.move (.t 1),none⟩,⟨some 13,.call (.c (.fn 119 [] [])) [(.t 11),(.c (.p (.int .i64 8))),(.t 12)],none⟩]) (.seq (.region [0] [⟨some 14,.move (.t 0),none⟩,
  ⟨some 15,.nilCheck (.t 14),none⟩,⟨some 16,.faddr (.t 15) 1,none⟩,⟨some 17,.load none (.t 16),none⟩,⟨some 18,.bin .add (.t 17) (.c (.p (.int .i64 1))),none⟩,⟨some 19,.nilCheck (.t 14),none⟩,⟨some 20,.faddr (.t 19) 1,none⟩,⟨none,.store 1 (.t 20) (.t 18),none⟩]) (.seq (.region [0,4] [⟨some 21,.move (.t 0),none⟩,⟨some 22,.call (.c (.fn 120 [] [])) [(.t 21)],none⟩,
  ⟨some 23,.field (.t 22) 1 none,none⟩,⟨some 24,.build [.str [],.nils,.int .i64 0,.str [],.int .i64 0,.nils,.int .i64 0] [(0,1,(.t 23))],none⟩,⟨some 4,.alloc [.str [],.nils,.int .i64 0,.str [],.int .i64 0,.nils,.int .i64 0],none⟩,⟨none,.store 7 (.t 4) (.t 24),none⟩]) (.seq (.tokb 4 1 72 2) (.seq (.region [0,4] [⟨some 25,.move (.t 0),none⟩,
  ⟨some 26,.call (.c (.fn 122 [] [])) [(.t 25),(.c (.p (.str [91])))],none⟩]) (.seq (.block 0 (.loop [0,4] fc75_b0)) (.seq (.region [0,4] [⟨some 50,.move (.t 0),none⟩,⟨some 51,.call (.c (.fn 124 [] [])) [(.t 50)],none⟩,⟨some 52,.faddr (.t 4) 2,none⟩,⟨none,.store 5 (.t 52) (.t 51),none⟩]) (.draw [] [(5,6)] [⟨some 53,.move (.t 0),none⟩,⟨some 54,.move (.t 0),none⟩,
  ⟨some 55,.nilCheck (.t 54),none⟩,⟨some 56,.faddr (.t 55) 8,none⟩,⟨some 57,.faddr (.t 56) 2,none⟩,⟨some 58,.load none (.t 57),none⟩,⟨some 59,.load (some 7) (.t 4),none⟩,⟨some 60,.bslice 41 7 1 (.agg [.str [],.nils,.int .i64 0,.str [],.int .i64 0,.nils,.int .i64 0]) [(0,(.t 59))],none⟩,⟨some 61,.append 41 7 104 (.t 58) (.t 60),none⟩,⟨some 62,.nilCheck (.t 53),none⟩,
  ⟨some 63,.faddr (.t 62) 8,none⟩,⟨some 64,.faddr (.t 63) 2,none⟩,⟨none,.store 1 (.t 64) (.t 61),none⟩]))))))))
theorem ok75 : FOk Tryz.prog 75 fc75 := FOk.of Tryz.func75 (by kernel_rfl)
def fc76 : FC where
 nt := 39
 np := 2
 res := []
 body := (.seq (.region [0] [⟨some 5,.move (.t 0),none⟩,⟨some 6,.nilCheck (.t 5),none⟩,⟨some 7,.faddr (.t 6) 8,none⟩,⟨some 8,.faddr (.t 7) 3,none⟩,⟨some 9,.load none (.t 8),none⟩,⟨some 10,.len 1 (.t 9),none⟩,⟨some 11,.move (.t 1),none⟩,⟨some 12,.call (.c (.fn 119 [] [])) [(.t 10),(.c (.p (.int .i64 16))),(.t 11)],none⟩]) (.seq (.region [0] [⟨some 13,.move (.t 0),none⟩,
  ⟨some 14,.nilCheck (.t 13),none⟩,⟨some 15,.faddr (.t 14) 1,none⟩,⟨some 16,.load none (.t 15),none⟩,⟨some 17,.bin .add (.t 16) (.c (.p (.int .i64 1))),none⟩,⟨some 18,.nilCheck (.t 13),none⟩,⟨some 19,.faddr (.t 18) 1,none⟩,⟨none,.store 1 (.t 19) (.t 17),none⟩]) (.seq (.region [0,4] [⟨some 20,.move (.t 0),none⟩,⟨some 21,.call (.c (.fn 120 [] [])) [(.t 20)],none⟩,
  ⟨some 22,.field (.t 21) 1 none,none⟩,⟨some 23,.build [.str [],.int .i64 0,.str [],.int .i64 0,.nils,.int .i64 0] [(0,1,(.t 22))],none⟩,⟨some 4,.alloc [.str [],.int .i64 0,.str [],.int .i64 0,.nils,.int .i64 0],none⟩,⟨none,.store 6 (.t 4) (.t 23),none⟩]) (.seq (.region [0,4] [⟨some 24,.move (.t 0),none⟩,⟨some 25,.call (.c (.fn 124 [] [])) [(.t 24)],none⟩,
  ⟨some 26,.faddr (.t 4) 1,none⟩,⟨none,.store 5 (.t 26) (.t 25),none⟩]) (.draw [] [(5,6)] [⟨some 27,.move (.t 0),none⟩,⟨some 28,.move (.t 0),none⟩,⟨some 29,.nilCheck (.t 28),none⟩,⟨some 30,.faddr (.t 29) 8,none⟩,⟨some 31,.faddr (.t 30) 3,none⟩,⟨some 32,.load none (.t 31),none⟩,⟨some 33,.load (some 6) (.t 4),none⟩,
  ⟨some 34,.bslice 44 6 1 (.agg [.str [],.int .i64 0,.str [],.int .i64 0,.nils,.int .i64 0]) [(0,(.t 33))],none⟩,⟨some 35,.append 44 6 80 (.t 32) (.t 34),none⟩,⟨some 36,.nilCheck (.t 27),none⟩,⟨some 37,.faddr (.t 36) 8,none⟩,⟨some 38,.faddr (.t 37) 3,none⟩,⟨none,.store 1 (.t 38) (.t 35),none⟩])))))
theorem ok76 : FOk Tryz.prog 76 fc76 := FOk.of Tryz.func76 (by kernel_rfl)
def fc77 : FC where
 nt := 30
 np := 2
 res := []
 body := (.seq (.region [0,1,2] [⟨some 5,.move (.t 5),none⟩,⟨some 2,.move (.t 5),none⟩]) (.seq (.region [0,1,2,7] [⟨some 6,.move (.t 2),none⟩,⟨some 7,.eqk 4 true (.t 6) (.c (.p (.nili))),none⟩]) (.cond (.t 7) (.seq (.region [0,1,2,3,4] [⟨some 9,.move (.t 2),none⟩,⟨some 10,.tassert 123 (.agg [.int .i64 0,.int .i64 0]) true (.t 9),none⟩,⟨some 8,.move (.t 10),none⟩,
  ⟨some 11,.extract (.t 8) 0,none⟩,⟨some 12,.extract (.t 8) 1,none⟩,⟨some 3,.alloc [.int .i64 0,.int .i64 0],none⟩,⟨none,.store 2 (.t 3) (.t 11),none⟩,⟨some 4,.move (.t 12),none⟩]) (.seq (.seq (.region [0,1,2,3,14] [⟨some 13,.move (.t 4),none⟩,⟨some 14,.un .not (.t 13),none⟩]) (.cond (.t 14) (.region [0,1,3] [⟨some 15,.move (.t 2),none⟩,⟨none,.panic (.t 15),none⟩])
  .skip)) (.seq (.draw [0,1] [(0,1),(0,4),(0,6),(1,6),(4,6),(0,8)] [⟨some 16,.load none (.t 0),none⟩,⟨some 17,.load none (.t 0),none⟩,⟨some 18,.nilCheck (.t 17),none⟩,⟨some 19,.faddr (.t 18) 7,none⟩,⟨some 20,.load none (.t 19),none⟩,⟨some 21,.faddr (.t 3) 0,none⟩,⟨some 22,.load (some 2) (.t 21),none⟩,
  ⟨some 23,.bslice 34 2 1 (.agg [.int .i64 0,.int .i64 0]) [(0,(.t 22))],none⟩,⟨some 24,.append 34 2 16 (.t 20) (.t 23),none⟩,⟨some 25,.nilCheck (.t 16),none⟩,⟨some 26,.faddr (.t 25) 7,none⟩,⟨none,.store 1 (.t 26) (.t 24),none⟩]) (.seq (.region [1] [⟨some 27,.load none (.t 0),none⟩,⟨some 28,.nilCheck (.t 27),none⟩,⟨some 29,.faddr (.t 28) 3,none⟩,
  ⟨none,.store 1 (.t 29) (.c (.p (.int .i64 0))),none⟩]) (.region [] [⟨none,.store 1 (.t 1) (.c (.p (.bool false))),none⟩]))))) .skip)))
theorem ok77 : DOk Tryz.prog 77 5 fc77 := DOk.of Tryz.func77 (by kernel_rfl)
def fc78 : FC where
 nt := 57
 np := 1
 res := [.t 2]
 body := (.seq (.region [1] [⟨some 1,.box (.t 0),none⟩,⟨some 2,.move (.c (.p (.bool false))),none⟩]) (.seq (.seq (.region [1,4] [⟨some 3,.faddr (.t 1) 0,none⟩,⟨some 4,.load none (.t 3),none⟩]) (.block 0 (.seq (.seq (.region [1,4,5] [⟨some 6,.bin .eql (.t 4) (.c (.p (.int .i64 1))),none⟩,⟨some 5,.move (.t 6),none⟩]) (.cond (.t 5) .skip (.seq (.region [1,4,5] [
  ⟨some 7,.bin .eql (.t 4) (.c (.p (.int .i64 15))),none⟩,⟨some 5,.move (.t 7),none⟩]) (.cond (.t 5) .skip (.seq (.region [1,4,5] [⟨some 8,.bin .eql (.t 4) (.c (.p (.int .i64 45))),none⟩,⟨some 5,.move (.t 8),none⟩]) (.cond (.t 5) .skip (.seq (.region [1,4,5] [⟨some 9,.bin .eql (.t 4) (.c (.p (.int .i64 46))),none⟩,⟨some 5,.move (.t 9),none⟩]) (.cond (.t 5) .skip
  (.region [1,4,5] [⟨some 10,.bin .eql (.t 4) (.c (.p (.int .i64 47))),none⟩,⟨some 5,.move (.t 10),none⟩]))))))))) (.cond (.t 5) (.seq (.region [2] [⟨some 11,.faddr (.t 1) 1,none⟩,⟨some 12,.load none (.t 11),none⟩,⟨some 13,.call (.c (.fn 125 [] [])) [(.t 12)],none⟩,⟨some 14,.move (.t 13),none⟩,⟨some 15,.faddr (.t 1) 2,some (14,true)⟩,
  ⟨some 16,.load none (.t 15),some (14,true)⟩,⟨some 17,.bin .eql (.t 16) (.c (.p (.int .i64 0))),some (14,true)⟩,⟨some 18,.pick (.t 14) (.t 17) (.c (.p (.bool false))),none⟩,⟨some 2,.move (.t 18),none⟩]) .ret) (.seq (.region [1,4,19] [⟨some 20,.bin .eql (.t 4) (.c (.p (.int .i64 2))),none⟩,⟨some 19,.move (.t 20),none⟩]) (.cond (.t 19) (.seq (.region [2] [
  ⟨some 21,.faddr (.t 1) 1,none⟩,⟨some 22,.load none (.t 21),none⟩,⟨some 23,.bin .eql (.t 22) (.c (.p (.str []))),none⟩,⟨some 24,.move (.t 23),none⟩,⟨some 25,.faddr (.t 1) 2,some (24,true)⟩,⟨some 26,.load none (.t 25),some (24,true)⟩,⟨some 27,.bin .geq (.t 26) (.c (.p (.int .i64 1))),some (24,true)⟩,⟨some 28,.pick (.t 24) (.t 27) (.c (.p (.bool false))),none⟩,
  ⟨some 29,.move (.t 28),none⟩,⟨some 30,.faddr (.t 1) 2,some (29,true)⟩,⟨some 31,.load none (.t 30),some (29,true)⟩,⟨some 32,.bin .leq (.t 31) (.c (.p (.int .i64 3))),some (29,true)⟩,⟨some 33,.pick (.t 29) (.t 32) (.c (.p (.bool false))),none⟩,⟨some 2,.move (.t 33),none⟩]) .ret) (.seq (.region [1,34] [⟨some 35,.bin .eql (.t 4) (.c (.p (.int .i64 20))),none⟩,
  ⟨some 34,.move (.t 35),none⟩]) (.cond (.t 34) (.seq (.region [2] [⟨some 36,.faddr (.t 1) 1,none⟩,⟨some 37,.load none (.t 36),none⟩,⟨some 38,.bin .eql (.t 37) (.c (.p (.str []))),none⟩,⟨some 39,.move (.t 38),none⟩,⟨some 40,.faddr (.t 1) 2,some (39,true)⟩,⟨some 41,.load none (.t 40),some (39,true)⟩,⟨some 42,.bin .geq (.t 41) (.c (.p (.int .i64 (-64)))),some (39,true)⟩,
  ⟨some 43,.pick (.t 39) (.t 42) (.c (.p (.bool false))),none⟩,⟨some 44,.move (.t 43),none⟩,⟨some 45,.faddr (.t 1) 2,some (44,true)⟩,⟨some 46,.load none (.t 45),some (44,true)⟩,⟨some 47,.bin .leq (.t 46) (.c (.p (.int .i64 64))),some (44,true)⟩,⟨some 48,.pick (.t 44) (.t 47) (.c (.p (.bool false))),none⟩,⟨some 2,.move (.t 48),none⟩]) .ret) .skip)))))))) (.seq (.region [2] [
  ⟨some 49,.faddr (.t 1) 1,none⟩,⟨some 50,.load none (.t 49),none⟩,⟨some 51,.bin .eql (.t 50) (.c (.p (.str []))),none⟩,⟨some 52,.move (.t 51),none⟩,⟨some 53,.faddr (.t 1) 2,some (52,true)⟩,⟨some 54,.load none (.t 53),some (52,true)⟩,⟨some 55,.bin .eql (.t 54) (.c (.p (.int .i64 0))),some (52,true)⟩,⟨some 56,.pick (.t 52) (.t 55) (.c (.p (.bool false))),none⟩,
  ⟨some 2,.move (.t 56),none⟩]) .ret)))
theorem ok78 : FOk Tryz.prog 78 fc78 := FOk.of Tryz.func78 (by kernel_rfl)
def fc79_b0 : SC :=
 (.loc (.seq (.region [7,31,32,33,34] [⟨some 34,.bin .lss (.t 33) (.t 32),none⟩]) (.seq (.cond (.t 34) .skip (.exit 0)) (.seq (.block 1 (.seq (.region [7,9,10,31,32,33] [⟨some 35,.move (.t 33),none⟩,⟨some 36,.iaddr none 5 (.t 31) (.t 33),none⟩,⟨some 37,.load (some 5) (.t 36),none⟩,⟨some 10,.alloc [.int .i64 0,.str [],.int .i64 0,.nils,.int .i64 0],none⟩,
 ⟨some 9,.move (.t 35),none⟩,⟨none,.store 5 (.t 10) (.t 37),none⟩]) (.seq (.draw [7,31,32,33,45] [] [⟨some 38,.faddr (.t 10) 0,none⟩,⟨some 39,.load none (.t 38),none⟩,⟨some 40,.call (.c (.fn 81 [] [])) [(.t 39)],none⟩,⟨some 41,.index none (.c (.p (.str [63,101,105,102]))) (.t 40),none⟩,⟨some 42,.move (.t 7),none⟩,⟨some 43,.move (.t 9),none⟩,
 ⟨some 44,.index none (.t 42) (.t 43),none⟩,⟨some 45,.bin .neq (.t 41) (.t 44),none⟩]) (.cond (.t 45) (.seq (.region [6] [⟨some 6,.move (.c (.p (.bool false))),none⟩]) .ret) .skip)))) (.region [7,31,32,33] [⟨some 46,.bin .add (.t 33) (.c (.p (.int .i64 1))),none⟩,⟨some 33,.move (.t 46),none⟩])))))
def fc79 : FC where
 nt := 47
 np := 3
 res := [.t 6]
 body := (.seq (.region [0,1,2] [⟨some 6,.move (.c (.p (.bool false))),none⟩]) (.seq (.region [1,2,7,8] [⟨some 12,.move (.t 0),none⟩,⟨some 13,.move (.t 1),none⟩,⟨some 14,.mapget 13 (.str []) true (.t 12) (.t 13),none⟩,⟨some 11,.move (.t 14),none⟩,⟨some 15,.extract (.t 11) 0,none⟩,⟨some 16,.extract (.t 11) 1,none⟩,⟨some 7,.move (.t 15),none⟩,
  ⟨some 8,.move (.t 16),none⟩]) (.seq (.seq (.region [2,7,8,18] [⟨some 17,.move (.t 1),none⟩,⟨some 18,.bin .eql (.t 17) (.c (.p (.int .i64 47))),none⟩]) (.cond (.t 18) (.region [2,7,8] [⟨some 19,.move (.t 2),none⟩,⟨some 20,.len 1 (.t 19),none⟩,⟨some 21,.call (.c (.fn 126 [] [])) [(.c (.p (.str [101]))),(.t 20)],none⟩,⟨some 7,.move (.t 21),none⟩,
  ⟨some 8,.move (.c (.p (.bool true))),none⟩]) .skip)) (.seq (.seq (.region [2,7,30] [⟨some 22,.move (.t 8),none⟩,⟨some 23,.un .not (.t 22),none⟩,⟨some 24,.move (.t 23),none⟩,⟨some 25,.move (.t 2),some (24,false)⟩,⟨some 26,.len 1 (.t 25),some (24,false)⟩,⟨some 27,.move (.t 7),some (24,false)⟩,⟨some 28,.len 0 (.t 27),some (24,false)⟩,
  ⟨some 29,.bin .neq (.t 26) (.t 28),some (24,false)⟩,⟨some 30,.pick (.t 24) (.c (.p (.bool true))) (.t 29),none⟩]) (.cond (.t 30) (.seq (.region [6] [⟨some 6,.move (.c (.p (.bool false))),none⟩]) .ret) .skip)) (.seq (.seq (.region [7,31,32,33] [⟨some 31,.move (.t 2),none⟩,⟨some 32,.len 1 (.t 31),none⟩,⟨some 33,.move (.c (.p (.int .i64 0))),none⟩]) (.block 0
  (.loop [7,31,32,33] fc79_b0))) (.seq (.region [6] [⟨some 6,.move (.c (.p (.bool true))),none⟩]) .ret))))))
theorem ok79 : FOk Tryz.prog 79 fc79 := FOk.of Tryz.func79 (by kernel_rfl)
def fc80_b0 : SC :=
 (.loc (.block 1 (.seq (.region [0,1,4,5,6,7] [⟨some 35,.move (.t 0),none⟩,⟨some 36,.call (.c (.fn 72 [] [])) [(.t 35),(.c (.p (.int .i64 0)))],none⟩,⟨some 7,.alloc [.int .i64 0,.str [],.int .i64 0],none⟩,⟨none,.store 3 (.t 7) (.t 36),none⟩]) (.seq (.draw [0,1,4,5,6,7,8,9] [(3,5),(3,10),(5,10),(6,10)] [⟨some 38,.move (.t 0),none⟩,
 ⟨some 39,.nilCheck (.t 38),none⟩,⟨some 40,.faddr (.t 39) 4,none⟩,⟨some 41,.load none (.t 40),none⟩,⟨some 42,.faddr (.t 7) 1,none⟩,⟨some 43,.load none (.t 42),none⟩,⟨some 44,.mapget 2 (.agg [.int .i64 0,.bool false,.int .i64 0,.int .i64 0]) true (.t 41) (.t 43),none⟩,⟨some 37,.move (.t 44),none⟩,⟨some 45,.extract (.t 37) 0,none⟩,⟨some 46,.extract (.t 37) 1,none⟩,
 ⟨some 8,.alloc [.int .i64 0,.bool false,.int .i64 0,.int .i64 0],none⟩,⟨none,.store 4 (.t 8) (.t 45),none⟩,⟨some 9,.move (.t 46),none⟩]) (.seq (.seq (.region [0,1,4,5,7,8,67] [⟨some 47,.faddr (.t 7) 0,none⟩,⟨some 48,.load none (.t 47),none⟩,⟨some 49,.bin .eql (.t 48) (.c (.p (.int .i64 0))),none⟩,⟨some 50,.move (.t 49),none⟩,⟨some 51,.move (.t 9),some (50,false)⟩,
 ⟨some 52,.un .not (.t 51),some (50,false)⟩,⟨some 53,.pick (.t 50) (.c (.p (.bool true))) (.t 52),none⟩,⟨some 54,.move (.t 53),none⟩,⟨some 55,.faddr (.t 8) 0,some (54,false)⟩,⟨some 56,.load none (.t 55),some (54,false)⟩,⟨some 57,.move (.t 1),some (54,false)⟩,⟨some 58,.bin .lss (.t 56) (.t 57),some (54,false)⟩,⟨some 59,.pick (.t 54) (.c (.p (.bool true))) (.t 58),none⟩,
 ⟨some 60,.move (.t 59),none⟩,⟨some 61,.faddr (.t 8) 0,some (60,false)⟩,⟨some 62,.load none (.t 61),some (60,false)⟩,⟨some 63,.bin .eql (.t 62) (.c (.p (.int .i64 7))),some (60,false)⟩,⟨some 64,.move (.t 63),some (60,false)⟩,⟨some 65,.move (.t 6),some (64,true)⟩,⟨some 66,.pick (.t 64) (.t 65) (.c (.p (.bool false))),some (60,false)⟩,
 ⟨some 67,.pick (.t 60) (.c (.p (.bool true))) (.t 66),none⟩]) (.cond (.t 67) (.exit 0) .skip)) (.seq (.region [0,1,4,5,7,8] [⟨some 68,.move (.t 0),none⟩,⟨some 69,.nilCheck (.t 68),none⟩,⟨some 70,.faddr (.t 69) 1,none⟩,⟨some 71,.load none (.t 70),none⟩,⟨some 72,.bin .add (.t 71) (.c (.p (.int .i64 1))),none⟩,⟨some 73,.nilCheck (.t 68),none⟩,
 ⟨some 74,.faddr (.t 73) 1,none⟩,⟨none,.store 1 (.t 74) (.t 72),none⟩]) (.seq (.region [0,1,4,5,7,8,10] [⟨some 75,.faddr (.t 8) 0,none⟩,⟨some 76,.load none (.t 75),none⟩,⟨some 77,.bin .add (.t 76) (.c (.p (.int .i64 1))),none⟩,⟨some 10,.move (.t 77),none⟩]) (.seq (.seq (.region [0,1,4,5,7,8,10,79] [⟨some 78,.faddr (.t 8) 1,none⟩,⟨some 79,.load none (.t 78),none⟩])
 (.cond (.t 79) (.region [0,1,4,5,7,8,10] [⟨some 80,.faddr (.t 8) 0,none⟩,⟨some 81,.load none (.t 80),none⟩,⟨some 10,.move (.t 81),none⟩]) .skip)) (.seq (.draw [0,1,4,5,8] [(1,2),(1,3),(2,3),(1,6),(2,6),(3,6)] [⟨some 82,.move (.t 0),none⟩,⟨some 83,.load (some 3) (.t 7),none⟩,⟨some 84,.load (some 4) (.t 8),none⟩,⟨some 85,.load (some 5) (.t 5),none⟩,
 ⟨some 86,.move (.t 0),none⟩,⟨some 87,.move (.t 10),none⟩,⟨some 88,.call (.c (.fn 80 [] [])) [(.t 86),(.t 87)],none⟩,⟨some 89,.call (.c (.fn 128 [] [])) [(.t 82),(.t 83),(.t 84),(.t 85),(.t 88)],none⟩,⟨none,.store 5 (.t 5) (.t 89),none⟩]) (.region [0,1,4,5,6] [⟨some 90,.faddr (.t 8) 0,none⟩,⟨some 91,.load none (.t 90),none⟩,
 ⟨some 92,.bin .eql (.t 91) (.c (.p (.int .i64 7))),none⟩,⟨some 6,.move (.t 92),none⟩]))))))))))
def fc80 : FC where
 nt := 101
 np := 2
 res := [.cell 4 (some 5)]
 body := (.seq (.region [0,1,4] [⟨some 4,.alloc [.int .i64 0,.str [],.int .i64 0,.nils,.int .i64 0],none⟩]) (.seq (.seq (.region [0,1,4,21] [⟨some 11,.move (.t 0),none⟩,⟨some 12,.nilCheck (.t 11),none⟩,⟨some 13,.faddr (.t 12) 3,none⟩,⟨some 14,.load none (.t 13),none⟩,⟨some 15,.bin .geq (.t 14) (.c (.p (.int .i64 100))),none⟩,⟨some 16,.move (.t 15),none⟩,
  ⟨some 17,.move (.t 0),some (16,true)⟩,⟨some 18,.call (.c (.fn 72 [] [])) [(.t 17),(.c (.p (.int .i64 0)))],some (16,true)⟩,⟨some 19,.field (.t 18) 0 none,some (16,true)⟩,⟨some 20,.bin .neq (.t 19) (.c (.p (.int .i64 0))),some (16,true)⟩,⟨some 21,.pick (.t 16) (.t 20) (.c (.p (.bool false))),none⟩]) (.cond (.t 21) (.region [0,1,4] [⟨some 22,.move (.t 0),none⟩,
  ⟨some 23,.call (.c (.fn 72 [] [])) [(.t 22),(.c (.p (.int .i64 0)))],none⟩,⟨some 24,.field (.t 23) 2 none,none⟩,⟨some 25,.call (.c (.fn 82 [] [])) [(.c (.p (.int .i64 2))),(.t 24)],none⟩]) .skip)) (.seq (.region [0,1,4] [⟨some 26,.move (.t 0),none⟩,⟨some 27,.nilCheck (.t 26),none⟩,⟨some 28,.faddr (.t 27) 3,none⟩,⟨some 29,.load none (.t 28),none⟩,
  ⟨some 30,.bin .add (.t 29) (.c (.p (.int .i64 1))),none⟩,⟨some 31,.nilCheck (.t 26),none⟩,⟨some 32,.faddr (.t 31) 3,none⟩,⟨none,.store 1 (.t 32) (.t 30),none⟩]) (.seq (.region [0,1,4,5] [⟨some 33,.move (.t 0),none⟩,⟨some 34,.call (.c (.fn 127 [] [])) [(.t 33)],none⟩,⟨some 5,.alloc [.int .i64 0,.str [],.int .i64 0,.nils,.int .i64 0],none⟩,
  ⟨none,.store 5 (.t 5) (.t 34),none⟩]) (.seq (.region [0,1,4,5,6] [⟨some 6,.move (.c (.p (.bool false))),none⟩]) (.seq (.block 0 (.loop [0,1,4,5,6] fc80_b0)) (.seq (.region [4,5] [⟨some 93,.move (.t 0),none⟩,⟨some 94,.nilCheck (.t 93),none⟩,⟨some 95,.faddr (.t 94) 3,none⟩,⟨some 96,.load none (.t 95),none⟩,⟨some 97,.bin .sub (.t 96) (.c (.p (.int .i64 1))),none⟩,
  ⟨some 98,.nilCheck (.t 93),none⟩,⟨some 99,.faddr (.t 98) 3,none⟩,⟨none,.store 1 (.t 99) (.t 97),none⟩]) (.seq (.region [4] [⟨some 100,.load (some 5) (.t 5),none⟩,⟨none,.store 5 (.t 4) (.t 100),none⟩]) .ret))))))))
 frz := true
theorem ok80 : FOk Tryz.prog 80 fc80 := FOk.of Tryz.func80 (by kernel_rfl)
def fc81 : FC where
 nt := 24
 np := 1
 res := [.t 2]
 body := (.seq (.region [0] [⟨some 2,.move (.c (.p (.int .i64 0))),none⟩]) (.seq (.block 0 (.seq (.region [0,3] [⟨some 4,.move (.t 0),none⟩,⟨some 5,.bin .geq (.t 4) (.c (.p (.int .i64 1))),none⟩,⟨some 6,.move (.t 5),none⟩,⟨some 7,.move (.t 0),some (6,true)⟩,⟨some 8,.bin .leq (.t 7) (.c (.p (.int .i64 15))),some (6,true)⟩,
  ⟨some 9,.pick (.t 6) (.t 8) (.c (.p (.bool false))),none⟩,⟨some 3,.move (.t 9),none⟩]) (.cond (.t 3) (.seq (.region [2] [⟨some 2,.move (.c (.p (.int .i64 1))),none⟩]) .ret) (.seq (.region [0,10] [⟨some 11,.move (.t 0),none⟩,⟨some 12,.bin .geq (.t 11) (.c (.p (.int .i64 20))),none⟩,⟨some 13,.move (.t 12),none⟩,⟨some 14,.move (.t 0),some (13,true)⟩,
  ⟨some 15,.bin .leq (.t 14) (.c (.p (.int .i64 23))),some (13,true)⟩,⟨some 16,.pick (.t 13) (.t 15) (.c (.p (.bool false))),none⟩,⟨some 10,.move (.t 16),none⟩]) (.cond (.t 10) (.seq (.region [2] [⟨some 2,.move (.c (.p (.int .i64 2))),none⟩]) .ret) (.seq (.region [17] [⟨some 18,.move (.t 0),none⟩,⟨some 19,.bin .geq (.t 18) (.c (.p (.int .i64 30))),none⟩,
  ⟨some 20,.move (.t 19),none⟩,⟨some 21,.move (.t 0),some (20,true)⟩,⟨some 22,.bin .leq (.t 21) (.c (.p (.int .i64 51))),some (20,true)⟩,⟨some 23,.pick (.t 20) (.t 22) (.c (.p (.bool false))),none⟩,⟨some 17,.move (.t 23),none⟩]) (.cond (.t 17) (.seq (.region [2] [⟨some 2,.move (.c (.p (.int .i64 3))),none⟩]) .ret) .skip))))))) (.seq (.region [2] [
  ⟨some 2,.move (.c (.p (.int .i64 0))),none⟩]) .ret)))
theorem ok81 : FOk Tryz.prog 81 fc81 := FOk.of Tryz.func81 (by kernel_rfl)
def fc82 : FC where
 nt := 9
 np := 2
 res := []
 body := (.region [] [⟨some 4,.move (.t 0),none⟩,⟨some 5,.move (.t 1),none⟩,⟨some 6,.build [.int .i64 0,.int .i64 0] [(0,1,(.t 4)),(1,1,(.t 5))],none⟩,⟨some 7,.build [.int .i64 0,.int .i64 0] [(0,2,(.t 6))],none⟩,⟨some 8,.iface 123 (.t 7),none⟩,⟨none,.panic (.t 8),none⟩])
theorem ok82 : FOk Tryz.prog 82 fc82 := FOk.of Tryz.func82 (by kernel_rfl)
def fc83 : FC where
 nt := 29
 np := 1
 res := [.t 2, .t 3]
 body := (.seq (.region [0] [⟨some 2,.move (.c (.p (.int .i64 0))),none⟩,⟨some 3,.move (.c (.p (.int .i64 0))),none⟩]) (.seq (.seq (.region [4] [⟨some 4,.move (.t 0),none⟩]) (.block 0 (.seq (.region [4,5] [⟨some 6,.bin .eql (.t 4) (.c (.p (.str [110,111,116]))),none⟩,⟨some 5,.move (.t 6),none⟩]) (.cond (.t 5) (.seq (.region [2,3] [⟨some 2,.move (.c (.p (.int .i64 40))),none⟩,
  ⟨some 3,.move (.c (.p (.int .i64 6))),none⟩]) .ret) (.seq (.region [4,7] [⟨some 8,.bin .eql (.t 4) (.c (.p (.str [97,108,119,97,121,115]))),none⟩,⟨some 7,.move (.t 8),none⟩]) (.cond (.t 7) (.seq (.region [2,3] [⟨some 2,.move (.c (.p (.int .i64 48))),none⟩,⟨some 3,.move (.c (.p (.int .i64 6))),none⟩]) .ret) (.seq (.region [4,9] [
  ⟨some 10,.bin .eql (.t 4) (.c (.p (.str [101,118,101,110,116,117,97,108,108,121]))),none⟩,⟨some 9,.move (.t 10),none⟩]) (.cond (.t 9) (.seq (.region [2,3] [⟨some 2,.move (.c (.p (.int .i64 49))),none⟩,⟨some 3,.move (.c (.p (.int .i64 6))),none⟩]) .ret) (.seq (.region [4,11] [⟨some 12,.bin .eql (.t 4) (.c (.p (.str [97,102,116,101,114]))),none⟩,
  ⟨some 11,.move (.t 12),none⟩]) (.cond (.t 11) (.seq (.region [2,3] [⟨some 2,.move (.c (.p (.int .i64 50))),none⟩,⟨some 3,.move (.c (.p (.int .i64 6))),none⟩]) .ret) (.seq (.region [4,13] [⟨some 14,.bin .eql (.t 4) (.c (.p (.str [110,111]))),none⟩,⟨some 13,.move (.t 14),none⟩]) (.cond (.t 13) (.seq (.region [2,3] [⟨some 2,.move (.c (.p (.int .i64 35))),none⟩,
  ⟨some 3,.move (.c (.p (.int .i64 8))),none⟩]) .ret) (.seq (.region [4,15] [⟨some 16,.bin .eql (.t 4) (.c (.p (.str [115,111,109,101]))),none⟩,⟨some 15,.move (.t 16),none⟩]) (.cond (.t 15) (.seq (.region [2,3] [⟨some 2,.move (.c (.p (.int .i64 34))),none⟩,⟨some 3,.move (.c (.p (.int .i64 8))),none⟩]) .ret) (.seq (.region [4,17] [
  ⟨some 18,.bin .eql (.t 4) (.c (.p (.str [111,110,101]))),none⟩,⟨some 17,.move (.t 18),none⟩]) (.cond (.t 17) (.seq (.region [2,3] [⟨some 2,.move (.c (.p (.int .i64 36))),none⟩,⟨some 3,.move (.c (.p (.int .i64 8))),none⟩]) .ret) (.seq (.region [4,19] [⟨some 20,.bin .eql (.t 4) (.c (.p (.str [108,111,110,101]))),none⟩,⟨some 19,.move (.t 20),none⟩]) (.cond (.t 19) (.seq
  (.region [2,3] [⟨some 2,.move (.c (.p (.int .i64 37))),none⟩,⟨some 3,.move (.c (.p (.int .i64 8))),none⟩]) .ret) (.seq (.region [4,21] [⟨some 22,.bin .eql (.t 4) (.c (.p (.str [35]))),none⟩,⟨some 21,.move (.t 22),none⟩]) (.cond (.t 21) (.seq (.region [2,3] [⟨some 2,.move (.c (.p (.int .i64 21))),none⟩,⟨some 3,.move (.c (.p (.int .i64 12))),none⟩]) .ret) (.seq (.region [4,23] [
  ⟨some 24,.bin .eql (.t 4) (.c (.p (.str [126]))),none⟩,⟨some 23,.move (.t 24),none⟩]) (.cond (.t 23) (.seq (.region [2,3] [⟨some 2,.move (.c (.p (.int .i64 11))),none⟩,⟨some 3,.move (.c (.p (.int .i64 13))),none⟩]) .ret) (.seq (.region [4,25] [⟨some 26,.bin .eql (.t 4) (.c (.p (.str [94]))),none⟩,⟨some 25,.move (.t 26),none⟩]) (.cond (.t 25) (.seq (.region [2,3] [
  ⟨some 2,.move (.c (.p (.int .i64 12))),none⟩,⟨some 3,.move (.c (.p (.int .i64 13))),none⟩]) .ret) (.seq (.region [27] [⟨some 28,.bin .eql (.t 4) (.c (.p (.str [42]))),none⟩,⟨some 27,.move (.t 28),none⟩]) (.cond (.t 27) (.seq (.region [2,3] [⟨some 2,.move (.c (.p (.int .i64 13))),none⟩,⟨some 3,.move (.c (.p (.int .i64 13))),none⟩]) .ret) .skip)))))))))))))))))))))))))) (.seq
  (.region [2,3] [⟨some 2,.move (.c (.p (.int .i64 0))),none⟩,⟨some 3,.move (.c (.p (.int .i64 0))),none⟩]) .ret)))
theorem ok83 : FOk Tryz.prog 83 fc83 := FOk.of Tryz.func83 (by kernel_rfl)
def fc84_b0 : SC :=
 (.loc (.seq (.seq (.draw [0,1,5,23] [(3,7)] [⟨some 10,.move (.t 0),none⟩,⟨some 11,.nilCheck (.t 10),none⟩,⟨some 12,.faddr (.t 11) 1,none⟩,⟨some 13,.load none (.t 12),none⟩,⟨some 14,.move (.t 0),none⟩,⟨some 15,.nilCheck (.t 14),none⟩,⟨some 16,.faddr (.t 15) 0,none⟩,⟨some 17,.load none (.t 16),none⟩,⟨some 18,.len 0 (.t 17),none⟩,
 ⟨some 19,.bin .lss (.t 13) (.t 18),none⟩,⟨some 20,.move (.t 19),none⟩,⟨some 21,.move (.t 1),some (20,true)⟩,⟨some 22,.call (.t 21) [],some (20,true)⟩,⟨some 23,.pick (.t 20) (.t 22) (.c (.p (.bool false))),none⟩]) (.cond (.t 23) .skip (.exit 0))) (.block 1 (.region [0,1,5] [⟨some 24,.move (.t 0),none⟩,⟨some 25,.nilCheck (.t 24),none⟩,⟨some 26,.faddr (.t 25) 1,none⟩,
 ⟨some 27,.load none (.t 26),none⟩,⟨some 28,.bin .add (.t 27) (.c (.p (.int .i64 1))),none⟩,⟨some 29,.nilCheck (.t 24),none⟩,⟨some 30,.faddr (.t 29) 1,none⟩,⟨none,.store 1 (.t 30) (.t 28),none⟩]))))
def fc84 : FC where
 nt := 41
 np := 2
 res := [.t 4]
 body := (.seq (.region [0,1] [⟨some 4,.move (.c (.p (.str []))),none⟩]) (.seq (.region [0,1,5] [⟨some 6,.move (.t 0),none⟩,⟨some 7,.nilCheck (.t 6),none⟩,⟨some 8,.faddr (.t 7) 1,none⟩,⟨some 9,.load none (.t 8),none⟩,⟨some 5,.move (.t 9),none⟩]) (.seq (.block 0 (.loop [0,1,5] fc84_b0)) (.seq (.draw [4] [(3,8)] [⟨some 31,.move (.t 0),none⟩,
  ⟨some 32,.nilCheck (.t 31),none⟩,⟨some 33,.faddr (.t 32) 0,none⟩,⟨some 34,.load none (.t 33),none⟩,⟨some 35,.move (.t 5),none⟩,⟨some 36,.move (.t 0),none⟩,⟨some 37,.nilCheck (.t 36),none⟩,⟨some 38,.faddr (.t 37) 1,none⟩,⟨some 39,.load none (.t 38),none⟩,⟨some 40,.slice 0 (.t 34) (some (.t 35)) (some (.t 39)),none⟩,⟨some 4,.move (.t 40),none⟩]) .ret))))
theorem ok84 : FOk Tryz.prog 84 fc84 := FOk.of Tryz.func84 (by kernel_rfl)
def fc85 : FC where
 nt := 14
 np := 1
 res := [.t 2]
 body := (.seq (.region [0] [⟨some 2,.move (.c (.p (.bool false))),none⟩]) (.seq (.draw [2] [(3,7)] [⟨some 3,.move (.t 0),none⟩,⟨some 4,.nilCheck (.t 3),none⟩,⟨some 5,.faddr (.t 4) 0,none⟩,⟨some 6,.load none (.t 5),none⟩,⟨some 7,.move (.t 0),none⟩,⟨some 8,.nilCheck (.t 7),none⟩,⟨some 9,.faddr (.t 8) 1,none⟩,⟨some 10,.load none (.t 9),none⟩,
  ⟨some 11,.index none (.t 6) (.t 10),none⟩,⟨some 12,.call (.c (.fn 129 [] [])) [(.c (.p (.str [32,9,10,13]))),(.t 11)],none⟩,⟨some 13,.bin .geq (.t 12) (.c (.p (.int .i64 0))),none⟩,⟨some 2,.move (.t 13),none⟩]) .ret))
theorem ok85 : FOk Tryz.prog 85 fc85 := FOk.of Tryz.func85 (by kernel_rfl)
def fc86 : FC where
 nt := 8
 np := 2
 res := [.t 4]
 body := (.seq (.region [0,1] [⟨some 4,.move (.c (.p (.bool false))),none⟩]) (.seq (.region [4] [⟨some 5,.move (.t 0),none⟩,⟨some 6,.move (.t 1),none⟩,⟨some 7,.call (.c (.fn 130 [] [])) [(.t 5),(.t 6)],none⟩,⟨some 4,.move (.t 7),none⟩]) .ret))
theorem ok86 : FOk Tryz.prog 86 fc86 := FOk.of Tryz.func86 (by kernel_rfl)
def fc87 : FC where
 nt := 13
 np := 1
 res := [.t 2]
 body := (.seq (.region [0] [⟨some 2,.move (.c (.p (.bool false))),none⟩]) (.seq (.draw [2] [(3,7)] [⟨some 3,.move (.t 0),none⟩,⟨some 4,.nilCheck (.t 3),none⟩,⟨some 5,.faddr (.t 4) 0,none⟩,⟨some 6,.load none (.t 5),none⟩,⟨some 7,.move (.t 0),none⟩,⟨some 8,.nilCheck (.t 7),none⟩,⟨some 9,.faddr (.t 8) 1,none⟩,⟨some 10,.load none (.t 9),none⟩,
  ⟨some 11,.index none (.t 6) (.t 10),none⟩,⟨some 12,.bin .neq (.t 11) (.c (.p (.int .u8 10))),none⟩,⟨some 2,.move (.t 12),none⟩]) .ret))
theorem ok87 : FOk Tryz.prog 87 fc87 := FOk.of Tryz.func87 (by kernel_rfl)
def fc88 : FC where
 nt := 20
 np := 1
 res := [.t 2]
 body := (.seq (.region [0] [⟨some 2,.move (.c (.p (.bool false))),none⟩]) (.seq (.draw [3] [(3,7)] [⟨some 4,.move (.t 0),none⟩,⟨some 5,.nilCheck (.t 4),none⟩,⟨some 6,.faddr (.t 5) 0,none⟩,⟨some 7,.load none (.t 6),none⟩,⟨some 8,.move (.t 0),none⟩,⟨some 9,.nilCheck (.t 8),none⟩,⟨some 10,.faddr (.t 9) 1,none⟩,⟨some 11,.load none (.t 10),none⟩,
  ⟨some 12,.index none (.t 7) (.t 11),none⟩,⟨some 13,.bin .or (.t 12) (.c (.p (.int .u8 32))),none⟩,⟨some 3,.move (.t 13),none⟩]) (.seq (.region [2] [⟨some 14,.move (.t 3),none⟩,⟨some 15,.bin .geq (.t 14) (.c (.p (.int .u8 97))),none⟩,⟨some 16,.move (.t 15),none⟩,⟨some 17,.move (.t 3),some (16,true)⟩,⟨some 18,.bin .leq (.t 17) (.c (.p (.int .u8 122))),some (16,true)⟩,
  ⟨some 19,.pick (.t 16) (.t 18) (.c (.p (.bool false))),none⟩,⟨some 2,.move (.t 19),none⟩]) .ret)))
theorem ok88 : FOk Tryz.prog 88 fc88 := FOk.of Tryz.func88 (by kernel_rfl)
def fc89 : FC where
 nt := 21
 np := 1
 res := [.t 2]
 body := (.seq (.region [0] [⟨some 2,.move (.c (.p (.bool false))),none⟩]) (.seq (.draw [2] [(10,14)] [⟨some 3,.move (.t 0),none⟩,⟨some 4,.call (.c (.fn 88 [] [])) [(.t 3)],none⟩,⟨some 5,.move (.t 4),none⟩,⟨some 6,.move (.t 0),some (5,false)⟩,⟨some 7,.call (.c (.fn 90 [] [])) [(.t 6)],some (5,false)⟩,⟨some 8,.pick (.t 5) (.c (.p (.bool true))) (.t 7),none⟩,
  ⟨some 9,.move (.t 8),none⟩,⟨some 10,.move (.t 0),some (9,false)⟩,⟨some 11,.nilCheck (.t 10),some (9,false)⟩,⟨some 12,.faddr (.t 11) 0,some (9,false)⟩,⟨some 13,.load none (.t 12),some (9,false)⟩,⟨some 14,.move (.t 0),some (9,false)⟩,⟨some 15,.nilCheck (.t 14),some (9,false)⟩,⟨some 16,.faddr (.t 15) 1,some (9,false)⟩,⟨some 17,.load none (.t 16),some (9,false)⟩,
  ⟨some 18,.index none (.t 13) (.t 17),some (9,false)⟩,⟨some 19,.bin .eql (.t 18) (.c (.p (.int .u8 95))),some (9,false)⟩,⟨some 20,.pick (.t 9) (.c (.p (.bool true))) (.t 19),none⟩,⟨some 2,.move (.t 20),none⟩]) .ret))
theorem ok89 : FOk Tryz.prog 89 fc89 := FOk.of Tryz.func89 (by kernel_rfl)
def fc90 : FC where
 nt := 25
 np := 1
 res := [.t 2]
 body := (.seq (.region [0] [⟨some 2,.move (.c (.p (.bool false))),none⟩]) (.seq (.draw [2] [(3,7),(14,18)] [⟨some 3,.move (.t 0),none⟩,⟨some 4,.nilCheck (.t 3),none⟩,⟨some 5,.faddr (.t 4) 0,none⟩,⟨some 6,.load none (.t 5),none⟩,⟨some 7,.move (.t 0),none⟩,⟨some 8,.nilCheck (.t 7),none⟩,⟨some 9,.faddr (.t 8) 1,none⟩,⟨some 10,.load none (.t 9),none⟩,
  ⟨some 11,.index none (.t 6) (.t 10),none⟩,⟨some 12,.bin .geq (.t 11) (.c (.p (.int .u8 48))),none⟩,⟨some 13,.move (.t 12),none⟩,⟨some 14,.move (.t 0),some (13,true)⟩,⟨some 15,.nilCheck (.t 14),some (13,true)⟩,⟨some 16,.faddr (.t 15) 0,some (13,true)⟩,⟨some 17,.load none (.t 16),some (13,true)⟩,⟨some 18,.move (.t 0),some (13,true)⟩,
  ⟨some 19,.nilCheck (.t 18),some (13,true)⟩,⟨some 20,.faddr (.t 19) 1,some (13,true)⟩,⟨some 21,.load none (.t 20),some (13,true)⟩,⟨some 22,.index none (.t 17) (.t 21),some (13,true)⟩,⟨some 23,.bin .leq (.t 22) (.c (.p (.int .u8 57))),some (13,true)⟩,⟨some 24,.pick (.t 13) (.t 23) (.c (.p (.bool false))),none⟩,⟨some 2,.move (.t 24),none⟩]) .ret))
theorem ok90 : FOk Tryz.prog 90 fc90 := FOk.of Tryz.func90 (by kernel_rfl)
def fc91 : FC where
 nt := 41
 np := 1
 res := [.t 2, .t 3]
 body := (.seq (.region [0] [⟨some 2,.move (.c (.p (.str []))),none⟩,⟨some 3,.move (.c (.p (.bool false))),none⟩]) (.seq (.region [0,4] [⟨some 6,.move (.t 0),none⟩,⟨some 7,.move (.t 0),none⟩,⟨some 8,.mkfn 90 [(.t 7)] [],none⟩,⟨some 9,.call (.c (.fn 84 [] [])) [(.t 6),(.t 8)],none⟩,⟨some 4,.move (.t 9),none⟩]) (.seq (.region [0,4,5] [⟨some 10,.move (.t 4),none⟩,
  ⟨some 11,.len 0 (.t 10),none⟩,⟨some 12,.bin .leq (.t 11) (.c (.p (.int .i64 9))),none⟩,⟨some 13,.move (.t 12),none⟩,⟨some 14,.move (.t 4),some (13,true)⟩,⟨some 15,.index none (.t 14) (.c (.p (.int .i64 0))),some (13,true)⟩,⟨some 16,.bin .neq (.t 15) (.c (.p (.int .u8 48))),some (13,true)⟩,⟨some 17,.move (.t 16),some (13,true)⟩,⟨some 18,.move (.t 4),some (17,false)⟩,
  ⟨some 19,.bin .eql (.t 18) (.c (.p (.str [48]))),some (17,false)⟩,⟨some 20,.pick (.t 17) (.c (.p (.bool true))) (.t 19),some (13,true)⟩,⟨some 21,.pick (.t 13) (.t 20) (.c (.p (.bool false))),none⟩,⟨some 5,.move (.t 21),none⟩]) (.seq (.draw [2,3] [(6,10)] [⟨some 22,.move (.t 4),none⟩,⟨some 23,.move (.t 5),none⟩,⟨some 24,.move (.t 23),none⟩,
  ⟨some 25,.move (.t 0),some (24,true)⟩,⟨some 26,.nilCheck (.t 25),some (24,true)⟩,⟨some 27,.faddr (.t 26) 1,some (24,true)⟩,⟨some 28,.load none (.t 27),some (24,true)⟩,⟨some 29,.move (.t 0),some (24,true)⟩,⟨some 30,.nilCheck (.t 29),some (24,true)⟩,⟨some 31,.faddr (.t 30) 0,some (24,true)⟩,⟨some 32,.load none (.t 31),some (24,true)⟩,
  ⟨some 33,.len 0 (.t 32),some (24,true)⟩,⟨some 34,.bin .eql (.t 28) (.t 33),some (24,true)⟩,⟨some 35,.move (.t 34),some (24,true)⟩,⟨some 36,.move (.t 0),some (35,false)⟩,⟨some 37,.call (.c (.fn 89 [] [])) [(.t 36)],some (35,false)⟩,⟨some 38,.un .not (.t 37),some (35,false)⟩,⟨some 39,.pick (.t 35) (.c (.p (.bool true))) (.t 38),some (24,true)⟩,
  ⟨some 40,.pick (.t 24) (.t 39) (.c (.p (.bool false))),none⟩,⟨some 2,.move (.t 22),none⟩,⟨some 3,.move (.t 40),none⟩]) .ret))))
theorem ok91 : FOk Tryz.prog 91 fc91 := FOk.of Tryz.func91 (by kernel_rfl)
def fc92_b0 : SC :=
 (.loc (.seq (.region [0,4,7,8,9] [⟨some 9,.bin .lss (.t 8) (.c (.p (.int .i64 29))),none⟩]) (.seq (.cond (.t 9) .skip (.exit 0)) (.seq (.block 1 (.seq (.region [0,4,6,7,8] [⟨some 10,.index (some (29,1,false)) (.t 7) (.t 8),none⟩,⟨some 6,.move (.t 10),none⟩]) (.seq (.draw [0,4,6,7,8,21] [(3,7)] [⟨some 11,.move (.t 0),none⟩,⟨some 12,.nilCheck (.t 11),none⟩,
 ⟨some 13,.faddr (.t 12) 0,none⟩,⟨some 14,.load none (.t 13),none⟩,⟨some 15,.move (.t 0),none⟩,⟨some 16,.nilCheck (.t 15),none⟩,⟨some 17,.faddr (.t 16) 1,none⟩,⟨some 18,.load none (.t 17),none⟩,⟨some 19,.slice 0 (.t 14) (some (.t 18)) none,none⟩,⟨some 20,.move (.t 6),none⟩,⟨some 21,.call (.c (.fn 86 [] [])) [(.t 19),(.t 20)],none⟩]) (.cond (.t 21) (.seq (.region [0,4] [
 ⟨some 22,.move (.t 6),none⟩,⟨some 4,.move (.t 22),none⟩]) (.exit 0)) .skip)))) (.region [0,4,7,8] [⟨some 23,.bin .add (.t 8) (.c (.p (.int .i64 1))),none⟩,⟨some 8,.move (.t 23),none⟩])))))
def fc92 : FC where
 nt := 36
 np := 1
 res := [.t 2, .t 3]
 body := (.seq (.region [0] [⟨some 2,.move (.c (.p (.str []))),none⟩,⟨some 3,.move (.c (.p (.bool false))),none⟩]) (.scope (.seq (.region [0,4] [⟨some 4,.move (.c (.p (.str []))),none⟩]) (.seq .skip (.seq (.seq (.region [0,4,7,8] [⟨some 7,.load (some 29) (.c (.glob 0 0)),none⟩,⟨some 8,.move (.c (.p (.int .i64 0))),none⟩]) (.block 0 (.loop [0,4,7,8] fc92_b0))) (.seq
  (.region [4] [⟨some 24,.move (.t 0),none⟩,⟨some 25,.nilCheck (.t 24),none⟩,⟨some 26,.faddr (.t 25) 1,none⟩,⟨some 27,.load none (.t 26),none⟩,⟨some 28,.move (.t 4),none⟩,⟨some 29,.len 0 (.t 28),none⟩,⟨some 30,.bin .add (.t 27) (.t 29),none⟩,⟨some 31,.nilCheck (.t 24),none⟩,⟨some 32,.faddr (.t 31) 1,none⟩,⟨none,.store 1 (.t 32) (.t 30),none⟩]) (.seq (.region [2,3] [
  ⟨some 33,.move (.t 4),none⟩,⟨some 34,.move (.t 4),none⟩,⟨some 35,.bin .neq (.t 34) (.c (.p (.str []))),none⟩,⟨some 2,.move (.t 33),none⟩,⟨some 3,.move (.t 35),none⟩]) .ret)))))))
theorem ok92 : FOk Tryz.prog 92 fc92 := FOk.of Tryz.func92 (by kernel_rfl)
def fc119 : FC where
 nt := 11
 np := 3
 res := []
 body := (.seq (.region [2,8] [⟨some 6,.move (.t 0),none⟩,⟨some 7,.move (.t 1),none⟩,⟨some 8,.bin .geq (.t 6) (.t 7),none⟩]) (.cond (.t 8) (.region [] [⟨some 9,.move (.t 2),none⟩,⟨some 10,.call (.c (.fn 82 [] [])) [(.c (.p (.int .i64 2))),(.t 9)],none⟩]) .skip))
theorem ok119 : FOk Tryz.prog 119 fc119 := FOk.of Tryz.func119 (by kernel_rfl)
def fc120 : FC where
 nt := 19
 np := 1
 res := [.cell 2 (some 3)]
 body := (.seq (.region [0,2] [⟨some 2,.alloc [.int .i64 0,.str [],.int .i64 0],none⟩]) (.seq (.region [0,2,3] [⟨some 4,.move (.t 0),none⟩,⟨some 5,.call (.c (.fn 72 [] [])) [(.t 4),(.c (.p (.int .i64 0)))],none⟩,⟨some 3,.alloc [.int .i64 0,.str [],.int .i64 0],none⟩,⟨none,.store 3 (.t 3) (.t 5),none⟩]) (.seq (.seq (.region [0,2,3,8] [⟨some 6,.load (some 3) (.t 3),none⟩,
  ⟨some 7,.call (.c (.fn 136 [] [])) [(.t 6)],none⟩,⟨some 8,.un .not (.t 7),none⟩]) (.cond (.t 8) (.region [0,2,3] [⟨some 9,.move (.t 0),none⟩,⟨some 10,.call (.c (.fn 49 [] [])) [(.t 9)],none⟩]) .skip)) (.seq (.region [2,3] [⟨some 11,.move (.t 0),none⟩,⟨some 12,.nilCheck (.t 11),none⟩,⟨some 13,.faddr (.t 12) 1,none⟩,⟨some 14,.load none (.t 13),none⟩,
  ⟨some 15,.bin .add (.t 14) (.c (.p (.int .i64 1))),none⟩,⟨some 16,.nilCheck (.t 11),none⟩,⟨some 17,.faddr (.t 16) 1,none⟩,⟨none,.store 1 (.t 17) (.t 15),none⟩]) (.seq (.region [2] [⟨some 18,.load (some 3) (.t 3),none⟩,⟨none,.store 3 (.t 2) (.t 18),none⟩]) .ret)))))
theorem ok120 : FOk Tryz.prog 120 fc120 := FOk.of Tryz.func120 (by kernel_rfl)
def fc121 : FC where
 nt := 24
 np := 2
 res := [.t 4]
 body := (.seq (.region [0,1] [⟨some 4,.move (.c (.p (.bool false))),none⟩]) (.seq (.seq (.region [0,1,5] [⟨some 6,.move (.t 0),none⟩,⟨some 7,.call (.c (.fn 72 [] [])) [(.t 6),(.c (.p (.int .i64 0)))],none⟩,⟨some 5,.alloc [.int .i64 0,.str [],.int .i64 0],none⟩,⟨none,.store 3 (.t 5) (.t 7),none⟩]) (.seq (.region [0,16] [⟨some 8,.faddr (.t 5) 0,none⟩,
  ⟨some 9,.load none (.t 8),none⟩,⟨some 10,.bin .eql (.t 9) (.c (.p (.int .i64 0))),none⟩,⟨some 11,.move (.t 10),none⟩,⟨some 12,.faddr (.t 5) 1,some (11,false)⟩,⟨some 13,.load none (.t 12),some (11,false)⟩,⟨some 14,.move (.t 1),some (11,false)⟩,⟨some 15,.bin .neq (.t 13) (.t 14),some (11,false)⟩,⟨some 16,.pick (.t 11) (.c (.p (.bool true))) (.t 15),none⟩]) (.cond (.t 16)
  (.seq (.region [4] [⟨some 4,.move (.c (.p (.bool false))),none⟩]) .ret) .skip))) (.seq (.region [] [⟨some 17,.move (.t 0),none⟩,⟨some 18,.nilCheck (.t 17),none⟩,⟨some 19,.faddr (.t 18) 1,none⟩,⟨some 20,.load none (.t 19),none⟩,⟨some 21,.bin .add (.t 20) (.c (.p (.int .i64 1))),none⟩,⟨some 22,.nilCheck (.t 17),none⟩,⟨some 23,.faddr (.t 22) 1,none⟩,
  ⟨none,.store 1 (.t 23) (.t 21),none⟩]) (.seq (.region [4] [⟨some 4,.move (.c (.p (.bool true))),none⟩]) .ret))))
theorem ok121 : FOk Tryz.prog 121 fc121 := FOk.of Tryz.func121 (by kernel_rfl)
def fc122 : FC where
 nt := 10
 np := 2
 res := []
 body := (.seq (.region [0,7] [⟨some 4,.move (.t 0),none⟩,⟨some 5,.move (.t 1),none⟩,⟨some 6,.call (.c (.fn 121 [] [])) [(.t 4),(.t 5)],none⟩,⟨some 7,.un .not (.t 6),none⟩]) (.cond (.t 7) (.region [] [⟨some 8,.move (.t 0),none⟩,⟨some 9,.call (.c (.fn 49 [] [])) [(.t 8)],none⟩]) .skip))
theorem ok122 : FOk Tryz.prog 122 fc122 := FOk.of Tryz.func122 (by kernel_rfl)
def fc123_b0 : SC :=
 (.seq (.seq (.region [0,3,4,20] [⟨some 19,.move (.t 4),none⟩,⟨some 20,.bin .geq (.t 19) (.c (.p (.int .i64 0))),none⟩]) (.cond (.t 20) .skip (.exit 0))) (.seq (.block 1 (.seq (.draw [0,3,4,34] [(4,10),(8,10)] [⟨some 23,.move (.t 0),none⟩,⟨some 24,.nilCheck (.t 23),none⟩,⟨some 25,.faddr (.t 24) 8,none⟩,⟨some 26,.faddr (.t 25) 0,none⟩,⟨some 27,.load none (.t 26),none⟩,
 ⟨some 28,.move (.t 4),none⟩,⟨some 29,.iaddr none 2 (.t 27) (.t 28),none⟩,⟨some 30,.faddr (.t 29) 0,none⟩,⟨some 31,.load none (.t 30),none⟩,⟨some 32,.faddr (.t 3) 1,none⟩,⟨some 33,.load none (.t 32),none⟩,⟨some 34,.bin .eql (.t 31) (.t 33),none⟩]) (.cond (.t 34) (.seq (.region [4] [⟨some 35,.move (.t 0),none⟩,⟨some 36,.nilCheck (.t 35),none⟩,
 ⟨some 37,.faddr (.t 36) 1,none⟩,⟨some 38,.load none (.t 37),none⟩,⟨some 39,.bin .add (.t 38) (.c (.p (.int .i64 1))),none⟩,⟨some 40,.nilCheck (.t 35),none⟩,⟨some 41,.faddr (.t 40) 1,none⟩,⟨none,.store 1 (.t 41) (.t 39),none⟩]) (.seq (.region [2] [⟨some 42,.move (.t 4),none⟩,⟨some 2,.move (.t 42),none⟩]) .ret)) .skip))) (.region [0,3,4] [⟨some 21,.move (.t 4),none⟩,
 ⟨some 22,.bin .sub (.t 21) (.c (.p (.int .i64 1))),none⟩,⟨some 4,.move (.t 22),none⟩])))
def fc123 : FC where
 nt := 46
 np := 1
 res := [.t 2]
 body := (.seq (.region [0] [⟨some 2,.move (.c (.p (.int .i64 0))),none⟩]) (.seq (.region [0,3] [⟨some 5,.move (.t 0),none⟩,⟨some 6,.call (.c (.fn 72 [] [])) [(.t 5),(.c (.p (.int .i64 0)))],none⟩,⟨some 3,.alloc [.int .i64 0,.str [],.int .i64 0],none⟩,⟨none,.store 3 (.t 3) (.t 6),none⟩]) (.seq (.seq (.region [0,3,9] [⟨some 7,.load (some 3) (.t 3),none⟩,
  ⟨some 8,.call (.c (.fn 136 [] [])) [(.t 7)],none⟩,⟨some 9,.un .not (.t 8),none⟩]) (.cond (.t 9) (.region [0,3] [⟨some 10,.move (.t 0),none⟩,⟨some 11,.call (.c (.fn 49 [] [])) [(.t 10)],none⟩]) .skip)) (.seq (.seq (.region [0,3,4] [⟨some 12,.move (.t 0),none⟩,⟨some 13,.nilCheck (.t 12),none⟩,⟨some 14,.faddr (.t 13) 8,none⟩,⟨some 15,.faddr (.t 14) 0,none⟩,
  ⟨some 16,.load none (.t 15),none⟩,⟨some 17,.len 1 (.t 16),none⟩,⟨some 18,.bin .sub (.t 17) (.c (.p (.int .i64 1))),none⟩,⟨some 4,.move (.t 18),none⟩]) (.block 0 (.loop [0,3,4] fc123_b0))) (.seq (.region [] [⟨some 43,.faddr (.t 3) 2,none⟩,⟨some 44,.load none (.t 43),none⟩,⟨some 45,.call (.c (.fn 82 [] [])) [(.c (.p (.int .i64 40))),(.t 44)],none⟩]) (.seq (.region [2] [
  ⟨some 2,.move (.c (.p (.int .i64 0))),none⟩]) .ret))))))
theorem ok123 : FOk Tryz.prog 123 fc123 := FOk.of Tryz.func123 (by kernel_rfl)
def fc124 : FC where
 nt := 11
 np := 1
 res := [.cell 2 (some 5)]
 body := (.seq (.region [0,2] [⟨some 2,.alloc [.int .i64 0,.str [],.int .i64 0,.nils,.int .i64 0],none⟩]) (.seq (.region [0,2] [⟨some 4,.move (.t 0),none⟩,⟨some 5,.call (.c (.fn 122 [] [])) [(.t 4),(.c (.p (.str [123])))],none⟩]) (.seq (.region [0,2,3] [⟨some 6,.move (.t 0),none⟩,⟨some 7,.call (.c (.fn 48 [] [])) [(.t 6)],none⟩,
  ⟨some 3,.alloc [.int .i64 0,.str [],.int .i64 0,.nils,.int .i64 0],none⟩,⟨none,.store 5 (.t 3) (.t 7),none⟩]) (.seq (.region [2,3] [⟨some 8,.move (.t 0),none⟩,⟨some 9,.call (.c (.fn 122 [] [])) [(.t 8),(.c (.p (.str [125])))],none⟩]) (.seq (.region [2] [⟨some 10,.load (some 5) (.t 3),none⟩,⟨none,.store 5 (.t 2) (.t 10),none⟩]) .ret)))))
 frz := true
theorem ok124 : FOk Tryz.prog 124 fc124 := FOk.of Tryz.func124 (by kernel_rfl)
def fc125_b0 : SC :=
 (.seq (.region [18,19,20,21] [⟨some 21,.bin .lss (.t 20) (.t 19),none⟩]) (.seq (.cond (.t 21) .skip (.exit 0)) (.seq (.block 1 (.seq (.region [3,4,18,19,20] [⟨some 22,.move (.t 20),none⟩,⟨some 23,.iaddr none 1 (.t 18) (.t 20),none⟩,⟨some 24,.load none (.t 23),none⟩,⟨some 3,.move (.t 22),none⟩,⟨some 4,.move (.t 24),none⟩]) (.seq (.region [3,4,5,18,19,20] [
 ⟨some 25,.move (.t 4),none⟩,⟨some 26,.bin .geq (.t 25) (.c (.p (.int .u8 97))),none⟩,⟨some 27,.move (.t 26),none⟩,⟨some 28,.move (.t 4),some (27,true)⟩,⟨some 29,.bin .leq (.t 28) (.c (.p (.int .u8 122))),some (27,true)⟩,⟨some 30,.pick (.t 27) (.t 29) (.c (.p (.bool false))),none⟩,⟨some 31,.move (.t 30),none⟩,⟨some 32,.move (.t 4),some (31,false)⟩,
 ⟨some 33,.bin .geq (.t 32) (.c (.p (.int .u8 65))),some (31,false)⟩,⟨some 34,.move (.t 33),some (31,false)⟩,⟨some 35,.move (.t 4),some (34,true)⟩,⟨some 36,.bin .leq (.t 35) (.c (.p (.int .u8 90))),some (34,true)⟩,⟨some 37,.pick (.t 34) (.t 36) (.c (.p (.bool false))),some (31,false)⟩,⟨some 38,.pick (.t 31) (.c (.p (.bool true))) (.t 37),none⟩,⟨some 5,.move (.t 38),none⟩])
 (.seq (.region [18,19,20,56] [⟨some 39,.move (.t 5),none⟩,⟨some 40,.un .not (.t 39),none⟩,⟨some 41,.move (.t 40),none⟩,⟨some 42,.move (.t 3),some (41,true)⟩,⟨some 43,.bin .eql (.t 42) (.c (.p (.int .i64 0))),some (41,true)⟩,⟨some 44,.move (.t 43),some (41,true)⟩,⟨some 45,.move (.t 4),some (44,false)⟩,
 ⟨some 46,.bin .neq (.t 45) (.c (.p (.int .u8 95))),some (44,false)⟩,⟨some 47,.move (.t 46),some (44,false)⟩,⟨some 48,.move (.t 4),some (47,true)⟩,⟨some 49,.bin .lss (.t 48) (.c (.p (.int .u8 48))),some (47,true)⟩,⟨some 50,.move (.t 49),some (47,true)⟩,⟨some 51,.move (.t 4),some (50,false)⟩,⟨some 52,.bin .gtr (.t 51) (.c (.p (.int .u8 57))),some (50,false)⟩,
 ⟨some 53,.pick (.t 50) (.c (.p (.bool true))) (.t 52),some (47,true)⟩,⟨some 54,.pick (.t 47) (.t 53) (.c (.p (.bool false))),some (44,false)⟩,⟨some 55,.pick (.t 44) (.c (.p (.bool true))) (.t 54),some (41,true)⟩,⟨some 56,.pick (.t 41) (.t 55) (.c (.p (.bool false))),none⟩]) (.cond (.t 56) (.seq (.region [2] [⟨some 2,.move (.c (.p (.bool false))),none⟩]) .ret) .skip)))))
 (.region [18,19,20] [⟨some 57,.bin .add (.t 20) (.c (.p (.int .i64 1))),none⟩,⟨some 20,.move (.t 57),none⟩]))))
def fc125 : FC where
 nt := 58
 np := 1
 res := [.t 2]
 body := (.seq (.region [0] [⟨some 2,.move (.c (.p (.bool false))),none⟩]) (.seq (.seq (.region [0,16] [⟨some 6,.move (.t 0),none⟩,⟨some 7,.bin .eql (.t 6) (.c (.p (.str []))),none⟩,⟨some 8,.move (.t 7),none⟩,⟨some 9,.move (.t 0),some (8,false)⟩,⟨some 10,.len 0 (.t 9),some (8,false)⟩,⟨some 11,.bin .gtr (.t 10) (.c (.p (.int .i64 16))),some (8,false)⟩,
  ⟨some 12,.pick (.t 8) (.c (.p (.bool true))) (.t 11),none⟩,⟨some 13,.move (.t 12),none⟩,⟨some 14,.move (.t 0),some (13,false)⟩,⟨some 15,.call (.c (.fn 137 [] [])) [(.t 14)],some (13,false)⟩,⟨some 16,.pick (.t 13) (.c (.p (.bool true))) (.t 15),none⟩]) (.cond (.t 16) (.seq (.region [2] [⟨some 2,.move (.c (.p (.bool false))),none⟩]) .ret) .skip)) (.seq (.seq
  (.region [18,19,20] [⟨some 17,.move (.t 0),none⟩,⟨some 18,.toBytes 5 (.t 17),none⟩,⟨some 19,.len 1 (.t 18),none⟩,⟨some 20,.move (.c (.p (.int .i64 0))),none⟩]) (.block 0 (.loop [18,19,20] fc125_b0))) (.seq (.region [2] [⟨some 2,.move (.c (.p (.bool true))),none⟩]) .ret))))
theorem ok125 : FOk Tryz.prog 125 fc125 := FOk.of Tryz.func125 (by kernel_rfl)
def fc127_b0 : SC :=
 (.loc (.seq (.seq (.region [0,2,6,95] [⟨some 92,.move (.t 0),none⟩,⟨some 93,.call (.c (.fn 72 [] [])) [(.t 92),(.c (.p (.int .i64 0)))],none⟩,⟨some 94,.field (.t 93) 1 none,none⟩,⟨some 95,.bin .eql (.t 94) (.c (.p (.str [39]))),none⟩]) (.cond (.t 95) .skip (.exit 0))) (.block 1 (.seq (.region [0,2,6,7] [⟨some 96,.move (.t 0),none⟩,
 ⟨some 97,.call (.c (.fn 72 [] [])) [(.t 96),(.c (.p (.int .i64 0)))],none⟩,⟨some 98,.field (.t 97) 2 none,none⟩,⟨some 7,.move (.t 98),none⟩]) (.seq (.region [0,2,6,7] [⟨some 99,.move (.t 0),none⟩,⟨some 100,.nilCheck (.t 99),none⟩,⟨some 101,.faddr (.t 100) 1,none⟩,⟨some 102,.load none (.t 101),none⟩,⟨some 103,.bin .add (.t 102) (.c (.p (.int .i64 1))),none⟩,
 ⟨some 104,.nilCheck (.t 99),none⟩,⟨some 105,.faddr (.t 104) 1,none⟩,⟨none,.store 1 (.t 105) (.t 103),none⟩]) (.region [0,2,6] [⟨some 106,.move (.t 0),none⟩,⟨some 107,.load (some 5) (.t 6),none⟩,⟨some 108,.bslice 39 5 1 (.agg [.int .i64 0,.str [],.int .i64 0,.nils,.int .i64 0]) [(0,(.t 107))],none⟩,⟨some 109,.move (.t 7),none⟩,
 ⟨some 110,.build [.int .i64 0,.str [],.int .i64 0,.nils,.int .i64 0] [(0,1,(.c (.p (.int .i64 5)))),(3,1,(.t 108)),(4,1,(.t 109))],none⟩,⟨some 111,.call (.c (.fn 142 [] [])) [(.t 106),(.t 110)],none⟩,⟨none,.store 5 (.t 6) (.t 111),none⟩]))))))
def fc127 : FC where
 nt := 113
 np := 1
 res := [.cell 2 (some 5)]
 body := (.seq (.region [0,2] [⟨some 2,.alloc [.int .i64 0,.str [],.int .i64 0,.nils,.int .i64 0],none⟩]) (.seq (.region [0,2,3] [⟨some 8,.move (.t 0),none⟩,⟨some 9,.call (.c (.fn 72 [] [])) [(.t 8),(.c (.p (.int .i64 0)))],none⟩,⟨some 3,.alloc [.int .i64 0,.str [],.int .i64 0],none⟩,⟨none,.store 3 (.t 3) (.t 9),none⟩]) (.seq (.seq (.region [0,2,3,17] [
  ⟨some 10,.faddr (.t 3) 0,none⟩,⟨some 11,.load none (.t 10),none⟩,⟨some 12,.bin .neq (.t 11) (.c (.p (.int .i64 0))),none⟩,⟨some 13,.move (.t 12),none⟩,⟨some 14,.faddr (.t 3) 1,some (13,true)⟩,⟨some 15,.load none (.t 14),some (13,true)⟩,⟨some 16,.bin .eql (.t 15) (.c (.p (.str [97,108,108]))),some (13,true)⟩,
  ⟨some 17,.pick (.t 13) (.t 16) (.c (.p (.bool false))),none⟩]) (.cond (.t 17) (.seq (.region [0,2,3] [⟨some 18,.move (.t 0),none⟩,⟨some 19,.nilCheck (.t 18),none⟩,⟨some 20,.faddr (.t 19) 1,none⟩,⟨some 21,.load none (.t 20),none⟩,⟨some 22,.bin .add (.t 21) (.c (.p (.int .i64 1))),none⟩,⟨some 23,.nilCheck (.t 18),none⟩,⟨some 24,.faddr (.t 23) 1,none⟩,
  ⟨none,.store 1 (.t 24) (.t 22),none⟩]) (.seq (.region [2] [⟨some 25,.move (.t 0),none⟩,⟨some 26,.faddr (.t 3) 2,none⟩,⟨some 27,.load none (.t 26),none⟩,⟨some 28,.call (.c (.fn 141 [] [])) [(.t 25),(.c (.p (.int .i64 45))),(.t 27)],none⟩,⟨none,.store 5 (.t 2) (.t 28),none⟩]) .ret)) .skip)) (.seq (.seq (.region [0,2,3,42] [⟨some 29,.faddr (.t 3) 1,none⟩,
  ⟨some 30,.load none (.t 29),none⟩,⟨some 31,.bin .eql (.t 30) (.c (.p (.str [115,111,109,101]))),none⟩,⟨some 32,.move (.t 31),none⟩,⟨some 33,.move (.t 0),some (32,true)⟩,⟨some 34,.call (.c (.fn 72 [] [])) [(.t 33),(.c (.p (.int .i64 1)))],some (32,true)⟩,⟨some 35,.call (.c (.fn 136 [] [])) [(.t 34)],some (32,true)⟩,
  ⟨some 36,.pick (.t 32) (.t 35) (.c (.p (.bool false))),none⟩,⟨some 37,.move (.t 36),none⟩,⟨some 38,.move (.t 0),some (37,true)⟩,⟨some 39,.call (.c (.fn 72 [] [])) [(.t 38),(.c (.p (.int .i64 2)))],some (37,true)⟩,⟨some 40,.field (.t 39) 1 none,some (37,true)⟩,⟨some 41,.bin .eql (.t 40) (.c (.p (.str [58]))),some (37,true)⟩,
  ⟨some 42,.pick (.t 37) (.t 41) (.c (.p (.bool false))),none⟩]) (.cond (.t 42) (.seq (.region [0,2,3] [⟨some 43,.move (.t 0),none⟩,⟨some 44,.nilCheck (.t 43),none⟩,⟨some 45,.faddr (.t 44) 1,none⟩,⟨some 46,.load none (.t 45),none⟩,⟨some 47,.bin .add (.t 46) (.c (.p (.int .i64 1))),none⟩,⟨some 48,.nilCheck (.t 43),none⟩,⟨some 49,.faddr (.t 48) 1,none⟩,
  ⟨none,.store 1 (.t 49) (.t 47),none⟩]) (.seq (.region [2] [⟨some 50,.move (.t 0),none⟩,⟨some 51,.faddr (.t 3) 2,none⟩,⟨some 52,.load none (.t 51),none⟩,⟨some 53,.call (.c (.fn 141 [] [])) [(.t 50),(.c (.p (.int .i64 46))),(.t 52)],none⟩,⟨none,.store 5 (.t 2) (.t 53),none⟩]) .ret)) .skip)) (.seq (.seq (.draw [0,2,3,4,5] [(3,5),(3,10),(5,10),(6,10)] [
  ⟨some 55,.move (.t 0),none⟩,⟨some 56,.nilCheck (.t 55),none⟩,⟨some 57,.faddr (.t 56) 5,none⟩,⟨some 58,.load none (.t 57),none⟩,⟨some 59,.faddr (.t 3) 1,none⟩,⟨some 60,.load none (.t 59),none⟩,⟨some 61,.mapget 2 (.agg [.int .i64 0,.int .i64 0]) true (.t 58) (.t 60),none⟩,⟨some 54,.move (.t 61),none⟩,⟨some 62,.extract (.t 54) 0,none⟩,⟨some 63,.extract (.t 54) 1,none⟩,
  ⟨some 4,.alloc [.int .i64 0,.int .i64 0],none⟩,⟨none,.store 2 (.t 4) (.t 62),none⟩,⟨some 5,.move (.t 63),none⟩]) (.seq (.region [0,2,3,4,69] [⟨some 64,.move (.t 5),none⟩,⟨some 65,.move (.t 64),none⟩,⟨some 66,.faddr (.t 3) 0,some (65,true)⟩,⟨some 67,.load none (.t 66),some (65,true)⟩,⟨some 68,.bin .neq (.t 67) (.c (.p (.int .i64 0))),some (65,true)⟩,
  ⟨some 69,.pick (.t 65) (.t 68) (.c (.p (.bool false))),none⟩]) (.cond (.t 69) (.seq (.region [0,2,3,4] [⟨some 70,.move (.t 0),none⟩,⟨some 71,.nilCheck (.t 70),none⟩,⟨some 72,.faddr (.t 71) 1,none⟩,⟨some 73,.load none (.t 72),none⟩,⟨some 74,.bin .add (.t 73) (.c (.p (.int .i64 1))),none⟩,⟨some 75,.nilCheck (.t 70),none⟩,⟨some 76,.faddr (.t 75) 1,none⟩,
  ⟨none,.store 1 (.t 76) (.t 74),none⟩]) (.seq (.draw [2] [(2,5),(2,6),(2,9),(5,9),(6,9)] [⟨some 77,.move (.t 0),none⟩,⟨some 78,.faddr (.t 4) 1,none⟩,⟨some 79,.load none (.t 78),none⟩,⟨some 80,.move (.t 0),none⟩,⟨some 81,.faddr (.t 4) 0,none⟩,⟨some 82,.load none (.t 81),none⟩,⟨some 83,.call (.c (.fn 80 [] [])) [(.t 80),(.t 82)],none⟩,
  ⟨some 84,.bslice 39 5 1 (.agg [.int .i64 0,.str [],.int .i64 0,.nils,.int .i64 0]) [(0,(.t 83))],none⟩,⟨some 85,.faddr (.t 3) 2,none⟩,⟨some 86,.load none (.t 85),none⟩,⟨some 87,.build [.int .i64 0,.str [],.int .i64 0,.nils,.int .i64 0] [(0,1,(.t 79)),(3,1,(.t 84)),(4,1,(.t 86))],none⟩,⟨some 88,.call (.c (.fn 142 [] [])) [(.t 77),(.t 87)],none⟩,
  ⟨none,.store 5 (.t 2) (.t 88),none⟩]) .ret)) .skip))) (.seq (.region [0,2,6] [⟨some 89,.move (.t 0),none⟩,⟨some 90,.load (some 3) (.t 3),none⟩,⟨some 91,.call (.c (.fn 143 [] [])) [(.t 89),(.t 90)],none⟩,⟨some 6,.alloc [.int .i64 0,.str [],.int .i64 0,.nils,.int .i64 0],none⟩,⟨none,.store 5 (.t 6) (.t 91),none⟩]) (.seq (.block 0 (.loop [0,2,6] fc127_b0)) (.seq
  (.region [2] [⟨some 112,.load (some 5) (.t 6),none⟩,⟨none,.store 5 (.t 2) (.t 112),none⟩]) .ret))))))))
 frz := true
theorem ok127 : FOk Tryz.prog 127 fc127 := FOk.of Tryz.func127 (by kernel_rfl)
def fc128 : FC where
 nt := 58
 np := 5
 res := [.cell 10 (some 5)]
 body := (.seq (.region [0,6,7,8,9,10] [⟨some 6,.box (.t 1),none⟩,⟨some 7,.box (.t 2),none⟩,⟨some 8,.box (.t 3),none⟩,⟨some 9,.box (.t 4),none⟩,⟨some 10,.alloc [.int .i64 0,.str [],.int .i64 0,.nils,.int .i64 0],none⟩]) (.seq (.region [0,6,7,8,9,10,11] [⟨some 13,.faddr (.t 7) 2,none⟩,⟨some 14,.load none (.t 13),none⟩,⟨some 11,.move (.t 14),none⟩]) (.seq (.seq
  (.region [0,6,7,8,9,10,11,22] [⟨some 15,.faddr (.t 8) 0,none⟩,⟨some 16,.load none (.t 15),none⟩,⟨some 17,.call (.c (.fn 81 [] [])) [(.t 16)],none⟩,⟨some 18,.bin .neq (.t 17) (.c (.p (.int .i64 1))),none⟩,⟨some 19,.move (.t 18),none⟩,⟨some 20,.move (.t 11),some (19,false)⟩,⟨some 21,.bin .eql (.t 20) (.c (.p (.int .i64 0))),some (19,false)⟩,
  ⟨some 22,.pick (.t 19) (.c (.p (.bool true))) (.t 21),none⟩]) (.cond (.t 22) (.region [0,6,8,9,10,11] [⟨some 23,.faddr (.t 7) 3,none⟩,⟨some 24,.load none (.t 23),none⟩,⟨some 11,.move (.t 24),none⟩]) .skip)) (.seq (.seq (.region [0,6,8,9,10,11,26] [⟨some 25,.move (.t 11),none⟩,⟨some 26,.bin .eql (.t 25) (.c (.p (.int .i64 0))),none⟩]) (.cond (.t 26)
  (.region [0,6,8,9,10,11] [⟨some 27,.faddr (.t 6) 2,none⟩,⟨some 28,.load none (.t 27),none⟩,⟨some 29,.call (.c (.fn 82 [] [])) [(.c (.p (.int .i64 43))),(.t 28)],none⟩]) .skip)) (.seq (.seq (.region [0,6,8,9,10,11,32] [⟨some 30,.faddr (.t 6) 1,none⟩,⟨some 31,.load none (.t 30),none⟩,⟨some 32,.bin .eql (.t 31) (.c (.p (.str [60,61]))),none⟩]) (.cond (.t 32)
  (.region [0,6,8,9,10,11] [⟨some 33,.load (some 5) (.t 9),none⟩,⟨some 34,.load (some 5) (.t 8),none⟩,⟨none,.store 5 (.t 8) (.t 33),none⟩,⟨none,.store 5 (.t 9) (.t 34),none⟩]) .skip)) (.seq (.region [6,10,12] [⟨some 35,.move (.t 0),none⟩,⟨some 36,.move (.t 11),none⟩,⟨some 37,.load (some 5) (.t 8),none⟩,⟨some 38,.load (some 5) (.t 9),none⟩,
  ⟨some 39,.bslice 39 5 2 (.agg [.int .i64 0,.str [],.int .i64 0,.nils,.int .i64 0]) [(0,(.t 37)),(1,(.t 38))],none⟩,⟨some 40,.faddr (.t 6) 2,none⟩,⟨some 41,.load none (.t 40),none⟩,⟨some 42,.build [.int .i64 0,.str [],.int .i64 0,.nils,.int .i64 0] [(0,1,(.t 36)),(3,1,(.t 39)),(4,1,(.t 41))],none⟩,⟨some 43,.call (.c (.fn 142 [] [])) [(.t 35),(.t 42)],none⟩,
  ⟨some 12,.alloc [.int .i64 0,.str [],.int .i64 0,.nils,.int .i64 0],none⟩,⟨none,.store 5 (.t 12) (.t 43),none⟩]) (.seq (.seq (.region [6,10,12,51] [⟨some 44,.faddr (.t 6) 1,none⟩,⟨some 45,.load none (.t 44),none⟩,⟨some 46,.bin .eql (.t 45) (.c (.p (.str [33,61]))),none⟩,⟨some 47,.move (.t 46),none⟩,⟨some 48,.faddr (.t 6) 1,some (47,false)⟩,
  ⟨some 49,.load none (.t 48),some (47,false)⟩,⟨some 50,.bin .eql (.t 49) (.c (.p (.str [60,61]))),some (47,false)⟩,⟨some 51,.pick (.t 47) (.c (.p (.bool true))) (.t 50),none⟩]) (.cond (.t 51) (.region [10,12] [⟨some 52,.load (some 5) (.t 12),none⟩,⟨some 53,.bslice 39 5 1 (.agg [.int .i64 0,.str [],.int .i64 0,.nils,.int .i64 0]) [(0,(.t 52))],none⟩,
  ⟨some 54,.faddr (.t 6) 2,none⟩,⟨some 55,.load none (.t 54),none⟩,⟨some 56,.build [.int .i64 0,.str [],.int .i64 0,.nils,.int .i64 0] [(0,1,(.c (.p (.int .i64 40)))),(3,1,(.t 53)),(4,1,(.t 55))],none⟩,⟨none,.store 5 (.t 12) (.t 56),none⟩]) .skip)) (.seq (.region [10] [⟨some 57,.load (some 5) (.t 12),none⟩,⟨none,.store 5 (.t 10) (.t 57),none⟩]) .ret))))))))
 frz := true
theorem ok128 : FOk Tryz.prog 128 fc128 := FOk.of Tryz.func128 (by kernel_rfl)
def fc129 : FC where
 nt := 8
 np := 2
 res := [.t 4]
 body := (.seq (.region [0,1] [⟨some 4,.move (.c (.p (.int .i64 0))),none⟩]) (.seq (.region [4] [⟨some 5,.move (.t 0),none⟩,⟨some 6,.move (.t 1),none⟩,⟨some 7,.call (.c (.fn 144 [] [])) [(.t 5),(.t 6)],none⟩,⟨some 4,.move (.t 7),none⟩]) .ret))
theorem ok129 : FOk Tryz.prog 129 fc129 := FOk.of Tryz.func129 (by kernel_rfl)
def fc130 : FC where
 nt := 18
 np := 2
 res := [.t 4]
 body := (.seq (.region [0,1] [⟨some 4,.move (.c (.p (.bool false))),none⟩]) (.seq (.region [4] [⟨some 5,.move (.t 0),none⟩,⟨some 6,.len 0 (.t 5),none⟩,⟨some 7,.move (.t 1),none⟩,⟨some 8,.len 0 (.t 7),none⟩,⟨some 9,.bin .geq (.t 6) (.t 8),none⟩,⟨some 10,.move (.t 9),none⟩,⟨some 11,.move (.t 0),some (10,true)⟩,⟨some 12,.move (.t 1),some (10,true)⟩,
  ⟨some 13,.len 0 (.t 12),some (10,true)⟩,⟨some 14,.slice 0 (.t 11) none (some (.t 13)),some (10,true)⟩,⟨some 15,.move (.t 1),some (10,true)⟩,⟨some 16,.bin .eql (.t 14) (.t 15),some (10,true)⟩,⟨some 17,.pick (.t 10) (.t 16) (.c (.p (.bool false))),none⟩,⟨some 4,.move (.t 17),none⟩]) .ret))
theorem ok130 : FOk Tryz.prog 130 fc130 := FOk.of Tryz.func130 (by kernel_rfl)
def fc136 : FC where
 nt := 12
 np := 1
 res := [.t 2]
 body := (.seq (.region [1] [⟨some 1,.box (.t 0),none⟩,⟨some 2,.move (.c (.p (.bool false))),none⟩]) (.seq (.region [2] [⟨some 3,.faddr (.t 1) 0,none⟩,⟨some 4,.load none (.t 3),none⟩,⟨some 5,.bin .eql (.t 4) (.c (.p (.int .i64 1))),none⟩,⟨some 6,.move (.t 5),none⟩,⟨some 7,.faddr (.t 1) 1,some (6,true)⟩,⟨some 8,.load none (.t 7),some (6,true)⟩,
  ⟨some 9,.call (.c (.fn 137 [] [])) [(.t 8)],some (6,true)⟩,⟨some 10,.un .not (.t 9),some (6,true)⟩,⟨some 11,.pick (.t 6) (.t 10) (.c (.p (.bool false))),none⟩,⟨some 2,.move (.t 11),none⟩]) .ret))
theorem ok136 : FOk Tryz.prog 136 fc136 := FOk.of Tryz.func136 (by kernel_rfl)
def fc137 : FC where
 nt := 7
 np := 1
 res := [.t 2]
 body := (.seq (.region [0] [⟨some 2,.move (.c (.p (.bool false))),none⟩]) (.seq (.region [2] [⟨some 3,.move (.t 0),none⟩,⟨some 4,.bin .add (.c (.p (.str [32]))) (.t 3),none⟩,⟨some 5,.bin .add (.t 4) (.c (.p (.str [32]))),none⟩,
  ⟨some 6,.call (.c (.fn 149 [] [])) [(.c (.p (.str [32,115,111,114,116,32,111,114,100,101,114,101,100,32,118,97,114,32,102,105,101,108,100,32,112,114,101,100,32,102,97,99,116,32,97,108,108,32,115,111,109,101,32,110,111,32,111,110,101,32,108,111,110,101,32,97,108,119,97,121,115,32,101,118,101,110,116,117,97,108,108,121,32,97,102,116,101,114,32,117,110,116,105,108,32,110,111,110,101,32,117,110,105,118,32,105,100,101,110,32,105,110,32,110,111,116,32,116,114,117,101,32,102,97,108,115,101,32]))),(.t 5)],none⟩,
  ⟨some 2,.move (.t 6),none⟩]) .ret))
theorem ok137 : FOk Tryz.prog 137 fc137 := FOk.of Tryz.func137 (by kernel_rfl)
def fc141 : FC where
 nt := 28
 np := 3
 res := [.cell 6 (some 5)]
 body := (.seq (.region [0,1,2,6] [⟨some 6,.alloc [.int .i64 0,.str [],.int .i64 0,.nils,.int .i64 0],none⟩]) (.seq (.region [0,1,2,6,7] [⟨some 9,.move (.t 0),none⟩,⟨some 10,.call (.c (.fn 120 [] [])) [(.t 9)],none⟩,⟨some 7,.alloc [.int .i64 0,.str [],.int .i64 0],none⟩,⟨none,.store 3 (.t 7) (.t 10),none⟩]) (.seq (.region [0,1,2,6,7] [⟨some 11,.move (.t 0),none⟩,
  ⟨some 12,.call (.c (.fn 122 [] [])) [(.t 11),(.c (.p (.str [58])))],none⟩]) (.seq (.region [0,1,2,6,7,8] [⟨some 13,.move (.t 0),none⟩,⟨some 14,.call (.c (.fn 80 [] [])) [(.t 13),(.c (.p (.int .i64 8)))],none⟩,⟨some 8,.alloc [.int .i64 0,.str [],.int .i64 0,.nils,.int .i64 0],none⟩,⟨none,.store 5 (.t 8) (.t 14),none⟩]) (.seq (.region [0,1,2,6,7,8] [
  ⟨some 15,.move (.t 0),none⟩,⟨some 16,.call (.c (.fn 122 [] [])) [(.t 15),(.c (.p (.str [124])))],none⟩]) (.seq (.draw [6] [(3,4),(3,6),(4,6)] [⟨some 17,.move (.t 0),none⟩,⟨some 18,.move (.t 1),none⟩,⟨some 19,.faddr (.t 7) 1,none⟩,⟨some 20,.load none (.t 19),none⟩,⟨some 21,.load (some 5) (.t 8),none⟩,⟨some 22,.move (.t 0),none⟩,
  ⟨some 23,.call (.c (.fn 80 [] [])) [(.t 22),(.c (.p (.int .i64 1)))],none⟩,⟨some 24,.bslice 39 5 2 (.agg [.int .i64 0,.str [],.int .i64 0,.nils,.int .i64 0]) [(0,(.t 21)),(1,(.t 23))],none⟩,⟨some 25,.move (.t 2),none⟩,⟨some 26,.build [.int .i64 0,.str [],.int .i64 0,.nils,.int .i64 0] [(0,1,(.t 18)),(1,1,(.t 20)),(3,1,(.t 24)),(4,1,(.t 25))],none⟩,
  ⟨some 27,.call (.c (.fn 142 [] [])) [(.t 17),(.t 26)],none⟩,⟨none,.store 5 (.t 6) (.t 27),none⟩]) .ret))))))
 frz := true
theorem ok141 : FOk Tryz.prog 141 fc141 := FOk.of Tryz.func141 (by kernel_rfl)
def fc142 : FC where
 nt := 19
 np := 2
 res := [.cell 4 (some 5)]
 body := (.seq (.region [0,3,4] [⟨some 3,.box (.t 1),none⟩,⟨some 4,.alloc [.int .i64 0,.str [],.int .i64 0,.nils,.int .i64 0],none⟩]) (.seq (.seq (.draw [3,4,14] [(3,5),(3,7),(5,7)] [⟨some 5,.move (.t 0),none⟩,⟨some 6,.nilCheck (.t 5),none⟩,⟨some 7,.faddr (.t 6) 6,none⟩,⟨some 8,.load none (.t 7),none⟩,⟨some 9,.faddr (.t 3) 0,none⟩,
  ⟨some 10,.load none (.t 9),none⟩,⟨some 11,.faddr (.t 3) 3,none⟩,⟨some 12,.load none (.t 11),none⟩,⟨some 13,.call (.c (.fn 79 [] [])) [(.t 8),(.t 10),(.t 12)],none⟩,⟨some 14,.un .not (.t 13),none⟩]) (.cond (.t 14) (.region [3,4] [⟨some 15,.faddr (.t 3) 4,none⟩,⟨some 16,.load none (.t 15),none⟩,⟨some 17,.call (.c (.fn 82 [] [])) [(.c (.p (.int .i64 43))),(.t 16)],none⟩])
  .skip)) (.seq (.region [4] [⟨some 18,.load (some 5) (.t 3),none⟩,⟨none,.store 5 (.t 4) (.t 18),none⟩]) .ret)))
 frz := true
theorem ok142 : FOk Tryz.prog 142 fc142 := FOk.of Tryz.func142 (by kernel_rfl)
def fc143 : FC where
 nt := 113
 np := 2
 res := [.cell 4 (some 5)]
 body := (.seq (.region [0,3,4] [⟨some 3,.box (.t 1),none⟩,⟨some 4,.alloc [.int .i64 0,.str [],.int .i64 0,.nils,.int .i64 0],none⟩]) (.seq (.region [0,3,4,5] [⟨some 10,.mkmap 2,none⟩,⟨none,.mapins 2 (.t 10) (.c (.p (.str [116,114,117,101]))) (.c (.p (.int .i64 30))),none⟩,⟨none,.mapins 2 (.t 10) (.c (.p (.str [102,97,108,115,101]))) (.c (.p (.int .i64 31))),none⟩,
  ⟨none,.mapins 2 (.t 10) (.c (.p (.str [117,110,105,118]))) (.c (.p (.int .i64 3))),none⟩,⟨none,.mapins 2 (.t 10) (.c (.p (.str [105,100,101,110]))) (.c (.p (.int .i64 4))),none⟩,⟨some 11,.move (.t 10),none⟩,⟨some 5,.move (.t 11),none⟩]) (.seq (.seq (.region [0,3,4,6,7] [⟨some 13,.move (.t 5),none⟩,⟨some 14,.faddr (.t 3) 1,none⟩,⟨some 15,.load none (.t 14),none⟩,
  ⟨some 16,.mapget 2 (.int .i64 0) true (.t 13) (.t 15),none⟩,⟨some 12,.move (.t 16),none⟩,⟨some 17,.extract (.t 12) 0,none⟩,⟨some 18,.extract (.t 12) 1,none⟩,⟨some 6,.move (.t 17),none⟩,⟨some 7,.move (.t 18),none⟩]) (.seq (.region [0,3,4,6,19] [⟨some 19,.move (.t 7),none⟩]) (.cond (.t 19) (.seq (.region [3,4,6] [⟨some 20,.move (.t 0),none⟩,
  ⟨some 21,.nilCheck (.t 20),none⟩,⟨some 22,.faddr (.t 21) 1,none⟩,⟨some 23,.load none (.t 22),none⟩,⟨some 24,.bin .add (.t 23) (.c (.p (.int .i64 1))),none⟩,⟨some 25,.nilCheck (.t 20),none⟩,⟨some 26,.faddr (.t 25) 1,none⟩,⟨none,.store 1 (.t 26) (.t 24),none⟩]) (.seq (.region [4] [⟨some 27,.move (.t 6),none⟩,⟨some 28,.faddr (.t 3) 2,none⟩,
  ⟨some 29,.load none (.t 28),none⟩,⟨some 30,.build [.int .i64 0,.str [],.int .i64 0,.nils,.int .i64 0] [(0,1,(.t 27)),(4,1,(.t 29))],none⟩,⟨none,.store 5 (.t 4) (.t 30),none⟩]) .ret)) .skip))) (.seq (.block 0 (.seq (.region [0,3,4,31] [⟨some 32,.faddr (.t 3) 0,none⟩,⟨some 33,.load none (.t 32),none⟩,⟨some 34,.bin .eql (.t 33) (.c (.p (.int .i64 2))),none⟩,
  ⟨some 31,.move (.t 34),none⟩]) (.cond (.t 31) (.seq (.draw [4] [(1,3)] [⟨some 35,.move (.t 0),none⟩,⟨some 36,.call (.c (.fn 153 [] [])) [(.t 35),(.c (.p (.int .i64 64)))],none⟩,⟨some 37,.faddr (.t 3) 2,none⟩,⟨some 38,.load none (.t 37),none⟩,
  ⟨some 39,.build [.int .i64 0,.str [],.int .i64 0,.nils,.int .i64 0] [(0,1,(.c (.p (.int .i64 20)))),(2,1,(.t 36)),(4,1,(.t 38))],none⟩,⟨none,.store 5 (.t 4) (.t 39),none⟩]) .ret) (.seq (.region [0,3,4,40] [⟨some 41,.faddr (.t 3) 1,none⟩,⟨some 42,.load none (.t 41),none⟩,⟨some 43,.bin .eql (.t 42) (.c (.p (.str [45]))),none⟩,⟨some 44,.move (.t 43),none⟩,
  ⟨some 45,.move (.t 0),some (44,true)⟩,⟨some 46,.call (.c (.fn 72 [] [])) [(.t 45),(.c (.p (.int .i64 1)))],some (44,true)⟩,⟨some 47,.field (.t 46) 0 none,some (44,true)⟩,⟨some 48,.bin .eql (.t 47) (.c (.p (.int .i64 2))),some (44,true)⟩,⟨some 49,.pick (.t 44) (.t 48) (.c (.p (.bool false))),none⟩,⟨some 40,.move (.t 49),none⟩]) (.cond (.t 40) (.seq (.region [0,3,4] [
  ⟨some 50,.move (.t 0),none⟩,⟨some 51,.nilCheck (.t 50),none⟩,⟨some 52,.faddr (.t 51) 1,none⟩,⟨some 53,.load none (.t 52),none⟩,⟨some 54,.bin .add (.t 53) (.c (.p (.int .i64 1))),none⟩,⟨some 55,.nilCheck (.t 50),none⟩,⟨some 56,.faddr (.t 55) 1,none⟩,⟨none,.store 1 (.t 56) (.t 54),none⟩]) (.seq (.draw [4] [(1,4)] [⟨some 57,.move (.t 0),none⟩,
  ⟨some 58,.call (.c (.fn 153 [] [])) [(.t 57),(.c (.p (.int .i64 64)))],none⟩,⟨some 59,.un .neg (.t 58),none⟩,⟨some 60,.faddr (.t 3) 2,none⟩,⟨some 61,.load none (.t 60),none⟩,⟨some 62,.build [.int .i64 0,.str [],.int .i64 0,.nils,.int .i64 0] [(0,1,(.c (.p (.int .i64 20)))),(2,1,(.t 59)),(4,1,(.t 61))],none⟩,⟨none,.store 5 (.t 4) (.t 62),none⟩]) .ret)) (.seq
  (.region [0,3,4,63] [⟨some 64,.faddr (.t 3) 1,none⟩,⟨some 65,.load none (.t 64),none⟩,⟨some 66,.bin .eql (.t 65) (.c (.p (.str [45]))),none⟩,⟨some 63,.move (.t 66),none⟩]) (.cond (.t 63) (.seq (.region [0,3,4] [⟨some 67,.move (.t 0),none⟩,⟨some 68,.nilCheck (.t 67),none⟩,⟨some 69,.faddr (.t 68) 1,none⟩,⟨some 70,.load none (.t 69),none⟩,
  ⟨some 71,.bin .add (.t 70) (.c (.p (.int .i64 1))),none⟩,⟨some 72,.nilCheck (.t 67),none⟩,⟨some 73,.faddr (.t 72) 1,none⟩,⟨none,.store 1 (.t 73) (.t 71),none⟩]) (.region [0,3,4] [⟨some 74,.move (.t 0),none⟩,⟨some 75,.call (.c (.fn 49 [] [])) [(.t 74)],none⟩])) (.seq (.region [0,3,4,76] [⟨some 77,.move (.t 0),none⟩,
  ⟨some 78,.call (.c (.fn 121 [] [])) [(.t 77),(.c (.p (.str [110,111,110,101])))],none⟩,⟨some 76,.move (.t 78),none⟩]) (.cond (.t 76) (.seq (.region [4] [⟨some 79,.move (.t 0),none⟩,⟨some 80,.faddr (.t 3) 2,none⟩,⟨some 81,.load none (.t 80),none⟩,⟨some 82,.call (.c (.fn 154 [] [])) [(.t 79),(.t 81)],none⟩,⟨none,.store 5 (.t 4) (.t 82),none⟩]) .ret) (.seq
  (.region [0,3,4,83] [⟨some 84,.move (.t 0),none⟩,⟨some 85,.call (.c (.fn 121 [] [])) [(.t 84),(.c (.p (.str [123])))],none⟩,⟨some 83,.move (.t 85),none⟩]) (.cond (.t 83) (.seq (.region [0,4,8] [⟨some 86,.move (.t 0),none⟩,⟨some 87,.faddr (.t 3) 2,none⟩,⟨some 88,.load none (.t 87),none⟩,
  ⟨some 89,.call (.c (.fn 141 [] [])) [(.t 86),(.c (.p (.int .i64 15))),(.t 88)],none⟩,⟨some 8,.alloc [.int .i64 0,.str [],.int .i64 0,.nils,.int .i64 0],none⟩,⟨none,.store 5 (.t 8) (.t 89),none⟩]) (.seq (.region [4,8] [⟨some 90,.move (.t 0),none⟩,⟨some 91,.call (.c (.fn 122 [] [])) [(.t 90),(.c (.p (.str [125])))],none⟩]) (.seq (.region [4] [
  ⟨some 92,.load (some 5) (.t 8),none⟩,⟨none,.store 5 (.t 4) (.t 92),none⟩]) .ret))) (.seq (.region [0,3,4,93] [⟨some 94,.move (.t 0),none⟩,⟨some 95,.call (.c (.fn 121 [] [])) [(.t 94),(.c (.p (.str [40])))],none⟩,⟨some 93,.move (.t 95),none⟩]) (.cond (.t 93) (.seq (.region [0,4,9] [⟨some 96,.move (.t 0),none⟩,
  ⟨some 97,.call (.c (.fn 80 [] [])) [(.t 96),(.c (.p (.int .i64 1)))],none⟩,⟨some 9,.alloc [.int .i64 0,.str [],.int .i64 0,.nils,.int .i64 0],none⟩,⟨none,.store 5 (.t 9) (.t 97),none⟩]) (.seq (.region [4,9] [⟨some 98,.move (.t 0),none⟩,⟨some 99,.call (.c (.fn 122 [] [])) [(.t 98),(.c (.p (.str [41])))],none⟩]) (.seq (.region [4] [⟨some 100,.load (some 5) (.t 9),none⟩,
  ⟨none,.store 5 (.t 4) (.t 100),none⟩]) .ret))) .skip))))))))))))) (.seq (.region [0,3,4] [⟨some 101,.move (.t 0),none⟩,⟨some 102,.call (.c (.fn 120 [] [])) [(.t 101)],none⟩]) (.seq (.seq (.region [0,3,4,104] [⟨some 103,.move (.t 0),none⟩,⟨some 104,.call (.c (.fn 121 [] [])) [(.t 103),(.c (.p (.str [91])))],none⟩]) (.cond (.t 104) (.seq (.region [4] [
  ⟨some 105,.move (.t 0),none⟩,⟨some 106,.load (some 3) (.t 3),none⟩,⟨some 107,.call (.c (.fn 155 [] [])) [(.t 105),(.t 106)],none⟩,⟨none,.store 5 (.t 4) (.t 107),none⟩]) .ret) .skip)) (.seq (.region [4] [⟨some 108,.faddr (.t 3) 1,none⟩,⟨some 109,.load none (.t 108),none⟩,⟨some 110,.faddr (.t 3) 2,none⟩,⟨some 111,.load none (.t 110),none⟩,
  ⟨some 112,.build [.int .i64 0,.str [],.int .i64 0,.nils,.int .i64 0] [(0,1,(.c (.p (.int .i64 1)))),(1,1,(.t 109)),(4,1,(.t 111))],none⟩,⟨none,.store 5 (.t 4) (.t 112),none⟩]) .ret)))))))
 frz := true
theorem ok143 : FOk Tryz.prog 143 fc143 := FOk.of Tryz.func143 (by kernel_rfl)
def fc153 : FC where
 nt := 39
 np := 2
 res := [.t 4]
 body := (.seq (.region [0,1] [⟨some 4,.move (.c (.p (.int .i64 0))),none⟩]) (.seq (.region [0,1,5] [⟨some 8,.move (.t 0),none⟩,⟨some 9,.call (.c (.fn 72 [] [])) [(.t 8),(.c (.p (.int .i64 0)))],none⟩,⟨some 5,.alloc [.int .i64 0,.str [],.int .i64 0],none⟩,⟨none,.store 3 (.t 5) (.t 9),none⟩]) (.seq (.seq (.region [0,1,5,12] [⟨some 10,.faddr (.t 5) 0,none⟩,
  ⟨some 11,.load none (.t 10),none⟩,⟨some 12,.bin .neq (.t 11) (.c (.p (.int .i64 2))),none⟩]) (.cond (.t 12) (.region [0,1,5] [⟨some 13,.move (.t 0),none⟩,⟨some 14,.call (.c (.fn 49 [] [])) [(.t 13)],none⟩]) .skip)) (.seq (.region [0,1,5,6,7] [⟨some 16,.faddr (.t 5) 1,none⟩,⟨some 17,.load none (.t 16),none⟩,⟨some 18,.call (.c (.fn 164 [] [])) [(.t 17)],none⟩,
  ⟨some 15,.move (.t 18),none⟩,⟨some 19,.extract (.t 15) 0,none⟩,⟨some 20,.extract (.t 15) 1,none⟩,⟨some 6,.move (.t 19),none⟩,⟨some 7,.move (.t 20),none⟩]) (.seq (.seq (.region [0,5,6,27] [⟨some 21,.move (.t 7),none⟩,⟨some 22,.eqk 4 true (.t 21) (.c (.p (.nili))),none⟩,⟨some 23,.move (.t 22),none⟩,⟨some 24,.move (.t 6),some (23,false)⟩,
  ⟨some 25,.move (.t 1),some (23,false)⟩,⟨some 26,.bin .gtr (.t 24) (.t 25),some (23,false)⟩,⟨some 27,.pick (.t 23) (.c (.p (.bool true))) (.t 26),none⟩]) (.cond (.t 27) (.region [0,6] [⟨some 28,.faddr (.t 5) 2,none⟩,⟨some 29,.load none (.t 28),none⟩,⟨some 30,.call (.c (.fn 82 [] [])) [(.c (.p (.int .i64 2))),(.t 29)],none⟩]) .skip)) (.seq (.region [6] [
  ⟨some 31,.move (.t 0),none⟩,⟨some 32,.nilCheck (.t 31),none⟩,⟨some 33,.faddr (.t 32) 1,none⟩,⟨some 34,.load none (.t 33),none⟩,⟨some 35,.bin .add (.t 34) (.c (.p (.int .i64 1))),none⟩,⟨some 36,.nilCheck (.t 31),none⟩,⟨some 37,.faddr (.t 36) 1,none⟩,⟨none,.store 1 (.t 37) (.t 35),none⟩]) (.seq (.region [4] [⟨some 38,.move (.t 6),none⟩,⟨some 4,.move (.t 38),none⟩])
  .ret)))))))
theorem ok153 : FOk Tryz.prog 153 fc153 := FOk.of Tryz.func153 (by kernel_rfl)
def fc154 : FC where
 nt := 42
 np := 2
 res := [.cell 4 (some 5)]
 body := (.seq (.region [0,1,4] [⟨some 4,.alloc [.int .i64 0,.str [],.int .i64 0,.nils,.int .i64 0],none⟩]) (.seq (.region [0,4,5] [⟨some 7,.move (.t 1),none⟩,⟨some 8,.build [.int .i64 0,.str [],.int .i64 0,.nils,.int .i64 0] [(0,1,(.c (.p (.int .i64 2)))),(2,1,(.c (.p (.int .i64 1)))),(4,1,(.t 7))],none⟩,
  ⟨some 5,.alloc [.int .i64 0,.str [],.int .i64 0,.nils,.int .i64 0],none⟩,⟨none,.store 5 (.t 5) (.t 8),none⟩]) (.seq (.seq (.region [0,4,5,10] [⟨some 9,.move (.t 0),none⟩,⟨some 10,.call (.c (.fn 121 [] [])) [(.t 9),(.c (.p (.str [91])))],none⟩]) (.cond (.t 10) (.seq (.seq (.region [0,4,5,6] [⟨some 11,.move (.t 0),none⟩,
  ⟨some 12,.call (.c (.fn 72 [] [])) [(.t 11),(.c (.p (.int .i64 0)))],none⟩,⟨some 6,.alloc [.int .i64 0,.str [],.int .i64 0],none⟩,⟨none,.store 3 (.t 6) (.t 12),none⟩]) (.seq (.region [0,4,5,33] [⟨some 13,.faddr (.t 6) 0,none⟩,⟨some 14,.load none (.t 13),none⟩,⟨some 15,.bin .neq (.t 14) (.c (.p (.int .i64 2))),none⟩,⟨some 16,.move (.t 15),none⟩,
  ⟨some 17,.faddr (.t 6) 1,some (16,false)⟩,⟨some 18,.load none (.t 17),some (16,false)⟩,⟨some 19,.len 0 (.t 18),some (16,false)⟩,⟨some 20,.bin .neq (.t 19) (.c (.p (.int .i64 1))),some (16,false)⟩,⟨some 21,.pick (.t 16) (.c (.p (.bool true))) (.t 20),none⟩,⟨some 22,.move (.t 21),none⟩,⟨some 23,.faddr (.t 6) 1,some (22,false)⟩,
  ⟨some 24,.load none (.t 23),some (22,false)⟩,⟨some 25,.index none (.t 24) (.c (.p (.int .i64 0))),some (22,false)⟩,⟨some 26,.bin .lss (.t 25) (.c (.p (.int .u8 49))),some (22,false)⟩,⟨some 27,.pick (.t 22) (.c (.p (.bool true))) (.t 26),none⟩,⟨some 28,.move (.t 27),none⟩,⟨some 29,.faddr (.t 6) 1,some (28,false)⟩,⟨some 30,.load none (.t 29),some (28,false)⟩,
  ⟨some 31,.index none (.t 30) (.c (.p (.int .i64 0))),some (28,false)⟩,⟨some 32,.bin .gtr (.t 31) (.c (.p (.int .u8 51))),some (28,false)⟩,⟨some 33,.pick (.t 28) (.c (.p (.bool true))) (.t 32),none⟩]) (.cond (.t 33) (.region [0,4,5] [⟨some 34,.move (.t 0),none⟩,⟨some 35,.call (.c (.fn 49 [] [])) [(.t 34)],none⟩]) .skip))) (.seq (.region [0,4,5] [⟨some 36,.move (.t 0),none⟩,
  ⟨some 37,.call (.c (.fn 153 [] [])) [(.t 36),(.c (.p (.int .i64 3)))],none⟩,⟨some 38,.faddr (.t 5) 2,none⟩,⟨none,.store 1 (.t 38) (.t 37),none⟩]) (.region [4,5] [⟨some 39,.move (.t 0),none⟩,⟨some 40,.call (.c (.fn 122 [] [])) [(.t 39),(.c (.p (.str [93])))],none⟩]))) .skip)) (.seq (.region [4] [⟨some 41,.load (some 5) (.t 5),none⟩,⟨none,.store 5 (.t 4) (.t 41),none⟩])
  .ret))))
 frz := true
theorem ok154 : FOk Tryz.prog 154 fc154 := FOk.of Tryz.func154 (by kernel_rfl)
def fc155_b0 : SC :=
 (.loc (.seq (.seq (.region [0,4,5,13] [⟨some 11,.move (.t 0),none⟩,⟨some 12,.call (.c (.fn 121 [] [])) [(.t 11),(.c (.p (.str [93])))],none⟩,⟨some 13,.un .not (.t 12),none⟩]) (.cond (.t 13) .skip (.exit 0))) (.block 1 (.seq (.seq (.region [0,4,5,17] [⟨some 14,.faddr (.t 5) 3,none⟩,⟨some 15,.load none (.t 14),none⟩,⟨some 16,.len 1 (.t 15),none⟩,
 ⟨some 17,.bin .gtr (.t 16) (.c (.p (.int .i64 0))),none⟩]) (.cond (.t 17) (.region [0,4,5] [⟨some 18,.move (.t 0),none⟩,⟨some 19,.call (.c (.fn 122 [] [])) [(.t 18),(.c (.p (.str [44])))],none⟩]) .skip)) (.draw [0,4,5] [(1,3)] [⟨some 20,.faddr (.t 5) 3,none⟩,⟨some 21,.load none (.t 20),none⟩,⟨some 22,.move (.t 0),none⟩,
 ⟨some 23,.call (.c (.fn 80 [] [])) [(.t 22),(.c (.p (.int .i64 8)))],none⟩,⟨some 24,.bslice 39 5 1 (.agg [.int .i64 0,.str [],.int .i64 0,.nils,.int .i64 0]) [(0,(.t 23))],none⟩,⟨some 25,.append 39 5 64 (.t 21) (.t 24),none⟩,⟨some 26,.faddr (.t 5) 3,none⟩,⟨none,.store 1 (.t 26) (.t 25),none⟩])))))
def fc155 : FC where
 nt := 30
 np := 2
 res := [.cell 4 (some 5)]
 body := (.seq (.region [0,3,4] [⟨some 3,.box (.t 1),none⟩,⟨some 4,.alloc [.int .i64 0,.str [],.int .i64 0,.nils,.int .i64 0],none⟩]) (.seq (.region [0,4,5] [⟨some 6,.faddr (.t 3) 1,none⟩,⟨some 7,.load none (.t 6),none⟩,⟨some 8,.faddr (.t 3) 2,none⟩,⟨some 9,.load none (.t 8),none⟩,
  ⟨some 10,.build [.int .i64 0,.str [],.int .i64 0,.nils,.int .i64 0] [(0,1,(.c (.p (.int .i64 47)))),(1,1,(.t 7)),(4,1,(.t 9))],none⟩,⟨some 5,.alloc [.int .i64 0,.str [],.int .i64 0,.nils,.int .i64 0],none⟩,⟨none,.store 5 (.t 5) (.t 10),none⟩]) (.seq (.loc (.seq (.tokb 5 3 39 5) (.block 0 (.loop [0,4,5] fc155_b0)))) (.seq (.region [4] [⟨some 27,.move (.t 0),none⟩,
  ⟨some 28,.load (some 5) (.t 5),none⟩,⟨some 29,.call (.c (.fn 142 [] [])) [(.t 27),(.t 28)],none⟩,⟨none,.store 5 (.t 4) (.t 29),none⟩]) .ret))))
 frz := true
theorem ok155 : FOk Tryz.prog 155 fc155 := FOk.of Tryz.func155 (by kernel_rfl)
def repL : Nat → List UInt8 → List UInt8
 | 0, _ => []
 | n + 1, s => s ++ repL n s
def pgL : CallR := fun f args H =>
 match f, args with
 | 144, [.p (.str s), .p (.int .u8 c)] => some (.val (.p (.int .i64 (Lib.indexByte s (UInt8.ofNat c.toNat)))), H)
 | 135, [.p (.int .i64 n)] => if -9223372036854775808 ≤ n ∧ n ≤ 9223372036854775807 then some (.val (.p (.str (Lib.itoa n))), H) else none
 | 149, [.p (.str s), .p (.str t)] => if s.length < 4294967281 then some (.val (.p (.bool (Lib.contains s t))), H) else none
 | 126, [.p (.str s), .p (.int .i64 n)] => if 0 ≤ n ∧ s.length * n.toNat ≤ 140737488355328 ∧ n ≤ 9223372036854775807 then some (.val (.p (.str (repL n.toNat s))), H) else none
 | 164, [.p (.str s)] => if s.length ≤ 18 then (match Lib.atoi s with
  | some n => some (.val (.tup [.p (.int .i64 n), .p .nili]), H)
  | none => none) else none
 | 131, [.box 0 0] => match H.bx with
  | (.fresh 116 4 0 :: r) :: l => some (.val .undef, { H with bx := (.box 0 0 :: r) :: l })
  | (.box 0 0 :: _) :: _ => some (.val .undef, H)
  | _ => none
 | _, _ => none
def pgF : Nat → Option FC
 | 4 => some fc4 | 9 => some fc9 
 | 13 => some fc13 | 14 => some fc14 | 15 => some fc15 | 16 => some fc16 | 17 => some fc17 | 18 => some fc18 | 19 => some fc19 | 20 => some fc20 | 21 => some fc21 | 22 => some fc22
 | 23 => some fc23 | 25 => some fc25 | 26 => some fc26 | 29 => some fc29 
 | 35 => some fc35 | 37 => some fc37 | 39 => some fc39 | 40 => some fc40 | 41 => some fc41 | 42 => some fc42
 | 43 => some fc43 | 44 => some fc44 | 45 => some fc45 | 46 => some fc46 | 47 => some fc47 | 48 => some fc48 | 49 => some fc49 | 50 => some fc50 | 51 => some fc51 | 52 => some fc52
 | 53 => some fc53 | 54 => some fc54 | 55 => some fc55 | 56 => some fc56 
 | 68 => some fc68 | 69 => some fc69 | 70 => some fc70 | 71 => some fc71 | 72 => some fc72
 | 73 => some fc73 | 74 => some fc74 | 75 => some fc75 | 76 => some fc76 | 78 => some fc78 | 79 => some fc79 | 80 => some fc80 | 81 => some fc81 | 82 => some fc82 | 83 => some fc83
 | 84 => some fc84 | 85 => some fc85 | 86 => some fc86 | 87 => some fc87 | 88 => some fc88 | 89 => some fc89 | 90 => some fc90 | 91 => some fc91 | 92 => some fc92 
 | 119 => some fc119 | 120 => some fc120 | 121 => some fc121 | 122 => some fc122 | 123 => some fc123
 | 124 => some fc124 | 125 => some fc125 | 127 => some fc127 | 128 => some fc128 | 129 => some fc129 | 130 => some fc130 | 136 => some fc136
 | 137 => some fc137 | 141 => some fc141 | 142 => some fc142 | 143 => some fc143 | 153 => some fc153 | 154 => some fc154
 | 155 => some fc155 
 | _ => none
def syms : List (List UInt8) := [[60, 61, 62], [60, 61], [60], [61, 62], [61], [33, 61], [45, 62], [45], [43, 43], [43], [38, 38], [38], [124, 124], [124], [40], [41], [123], [125], [91], [93], [58], [59], [44], [46], [39], [126], [94], [42], [35]]
def pgG : Nat → Option (List PD)
 | 0 => some (syms.map .str)
 | _ => none
def pgD : Nat → Option (Nat × FC)
 | 77 => some (5, fc77)
 | _ => none
def pg : Pg := ⟨pgF, pgG, pgL, pgD⟩
end Go.Proofs.YtalgjkpkkdljaaaGreatDoor
namespace Go.Proofs.YtalgjkpkkdljaaaGreatDoor
open Go.Proofs
def ren144 : Go.Shelf.Ren where
 f := fun | 144 => 149 | 143 => 162 | 219 => 170 | 217 => 144 | 225 => 175 | 224 => 176 | 267 => 177 | 266 => 156 | 314 => 183 | n => n
 t := fun | 9 => 9 | 4 => 4 | 3 => 3 | 5 => 5 | 46 => 174 | 146 => 186 | 51 => 185 | n => n
 g := fun | 1 => 1 | n => n
set_option maxRecDepth 100000 in
theorem lays144 : Go.Proofs.LaysM.n144 Tryz.prog ren144 where
 mixed := by kernel_rfl
 f143 := Tryz.func162.trans (by kernel_rfl)
 f144 := Tryz.func149.trans (by kernel_rfl)
 f217 := Tryz.func144.trans (by kernel_rfl)
 f219 := Tryz.func170.trans (by kernel_rfl)
 f224 := Tryz.func176.trans (by kernel_rfl)
 f225 := Tryz.func175.trans (by kernel_rfl)
 f266 := Tryz.func156.trans (by kernel_rfl)
 f267 := Tryz.func177.trans (by kernel_rfl)
 f314 := Tryz.func183.trans (by kernel_rfl)
 t3 := Tryz.underlying3
 a3 := Tryz.isAgg3
 z3 := Tryz.sizeOf3
 v3 := Tryz.zeroValue3
 t4 := Tryz.underlying4
 a4 := Tryz.isAgg4
 z4 := Tryz.sizeOf4
 v4 := Tryz.zeroValue4
 t5 := Tryz.underlying5
 a5 := Tryz.isAgg5
 z5 := Tryz.sizeOf5
 v5 := Tryz.zeroValue5
 t9 := Tryz.underlying9
 a9 := Tryz.isAgg9
 z9 := Tryz.sizeOf9
 v9 := Tryz.zeroValue9
 t46 := Tryz.underlying174
 a46 := Tryz.isAgg174
 z46 := Tryz.sizeOf174
 v46 := Tryz.zeroValue174
 t51 := Tryz.underlying185
 a51 := Tryz.isAgg185
 z51 := Tryz.sizeOf185
 v51 := Tryz.zeroValue185
 t146 := Tryz.underlying186
 a146 := Tryz.isAgg186
 z146 := Tryz.sizeOf186
 v146 := Tryz.zeroValue186
 g1 := by kernel_rfl
 i3 := by kernel_rfl
 i4 := by kernel_rfl
 i5 := by kernel_rfl
 i9 := by kernel_rfl
 i46 := by kernel_rfl
 i51 := by kernel_rfl
 i146 := by kernel_rfl
 m1 := by kernel_rfl
 s1_3 := fun w h => cell_of_shapedOpen_int (g := 1) (zero := #[Value.int IntKind.i64 0]) h (of_decide_eq_true (by kernel_rfl)) (by kernel_rfl) rfl (by kernel_rfl) (by kernel_rfl) Tryz.underlying3
def ren217 : Go.Shelf.Ren where
 f := fun | 217 => 144 | 266 => 156 | n => n
 t := fun | 9 => 9 | 5 => 5 | 3 => 3 | n => n
 g := fun n => n
set_option maxRecDepth 100000 in
theorem lays217 : Go.Proofs.Lays.n217 Tryz.prog ren217 where
 mixed := by kernel_rfl
 f217 := Tryz.func144.trans (by kernel_rfl)
 f266 := Tryz.func156.trans (by kernel_rfl)
 t3 := Tryz.underlying3
 a3 := Tryz.isAgg3
 z3 := Tryz.sizeOf3
 v3 := Tryz.zeroValue3
 t5 := Tryz.underlying5
 a5 := Tryz.isAgg5
 z5 := Tryz.sizeOf5
 v5 := Tryz.zeroValue5
 t9 := Tryz.underlying9
 a9 := Tryz.isAgg9
 z9 := Tryz.sizeOf9
 v9 := Tryz.zeroValue9
def ren171 : Go.Shelf.Ren where
 f := fun | 171 => 114 | 243 => 135 | 246 => 148 | 283 => 158 | 284 => 159 | 285 => 160 | 286 => 161 | 129 => 166 | 317 => 165 | 318 => 167 | 319 => 168 | 320 => 169 | 337 => 173 | 338 => 174 | n => n
 t := fun | 3 => 3 | 9 => 9 | 2 => 2 | 4 => 4 | 171 => 192 | 0 => 0 | 53 => 188 | 37 => 57 | 5 => 5 | 173 => 195 | 212 => 200 | 51 => 185 | 20 => 20 | 213 => 201 | 46 => 174 | 232 => 212 | 233 => 213 | n => n
 g := fun | 17 => 2 | 18 => 3 | 19 => 4 | n => n
set_option maxRecDepth 100000 in
theorem lays171 : Go.Proofs.LaysM.n171 Tryz.prog ren171 where
 i171 := by kernel_rfl
 i212 := by kernel_rfl
 i232 := by kernel_rfl
 i233 := by kernel_rfl
 mixed := by kernel_rfl
 f129 := Tryz.func166.trans (by kernel_rfl)
 f171 := Tryz.func114.trans (by kernel_rfl)
 f243 := Tryz.func135.trans (by kernel_rfl)
 f246 := Tryz.func148.trans (by kernel_rfl)
 f283 := Tryz.func158.trans (by kernel_rfl)
 f284 := Tryz.func159.trans (by kernel_rfl)
 f285 := Tryz.func160.trans (by kernel_rfl)
 f286 := Tryz.func161.trans (by kernel_rfl)
 f317 := Tryz.func165.trans (by kernel_rfl)
 f318 := Tryz.func167.trans (by kernel_rfl)
 f319 := Tryz.func168.trans (by kernel_rfl)
 f320 := Tryz.func169.trans (by kernel_rfl)
 f337 := Tryz.func173.trans (by kernel_rfl)
 f338 := Tryz.func174.trans (by kernel_rfl)
 t0 := Tryz.underlying0
 a0 := Tryz.isAgg0
 z0 := Tryz.sizeOf0
 v0 := Tryz.zeroValue0
 t2 := Tryz.underlying2
 a2 := Tryz.isAgg2
 z2 := Tryz.sizeOf2
 v2 := Tryz.zeroValue2
 t3 := Tryz.underlying3
 a3 := Tryz.isAgg3
 z3 := Tryz.sizeOf3
 v3 := Tryz.zeroValue3
 t4 := Tryz.underlying4
 a4 := Tryz.isAgg4
 z4 := Tryz.sizeOf4
 v4 := Tryz.zeroValue4
 t5 := Tryz.underlying5
 a5 := Tryz.isAgg5
 z5 := Tryz.sizeOf5
 v5 := Tryz.zeroValue5
 t9 := Tryz.underlying9
 a9 := Tryz.isAgg9
 z9 := Tryz.sizeOf9
 v9 := Tryz.zeroValue9
 t20 := Tryz.underlying20
 a20 := Tryz.isAgg20
 z20 := Tryz.sizeOf20
 v20 := Tryz.zeroValue20
 t37 := Tryz.underlying57
 a37 := Tryz.isAgg57
 z37 := Tryz.sizeOf57
 v37 := Tryz.zeroValue57
 t46 := Tryz.underlying174
 a46 := Tryz.isAgg174
 z46 := Tryz.sizeOf174
 v46 := Tryz.zeroValue174
 t51 := Tryz.underlying185
 a51 := Tryz.isAgg185
 z51 := Tryz.sizeOf185
 v51 := Tryz.zeroValue185
 t53 := Tryz.underlying188
 a53 := Tryz.isAgg188
 z53 := Tryz.sizeOf188
 v53 := Tryz.zeroValue188
 t171 := Tryz.underlying192
 a171 := Tryz.isAgg192
 z171 := Tryz.sizeOf192
 v171 := Tryz.zeroValue192
 t173 := Tryz.underlying195
 a173 := Tryz.isAgg195
 z173 := Tryz.sizeOf195
 v173 := Tryz.zeroValue195
 t212 := Tryz.underlying200
 a212 := Tryz.isAgg200
 z212 := Tryz.sizeOf200
 v212 := Tryz.zeroValue200
 t213 := Tryz.underlying201
 a213 := Tryz.isAgg201
 z213 := Tryz.sizeOf201
 t232 := Tryz.underlying212
 a232 := Tryz.isAgg212
 z232 := Tryz.sizeOf212
 v232 := Tryz.zeroValue212
 t233 := Tryz.underlying213
 a233 := Tryz.isAgg213
 z233 := Tryz.sizeOf213
 v233 := Tryz.zeroValue213
 g17 := by kernel_rfl
 g18 := by kernel_rfl
 g19 := by kernel_rfl
 i0 := by kernel_rfl
 i2 := by kernel_rfl
 i3 := by kernel_rfl
 i4 := by kernel_rfl
 i5 := by kernel_rfl
 i9 := by kernel_rfl
 i20 := by kernel_rfl
 i37 := by kernel_rfl
 i46 := by kernel_rfl
 i51 := by kernel_rfl
 i53 := by kernel_rfl
 i173 := by kernel_rfl
 m17 := by kernel_rfl
 m18 := by kernel_rfl
 m19 := by kernel_rfl
def ren172 : Go.Shelf.Ren where
 f := fun | 172 => 164 | 244 => 171 | 245 => 172 | 247 => 178 | 279 => 179 | 280 => 180 | 281 => 181 | 282 => 182 | 287 => 184 | 316 => 185 | 171 => 114 | 205 => 186 | 321 => 187 | 322 => 188 | 243 => 135 | 246 => 148 | 283 => 158 | 284 => 159 | 285 => 160 | 286 => 161 | 129 => 166 | 317 => 165 | 318 => 167 | 319 => 168 | 320 => 169 | 337 => 173 | 338 => 174 | n => n
 t := fun | 9 => 9 | 3 => 3 | 75 => 135 | 76 => 136 | 4 => 4 | 5 => 5 | 167 => 206 | 37 => 57 | 0 => 0 | 85 => 207 | 2 => 2 | 168 => 209 | 53 => 188 | 175 => 215 | 46 => 174 | 210 => 219 | 127 => 159 | 145 => 224 | 143 => 222 | 21 => 21 | 171 => 192 | 173 => 195 | 212 => 200 | 51 => 185 | 20 => 20 | 213 => 201 | 232 => 212 | 233 => 213 | 80 => 110 | n => n
 g := fun | 15 => 5 | 16 => 6 | 17 => 2 | 18 => 3 | 19 => 4 | n => n
set_option maxRecDepth 100000 in
theorem lays172 : Go.Proofs.LaysC.n172 Tryz.prog ren172 where
 i171 := by kernel_rfl
 i210 := by kernel_rfl
 i212 := by kernel_rfl
 i232 := by kernel_rfl
 i233 := by kernel_rfl
 mixed := by kernel_rfl
 f129 := Tryz.func166.trans (by kernel_rfl)
 f171 := Tryz.func114.trans (by kernel_rfl)
 f172 := Tryz.func164.trans (by kernel_rfl)
 f205 := Tryz.func186.trans (by kernel_rfl)
 f243 := Tryz.func135.trans (by kernel_rfl)
 f244 := Tryz.func171.trans (by kernel_rfl)
 f245 := Tryz.func172.trans (by kernel_rfl)
 f246 := Tryz.func148.trans (by kernel_rfl)
 f247 := Tryz.func178.trans (by kernel_rfl)
 f279 := Tryz.func179.trans (by kernel_rfl)
 f280 := Tryz.func180.trans (by kernel_rfl)
 f281 := Tryz.func181.trans (by kernel_rfl)
 f282 := Tryz.func182.trans (by kernel_rfl)
 f283 := Tryz.func158.trans (by kernel_rfl)
 f284 := Tryz.func159.trans (by kernel_rfl)
 f285 := Tryz.func160.trans (by kernel_rfl)
 f286 := Tryz.func161.trans (by kernel_rfl)
 f287 := Tryz.func184.trans (by kernel_rfl)
 f316 := Tryz.func185.trans (by kernel_rfl)
 f317 := Tryz.func165.trans (by kernel_rfl)
 f318 := Tryz.func167.trans (by kernel_rfl)
 f319 := Tryz.func168.trans (by kernel_rfl)
 f320 := Tryz.func169.trans (by kernel_rfl)
 f321 := Tryz.func187.trans (by kernel_rfl)
 f322 := Tryz.func188.trans (by kernel_rfl)
 f337 := Tryz.func173.trans (by kernel_rfl)
 f338 := Tryz.func174.trans (by kernel_rfl)
 t0 := Tryz.underlying0
 a0 := Tryz.isAgg0
 z0 := Tryz.sizeOf0
 v0 := Tryz.zeroValue0
 t2 := Tryz.underlying2
 a2 := Tryz.isAgg2
 z2 := Tryz.sizeOf2
 v2 := Tryz.zeroValue2
 t3 := Tryz.underlying3
 a3 := Tryz.isAgg3
 z3 := Tryz.sizeOf3
 v3 := Tryz.zeroValue3
 t4 := Tryz.underlying4
 a4 := Tryz.isAgg4
 z4 := Tryz.sizeOf4
 v4 := Tryz.zeroValue4
 t5 := Tryz.underlying5
 a5 := Tryz.isAgg5
 z5 := Tryz.sizeOf5
 v5 := Tryz.zeroValue5
 t9 := Tryz.underlying9
 a9 := Tryz.isAgg9
 z9 := Tryz.sizeOf9
 v9 := Tryz.zeroValue9
 t20 := Tryz.underlying20
 a20 := Tryz.isAgg20
 z20 := Tryz.sizeOf20
 v20 := Tryz.zeroValue20
 t21 := Tryz.underlying21
 a21 := Tryz.isAgg21
 z21 := Tryz.sizeOf21
 v21 := Tryz.zeroValue21
 t37 := Tryz.underlying57
 a37 := Tryz.isAgg57
 z37 := Tryz.sizeOf57
 v37 := Tryz.zeroValue57
 t46 := Tryz.underlying174
 a46 := Tryz.isAgg174
 z46 := Tryz.sizeOf174
 v46 := Tryz.zeroValue174
 t51 := Tryz.underlying185
 a51 := Tryz.isAgg185
 z51 := Tryz.sizeOf185
 v51 := Tryz.zeroValue185
 t53 := Tryz.underlying188
 a53 := Tryz.isAgg188
 z53 := Tryz.sizeOf188
 v53 := Tryz.zeroValue188
 t75 := Tryz.underlying135
 a75 := Tryz.isAgg135
 z75 := Tryz.sizeOf135
 v75 := Tryz.zeroValue135
 t76 := Tryz.underlying136
 a76 := Tryz.isAgg136
 z76 := Tryz.sizeOf136
 v76 := Tryz.zeroValue136
 t85 := Tryz.underlying207
 a85 := Tryz.isAgg207
 z85 := Tryz.sizeOf207
 v85 := Tryz.zeroValue207
 t127 := Tryz.underlying159
 a127 := Tryz.isAgg159
 z127 := Tryz.sizeOf159
 v127 := Tryz.zeroValue159
 t143 := Tryz.underlying222
 a143 := Tryz.isAgg222
 z143 := Tryz.sizeOf222
 v143 := Tryz.zeroValue222
 t145 := Tryz.underlying224
 a145 := Tryz.isAgg224
 z145 := Tryz.sizeOf224
 v145 := Tryz.zeroValue224
 t167 := Tryz.underlying206
 a167 := Tryz.isAgg206
 z167 := Tryz.sizeOf206
 v167 := Tryz.zeroValue206
 t168 := Tryz.underlying209
 a168 := Tryz.isAgg209
 z168 := Tryz.sizeOf209
 v168 := Tryz.zeroValue209
 t171 := Tryz.underlying192
 a171 := Tryz.isAgg192
 z171 := Tryz.sizeOf192
 v171 := Tryz.zeroValue192
 t173 := Tryz.underlying195
 a173 := Tryz.isAgg195
 z173 := Tryz.sizeOf195
 v173 := Tryz.zeroValue195
 t175 := Tryz.underlying215
 a175 := Tryz.isAgg215
 z175 := Tryz.sizeOf215
 v175 := Tryz.zeroValue215
 t210 := Tryz.underlying219
 a210 := Tryz.isAgg219
 z210 := Tryz.sizeOf219
 v210 := Tryz.zeroValue219
 t212 := Tryz.underlying200
 a212 := Tryz.isAgg200
 z212 := Tryz.sizeOf200
 v212 := Tryz.zeroValue200
 t213 := Tryz.underlying201
 a213 := Tryz.isAgg201
 z213 := Tryz.sizeOf201
 t232 := Tryz.underlying212
 a232 := Tryz.isAgg212
 z232 := Tryz.sizeOf212
 v232 := Tryz.zeroValue212
 t233 := Tryz.underlying213
 a233 := Tryz.isAgg213
 z233 := Tryz.sizeOf213
 v233 := Tryz.zeroValue213
 g15 := by kernel_rfl
 g16 := by kernel_rfl
 g17 := by kernel_rfl
 g18 := by kernel_rfl
 g19 := by kernel_rfl
 t80 := Tryz.underlying110
 a80 := Tryz.isAgg110
 z80 := Tryz.sizeOf110
 v80 := Tryz.zeroValue110
 i0 := by kernel_rfl
 i2 := by kernel_rfl
 i3 := by kernel_rfl
 i4 := by kernel_rfl
 i5 := by kernel_rfl
 i9 := by kernel_rfl
 i20 := by kernel_rfl
 i21 := by kernel_rfl
 i37 := by kernel_rfl
 i46 := by kernel_rfl
 i51 := by kernel_rfl
 i53 := by kernel_rfl
 i75 := by kernel_rfl
 i76 := by kernel_rfl
 i80 := by kernel_rfl
 i85 := by kernel_rfl
 i127 := by kernel_rfl
 i143 := by kernel_rfl
 i145 := by kernel_rfl
 i167 := by kernel_rfl
 i168 := by kernel_rfl
 i173 := by kernel_rfl
 i175 := by kernel_rfl
 m15 := by kernel_rfl
 m16 := by kernel_rfl
 m17 := by kernel_rfl
 m18 := by kernel_rfl
 m19 := by kernel_rfl
 c0 := by kernel_rfl
 c2 := by kernel_rfl
 c3 := by kernel_rfl
 c4 := by kernel_rfl
 c5 := by kernel_rfl
 c9 := by kernel_rfl
 c20 := by kernel_rfl
 c21 := by kernel_rfl
 c37 := by kernel_rfl
 c46 := by kernel_rfl
 c51 := by kernel_rfl
 c53 := by kernel_rfl
 c75 := by kernel_rfl
 c76 := by kernel_rfl
 c80 := by kernel_rfl
 c85 := by kernel_rfl
 c127 := by kernel_rfl
 c143 := by kernel_rfl
 c145 := by kernel_rfl
 c167 := by kernel_rfl
 c168 := by kernel_rfl
 c171 := by kernel_rfl
 c173 := by kernel_rfl
 c175 := by kernel_rfl
 c210 := by kernel_rfl
 c212 := by kernel_rfl
 c213 := by kernel_rfl
 c232 := by kernel_rfl
 c233 := by kernel_rfl
def ren105 : Go.Shelf.Ren where
 f := fun | 105 => 126 | 212 => 138 | 99 => 86 | 165 => 139 | 166 => 94 | 170 => 140 | 169 => 67 | 263 => 150 | 264 => 151 | 206 => 130 | 240 => 131 | 241 => 152 | 276 => 145 | 277 => 163 | n => n
 t := fun | 9 => 9 | 3 => 3 | 4 => 4 | 20 => 20 | 0 => 0 | 46 => 174 | 109 => 175 | 5 => 5 | 72 => 113 | 76 => 136 | 51 => 185 | 146 => 186 | 53 => 188 | 148 => 189 | 70 => 111 | 37 => 57 | 75 => 135 | 127 => 159 | 164 => 181 | 80 => 110 | n => n
 g := fun n => n
set_option maxRecDepth 100000 in
theorem lays105 : Go.Proofs.Lays.n105 Tryz.prog ren105 where
 mixed := by kernel_rfl
 f99 := Tryz.func86.trans (by kernel_rfl)
 f105 := Tryz.func126.trans (by kernel_rfl)
 f165 := Tryz.func139.trans (by kernel_rfl)
 f166 := Tryz.func94.trans (by kernel_rfl)
 f169 := Tryz.func67.trans (by kernel_rfl)
 f170 := Tryz.func140.trans (by kernel_rfl)
 f206 := Tryz.func130.trans (by kernel_rfl)
 f212 := Tryz.func138.trans (by kernel_rfl)
 f240 := Tryz.func131.trans (by kernel_rfl)
 f241 := Tryz.func152.trans (by kernel_rfl)
 f263 := Tryz.func150.trans (by kernel_rfl)
 f264 := Tryz.func151.trans (by kernel_rfl)
 f276 := Tryz.func145.trans (by kernel_rfl)
 f277 := Tryz.func163.trans (by kernel_rfl)
 t0 := Tryz.underlying0
 a0 := Tryz.isAgg0
 z0 := Tryz.sizeOf0
 v0 := Tryz.zeroValue0
 t3 := Tryz.underlying3
 a3 := Tryz.isAgg3
 z3 := Tryz.sizeOf3
 v3 := Tryz.zeroValue3
 t4 := Tryz.underlying4
 a4 := Tryz.isAgg4
 z4 := Tryz.sizeOf4
 v4 := Tryz.zeroValue4
 t5 := Tryz.underlying5
 a5 := Tryz.isAgg5
 z5 := Tryz.sizeOf5
 v5 := Tryz.zeroValue5
 t9 := Tryz.underlying9
 a9 := Tryz.isAgg9
 z9 := Tryz.sizeOf9
 v9 := Tryz.zeroValue9
 t20 := Tryz.underlying20
 a20 := Tryz.isAgg20
 z20 := Tryz.sizeOf20
 v20 := Tryz.zeroValue20
 t37 := Tryz.underlying57
 a37 := Tryz.isAgg57
 z37 := Tryz.sizeOf57
 v37 := Tryz.zeroValue57
 t46 := Tryz.underlying174
 a46 := Tryz.isAgg174
 z46 := Tryz.sizeOf174
 v46 := Tryz.zeroValue174
 t51 := Tryz.underlying185
 a51 := Tryz.isAgg185
 z51 := Tryz.sizeOf185
 v51 := Tryz.zeroValue185
 t53 := Tryz.underlying188
 a53 := Tryz.isAgg188
 z53 := Tryz.sizeOf188
 v53 := Tryz.zeroValue188
 t70 := Tryz.underlying111
 a70 := Tryz.isAgg111
 z70 := Tryz.sizeOf111
 v70 := Tryz.zeroValue111
 t72 := Tryz.underlying113
 a72 := Tryz.isAgg113
 z72 := Tryz.sizeOf113
 v72 := Tryz.zeroValue113
 t75 := Tryz.underlying135
 a75 := Tryz.isAgg135
 z75 := Tryz.sizeOf135
 v75 := Tryz.zeroValue135
 t76 := Tryz.underlying136
 a76 := Tryz.isAgg136
 z76 := Tryz.sizeOf136
 v76 := Tryz.zeroValue136
 t109 := Tryz.underlying175
 a109 := Tryz.isAgg175
 z109 := Tryz.sizeOf175
 v109 := Tryz.zeroValue175
 t127 := Tryz.underlying159
 a127 := Tryz.isAgg159
 z127 := Tryz.sizeOf159
 v127 := Tryz.zeroValue159
 t146 := Tryz.underlying186
 a146 := Tryz.isAgg186
 z146 := Tryz.sizeOf186
 v146 := Tryz.zeroValue186
 t148 := Tryz.underlying189
 a148 := Tryz.isAgg189
 z148 := Tryz.sizeOf189
 v148 := Tryz.zeroValue189
 t164 := Tryz.underlying181
 a164 := Tryz.isAgg181
 z164 := Tryz.sizeOf181
 v164 := Tryz.zeroValue181
theorem sizeB : (Tryz.prog.info? 113).map (·.size) = some 2 := by kernel_rfl
set_option maxHeartbeats 1000000 in
set_option maxRecDepth 100000 in
theorem cc_used (b : Nat) (w : World) (h0 : w.cell? ⟨b, 0, none⟩ = some (.pointer (some ⟨b, 0, none⟩))) :
    Calls Tryz.prog 131 #[.pointer (some ⟨b, 0, none⟩)] w fun e w' => e = .returned (.tuple #[]) ∧ w' = w := by
 obtain ⟨j, hj, _⟩ := Option.map_eq_some_iff.1 sizeB
 have t72 := Tryz.underlying111; have a72 := Tryz.isAgg111; have z72 := Tryz.sizeOf111; have v72 := Tryz.zeroValue111; have u72 := run_underlying Tryz.underlying111
 go_enter Tryz.func131, Tryz.ntmps131
 go_wp2
 rw [Lib.run_neq_ptr_same w _ Tryz.underlying111 hj]
 go_wp2
 go_end0
 exact ⟨rfl, rfl⟩
set_option maxHeartbeats 1000000 in
set_option maxRecDepth 100000 in
theorem cc_fresh (b : Nat) (w : World) (h0 : w.cell? ⟨b, 0, none⟩ = some (.pointer none)) (hsh : w.shape? b = some (116, 4)) (hfz : w.frozen? ⟨b, 0, none⟩ = false) :
    Calls Tryz.prog 131 #[.pointer (some ⟨b, 0, none⟩)] w fun e w' => e = .returned (.tuple #[]) ∧ w' = w.setCell ⟨b, 0, none⟩ (.pointer (some ⟨b, 0, none⟩)) := by
 obtain ⟨j, hj, hjs⟩ := Option.map_eq_some_iff.1 sizeB
 have t72 := Tryz.underlying111; have a72 := Tryz.isAgg111; have z72 := Tryz.sizeOf111; have v72 := Tryz.zeroValue111; have u72 := run_underlying Tryz.underlying111
 have t112 := Tryz.underlying181; have a112 := Tryz.isAgg181; have z112 := Tryz.sizeOf181; have v112 := Tryz.zeroValue181; have u112 := run_underlying Tryz.underlying181
 go_enter Tryz.func131, Tryz.ntmps131
 go_wp2
 rw [Lib.run_to_unsafe w ⟨b, 0, none⟩ Tryz.underlying111 Tryz.underlying181 hj (by rw [hjs]; decide) hsh (Nat.zero_lt_succ 3)]
 simp only [Result.andThen]
 rw [Oper.upon_value]
 go_wp2
 rw [run_callFunc_extern Tryz.func145 (by kernel_rfl) (by kernel_rfl) (by kernel_rfl) (e := Extern.AbiNoEscape.same) (by kernel_rfl)]
 rw [Lib.run_noEscape]
 simp only [Result.andThen]
 rw [Oper.upon_value]
 go_wp2
 rw [Lib.run_from_unsafe w ⟨b, 0, none⟩ Tryz.underlying181 Tryz.underlying111 hj hsh (by kernel_rfl)]
 simp only [Result.andThen]
 rw [Oper.upon_value]
 go_wp2
 go_end0
 exact ⟨rfl, rfl⟩
end Go.Proofs.YtalgjkpkkdljaaaGreatDoor
namespace Go.Proofs.YtalgjkpkkdljaaaGreatDoor
open Go.Vs Go.RowKit
structure WOk (W : World) : Prop where
 max : ∃ m, W.cell? ⟨1, 0, none⟩ = some (.int .i64 m)
 tab : Lib.TabIs Tryz.prog W "internal/strconv.uint64pow10" .u64 Lib.pow10Tab
theorem cell_later {W w : World} (B : Below W.heap.size W w) {a : Addr} {v : Value} (h : W.cell? a = some v) : w.cell? a = some v := by
 have hb := World.block_lt_of_cell? W a h
 have := B.block a.block hb
 unfold World.cell? at h ⊢
 rw [this]; exact h
theorem tab_later {W w : World} (B : Below W.heap.size W w) {name : String} {k : IntKind} {zs : List Int} (h : Lib.TabIs Tryz.prog W name k zs) : Lib.TabIs Tryz.prog w name k zs := by
 unfold Lib.TabIs World.var? at h ⊢
 obtain ⟨g, hg, h2⟩ := Option.bind_eq_some_iff.1 h
 have hlt : g < W.heap.size := by
  rcases Nat.lt_or_ge g W.heap.size with q | q
  ·exact q
  ·rw [Array.getElem?_eq_none q] at h2; cases h2
 rw [hg]
 simp only [Option.bind_some]
 rw [B.block g hlt]; exact h2
theorem size_mk (l : List UInt8) : (⟨l.toArray⟩ : ByteArray).size = l.length := by simp [ByteArray.size]
theorem below_alloc (w : World) (o : Obj) : Below w.heap.size w (w.drew.alloc o) := ⟨rfl, rfl, rfl, by simp, fun k hk => by
 rw [heap_alloc, if_neg (by show ¬ k = w.heap.size; omega)]; rfl⟩
theorem below_bytes (w : World) (e : TypeId) (s : ByteArray) : Below w.heap.size w (Lib.bytesWorld w e s) :=
 Lib.below_freeze (below_alloc w _) (Nat.le_refl _) 1
theorem extra105 : Builder.Extra Tryz.prog ren105 where
 sizeBuilder := by kernel_rfl
 liesBuilder := by kernel_rfl
 t5 := Tryz.underlying5
 a5 := Tryz.isAgg5
 z5 := Tryz.sizeOf5
 v5 := Tryz.zeroValue5
 infoByte := by kernel_rfl
 cellsByte := by kernel_rfl
 sizeByte := by kernel_rfl
 neB5 := by decide
theorem repL_eq (n : Nat) (s : List UInt8) : Lib.repeatL s n = repL n s := by
 induction n with
 | zero => rfl
 | succ n ih => simp only [Lib.repeatL, repL, ih]
variable {W : World}
theorem meets_idx (s : List UInt8) (c : Int) (H : Hp) : Meets Tryz.prog W pgG 144 [.p (.str s), .p (.int .u8 c)] H (.val (.p (.int .i64 (Lib.indexByte s (UInt8.ofNat c.toNat))))) H :=
 lib_meets ⟨Tryz.f144, Tryz.func144, by kernel_rfl, by kernel_rfl⟩ fun γ w vs I hv => by
  obtain ⟨v, u, rfl, h1, h2⟩ := repL_two hv
  rw [h1.p_inv.str_inv, h2.p_inv.int_inv]
  refine (Any.stringslite_IndexByte lays217 _ c w).mono ?_
  rintro e w' ⟨rfl, rfl⟩
  exact ⟨_, rfl, Below.refl _ _, .p _ _ (.int _ _)⟩
theorem meets_itoa (hW : WOk W) (n : Int) (H : Hp) (h0 : -9223372036854775808 ≤ n) (h1 : n ≤ 9223372036854775807) : Meets Tryz.prog W pgG 135 [.p (.int .i64 n)] H (.val (.p (.str (Lib.itoa n)))) H :=
 lib_meets ⟨Tryz.f135, Tryz.func135, by kernel_rfl, by kernel_rfl⟩ fun γ w vs I hv => by
  obtain ⟨v, rfl, hr⟩ := repL_one hv
  rw [hr.p_inv.int_inv]
  refine (Any.internal_strconv_Itoa { lays171 with } n h0 h1 w (tab_later I.blw hW.tab)).mono ?_
  rintro e w' ⟨rfl, k, os, rfl⟩
  exact ⟨_, rfl, Lib.below_grow _ w (Nat.le_refl _) k os, .p _ _ (.str _)⟩
theorem meets_contains (hW : WOk W) (s t : List UInt8) (H : Hp) (hs : s.length < 4294967281) : Meets Tryz.prog W pgG 149 [.p (.str s), .p (.str t)] H (.val (.p (.bool (Lib.contains s t)))) H :=
 lib_meets ⟨Tryz.f149, Tryz.func149, by kernel_rfl, by kernel_rfl⟩ fun γ w vs I hv => by
  obtain ⟨v, u, rfl, h1, h2⟩ := repL_two hv
  rw [h1.p_inv.str_inv, h2.p_inv.str_inv]
  obtain ⟨m, hm⟩ := hW.max
  refine (Any.strings_Contains { lays144 with } ⟨s.toArray⟩ ⟨t.toArray⟩ m w (by rw [size_mk]; exact hs) (cell_later I.blw hm)).mono ?_
  rintro e w' ⟨rfl, rfl⟩
  exact ⟨_, rfl, Below.refl _ _, .p _ _ (.bool _)⟩
theorem meets_repeat (s : List UInt8) (n : Int) (H : Hp) (h0 : 0 ≤ n) (h1 : s.length * n.toNat ≤ 140737488355328) (h2 : n ≤ 9223372036854775807) : Meets Tryz.prog W pgG 126 [.p (.str s), .p (.int .i64 n)] H (.val (.p (.str (repL n.toNat s)))) H :=
 lib_meets ⟨Tryz.f126, Tryz.func126, by kernel_rfl, by kernel_rfl⟩ fun γ w vs I hv => by
  obtain ⟨v, u, rfl, h1', h2'⟩ := repL_two hv
  rw [h1'.p_inv.str_inv, h2'.p_inv.int_inv]
  have hn : n = (n.toNat : Int) := by omega
  have := Any.strings_Repeat lays105 extra105 ⟨s.toArray⟩ n.toNat w (by omega) (by rw [size_mk]; exact h1)
  rw [← hn] at this
  refine this.mono ?_
  rintro e w' ⟨rfl, B⟩
  refine ⟨_, rfl, B, ?_⟩
  rw [← repL_eq]
  exact .p _ _ (.str _)
theorem meets_atoi (s : List UInt8) (n : Int) (H : Hp) (hs : s.length ≤ 18) (hn : Lib.atoi s = some n) : Meets Tryz.prog W pgG 164 [.p (.str s)] H (.val (.tup [.p (.int .i64 n), .p .nili])) H :=
 lib_meets ⟨Tryz.f164, Tryz.func164, by kernel_rfl, by kernel_rfl⟩ fun γ w vs I hv => by
  obtain ⟨v, rfl, hr⟩ := repL_one hv
  rw [hr.p_inv.str_inv]
  refine (Any.strconv_Atoi lays172.toM.ton172 ⟨s.toArray⟩ n (by rw [size_mk]; exact hs) hn w).mono ?_
  rintro e w' ⟨rfl, t, rfl⟩
  exact ⟨_, rfl, below_bytes w _ _, rep_tup2 (.p _ _ (.int _ _)) (.p _ _ .nili)⟩
theorem meets_cc (H H' : Hp) (r : Res) (h : pgL 131 [.box 0 0] H = some (r, H')) : Meets Tryz.prog W pgG 131 [.box 0 0] H r H' := by
 refine ⟨⟨Tryz.f131, Tryz.func131, by kernel_rfl, by kernel_rfl⟩, fun γ w vs I hv => ?_⟩
 obtain ⟨v, rfl, hr⟩ := repL_one hv
 cases hr with
 | box _ _ b hb =>
  simp only [pgL] at h
  split at h
  ·rename_i q l hbx
   cases h
   obtain ⟨us, T, fr, q1, q2, q3, q4⟩ := I.box 0 b _ hb (by rw [hbx]; rfl)
   have hm : isMapC (D.fresh 116 4 0 :: q) = false := by cases q <;> rfl
   rw [viewC_of hm] at q1
   have q20 := q2.2 0 _ rfl
   generalize hu : us.getD 0 undef = u at q20
   cases q20 with
   | fresh _ _ _ b' hb' ht =>
    rw [hb] at hb'
    cases hb'
    obtain ⟨us', fr', z1, z2, _⟩ := I.tys _ _ _ ht
    rw [q1] at z1
    cases z1
    have hus : 0 < us.size := by omega
    have h0 : us[0]? = some (.pointer none) := by
     rw [Array.getElem?_eq_getElem hus]
     simpa [Array.getD_eq_getD_getElem?, hus] using hu
    have hcl := q4 (by simp)
    refine (cc_fresh b w (by simp only [World.cell?, q1]; simpa using h0) (by simp [World.shape?, q1, z2]) ?_).mono ?_
    ·have := hcl 0 (Nat.le_refl _) hus
     simp only [World.frozen?, q1]
     obtain ⟨f1, f2⟩ := fr
     simp only at this ⊢
     cases hd : (decide (f1 ≤ 0) && decide (0 < f2)) with
     | false => rfl
     | true => simp at hd; exact (this ⟨by simp; omega, by simpa using hd.2⟩).elim
    ·rintro e w' ⟨rfl, rfl⟩
     have hst := I.toInv.store (off := 0) hb (by rw [hbx]; rfl) (us := [.pointer (some ⟨b, 0, none⟩)]) (ds := [.box 0 0]) (repL1 (.box 0 0 b hb)) (fun d hd => by simp at hd; subst hd; rfl) (by simp) q1 hcl q2 hm
     have hw : w.setCell ⟨b, 0, none⟩ (.pointer (some ⟨b, 0, none⟩)) = w.setRow b (us.toList.take 0 ++ [Value.pointer (some ⟨b, 0, none⟩)] ++ us.toList.drop (0 + [Value.pointer (some ⟨b, 0, none⟩)].length)).toArray := by
      rw [setCell_eq_setRow w b 0 us _ fr _ q1]
      congr 1
      apply Array.ext'
      obtain ⟨l⟩ := us
      match l, hus with
      | x :: l, _ => simp
     have hs : ∀ bx : List (List D), bx = (.fresh 116 4 0 :: q) :: l → bx.set 0 (Vs.splice (.fresh 116 4 0 :: q) 0 [.box 0 0]) = (.box 0 0 :: q) :: l := by
      intro bx hb; subst hb; simp [Vs.splice]
     rw [hs _ hbx] at hst
     obtain ⟨F, J⟩ := hst
     rw [hw]
     exact ⟨γ, .refl γ, F, I.up (.refl γ) F J, _, rfl, .undef⟩
  ·rename_i q l hbx
   cases h
   obtain ⟨us, T, fr, q1, q2, q3, q4⟩ := I.box 0 b _ hb (by rw [hbx]; rfl)
   have hm : isMapC (D.box 0 0 :: q) = false := by cases q <;> rfl
   rw [viewC_of hm] at q1
   have q20 := q2.2 0 _ rfl
   have hus : 0 < us.size := by have := q2.1; simp at this; omega
   generalize hu : us.getD 0 undef = u at q20
   cases q20 with
   | box _ _ b' hb' =>
    rw [hb] at hb'
    cases hb'
    have h0 : us[0]? = some (.pointer (some ⟨b, 0, none⟩)) := by
     rw [Array.getElem?_eq_getElem hus]
     simpa [Array.getD_eq_getD_getElem?, hus] using hu
    refine (cc_used b w (by simp only [World.cell?, q1]; simpa using h0)).mono ?_
    rintro e w' ⟨rfl, rfl⟩
    exact ⟨γ, .refl γ, .refl γ H w', I, _, rfl, .undef⟩
  ·cases h
theorem lib_sound (hW : WOk W) : Sound Tryz.prog W pg.G pg.lib := by
 intro f args H r H' h
 have h : pgL f args H = some (r, H') := h
 have h0 := h
 unfold pgL at h
 split at h
 ·cases h; exact meets_idx _ _ _
 ·split at h
  ·rename_i hc; cases h; exact meets_itoa hW _ _ hc.1 hc.2
  ·cases h
 ·split at h
  ·rename_i hc; cases h; exact meets_contains hW _ _ _ hc
  ·cases h
 ·split at h
  ·rename_i hc; cases h; exact meets_repeat _ _ _ hc.1 hc.2.1 hc.2.2
  ·cases h
 ·split at h
  ·rename_i hc
   split at h
   ·rename_i n hn; cases h; exact meets_atoi _ _ _ hc hn
   ·cases h
  ·cases h
 ·exact meets_cc _ _ _ h0
 ·cases h
theorem fn_ok : ∀ f fc, pgF f = some fc → FOk Tryz.prog f fc := by
 intro f fc h
 unfold pgF at h
 split at h
 ·cases h; exact ok4
 ·cases h; exact ok9
 ·cases h; exact ok13
 ·cases h; exact ok14
 ·cases h; exact ok15
 ·cases h; exact ok16
 ·cases h; exact ok17
 ·cases h; exact ok18
 ·cases h; exact ok19
 ·cases h; exact ok20
 ·cases h; exact ok21
 ·cases h; exact ok22
 ·cases h; exact ok23
 ·cases h; exact ok25
 ·cases h; exact ok26
 ·cases h; exact ok29
 ·cases h; exact ok35
 ·cases h; exact ok37
 ·cases h; exact ok39
 ·cases h; exact ok40
 ·cases h; exact ok41
 ·cases h; exact ok42
 ·cases h; exact ok43
 ·cases h; exact ok44
 ·cases h; exact ok45
 ·cases h; exact ok46
 ·cases h; exact ok47
 ·cases h; exact ok48
 ·cases h; exact ok49
 ·cases h; exact ok50
 ·cases h; exact ok51
 ·cases h; exact ok52
 ·cases h; exact ok53
 ·cases h; exact ok54
 ·cases h; exact ok55
 ·cases h; exact ok56
 ·cases h; exact ok68
 ·cases h; exact ok69
 ·cases h; exact ok70
 ·cases h; exact ok71
 ·cases h; exact ok72
 ·cases h; exact ok73
 ·cases h; exact ok74
 ·cases h; exact ok75
 ·cases h; exact ok76
 ·cases h; exact ok78
 ·cases h; exact ok79
 ·cases h; exact ok80
 ·cases h; exact ok81
 ·cases h; exact ok82
 ·cases h; exact ok83
 ·cases h; exact ok84
 ·cases h; exact ok85
 ·cases h; exact ok86
 ·cases h; exact ok87
 ·cases h; exact ok88
 ·cases h; exact ok89
 ·cases h; exact ok90
 ·cases h; exact ok91
 ·cases h; exact ok92
 ·cases h; exact ok119
 ·cases h; exact ok120
 ·cases h; exact ok121
 ·cases h; exact ok122
 ·cases h; exact ok123
 ·cases h; exact ok124
 ·cases h; exact ok125
 ·cases h; exact ok127
 ·cases h; exact ok128
 ·cases h; exact ok129
 ·cases h; exact ok130
 ·cases h; exact ok136
 ·cases h; exact ok137
 ·cases h; exact ok141
 ·cases h; exact ok142
 ·cases h; exact ok143
 ·cases h; exact ok153
 ·cases h; exact ok154
 ·cases h; exact ok155
 ·cases h
theorem pg_ok (hW : WOk W) : PgOk Tryz.prog W pg where
 mixed := Checked.mixed Tryz.checked
 lib := lib_sound hW
 fn := fn_ok
 dfn := fun f x h => by
  have h : pgD f = some x := h
  unfold pgD at h
  split at h
  ·cases h; exact ok77
  ·cases h
end Go.Proofs.YtalgjkpkkdljaaaGreatDoor
namespace Go.Proofs.YtalgjkpkkdljaaaGreatDoor
open Go.Vs Go.ChangeShapes Go.WideShapes Go.ChangeAt Go.WideMaps Go.WideElems Go.RowKit
abbrev laidL : List (String × DataW Unit) := [("math/bits.deBruijn32tab", Rows.laid_math_bits_deBruijn32tab), ("math/bits.deBruijn64tab", Rows.laid_math_bits_deBruijn64tab), ("internal/strconv.uint64pow10", Rows.laid_internal_strconv_uint64pow10), ("strconv.ErrRange", Rows.laid_strconv_ErrRange), ("strconv.ErrSyntax", Rows.laid_strconv_ErrSyntax), ("armature/lexer.symbols", Rows.laid_armature_lexer_symbols)]
theorem ownK : ownKnob Tryz.prog.godebug = none := by kernel_rfl
theorem laidOut : laidOutB Tryz.prog = true := by kernel_rfl
theorem gTab : Tryz.prog.globalNamed "internal/strconv.uint64pow10" = some 2 := by kernel_rfl
theorem tTab : (Tryz.prog.globals[2]?).map (·.type) = some 200 := by kernel_rfl
theorem gSym : Tryz.prog.globalNamed "armature/lexer.symbols" = some 0 := by kernel_rfl
theorem tSym : (Tryz.prog.globals[0]?).map (·.type) = some 171 := by kernel_rfl
theorem door_met (os : Os) (args : Array Value) : laidMetH Tryz.prog laidL ((World.laidAll Tryz.prog os laidL).forCall (fun _ _ => 0) ⟨#[], args, []⟩).memory := by
 rw [MakeChecks.laidMetH_plain _ _ _ (by kernel_rfl)]
 exact laidMet_laidAll _ (by kernel_rfl) (by kernel_rfl)
theorem laid_eq : (Rows.laid_armature_lexer_symbols : DataW Unit) = .agg (syms.map fun s => .lit (.string s)) := by rfl
set_option maxRecDepth 20000 in
theorem wok {W : World} (h : laidMetH Tryz.prog laidL W) (hs : W.ShapedOpen Tryz.prog) : WOk W := by
 rw [MakeChecks.laidMetH_plain _ _ _ (by kernel_rfl)] at h
 obtain ⟨ps, ⟨g0, t0, cs0, f0, p0, q0, _, _, _, _, ⟨g1, t1, cs1, f1, p1, q1, _, _, _, _, ⟨g2, t2, cs2, f2, p2, q2, hg2, ht2, hv2, hd2, _⟩, _⟩, _⟩, _⟩ := h
 obtain rfl := Option.some.inj (gTab.symm.trans hg2)
 obtain rfl := Option.some.inj (tTab.symm.trans ht2)
 refine ⟨?_, ?_⟩
 ·exact Go.Proofs.cell_of_shapedOpen_int (zero := #[.int .i64 0]) hs (of_decide_eq_true (by kernel_rfl)) (by kernel_rfl) (by kernel_rfl) (by kernel_rfl) (by kernel_rfl) Tryz.underlying3
 ·unfold Lib.TabIs
  rw [hv2]
  have h5 := Tryz.underlying200
  have h6 := Tryz.underlying188
  have e5 : (Rows.laid_internal_strconv_uint64pow10 : DataW Unit) = Lib.tabData .u64 Lib.pow10Tab := by kernel_rfl
  rw [e5] at hd2
  have := Lib.cells_of_tab (zs := Lib.pow10Tab) h5 h6 (by kernel_rfl) (by kernel_rfl) hd2
  rw [← this]
theorem globs_ok {W : World} (h : laidMetH Tryz.prog laidL W) : GlobOk pg.G W := by
 rw [MakeChecks.laidMetH_plain _ _ _ (by kernel_rfl)] at h
 obtain ⟨ps, ⟨_, _, _, _, _, _, _, _, _, _, ⟨_, _, _, _, _, _, _, _, _, _, ⟨_, _, _, _, _, _, _, _, _, _, ⟨_, _, _, _, _, _, _, _, _, _, ⟨_, _, _, _, _, _, _, _, _, _, ⟨g0, t0, cs0, f0, p0, q0, hg0, ht0, hv0, hd0, _⟩, _⟩, _⟩, _⟩, _⟩, _⟩, _⟩ := h
 obtain rfl := Option.some.inj (gSym.symm.trans hg0)
 obtain rfl := Option.some.inj (tSym.symm.trans ht0)
 obtain ⟨xs, m1, rfl, hx1, hlen, hn, hel⟩ := DataW.trod_array Tryz.underlying171 hd0
 have c9 : Tryz.prog.cellsOf 9 = 1 := by kernel_rfl
 rw [laid_eq] at hx1
 simp only [Prod.mk.injEq, DataW.agg.injEq] at hx1
 have hxs := hx1.1
 refine ⟨fun g cs hg j c hc => ?_⟩
 have hg' : pgG g = some cs := hg
 unfold pgG at hg'
 split at hg'
 ·cases hg'
  simp only [List.getElem?_map, Option.map_eq_some_iff] at hc
  obtain ⟨z, hz, rfl⟩ := hc
  have hj : j < 29 := by
   have := (List.getElem?_eq_some_iff.1 hz).1
   exact this
  have hjx : j < xs.length := by omega
  have h1 := hel j hj
  rw [c9, Nat.mul_one, List.getElem?_eq_getElem hjx] at h1
  obtain ⟨s, e1, e2, _⟩ := DataW.trod_string Tryz.underlying9 h1
  have h2 : (xs.map (·.1))[j]? = some (.lit (.string s.data.toList)) := by
   rw [List.getElem?_map, List.getElem?_eq_getElem hjx, e2]; rfl
  rw [← hxs, List.getElem?_map, hz] at h2
  simp only [Option.map_some, Option.some.injEq, DataW.lit.injEq, Lit.string.injEq] at h2
  have h3 : cs0[j]? = some (.string s) := by
   have : ((cs0.toList.drop j).take 1)[0]? = some (.string s) := by rw [e1]; rfl
   rw [List.getElem?_take_of_lt (by omega), List.getElem?_drop] at this
   simpa using this
  refine ⟨rfl, .string s, ?_, ?_⟩
  ·rw [World.var?_cell hg0 hv0 j]; exact h3
  ·rw [h2]
   have : s = ⟨s.data.toList.toArray⟩ := by simp
   have k := RepP.str (m := (gh0 W).mem) s.data.toList
   rw [← this] at k
   exact k
 ·cases hg'
end Go.Proofs.YtalgjkpkkdljaaaGreatDoor
namespace Go.Proofs.YtalgjkpkkdljaaaGreatDoor
open Go.Vs
def i64 (n : Int) : Prop := -9223372036854775808 ≤ n ∧ n ≤ 9223372036854775807
def ndSl {α : Type} : Nat → List α → Sl α
 | 0, [] => .nil
 | 1, [] => .amb
 | _, l => .of l
theorem els_ndSl {α : Type} (c : Nat) (l : List α) : els (ndSl c l) = l := by
 unfold ndSl; split <;> rfl
theorem map_ndSl {α β : Type} (f : α → β) (c : Nat) (l : List α) : (ndSl c l).map f = ndSl c (l.map f) := by
 cases l with
 | nil => match c with
  | 0 => rfl
  | 1 => rfl
  | c + 2 => rfl
 | cons x l => match c with
  | 0 => rfl
  | 1 => rfl
  | c + 2 => rfl
inductive Nd where
 | mk (op : Int) (nm : List UInt8) (n : Int) (c : Nat) (ks : List Nd) (pos : Int)
def Nd.op : Nd → Int | .mk op _ _ _ _ _ => op
def Nd.nm : Nd → List UInt8 | .mk _ nm _ _ _ _ => nm
def Nd.n : Nd → Int | .mk _ _ n _ _ _ => n
def Nd.c : Nd → Nat | .mk _ _ _ c _ _ => c
def Nd.ks : Nd → List Nd | .mk _ _ _ _ ks _ => ks
def Nd.pos : Nd → Int | .mk _ _ _ _ _ pos => pos
mutual
def Nd.pd : Nd → PD
 | .mk op nm n c ks pos => .agg [.int .i64 op, .str nm, .int .i64 n, slP 5 (ndSl c (Nd.pdL ks)), .int .i64 pos]
def Nd.pdL : List Nd → List PD
 | [] => []
 | k :: ks => k.pd :: Nd.pdL ks
end
theorem pdL_map : ∀ ks : List Nd, Nd.pdL ks = ks.map Nd.pd
 | [] => rfl
 | k :: ks => by simp [Nd.pdL, pdL_map ks]
def Nd.kidsP (a : Nd) : PD := slP 5 ((ndSl a.c a.ks).map Nd.pd)
def Nd.cells (a : Nd) : List PD := [.int .i64 a.op, .str a.nm, .int .i64 a.n, a.kidsP, .int .i64 a.pos]
theorem pd_cells (a : Nd) : a.pd = .agg a.cells := by
 cases a with
 | mk op nm n c ks pos => simp only [Nd.pd, Nd.cells, Nd.op, Nd.nm, Nd.n, Nd.kidsP, Nd.c, Nd.ks, Nd.pos, pdL_map, map_ndSl]
@[simp] theorem one_kids (a : Nd) : (D.p a.kidsP).one = true := one_slP ..
@[simp] theorem pone_kids (a : Nd) : a.kidsP.one = true := pone_slP ..
mutual
def Nd.size : Nd → Nat
 | .mk _ _ _ _ ks _ => 1 + Nd.sizeL ks
def Nd.sizeL : List Nd → Nat
 | [] => 0
 | k :: ks => k.size + Nd.sizeL ks
end
theorem size_eq (a : Nd) : a.size = 1 + Nd.sizeL a.ks := by cases a; rfl
theorem size_mem : ∀ {ks : List Nd} {k : Nd}, k ∈ ks → k.size ≤ Nd.sizeL ks
 | x :: ks, k, h => by
  simp only [Nd.sizeL]
  rcases List.mem_cons.1 h with rfl | h
  ·omega
  ·have := size_mem h; omega
theorem size_kid {a k : Nd} (h : k ∈ a.ks) : k.size < a.size := by
 have := size_mem h
 rw [size_eq a]; omega
theorem len_sizeL : ∀ ks : List Nd, ks.length ≤ Nd.sizeL ks
 | [] => Nat.le_refl _
 | k :: ks => by
  have := len_sizeL ks
  have := size_eq k
  simp only [Nd.sizeL, List.length_cons]; omega
mutual
def eqN : Nd → Nd → Bool
 | .mk op nm n _ ks _, .mk op' nm' n' _ ks' _ => (op == op' && nm == nm' && n == n') && eqNL ks ks'
def eqNL : List Nd → List Nd → Bool
 | [], [] => true
 | a :: x, b :: y => eqN a b && eqNL x y
 | _, _ => false
end
def Bd (n : Nat) (a : Nd) : Prop := a.size ≤ n
theorem callD_any {f : Nat} {args : List D} {d d' : D} (h : ∃ Hl, call pg f args ⟨[], []⟩ = some (.val d, Hl)) (hr : D.refsL args = []) (ht : D.toksL args = []) (ha : D.renL (idx []) (idx []) args = some args)
    (hd : d.ren (fun _ => none) (fun _ => none) = some d') (H : Hp) : callD (call pg) f args H = some (.val d', H) := by
 obtain ⟨Hl, h⟩ := h
 exact callD_pure h hr ht ha hd
theorem len_kids (a : Nd) : lenD 1 (.p a.kidsP) = some a.ks.length := by
 rw [Nd.kidsP, len_map, els_ndSl]
theorem nd_cells (a : Nd) : a.pd.cells = a.cells := by rw [pd_cells, cells_agg]
theorem ia_kids {a : Nd} {k : Nat} (h : k < a.ks.length) : iaddrD none 5 (.p a.kidsP) (k : Int) = some (.ro (a.ks[k]).cells 0) := by
 have h' : k < (els (ndSl a.c a.ks)).length := by rw [els_ndSl]; exact h
 rw [Nd.kidsP, ia_map h', ← nd_cells]
 simp only [els_ndSl]
theorem load_nd {G : Nat → Option (List PD)} {H : Hp} (x : Nd) : loadD G H (some 5) (.ro x.cells 0) = some (.p x.pd) := by
 rw [pd_cells]; exact load_ro rfl
theorem pd_one (a : Nd) : ∀ c ∈ a.cells, c.one = true := fun c hc => by
 simp only [Nd.cells, List.mem_cons, List.not_mem_nil, or_false] at hc
 rcases hc with rfl | rfl | rfl | rfl | rfl <;> first | rfl | exact pone_kids a
theorem load_ndb {G : Nat → Option (List PD)} {H : Hp} {i : Nat} {x : Nd} (hb : H.bx[i]? = some (x.cells.map D.p)) : loadD G H (some 5) (.box i 0) = some (.p x.pd) := by
 rw [pd_cells]; exact load_box hb rfl
theorem one_cells (a : Nd) : ∀ c ∈ a.cells, (D.p c).one = true := fun c hc => by
 simp only [Nd.cells, List.mem_cons, List.not_mem_nil, or_false] at hc
 rcases hc with rfl | rfl | rfl | rfl | rfl <;> first | rfl | exact one_kids a
theorem one_all (a : Nd) : (∀ x, x ∈ a.cells → (D.p x).one = true) = True := eq_true (one_cells a)
def cntN (s left : Nat) : Nat := min s (left + 1)
theorem ld_kids {G : Nat → Option (List PD)} (a : Nd) (tk : List Nat) : loadD G ⟨[a.cells.map .p], tk⟩ none (.box 0 3) = some (.p a.kidsP) := rfl
theorem cntN_step (s z left sum : Nat) (h : sum ≤ left) : min (sum + cntN s (left - sum) + z) (left + 1) = min (sum + (s + z)) (left + 1) := by
 simp only [cntN]; omega
def kwL : List UInt8 := [32, 115, 111, 114, 116, 32, 111, 114, 100, 101, 114, 101, 100, 32, 118, 97, 114, 32, 102, 105, 101, 108, 100, 32, 112, 114, 101, 100, 32, 102, 97, 99, 116, 32, 97, 108, 108, 32, 115, 111, 109, 101, 32, 110, 111, 32, 111, 110, 101, 32, 108, 111, 110, 101, 32, 97, 108, 119, 97, 121, 115, 32, 101, 118, 101, 110, 116, 117, 97, 108, 108, 121, 32, 97, 102, 116, 101, 114, 32, 117, 110, 116, 105, 108, 32, 110, 111, 110, 101, 32, 117, 110, 105, 118, 32, 105, 100, 101, 110, 32, 105, 110, 32, 110, 111, 116, 32, 116, 114, 117, 101, 32, 102, 97, 108, 115, 101, 32]
def kw (s : List UInt8) : Bool := Lib.contains kwL (32 :: s ++ [32])
theorem contains_eq (t : List UInt8) (H : Hp) : callD (call pg) 149 [.p (.str kwL), .p (.str t)] H = some (.val (.p (.bool (Lib.contains kwL t))), H) := by
 have h' : pgL 149 [.p (.str kwL), .p (.str t)] ⟨[], []⟩ = some (.val (.p (.bool (Lib.contains kwL t))), ⟨[], []⟩) := by
  simp only [pgL]
  exact if_pos (by decide)
 exact callD_pure (call_lib h') rfl rfl rfl rfl
theorem kw0 (s : List UInt8) (hs : s.length ≤ 1000000) : ∃ H', call pg 137 [.p (.str s)] ⟨[], []⟩ = some (.val (.p (.bool (kw s))), H') := by
 have hc := contains_eq (32 :: s ++ [32])
 simp only [kwL] at hc
 refine ⟨⟨[], []⟩, call_body (fc := fc137) rfl rfl rfl rfl ?_⟩
 have h1 : 1 + s.length ≤ 140737488355328 := by omega
 have h2 : s.length + 1 ≤ 140737488355328 := by omega
 have h3 : s.length + 1 + 1 ≤ 140737488355328 := by omega
 simp [fc137, evKC, evK, put, Env.get, Env.keep, entry, Opd.ev, binD, strBin, finish, evRes, evRes1, h1, h3] at hc ⊢
 simp [hc, kw, kwL, evKC, evK, put, Env.get, Env.keep, Opd.ev]
theorem kw_eq (s : List UInt8) (hs : s.length ≤ 1000000) (H : Hp) : callD (call pg) 137 [.p (.str s)] H = some (.val (.p (.bool (kw s))), H) := callD_any (kw0 s hs) rfl rfl rfl rfl H
def letter (c : UInt8) : Bool := (decide (97 ≤ c.toNat) && decide (c.toNat ≤ 122)) || (decide (65 ≤ c.toNat) && decide (c.toNat ≤ 90))
def tailC (c : UInt8) : Bool := letter c || (c.toNat == 95 || (decide (48 ≤ c.toNat) && decide (c.toNat ≤ 57)))
def chs : Nat → List UInt8 → Bool
 | _, [] => true
 | 0, c :: r => letter c && chs 1 r
 | i + 1, c :: r => tailC c && chs (i + 2) r
def isNm (s : List UInt8) : Bool := !(s == []) && (decide (s.length ≤ 16) && (!kw s && chs 0 s))
theorem ia_bytes {s : List UInt8} {k : Nat} (h : k < s.length) : iaddrD none 1 (.p (.slice 1 (s.map fun b => .int .u8 b.toNat))) (k : Int) = some (.ro [.int .u8 (s[k]).toNat] 0) := by
 simp [iaddrD, D.elems?, h, PD.cells]
def nmS (s : List UInt8) (k : Nat) : St := ⟨[(18, .p (.slice 1 (s.map fun b => .int .u8 b.toNat))), (19, .p (.int .i64 s.length)), (20, .p (.int .i64 k))], ⟨[], []⟩⟩
theorem name_end (s : List UInt8) : ∃ env, evS (call pg) pg.G iterX fc125_b0 (nmS s s.length) = some (.exit 0, ⟨env, ⟨[], []⟩⟩) := by
 refine ⟨[(18, .p (.slice 1 (s.map fun b => .int .u8 b.toNat))), (19, .p (.int .i64 s.length)), (20, .p (.int .i64 s.length)), (21, .p (.bool false))], ?_⟩
 simp [nmS, fc125_b0, evKC, evK, put, Env.get, Env.keep, Opd.ev, binD]
theorem name_step {s : List UInt8} {k : Nat} (hs : s.length ≤ 1000) (hlt : k < s.length) : evS (call pg) pg.G iterX fc125_b0 (nmS s k) = some (if (if (k == 0) = true then letter s[k] else tailC s[k]) then (.norm, nmS s (k + 1)) else (.ret, ⟨[(2, .p (.bool false))], ⟨[], []⟩⟩)) := by
 have hlt' : (k : Int) < (s.length : Int) := by omega
 have hia := ia_bytes hlt
 have hk1 := inc64 (k := k) (by omega)
 have hk0 : ((k : Int) == 0) = (k == 0) := beq_nat k 0
 generalize s[k] = c at *
 have hb := c.toNat_lt
 have i1 : (97 ≤ (c.toNat : Int)) = (97 ≤ c.toNat) := propext (by omega)
 have i2 : ((c.toNat : Int) ≤ 122) = (c.toNat ≤ 122) := propext (by omega)
 have i3 : (65 ≤ (c.toNat : Int)) = (65 ≤ c.toNat) := propext (by omega)
 have i4 : ((c.toNat : Int) ≤ 90) = (c.toNat ≤ 90) := propext (by omega)
 have i5 : ((c.toNat : Int) = 95) = (c.toNat = 95) := propext (by omega)
 have i6 : ((c.toNat : Int) < 48) = (c.toNat < 48) := propext (by omega)
 have i7 : (57 < (c.toNat : Int)) = (57 < c.toNat) := propext (by omega)
 have i5' : ((c.toNat : Int) == 95) = (c.toNat == 95) := beq_nat _ 95
 have i5n : ((c.toNat : Int) != 95) = (c.toNat != 95) := bne_nat _ 95
 by_cases a1 : 97 ≤ c.toNat <;> by_cases a2 : c.toNat ≤ 122 <;> by_cases a3 : 65 ≤ c.toNat <;> by_cases a4 : c.toNat ≤ 90 <;> by_cases a5 : c.toNat = 95 <;> by_cases a6 : c.toNat < 48 <;> by_cases a7 : 57 < c.toNat <;> cases b8 : (k == 0) <;>
  first | (exfalso; omega) | (
   have b6 : (48 ≤ c.toNat) = ¬ (c.toNat < 48) := propext (by omega)
   have b7 : (c.toNat ≤ 57) = ¬ (57 < c.toNat) := propext (by omega)
   have b5n : (c.toNat != 95) = !decide (c.toNat = 95) := by simp [a5]
   have b5 : (c.toNat == 95) = decide (c.toNat = 95) := by simp [a5]
   simp only [letter, tailC, b5, b6, b7, a1, a2, a3, a4, a5, a6, a7, nmS]
   simp [fc125_b0, evKC, evK, evGuard, put, Env.get, Env.keep, Opd.ev, loadD, cutAt, D.asInt?, binD, unD, hlt', hia, hk1, hk0, i1, i2, i3, i4, i6, i7, i5n, a1, a2, a3, a4, a5, a6, a7, b8, b5n])
theorem chs_step {s : List UInt8} {k : Nat} (hlt : k < s.length) : chs k (s.drop k) = ((if (k == 0) = true then letter s[k] else tailC s[k]) && chs (k + 1) (s.drop (k + 1))) := by
 rw [List.drop_eq_getElem_cons hlt]
 cases k with
 | zero => rfl
 | succ k => rfl
theorem name_loop {s : List UInt8} (hs : s.length ≤ 1000) : ∀ (n k : Nat), s.length - k ≤ n → k ≤ s.length →
    (chs k (s.drop k) = true → ∃ env, loopK (call pg) pg.G [18, 19, 20] fc125_b0 (nmS s k) = some (.exit 0, ⟨env, ⟨[], []⟩⟩)) ∧
    (chs k (s.drop k) = false → loopK (call pg) pg.G [18, 19, 20] fc125_b0 (nmS s k) = some (.ret, ⟨[(2, .p (.bool false))], ⟨[], []⟩⟩)) := by
 intro n
 have hend : (chs s.length (s.drop s.length) = true → ∃ env, loopK (call pg) pg.G [18, 19, 20] fc125_b0 (nmS s s.length) = some (.exit 0, ⟨env, ⟨[], []⟩⟩)) ∧
     (chs s.length (s.drop s.length) = false → loopK (call pg) pg.G [18, 19, 20] fc125_b0 (nmS s s.length) = some (.ret, ⟨[(2, .p (.bool false))], ⟨[], []⟩⟩)) := by
  obtain ⟨env, he⟩ := name_end s
  have hz : chs s.length (s.drop s.length) = true := by
   rw [List.drop_eq_nil_of_le (Nat.le_refl _)]
   cases s.length <;> rfl
  refine ⟨fun _ => ⟨env, loopK_out (o := .exit 0) he (by simp)⟩, fun h => ?_⟩
  rw [hz] at h
  cases h
 induction n with
 | zero =>
  intro k hn hk
  have he : k = s.length := by omega
  subst he
  exact hend
 | succ n ih =>
  intro k hn hk
  by_cases he : k = s.length
  ·subst he; exact hend
  ·have hlt : k < s.length := by omega
   have hst := name_step hs hlt
   have hc := chs_step hlt
   obtain ⟨i1, i2⟩ := ih (k + 1) (by omega) (by omega)
   cases hb : (if (k == 0) = true then letter s[k] else tailC s[k]) with
   | true =>
    rw [hb, if_pos rfl] at hst
    rw [hb, Bool.true_and] at hc
    have hl : loopK (call pg) pg.G [18, 19, 20] fc125_b0 (nmS s k) = loopK (call pg) pg.G [18, 19, 20] fc125_b0 (nmS s (k + 1)) := loopK_norm hst
    rw [hc, hl]
    exact ⟨i1, i2⟩
   | false =>
    rw [hb, if_neg (by simp)] at hst
    rw [hb, Bool.false_and] at hc
    rw [hc]
    exact ⟨fun h => (by cases h), fun _ => loopK_out (o := .ret) hst (by simp)⟩
theorem lenD_str (s : List UInt8) : lenD 0 (.p (.str s)) = some s.length := rfl
theorem name0 (s : List UInt8) : ∃ H', call pg 125 [.p (.str s)] ⟨[], []⟩ = some (.val (.p (.bool (isNm s))), H') := by
 refine ⟨⟨[], []⟩, call_body (fc := fc125) rfl rfl rfl rfl ?_⟩
 cases h1 : (s == []) with
 | true =>
  have : isNm s = false := by simp [isNm, h1]
  rw [this]
  have h1' : s = [] := eq_of_beq h1
  subst h1'
  simp [fc125, evKC, evK, evGuard, put, Env.get, Env.keep, entry, Opd.ev, binD, strBin, finish, evRes, evRes1]
 | false =>
  by_cases h2 : s.length ≤ 16
  ·have h2' : ¬ (16 < (s.length : Int)) := by omega
   have hk := kw_eq s (by omega)
   cases h3 : kw s with
   | true =>
    rw [h3] at hk
    have : isNm s = false := by simp [isNm, h1, h2, h3]
    rw [this]
    simp [fc125, evKC, evK, evGuard, put, Env.get, Env.keep, entry, Opd.ev, binD, strBin, lenD, finish, evRes, evRes1, h1, h2', hk]
   | false =>
    rw [h3] at hk
    have e : isNm s = chs 0 s := by simp [isNm, h1, h2, h3]
    rw [e]
    have hb : s.length ≤ 140737488355328 := by omega
    obtain ⟨l1, l2⟩ := name_loop (s := s) (by omega) s.length 0 (by omega) (by omega)
    rw [List.drop_zero] at l1 l2
    have hlen : lenD 1 (.p (.slice 1 (s.map fun b => .int .u8 b.toNat))) = some s.length := by simp [lenD, D.elems?]
    simp only [nmS, Int.natCast_zero] at l1 l2
    cases h4 : chs 0 s with
    | true =>
     obtain ⟨env, l1⟩ := l1 h4
     simp [fc125, evKC, evK, evGuard, put, Env.get, Env.keep, entry, Opd.ev, binD, strBin, finish, evRes, evRes1, h1, h2', hk, hb, toBytesD, hlen, l1, lenD_str]
    | false =>
     have l2 := l2 h4
     simp [fc125, evKC, evK, evGuard, put, Env.get, Env.keep, entry, Opd.ev, binD, strBin, finish, evRes, evRes1, h1, h2', hk, hb, toBytesD, hlen, l2, lenD_str]
  ·have h2' : (16 < (s.length : Int)) := by omega
   have : isNm s = false := by simp [isNm, h2]
   rw [this]
   simp [fc125, evKC, evK, evGuard, put, Env.get, Env.keep, entry, Opd.ev, binD, strBin, lenD, finish, evRes, evRes1, h1, h2']
theorem name_eq (s : List UInt8) (H : Hp) : callD (call pg) 125 [.p (.str s)] H = some (.val (.p (.bool (isNm s))), H) := callD_any (name0 s) rfl rfl rfl rfl H
def knd (op : Int) : Int := if 1 ≤ op ∧ op ≤ 15 then 1 else if 20 ≤ op ∧ op ≤ 23 then 2 else if 30 ≤ op ∧ op ≤ 51 then 3 else 0
theorem kind0 (op : Int) : ∃ H', call pg 81 [.p (.int .i64 op)] ⟨[], []⟩ = some (.val (.p (.int .i64 (knd op))), H') := by
 refine ⟨⟨[], []⟩, call_body (fc := fc81) rfl rfl rfl rfl ?_⟩
 unfold knd
 by_cases h1 : 1 ≤ op <;> by_cases h2 : op ≤ 15 <;> by_cases h3 : 20 ≤ op <;> by_cases h4 : op ≤ 23 <;> by_cases h5 : 30 ≤ op <;> by_cases h6 : op ≤ 51 <;>
  first | (exfalso; omega) | simp [fc81, evKC, evK, evGuard, put, Env.get, Env.keep, entry, Opd.ev, binD, finish, evRes, evRes1, h1, h2, h3, h4, h5, h6]
theorem kind_eq (op : Int) (H : Hp) : callD (call pg) 81 [.p (.int .i64 op)] H = some (.val (.p (.int .i64 (knd op))), H) := callD_any (kind0 op) rfl rfl rfl rfl H
def nmd (op : Int) : Bool := op == 1 || (op == 15 || (op == 45 || (op == 46 || op == 47)))
def ownB (op : Int) (nm : List UInt8) (n : Int) : Bool :=
 if nmd op = true then isNm nm && n == 0
 else if (op == 2) = true then nm == [] && (decide (1 ≤ n) && decide (n ≤ 3))
 else if (op == 20) = true then nm == [] && (decide (-64 ≤ n) && decide (n ≤ 64))
 else nm == [] && n == 0
def ownN (a : Nd) : Bool := ownB a.op a.nm a.n
theorem own0 (a : Nd) : ∃ H', call pg 78 [.p a.pd] ⟨[], []⟩ = some (.val (.p (.bool (ownN a))), H') := by
 have o1 := one_all a
 have lop : ∀ G tk, loadD G ⟨[a.cells.map .p], tk⟩ none (.box 0 0) = some (.p (.int .i64 a.op)) := fun _ _ => rfl
 have lnm : ∀ G tk, loadD G ⟨[a.cells.map .p], tk⟩ none (.box 0 1) = some (.p (.str a.nm)) := fun _ _ => rfl
 have ln : ∀ G tk, loadD G ⟨[a.cells.map .p], tk⟩ none (.box 0 2) = some (.p (.int .i64 a.n)) := fun _ _ => rfl
 have hn := name_eq a.nm
 rw [pd_cells]
 refine ⟨_, call_body (fc := fc78) rfl rfl rfl rfl (r := (_, ⟨[a.cells.map .p], []⟩)) ?_⟩
 unfold ownN ownB nmd
 generalize a.op = op at *
 generalize a.nm = nm at *
 generalize a.n = n at *
 cases e1 : (op == 1) with
 | true =>
  cases hN : isNm nm <;> rw [hN] at hn <;> simp [fc78, evKC, evK, evGuard, put, Env.get, Env.keep, entry, Opd.ev, binD, finish, evRes, evRes1, D.cells, o1, lop, lnm, ln, hn, e1]
 | false =>
  cases e15 : (op == 15) with
  | true =>
   cases hN : isNm nm <;> rw [hN] at hn <;> simp [fc78, evKC, evK, evGuard, put, Env.get, Env.keep, entry, Opd.ev, binD, finish, evRes, evRes1, D.cells, o1, lop, lnm, ln, hn, e1, e15]
  | false =>
   cases e45 : (op == 45) with
   | true =>
    cases hN : isNm nm <;> rw [hN] at hn <;> simp [fc78, evKC, evK, evGuard, put, Env.get, Env.keep, entry, Opd.ev, binD, finish, evRes, evRes1, D.cells, o1, lop, lnm, ln, hn, e1, e15, e45]
   | false =>
    cases e46 : (op == 46) with
    | true =>
     cases hN : isNm nm <;> rw [hN] at hn <;> simp [fc78, evKC, evK, evGuard, put, Env.get, Env.keep, entry, Opd.ev, binD, finish, evRes, evRes1, D.cells, o1, lop, lnm, ln, hn, e1, e15, e45, e46]
    | false =>
     cases e47 : (op == 47) with
     | true =>
      cases hN : isNm nm <;> rw [hN] at hn <;> simp [fc78, evKC, evK, evGuard, put, Env.get, Env.keep, entry, Opd.ev, binD, finish, evRes, evRes1, D.cells, o1, lop, lnm, ln, hn, e1, e15, e45, e46, e47]
     | false =>
      cases e2 : (op == 2) with
      | true =>
       cases hN : (nm == []) <;> by_cases h1 : 1 ≤ n <;> by_cases h3 : n ≤ 3 <;> simp [fc78, evKC, evK, evGuard, put, Env.get, Env.keep, entry, Opd.ev, binD, strBin, finish, evRes, evRes1, D.cells, o1, lop, lnm, ln, e1, e15, e45, e46, e47, e2, hN, h1, h3]
      | false =>
       cases e20 : (op == 20) with
       | true =>
        cases hN : (nm == []) <;> by_cases h1 : -64 ≤ n <;> by_cases h3 : n ≤ 64 <;> simp [fc78, evKC, evK, evGuard, put, Env.get, Env.keep, entry, Opd.ev, binD, strBin, finish, evRes, evRes1, D.cells, o1, lop, lnm, ln, e1, e15, e45, e46, e47, e2, e20, hN, h1, h3]
       | false =>
        cases hN : (nm == []) <;> simp [fc78, evKC, evK, evGuard, put, Env.get, Env.keep, entry, Opd.ev, binD, strBin, finish, evRes, evRes1, D.cells, o1, lop, lnm, ln, e1, e15, e45, e46, e47, e2, e20, hN]
theorem own_eq (a : Nd) (H : Hp) : callD (call pg) 78 [.p a.pd] H = some (.val (.p (.bool (ownN a))), H) := callD_any (own0 a) rfl rfl rfl rfl H
def shpT : List (Int × List UInt8) := [(1, []), (2, []), (3, []), (4, []), (5, [101]), (6, [101, 101]), (7, [101, 101]), (8, [101, 101]), (9, [101, 101]), (10, [101, 101]), (11, [101]), (12, [101]), (13, [101]), (14, [101, 101]), (15, [101, 102]), (20, []), (21, [101]), (22, [105, 105]), (23, [105, 105]), (30, []), (31, []), (32, [101, 101]), (33, [101, 101]), (34, [101]), (35, [101]), (36, [101]), (37, [101]), (38, [105, 105]), (39, [105, 105]), (40, [102]), (41, [102, 102]), (42, [102, 102]), (43, [102, 102]), (44, [102, 102]), (45, [101, 102]), (46, [101, 102]), (48, [102]), (49, [102]), (50, [102]), (51, [102, 102])]
def lookS : List (Int × List UInt8) → Int → Option (List UInt8)
 | [], _ => none
 | e :: t, k => if e.1 = k then some e.2 else lookS t k
def tabS : List D := [.mapc 13 (shpT.map fun e => .int .i64 e.1) (shpT.map fun e => .p (.str e.2))]
def getS (k : Int) : D := match lookS shpT k with
 | some w => .tup [.p (.str w), .p (.bool true)]
 | none => .tup [.p (.str []), .p (.bool false)]
theorem findK_lookS (k : Int) : ∀ (t : List (Int × List UInt8)), (match findK (.int .i64 k) (t.map fun e => PD.int .i64 e.1) with
    | some j => ((t.map fun e => D.p (.str e.2))[j]?).map fun v => D.tup [v, .p (.bool true)]
    | none => some (.tup [.p (.str []), .p (.bool false)])) = some (match lookS t k with
     | some w => D.tup [.p (.str w), .p (.bool true)]
     | none => .tup [.p (.str []), .p (.bool false)]) := by
 intro t
 induction t with
 | nil => rfl
 | cons e t ih =>
  simp only [List.map_cons, findK, lookS]
  by_cases h : e.1 = k
  ·subst h
   simp [keyEq]
  ·have h1 : keyEq (.int .i64 k) (.int .i64 e.1) = false := by simp [keyEq]; omega
   simp only [h1, if_neg h, Bool.false_eq_true, if_false]
   rw [← ih]
   cases findK (.int .i64 k) (t.map fun e => PD.int .i64 e.1) <;> simp
theorem get_shp {H : Hp} {i : Nat} (h : H.bx[i]? = some tabS) (k : Int) : mapgetD 13 (.str []) true (.mapr i) (.p (.int .i64 k)) H = some (getS k) := by
 have := findK_lookS k shpT
 simp only [mapgetD, h, tabS]
 have hk : keyKind (.int .i64 k) = 13 := rfl
 simp only [hk, true_and, ne_eq]
 exact this
def isShp : Option (Res × Hp) → Bool
 | some (.val (.mapr 0), ⟨[b], []⟩) => D.eqbL b tabS
 | _ => false
theorem shapes_run : isShp (evF pg 10 46 [] ⟨[], []⟩) = true := by kernel_rfl
theorem shapes0 : call pg 46 [] ⟨[], []⟩ = some (.val (.mapr 0), ⟨[tabS], []⟩) := by
 refine call_of_evF 10 ?_
 have h := shapes_run
 unfold isShp at h
 split at h
 ·rename_i b hb
  rw [hb, D.eqbL_eq _ _ h]
 ·cases h
theorem boxRefs_shp {H : Hp} {i : Nat} (hi : H.bx[i]? = some tabS) : boxRefs H [i] = [] := by
 simp only [boxRefs, hi, List.append_nil]
 rfl
theorem callD_shp {g : Nat} {args : List PD} {H : Hp} {i : Nat} (hi : H.bx[i]? = some tabS) {d : D} (hd : ∀ bi ti, d.ren bi ti = some d)
    (h : ∃ ex tk, call pg g (.mapr 0 :: args.map .p) ⟨[tabS], []⟩ = some (.val d, ⟨tabS :: ex, tk⟩)) : callD (call pg) g (.mapr i :: args.map .p) H = some (.val d, H) := by
 obtain ⟨ex, tk, h⟩ := h
 have e1 : D.refsL (.mapr i :: args.map .p) = [i] := by simp [D.refsL, D.refs]
 have e2 : D.toksL (.mapr i :: args.map .p) = [] := by simp [D.toksL, D.toks]
 have e3 : ∀ n, reach H n [i] = [i] := fun n => by
  cases n with
  | zero => rfl
  | succ n => simp only [reach, boxRefs_shp hi]
 have e4 : boxToks H [i] = [] := by
  simp only [boxToks, hi, List.append_nil]; rfl
 have e5 : D.renL (idx [i]) (idx []) (.mapr i :: args.map .p) = some (.mapr 0 :: args.map .p) := by simp [D.renL, D.ren, idx]
 have e6 : D.renL (idx [i]) (idx []) tabS = some tabS := by rfl
 have e7 : D.renL (fun j => [i][j]?) (fun t => ([] : List Nat)[t]?) tabS = some tabS := by rfl
 have hset : H.bx.set i tabS = H.bx := by
  apply List.ext_getElem?
  intro j
  by_cases hj : i = j
  ·subst hj
   rw [List.getElem?_set_self (List.getElem?_eq_some_iff.1 hi).1, hi]
  ·rw [List.getElem?_set_ne hj]
 have i1 : ins [] [i] = [i] := rfl
 have i2 : ins [] ([] : List Nat) = [] := rfl
 have n1 : (Vs.nodupB [i] && Vs.nodupB ([] : List Nat)) = true := by simp [Vs.nodupB]
 simp only [callD, e1, e2, i1, e3, e4, List.append_nil, i2, n1, if_true, e5, mapO, hi, e6, Option.map_some]
 rw [h]
 have k1 : firstN (tabS :: ex) 1 = some [tabS] := by simp [firstN]
 have k2 : firstN tk 0 = some [] := by simp [firstN]
 simp only [back, List.length_cons, List.length_nil, k1, k2, Res.ren, hd, Option.map_some, mapO, e7, putAll, hset]
def kl (op : Int) : UInt8 := if knd op = 1 then 101 else if knd op = 2 then 105 else if knd op = 3 then 102 else 63
theorem kl_index (op : Int) : indexD none (.p (.str [63, 101, 105, 102])) (knd op) = some (u8 (kl op)) := by
 unfold kl knd
 split
 ·rfl
 ·split
  ·rfl
  ·split <;> rfl
def fitsL : List Nd → List UInt8 → Bool
 | k :: ks, c :: w => (kl k.op == c) && fitsL ks w
 | _, _ => true
def wantS (op : Int) (n : Nat) : Option (List UInt8) := if op = 47 then some (List.replicate n 101) else lookS shpT op
def fitsB (op : Int) (ks : List Nd) : Bool := match wantS op ks.length with
 | some w => decide (ks.length = w.length) && fitsL ks w
 | none => false
theorem repL_e (n : Nat) : repL n [101] = List.replicate n 101 := by
 induction n with
 | zero => rfl
 | succ n ih => simp [repL, ih, List.replicate_succ]
theorem repeat_eq (n : Nat) (hn : n ≤ 140737488355328) (H : Hp) : callD (call pg) 126 [.p (.str [101]), .p (.int .i64 n)] H = some (.val (.p (.str (List.replicate n 101))), H) := by
 have h' : pgL 126 [.p (.str [101]), .p (.int .i64 n)] ⟨[], []⟩ = some (.val (.p (.str (List.replicate n 101))), ⟨[], []⟩) := by
  simp only [pgL, Int.toNat_natCast, repL_e]
  exact if_pos ⟨by omega, by simp; omega, by omega⟩
 exact callD_pure (call_lib h') rfl rfl rfl rfl
def ftS (w : List UInt8) (a : Nd) (k : Nat) : St := ⟨[(7, .p (.str w)), (31, .p a.kidsP), (32, .p (.int .i64 a.ks.length)), (33, .p (.int .i64 k))], ⟨[tabS], []⟩⟩
theorem fits_end (w : List UInt8) (a : Nd) : ∃ env, evS (call pg) pg.G iterX fc79_b0 (ftS w a a.ks.length) = some (.exit 0, ⟨env, ⟨[tabS], []⟩⟩) := by
 have r1 : ∀ f g, D.renL f g tabS = some tabS := fun f g => rfl
 refine ⟨[(7, .p (.str w)), (31, .p a.kidsP), (32, .p (.int .i64 a.ks.length)), (33, .p (.int .i64 a.ks.length)), (34, .p (.bool false))], ?_⟩
 simp [ftS, fc79_b0, evKC, evK, put, Env.get, Env.keep, Opd.ev, binD, mapO, D.ren, locD, Out.ren, List.map, r1]
theorem ix_str {w : List UInt8} {k : Nat} (h : k < w.length) : indexD none (.p (.str w)) (k : Int) = some (u8 w[k]) := by
 simp [indexD, h]
theorem u8_bne (a b : UInt8) : (((a.toNat : Nat) : Int) != ((b.toNat : Nat) : Int)) = !(a == b) := by
 rw [bne_nat]
 simp only [bne]
 congr 1
 rw [Bool.eq_iff_iff]
 simp only [beq_iff_eq]
 exact UInt8.toNat_inj
theorem fits_step {w : List UInt8} {a : Nd} {k : Nat} (hl : a.ks.length = w.length) (hb : a.ks.length ≤ 1000000000) (hlt : k < a.ks.length) :
    evS (call pg) pg.G iterX fc79_b0 (ftS w a k) = some (if (kl (a.ks[k]).op == w[k]'(hl ▸ hlt)) = true then (.norm, ftS w a (k + 1)) else (.ret, ⟨[(6, .p (.bool false))], ⟨[tabS], []⟩⟩)) := by
 have r1 : ∀ f g, D.renL f g tabS = some tabS := fun f g => rfl
 have hlt' : (k : Int) < (a.ks.length : Int) := by omega
 have hia := ia_kids hlt
 have hk1 := inc64 (k := k) (by omega)
 have hx := ix_str (w := w) (k := k) (hl ▸ hlt)
 have hl2 := fun (G : Nat → Option (List PD)) (H : Hp) => load_nd (G := G) (H := H) a.ks[k]
 have hki := kind_eq (a.ks[k]).op
 have hix := kl_index (a.ks[k]).op
 generalize w[k]'(hl ▸ hlt) = c at *
 generalize a.ks[k] = x at *
 have hu := u8_bne (kl x.op) c
 have hst : ∀ tk, storeD ⟨[tabS, [.p (.int .i64 0), .p (.str []), .p (.int .i64 0), .p .nils, .p (.int .i64 0)]], tk⟩ 5 (.box 1 0) (.p x.pd) = some ⟨[tabS, x.cells.map .p], tk⟩ := fun tk => by
  rw [pd_cells]
  exact store_box (H := ⟨[tabS, [.p (.int .i64 0), .p (.str []), .p (.int .i64 0), .p .nils, .p (.int .i64 0)]], tk⟩) (i := 1) (zs := [.int .i64 0, .str [], .int .i64 0, .nils, .int .i64 0]) rfl rfl rfl (by decide) (pd_one x)
 have lop : ∀ G tk, loadD G ⟨[tabS, x.cells.map .p], tk⟩ none (.box 1 0) = some (.p (.int .i64 x.op)) := fun _ _ => rfl
 cases hc : (kl x.op == c) <;> rw [hc] at hu <;> simp [ftS, fc79_b0, evKC, evK, put, Env.get, Env.keep, Opd.ev, D.asInt?, binD, strBin, clsP, cls, clsR, isCl, D.refsL, D.refs, D.toksL, D.toks, List.map, hlt', hia, hx, hl2, hki, hix, hst, lop] <;> simp [u8, evKC, evK, put, Env.get, Env.keep, Opd.ev, u8, binD, clsP, cls, isW, apartRW, offB, apartWW, clash, insOk, mapO, D.ren, locD, Out.ren, List.map, hu, hk1, r1]
theorem fitsL_step {w : List UInt8} {ks : List Nd} {k : Nat} (h1 : k < ks.length) (h2 : k < w.length) : fitsL (ks.drop k) (w.drop k) = ((kl (ks[k]).op == w[k]) && fitsL (ks.drop (k + 1)) (w.drop (k + 1))) := by
 rw [List.drop_eq_getElem_cons h1, List.drop_eq_getElem_cons h2]
 rfl
theorem fits_loop {w : List UInt8} {a : Nd} (hl : a.ks.length = w.length) (hb : a.ks.length ≤ 1000000000) : ∀ (n k : Nat), a.ks.length - k ≤ n → k ≤ a.ks.length →
    (fitsL (a.ks.drop k) (w.drop k) = true → ∃ env, loopK (call pg) pg.G [7, 31, 32, 33] fc79_b0 (ftS w a k) = some (.exit 0, ⟨env, ⟨[tabS], []⟩⟩)) ∧
    (fitsL (a.ks.drop k) (w.drop k) = false → loopK (call pg) pg.G [7, 31, 32, 33] fc79_b0 (ftS w a k) = some (.ret, ⟨[(6, .p (.bool false))], ⟨[tabS], []⟩⟩)) := by
 intro n
 have hend : (fitsL (a.ks.drop a.ks.length) (w.drop a.ks.length) = true → ∃ env, loopK (call pg) pg.G [7, 31, 32, 33] fc79_b0 (ftS w a a.ks.length) = some (.exit 0, ⟨env, ⟨[tabS], []⟩⟩)) ∧
     (fitsL (a.ks.drop a.ks.length) (w.drop a.ks.length) = false → loopK (call pg) pg.G [7, 31, 32, 33] fc79_b0 (ftS w a a.ks.length) = some (.ret, ⟨[(6, .p (.bool false))], ⟨[tabS], []⟩⟩)) := by
  obtain ⟨env, he⟩ := fits_end w a
  refine ⟨fun _ => ⟨env, loopK_out (o := .exit 0) he (by simp)⟩, fun h => ?_⟩
  rw [List.drop_eq_nil_of_le (Nat.le_refl _)] at h
  simp [fitsL] at h
 induction n with
 | zero =>
  intro k hn hk
  have he : k = a.ks.length := by omega
  subst he
  exact hend
 | succ n ih =>
  intro k hn hk
  by_cases he : k = a.ks.length
  ·subst he; exact hend
  ·have hlt : k < a.ks.length := by omega
   have hst := fits_step hl hb hlt
   have hc := fitsL_step hlt (w := w) (by omega)
   obtain ⟨i1, i2⟩ := ih (k + 1) (by omega) (by omega)
   cases hb : (kl (a.ks[k]).op == w[k]'(hl ▸ hlt)) with
   | true =>
    rw [hb, if_pos rfl] at hst
    rw [hb, Bool.true_and] at hc
    have hl : loopK (call pg) pg.G [7, 31, 32, 33] fc79_b0 (ftS w a k) = loopK (call pg) pg.G [7, 31, 32, 33] fc79_b0 (ftS w a (k + 1)) := loopK_norm hst
    rw [hc, hl]
    exact ⟨i1, i2⟩
   | false =>
    rw [hb, if_neg (by simp)] at hst
    rw [hb, Bool.false_and] at hc
    rw [hc]
    exact ⟨fun h => (by cases h), fun _ => loopK_out (o := .ret) hst (by simp)⟩
theorem fits0 (op : Int) (a : Nd) (hb : a.ks.length ≤ 1000000000) : ∃ ex tk, call pg 79 [.mapr 0, .p (.int .i64 op), .p a.kidsP] ⟨[tabS], []⟩ = some (.val (.p (.bool (fitsB op a.ks))), ⟨tabS :: ex, tk⟩) := by
 have hg := get_shp (H := ⟨[tabS], []⟩) (i := 0) rfl op
 have hk0 := len_kids a
 have hrep := repeat_eq a.ks.length (by omega)
 refine ⟨[], [], call_body (fc := fc79) rfl rfl rfl rfl ?_⟩
 by_cases h47 : op = 47
 ·subst h47
  have hw : wantS 47 a.ks.length = some (List.replicate a.ks.length 101) := by simp [wantS]
  have hz : getS 47 = .tup [.p (.str []), .p (.bool false)] := by rfl
  rw [hz] at hg
  have hlen : a.ks.length = (List.replicate a.ks.length (101 : UInt8)).length := by simp
  obtain ⟨l1, l2⟩ := fits_loop (w := List.replicate a.ks.length 101) (a := a) hlen hb a.ks.length 0 (by omega) (by omega)
  rw [List.drop_zero, List.drop_zero] at l1 l2
  simp only [ftS, Int.natCast_zero] at l1 l2
  cases hf : fitsL a.ks (List.replicate a.ks.length 101) with
  | true =>
   obtain ⟨env, l1⟩ := l1 hf
   have hr : fitsB 47 a.ks = true := by simp [fitsB, hw, hf]
   rw [hr]
   simp [fc79, evKC, evK, evGuard, put, Env.get, Env.keep, entry, Opd.ev, binD, unD, finish, evRes, evRes1, lenD_str, hg, hk0, hrep, l1]
  | false =>
   have l2 := l2 hf
   have hr : fitsB 47 a.ks = false := by simp [fitsB, hw, hf]
   rw [hr]
   simp [fc79, evKC, evK, evGuard, put, Env.get, Env.keep, entry, Opd.ev, binD, unD, finish, evRes, evRes1, lenD_str, hg, hk0, hrep, l2]
 ·have h47' : (op == 47) = false := by simpa using h47
  cases hl : lookS shpT op with
  | none =>
   have hr : fitsB op a.ks = false := by simp [fitsB, wantS, h47, hl]
   simp only [getS, hl] at hg
   rw [hr]
   simp [fc79, evKC, evK, evGuard, put, Env.get, Env.keep, entry, Opd.ev, binD, unD, finish, evRes, evRes1, hg, h47']
  | some w =>
   simp only [getS, hl] at hg
   by_cases hlen : a.ks.length = w.length
   ·have hlen' : ((a.ks.length : Int) != (w.length : Int)) = false := by rw [bne_nat]; simp [hlen]
    obtain ⟨l1, l2⟩ := fits_loop (w := w) (a := a) hlen hb a.ks.length 0 (by omega) (by omega)
    rw [List.drop_zero, List.drop_zero] at l1 l2
    simp only [ftS, Int.natCast_zero] at l1 l2
    cases hf : fitsL a.ks w with
    | true =>
     obtain ⟨env, l1⟩ := l1 hf
     have hr : fitsB op a.ks = true := by simp [fitsB, wantS, h47, hl, hf, hlen]
     rw [hr]
     simp [fc79, evKC, evK, evGuard, put, Env.get, Env.keep, entry, Opd.ev, binD, unD, finish, evRes, evRes1, lenD_str, hg, hk0, h47', hlen', l1]
    | false =>
     have l2 := l2 hf
     have hr : fitsB op a.ks = false := by simp [fitsB, wantS, h47, hl, hf]
     rw [hr]
     simp [fc79, evKC, evK, evGuard, put, Env.get, Env.keep, entry, Opd.ev, binD, unD, finish, evRes, evRes1, lenD_str, hg, hk0, h47', hlen', l2]
   ·have hlen' : ((a.ks.length : Int) != (w.length : Int)) = true := by rw [bne_nat]; simp [hlen]
    have hr : fitsB op a.ks = false := by simp [fitsB, wantS, h47, hl, hlen]
    rw [hr]
    simp [fc79, evKC, evK, evGuard, put, Env.get, Env.keep, entry, Opd.ev, binD, unD, finish, evRes, evRes1, lenD_str, hg, hk0, h47', hlen']
theorem fits_eq {op : Int} {a : Nd} (hb : a.ks.length ≤ 1000000000) {H : Hp} {i : Nat} (hi : H.bx[i]? = some tabS) : callD (call pg) 79 [.mapr i, .p (.int .i64 op), .p a.kidsP] H = some (.val (.p (.bool (fitsB op a.ks))), H) :=
 callD_shp (args := [.int .i64 op, a.kidsP]) hi (fun _ _ => rfl) (fits0 op a hb)
mutual
def meas : Nd → Int → Int → Option Int
 | .mk op nm n _ ks _, d, l => if 24 < d ∨ l < 1 ∨ 400 < ks.length ∨ ownB op nm n = false ∨ fitsB op ks = false then none else measL ks d l 1
def measL : List Nd → Int → Int → Int → Option Int
 | [], _, _, cnt => some cnt
 | k :: ks, d, l, cnt => match meas k (d + 1) (l - cnt) with
  | some c => measL ks d l (cnt + c)
  | none => none
end
theorem meas_eq (a : Nd) (d l : Int) : meas a d l = if 24 < d ∨ l < 1 ∨ 400 < a.ks.length ∨ ownN a = false ∨ fitsB a.op a.ks = false then none else measL a.ks d l 1 := by
 cases a; rfl
def measD (o : Option Int) : D := match o with
 | some c => .tup [.p (.int .i64 c), .p (.bool true)]
 | none => .tup [.p (.int .i64 0), .p (.bool false)]
mutual
theorem meas_pos : ∀ (a : Nd) (d l c : Int), meas a d l = some c → 1 ≤ c ∧ c ≤ a.size
 | .mk op nm n _ ks _, d, l, c, h => by
  simp only [meas] at h
  split at h
  ·cases h
  ·have := measL_pos ks d l 1 c h
   simp only [Nd.size]
   omega
theorem measL_pos : ∀ (ks : List Nd) (d l cnt c : Int), measL ks d l cnt = some c → cnt ≤ c ∧ c ≤ cnt + Nd.sizeL ks
 | [], d, l, cnt, c, h => by
  simp only [measL, Option.some.injEq] at h
  simp only [Nd.sizeL]
  omega
 | k :: ks, d, l, cnt, c, h => by
  simp only [measL] at h
  split at h
  ·rename_i c1 h1
   have h2 := meas_pos k (d + 1) (l - cnt) c1 h1
   have h3 := measL_pos ks d l (cnt + c1) c h
   simp only [Nd.sizeL]
   omega
  ·cases h
end
def msS (a : Nd) (d l cnt : Int) (k : Nat) : St := ⟨[(0, .mapr 0), (2, .p (.int .i64 d)), (3, .p (.int .i64 l)), (10, .p (.int .i64 cnt)), (42, .p a.kidsP), (43, .p (.int .i64 a.ks.length)), (44, .p (.int .i64 k))], ⟨[tabS, a.cells.map .p], []⟩⟩
theorem ren_cells (f g : Nat → Option Nat) (a : Nd) : D.renL f g (a.cells.map .p) = some (a.cells.map .p) := renL_p f g a.cells
theorem meas_end (a : Nd) (d l cnt : Int) : ∃ env, evS (call pg) pg.G iterX fc45_b0 (msS a d l cnt a.ks.length) = some (.exit 0, ⟨env, ⟨[tabS, a.cells.map .p], []⟩⟩) ∧ env.get 10 = .p (.int .i64 cnt) := by
 have r1 : ∀ f g, D.renL f g tabS = some tabS := fun f g => rfl
 have r2 := fun f g => ren_cells f g a
 refine ⟨[(0, .mapr 0), (2, .p (.int .i64 d)), (3, .p (.int .i64 l)), (10, .p (.int .i64 cnt)), (42, .p a.kidsP), (43, .p (.int .i64 a.ks.length)), (44, .p (.int .i64 a.ks.length)), (45, .p (.bool false))], ?_, rfl⟩
 simp [msS, fc45_b0, evKC, evK, put, Env.get, Env.keep, Opd.ev, binD, mapO, D.ren, locD, below, Out.ren, List.map, r1, r2]
def MeasOk (a : Nd) : Prop := ∀ (d l : Int), 0 ≤ d → d ≤ 25 → -1000000 ≤ l → l ≤ 1000000 → ∀ (H : Hp) (i : Nat), H.bx[i]? = some tabS →
 callD (call pg) 45 [.mapr i, .p a.pd, .p (.int .i64 d), .p (.int .i64 l)] H = some (.val (measD (meas a d l)), H)
theorem meas_step {a : Nd} {d l cnt : Int} {k : Nat} (hd0 : 0 ≤ d) (hd1 : d ≤ 24) (hl0 : 1 ≤ l) (hl1 : l ≤ 1000000) (hc0 : 0 ≤ cnt) (hc1 : cnt ≤ 1000000) (hb : a.ks.length ≤ 1000000000) (hlt : k < a.ks.length) (ih : MeasOk a.ks[k])
    (hsz : (a.ks[k]).size ≤ 1000000) :
    evS (call pg) pg.G iterX fc45_b0 (msS a d l cnt k) = some (match meas a.ks[k] (d + 1) (l - cnt) with
     | some c => (.norm, msS a d l (cnt + c) (k + 1))
     | none => (.ret, ⟨[(8, .p (.int .i64 0)), (9, .p (.bool false))], ⟨[tabS, a.cells.map .p], []⟩⟩)) := by
 have r1 : ∀ f g, D.renL f g tabS = some tabS := fun f g => rfl
 have r2 := fun f g => ren_cells f g a
 have hlt' : (k : Int) < (a.ks.length : Int) := by omega
 have hia := ia_kids hlt
 have hk1 := inc64 (k := k) (by omega)
 have hl2 := fun (G : Nat → Option (List PD)) (H : Hp) => load_nd (G := G) (H := H) a.ks[k]
 have hpos := meas_pos a.ks[k] (d + 1) (l - cnt)
 generalize a.ks[k] = x at *
 have hst : ∀ tk, storeD ⟨[tabS, a.cells.map .p, [.p (.int .i64 0), .p (.str []), .p (.int .i64 0), .p .nils, .p (.int .i64 0)]], tk⟩ 5 (.box 2 0) (.p x.pd) = some ⟨[tabS, a.cells.map .p, x.cells.map .p], tk⟩ := fun tk => by
  rw [pd_cells]
  exact store_box (H := ⟨[tabS, a.cells.map .p, [.p (.int .i64 0), .p (.str []), .p (.int .i64 0), .p .nils, .p (.int .i64 0)]], tk⟩) (i := 2) (zs := [.int .i64 0, .str [], .int .i64 0, .nils, .int .i64 0]) rfl rfl rfl (by decide) (pd_one x)
 have lnd : ∀ G tk, loadD G ⟨[tabS, a.cells.map .p, x.cells.map .p], tk⟩ (some 5) (.box 2 0) = some (.p x.pd) := fun G tk => load_ndb (i := 2) rfl
 have w1 : IntKind.i64.wrap (d + 1) = d + 1 := wrap64 (by omega) (by omega)
 have w2 : IntKind.i64.wrap (l - cnt) = l - cnt := wrap64 (by omega) (by omega)
 have hcall := fun tk => ih (d + 1) (l - cnt) (by omega) (by omega) (by omega) (by omega) ⟨[tabS, a.cells.map .p, x.cells.map .p], tk⟩ 0 rfl
 cases hm : meas x (d + 1) (l - cnt) with
 | none =>
  rw [hm] at hcall
  simp only [measD] at hcall
  simp [msS, fc45_b0, evKC, evK, put, Env.get, Env.keep, Opd.ev, D.asInt?, binD, unD, mapO, D.ren, locD, Out.ren, List.map, r1, r2, hlt', hia, hl2, hst, lnd, w1, w2, hcall]
 | some c =>
  rw [hm] at hcall
  have hc := hpos c hm
  have w3 : IntKind.i64.wrap (cnt + c) = cnt + c := wrap64 (by omega) (by omega)
  simp only [measD] at hcall
  simp [msS, fc45_b0, evKC, evK, put, Env.get, Env.keep, Opd.ev, D.asInt?, binD, unD, mapO, D.ren, locD, below, Out.ren, List.map, r1, r2, hlt', hia, hk1, hl2, hst, lnd, w1, w2, w3, hcall]
theorem measL_drop {ks : List Nd} {k : Nat} (h : k < ks.length) (d l cnt : Int) : measL (ks.drop k) d l cnt = match meas ks[k] (d + 1) (l - cnt) with
    | some c => measL (ks.drop (k + 1)) d l (cnt + c)
    | none => none := by
 rw [List.drop_eq_getElem_cons h]
 rfl
theorem sizeL_drop {ks : List Nd} {k : Nat} (h : k < ks.length) : Nd.sizeL (ks.drop k) = (ks[k]).size + Nd.sizeL (ks.drop (k + 1)) := by
 rw [List.drop_eq_getElem_cons h]
 rfl
theorem meas_loop {a : Nd} {d l : Int} (hd0 : 0 ≤ d) (hd1 : d ≤ 24) (hl0 : 1 ≤ l) (hl1 : l ≤ 1000000) (hb : a.ks.length ≤ 1000000000) (ih : ∀ x ∈ a.ks, MeasOk x) (hsz : a.size ≤ 1000000) :
    ∀ (n k : Nat) (cnt : Int), a.ks.length - k ≤ n → k ≤ a.ks.length → 0 ≤ cnt → cnt + Nd.sizeL (a.ks.drop k) ≤ 1000000 →
    (∀ c, measL (a.ks.drop k) d l cnt = some c → ∃ env, loopK (call pg) pg.G [0, 2, 3, 10, 42, 43, 44] fc45_b0 (msS a d l cnt k) = some (.exit 0, ⟨env, ⟨[tabS, a.cells.map .p], []⟩⟩) ∧ env.get 10 = .p (.int .i64 c)) ∧
    (measL (a.ks.drop k) d l cnt = none → loopK (call pg) pg.G [0, 2, 3, 10, 42, 43, 44] fc45_b0 (msS a d l cnt k) = some (.ret, ⟨[(8, .p (.int .i64 0)), (9, .p (.bool false))], ⟨[tabS, a.cells.map .p], []⟩⟩)) := by
 intro n
 have hend : ∀ cnt, (∀ c, measL (a.ks.drop a.ks.length) d l cnt = some c → ∃ env, loopK (call pg) pg.G [0, 2, 3, 10, 42, 43, 44] fc45_b0 (msS a d l cnt a.ks.length) = some (.exit 0, ⟨env, ⟨[tabS, a.cells.map .p], []⟩⟩) ∧ env.get 10 = .p (.int .i64 c)) ∧
     (measL (a.ks.drop a.ks.length) d l cnt = none → loopK (call pg) pg.G [0, 2, 3, 10, 42, 43, 44] fc45_b0 (msS a d l cnt a.ks.length) = some (.ret, ⟨[(8, .p (.int .i64 0)), (9, .p (.bool false))], ⟨[tabS, a.cells.map .p], []⟩⟩)) := by
  intro cnt
  obtain ⟨env, he, hg⟩ := meas_end a d l cnt
  rw [List.drop_eq_nil_of_le (Nat.le_refl _)]
  refine ⟨fun c hc => ⟨env, loopK_out (o := .exit 0) he (by simp), ?_⟩, fun h => by simp [measL] at h⟩
  simp only [measL, Option.some.injEq] at hc
  rw [hg, hc]
 induction n with
 | zero =>
  intro k cnt hn hk _ _
  have he : k = a.ks.length := by omega
  subst he
  exact hend cnt
 | succ n IH =>
  intro k cnt hn hk hc0 hc1
  by_cases he : k = a.ks.length
  ·subst he; exact hend cnt
  ·have hlt : k < a.ks.length := by omega
   have hs := sizeL_drop hlt
   have hsk := size_kid (List.getElem_mem hlt)
   have hst := meas_step (a := a) (k := k) hd0 hd1 hl0 hl1 hc0 (by omega) hb hlt (ih _ (List.getElem_mem hlt)) (by omega)
   have hm := measL_drop hlt d l cnt
   cases hx : meas a.ks[k] (d + 1) (l - cnt) with
   | none =>
    rw [hx] at hst hm
    rw [hm]
    exact ⟨fun c h => (by cases h), fun _ => loopK_out (o := .ret) hst (by simp)⟩
   | some c =>
    rw [hx] at hst hm
    have hp := meas_pos _ _ _ _ hx
    have hl : loopK (call pg) pg.G [0, 2, 3, 10, 42, 43, 44] fc45_b0 (msS a d l cnt k) = loopK (call pg) pg.G [0, 2, 3, 10, 42, 43, 44] fc45_b0 (msS a d l (cnt + c) (k + 1)) := loopK_norm hst
    rw [hm, hl]
    exact IH (k + 1) (cnt + c) (by omega) (by omega) (by omega) (by omega)
theorem meas0 : ∀ (s : Nat) (a : Nd), a.size ≤ s → s ≤ 1000000 → ∀ (d l : Int), 0 ≤ d → d ≤ 25 → -1000000 ≤ l → l ≤ 1000000 →
    ∃ ex tk, call pg 45 [.mapr 0, .p a.pd, .p (.int .i64 d), .p (.int .i64 l)] ⟨[tabS], []⟩ = some (.val (measD (meas a d l)), ⟨tabS :: ex, tk⟩) := by
 intro s
 induction s with
 | zero => intro a h; have := size_eq a; omega
 | succ s IH =>
  intro a hs hB d l hd0 hd1 hl0 hl1
  have hsz := size_eq a
  have hlen := len_sizeL a.ks
  have o1 := one_all a
  have lks : ∀ G tk, loadD G ⟨[tabS, a.cells.map .p], tk⟩ none (.box 1 3) = some (.p a.kidsP) := fun _ _ => rfl
  have lop : ∀ G tk, loadD G ⟨[tabS, a.cells.map .p], tk⟩ none (.box 1 0) = some (.p (.int .i64 a.op)) := fun _ _ => rfl
  have lnd : ∀ G tk, loadD G ⟨[tabS, a.cells.map .p], tk⟩ (some 5) (.box 1 0) = some (.p a.pd) := fun G tk => load_ndb (i := 1) rfl
  have hk0 := len_kids a
  have hown := own_eq a
  have hfit := fun tk => fits_eq (op := a.op) (a := a) (by omega) (H := ⟨[tabS, a.cells.map .p], tk⟩) (i := 0) rfl
  have hme := meas_eq a d l
  rw [pd_cells] at lnd hown ⊢
  refine ⟨[a.cells.map .p], [], call_body (fc := fc45) rfl rfl rfl rfl ?_⟩
  by_cases h1 : 24 < d
  ·rw [if_pos (.inl h1)] at hme
   rw [hme]
   simp [fc45, evKC, evK, evGuard, put, Env.get, Env.keep, entry, Opd.ev, binD, finish, evRes, evRes1, mapO, D.cells, o1, h1, measD]
  by_cases h2 : l < 1
  ·rw [if_pos (.inr (.inl h2))] at hme
   rw [hme]
   simp [fc45, evKC, evK, evGuard, put, Env.get, Env.keep, entry, Opd.ev, binD, finish, evRes, evRes1, mapO, D.cells, o1, h1, h2, measD]
  by_cases h3 : 400 < a.ks.length
  ·rw [if_pos (.inr (.inr (.inl h3)))] at hme
   have h3' : 400 < (a.ks.length : Int) := by omega
   rw [hme]
   simp [fc45, evKC, evK, evGuard, put, Env.get, Env.keep, entry, Opd.ev, binD, finish, evRes, evRes1, mapO, D.cells, o1, h1, h2, lks, hk0, h3', measD]
  have h3' : ¬ 400 < (a.ks.length : Int) := by omega
  cases h4 : ownN a with
  | false =>
   rw [if_pos (.inr (.inr (.inr (.inl h4))))] at hme
   rw [h4] at hown
   rw [hme]
   simp [fc45, evKC, evK, evGuard, put, Env.get, Env.keep, entry, Opd.ev, binD, unD, finish, evRes, evRes1, mapO, D.cells, o1, h1, h2, lks, hk0, h3', lnd, hown, measD]
  | true =>
   rw [h4] at hown
   cases h5 : fitsB a.op a.ks with
   | false =>
    rw [if_pos (.inr (.inr (.inr (.inr h5))))] at hme
    rw [h5] at hfit
    rw [hme]
    simp [fc45, evKC, evK, evGuard, put, Env.get, Env.keep, entry, Opd.ev, binD, unD, finish, evRes, evRes1, mapO, D.cells, o1, h1, h2, lks, lop, hk0, h3', lnd, hown, hfit, measD]
   | true =>
    rw [if_neg (by simp [h1, h2, h3, h4, h5])] at hme
    rw [h5] at hfit
    have ihk : ∀ x ∈ a.ks, MeasOk x := fun x hx d' l' q1 q2 q3 q4 H i hi => by
     have hsx := size_kid hx
     exact callD_shp (args := [x.pd, .int .i64 d', .int .i64 l']) hi (fun _ _ => by cases meas x d' l' <;> rfl) (IH x (by omega) (by omega) d' l' q1 q2 q3 q4)
    obtain ⟨l1, l2⟩ := meas_loop (a := a) (d := d) (l := l) hd0 (by omega) (by omega) hl1 (by omega) ihk (by omega) a.ks.length 0 1 (by omega) (by omega) (by omega) (by rw [List.drop_zero]; omega)
    rw [List.drop_zero] at l1 l2
    simp only [msS, Int.natCast_zero] at l1 l2
    rw [hme]
    cases hL : measL a.ks d l 1 with
    | none =>
     have l2 := l2 hL
     simp [fc45, evKC, evK, evGuard, put, Env.get, Env.keep, entry, Opd.ev, binD, unD, finish, evRes, evRes1, mapO, D.cells, o1, h1, h2, lks, lop, hk0, h3', lnd, hown, hfit, l2, measD]
    | some c =>
     obtain ⟨env, l1, g1⟩ := l1 c hL
     simp [fc45, evKC, evK, evGuard, put, Env.get, Env.keep, entry, Opd.ev, binD, unD, finish, evRes, evRes1, mapO, D.cells, o1, h1, h2, lks, lop, hk0, h3', lnd, hown, hfit, l1, g1, measD]
theorem meas_call {a : Nd} (hs : a.size ≤ 1000000) {d l : Int} (q1 : 0 ≤ d) (q2 : d ≤ 25) (q3 : -1000000 ≤ l) (q4 : l ≤ 1000000) {H : Hp} {i : Nat} (hi : H.bx[i]? = some tabS) :
    callD (call pg) 45 [.mapr i, .p a.pd, .p (.int .i64 d), .p (.int .i64 l)] H = some (.val (measD (meas a d l)), H) :=
 callD_shp (args := [a.pd, .int .i64 d, .int .i64 l]) hi (fun _ _ => by cases meas a d l <;> rfl) (meas0 a.size a (Nat.le_refl _) hs d l q1 q2 q3 q4)
def validN (a : Nd) : Bool := (meas a 1 400).isSome
theorem shapes_call (cs : List D) (_hc : isMapC cs = false) (_hr : D.refsL cs = []) : callD (call pg) 46 [] ⟨[cs], []⟩ = some (.val (.mapr 1), ⟨[cs, tabS], []⟩) := by
 have h := shapes0
 have e6 : D.renL (fun i => if i < 0 then ([] : List Nat)[i]? else some ([cs].length + (i - 0))) (fun t => ([] : List Nat)[t]?) tabS = some tabS := by rfl
 simp only [callD, D.refsL, D.toksL, ins, reach, boxRefs, boxToks, List.append_nil, Vs.nodupB, Bool.and_self, if_true, D.renL, mapO, List.length_cons, List.length_nil]
 rw [h]
 simp [back, firstN, Res.ren, D.ren, mapO, putAll]
 rfl
theorem valid0 (a : Nd) (hs : a.size ≤ 1000000) : ∃ H', call pg 15 [.p a.pd] ⟨[], []⟩ = some (.val (.p (.bool (validN a))), H') := by
 have o1 := one_all a
 have hsh := shapes_call (a.cells.map .p) (isMapC_p _) (refsL_p _)
 have lnd : ∀ G tk, loadD G ⟨[a.cells.map .p, tabS], tk⟩ (some 5) (.box 0 0) = some (.p a.pd) := fun G tk => load_ndb (i := 0) rfl
 have hm := fun tk => meas_call hs (d := 1) (l := 400) (by omega) (by omega) (by omega) (by omega) (H := ⟨[a.cells.map .p, tabS], tk⟩) (i := 1) rfl
 rw [pd_cells] at lnd hm ⊢
 refine ⟨_, call_body (fc := fc15) rfl rfl rfl rfl (r := (_, ⟨[a.cells.map .p, tabS], []⟩)) ?_⟩
 unfold validN
 cases h : meas a 1 400 with
 | none =>
  rw [h] at hm
  simp only [measD] at hm
  simp [fc15, evKC, evK, put, Env.get, Env.keep, entry, Opd.ev, clsP, cls, clsR, isCl, isW, apartRW, offB, apartWW, clash, insOk, finish, evRes, evRes1, D.cells, D.refsL, D.refs, D.toksL, D.toks, o1, hsh, lnd, hm]
 | some c =>
  rw [h] at hm
  simp only [measD] at hm
  simp [fc15, evKC, evK, put, Env.get, Env.keep, entry, Opd.ev, clsP, cls, clsR, isCl, isW, apartRW, offB, apartWW, clash, insOk, finish, evRes, evRes1, D.cells, D.refsL, D.refs, D.toksL, D.toks, o1, hsh, lnd, hm]
theorem valid_eq {a : Nd} (hs : a.size ≤ 1000000) (H : Hp) : callD (call pg) 15 [.p a.pd] H = some (.val (.p (.bool (validN a))), H) := callD_any (valid0 a hs) rfl rfl rfl rfl H
theorem cnt_loop {a : Nd} (ih : ∀ (k : Nd) (left : Nat), k ∈ a.ks → left ≤ 1000000000 → ∀ H, callD (call pg) 50 [.p k.pd, .p (.int .i64 left)] H = some (.val (.p (.int .i64 (cntN k.size left))), H)) {left : Nat} (hl : left ≤ 1000000000) :
    ∀ (n k sum : Nat), a.ks.length - k ≤ n → k ≤ a.ks.length → k < sum → sum ≤ left + 1 →
    ∃ env, loopK (call pg) pg.G [1, 2, 5, 6] fc50_b0 ⟨[(1, .p (.int .i64 left)), (2, .box 0 0), (5, .p (.int .i64 sum)), (6, .p (.int .i64 k))], ⟨[a.cells.map .p], []⟩⟩ =
     some (.exit 0, ⟨env, ⟨[a.cells.map .p], []⟩⟩) ∧ env.get 5 = .p (.int .i64 (min (sum + Nd.sizeL (a.ks.drop k)) (left + 1) : Nat)) := by
 intro n
 have hk0 := len_kids a
 have hld := fun (G : Nat → Option (List PD)) tk => ld_kids (G := G) a tk
 induction n with
 | zero =>
  intro k sum hn hk h1 h2
  have he : k = a.ks.length := by omega
  refine ⟨[(1, .p (.int .i64 left)), (2, .box 0 0), (5, .p (.int .i64 sum)), (6, .p (.int .i64 k)), (16, .p (.bool false))], ?_, ?_⟩
  ·refine loopK_out (o := .exit 0) ?_ (by simp)
   simp [fc50_b0, evKC, evK, evGuard, put, Env.get, Env.keep, Opd.ev, binD, mapO, D.ren, locD, below, Out.ren, List.map, hk0, hld, he]
  ·rw [List.drop_eq_nil_of_le (by omega)]
   simp only [Nd.sizeL, Nat.add_zero, Nat.min_eq_left h2]
   rfl
 | succ n IH =>
  intro k sum hn hk h1 h2
  by_cases he : k = a.ks.length
  ·refine ⟨[(1, .p (.int .i64 left)), (2, .box 0 0), (5, .p (.int .i64 sum)), (6, .p (.int .i64 k)), (16, .p (.bool false))], ?_, ?_⟩
   ·refine loopK_out (o := .exit 0) ?_ (by simp)
    simp [fc50_b0, evKC, evK, evGuard, put, Env.get, Env.keep, Opd.ev, binD, mapO, D.ren, locD, below, Out.ren, List.map, hk0, hld, he]
   ·rw [List.drop_eq_nil_of_le (by omega)]
    simp only [Nd.sizeL, Nat.add_zero, Nat.min_eq_left h2]
    rfl
  ·have hlt : k < a.ks.length := by omega
   have hlt' : (k : Int) < (a.ks.length : Int) := by omega
   by_cases hs : sum ≤ left
   ·have hs' : (sum : Int) ≤ (left : Int) := by omega
    have hc := ih a.ks[k] (left - sum) (List.getElem_mem hlt) (by omega)
    have hia := ia_kids hlt
    have hld2 := fun (G : Nat → Option (List PD)) (H : Hp) => load_nd (G := G) (H := H) a.ks[k]
    have hcpos : 1 ≤ cntN a.ks[k].size (left - sum) := by have := size_eq a.ks[k]; simp only [cntN]; omega
    have hcle : cntN a.ks[k].size (left - sum) ≤ left - sum + 1 := by simp only [cntN]; omega
    obtain ⟨env, e1, e2⟩ := IH (k + 1) (sum + cntN a.ks[k].size (left - sum)) (by omega) (by omega) (by omega) (by omega)
    refine ⟨env, ?_, ?_⟩
    ·have hk1 := inc64 (k := k) (by omega)
     have w1 : IntKind.i64.wrap ((left : Int) - (sum : Int)) = ((left - sum : Nat) : Int) := by rw [wrap64 (by omega) (by omega)]; omega
     have w2 : IntKind.i64.wrap ((sum : Int) + (cntN a.ks[k].size (left - sum) : Int)) = ((sum + cntN a.ks[k].size (left - sum) : Nat) : Int) := by rw [wrap64 (by omega) (by omega)]; omega
     rw [← e1]
     refine loopK_norm ?_
     generalize cntN a.ks[k].size (left - sum) = z at *
     generalize a.ks[k] = x at *
     simp [fc50_b0, evKC, evK, evGuard, put, Env.get, Env.keep, Opd.ev, D.asInt?, binD, mapO, D.ren, locD, below, Out.ren, List.map, hk0, hld, hlt', hs', hia, hld2, hc, w1, w2, hk1]
    ·rw [e2, cntN_step _ _ _ _ hs, List.drop_eq_getElem_cons hlt]
     rfl
   ·have hs' : ¬ (sum : Int) ≤ (left : Int) := by omega
    refine ⟨[(1, .p (.int .i64 left)), (2, .box 0 0), (5, .p (.int .i64 sum)), (6, .p (.int .i64 k)), (16, .p (.bool false))], ?_, ?_⟩
    ·refine loopK_out (o := .exit 0) ?_ (by simp)
     simp [fc50_b0, evKC, evK, evGuard, put, Env.get, Env.keep, Opd.ev, binD, mapO, D.ren, locD, below, Out.ren, List.map, hk0, hld, hlt', hs']
    ·have : min (sum + Nd.sizeL (a.ks.drop k)) (left + 1) = sum := by omega
     rw [this]; rfl
theorem cnt0 : ∀ (s : Nat) (a : Nd) (left : Nat), a.size ≤ s → left ≤ 1000000000 → ∃ H', call pg 50 [.p a.pd, .p (.int .i64 left)] ⟨[], []⟩ = some (.val (.p (.int .i64 (cntN a.size left))), H') := by
 intro s
 induction s with
 | zero => intro a left h; have := size_eq a; omega
 | succ s ih =>
  intro a left hs hl
  obtain ⟨env, e1, e2⟩ := cnt_loop (a := a) (left := left) (fun k l hk hl H => callD_any (ih k l (by have := size_kid hk; omega) hl) rfl rfl rfl rfl H) hl a.ks.length 0 1 (by omega) (by omega) (by omega) (by omega)
  rw [List.drop_zero, ← size_eq] at e2
  simp only [Int.natCast_zero, Int.natCast_one] at e1
  rw [pd_cells]
  refine ⟨_, call_body (fc := fc50) rfl rfl rfl rfl (r := (_, ⟨[a.cells.map .p], []⟩)) ?_⟩
  simp only [cntN]
  simp [fc50, evKC, evK, put, Env.get, Env.keep, entry, Opd.ev, finish, evRes, evRes1, D.cells, List.map, e1, e2, one_all a]
theorem cnt_eq (a : Nd) {left : Nat} (hl : left ≤ 1000000000) (H : Hp) : callD (call pg) 50 [.p a.pd, .p (.int .i64 left)] H = some (.val (.p (.int .i64 (cntN a.size left))), H) :=
 callD_any (cnt0 _ a left (Nat.le_refl _) hl) rfl rfl rfl rfl H
theorem few0 (a : Nd) : ∃ H', call pg 18 [.p a.pd] ⟨[], []⟩ = some (.val (.p (.bool (decide (a.size ≤ 400)))), H') := by
 have hc : ∀ H, callD (call pg) 50 [.p a.pd, .p (.int .i64 400)] H = some (.val (.p (.int .i64 (cntN a.size 400))), H) := cnt_eq a (left := 400) (by omega)
 have hl := fun (G : Nat → Option (List PD)) => load_ndb (G := G) (H := ⟨[a.cells.map .p], []⟩) (i := 0) (x := a) rfl
 have he : decide ((cntN a.size 400 : Int) ≤ 400) = decide (a.size ≤ 400) := by
  rw [decide_eq_decide]; simp only [cntN]; omega
 rw [pd_cells]
 refine ⟨_, call_body (fc := fc18) rfl rfl rfl rfl (r := (_, ⟨[a.cells.map .p], []⟩)) ?_⟩
 simp [fc18, evKC, evK, put, Env.get, Env.keep, entry, Opd.ev, binD, finish, evRes, evRes1, D.cells, List.map, hl, hc, one_all a, he]
theorem few_eq (a : Nd) (H : Hp) : callD (call pg) 18 [.p a.pd] H = some (.val (.p (.bool (decide (a.size ≤ 400)))), H) :=
 callD_any (few0 a) rfl rfl rfl rfl H
end Go.Proofs.YtalgjkpkkdljaaaGreatDoor
