/-
  A value-level evaluator for Go functions; the functions of this cut by it; plain laws. Part 4 of 6.
-/
import Derived.Test.YtalgjkpkkdljaaaGreatDoorProg
import Derived.Test.YtalgjkpkkdljaaaGreatDoorG3
import Derived.KernelRfl

/-! The functions of the cut, as the evaluator's (printed by a program of ours), each checked against the program's. -/
namespace Go.Proofs.YtalgjkpkkdljaaaGreatDoor
open Go.Vs

/-- armature/armaturelaw02.ParserReturnsValidTrees -/
def fc3_b0 : SC :=
 (.seq
 (.seq
 (.region [0, 3, 4, 5, 6, 24] [
 ⟨some 21, .move (.t 6), none⟩,
 ⟨some 22, .move (.t 5), none⟩,
 ⟨some 23, .len 1 (.t 22), none⟩,
 ⟨some 24, .bin .lss (.t 21) (.t 23), none⟩])
 (.cond (.t 24)
 .skip
 (.exit 0)))
 (.seq
 (.block 1
 (.seq
 (.region [0, 3, 4, 5, 6, 54] [
 ⟨some 27, .move (.t 5), none⟩,
 ⟨some 28, .move (.t 6), none⟩,
 ⟨some 29, .iaddr none 2 (.t 27) (.t 28), none⟩,
 ⟨some 30, .faddr (.t 29) 0, none⟩,
 ⟨some 31, .load none (.t 30), none⟩,
 ⟨some 32, .bin .eql (.t 31) (.c (.p (.int .i64 0))), none⟩,
 ⟨some 33, .move (.t 32), none⟩,
 ⟨some 34, .move (.t 5), some (33, false)⟩,
 ⟨some 35, .move (.t 6), some (33, false)⟩,
 ⟨some 36, .iaddr none 2 (.t 34) (.t 35), some (33, false)⟩,
 ⟨some 37, .faddr (.t 36) 1, some (33, false)⟩,
 ⟨some 38, .load none (.t 37), some (33, false)⟩,
 ⟨some 39, .bin .lss (.t 38) (.c (.p (.int .i64 0))), some (33, false)⟩,
 ⟨some 40, .pick (.t 33) (.c (.p (.bool true))) (.t 39), none⟩,
 ⟨some 41, .move (.t 40), none⟩,
 ⟨some 42, .move (.t 5), some (41, false)⟩,
 ⟨some 43, .move (.t 6), some (41, false)⟩,
 ⟨some 44, .iaddr none 2 (.t 42) (.t 43), some (41, false)⟩,
 ⟨some 45, .faddr (.t 44) 1, some (41, false)⟩,
 ⟨some 46, .load none (.t 45), some (41, false)⟩,
 ⟨some 47, .move (.t 0), some (41, false)⟩,
 ⟨some 48, .len 0 (.t 47), some (41, false)⟩,
 ⟨some 49, .bin .gtr (.t 46) (.t 48), some (41, false)⟩,
 ⟨some 50, .pick (.t 41) (.c (.p (.bool true))) (.t 49), none⟩,
 ⟨some 51, .move (.t 50), none⟩,
 ⟨some 52, .move (.t 6), some (51, false)⟩,
 ⟨some 53, .bin .geq (.t 52) (.c (.p (.int .i64 20))), some (51, false)⟩,
 ⟨some 54, .pick (.t 51) (.c (.p (.bool true))) (.t 53), none⟩])
 (.cond (.t 54)
 (.seq
 (.region [2] [
 ⟨some 2, .move (.c (.p (.bool false))), none⟩])
 .ret)
 .skip)))
 (.region [0, 3, 4, 5, 6] [
 ⟨some 25, .move (.t 6), none⟩,
 ⟨some 26, .bin .add (.t 25) (.c (.p (.int .i64 1))), none⟩,
 ⟨some 6, .move (.t 26), none⟩])))

def fc3_b1 : SC :=
 (.loc
 (.seq
 (.seq
 (.region [0, 3, 4, 7, 59] [
 ⟨some 55, .move (.t 7), none⟩,
 ⟨some 56, .faddr (.t 4) 2, none⟩,
 ⟨some 57, .load none (.t 56), none⟩,
 ⟨some 58, .len 1 (.t 57), none⟩,
 ⟨some 59, .bin .lss (.t 55) (.t 58), none⟩])
 (.cond (.t 59)
 .skip
 (.exit 2)))
 (.seq
 (.block 3
 (.seq
 (.region [0, 3, 4, 7, 80] [
 ⟨some 62, .faddr (.t 4) 2, none⟩,
 ⟨some 63, .load none (.t 62), none⟩,
 ⟨some 64, .move (.t 7), none⟩,
 ⟨some 65, .iaddr none 7 (.t 63) (.t 64), none⟩,
 ⟨some 66, .faddr (.t 65) 2, none⟩,
 ⟨some 67, .load (some 5) (.t 66), none⟩,
 ⟨some 68, .call (.c (.fn 15 [] [])) [(.t 67)], none⟩,
 ⟨some 69, .un .not (.t 68), none⟩,
 ⟨some 70, .move (.t 69), none⟩,
 ⟨some 71, .faddr (.t 4) 2, some (70, false)⟩,
 ⟨some 72, .load none (.t 71), some (70, false)⟩,
 ⟨some 73, .move (.t 7), some (70, false)⟩,
 ⟨some 74, .iaddr none 7 (.t 72) (.t 73), some (70, false)⟩,
 ⟨some 75, .faddr (.t 74) 2, some (70, false)⟩,
 ⟨some 76, .faddr (.t 75) 0, some (70, false)⟩,
 ⟨some 77, .load none (.t 76), some (70, false)⟩,
 ⟨some 78, .call (.c (.fn 16 [] [])) [(.t 77)], some (70, false)⟩,
 ⟨some 79, .bin .neq (.t 78) (.c (.p (.int .u8 102))), some (70, false)⟩,
 ⟨some 80, .pick (.t 70) (.c (.p (.bool true))) (.t 79), none⟩])
 (.cond (.t 80)
 (.seq
 (.region [2] [
 ⟨some 2, .move (.c (.p (.bool false))), none⟩])
 .ret)
 .skip)))
 (.region [0, 3, 4, 7] [
 ⟨some 60, .move (.t 7), none⟩,
 ⟨some 61, .bin .add (.t 60) (.c (.p (.int .i64 1))), none⟩,
 ⟨some 7, .move (.t 61), none⟩]))))

def fc3_b2 : SC :=
 (.loc
 (.seq
 (.seq
 (.region [0, 3, 4, 8, 85] [
 ⟨some 81, .move (.t 8), none⟩,
 ⟨some 82, .faddr (.t 4) 3, none⟩,
 ⟨some 83, .load none (.t 82), none⟩,
 ⟨some 84, .len 1 (.t 83), none⟩,
 ⟨some 85, .bin .lss (.t 81) (.t 84), none⟩])
 (.cond (.t 85)
 .skip
 (.exit 4)))
 (.seq
 (.block 5
 (.seq
 (.region [0, 3, 4, 8, 106] [
 ⟨some 88, .faddr (.t 4) 3, none⟩,
 ⟨some 89, .load none (.t 88), none⟩,
 ⟨some 90, .move (.t 8), none⟩,
 ⟨some 91, .iaddr none 6 (.t 89) (.t 90), none⟩,
 ⟨some 92, .faddr (.t 91) 1, none⟩,
 ⟨some 93, .load (some 5) (.t 92), none⟩,
 ⟨some 94, .call (.c (.fn 15 [] [])) [(.t 93)], none⟩,
 ⟨some 95, .un .not (.t 94), none⟩,
 ⟨some 96, .move (.t 95), none⟩,
 ⟨some 97, .faddr (.t 4) 3, some (96, false)⟩,
 ⟨some 98, .load none (.t 97), some (96, false)⟩,
 ⟨some 99, .move (.t 8), some (96, false)⟩,
 ⟨some 100, .iaddr none 6 (.t 98) (.t 99), some (96, false)⟩,
 ⟨some 101, .faddr (.t 100) 1, some (96, false)⟩,
 ⟨some 102, .faddr (.t 101) 0, some (96, false)⟩,
 ⟨some 103, .load none (.t 102), some (96, false)⟩,
 ⟨some 104, .call (.c (.fn 16 [] [])) [(.t 103)], some (96, false)⟩,
 ⟨some 105, .bin .neq (.t 104) (.c (.p (.int .u8 102))), some (96, false)⟩,
 ⟨some 106, .pick (.t 96) (.c (.p (.bool true))) (.t 105), none⟩])
 (.cond (.t 106)
 (.seq
 (.region [2] [
 ⟨some 2, .move (.c (.p (.bool false))), none⟩])
 .ret)
 .skip)))
 (.region [0, 3, 4, 8] [
 ⟨some 86, .move (.t 8), none⟩,
 ⟨some 87, .bin .add (.t 86) (.c (.p (.int .i64 1))), none⟩,
 ⟨some 8, .move (.t 87), none⟩]))))

def fc3 : FC where
  nt := 132
  np := 1
  res := [.t 2]
  body :=
    (.seq
   (.region [0] [
   ⟨some 2, .move (.c (.p (.bool false))), none⟩])
   (.seq
   (.region [0, 3] [
   ⟨some 11, .call (.c (.fn 13 [] [])) [], none⟩,
   ⟨some 3, .move (.t 11), none⟩])
   (.seq
   (.seq
   (.region [0, 3, 14] [
   ⟨some 12, .move (.t 0), none⟩,
   ⟨some 13, .len 0 (.t 12), none⟩,
   ⟨some 14, .bin .gtr (.t 13) (.c (.p (.int .i64 4000))), none⟩])
   (.cond (.t 14)
   (.seq
   (.region [2] [
   ⟨some 15, .move (.t 3), none⟩,
   ⟨some 2, .move (.t 15), none⟩])
   .ret)
   .skip))
   (.seq
   (.region [0, 3, 4, 5] [
   ⟨some 17, .move (.t 0), none⟩,
   ⟨some 18, .call (.c (.fn 14 [] [])) [(.t 17)], none⟩,
   ⟨some 16, .move (.t 18), none⟩,
   ⟨some 19, .extract (.t 16) 0, none⟩,
   ⟨some 20, .extract (.t 16) 1, none⟩,
   ⟨some 4, .alloc [.nils, .nils, .nils, .nils], none⟩,
   ⟨none, .store 4 (.t 4) (.t 19), none⟩,
   ⟨some 5, .move (.t 20), none⟩])
   (.seq
   (.seq
   (.region [0, 3, 4, 5, 6] [
   ⟨some 6, .move (.c (.p (.int .i64 0))), none⟩])
   (.block 0
   (.loop [0, 3, 4, 5, 6]
   fc3_b0)))
   (.seq
   (.seq
   (.region [0, 3, 4, 7] [
   ⟨some 7, .move (.c (.p (.int .i64 0))), none⟩])
   (.block 2
   (.loop [0, 3, 4, 7]
   fc3_b1)))
   (.seq
   (.seq
   (.region [0, 3, 4, 8] [
   ⟨some 8, .move (.c (.p (.int .i64 0))), none⟩])
   (.block 4
   (.loop [0, 3, 4, 8]
   fc3_b2)))
   (.seq
   (.region [3, 9, 10] [
   ⟨some 108, .move (.t 0), none⟩,
   ⟨some 109, .call (.c (.fn 17 [] [])) [(.t 108)], none⟩,
   ⟨some 107, .move (.t 109), none⟩,
   ⟨some 110, .extract (.t 107) 0, none⟩,
   ⟨some 111, .extract (.t 107) 1, none⟩,
   ⟨some 9, .alloc [.int .i64 0, .str [], .int .i64 0, .nils, .int .i64 0], none⟩,
   ⟨none, .store 5 (.t 9) (.t 110), none⟩,
   ⟨some 10, .move (.t 111), none⟩])
   (.seq
   (.seq
   (.region [3, 9, 10, 114] [
   ⟨some 112, .move (.t 10), none⟩,
   ⟨some 113, .len 1 (.t 112), none⟩,
   ⟨some 114, .bin .gtr (.t 113) (.c (.p (.int .i64 0))), none⟩])
   (.cond (.t 114)
   (.seq
   (.region [2] [
   ⟨some 115, .move (.t 3), none⟩,
   ⟨some 116, .move (.t 115), none⟩,
   ⟨some 117, .move (.t 10), some (116, true)⟩,
   ⟨some 118, .len 1 (.t 117), some (116, true)⟩,
   ⟨some 119, .bin .eql (.t 118) (.c (.p (.int .i64 1))), some (116, true)⟩,
   ⟨some 120, .pick (.t 116) (.t 119) (.c (.p (.bool false))), none⟩,
   ⟨some 2, .move (.t 120), none⟩])
   .ret)
   .skip))
   (.seq
   (.region [2] [
   ⟨some 121, .move (.t 3), none⟩,
   ⟨some 122, .move (.t 121), none⟩,
   ⟨some 123, .load (some 5) (.t 9), some (122, true)⟩,
   ⟨some 124, .call (.c (.fn 15 [] [])) [(.t 123)], some (122, true)⟩,
   ⟨some 125, .pick (.t 122) (.t 124) (.c (.p (.bool false))), none⟩,
   ⟨some 126, .move (.t 125), none⟩,
   ⟨some 127, .faddr (.t 9) 0, some (126, true)⟩,
   ⟨some 128, .load none (.t 127), some (126, true)⟩,
   ⟨some 129, .call (.c (.fn 16 [] [])) [(.t 128)], some (126, true)⟩,
   ⟨some 130, .bin .eql (.t 129) (.c (.p (.int .u8 102))), some (126, true)⟩,
   ⟨some 131, .pick (.t 126) (.t 130) (.c (.p (.bool false))), none⟩,
   ⟨some 2, .move (.t 131), none⟩])
   .ret))))))))))

theorem ok3 : FOk Tryz.prog 3 fc3 := FOk.of Tryz.func3 (by kernel_rfl)

/-- armature/armaturelaw02.ParserReadsParentheses -/
def fc4 : FC where
  nt := 33
  np := 1
  res := [.t 2]
  body :=
    (.seq
   (.region [1] [
   ⟨some 1, .box (.t 0), none⟩,
   ⟨some 2, .move (.c (.p (.bool false))), none⟩])
   (.seq
   (.region [1, 3] [
   ⟨some 5, .call (.c (.fn 13 [] [])) [], none⟩,
   ⟨some 3, .move (.t 5), none⟩])
   (.seq
   (.seq
   (.region [1, 3, 19] [
   ⟨some 6, .load (some 5) (.t 1), none⟩,
   ⟨some 7, .call (.c (.fn 18 [] [])) [(.t 6)], none⟩,
   ⟨some 8, .un .not (.t 7), none⟩,
   ⟨some 9, .move (.t 8), none⟩,
   ⟨some 10, .load (some 5) (.t 1), some (9, false)⟩,
   ⟨some 11, .call (.c (.fn 15 [] [])) [(.t 10)], some (9, false)⟩,
   ⟨some 12, .un .not (.t 11), some (9, false)⟩,
   ⟨some 13, .pick (.t 9) (.c (.p (.bool true))) (.t 12), none⟩,
   ⟨some 14, .move (.t 13), none⟩,
   ⟨some 15, .faddr (.t 1) 0, some (14, false)⟩,
   ⟨some 16, .load none (.t 15), some (14, false)⟩,
   ⟨some 17, .call (.c (.fn 16 [] [])) [(.t 16)], some (14, false)⟩,
   ⟨some 18, .bin .neq (.t 17) (.c (.p (.int .u8 102))), some (14, false)⟩,
   ⟨some 19, .pick (.t 14) (.c (.p (.bool true))) (.t 18), none⟩])
   (.cond (.t 19)
   (.seq
   (.region [2] [
   ⟨some 20, .move (.t 3), none⟩,
   ⟨some 2, .move (.t 20), none⟩])
   .ret)
   .skip))
   (.seq
   (.region [1, 3, 4] [
   ⟨some 21, .load (some 5) (.t 1), none⟩,
   ⟨some 22, .call (.c (.fn 19 [] [])) [(.t 21)], none⟩,
   ⟨some 4, .move (.t 22), none⟩])
   (.seq
   (.seq
   (.region [1, 3, 4, 25] [
   ⟨some 23, .move (.t 4), none⟩,
   ⟨some 24, .len 0 (.t 23), none⟩,
   ⟨some 25, .bin .gtr (.t 24) (.c (.p (.int .i64 20000))), none⟩])
   (.cond (.t 25)
   (.seq
   (.region [2] [
   ⟨some 26, .move (.t 3), none⟩,
   ⟨some 2, .move (.t 26), none⟩])
   .ret)
   .skip))
   (.seq
   (.region [2] [
   ⟨some 27, .move (.t 3), none⟩,
   ⟨some 28, .move (.t 27), none⟩,
   ⟨some 29, .move (.t 4), some (28, true)⟩,
   ⟨some 30, .load (some 5) (.t 1), some (28, true)⟩,
   ⟨some 31, .call (.c (.fn 20 [] [])) [(.t 29), (.t 30)], some (28, true)⟩,
   ⟨some 32, .pick (.t 28) (.t 31) (.c (.p (.bool false))), none⟩,
   ⟨some 2, .move (.t 32), none⟩])
   .ret))))))

theorem ok4 : FOk Tryz.prog 4 fc4 := FOk.of Tryz.func4 (by kernel_rfl)

/-- armature/armaturelaw02.ParserPrecedence -/
def fc5 : FC where
  nt := 174
  np := 3
  res := [.t 6]
  body :=
    (.seq
   (.region [0, 1, 2] [
   ⟨some 6, .move (.c (.p (.bool false))), none⟩])
   (.seq
   (.region [0, 1, 2, 7] [
   ⟨some 22, .call (.c (.fn 13 [] [])) [], none⟩,
   ⟨some 7, .move (.t 22), none⟩])
   (.seq
   (.region [0, 1, 2, 7, 8] [
   ⟨some 23, .bslice 9 1 5 (.str []) [(0, (.c (.p (.str [60, 61, 62])))), (1, (.c (.p (.str [61, 62])))), (2, (.c (.p (.str [124, 124])))), (3, (.c (.p (.str [38, 38])))), (4, (.c (.p (.str [117, 110, 116, 105, 108]))))], none⟩,
   ⟨some 8, .move (.t 23), none⟩])
   (.seq
   (.region [0, 1, 2, 7, 8, 9, 10, 11] [
   ⟨some 9, .move (.c (.p (.str [110, 111, 32, 97]))), none⟩,
   ⟨some 10, .move (.c (.p (.str [115, 111, 109, 101, 32, 98]))), none⟩,
   ⟨some 11, .move (.c (.p (.str [116, 114, 117, 101]))), none⟩])
   (.seq
   (.region [0, 1, 2, 7, 8, 9, 10, 11, 12, 13, 14] [
   ⟨some 24, .call (.c (.fn 22 [] [])) [(.c (.p (.str [97])))], none⟩,
   ⟨some 25, .call (.c (.fn 21 [] [])) [(.c (.p (.int .i64 35))), (.t 24)], none⟩,
   ⟨some 26, .call (.c (.fn 22 [] [])) [(.c (.p (.str [98])))], none⟩,
   ⟨some 27, .call (.c (.fn 21 [] [])) [(.c (.p (.int .i64 34))), (.t 26)], none⟩,
   ⟨some 28, .build [.int .i64 0, .str [], .int .i64 0, .nils, .int .i64 0] [(0, 1, (.c (.p (.int .i64 30))))], none⟩,
   ⟨some 12, .alloc [.int .i64 0, .str [], .int .i64 0, .nils, .int .i64 0], none⟩,
   ⟨some 13, .alloc [.int .i64 0, .str [], .int .i64 0, .nils, .int .i64 0], none⟩,
   ⟨some 14, .alloc [.int .i64 0, .str [], .int .i64 0, .nils, .int .i64 0], none⟩,
   ⟨none, .store 5 (.t 12) (.t 25), none⟩,
   ⟨none, .store 5 (.t 13) (.t 27), none⟩,
   ⟨none, .store 5 (.t 14) (.t 28), none⟩])
   (.seq
   (.seq
   (.region [0, 1, 2, 7, 8, 9, 10, 11, 12, 13, 14, 29] [
   ⟨some 29, .move (.t 2), none⟩])
   (.cond (.t 29)
   (.seq
   (.region [0, 1, 2, 7, 8, 12, 13, 14] [
   ⟨some 30, .bslice 9 1 6 (.str []) [(0, (.c (.p (.str [43])))), (1, (.c (.p (.str [45])))), (2, (.c (.p (.str [43, 43])))), (3, (.c (.p (.str [38])))), (4, (.c (.p (.str [45, 62])))), (5, (.c (.p (.str [46]))))], none⟩,
   ⟨some 8, .move (.t 30), none⟩])
   (.seq
   (.region [0, 1, 2, 7, 8, 9, 10, 11, 12, 13, 14] [
   ⟨some 9, .move (.c (.p (.str [97]))), none⟩,
   ⟨some 10, .move (.c (.p (.str [98]))), none⟩,
   ⟨some 11, .move (.c (.p (.str [117, 110, 105, 118]))), none⟩])
   (.region [0, 1, 2, 7, 8, 9, 10, 11, 12, 13, 14] [
   ⟨some 31, .call (.c (.fn 22 [] [])) [(.c (.p (.str [97])))], none⟩,
   ⟨some 32, .call (.c (.fn 22 [] [])) [(.c (.p (.str [98])))], none⟩,
   ⟨some 33, .build [.int .i64 0, .str [], .int .i64 0, .nils, .int .i64 0] [(0, 1, (.c (.p (.int .i64 3))))], none⟩,
   ⟨none, .store 5 (.t 12) (.t 31), none⟩,
   ⟨none, .store 5 (.t 13) (.t 32), none⟩,
   ⟨none, .store 5 (.t 14) (.t 33), none⟩])))
   .skip))
   (.seq
   (.draw [2, 7, 9, 10, 11, 12, 13, 14, 15, 16] [(7, 15)] [
   ⟨some 34, .move (.t 8), none⟩,
   ⟨some 35, .move (.t 0), none⟩,
   ⟨some 36, .conv .i64 (.t 35), none⟩,
   ⟨some 37, .move (.t 8), none⟩,
   ⟨some 38, .len 1 (.t 37), none⟩,
   ⟨some 39, .bin .rem (.t 36) (.t 38), none⟩,
   ⟨some 40, .iaddr none 1 (.t 34) (.t 39), none⟩,
   ⟨some 41, .load none (.t 40), none⟩,
   ⟨some 42, .move (.t 8), none⟩,
   ⟨some 43, .move (.t 1), none⟩,
   ⟨some 44, .conv .i64 (.t 43), none⟩,
   ⟨some 45, .move (.t 8), none⟩,
   ⟨some 46, .len 1 (.t 45), none⟩,
   ⟨some 47, .bin .rem (.t 44) (.t 46), none⟩,
   ⟨some 48, .iaddr none 1 (.t 42) (.t 47), none⟩,
   ⟨some 49, .load none (.t 48), none⟩,
   ⟨some 15, .move (.t 41), none⟩,
   ⟨some 16, .move (.t 49), none⟩])
   (.seq
   (.draw [2, 7, 9, 10, 11, 12, 13, 14, 15, 16, 17, 18] [(2, 7), (3, 7), (4, 7)] [
   ⟨some 50, .move (.t 15), none⟩,
   ⟨some 51, .faddr (.t 12) 0, none⟩,
   ⟨some 52, .load none (.t 51), none⟩,
   ⟨some 53, .call (.c (.fn 16 [] [])) [(.t 52)], none⟩,
   ⟨some 54, .call (.c (.fn 23 [] [])) [(.t 50), (.t 53)], none⟩,
   ⟨some 55, .move (.t 16), none⟩,
   ⟨some 56, .faddr (.t 12) 0, none⟩,
   ⟨some 57, .load none (.t 56), none⟩,
   ⟨some 58, .call (.c (.fn 16 [] [])) [(.t 57)], none⟩,
   ⟨some 59, .call (.c (.fn 23 [] [])) [(.t 55), (.t 58)], none⟩,
   ⟨some 17, .move (.t 54), none⟩,
   ⟨some 18, .move (.t 59), none⟩])
   (.seq
   (.region [2, 7, 9, 10, 11, 12, 13, 14, 15, 16, 17, 18, 19] [
   ⟨some 60, .move (.t 15), none⟩,
   ⟨some 61, .call (.c (.fn 24 [] [])) [(.t 60)], none⟩,
   ⟨some 62, .move (.t 16), none⟩,
   ⟨some 63, .call (.c (.fn 24 [] [])) [(.t 62)], none⟩,
   ⟨some 64, .bin .gtr (.t 61) (.t 63), none⟩,
   ⟨some 65, .move (.t 64), none⟩,
   ⟨some 66, .move (.t 15), some (65, false)⟩,
   ⟨some 67, .call (.c (.fn 24 [] [])) [(.t 66)], some (65, false)⟩,
   ⟨some 68, .move (.t 16), some (65, false)⟩,
   ⟨some 69, .call (.c (.fn 24 [] [])) [(.t 68)], some (65, false)⟩,
   ⟨some 70, .bin .eql (.t 67) (.t 69), some (65, false)⟩,
   ⟨some 71, .move (.t 70), some (65, false)⟩,
   ⟨some 72, .move (.t 15), some (71, true)⟩,
   ⟨some 73, .bin .neq (.t 72) (.c (.p (.str [61, 62]))), some (71, true)⟩,
   ⟨some 74, .pick (.t 71) (.t 73) (.c (.p (.bool false))), some (65, false)⟩,
   ⟨some 75, .move (.t 74), some (65, false)⟩,
   ⟨some 76, .move (.t 15), some (75, true)⟩,
   ⟨some 77, .bin .neq (.t 76) (.c (.p (.str [117, 110, 116, 105, 108]))), some (75, true)⟩,
   ⟨some 78, .pick (.t 75) (.t 77) (.c (.p (.bool false))), some (65, false)⟩,
   ⟨some 79, .pick (.t 65) (.c (.p (.bool true))) (.t 78), none⟩,
   ⟨some 19, .move (.t 79), none⟩])
   (.seq
   (.draw [2, 7, 9, 10, 11, 12, 13, 14, 15, 16, 17, 18, 19, 20] [(1, 3), (1, 4), (3, 4), (1, 5), (1, 7), (3, 7), (4, 7), (5, 7), (6, 7)] [
   ⟨some 80, .move (.t 17), none⟩,
   ⟨some 81, .load (some 5) (.t 12), none⟩,
   ⟨some 82, .move (.t 18), none⟩,
   ⟨some 83, .load (some 5) (.t 13), none⟩,
   ⟨some 84, .load (some 5) (.t 14), none⟩,
   ⟨some 85, .call (.c (.fn 25 [] [])) [(.t 82), (.t 83), (.t 84)], none⟩,
   ⟨some 86, .call (.c (.fn 25 [] [])) [(.t 80), (.t 81), (.t 85)], none⟩,
   ⟨some 20, .alloc [.int .i64 0, .str [], .int .i64 0, .nils, .int .i64 0], none⟩,
   ⟨none, .store 5 (.t 20) (.t 86), none⟩])
   (.seq
   (.seq
   (.region [2, 7, 9, 10, 11, 12, 13, 14, 15, 16, 17, 18, 20, 87] [
   ⟨some 87, .move (.t 19), none⟩])
   (.cond (.t 87)
   (.draw [2, 7, 9, 10, 11, 12, 13, 15, 16, 17, 20] [(2, 3), (2, 5), (3, 5), (4, 5)] [
   ⟨some 88, .move (.t 18), none⟩,
   ⟨some 89, .move (.t 17), none⟩,
   ⟨some 90, .load (some 5) (.t 12), none⟩,
   ⟨some 91, .load (some 5) (.t 13), none⟩,
   ⟨some 92, .call (.c (.fn 25 [] [])) [(.t 89), (.t 90), (.t 91)], none⟩,
   ⟨some 93, .load (some 5) (.t 14), none⟩,
   ⟨some 94, .call (.c (.fn 25 [] [])) [(.t 88), (.t 92), (.t 93)], none⟩,
   ⟨none, .store 5 (.t 20) (.t 94), none⟩])
   .skip))
   (.seq
   (.region [2, 7, 9, 10, 12, 13, 15, 17, 20, 21] [
   ⟨some 95, .move (.t 9), none⟩,
   ⟨some 96, .bin .add (.t 95) (.c (.p (.str [32]))), none⟩,
   ⟨some 97, .move (.t 15), none⟩,
   ⟨some 98, .bin .add (.t 96) (.t 97), none⟩,
   ⟨some 99, .bin .add (.t 98) (.c (.p (.str [32]))), none⟩,
   ⟨some 100, .move (.t 10), none⟩,
   ⟨some 101, .bin .add (.t 99) (.t 100), none⟩,
   ⟨some 102, .bin .add (.t 101) (.c (.p (.str [32]))), none⟩,
   ⟨some 103, .move (.t 16), none⟩,
   ⟨some 104, .bin .add (.t 102) (.t 103), none⟩,
   ⟨some 105, .bin .add (.t 104) (.c (.p (.str [32]))), none⟩,
   ⟨some 106, .move (.t 11), none⟩,
   ⟨some 107, .bin .add (.t 105) (.t 106), none⟩,
   ⟨some 21, .move (.t 107), none⟩])
   (.seq
   (.seq
   (.region [7, 9, 10, 12, 13, 15, 17, 20, 21, 108] [
   ⟨some 108, .move (.t 2), none⟩])
   (.cond (.t 108)
   (.seq
   (.draw [6] [(13, 14), (21, 22)] [
   ⟨some 109, .move (.t 7), none⟩,
   ⟨some 110, .move (.t 109), none⟩,
   ⟨some 111, .move (.t 21), some (110, true)⟩,
   ⟨some 112, .bin .add (.c (.p (.str [110, 111, 32]))) (.t 111), some (110, true)⟩,
   ⟨some 113, .load (some 5) (.t 20), some (110, true)⟩,
   ⟨some 114, .call (.c (.fn 21 [] [])) [(.c (.p (.int .i64 35))), (.t 113)], some (110, true)⟩,
   ⟨some 115, .call (.c (.fn 20 [] [])) [(.t 112), (.t 114)], some (110, true)⟩,
   ⟨some 116, .pick (.t 110) (.t 115) (.c (.p (.bool false))), none⟩,
   ⟨some 117, .move (.t 116), none⟩,
   ⟨some 118, .move (.t 21), some (117, true)⟩,
   ⟨some 119, .bin .add (.t 118) (.c (.p (.str [32, 105, 110, 32]))), some (117, true)⟩,
   ⟨some 120, .move (.t 21), some (117, true)⟩,
   ⟨some 121, .bin .add (.t 119) (.t 120), some (117, true)⟩,
   ⟨some 122, .load (some 5) (.t 20), some (117, true)⟩,
   ⟨some 123, .load (some 5) (.t 20), some (117, true)⟩,
   ⟨some 124, .call (.c (.fn 25 [] [])) [(.c (.p (.int .i64 32))), (.t 122), (.t 123)], some (117, true)⟩,
   ⟨some 125, .call (.c (.fn 20 [] [])) [(.t 121), (.t 124)], some (117, true)⟩,
   ⟨some 126, .pick (.t 117) (.t 125) (.c (.p (.bool false))), none⟩,
   ⟨some 127, .move (.t 126), none⟩,
   ⟨some 128, .move (.t 21), some (127, true)⟩,
   ⟨some 129, .bin .add (.c (.p (.str [99, 32, 61, 32]))) (.t 128), some (127, true)⟩,
   ⟨some 130, .call (.c (.fn 22 [] [])) [(.c (.p (.str [99])))], some (127, true)⟩,
   ⟨some 131, .load (some 5) (.t 20), some (127, true)⟩,
   ⟨some 132, .call (.c (.fn 25 [] [])) [(.c (.p (.int .i64 33))), (.t 130), (.t 131)], some (127, true)⟩,
   ⟨some 133, .call (.c (.fn 20 [] [])) [(.t 129), (.t 132)], some (127, true)⟩,
   ⟨some 134, .pick (.t 127) (.t 133) (.c (.p (.bool false))), none⟩,
   ⟨some 6, .move (.t 134), none⟩])
   .ret)
   .skip))
   (.seq
   (.draw [6] [(16, 18), (17, 18), (32, 35), (33, 35), (34, 35)] [
   ⟨some 135, .move (.t 7), none⟩,
   ⟨some 136, .move (.t 135), none⟩,
   ⟨some 137, .move (.t 21), some (136, true)⟩,
   ⟨some 138, .load (some 5) (.t 20), some (136, true)⟩,
   ⟨some 139, .call (.c (.fn 20 [] [])) [(.t 137), (.t 138)], some (136, true)⟩,
   ⟨some 140, .pick (.t 136) (.t 139) (.c (.p (.bool false))), none⟩,
   ⟨some 141, .move (.t 140), none⟩,
   ⟨some 142, .move (.t 9), some (141, true)⟩,
   ⟨some 143, .bin .add (.c (.p (.str [110, 111, 116, 32]))) (.t 142), some (141, true)⟩,
   ⟨some 144, .bin .add (.t 143) (.c (.p (.str [32]))), some (141, true)⟩,
   ⟨some 145, .move (.t 15), some (141, true)⟩,
   ⟨some 146, .bin .add (.t 144) (.t 145), some (141, true)⟩,
   ⟨some 147, .bin .add (.t 146) (.c (.p (.str [32]))), some (141, true)⟩,
   ⟨some 148, .move (.t 10), some (141, true)⟩,
   ⟨some 149, .bin .add (.t 147) (.t 148), some (141, true)⟩,
   ⟨some 150, .move (.t 17), some (141, true)⟩,
   ⟨some 151, .load (some 5) (.t 12), some (141, true)⟩,
   ⟨some 152, .call (.c (.fn 21 [] [])) [(.c (.p (.int .i64 40))), (.t 151)], some (141, true)⟩,
   ⟨some 153, .load (some 5) (.t 13), some (141, true)⟩,
   ⟨some 154, .call (.c (.fn 25 [] [])) [(.t 150), (.t 152), (.t 153)], some (141, true)⟩,
   ⟨some 155, .call (.c (.fn 20 [] [])) [(.t 149), (.t 154)], some (141, true)⟩,
   ⟨some 156, .pick (.t 141) (.t 155) (.c (.p (.bool false))), none⟩,
   ⟨some 157, .move (.t 156), none⟩,
   ⟨some 158, .move (.t 9), some (157, true)⟩,
   ⟨some 159, .bin .add (.c (.p (.str [97, 102, 116, 101, 114, 32, 97, 108, 119, 97, 121, 115, 32]))) (.t 158), some (157, true)⟩,
   ⟨some 160, .bin .add (.t 159) (.c (.p (.str [32]))), some (157, true)⟩,
   ⟨some 161, .move (.t 15), some (157, true)⟩,
   ⟨some 162, .bin .add (.t 160) (.t 161), some (157, true)⟩,
   ⟨some 163, .bin .add (.t 162) (.c (.p (.str [32]))), some (157, true)⟩,
   ⟨some 164, .move (.t 10), some (157, true)⟩,
   ⟨some 165, .bin .add (.t 163) (.t 164), some (157, true)⟩,
   ⟨some 166, .move (.t 17), some (157, true)⟩,
   ⟨some 167, .load (some 5) (.t 12), some (157, true)⟩,
   ⟨some 168, .call (.c (.fn 21 [] [])) [(.c (.p (.int .i64 48))), (.t 167)], some (157, true)⟩,
   ⟨some 169, .call (.c (.fn 21 [] [])) [(.c (.p (.int .i64 50))), (.t 168)], some (157, true)⟩,
   ⟨some 170, .load (some 5) (.t 13), some (157, true)⟩,
   ⟨some 171, .call (.c (.fn 25 [] [])) [(.t 166), (.t 169), (.t 170)], some (157, true)⟩,
   ⟨some 172, .call (.c (.fn 20 [] [])) [(.t 165), (.t 171)], some (157, true)⟩,
   ⟨some 173, .pick (.t 157) (.t 172) (.c (.p (.bool false))), none⟩,
   ⟨some 6, .move (.t 173), none⟩])
   .ret))))))))))))))

theorem ok5 : FOk Tryz.prog 5 fc5 := FOk.of Tryz.func5 (by kernel_rfl)

/-- armature/armaturelaw02.ParserIgnoresLayout -/
def fc6_b0 : SC :=
 (.loc
 (.seq
 (.seq
 (.region [0, 1, 5, 6, 9, 10, 11, 12, 13, 52] [
 ⟨some 44, .move (.t 13), none⟩,
 ⟨some 45, .move (.t 6), none⟩,
 ⟨some 46, .len 1 (.t 45), none⟩,
 ⟨some 47, .bin .lss (.t 44) (.t 46), none⟩,
 ⟨some 48, .move (.t 47), none⟩,
 ⟨some 49, .move (.t 10), some (48, true)⟩,
 ⟨some 50, .len 0 (.t 49), some (48, true)⟩,
 ⟨some 51, .bin .lss (.t 50) (.c (.p (.int .i64 16000))), some (48, true)⟩,
 ⟨some 52, .pick (.t 48) (.t 51) (.c (.p (.bool false))), none⟩])
 (.cond (.t 52)
 .skip
 (.exit 0)))
 (.seq
 (.block 1
 (.seq
 (.region [0, 1, 5, 6, 9, 10, 11, 12, 13, 14] [
 ⟨some 14, .move (.c (.p (.int .i64 0))), none⟩])
 (.seq
 (.seq
 (.region [0, 1, 5, 6, 9, 10, 11, 12, 13, 14, 58] [
 ⟨some 55, .move (.t 13), none⟩,
 ⟨some 56, .move (.t 1), none⟩,
 ⟨some 57, .len 1 (.t 56), none⟩,
 ⟨some 58, .bin .lss (.t 55) (.t 57), none⟩])
 (.cond (.t 58)
 (.region [0, 1, 5, 6, 9, 10, 11, 12, 13, 14] [
 ⟨some 59, .move (.t 1), none⟩,
 ⟨some 60, .move (.t 13), none⟩,
 ⟨some 61, .iaddr none 1 (.t 59) (.t 60), none⟩,
 ⟨some 62, .load none (.t 61), none⟩,
 ⟨some 63, .conv .i64 (.t 62), none⟩,
 ⟨some 64, .bin .rem (.t 63) (.c (.p (.int .i64 5))), none⟩,
 ⟨some 14, .move (.t 64), none⟩])
 .skip))
 (.seq
 (.region [0, 1, 5, 6, 9, 10, 11, 12, 13] [
 ⟨some 65, .move (.t 10), none⟩,
 ⟨some 66, .move (.t 9), none⟩,
 ⟨some 67, .move (.t 14), none⟩,
 ⟨some 68, .iaddr none 1 (.t 66) (.t 67), none⟩,
 ⟨some 69, .load none (.t 68), none⟩,
 ⟨some 70, .bin .add (.t 65) (.t 69), none⟩,
 ⟨some 10, .move (.t 70), none⟩])
 (.seq
 (.region [0, 1, 5, 6, 9, 10, 11, 12, 13] [
 ⟨some 71, .move (.t 12), none⟩,
 ⟨some 72, .move (.t 10), none⟩,
 ⟨some 73, .len 0 (.t 72), none⟩,
 ⟨some 74, .bslice 3 1 1 (.int .i64 0) [(0, (.t 73))], none⟩,
 ⟨some 75, .append 3 1 8 (.t 71) (.t 74), none⟩,
 ⟨some 12, .move (.t 75), none⟩])
 (.region [0, 1, 5, 6, 9, 10, 11, 12, 13] [
 ⟨some 76, .move (.t 10), none⟩,
 ⟨some 77, .move (.t 6), none⟩,
 ⟨some 78, .move (.t 13), none⟩,
 ⟨some 79, .iaddr none 3 (.t 77) (.t 78), none⟩,
 ⟨some 80, .faddr (.t 79) 1, none⟩,
 ⟨some 81, .load none (.t 80), none⟩,
 ⟨some 82, .bin .add (.t 76) (.t 81), none⟩,
 ⟨some 10, .move (.t 82), none⟩]))))))
 (.region [0, 1, 5, 6, 9, 10, 11, 12, 13] [
 ⟨some 53, .move (.t 13), none⟩,
 ⟨some 54, .bin .add (.t 53) (.c (.p (.int .i64 1))), none⟩,
 ⟨some 13, .move (.t 54), none⟩]))))

def fc6 : FC where
  nt := 139
  np := 2
  res := [.t 4]
  body :=
    (.seq
   (.region [0, 1] [
   ⟨some 4, .move (.c (.p (.bool false))), none⟩])
   (.seq
   (.region [0, 1, 5] [
   ⟨some 23, .call (.c (.fn 13 [] [])) [], none⟩,
   ⟨some 5, .move (.t 23), none⟩])
   (.seq
   (.region [0, 1, 5, 6, 7] [
   ⟨some 25, .move (.t 0), none⟩,
   ⟨some 26, .call (.c (.fn 26 [] [])) [(.t 25)], none⟩,
   ⟨some 24, .move (.t 26), none⟩,
   ⟨some 27, .extract (.t 24) 0, none⟩,
   ⟨some 28, .extract (.t 24) 1, none⟩,
   ⟨some 29, .extract (.t 24) 2, none⟩,
   ⟨some 6, .move (.t 27), none⟩,
   ⟨some 7, .move (.t 28), none⟩,
   ⟨some 8, .move (.t 29), none⟩])
   (.seq
   (.seq
   (.region [0, 1, 5, 6, 36] [
   ⟨some 30, .move (.t 0), none⟩,
   ⟨some 31, .len 0 (.t 30), none⟩,
   ⟨some 32, .bin .gtr (.t 31) (.c (.p (.int .i64 4000))), none⟩,
   ⟨some 33, .move (.t 32), none⟩,
   ⟨some 34, .move (.t 7), some (33, false)⟩,
   ⟨some 35, .bin .neq (.t 34) (.c (.p (.int .i64 0))), some (33, false)⟩,
   ⟨some 36, .pick (.t 33) (.c (.p (.bool true))) (.t 35), none⟩])
   (.cond (.t 36)
   (.seq
   (.region [4] [
   ⟨some 37, .move (.t 5), none⟩,
   ⟨some 4, .move (.t 37), none⟩])
   .ret)
   .skip))
   (.seq
   (.region [0, 1, 5, 6, 9] [
   ⟨some 38, .bslice 9 1 5 (.str []) [(0, (.c (.p (.str [32])))), (1, (.c (.p (.str [10])))), (2, (.c (.p (.str [9, 32])))), (3, (.c (.p (.str [32, 47, 47, 120, 10])))), (4, (.c (.p (.str [32, 32, 10, 10]))))], none⟩,
   ⟨some 9, .move (.t 38), none⟩])
   (.seq
   (.region [0, 1, 5, 6, 9, 10] [
   ⟨some 10, .move (.c (.p (.str []))), none⟩])
   (.seq
   (.region [0, 1, 5, 6, 9, 10, 11] [
   ⟨some 39, .move (.t 6), none⟩,
   ⟨some 40, .move (.t 0), none⟩,
   ⟨some 41, .len 0 (.t 40), none⟩,
   ⟨some 42, .call (.c (.fn 27 [] [])) [(.t 39), (.t 41)], none⟩,
   ⟨some 11, .move (.t 42), none⟩])
   (.seq
   (.region [0, 1, 5, 6, 9, 10, 11, 12] [
   ⟨some 43, .bslice 3 1 0 (.int .i64 0) [], none⟩,
   ⟨some 12, .move (.t 43), none⟩])
   (.seq
   (.seq
   (.region [0, 1, 5, 6, 9, 10, 11, 12, 13] [
   ⟨some 13, .move (.c (.p (.int .i64 0))), none⟩])
   (.block 0
   (.seq
   (.tok 12 3 1)
   (.loop [0, 1, 5, 6, 9, 10, 11, 12, 13]
   fc6_b0))))
   (.seq
   (.seq
   (.region [0, 5, 10, 11, 12, 87] [
   ⟨some 83, .move (.t 12), none⟩,
   ⟨some 84, .len 1 (.t 83), none⟩,
   ⟨some 85, .move (.t 6), none⟩,
   ⟨some 86, .len 1 (.t 85), none⟩,
   ⟨some 87, .bin .lss (.t 84) (.t 86), none⟩])
   (.cond (.t 87)
   (.seq
   (.region [4] [
   ⟨some 88, .move (.t 5), none⟩,
   ⟨some 4, .move (.t 88), none⟩])
   .ret)
   .skip))
   (.seq
   (.region [0, 5, 10, 11, 12] [
   ⟨some 89, .move (.t 12), none⟩,
   ⟨some 90, .move (.t 10), none⟩,
   ⟨some 91, .len 0 (.t 90), none⟩,
   ⟨some 92, .bslice 3 1 1 (.int .i64 0) [(0, (.t 91))], none⟩,
   ⟨some 93, .append 3 1 8 (.t 89) (.t 92), none⟩,
   ⟨some 12, .move (.t 93), none⟩])
   (.seq
   (.region [0, 5, 10, 11, 12, 15, 16] [
   ⟨some 95, .move (.t 0), none⟩,
   ⟨some 96, .call (.c (.fn 14 [] [])) [(.t 95)], none⟩,
   ⟨some 94, .move (.t 96), none⟩,
   ⟨some 97, .extract (.t 94) 0, none⟩,
   ⟨some 98, .extract (.t 94) 1, none⟩,
   ⟨some 15, .alloc [.nils, .nils, .nils, .nils], none⟩,
   ⟨none, .store 4 (.t 15) (.t 97), none⟩,
   ⟨some 16, .move (.t 98), none⟩])
   (.seq
   (.region [0, 5, 10, 11, 12, 15, 16, 17, 18] [
   ⟨some 100, .move (.t 10), none⟩,
   ⟨some 101, .call (.c (.fn 14 [] [])) [(.t 100)], none⟩,
   ⟨some 99, .move (.t 101), none⟩,
   ⟨some 102, .extract (.t 99) 0, none⟩,
   ⟨some 103, .extract (.t 99) 1, none⟩,
   ⟨some 17, .alloc [.nils, .nils, .nils, .nils], none⟩,
   ⟨none, .store 4 (.t 17) (.t 102), none⟩,
   ⟨some 18, .move (.t 103), none⟩])
   (.seq
   (.region [5, 10, 11, 12, 15, 16, 17, 18, 19, 20] [
   ⟨some 105, .move (.t 0), none⟩,
   ⟨some 106, .call (.c (.fn 17 [] [])) [(.t 105)], none⟩,
   ⟨some 104, .move (.t 106), none⟩,
   ⟨some 107, .extract (.t 104) 0, none⟩,
   ⟨some 108, .extract (.t 104) 1, none⟩,
   ⟨some 19, .alloc [.int .i64 0, .str [], .int .i64 0, .nils, .int .i64 0], none⟩,
   ⟨none, .store 5 (.t 19) (.t 107), none⟩,
   ⟨some 20, .move (.t 108), none⟩])
   (.seq
   (.region [5, 11, 12, 15, 16, 17, 18, 19, 20, 21, 22] [
   ⟨some 110, .move (.t 10), none⟩,
   ⟨some 111, .call (.c (.fn 17 [] [])) [(.t 110)], none⟩,
   ⟨some 109, .move (.t 111), none⟩,
   ⟨some 112, .extract (.t 109) 0, none⟩,
   ⟨some 113, .extract (.t 109) 1, none⟩,
   ⟨some 21, .alloc [.int .i64 0, .str [], .int .i64 0, .nils, .int .i64 0], none⟩,
   ⟨none, .store 5 (.t 21) (.t 112), none⟩,
   ⟨some 22, .move (.t 113), none⟩])
   (.seq
   (.region [4] [
   ⟨some 114, .move (.t 5), none⟩,
   ⟨some 115, .move (.t 114), none⟩,
   ⟨some 116, .load (some 4) (.t 15), some (115, true)⟩,
   ⟨some 117, .load (some 4) (.t 17), some (115, true)⟩,
   ⟨some 118, .call (.c (.fn 28 [] [])) [(.t 116), (.t 117), (.c (.p (.bool false)))], some (115, true)⟩,
   ⟨some 119, .pick (.t 115) (.t 118) (.c (.p (.bool false))), none⟩,
   ⟨some 120, .move (.t 119), none⟩,
   ⟨some 121, .load (some 5) (.t 19), some (120, true)⟩,
   ⟨some 122, .load (some 5) (.t 21), some (120, true)⟩,
   ⟨some 123, .call (.c (.fn 29 [] [])) [(.t 121), (.t 122), (.c (.p (.bool false)))], some (120, true)⟩,
   ⟨some 124, .pick (.t 120) (.t 123) (.c (.p (.bool false))), none⟩,
   ⟨some 125, .move (.t 124), none⟩,
   ⟨some 126, .move (.t 16), some (125, true)⟩,
   ⟨some 127, .move (.t 18), some (125, true)⟩,
   ⟨some 128, .move (.t 11), some (125, true)⟩,
   ⟨some 129, .move (.t 12), some (125, true)⟩,
   ⟨some 130, .call (.c (.fn 30 [] [])) [(.t 126), (.t 127), (.t 128), (.t 129)], some (125, true)⟩,
   ⟨some 131, .pick (.t 125) (.t 130) (.c (.p (.bool false))), none⟩,
   ⟨some 132, .move (.t 131), none⟩,
   ⟨some 133, .move (.t 20), some (132, true)⟩,
   ⟨some 134, .move (.t 22), some (132, true)⟩,
   ⟨some 135, .move (.t 11), some (132, true)⟩,
   ⟨some 136, .move (.t 12), some (132, true)⟩,
   ⟨some 137, .call (.c (.fn 30 [] [])) [(.t 133), (.t 134), (.t 135), (.t 136)], some (132, true)⟩,
   ⟨some 138, .pick (.t 132) (.t 137) (.c (.p (.bool false))), none⟩,
   ⟨some 4, .move (.t 138), none⟩])
   .ret))))))))))))))))

theorem ok6 : FOk Tryz.prog 6 fc6 := FOk.of Tryz.func6 (by kernel_rfl)

/-- armature/armaturelaw02.ParserConcatenation -/
def fc7_b0 : SC :=
 (.loc
 (.seq
 (.seq
 (.region [5, 6, 8, 10, 11, 12, 13, 14, 15, 16, 147] [
 ⟨some 139, .move (.t 16), none⟩,
 ⟨some 140, .faddr (.t 8) 1, none⟩,
 ⟨some 141, .load none (.t 140), none⟩,
 ⟨some 142, .move (.t 14), none⟩,
 ⟨some 143, .iaddr none 3 (.t 141) (.t 142), none⟩,
 ⟨some 144, .faddr (.t 143) 1, none⟩,
 ⟨some 145, .load none (.t 144), none⟩,
 ⟨some 146, .len 1 (.t 145), none⟩,
 ⟨some 147, .bin .lss (.t 139) (.t 146), none⟩])
 (.cond (.t 147)
 .skip
 (.exit 2)))
 (.seq
 (.block 3
 (.draw [5, 6, 8, 10, 11, 12, 13, 14, 15, 16] [(1, 3), (1, 7), (1, 10)] [
 ⟨some 150, .faddr (.t 15) 1, none⟩,
 ⟨some 151, .load none (.t 150), none⟩,
 ⟨some 152, .faddr (.t 8) 1, none⟩,
 ⟨some 153, .load none (.t 152), none⟩,
 ⟨some 154, .move (.t 14), none⟩,
 ⟨some 155, .iaddr none 3 (.t 153) (.t 154), none⟩,
 ⟨some 156, .faddr (.t 155) 1, none⟩,
 ⟨some 157, .load none (.t 156), none⟩,
 ⟨some 158, .move (.t 16), none⟩,
 ⟨some 159, .iaddr none 1 (.t 157) (.t 158), none⟩,
 ⟨some 160, .load none (.t 159), none⟩,
 ⟨some 161, .move (.t 12), none⟩,
 ⟨some 162, .bin .add (.t 160) (.t 161), none⟩,
 ⟨some 163, .bslice 3 1 1 (.int .i64 0) [(0, (.t 162))], none⟩,
 ⟨some 164, .append 3 1 8 (.t 151) (.t 163), none⟩,
 ⟨some 165, .faddr (.t 15) 1, none⟩,
 ⟨none, .store 1 (.t 165) (.t 164), none⟩]))
 (.region [5, 6, 8, 10, 11, 12, 13, 14, 15, 16] [
 ⟨some 148, .move (.t 16), none⟩,
 ⟨some 149, .bin .add (.t 148) (.c (.p (.int .i64 1))), none⟩,
 ⟨some 16, .move (.t 149), none⟩]))))

def fc7_b1 : SC :=
 (.loc
 (.seq
 (.seq
 (.region [5, 6, 8, 10, 11, 12, 13, 14, 130] [
 ⟨some 126, .move (.t 14), none⟩,
 ⟨some 127, .faddr (.t 8) 1, none⟩,
 ⟨some 128, .load none (.t 127), none⟩,
 ⟨some 129, .len 1 (.t 128), none⟩,
 ⟨some 130, .bin .lss (.t 126) (.t 129), none⟩])
 (.cond (.t 130)
 .skip
 (.exit 0)))
 (.seq
 (.block 1
 (.seq
 (.region [5, 6, 8, 10, 11, 12, 13, 14, 15] [
 ⟨some 133, .faddr (.t 8) 1, none⟩,
 ⟨some 134, .load none (.t 133), none⟩,
 ⟨some 135, .move (.t 14), none⟩,
 ⟨some 136, .iaddr none 3 (.t 134) (.t 135), none⟩,
 ⟨some 137, .load (some 3) (.t 136), none⟩,
 ⟨some 15, .alloc [.str [], .nils, .bool false], none⟩,
 ⟨none, .store 3 (.t 15) (.t 137), none⟩])
 (.seq
 (.region [5, 6, 8, 10, 11, 12, 13, 14, 15] [
 ⟨some 138, .faddr (.t 15) 1, none⟩,
 ⟨none, .store 1 (.t 138) (.c (.p (.nils))), none⟩])
 (.seq
 (.seq
 (.region [5, 6, 8, 10, 11, 12, 13, 14, 15, 16] [
 ⟨some 16, .move (.c (.p (.int .i64 0))), none⟩])
 (.block 2
 (.loop [5, 6, 8, 10, 11, 12, 13, 14, 15, 16]
 fc7_b0)))
 (.region [5, 6, 8, 10, 11, 12, 13, 14] [
 ⟨some 166, .faddr (.t 13) 1, none⟩,
 ⟨some 167, .load none (.t 166), none⟩,
 ⟨some 168, .load (some 3) (.t 15), none⟩,
 ⟨some 169, .bslice 70 3 1 (.agg [.str [], .nils, .bool false]) [(0, (.t 168))], none⟩,
 ⟨some 170, .append 70 3 48 (.t 167) (.t 169), none⟩,
 ⟨some 171, .faddr (.t 13) 1, none⟩,
 ⟨none, .store 1 (.t 171) (.t 170), none⟩])))))
 (.region [5, 6, 8, 10, 11, 12, 13, 14] [
 ⟨some 131, .move (.t 14), none⟩,
 ⟨some 132, .bin .add (.t 131) (.c (.p (.int .i64 1))), none⟩,
 ⟨some 14, .move (.t 132), none⟩]))))

def fc7_b2 : SC :=
 (.loc
 (.seq
 (.seq
 (.region [5, 6, 8, 10, 11, 12, 13, 17, 18, 19, 199] [
 ⟨some 191, .move (.t 19), none⟩,
 ⟨some 192, .faddr (.t 8) 2, none⟩,
 ⟨some 193, .load none (.t 192), none⟩,
 ⟨some 194, .move (.t 17), none⟩,
 ⟨some 195, .iaddr none 7 (.t 193) (.t 194), none⟩,
 ⟨some 196, .faddr (.t 195) 1, none⟩,
 ⟨some 197, .load none (.t 196), none⟩,
 ⟨some 198, .len 1 (.t 197), none⟩,
 ⟨some 199, .bin .lss (.t 191) (.t 198), none⟩])
 (.cond (.t 199)
 .skip
 (.exit 6)))
 (.seq
 (.block 7
 (.seq
 (.region [5, 6, 8, 10, 11, 12, 13, 17, 18, 19, 20] [
 ⟨some 202, .faddr (.t 8) 2, none⟩,
 ⟨some 203, .load none (.t 202), none⟩,
 ⟨some 204, .move (.t 17), none⟩,
 ⟨some 205, .iaddr none 7 (.t 203) (.t 204), none⟩,
 ⟨some 206, .faddr (.t 205) 1, none⟩,
 ⟨some 207, .load none (.t 206), none⟩,
 ⟨some 208, .move (.t 19), none⟩,
 ⟨some 209, .iaddr none 2 (.t 207) (.t 208), none⟩,
 ⟨some 210, .load (some 2) (.t 209), none⟩,
 ⟨some 20, .alloc [.str [], .int .i64 0], none⟩,
 ⟨none, .store 2 (.t 20) (.t 210), none⟩])
 (.seq
 (.region [5, 6, 8, 10, 11, 12, 13, 17, 18, 19, 20] [
 ⟨some 211, .faddr (.t 20) 1, none⟩,
 ⟨some 212, .load none (.t 211), none⟩,
 ⟨some 213, .move (.t 12), none⟩,
 ⟨some 214, .bin .add (.t 212) (.t 213), none⟩,
 ⟨some 215, .faddr (.t 20) 1, none⟩,
 ⟨none, .store 1 (.t 215) (.t 214), none⟩])
 (.region [5, 6, 8, 10, 11, 12, 13, 17, 18, 19] [
 ⟨some 216, .faddr (.t 18) 1, none⟩,
 ⟨some 217, .load none (.t 216), none⟩,
 ⟨some 218, .load (some 2) (.t 20), none⟩,
 ⟨some 219, .bslice 72 2 1 (.agg [.str [], .int .i64 0]) [(0, (.t 218))], none⟩,
 ⟨some 220, .append 72 2 24 (.t 217) (.t 219), none⟩,
 ⟨some 221, .faddr (.t 18) 1, none⟩,
 ⟨none, .store 1 (.t 221) (.t 220), none⟩]))))
 (.region [5, 6, 8, 10, 11, 12, 13, 17, 18, 19] [
 ⟨some 200, .move (.t 19), none⟩,
 ⟨some 201, .bin .add (.t 200) (.c (.p (.int .i64 1))), none⟩,
 ⟨some 19, .move (.t 201), none⟩]))))

def fc7_b3 : SC :=
 (.loc
 (.seq
 (.seq
 (.region [5, 6, 8, 10, 11, 12, 13, 17, 182] [
 ⟨some 178, .move (.t 17), none⟩,
 ⟨some 179, .faddr (.t 8) 2, none⟩,
 ⟨some 180, .load none (.t 179), none⟩,
 ⟨some 181, .len 1 (.t 180), none⟩,
 ⟨some 182, .bin .lss (.t 178) (.t 181), none⟩])
 (.cond (.t 182)
 .skip
 (.exit 4)))
 (.seq
 (.block 5
 (.seq
 (.region [5, 6, 8, 10, 11, 12, 13, 17, 18] [
 ⟨some 185, .faddr (.t 8) 2, none⟩,
 ⟨some 186, .load none (.t 185), none⟩,
 ⟨some 187, .move (.t 17), none⟩,
 ⟨some 188, .iaddr none 7 (.t 186) (.t 187), none⟩,
 ⟨some 189, .load (some 7) (.t 188), none⟩,
 ⟨some 18, .alloc [.str [], .nils, .int .i64 0, .str [], .int .i64 0, .nils, .int .i64 0], none⟩,
 ⟨none, .store 7 (.t 18) (.t 189), none⟩])
 (.seq
 (.region [5, 6, 8, 10, 11, 12, 13, 17, 18] [
 ⟨some 190, .faddr (.t 18) 1, none⟩,
 ⟨none, .store 1 (.t 190) (.c (.p (.nils))), none⟩])
 (.seq
 (.seq
 (.region [5, 6, 8, 10, 11, 12, 13, 17, 18, 19] [
 ⟨some 19, .move (.c (.p (.int .i64 0))), none⟩])
 (.block 6
 (.loop [5, 6, 8, 10, 11, 12, 13, 17, 18, 19]
 fc7_b2)))
 (.region [5, 6, 8, 10, 11, 12, 13, 17] [
 ⟨some 222, .faddr (.t 13) 2, none⟩,
 ⟨some 223, .load none (.t 222), none⟩,
 ⟨some 224, .load (some 7) (.t 18), none⟩,
 ⟨some 225, .bslice 41 7 1 (.agg [.str [], .nils, .int .i64 0, .str [], .int .i64 0, .nils, .int .i64 0]) [(0, (.t 224))], none⟩,
 ⟨some 226, .append 41 7 104 (.t 223) (.t 225), none⟩,
 ⟨some 227, .faddr (.t 13) 2, none⟩,
 ⟨none, .store 1 (.t 227) (.t 226), none⟩])))))
 (.region [5, 6, 8, 10, 11, 12, 13, 17] [
 ⟨some 183, .move (.t 17), none⟩,
 ⟨some 184, .bin .add (.t 183) (.c (.p (.int .i64 1))), none⟩,
 ⟨some 17, .move (.t 184), none⟩]))))

def fc7 : FC where
  nt := 248
  np := 2
  res := [.t 4]
  body :=
    (.seq
   (.region [0, 1] [
   ⟨some 4, .move (.c (.p (.bool false))), none⟩])
   (.seq
   (.region [0, 1, 5] [
   ⟨some 21, .call (.c (.fn 13 [] [])) [], none⟩,
   ⟨some 5, .move (.t 21), none⟩])
   (.seq
   (.seq
   (.region [0, 1, 5, 29] [
   ⟨some 22, .move (.t 0), none⟩,
   ⟨some 23, .len 0 (.t 22), none⟩,
   ⟨some 24, .bin .gtr (.t 23) (.c (.p (.int .i64 4000))), none⟩,
   ⟨some 25, .move (.t 24), none⟩,
   ⟨some 26, .move (.t 1), some (25, false)⟩,
   ⟨some 27, .len 0 (.t 26), some (25, false)⟩,
   ⟨some 28, .bin .gtr (.t 27) (.c (.p (.int .i64 4000))), some (25, false)⟩,
   ⟨some 29, .pick (.t 25) (.c (.p (.bool true))) (.t 28), none⟩])
   (.cond (.t 29)
   (.seq
   (.region [4] [
   ⟨some 30, .move (.t 5), none⟩,
   ⟨some 4, .move (.t 30), none⟩])
   .ret)
   .skip))
   (.seq
   (.region [0, 1, 5, 6, 7] [
   ⟨some 32, .move (.t 0), none⟩,
   ⟨some 33, .call (.c (.fn 14 [] [])) [(.t 32)], none⟩,
   ⟨some 31, .move (.t 33), none⟩,
   ⟨some 34, .extract (.t 31) 0, none⟩,
   ⟨some 35, .extract (.t 31) 1, none⟩,
   ⟨some 6, .alloc [.nils, .nils, .nils, .nils], none⟩,
   ⟨none, .store 4 (.t 6) (.t 34), none⟩,
   ⟨some 7, .move (.t 35), none⟩])
   (.seq
   (.region [0, 1, 5, 6, 7, 8, 9] [
   ⟨some 37, .move (.t 1), none⟩,
   ⟨some 38, .call (.c (.fn 14 [] [])) [(.t 37)], none⟩,
   ⟨some 36, .move (.t 38), none⟩,
   ⟨some 39, .extract (.t 36) 0, none⟩,
   ⟨some 40, .extract (.t 36) 1, none⟩,
   ⟨some 8, .alloc [.nils, .nils, .nils, .nils], none⟩,
   ⟨none, .store 4 (.t 8) (.t 39), none⟩,
   ⟨some 9, .move (.t 40), none⟩])
   (.seq
   (.seq
   (.region [0, 1, 5, 6, 8, 48] [
   ⟨some 41, .move (.t 7), none⟩,
   ⟨some 42, .len 1 (.t 41), none⟩,
   ⟨some 43, .bin .gtr (.t 42) (.c (.p (.int .i64 0))), none⟩,
   ⟨some 44, .move (.t 43), none⟩,
   ⟨some 45, .move (.t 9), some (44, false)⟩,
   ⟨some 46, .len 1 (.t 45), some (44, false)⟩,
   ⟨some 47, .bin .gtr (.t 46) (.c (.p (.int .i64 0))), some (44, false)⟩,
   ⟨some 48, .pick (.t 44) (.c (.p (.bool true))) (.t 47), none⟩])
   (.cond (.t 48)
   (.seq
   (.region [4] [
   ⟨some 49, .move (.t 5), none⟩,
   ⟨some 4, .move (.t 49), none⟩])
   .ret)
   .skip))
   (.seq
   (.region [5, 6, 8, 10, 11] [
   ⟨some 51, .move (.t 0), none⟩,
   ⟨some 52, .bin .add (.t 51) (.c (.p (.str [10]))), none⟩,
   ⟨some 53, .move (.t 1), none⟩,
   ⟨some 54, .bin .add (.t 52) (.t 53), none⟩,
   ⟨some 55, .call (.c (.fn 14 [] [])) [(.t 54)], none⟩,
   ⟨some 50, .move (.t 55), none⟩,
   ⟨some 56, .extract (.t 50) 0, none⟩,
   ⟨some 57, .extract (.t 50) 1, none⟩,
   ⟨some 10, .alloc [.nils, .nils, .nils, .nils], none⟩,
   ⟨none, .store 4 (.t 10) (.t 56), none⟩,
   ⟨some 11, .move (.t 57), none⟩])
   (.seq
   (.region [5, 6, 8, 10, 11, 12] [
   ⟨some 58, .faddr (.t 6) 0, none⟩,
   ⟨some 59, .load none (.t 58), none⟩,
   ⟨some 60, .len 1 (.t 59), none⟩,
   ⟨some 12, .move (.t 60), none⟩])
   (.seq
   (.seq
   (.region [5, 6, 8, 10, 11, 12, 96] [
   ⟨some 61, .move (.t 12), none⟩,
   ⟨some 62, .faddr (.t 8) 0, none⟩,
   ⟨some 63, .load none (.t 62), none⟩,
   ⟨some 64, .len 1 (.t 63), none⟩,
   ⟨some 65, .bin .add (.t 61) (.t 64), none⟩,
   ⟨some 66, .bin .gtr (.t 65) (.c (.p (.int .i64 4))), none⟩,
   ⟨some 67, .move (.t 66), none⟩,
   ⟨some 68, .faddr (.t 6) 1, some (67, false)⟩,
   ⟨some 69, .load none (.t 68), some (67, false)⟩,
   ⟨some 70, .len 1 (.t 69), some (67, false)⟩,
   ⟨some 71, .faddr (.t 8) 1, some (67, false)⟩,
   ⟨some 72, .load none (.t 71), some (67, false)⟩,
   ⟨some 73, .len 1 (.t 72), some (67, false)⟩,
   ⟨some 74, .bin .add (.t 70) (.t 73), some (67, false)⟩,
   ⟨some 75, .bin .gtr (.t 74) (.c (.p (.int .i64 6))), some (67, false)⟩,
   ⟨some 76, .pick (.t 67) (.c (.p (.bool true))) (.t 75), none⟩,
   ⟨some 77, .move (.t 76), none⟩,
   ⟨some 78, .faddr (.t 6) 2, some (77, false)⟩,
   ⟨some 79, .load none (.t 78), some (77, false)⟩,
   ⟨some 80, .len 1 (.t 79), some (77, false)⟩,
   ⟨some 81, .faddr (.t 8) 2, some (77, false)⟩,
   ⟨some 82, .load none (.t 81), some (77, false)⟩,
   ⟨some 83, .len 1 (.t 82), some (77, false)⟩,
   ⟨some 84, .bin .add (.t 80) (.t 83), some (77, false)⟩,
   ⟨some 85, .bin .gtr (.t 84) (.c (.p (.int .i64 8))), some (77, false)⟩,
   ⟨some 86, .pick (.t 77) (.c (.p (.bool true))) (.t 85), none⟩,
   ⟨some 87, .move (.t 86), none⟩,
   ⟨some 88, .faddr (.t 6) 3, some (87, false)⟩,
   ⟨some 89, .load none (.t 88), some (87, false)⟩,
   ⟨some 90, .len 1 (.t 89), some (87, false)⟩,
   ⟨some 91, .faddr (.t 8) 3, some (87, false)⟩,
   ⟨some 92, .load none (.t 91), some (87, false)⟩,
   ⟨some 93, .len 1 (.t 92), some (87, false)⟩,
   ⟨some 94, .bin .add (.t 90) (.t 93), some (87, false)⟩,
   ⟨some 95, .bin .gtr (.t 94) (.c (.p (.int .i64 16))), some (87, false)⟩,
   ⟨some 96, .pick (.t 87) (.c (.p (.bool true))) (.t 95), none⟩])
   (.cond (.t 96)
   (.seq
   (.region [4] [
   ⟨some 97, .move (.t 5), none⟩,
   ⟨some 98, .move (.t 97), none⟩,
   ⟨some 99, .move (.t 11), some (98, true)⟩,
   ⟨some 100, .len 1 (.t 99), some (98, true)⟩,
   ⟨some 101, .bin .gtr (.t 100) (.c (.p (.int .i64 0))), some (98, true)⟩,
   ⟨some 102, .pick (.t 98) (.t 101) (.c (.p (.bool false))), none⟩,
   ⟨some 103, .move (.t 102), none⟩,
   ⟨some 104, .move (.t 11), some (103, true)⟩,
   ⟨some 105, .iaddr none 2 (.t 104) (.c (.p (.int .i64 0))), some (103, true)⟩,
   ⟨some 106, .faddr (.t 105) 0, some (103, true)⟩,
   ⟨some 107, .load none (.t 106), some (103, true)⟩,
   ⟨some 108, .bin .eql (.t 107) (.c (.p (.int .i64 2))), some (103, true)⟩,
   ⟨some 109, .pick (.t 103) (.t 108) (.c (.p (.bool false))), none⟩,
   ⟨some 4, .move (.t 109), none⟩])
   .ret)
   .skip))
   (.seq
   (.region [5, 6, 8, 10, 11, 12, 13] [
   ⟨some 110, .build [.nils, .nils, .nils, .nils] [], none⟩,
   ⟨some 13, .alloc [.nils, .nils, .nils, .nils], none⟩,
   ⟨none, .store 4 (.t 13) (.t 110), none⟩])
   (.seq
   (.draw [5, 6, 8, 10, 11, 12, 13] [(1, 3), (1, 6), (3, 6), (4, 6)] [
   ⟨some 111, .faddr (.t 13) 0, none⟩,
   ⟨some 112, .load none (.t 111), none⟩,
   ⟨some 113, .faddr (.t 6) 0, none⟩,
   ⟨some 114, .load none (.t 113), none⟩,
   ⟨some 115, .append 81 2 24 (.t 112) (.t 114), none⟩,
   ⟨some 116, .faddr (.t 8) 0, none⟩,
   ⟨some 117, .load none (.t 116), none⟩,
   ⟨some 118, .append 81 2 24 (.t 115) (.t 117), none⟩,
   ⟨some 119, .faddr (.t 13) 0, none⟩,
   ⟨none, .store 1 (.t 119) (.t 118), none⟩])
   (.seq
   (.region [5, 6, 8, 10, 11, 12, 13] [
   ⟨some 120, .faddr (.t 13) 1, none⟩,
   ⟨some 121, .load none (.t 120), none⟩,
   ⟨some 122, .faddr (.t 6) 1, none⟩,
   ⟨some 123, .load none (.t 122), none⟩,
   ⟨some 124, .append 70 3 48 (.t 121) (.t 123), none⟩,
   ⟨some 125, .faddr (.t 13) 1, none⟩,
   ⟨none, .store 1 (.t 125) (.t 124), none⟩])
   (.seq
   (.seq
   (.region [5, 6, 8, 10, 11, 12, 13, 14] [
   ⟨some 14, .move (.c (.p (.int .i64 0))), none⟩])
   (.block 0
   (.loop [5, 6, 8, 10, 11, 12, 13, 14]
   fc7_b1)))
   (.seq
   (.region [5, 6, 8, 10, 11, 12, 13] [
   ⟨some 172, .faddr (.t 13) 2, none⟩,
   ⟨some 173, .load none (.t 172), none⟩,
   ⟨some 174, .faddr (.t 6) 2, none⟩,
   ⟨some 175, .load none (.t 174), none⟩,
   ⟨some 176, .append 41 7 104 (.t 173) (.t 175), none⟩,
   ⟨some 177, .faddr (.t 13) 2, none⟩,
   ⟨none, .store 1 (.t 177) (.t 176), none⟩])
   (.seq
   (.seq
   (.region [5, 6, 8, 10, 11, 12, 13, 17] [
   ⟨some 17, .move (.c (.p (.int .i64 0))), none⟩])
   (.block 4
   (.loop [5, 6, 8, 10, 11, 12, 13, 17]
   fc7_b3)))
   (.seq
   (.draw [5, 10, 11, 13] [(1, 3), (1, 6), (3, 6), (4, 6)] [
   ⟨some 228, .faddr (.t 13) 3, none⟩,
   ⟨some 229, .load none (.t 228), none⟩,
   ⟨some 230, .faddr (.t 6) 3, none⟩,
   ⟨some 231, .load none (.t 230), none⟩,
   ⟨some 232, .append 44 6 80 (.t 229) (.t 231), none⟩,
   ⟨some 233, .faddr (.t 8) 3, none⟩,
   ⟨some 234, .load none (.t 233), none⟩,
   ⟨some 235, .append 44 6 80 (.t 232) (.t 234), none⟩,
   ⟨some 236, .faddr (.t 13) 3, none⟩,
   ⟨none, .store 1 (.t 236) (.t 235), none⟩])
   (.seq
   (.region [4] [
   ⟨some 237, .move (.t 5), none⟩,
   ⟨some 238, .move (.t 237), none⟩,
   ⟨some 239, .move (.t 11), some (238, true)⟩,
   ⟨some 240, .len 1 (.t 239), some (238, true)⟩,
   ⟨some 241, .bin .eql (.t 240) (.c (.p (.int .i64 0))), some (238, true)⟩,
   ⟨some 242, .pick (.t 238) (.t 241) (.c (.p (.bool false))), none⟩,
   ⟨some 243, .move (.t 242), none⟩,
   ⟨some 244, .load (some 4) (.t 10), some (243, true)⟩,
   ⟨some 245, .load (some 4) (.t 13), some (243, true)⟩,
   ⟨some 246, .call (.c (.fn 28 [] [])) [(.t 244), (.t 245), (.c (.p (.bool false)))], some (243, true)⟩,
   ⟨some 247, .pick (.t 243) (.t 246) (.c (.p (.bool false))), none⟩,
   ⟨some 4, .move (.t 247), none⟩])
   .ret)))))))))))))))))

theorem ok7 : FOk Tryz.prog 7 fc7 := FOk.of Tryz.func7 (by kernel_rfl)

/-- armature/armaturelaw02.ParserRecovers -/
def fc8 : FC where
  nt := 142
  np := 3
  res := [.t 6]
  body :=
    (.seq
   (.region [0, 1, 2] [
   ⟨some 6, .move (.c (.p (.bool false))), none⟩])
   (.seq
   (.region [0, 1, 2, 7] [
   ⟨some 19, .call (.c (.fn 13 [] [])) [], none⟩,
   ⟨some 7, .move (.t 19), none⟩])
   (.seq
   (.region [0, 1, 2, 7, 8, 9] [
   ⟨some 21, .move (.t 0), none⟩,
   ⟨some 22, .call (.c (.fn 26 [] [])) [(.t 21)], none⟩,
   ⟨some 20, .move (.t 22), none⟩,
   ⟨some 23, .extract (.t 20) 0, none⟩,
   ⟨some 24, .extract (.t 20) 1, none⟩,
   ⟨some 25, .extract (.t 20) 2, none⟩,
   ⟨some 8, .move (.t 23), none⟩,
   ⟨some 9, .move (.t 24), none⟩,
   ⟨some 10, .move (.t 25), none⟩])
   (.seq
   (.region [0, 1, 2, 7, 8, 9, 11, 12] [
   ⟨some 27, .move (.t 0), none⟩,
   ⟨some 28, .call (.c (.fn 14 [] [])) [(.t 27)], none⟩,
   ⟨some 26, .move (.t 28), none⟩,
   ⟨some 29, .extract (.t 26) 0, none⟩,
   ⟨some 30, .extract (.t 26) 1, none⟩,
   ⟨some 11, .alloc [.nils, .nils, .nils, .nils], none⟩,
   ⟨none, .store 4 (.t 11) (.t 29), none⟩,
   ⟨some 12, .move (.t 30), none⟩])
   (.seq
   (.seq
   (.region [0, 1, 2, 7, 8, 66] [
   ⟨some 31, .move (.t 0), none⟩,
   ⟨some 32, .len 0 (.t 31), none⟩,
   ⟨some 33, .bin .gtr (.t 32) (.c (.p (.int .i64 4000))), none⟩,
   ⟨some 34, .move (.t 33), none⟩,
   ⟨some 35, .move (.t 9), some (34, false)⟩,
   ⟨some 36, .bin .neq (.t 35) (.c (.p (.int .i64 0))), some (34, false)⟩,
   ⟨some 37, .pick (.t 34) (.c (.p (.bool true))) (.t 36), none⟩,
   ⟨some 38, .move (.t 37), none⟩,
   ⟨some 39, .move (.t 12), some (38, false)⟩,
   ⟨some 40, .len 1 (.t 39), some (38, false)⟩,
   ⟨some 41, .bin .gtr (.t 40) (.c (.p (.int .i64 0))), some (38, false)⟩,
   ⟨some 42, .pick (.t 38) (.c (.p (.bool true))) (.t 41), none⟩,
   ⟨some 43, .move (.t 42), none⟩,
   ⟨some 44, .faddr (.t 11) 0, some (43, false)⟩,
   ⟨some 45, .load none (.t 44), some (43, false)⟩,
   ⟨some 46, .len 1 (.t 45), some (43, false)⟩,
   ⟨some 47, .bin .geq (.t 46) (.c (.p (.int .i64 4))), some (43, false)⟩,
   ⟨some 48, .pick (.t 43) (.c (.p (.bool true))) (.t 47), none⟩,
   ⟨some 49, .move (.t 48), none⟩,
   ⟨some 50, .faddr (.t 11) 1, some (49, false)⟩,
   ⟨some 51, .load none (.t 50), some (49, false)⟩,
   ⟨some 52, .len 1 (.t 51), some (49, false)⟩,
   ⟨some 53, .bin .geq (.t 52) (.c (.p (.int .i64 6))), some (49, false)⟩,
   ⟨some 54, .pick (.t 49) (.c (.p (.bool true))) (.t 53), none⟩,
   ⟨some 55, .move (.t 54), none⟩,
   ⟨some 56, .faddr (.t 11) 2, some (55, false)⟩,
   ⟨some 57, .load none (.t 56), some (55, false)⟩,
   ⟨some 58, .len 1 (.t 57), some (55, false)⟩,
   ⟨some 59, .bin .geq (.t 58) (.c (.p (.int .i64 8))), some (55, false)⟩,
   ⟨some 60, .pick (.t 55) (.c (.p (.bool true))) (.t 59), none⟩,
   ⟨some 61, .move (.t 60), none⟩,
   ⟨some 62, .faddr (.t 11) 3, some (61, false)⟩,
   ⟨some 63, .load none (.t 62), some (61, false)⟩,
   ⟨some 64, .len 1 (.t 63), some (61, false)⟩,
   ⟨some 65, .bin .geq (.t 64) (.c (.p (.int .i64 16))), some (61, false)⟩,
   ⟨some 66, .pick (.t 61) (.c (.p (.bool true))) (.t 65), none⟩])
   (.cond (.t 66)
   (.seq
   (.region [6] [
   ⟨some 67, .move (.t 7), none⟩,
   ⟨some 6, .move (.t 67), none⟩])
   .ret)
   .skip))
   (.seq
   (.region [0, 1, 2, 7, 8, 13] [
   ⟨some 68, .bslice 9 1 8 (.str []) [(0, (.c (.p (.str [115, 111, 114, 116, 32, 59])))), (1, (.c (.p (.str [115, 111, 114, 116, 32, 97, 32, 98, 59])))), (2, (.c (.p (.str [102, 105, 101, 108, 100, 32, 102, 32, 58, 32, 59])))), (3, (.c (.p (.str [102, 97, 99, 116, 32, 120, 32, 123, 32, 110, 111, 32, 125])))), (4, (.c (.p (.str [112, 114, 101, 100, 32, 112, 91, 120, 93, 32, 123, 32, 125])))), (5, (.c (.p (.str [43, 32, 59])))), (6, (.c (.p (.str [102, 97, 99, 116, 32, 123, 32, 116, 114, 117, 101, 32, 125])))), (7, (.c (.p (.str [102, 97, 99, 116, 32, 121, 32, 123, 32, 116, 114, 117, 101, 32, 116, 114, 117, 101, 32, 125]))))], none⟩,
   ⟨some 13, .move (.t 68), none⟩])
   (.seq
   (.region [0, 1, 7, 8, 14] [
   ⟨some 69, .move (.t 13), none⟩,
   ⟨some 70, .move (.t 2), none⟩,
   ⟨some 71, .conv .i64 (.t 70), none⟩,
   ⟨some 72, .move (.t 13), none⟩,
   ⟨some 73, .len 1 (.t 72), none⟩,
   ⟨some 74, .bin .rem (.t 71) (.t 73), none⟩,
   ⟨some 75, .iaddr none 1 (.t 69) (.t 74), none⟩,
   ⟨some 76, .load none (.t 75), none⟩,
   ⟨some 14, .move (.t 76), none⟩])
   (.seq
   (.region [0, 1, 7, 14, 15] [
   ⟨some 77, .move (.t 8), none⟩,
   ⟨some 78, .call (.c (.fn 31 [] [])) [(.t 77)], none⟩,
   ⟨some 15, .move (.t 78), none⟩])
   (.seq
   (.region [0, 7, 14, 16] [
   ⟨some 79, .move (.t 15), none⟩,
   ⟨some 80, .move (.t 1), none⟩,
   ⟨some 81, .conv .i64 (.t 80), none⟩,
   ⟨some 82, .move (.t 15), none⟩,
   ⟨some 83, .len 1 (.t 82), none⟩,
   ⟨some 84, .bin .rem (.t 81) (.t 83), none⟩,
   ⟨some 85, .iaddr none 1 (.t 79) (.t 84), none⟩,
   ⟨some 86, .load none (.t 85), none⟩,
   ⟨some 16, .move (.t 86), none⟩])
   (.seq
   (.seq
   (.region [0, 7, 14, 16, 94] [
   ⟨some 87, .move (.t 16), none⟩,
   ⟨some 88, .bin .lss (.t 87) (.c (.p (.int .i64 0))), none⟩,
   ⟨some 89, .move (.t 88), none⟩,
   ⟨some 90, .move (.t 16), some (89, false)⟩,
   ⟨some 91, .move (.t 0), some (89, false)⟩,
   ⟨some 92, .len 0 (.t 91), some (89, false)⟩,
   ⟨some 93, .bin .gtr (.t 90) (.t 92), some (89, false)⟩,
   ⟨some 94, .pick (.t 89) (.c (.p (.bool true))) (.t 93), none⟩])
   (.cond (.t 94)
   (.seq
   (.region [6] [
   ⟨some 6, .move (.c (.p (.bool false))), none⟩])
   .ret)
   .skip))
   (.seq
   (.draw [7, 14, 16, 18] [(11, 15)] [
   ⟨some 96, .move (.t 0), none⟩,
   ⟨some 97, .move (.t 16), none⟩,
   ⟨some 98, .slice 0 (.t 96) none (some (.t 97)), none⟩,
   ⟨some 99, .bin .add (.t 98) (.c (.p (.str [10]))), none⟩,
   ⟨some 100, .move (.t 14), none⟩,
   ⟨some 101, .bin .add (.t 99) (.t 100), none⟩,
   ⟨some 102, .bin .add (.t 101) (.c (.p (.str [10]))), none⟩,
   ⟨some 103, .move (.t 0), none⟩,
   ⟨some 104, .move (.t 16), none⟩,
   ⟨some 105, .slice 0 (.t 103) (some (.t 104)) none, none⟩,
   ⟨some 106, .bin .add (.t 102) (.t 105), none⟩,
   ⟨some 107, .call (.c (.fn 14 [] [])) [(.t 106)], none⟩,
   ⟨some 95, .move (.t 107), none⟩,
   ⟨some 108, .extract (.t 95) 0, none⟩,
   ⟨some 109, .extract (.t 95) 1, none⟩,
   ⟨some 17, .alloc [.nils, .nils, .nils, .nils], none⟩,
   ⟨none, .store 4 (.t 17) (.t 108), none⟩,
   ⟨some 18, .move (.t 109), none⟩])
   (.seq
   (.region [6] [
   ⟨some 110, .move (.t 7), none⟩,
   ⟨some 111, .move (.t 110), none⟩,
   ⟨some 112, .move (.t 18), some (111, true)⟩,
   ⟨some 113, .len 1 (.t 112), some (111, true)⟩,
   ⟨some 114, .bin .eql (.t 113) (.c (.p (.int .i64 1))), some (111, true)⟩,
   ⟨some 115, .pick (.t 111) (.t 114) (.c (.p (.bool false))), none⟩,
   ⟨some 116, .move (.t 115), none⟩,
   ⟨some 117, .move (.t 18), some (116, true)⟩,
   ⟨some 118, .iaddr none 2 (.t 117) (.c (.p (.int .i64 0))), some (116, true)⟩,
   ⟨some 119, .faddr (.t 118) 0, some (116, true)⟩,
   ⟨some 120, .load none (.t 119), some (116, true)⟩,
   ⟨some 121, .bin .eql (.t 120) (.c (.p (.int .i64 20))), some (116, true)⟩,
   ⟨some 122, .pick (.t 116) (.t 121) (.c (.p (.bool false))), none⟩,
   ⟨some 123, .move (.t 122), none⟩,
   ⟨some 124, .move (.t 18), some (123, true)⟩,
   ⟨some 125, .iaddr none 2 (.t 124) (.c (.p (.int .i64 0))), some (123, true)⟩,
   ⟨some 126, .faddr (.t 125) 1, some (123, true)⟩,
   ⟨some 127, .load none (.t 126), some (123, true)⟩,
   ⟨some 128, .move (.t 16), some (123, true)⟩,
   ⟨some 129, .bin .gtr (.t 127) (.t 128), some (123, true)⟩,
   ⟨some 130, .pick (.t 123) (.t 129) (.c (.p (.bool false))), none⟩,
   ⟨some 131, .move (.t 130), none⟩,
   ⟨some 132, .move (.t 18), some (131, true)⟩,
   ⟨some 133, .iaddr none 2 (.t 132) (.c (.p (.int .i64 0))), some (131, true)⟩,
   ⟨some 134, .faddr (.t 133) 1, some (131, true)⟩,
   ⟨some 135, .load none (.t 134), some (131, true)⟩,
   ⟨some 136, .move (.t 16), some (131, true)⟩,
   ⟨some 137, .move (.t 14), some (131, true)⟩,
   ⟨some 138, .len 0 (.t 137), some (131, true)⟩,
   ⟨some 139, .bin .add (.t 136) (.t 138), some (131, true)⟩,
   ⟨some 140, .bin .leq (.t 135) (.t 139), some (131, true)⟩,
   ⟨some 141, .pick (.t 131) (.t 140) (.c (.p (.bool false))), none⟩,
   ⟨some 6, .move (.t 141), none⟩])
   .ret))))))))))))

theorem ok8 : FOk Tryz.prog 8 fc8 := FOk.of Tryz.func8 (by kernel_rfl)

/-- armature/armaturelaw02.ParserValidSubtrees -/
def fc9_b0 : SC :=
 (.loc
 (.seq
 (.seq
 (.region [1, 2, 5, 6, 25] [
 ⟨some 21, .move (.t 6), none⟩,
 ⟨some 22, .faddr (.t 2) 3, none⟩,
 ⟨some 23, .load none (.t 22), none⟩,
 ⟨some 24, .len 1 (.t 23), none⟩,
 ⟨some 25, .bin .lss (.t 21) (.t 24), none⟩])
 (.cond (.t 25)
 .skip
 (.exit 0)))
 (.seq
 (.block 1
 (.seq
 (.region [1, 2, 5, 6, 34] [
 ⟨some 28, .faddr (.t 2) 3, none⟩,
 ⟨some 29, .load none (.t 28), none⟩,
 ⟨some 30, .move (.t 6), none⟩,
 ⟨some 31, .iaddr none 5 (.t 29) (.t 30), none⟩,
 ⟨some 32, .load (some 5) (.t 31), none⟩,
 ⟨some 33, .call (.c (.fn 15 [] [])) [(.t 32)], none⟩,
 ⟨some 34, .un .not (.t 33), none⟩])
 (.cond (.t 34)
 (.seq
 (.region [4] [
 ⟨some 4, .move (.c (.p (.bool false))), none⟩])
 .ret)
 .skip)))
 (.region [1, 2, 5, 6] [
 ⟨some 26, .move (.t 6), none⟩,
 ⟨some 27, .bin .add (.t 26) (.c (.p (.int .i64 1))), none⟩,
 ⟨some 6, .move (.t 27), none⟩]))))

def fc9 : FC where
  nt := 78
  np := 2
  res := [.t 4]
  body :=
    (.seq
   (.region [1, 2] [
   ⟨some 2, .box (.t 0), none⟩,
   ⟨some 4, .move (.c (.p (.bool false))), none⟩])
   (.seq
   (.region [1, 2, 5] [
   ⟨some 11, .call (.c (.fn 13 [] [])) [], none⟩,
   ⟨some 5, .move (.t 11), none⟩])
   (.seq
   (.seq
   (.region [1, 2, 5, 19] [
   ⟨some 12, .load (some 5) (.t 2), none⟩,
   ⟨some 13, .call (.c (.fn 18 [] [])) [(.t 12)], none⟩,
   ⟨some 14, .un .not (.t 13), none⟩,
   ⟨some 15, .move (.t 14), none⟩,
   ⟨some 16, .load (some 5) (.t 2), some (15, false)⟩,
   ⟨some 17, .call (.c (.fn 15 [] [])) [(.t 16)], some (15, false)⟩,
   ⟨some 18, .un .not (.t 17), some (15, false)⟩,
   ⟨some 19, .pick (.t 15) (.c (.p (.bool true))) (.t 18), none⟩])
   (.cond (.t 19)
   (.seq
   (.region [4] [
   ⟨some 20, .move (.t 5), none⟩,
   ⟨some 4, .move (.t 20), none⟩])
   .ret)
   .skip))
   (.seq
   (.seq
   (.region [1, 2, 5, 6] [
   ⟨some 6, .move (.c (.p (.int .i64 0))), none⟩])
   (.block 0
   (.loop [1, 2, 5, 6]
   fc9_b0)))
   (.seq
   (.region [1, 2, 5, 7] [
   ⟨some 35, .load (some 5) (.t 2), none⟩,
   ⟨some 7, .alloc [.int .i64 0, .str [], .int .i64 0, .nils, .int .i64 0], none⟩,
   ⟨none, .store 5 (.t 7) (.t 35), none⟩])
   (.seq
   (.loc
   (.region [1, 2, 5, 7] [
   ⟨some 36, .bslice 39 5 0 (.agg [.int .i64 0, .str [], .int .i64 0, .nils, .int .i64 0]) [], none⟩,
   ⟨some 37, .faddr (.t 2) 3, none⟩,
   ⟨some 38, .load none (.t 37), none⟩,
   ⟨some 39, .append 39 5 64 (.t 36) (.t 38), none⟩,
   ⟨some 40, .call (.c (.fn 22 [] [])) [(.c (.p (.str [97])))], none⟩,
   ⟨some 41, .call (.c (.fn 21 [] [])) [(.c (.p (.int .i64 35))), (.t 40)], none⟩,
   ⟨some 42, .bslice 39 5 1 (.agg [.int .i64 0, .str [], .int .i64 0, .nils, .int .i64 0]) [(0, (.t 41))], none⟩,
   ⟨some 43, .append 39 5 64 (.t 39) (.t 42), none⟩,
   ⟨some 44, .faddr (.t 7) 3, none⟩,
   ⟨none, .store 1 (.t 44) (.t 43), none⟩]))
   (.seq
   (.region [1, 2, 5, 7, 8] [
   ⟨some 45, .load (some 5) (.t 2), none⟩,
   ⟨some 8, .alloc [.int .i64 0, .str [], .int .i64 0, .nils, .int .i64 0], none⟩,
   ⟨none, .store 5 (.t 8) (.t 45), none⟩])
   (.seq
   (.region [2, 5, 7, 8] [
   ⟨some 46, .move (.t 1), none⟩,
   ⟨some 47, .conv .i64 (.t 46), none⟩,
   ⟨some 48, .bin .add (.c (.p (.int .i64 52))) (.t 47), none⟩,
   ⟨some 49, .faddr (.t 8) 0, none⟩,
   ⟨none, .store 1 (.t 49) (.t 48), none⟩])
   (.seq
   (.region [2, 5, 7, 8, 9] [
   ⟨some 50, .load (some 5) (.t 2), none⟩,
   ⟨some 9, .alloc [.int .i64 0, .str [], .int .i64 0, .nils, .int .i64 0], none⟩,
   ⟨none, .store 5 (.t 9) (.t 50), none⟩])
   (.seq
   (.region [2, 5, 7, 8, 9] [
   ⟨some 51, .faddr (.t 2) 1, none⟩,
   ⟨some 52, .load none (.t 51), none⟩,
   ⟨some 53, .bin .add (.t 52) (.c (.p (.str [33]))), none⟩,
   ⟨some 54, .faddr (.t 9) 1, none⟩,
   ⟨none, .store 1 (.t 54) (.t 53), none⟩])
   (.seq
   (.region [5, 7, 8, 9, 10] [
   ⟨some 55, .load (some 5) (.t 2), none⟩,
   ⟨some 10, .alloc [.int .i64 0, .str [], .int .i64 0, .nils, .int .i64 0], none⟩,
   ⟨none, .store 5 (.t 10) (.t 55), none⟩])
   (.seq
   (.region [5, 7, 8, 9, 10] [
   ⟨some 56, .faddr (.t 10) 2, none⟩,
   ⟨none, .store 1 (.t 56) (.c (.p (.int .i64 1000))), none⟩])
   (.seq
   (.region [4] [
   ⟨some 57, .move (.t 5), none⟩,
   ⟨some 58, .move (.t 57), none⟩,
   ⟨some 59, .load (some 5) (.t 7), some (58, true)⟩,
   ⟨some 60, .call (.c (.fn 15 [] [])) [(.t 59)], some (58, true)⟩,
   ⟨some 61, .un .not (.t 60), some (58, true)⟩,
   ⟨some 62, .pick (.t 58) (.t 61) (.c (.p (.bool false))), none⟩,
   ⟨some 63, .move (.t 62), none⟩,
   ⟨some 64, .load (some 5) (.t 8), some (63, true)⟩,
   ⟨some 65, .call (.c (.fn 15 [] [])) [(.t 64)], some (63, true)⟩,
   ⟨some 66, .un .not (.t 65), some (63, true)⟩,
   ⟨some 67, .pick (.t 63) (.t 66) (.c (.p (.bool false))), none⟩,
   ⟨some 68, .move (.t 67), none⟩,
   ⟨some 69, .load (some 5) (.t 9), some (68, true)⟩,
   ⟨some 70, .call (.c (.fn 15 [] [])) [(.t 69)], some (68, true)⟩,
   ⟨some 71, .un .not (.t 70), some (68, true)⟩,
   ⟨some 72, .pick (.t 68) (.t 71) (.c (.p (.bool false))), none⟩,
   ⟨some 73, .move (.t 72), none⟩,
   ⟨some 74, .load (some 5) (.t 10), some (73, true)⟩,
   ⟨some 75, .call (.c (.fn 15 [] [])) [(.t 74)], some (73, true)⟩,
   ⟨some 76, .un .not (.t 75), some (73, true)⟩,
   ⟨some 77, .pick (.t 73) (.t 76) (.c (.p (.bool false))), none⟩,
   ⟨some 4, .move (.t 77), none⟩])
   .ret)))))))))))))

theorem ok9 : FOk Tryz.prog 9 fc9 := FOk.of Tryz.func9 (by kernel_rfl)

/-- armature/armaturelaw03.PrinterRoundTrip -/
def fc10 : FC where
  nt := 35
  np := 1
  res := [.t 2]
  body :=
    (.seq
   (.region [1] [
   ⟨some 1, .box (.t 0), none⟩,
   ⟨some 2, .move (.c (.p (.bool false))), none⟩])
   (.seq
   (.region [1, 3] [
   ⟨some 7, .call (.c (.fn 32 [] [])) [], none⟩,
   ⟨some 3, .move (.t 7), none⟩])
   (.seq
   (.region [1, 3, 4] [
   ⟨some 8, .load (some 5) (.t 1), none⟩,
   ⟨some 9, .call (.c (.fn 33 [] [])) [(.t 8)], none⟩,
   ⟨some 4, .move (.t 9), none⟩])
   (.seq
   (.seq
   (.region [1, 3, 11] [
   ⟨some 10, .move (.t 4), none⟩,
   ⟨some 11, .un .not (.t 10), none⟩])
   (.cond (.t 11)
   (.seq
   (.region [2] [
   ⟨some 12, .move (.t 3), none⟩,
   ⟨some 2, .move (.t 12), none⟩])
   .ret)
   .skip))
   (.seq
   (.region [1, 3, 5, 6] [
   ⟨some 14, .load (some 5) (.t 1), none⟩,
   ⟨some 15, .call (.c (.fn 34 [] [])) [(.t 14)], none⟩,
   ⟨some 16, .call (.c (.fn 17 [] [])) [(.t 15)], none⟩,
   ⟨some 13, .move (.t 16), none⟩,
   ⟨some 17, .extract (.t 13) 0, none⟩,
   ⟨some 18, .extract (.t 13) 1, none⟩,
   ⟨some 5, .alloc [.int .i64 0, .str [], .int .i64 0, .nils, .int .i64 0], none⟩,
   ⟨none, .store 5 (.t 5) (.t 17), none⟩,
   ⟨some 6, .move (.t 18), none⟩])
   (.seq
   (.region [2] [
   ⟨some 19, .move (.t 3), none⟩,
   ⟨some 20, .move (.t 19), none⟩,
   ⟨some 21, .move (.t 6), some (20, true)⟩,
   ⟨some 22, .len 1 (.t 21), some (20, true)⟩,
   ⟨some 23, .bin .eql (.t 22) (.c (.p (.int .i64 0))), some (20, true)⟩,
   ⟨some 24, .pick (.t 20) (.t 23) (.c (.p (.bool false))), none⟩,
   ⟨some 25, .move (.t 24), none⟩,
   ⟨some 26, .load (some 5) (.t 1), some (25, true)⟩,
   ⟨some 27, .load (some 5) (.t 5), some (25, true)⟩,
   ⟨some 28, .call (.c (.fn 35 [] [])) [(.t 26), (.t 27)], some (25, true)⟩,
   ⟨some 29, .pick (.t 25) (.t 28) (.c (.p (.bool false))), none⟩,
   ⟨some 30, .move (.t 29), none⟩,
   ⟨some 31, .load (some 5) (.t 1), some (30, true)⟩,
   ⟨some 32, .load (some 5) (.t 5), some (30, true)⟩,
   ⟨some 33, .call (.c (.fn 36 [] [])) [(.t 31), (.t 32)], some (30, true)⟩,
   ⟨some 34, .pick (.t 30) (.t 33) (.c (.p (.bool false))), none⟩,
   ⟨some 2, .move (.t 34), none⟩])
   .ret))))))

theorem ok10 : FOk Tryz.prog 10 fc10 := FOk.of Tryz.func10 (by kernel_rfl)

/-- armature/armaturelaw03.PrinterCanonical -/
def fc11 : FC where
  nt := 80
  np := 2
  res := [.t 4]
  body :=
    (.seq
   (.region [0, 1] [
   ⟨some 4, .move (.c (.p (.bool false))), none⟩])
   (.seq
   (.region [0, 1, 5] [
   ⟨some 13, .call (.c (.fn 32 [] [])) [], none⟩,
   ⟨some 5, .move (.t 13), none⟩])
   (.seq
   (.seq
   (.region [0, 1, 5, 21] [
   ⟨some 14, .move (.t 0), none⟩,
   ⟨some 15, .len 0 (.t 14), none⟩,
   ⟨some 16, .bin .gtr (.t 15) (.c (.p (.int .i64 600))), none⟩,
   ⟨some 17, .move (.t 16), none⟩,
   ⟨some 18, .move (.t 1), some (17, false)⟩,
   ⟨some 19, .len 0 (.t 18), some (17, false)⟩,
   ⟨some 20, .bin .gtr (.t 19) (.c (.p (.int .i64 600))), some (17, false)⟩,
   ⟨some 21, .pick (.t 17) (.c (.p (.bool true))) (.t 20), none⟩])
   (.cond (.t 21)
   (.seq
   (.region [4] [
   ⟨some 22, .move (.t 5), none⟩,
   ⟨some 4, .move (.t 22), none⟩])
   .ret)
   .skip))
   (.seq
   (.region [1, 5, 6, 7] [
   ⟨some 24, .move (.t 0), none⟩,
   ⟨some 25, .call (.c (.fn 17 [] [])) [(.t 24)], none⟩,
   ⟨some 23, .move (.t 25), none⟩,
   ⟨some 26, .extract (.t 23) 0, none⟩,
   ⟨some 27, .extract (.t 23) 1, none⟩,
   ⟨some 6, .alloc [.int .i64 0, .str [], .int .i64 0, .nils, .int .i64 0], none⟩,
   ⟨none, .store 5 (.t 6) (.t 26), none⟩,
   ⟨some 7, .move (.t 27), none⟩])
   (.seq
   (.seq
   (.region [1, 5, 6, 30] [
   ⟨some 28, .move (.t 7), none⟩,
   ⟨some 29, .len 1 (.t 28), none⟩,
   ⟨some 30, .bin .gtr (.t 29) (.c (.p (.int .i64 0))), none⟩])
   (.cond (.t 30)
   (.seq
   (.region [4] [
   ⟨some 31, .move (.t 5), none⟩,
   ⟨some 4, .move (.t 31), none⟩])
   .ret)
   .skip))
   (.seq
   (.region [1, 5, 6, 8] [
   ⟨some 32, .load (some 5) (.t 6), none⟩,
   ⟨some 33, .call (.c (.fn 34 [] [])) [(.t 32)], none⟩,
   ⟨some 8, .move (.t 33), none⟩])
   (.seq
   (.region [1, 5, 6, 8, 9, 10] [
   ⟨some 35, .move (.t 8), none⟩,
   ⟨some 36, .call (.c (.fn 17 [] [])) [(.t 35)], none⟩,
   ⟨some 34, .move (.t 36), none⟩,
   ⟨some 37, .extract (.t 34) 0, none⟩,
   ⟨some 38, .extract (.t 34) 1, none⟩,
   ⟨some 9, .alloc [.int .i64 0, .str [], .int .i64 0, .nils, .int .i64 0], none⟩,
   ⟨none, .store 5 (.t 9) (.t 37), none⟩,
   ⟨some 10, .move (.t 38), none⟩])
   (.seq
   (.seq
   (.region [1, 5, 6, 8, 53] [
   ⟨some 39, .move (.t 10), none⟩,
   ⟨some 40, .len 1 (.t 39), none⟩,
   ⟨some 41, .bin .gtr (.t 40) (.c (.p (.int .i64 0))), none⟩,
   ⟨some 42, .move (.t 41), none⟩,
   ⟨some 43, .load (some 5) (.t 6), some (42, false)⟩,
   ⟨some 44, .load (some 5) (.t 9), some (42, false)⟩,
   ⟨some 45, .call (.c (.fn 35 [] [])) [(.t 43), (.t 44)], some (42, false)⟩,
   ⟨some 46, .un .not (.t 45), some (42, false)⟩,
   ⟨some 47, .pick (.t 42) (.c (.p (.bool true))) (.t 46), none⟩,
   ⟨some 48, .move (.t 47), none⟩,
   ⟨some 49, .load (some 5) (.t 9), some (48, false)⟩,
   ⟨some 50, .call (.c (.fn 34 [] [])) [(.t 49)], some (48, false)⟩,
   ⟨some 51, .move (.t 8), some (48, false)⟩,
   ⟨some 52, .bin .neq (.t 50) (.t 51), some (48, false)⟩,
   ⟨some 53, .pick (.t 48) (.c (.p (.bool true))) (.t 52), none⟩])
   (.cond (.t 53)
   (.seq
   (.region [4] [
   ⟨some 4, .move (.c (.p (.bool false))), none⟩])
   .ret)
   .skip))
   (.seq
   (.region [5, 6, 8, 11, 12] [
   ⟨some 55, .move (.t 1), none⟩,
   ⟨some 56, .call (.c (.fn 17 [] [])) [(.t 55)], none⟩,
   ⟨some 54, .move (.t 56), none⟩,
   ⟨some 57, .extract (.t 54) 0, none⟩,
   ⟨some 58, .extract (.t 54) 1, none⟩,
   ⟨some 11, .alloc [.int .i64 0, .str [], .int .i64 0, .nils, .int .i64 0], none⟩,
   ⟨none, .store 5 (.t 11) (.t 57), none⟩,
   ⟨some 12, .move (.t 58), none⟩])
   (.seq
   (.draw [4] [(11, 12), (11, 14), (12, 14), (13, 14)] [
   ⟨some 59, .move (.t 5), none⟩,
   ⟨some 60, .move (.t 59), none⟩,
   ⟨some 61, .move (.t 12), some (60, true)⟩,
   ⟨some 62, .len 1 (.t 61), some (60, true)⟩,
   ⟨some 63, .bin .gtr (.t 62) (.c (.p (.int .i64 0))), some (60, true)⟩,
   ⟨some 64, .move (.t 63), some (60, true)⟩,
   ⟨some 65, .load (some 5) (.t 11), some (64, false)⟩,
   ⟨some 66, .call (.c (.fn 37 [] [])) [(.t 65)], some (64, false)⟩,
   ⟨some 67, .un .not (.t 66), some (64, false)⟩,
   ⟨some 68, .pick (.t 64) (.c (.p (.bool true))) (.t 67), some (60, true)⟩,
   ⟨some 69, .move (.t 68), some (60, true)⟩,
   ⟨some 70, .load (some 5) (.t 6), some (69, false)⟩,
   ⟨some 71, .load (some 5) (.t 11), some (69, false)⟩,
   ⟨some 72, .call (.c (.fn 36 [] [])) [(.t 70), (.t 71)], some (69, false)⟩,
   ⟨some 73, .load (some 5) (.t 11), some (69, false)⟩,
   ⟨some 74, .call (.c (.fn 34 [] [])) [(.t 73)], some (69, false)⟩,
   ⟨some 75, .move (.t 8), some (69, false)⟩,
   ⟨some 76, .bin .eql (.t 74) (.t 75), some (69, false)⟩,
   ⟨some 77, .eqk 0 false (.t 72) (.t 76), some (69, false)⟩,
   ⟨some 78, .pick (.t 69) (.c (.p (.bool true))) (.t 77), some (60, true)⟩,
   ⟨some 79, .pick (.t 60) (.t 78) (.c (.p (.bool false))), none⟩,
   ⟨some 4, .move (.t 79), none⟩])
   .ret))))))))))

theorem ok11 : FOk Tryz.prog 11 fc11 := FOk.of Tryz.func11 (by kernel_rfl)

/-- armature/armaturelaw03.PrinterMinimal -/
def fc12_b0 : SC :=
 (.loc
 (.seq
 (.seq
 (.region [1, 3, 5, 6, 24] [
 ⟨some 21, .move (.t 6), none⟩,
 ⟨some 22, .move (.t 5), none⟩,
 ⟨some 23, .len 0 (.t 22), none⟩,
 ⟨some 24, .bin .lss (.t 21) (.t 23), none⟩])
 (.cond (.t 24)
 .skip
 (.exit 0)))
 (.seq
 (.block 1
 (.seq
 (.seq
 (.region [1, 3, 5, 6, 30] [
 ⟨some 27, .move (.t 5), none⟩,
 ⟨some 28, .move (.t 6), none⟩,
 ⟨some 29, .index none (.t 27) (.t 28), none⟩,
 ⟨some 30, .bin .neq (.t 29) (.c (.p (.int .u8 40))), none⟩])
 (.cond (.t 30)
 (.exit 1)
 .skip))
 (.seq
 (.region [1, 3, 5, 6, 7] [
 ⟨some 31, .move (.t 5), none⟩,
 ⟨some 32, .move (.t 6), none⟩,
 ⟨some 33, .call (.c (.fn 38 [] [])) [(.t 31), (.t 32)], none⟩,
 ⟨some 7, .move (.t 33), none⟩])
 (.seq
 (.seq
 (.region [1, 3, 5, 6, 7, 35] [
 ⟨some 34, .move (.t 7), none⟩,
 ⟨some 35, .bin .lss (.t 34) (.c (.p (.int .i64 0))), none⟩])
 (.cond (.t 35)
 (.seq
 (.region [2] [
 ⟨some 2, .move (.c (.p (.bool false))), none⟩])
 .ret)
 .skip))
 (.seq
 (.draw [1, 3, 5, 6, 8, 9] [(14, 18)] [
 ⟨some 37, .move (.t 5), none⟩,
 ⟨some 38, .move (.t 6), none⟩,
 ⟨some 39, .slice 0 (.t 37) none (some (.t 38)), none⟩,
 ⟨some 40, .move (.t 5), none⟩,
 ⟨some 41, .move (.t 6), none⟩,
 ⟨some 42, .bin .add (.t 41) (.c (.p (.int .i64 1))), none⟩,
 ⟨some 43, .move (.t 7), none⟩,
 ⟨some 44, .slice 0 (.t 40) (some (.t 42)) (some (.t 43)), none⟩,
 ⟨some 45, .bin .add (.t 39) (.t 44), none⟩,
 ⟨some 46, .move (.t 5), none⟩,
 ⟨some 47, .move (.t 7), none⟩,
 ⟨some 48, .bin .add (.t 47) (.c (.p (.int .i64 1))), none⟩,
 ⟨some 49, .slice 0 (.t 46) (some (.t 48)) none, none⟩,
 ⟨some 50, .bin .add (.t 45) (.t 49), none⟩,
 ⟨some 51, .call (.c (.fn 17 [] [])) [(.t 50)], none⟩,
 ⟨some 36, .move (.t 51), none⟩,
 ⟨some 52, .extract (.t 36) 0, none⟩,
 ⟨some 53, .extract (.t 36) 1, none⟩,
 ⟨some 8, .alloc [.int .i64 0, .str [], .int .i64 0, .nils, .int .i64 0], none⟩,
 ⟨none, .store 5 (.t 8) (.t 52), none⟩,
 ⟨some 9, .move (.t 53), none⟩])
 (.seq
 (.region [1, 3, 5, 6, 61] [
 ⟨some 54, .move (.t 9), none⟩,
 ⟨some 55, .len 1 (.t 54), none⟩,
 ⟨some 56, .bin .eql (.t 55) (.c (.p (.int .i64 0))), none⟩,
 ⟨some 57, .move (.t 56), none⟩,
 ⟨some 58, .load (some 5) (.t 1), some (57, true)⟩,
 ⟨some 59, .load (some 5) (.t 8), some (57, true)⟩,
 ⟨some 60, .call (.c (.fn 35 [] [])) [(.t 58), (.t 59)], some (57, true)⟩,
 ⟨some 61, .pick (.t 57) (.t 60) (.c (.p (.bool false))), none⟩])
 (.cond (.t 61)
 (.seq
 (.region [2] [
 ⟨some 2, .move (.c (.p (.bool false))), none⟩])
 .ret)
 .skip)))))))
 (.region [1, 3, 5, 6] [
 ⟨some 25, .move (.t 6), none⟩,
 ⟨some 26, .bin .add (.t 25) (.c (.p (.int .i64 1))), none⟩,
 ⟨some 6, .move (.t 26), none⟩]))))

def fc12 : FC where
  nt := 63
  np := 1
  res := [.t 2]
  body :=
    (.seq
   (.region [1] [
   ⟨some 1, .box (.t 0), none⟩,
   ⟨some 2, .move (.c (.p (.bool false))), none⟩])
   (.seq
   (.region [1, 3] [
   ⟨some 10, .call (.c (.fn 32 [] [])) [], none⟩,
   ⟨some 3, .move (.t 10), none⟩])
   (.seq
   (.region [1, 3, 4] [
   ⟨some 11, .load (some 5) (.t 1), none⟩,
   ⟨some 12, .call (.c (.fn 33 [] [])) [(.t 11)], none⟩,
   ⟨some 4, .move (.t 12), none⟩])
   (.seq
   (.seq
   (.region [1, 3, 14] [
   ⟨some 13, .move (.t 4), none⟩,
   ⟨some 14, .un .not (.t 13), none⟩])
   (.cond (.t 14)
   (.seq
   (.region [2] [
   ⟨some 15, .move (.t 3), none⟩,
   ⟨some 2, .move (.t 15), none⟩])
   .ret)
   .skip))
   (.seq
   (.region [1, 3, 5] [
   ⟨some 16, .load (some 5) (.t 1), none⟩,
   ⟨some 17, .call (.c (.fn 34 [] [])) [(.t 16)], none⟩,
   ⟨some 5, .move (.t 17), none⟩])
   (.seq
   (.seq
   (.region [1, 3, 5, 20] [
   ⟨some 18, .move (.t 5), none⟩,
   ⟨some 19, .len 0 (.t 18), none⟩,
   ⟨some 20, .bin .gtr (.t 19) (.c (.p (.int .i64 160000))), none⟩])
   (.cond (.t 20)
   (.seq
   (.region [2] [
   ⟨some 2, .move (.c (.p (.bool false))), none⟩])
   .ret)
   .skip))
   (.seq
   (.seq
   (.region [1, 3, 5, 6] [
   ⟨some 6, .move (.c (.p (.int .i64 0))), none⟩])
   (.block 0
   (.loop [1, 3, 5, 6]
   fc12_b0)))
   (.seq
   (.region [2] [
   ⟨some 62, .move (.t 3), none⟩,
   ⟨some 2, .move (.t 62), none⟩])
   .ret))))))))

theorem ok12 : FOk Tryz.prog 12 fc12 := FOk.of Tryz.func12 (by kernel_rfl)

/-- armature/armaturelaw02.head -/
def fc13 : FC where
  nt := 162
  np := 0
  res := [.t 0]
  body :=
    (.seq
   (.region [] [
   ⟨some 0, .move (.c (.p (.bool false))), none⟩])
   (.seq
   (.region [1, 2, 3] [
   ⟨some 15, .call (.c (.fn 22 [] [])) [(.c (.p (.str [97])))], none⟩,
   ⟨some 16, .call (.c (.fn 22 [] [])) [(.c (.p (.str [98])))], none⟩,
   ⟨some 17, .call (.c (.fn 22 [] [])) [(.c (.p (.str [99])))], none⟩,
   ⟨some 1, .alloc [.int .i64 0, .str [], .int .i64 0, .nils, .int .i64 0], none⟩,
   ⟨some 2, .alloc [.int .i64 0, .str [], .int .i64 0, .nils, .int .i64 0], none⟩,
   ⟨some 3, .alloc [.int .i64 0, .str [], .int .i64 0, .nils, .int .i64 0], none⟩,
   ⟨none, .store 5 (.t 1) (.t 15), none⟩,
   ⟨none, .store 5 (.t 2) (.t 16), none⟩,
   ⟨none, .store 5 (.t 3) (.t 17), none⟩])
   (.seq
   (.region [1, 2, 3, 4] [
   ⟨some 18, .build [.int .i64 0, .str [], .int .i64 0, .nils, .int .i64 0] [(0, 1, (.c (.p (.int .i64 20)))), (2, 1, (.c (.p (.int .i64 1))))], none⟩,
   ⟨some 4, .alloc [.int .i64 0, .str [], .int .i64 0, .nils, .int .i64 0], none⟩,
   ⟨none, .store 5 (.t 4) (.t 18), none⟩])
   (.seq
   (.draw [1, 2, 4, 5] [(0, 1), (0, 2), (1, 2), (0, 3)] [
   ⟨some 19, .load (some 5) (.t 1), none⟩,
   ⟨some 20, .load (some 5) (.t 2), none⟩,
   ⟨some 21, .load (some 5) (.t 3), none⟩,
   ⟨some 22, .call (.c (.fn 25 [] [])) [(.c (.p (.int .i64 9))), (.t 20), (.t 21)], none⟩,
   ⟨some 23, .call (.c (.fn 25 [] [])) [(.c (.p (.int .i64 7))), (.t 19), (.t 22)], none⟩,
   ⟨some 24, .call (.c (.fn 21 [] [])) [(.c (.p (.int .i64 35))), (.t 23)], none⟩,
   ⟨some 25, .call (.c (.fn 20 [] [])) [(.c (.p (.str [110, 111, 32, 97, 32, 38, 32, 98, 46, 99]))), (.t 24)], none⟩,
   ⟨some 5, .move (.t 25), none⟩])
   (.seq
   (.draw [1, 2, 4, 5, 6] [(0, 1), (0, 4), (1, 4), (2, 4), (3, 4)] [
   ⟨some 26, .load (some 5) (.t 1), none⟩,
   ⟨some 27, .load (some 5) (.t 2), none⟩,
   ⟨some 28, .call (.c (.fn 25 [] [])) [(.c (.p (.int .i64 9))), (.t 26), (.t 27)], none⟩,
   ⟨some 29, .call (.c (.fn 21 [] [])) [(.c (.p (.int .i64 21))), (.t 28)], none⟩,
   ⟨some 30, .load (some 5) (.t 4), none⟩,
   ⟨some 31, .call (.c (.fn 25 [] [])) [(.c (.p (.int .i64 22))), (.t 29), (.t 30)], none⟩,
   ⟨some 32, .build [.int .i64 0, .str [], .int .i64 0, .nils, .int .i64 0] [(0, 1, (.c (.p (.int .i64 20)))), (2, 1, (.c (.p (.int .i64 3))))], none⟩,
   ⟨some 33, .call (.c (.fn 25 [] [])) [(.c (.p (.int .i64 39))), (.t 31), (.t 32)], none⟩,
   ⟨some 34, .call (.c (.fn 20 [] [])) [(.c (.p (.str [35, 97, 46, 98, 32, 43, 32, 49, 32, 60, 32, 51]))), (.t 33)], none⟩,
   ⟨some 6, .move (.t 34), none⟩])
   (.seq
   (.draw [1, 4, 5, 6, 7] [(0, 1), (0, 2), (1, 2), (0, 3), (0, 4), (0, 5), (1, 5), (2, 5), (3, 5), (4, 5), (0, 6), (0, 7), (0, 8)] [
   ⟨some 35, .load (some 5) (.t 1), none⟩,
   ⟨some 36, .call (.c (.fn 22 [] [])) [(.c (.p (.str [120])))], none⟩,
   ⟨some 37, .load (some 5) (.t 2), none⟩,
   ⟨some 38, .call (.c (.fn 25 [] [])) [(.c (.p (.int .i64 32))), (.t 36), (.t 37)], none⟩,
   ⟨some 39, .call (.c (.fn 22 [] [])) [(.c (.p (.str [120])))], none⟩,
   ⟨some 40, .load (some 5) (.t 2), none⟩,
   ⟨some 41, .call (.c (.fn 25 [] [])) [(.c (.p (.int .i64 9))), (.t 39), (.t 40)], none⟩,
   ⟨some 42, .call (.c (.fn 21 [] [])) [(.c (.p (.int .i64 35))), (.t 41)], none⟩,
   ⟨some 43, .call (.c (.fn 25 [] [])) [(.c (.p (.int .i64 43))), (.t 38), (.t 42)], none⟩,
   ⟨some 44, .bslice 39 5 2 (.agg [.int .i64 0, .str [], .int .i64 0, .nils, .int .i64 0]) [(0, (.t 35)), (1, (.t 43))], none⟩,
   ⟨some 45, .build [.int .i64 0, .str [], .int .i64 0, .nils, .int .i64 0] [(0, 1, (.c (.p (.int .i64 45)))), (1, 1, (.c (.p (.str [120])))), (3, 1, (.t 44))], none⟩,
   ⟨some 46, .call (.c (.fn 20 [] [])) [(.c (.p (.str [97, 108, 108, 32, 120, 58, 32, 97, 32, 124, 32, 120, 32, 105, 110, 32, 98, 32, 61, 62, 32, 110, 111, 32, 120, 46, 98]))), (.t 45)], none⟩,
   ⟨some 7, .move (.t 46), none⟩])
   (.seq
   (.region [1, 4, 5, 6, 7, 8] [
   ⟨some 47, .call (.c (.fn 39 [] [])) [(.c (.p (.str [97, 32, 61, 32, 35, 98]))), (.c (.p (.int .i64 43))), (.c (.p (.int .i64 2)))], none⟩,
   ⟨some 48, .move (.t 47), none⟩,
   ⟨some 49, .call (.c (.fn 39 [] [])) [(.c (.p (.str [97, 32, 61, 32, 98, 32, 61, 32, 99]))), (.c (.p (.int .i64 20))), (.c (.p (.int .i64 6)))], some (48, true)⟩,
   ⟨some 50, .pick (.t 48) (.t 49) (.c (.p (.bool false))), none⟩,
   ⟨some 51, .move (.t 50), none⟩,
   ⟨some 52, .call (.c (.fn 39 [] [])) [(.c (.p (.str [110, 111]))), (.c (.p (.int .i64 21))), (.c (.p (.int .i64 2)))], some (51, true)⟩,
   ⟨some 53, .pick (.t 51) (.t 52) (.c (.p (.bool false))), none⟩,
   ⟨some 54, .move (.t 53), none⟩,
   ⟨some 55, .call (.c (.fn 39 [] [])) [(.c (.p (.str [97]))), (.c (.p (.int .i64 43))), (.c (.p (.int .i64 0)))], some (54, true)⟩,
   ⟨some 56, .pick (.t 54) (.t 55) (.c (.p (.bool false))), none⟩,
   ⟨some 57, .move (.t 56), none⟩,
   ⟨some 58, .call (.c (.fn 39 [] [])) [(.c (.p (.str [49, 32, 60, 32, 54, 53]))), (.c (.p (.int .i64 2))), (.c (.p (.int .i64 4)))], some (57, true)⟩,
   ⟨some 59, .pick (.t 57) (.t 58) (.c (.p (.bool false))), none⟩,
   ⟨some 8, .move (.t 59), none⟩])
   (.seq
   (.region [1, 4, 5, 6, 7, 8, 9, 10] [
   ⟨some 61, .call (.c (.fn 14 [] [])) [(.c (.p (.str [115, 111, 114, 116, 32, 65, 32, 111, 114, 100, 101, 114, 101, 100, 59, 32, 118, 97, 114, 32, 102, 105, 101, 108, 100, 32, 102, 58, 32, 65, 32, 45, 62, 32, 65, 59, 32, 112, 114, 101, 100, 32, 112, 91, 120, 58, 32, 65, 93, 32, 123, 32, 115, 111, 109, 101, 32, 120, 46, 102, 32, 125, 32, 102, 97, 99, 116, 32, 113, 32, 123, 32, 112, 91, 65, 93, 32, 124, 124, 32, 116, 114, 117, 101, 32, 125])))], none⟩,
   ⟨some 60, .move (.t 61), none⟩,
   ⟨some 62, .extract (.t 60) 0, none⟩,
   ⟨some 63, .extract (.t 60) 1, none⟩,
   ⟨some 9, .alloc [.nils, .nils, .nils, .nils], none⟩,
   ⟨none, .store 4 (.t 9) (.t 62), none⟩,
   ⟨some 10, .move (.t 63), none⟩])
   (.seq
   (.region [1, 4, 5, 6, 7, 8, 9, 10, 12] [
   ⟨some 65, .call (.c (.fn 14 [] [])) [(.c (.p (.str [115, 111, 114, 116, 32, 65, 59, 32, 102, 105, 101, 108, 100, 32, 102, 58, 32, 66, 59, 32, 115, 111, 114, 116, 32, 59])))], none⟩,
   ⟨some 64, .move (.t 65), none⟩,
   ⟨some 66, .extract (.t 64) 0, none⟩,
   ⟨some 67, .extract (.t 64) 1, none⟩,
   ⟨some 11, .alloc [.nils, .nils, .nils, .nils], none⟩,
   ⟨none, .store 4 (.t 11) (.t 66), none⟩,
   ⟨some 12, .move (.t 67), none⟩])
   (.seq
   (.seq
   (.region [1, 4, 5, 6, 7, 8, 9, 12, 103] [
   ⟨some 68, .move (.t 10), none⟩,
   ⟨some 69, .len 1 (.t 68), none⟩,
   ⟨some 70, .bin .gtr (.t 69) (.c (.p (.int .i64 0))), none⟩,
   ⟨some 71, .move (.t 70), none⟩,
   ⟨some 72, .faddr (.t 9) 0, some (71, false)⟩,
   ⟨some 73, .load none (.t 72), some (71, false)⟩,
   ⟨some 74, .len 1 (.t 73), some (71, false)⟩,
   ⟨some 75, .bin .neq (.t 74) (.c (.p (.int .i64 1))), some (71, false)⟩,
   ⟨some 76, .pick (.t 71) (.c (.p (.bool true))) (.t 75), none⟩,
   ⟨some 77, .move (.t 76), none⟩,
   ⟨some 78, .faddr (.t 9) 1, some (77, false)⟩,
   ⟨some 79, .load none (.t 78), some (77, false)⟩,
   ⟨some 80, .len 1 (.t 79), some (77, false)⟩,
   ⟨some 81, .bin .neq (.t 80) (.c (.p (.int .i64 1))), some (77, false)⟩,
   ⟨some 82, .pick (.t 77) (.c (.p (.bool true))) (.t 81), none⟩,
   ⟨some 83, .move (.t 82), none⟩,
   ⟨some 84, .faddr (.t 9) 2, some (83, false)⟩,
   ⟨some 85, .load none (.t 84), some (83, false)⟩,
   ⟨some 86, .len 1 (.t 85), some (83, false)⟩,
   ⟨some 87, .bin .neq (.t 86) (.c (.p (.int .i64 1))), some (83, false)⟩,
   ⟨some 88, .pick (.t 83) (.c (.p (.bool true))) (.t 87), none⟩,
   ⟨some 89, .move (.t 88), none⟩,
   ⟨some 90, .faddr (.t 9) 3, some (89, false)⟩,
   ⟨some 91, .load none (.t 90), some (89, false)⟩,
   ⟨some 92, .len 1 (.t 91), some (89, false)⟩,
   ⟨some 93, .bin .neq (.t 92) (.c (.p (.int .i64 1))), some (89, false)⟩,
   ⟨some 94, .pick (.t 89) (.c (.p (.bool true))) (.t 93), none⟩,
   ⟨some 95, .move (.t 94), none⟩,
   ⟨some 96, .faddr (.t 9) 1, some (95, false)⟩,
   ⟨some 97, .load none (.t 96), some (95, false)⟩,
   ⟨some 98, .iaddr none 3 (.t 97) (.c (.p (.int .i64 0))), some (95, false)⟩,
   ⟨some 99, .faddr (.t 98) 1, some (95, false)⟩,
   ⟨some 100, .load none (.t 99), some (95, false)⟩,
   ⟨some 101, .len 1 (.t 100), some (95, false)⟩,
   ⟨some 102, .bin .neq (.t 101) (.c (.p (.int .i64 2))), some (95, false)⟩,
   ⟨some 103, .pick (.t 95) (.c (.p (.bool true))) (.t 102), none⟩])
   (.cond (.t 103)
   (.seq
   (.region [0] [
   ⟨some 0, .move (.c (.p (.bool false))), none⟩])
   .ret)
   .skip))
   (.seq
   (.region [1, 4, 5, 6, 7, 8, 12, 13] [
   ⟨some 104, .faddr (.t 9) 0, none⟩,
   ⟨some 105, .load none (.t 104), none⟩,
   ⟨some 106, .iaddr none 2 (.t 105) (.c (.p (.int .i64 0))), none⟩,
   ⟨some 107, .load (some 2) (.t 106), none⟩,
   ⟨some 108, .build [.str [], .bool false] [(0, 1, (.c (.p (.str [65])))), (1, 1, (.c (.p (.bool true))))], none⟩,
   ⟨some 109, .eqs false [2, 0] (.t 107) (.t 108), none⟩,
   ⟨some 110, .move (.t 109), none⟩,
   ⟨some 111, .faddr (.t 9) 1, some (110, true)⟩,
   ⟨some 112, .load none (.t 111), some (110, true)⟩,
   ⟨some 113, .iaddr none 3 (.t 112) (.c (.p (.int .i64 0))), some (110, true)⟩,
   ⟨some 114, .faddr (.t 113) 2, some (110, true)⟩,
   ⟨some 115, .load none (.t 114), some (110, true)⟩,
   ⟨some 116, .pick (.t 110) (.t 115) (.c (.p (.bool false))), none⟩,
   ⟨some 117, .move (.t 116), none⟩,
   ⟨some 118, .faddr (.t 9) 3, some (117, true)⟩,
   ⟨some 119, .load none (.t 118), some (117, true)⟩,
   ⟨some 120, .iaddr none 6 (.t 119) (.c (.p (.int .i64 0))), some (117, true)⟩,
   ⟨some 121, .faddr (.t 120) 1, some (117, true)⟩,
   ⟨some 122, .faddr (.t 121) 0, some (117, true)⟩,
   ⟨some 123, .load none (.t 122), some (117, true)⟩,
   ⟨some 124, .bin .eql (.t 123) (.c (.p (.int .i64 42))), some (117, true)⟩,
   ⟨some 125, .pick (.t 117) (.t 124) (.c (.p (.bool false))), none⟩,
   ⟨some 13, .move (.t 125), none⟩])
   (.seq
   (.region [1, 4, 5, 6, 7, 8, 13, 14] [
   ⟨some 126, .move (.t 12), none⟩,
   ⟨some 127, .build [.int .i64 0, .int .i64 0] [(0, 1, (.c (.p (.int .i64 40)))), (1, 1, (.c (.p (.int .i64 17))))], none⟩,
   ⟨some 128, .build [.int .i64 0, .int .i64 0] [(0, 1, (.c (.p (.int .i64 20)))), (1, 1, (.c (.p (.int .i64 25))))], none⟩,
   ⟨some 129, .bslice 34 2 2 (.agg [.int .i64 0, .int .i64 0]) [(0, (.t 127)), (1, (.t 128))], none⟩,
   ⟨some 130, .call (.c (.fn 40 [] [])) [(.t 126), (.t 129)], none⟩,
   ⟨some 14, .move (.t 130), none⟩])
   (.seq
   (.region [0] [
   ⟨some 131, .move (.t 5), none⟩,
   ⟨some 132, .move (.t 131), none⟩,
   ⟨some 133, .move (.t 6), some (132, true)⟩,
   ⟨some 134, .pick (.t 132) (.t 133) (.c (.p (.bool false))), none⟩,
   ⟨some 135, .move (.t 134), none⟩,
   ⟨some 136, .move (.t 7), some (135, true)⟩,
   ⟨some 137, .pick (.t 135) (.t 136) (.c (.p (.bool false))), none⟩,
   ⟨some 138, .move (.t 137), none⟩,
   ⟨some 139, .move (.t 8), some (138, true)⟩,
   ⟨some 140, .pick (.t 138) (.t 139) (.c (.p (.bool false))), none⟩,
   ⟨some 141, .move (.t 140), none⟩,
   ⟨some 142, .move (.t 13), some (141, true)⟩,
   ⟨some 143, .pick (.t 141) (.t 142) (.c (.p (.bool false))), none⟩,
   ⟨some 144, .move (.t 143), none⟩,
   ⟨some 145, .move (.t 14), some (144, true)⟩,
   ⟨some 146, .pick (.t 144) (.t 145) (.c (.p (.bool false))), none⟩,
   ⟨some 147, .move (.t 146), none⟩,
   ⟨some 148, .load (some 5) (.t 1), some (147, true)⟩,
   ⟨some 149, .call (.c (.fn 15 [] [])) [(.t 148)], some (147, true)⟩,
   ⟨some 150, .pick (.t 147) (.t 149) (.c (.p (.bool false))), none⟩,
   ⟨some 151, .move (.t 150), none⟩,
   ⟨some 152, .load (some 5) (.t 4), some (151, true)⟩,
   ⟨some 153, .call (.c (.fn 21 [] [])) [(.c (.p (.int .i64 35))), (.t 152)], some (151, true)⟩,
   ⟨some 154, .call (.c (.fn 15 [] [])) [(.t 153)], some (151, true)⟩,
   ⟨some 155, .un .not (.t 154), some (151, true)⟩,
   ⟨some 156, .pick (.t 151) (.t 155) (.c (.p (.bool false))), none⟩,
   ⟨some 157, .move (.t 156), none⟩,
   ⟨some 158, .call (.c (.fn 22 [] [])) [(.c (.p (.str [110, 111])))], some (157, true)⟩,
   ⟨some 159, .call (.c (.fn 15 [] [])) [(.t 158)], some (157, true)⟩,
   ⟨some 160, .un .not (.t 159), some (157, true)⟩,
   ⟨some 161, .pick (.t 157) (.t 160) (.c (.p (.bool false))), none⟩,
   ⟨some 0, .move (.t 161), none⟩])
   .ret)))))))))))))

theorem ok13 : FOk Tryz.prog 13 fc13 := FOk.of Tryz.func13 (by kernel_rfl)

/-- armature/parser.Parse -/
def fc14_b0 : SC :=
 (.loc
 (.seq
 (.seq
 (.draw [2, 4, 6, 36] [(3, 7)] [
 ⟨some 19, .move (.t 4), none⟩,
 ⟨some 20, .nilCheck (.t 19), none⟩,
 ⟨some 21, .faddr (.t 20) 1, none⟩,
 ⟨some 22, .load none (.t 21), none⟩,
 ⟨some 23, .move (.t 4), none⟩,
 ⟨some 24, .nilCheck (.t 23), none⟩,
 ⟨some 25, .faddr (.t 24) 0, none⟩,
 ⟨some 26, .load none (.t 25), none⟩,
 ⟨some 27, .len 1 (.t 26), none⟩,
 ⟨some 28, .bin .lss (.t 22) (.t 27), none⟩,
 ⟨some 29, .move (.t 28), none⟩,
 ⟨some 30, .move (.t 4), some (29, true)⟩,
 ⟨some 31, .nilCheck (.t 30), some (29, true)⟩,
 ⟨some 32, .faddr (.t 31) 7, some (29, true)⟩,
 ⟨some 33, .load none (.t 32), some (29, true)⟩,
 ⟨some 34, .len 1 (.t 33), some (29, true)⟩,
 ⟨some 35, .bin .lss (.t 34) (.c (.p (.int .i64 20))), some (29, true)⟩,
 ⟨some 36, .pick (.t 29) (.t 35) (.c (.p (.bool false))), none⟩])
 (.cond (.t 36)
 .skip
 (.exit 0)))
 (.block 1
 (.seq
 (.region [2, 4, 6, 40] [
 ⟨some 37, .move (.t 4), none⟩,
 ⟨some 38, .move (.t 6), none⟩,
 ⟨some 39, .call (.c (.fn 43 [] [])) [(.t 37), (.t 38)], none⟩,
 ⟨some 40, .un .not (.t 39), none⟩])
 (.cond (.t 40)
 (.seq
 (.seq
 (.draw [2, 4, 6, 54] [(3, 7)] [
 ⟨some 41, .move (.t 4), none⟩,
 ⟨some 42, .nilCheck (.t 41), none⟩,
 ⟨some 43, .faddr (.t 42) 7, none⟩,
 ⟨some 44, .load none (.t 43), none⟩,
 ⟨some 45, .move (.t 4), none⟩,
 ⟨some 46, .nilCheck (.t 45), none⟩,
 ⟨some 47, .faddr (.t 46) 7, none⟩,
 ⟨some 48, .load none (.t 47), none⟩,
 ⟨some 49, .len 1 (.t 48), none⟩,
 ⟨some 50, .bin .sub (.t 49) (.c (.p (.int .i64 1))), none⟩,
 ⟨some 51, .iaddr none 2 (.t 44) (.t 50), none⟩,
 ⟨some 52, .faddr (.t 51) 0, none⟩,
 ⟨some 53, .load none (.t 52), none⟩,
 ⟨some 54, .bin .eql (.t 53) (.c (.p (.int .i64 21))), none⟩])
 (.cond (.t 54)
 (.exit 0)
 .skip))
 (.region [2, 4, 6] [
 ⟨some 55, .move (.t 4), none⟩,
 ⟨some 56, .call (.c (.fn 44 [] [])) [(.t 55)], none⟩]))
 .skip)))))

def fc14 : FC where
  nt := 72
  np := 1
  res := [.cell 2 (some 4), .t 3]
  body :=
    (.seq
   (.region [0, 2] [
   ⟨some 2, .alloc [.nils, .nils, .nils, .nils], none⟩,
   ⟨some 3, .move (.c (.p (.nils))), none⟩])
   (.seq
   (.region [2, 4, 5] [
   ⟨some 8, .move (.t 0), none⟩,
   ⟨some 9, .call (.c (.fn 41 [] [])) [(.t 8)], none⟩,
   ⟨some 7, .move (.t 9), none⟩,
   ⟨some 10, .extract (.t 7) 0, none⟩,
   ⟨some 11, .extract (.t 7) 1, none⟩,
   ⟨some 4, .move (.t 10), none⟩,
   ⟨some 5, .move (.t 11), none⟩])
   (.seq
   (.tokb 4 7 34 2)
   (.seq
   (.tokb 4 8 81 2)
   (.seq
   (.tokb 4 9 70 3)
   (.seq
   (.tokb 4 10 41 7)
   (.seq
   (.tokb 4 11 44 6)
   (.seq
   (.seq
   (.region [2, 4, 5, 14] [
   ⟨some 12, .move (.t 5), none⟩,
   ⟨some 13, .len 1 (.t 12), none⟩,
   ⟨some 14, .bin .gtr (.t 13) (.c (.p (.int .i64 0))), none⟩])
   (.cond (.t 14)
   (.seq
   (.region [2, 3] [
   ⟨some 15, .build [.nils, .nils, .nils, .nils] [], none⟩,
   ⟨some 16, .move (.t 5), none⟩,
   ⟨none, .store 4 (.t 2) (.t 15), none⟩,
   ⟨some 3, .move (.t 16), none⟩])
   .ret)
   .skip))
   (.seq
   (.region [2, 4, 6] [
   ⟨some 17, .move (.t 4), none⟩,
   ⟨some 18, .mkfn 42 [(.t 17)] [], none⟩,
   ⟨some 6, .move (.t 18), none⟩])
   (.seq
   (.block 0
   (.loop [2, 4, 6]
   fc14_b0))
   (.seq
   (.seq
   (.region [2, 4, 62] [
   ⟨some 57, .move (.t 4), none⟩,
   ⟨some 58, .nilCheck (.t 57), none⟩,
   ⟨some 59, .faddr (.t 58) 7, none⟩,
   ⟨some 60, .load none (.t 59), none⟩,
   ⟨some 61, .len 1 (.t 60), none⟩,
   ⟨some 62, .bin .gtr (.t 61) (.c (.p (.int .i64 0))), none⟩])
   (.cond (.t 62)
   (.seq
   (.draw [2, 3] [(4, 5)] [
   ⟨some 63, .build [.nils, .nils, .nils, .nils] [], none⟩,
   ⟨some 64, .move (.t 4), none⟩,
   ⟨some 65, .nilCheck (.t 64), none⟩,
   ⟨some 66, .faddr (.t 65) 7, none⟩,
   ⟨some 67, .load none (.t 66), none⟩,
   ⟨none, .store 4 (.t 2) (.t 63), none⟩,
   ⟨some 3, .move (.t 67), none⟩])
   .ret)
   .skip))
   (.seq
   (.region [2, 3] [
   ⟨some 68, .move (.t 4), none⟩,
   ⟨some 69, .nilCheck (.t 68), none⟩,
   ⟨some 70, .faddr (.t 69) 8, none⟩,
   ⟨some 71, .load (some 4) (.t 70), none⟩,
   ⟨none, .store 4 (.t 2) (.t 71), none⟩,
   ⟨some 3, .move (.c (.p (.nils))), none⟩])
   .ret))))))))))))
  frz := true

theorem ok14 : FOk Tryz.prog 14 fc14 := FOk.of Tryz.func14 (by kernel_rfl)

/-- armature/parser.ValidNode -/
def fc15 : FC where
  nt := 12
  np := 1
  res := [.t 2]
  body :=
    (.seq
   (.region [1] [
   ⟨some 1, .box (.t 0), none⟩,
   ⟨some 2, .move (.c (.p (.bool false))), none⟩])
   (.seq
   (.draw [4] [(0, 1)] [
   ⟨some 6, .call (.c (.fn 46 [] [])) [], none⟩,
   ⟨some 7, .load (some 5) (.t 1), none⟩,
   ⟨some 8, .call (.c (.fn 45 [] [])) [(.t 6), (.t 7), (.c (.p (.int .i64 1))), (.c (.p (.int .i64 400)))], none⟩,
   ⟨some 5, .move (.t 8), none⟩,
   ⟨some 9, .extract (.t 5) 0, none⟩,
   ⟨some 10, .extract (.t 5) 1, none⟩,
   ⟨some 3, .move (.t 9), none⟩,
   ⟨some 4, .move (.t 10), none⟩])
   (.seq
   (.region [2] [
   ⟨some 11, .move (.t 4), none⟩,
   ⟨some 2, .move (.t 11), none⟩])
   .ret)))

theorem ok15 : FOk Tryz.prog 15 fc15 := FOk.of Tryz.func15 (by kernel_rfl)

/-- armature/armatureref02.Kind -/
def fc16 : FC where
  nt := 21
  np := 1
  res := [.t 2]
  body :=
    (.seq
   (.region [0] [
   ⟨some 2, .move (.c (.p (.int .u8 0))), none⟩])
   (.seq
   (.seq
   (.region [0, 8] [
   ⟨some 3, .move (.t 0), none⟩,
   ⟨some 4, .bin .geq (.t 3) (.c (.p (.int .i64 1))), none⟩,
   ⟨some 5, .move (.t 4), none⟩,
   ⟨some 6, .move (.t 0), some (5, true)⟩,
   ⟨some 7, .bin .leq (.t 6) (.c (.p (.int .i64 15))), some (5, true)⟩,
   ⟨some 8, .pick (.t 5) (.t 7) (.c (.p (.bool false))), none⟩])
   (.cond (.t 8)
   (.seq
   (.region [2] [
   ⟨some 2, .move (.c (.p (.int .u8 101))), none⟩])
   .ret)
   .skip))
   (.seq
   (.seq
   (.region [0, 14] [
   ⟨some 9, .move (.t 0), none⟩,
   ⟨some 10, .bin .geq (.t 9) (.c (.p (.int .i64 20))), none⟩,
   ⟨some 11, .move (.t 10), none⟩,
   ⟨some 12, .move (.t 0), some (11, true)⟩,
   ⟨some 13, .bin .leq (.t 12) (.c (.p (.int .i64 23))), some (11, true)⟩,
   ⟨some 14, .pick (.t 11) (.t 13) (.c (.p (.bool false))), none⟩])
   (.cond (.t 14)
   (.seq
   (.region [2] [
   ⟨some 2, .move (.c (.p (.int .u8 105))), none⟩])
   .ret)
   .skip))
   (.seq
   (.seq
   (.region [20] [
   ⟨some 15, .move (.t 0), none⟩,
   ⟨some 16, .bin .geq (.t 15) (.c (.p (.int .i64 30))), none⟩,
   ⟨some 17, .move (.t 16), none⟩,
   ⟨some 18, .move (.t 0), some (17, true)⟩,
   ⟨some 19, .bin .leq (.t 18) (.c (.p (.int .i64 51))), some (17, true)⟩,
   ⟨some 20, .pick (.t 17) (.t 19) (.c (.p (.bool false))), none⟩])
   (.cond (.t 20)
   (.seq
   (.region [2] [
   ⟨some 2, .move (.c (.p (.int .u8 102))), none⟩])
   .ret)
   .skip))
   (.seq
   (.region [2] [
   ⟨some 2, .move (.c (.p (.int .u8 0))), none⟩])
   .ret)))))

theorem ok16 : FOk Tryz.prog 16 fc16 := FOk.of Tryz.func16 (by kernel_rfl)

/-- armature/parser.ParseFormula -/
def fc17 : FC where
  nt := 27
  np := 1
  res := [.cell 2 (some 5), .t 3]
  body :=
    (.seq
   (.region [0, 2] [
   ⟨some 2, .alloc [.int .i64 0, .str [], .int .i64 0, .nils, .int .i64 0], none⟩,
   ⟨some 3, .move (.c (.p (.nils))), none⟩])
   (.seq
   (.region [2, 4, 5, 10] [
   ⟨some 8, .move (.t 0), none⟩,
   ⟨some 9, .call (.c (.fn 41 [] [])) [(.t 8)], none⟩,
   ⟨some 7, .move (.t 9), none⟩,
   ⟨some 10, .extract (.t 7) 0, none⟩,
   ⟨some 11, .extract (.t 7) 1, none⟩,
   ⟨some 4, .alloc [.nilp], none⟩,
   ⟨none, .store 1 (.t 4) (.t 10), none⟩,
   ⟨some 5, .move (.t 11), none⟩])
   (.seq
   (.tokb 10 7 34 2)
   (.seq
   (.seq
   (.region [2, 4, 5, 14] [
   ⟨some 12, .move (.t 5), none⟩,
   ⟨some 13, .len 1 (.t 12), none⟩,
   ⟨some 14, .bin .gtr (.t 13) (.c (.p (.int .i64 0))), none⟩])
   (.cond (.t 14)
   (.seq
   (.region [2, 3] [
   ⟨some 15, .build [.int .i64 0, .str [], .int .i64 0, .nils, .int .i64 0] [], none⟩,
   ⟨some 16, .move (.t 5), none⟩,
   ⟨none, .store 5 (.t 2) (.t 15), none⟩,
   ⟨some 3, .move (.t 16), none⟩])
   .ret)
   .skip))
   (.seq
   (.region [2, 4, 6] [
   ⟨some 6, .alloc [.int .i64 0, .str [], .int .i64 0, .nils, .int .i64 0], none⟩])
   (.seq
   (.seq
   (.region [2, 4, 6, 20] [
   ⟨some 17, .load none (.t 4), none⟩,
   ⟨some 18, .mkfn 47 [] [(.t 4), (.t 6)], none⟩,
   ⟨some 19, .call (.c (.fn 43 [] [])) [(.t 17), (.t 18)], none⟩,
   ⟨some 20, .un .not (.t 19), none⟩])
   (.cond (.t 20)
   (.seq
   (.draw [2, 3] [(1, 5), (4, 5)] [
   ⟨some 21, .build [.int .i64 0, .str [], .int .i64 0, .nils, .int .i64 0] [], none⟩,
   ⟨some 22, .load none (.t 4), none⟩,
   ⟨some 23, .nilCheck (.t 22), none⟩,
   ⟨some 24, .faddr (.t 23) 7, none⟩,
   ⟨some 25, .load none (.t 24), none⟩,
   ⟨none, .store 5 (.t 2) (.t 21), none⟩,
   ⟨some 3, .move (.t 25), none⟩])
   .ret)
   .skip))
   (.seq
   (.region [2, 3] [
   ⟨some 26, .load (some 5) (.t 6), none⟩,
   ⟨none, .store 5 (.t 2) (.t 26), none⟩,
   ⟨some 3, .move (.c (.p (.nils))), none⟩])
   .ret)))))))
  frz := true

theorem ok17 : FOk Tryz.prog 17 fc17 := FOk.of Tryz.func17 (by kernel_rfl)

/-- armature/armaturelaw02.Few -/
def fc18 : FC where
  nt := 6
  np := 1
  res := [.t 2]
  body :=
    (.seq
   (.region [1] [
   ⟨some 1, .box (.t 0), none⟩,
   ⟨some 2, .move (.c (.p (.bool false))), none⟩])
   (.seq
   (.region [2] [
   ⟨some 3, .load (some 5) (.t 1), none⟩,
   ⟨some 4, .call (.c (.fn 50 [] [])) [(.t 3), (.c (.p (.int .i64 400)))], none⟩,
   ⟨some 5, .bin .leq (.t 4) (.c (.p (.int .i64 400))), none⟩,
   ⟨some 2, .move (.t 5), none⟩])
   .ret))

theorem ok18 : FOk Tryz.prog 18 fc18 := FOk.of Tryz.func18 (by kernel_rfl)

/-- armature/armaturelaw02.Text -/
def fc19_b0 : SC :=
 (.loc
 (.seq
 (.seq
 (.region [1, 3, 4, 98] [
 ⟨some 94, .move (.t 4), none⟩,
 ⟨some 95, .faddr (.t 1) 3, none⟩,
 ⟨some 96, .load none (.t 95), none⟩,
 ⟨some 97, .len 1 (.t 96), none⟩,
 ⟨some 98, .bin .lss (.t 94) (.t 97), none⟩])
 (.cond (.t 98)
 .skip
 (.exit 1)))
 (.seq
 (.block 2
 (.seq
 (.seq
 (.region [1, 3, 4, 102] [
 ⟨some 101, .move (.t 4), none⟩,
 ⟨some 102, .bin .gtr (.t 101) (.c (.p (.int .i64 0))), none⟩])
 (.cond (.t 102)
 (.region [1, 3, 4] [
 ⟨some 103, .move (.t 3), none⟩,
 ⟨some 104, .bin .add (.t 103) (.c (.p (.str [44, 32]))), none⟩,
 ⟨some 3, .move (.t 104), none⟩])
 .skip))
 (.region [1, 3, 4] [
 ⟨some 105, .move (.t 3), none⟩,
 ⟨some 106, .faddr (.t 1) 3, none⟩,
 ⟨some 107, .load none (.t 106), none⟩,
 ⟨some 108, .move (.t 4), none⟩,
 ⟨some 109, .iaddr none 5 (.t 107) (.t 108), none⟩,
 ⟨some 110, .load (some 5) (.t 109), none⟩,
 ⟨some 111, .call (.c (.fn 52 [] [])) [(.t 110)], none⟩,
 ⟨some 112, .bin .add (.t 105) (.t 111), none⟩,
 ⟨some 3, .move (.t 112), none⟩])))
 (.region [1, 3, 4] [
 ⟨some 99, .move (.t 4), none⟩,
 ⟨some 100, .bin .add (.t 99) (.c (.p (.int .i64 1))), none⟩,
 ⟨some 4, .move (.t 100), none⟩]))))

def fc19 : FC where
  nt := 152
  np := 1
  res := [.t 2]
  body :=
    (.seq
   (.region [1] [
   ⟨some 1, .box (.t 0), none⟩,
   ⟨some 2, .move (.c (.p (.str []))), none⟩])
   (.seq
   (.seq
   (.region [1, 6] [
   ⟨some 5, .faddr (.t 1) 0, none⟩,
   ⟨some 6, .load none (.t 5), none⟩])
   (.block 0
   (.seq
   (.region [1, 6, 7] [
   ⟨some 8, .bin .eql (.t 6) (.c (.p (.int .i64 1))), none⟩,
   ⟨some 7, .move (.t 8), none⟩])
   (.cond (.t 7)
   (.seq
   (.region [2] [
   ⟨some 9, .faddr (.t 1) 1, none⟩,
   ⟨some 10, .load none (.t 9), none⟩,
   ⟨some 2, .move (.t 10), none⟩])
   .ret)
   (.seq
   (.region [1, 6, 11] [
   ⟨some 12, .bin .eql (.t 6) (.c (.p (.int .i64 2))), none⟩,
   ⟨some 11, .move (.t 12), none⟩])
   (.cond (.t 11)
   (.seq
   (.region [2] [
   ⟨some 13, .faddr (.t 1) 2, none⟩,
   ⟨some 14, .load none (.t 13), none⟩,
   ⟨some 15, .call (.c (.fn 51 [] [])) [(.t 14)], none⟩,
   ⟨some 16, .bin .add (.c (.p (.str [110, 111, 110, 101, 91]))) (.t 15), none⟩,
   ⟨some 17, .bin .add (.t 16) (.c (.p (.str [93]))), none⟩,
   ⟨some 2, .move (.t 17), none⟩])
   .ret)
   (.seq
   (.region [1, 6, 18] [
   ⟨some 19, .bin .eql (.t 6) (.c (.p (.int .i64 20))), none⟩,
   ⟨some 18, .move (.t 19), none⟩])
   (.cond (.t 18)
   (.seq
   (.region [2] [
   ⟨some 20, .faddr (.t 1) 2, none⟩,
   ⟨some 21, .load none (.t 20), none⟩,
   ⟨some 22, .call (.c (.fn 51 [] [])) [(.t 21)], none⟩,
   ⟨some 2, .move (.t 22), none⟩])
   .ret)
   (.seq
   (.region [1, 6, 23] [
   ⟨some 24, .bin .eql (.t 6) (.c (.p (.int .i64 5))), none⟩,
   ⟨some 23, .move (.t 24), none⟩])
   (.cond (.t 23)
   (.seq
   (.region [2] [
   ⟨some 25, .faddr (.t 1) 3, none⟩,
   ⟨some 26, .load none (.t 25), none⟩,
   ⟨some 27, .iaddr none 5 (.t 26) (.c (.p (.int .i64 0))), none⟩,
   ⟨some 28, .load (some 5) (.t 27), none⟩,
   ⟨some 29, .call (.c (.fn 52 [] [])) [(.t 28)], none⟩,
   ⟨some 30, .bin .add (.t 29) (.c (.p (.str [39]))), none⟩,
   ⟨some 2, .move (.t 30), none⟩])
   .ret)
   (.seq
   (.region [1, 6, 31] [
   ⟨some 32, .bin .eql (.t 6) (.c (.p (.int .i64 15))), none⟩,
   ⟨some 31, .move (.t 32), none⟩])
   (.cond (.t 31)
   (.seq
   (.draw [2] [(1, 5), (1, 7), (1, 8), (1, 12), (5, 12), (7, 12), (8, 12), (1, 14), (5, 14), (7, 14), (8, 14), (1, 15)] [
   ⟨some 33, .faddr (.t 1) 1, none⟩,
   ⟨some 34, .load none (.t 33), none⟩,
   ⟨some 35, .bin .add (.c (.p (.str [123]))) (.t 34), none⟩,
   ⟨some 36, .bin .add (.t 35) (.c (.p (.str [58, 32]))), none⟩,
   ⟨some 37, .faddr (.t 1) 3, none⟩,
   ⟨some 38, .load none (.t 37), none⟩,
   ⟨some 39, .iaddr none 5 (.t 38) (.c (.p (.int .i64 0))), none⟩,
   ⟨some 40, .load (some 5) (.t 39), none⟩,
   ⟨some 41, .call (.c (.fn 52 [] [])) [(.t 40)], none⟩,
   ⟨some 42, .bin .add (.t 36) (.t 41), none⟩,
   ⟨some 43, .bin .add (.t 42) (.c (.p (.str [32, 124, 32]))), none⟩,
   ⟨some 44, .faddr (.t 1) 3, none⟩,
   ⟨some 45, .load none (.t 44), none⟩,
   ⟨some 46, .iaddr none 5 (.t 45) (.c (.p (.int .i64 1))), none⟩,
   ⟨some 47, .load (some 5) (.t 46), none⟩,
   ⟨some 48, .call (.c (.fn 52 [] [])) [(.t 47)], none⟩,
   ⟨some 49, .bin .add (.t 43) (.t 48), none⟩,
   ⟨some 50, .bin .add (.t 49) (.c (.p (.str [125]))), none⟩,
   ⟨some 2, .move (.t 50), none⟩])
   .ret)
   (.seq
   (.region [1, 6, 51] [
   ⟨some 52, .bin .eql (.t 6) (.c (.p (.int .i64 45))), none⟩,
   ⟨some 51, .move (.t 52), none⟩])
   (.cond (.t 51)
   (.seq
   (.draw [2] [(1, 5), (1, 7), (1, 8), (1, 12), (5, 12), (7, 12), (8, 12), (1, 14), (5, 14), (7, 14), (8, 14), (1, 15)] [
   ⟨some 53, .faddr (.t 1) 1, none⟩,
   ⟨some 54, .load none (.t 53), none⟩,
   ⟨some 55, .bin .add (.c (.p (.str [97, 108, 108, 32]))) (.t 54), none⟩,
   ⟨some 56, .bin .add (.t 55) (.c (.p (.str [58, 32]))), none⟩,
   ⟨some 57, .faddr (.t 1) 3, none⟩,
   ⟨some 58, .load none (.t 57), none⟩,
   ⟨some 59, .iaddr none 5 (.t 58) (.c (.p (.int .i64 0))), none⟩,
   ⟨some 60, .load (some 5) (.t 59), none⟩,
   ⟨some 61, .call (.c (.fn 52 [] [])) [(.t 60)], none⟩,
   ⟨some 62, .bin .add (.t 56) (.t 61), none⟩,
   ⟨some 63, .bin .add (.t 62) (.c (.p (.str [32, 124, 32]))), none⟩,
   ⟨some 64, .faddr (.t 1) 3, none⟩,
   ⟨some 65, .load none (.t 64), none⟩,
   ⟨some 66, .iaddr none 5 (.t 65) (.c (.p (.int .i64 1))), none⟩,
   ⟨some 67, .load (some 5) (.t 66), none⟩,
   ⟨some 68, .call (.c (.fn 52 [] [])) [(.t 67)], none⟩,
   ⟨some 69, .bin .add (.t 63) (.t 68), none⟩,
   ⟨some 2, .move (.t 69), none⟩])
   .ret)
   (.seq
   (.region [1, 6, 70] [
   ⟨some 71, .bin .eql (.t 6) (.c (.p (.int .i64 46))), none⟩,
   ⟨some 70, .move (.t 71), none⟩])
   (.cond (.t 70)
   (.seq
   (.draw [2] [(1, 5), (1, 7), (1, 8), (1, 12), (5, 12), (7, 12), (8, 12), (1, 14), (5, 14), (7, 14), (8, 14), (1, 15)] [
   ⟨some 72, .faddr (.t 1) 1, none⟩,
   ⟨some 73, .load none (.t 72), none⟩,
   ⟨some 74, .bin .add (.c (.p (.str [115, 111, 109, 101, 32]))) (.t 73), none⟩,
   ⟨some 75, .bin .add (.t 74) (.c (.p (.str [58, 32]))), none⟩,
   ⟨some 76, .faddr (.t 1) 3, none⟩,
   ⟨some 77, .load none (.t 76), none⟩,
   ⟨some 78, .iaddr none 5 (.t 77) (.c (.p (.int .i64 0))), none⟩,
   ⟨some 79, .load (some 5) (.t 78), none⟩,
   ⟨some 80, .call (.c (.fn 52 [] [])) [(.t 79)], none⟩,
   ⟨some 81, .bin .add (.t 75) (.t 80), none⟩,
   ⟨some 82, .bin .add (.t 81) (.c (.p (.str [32, 124, 32]))), none⟩,
   ⟨some 83, .faddr (.t 1) 3, none⟩,
   ⟨some 84, .load none (.t 83), none⟩,
   ⟨some 85, .iaddr none 5 (.t 84) (.c (.p (.int .i64 1))), none⟩,
   ⟨some 86, .load (some 5) (.t 85), none⟩,
   ⟨some 87, .call (.c (.fn 52 [] [])) [(.t 86)], none⟩,
   ⟨some 88, .bin .add (.t 82) (.t 87), none⟩,
   ⟨some 2, .move (.t 88), none⟩])
   .ret)
   (.seq
   (.region [1, 89] [
   ⟨some 90, .bin .eql (.t 6) (.c (.p (.int .i64 47))), none⟩,
   ⟨some 89, .move (.t 90), none⟩])
   (.cond (.t 89)
   (.seq
   (.region [1, 3] [
   ⟨some 91, .faddr (.t 1) 1, none⟩,
   ⟨some 92, .load none (.t 91), none⟩,
   ⟨some 93, .bin .add (.t 92) (.c (.p (.str [91]))), none⟩,
   ⟨some 3, .move (.t 93), none⟩])
   (.seq
   (.seq
   (.region [1, 3, 4] [
   ⟨some 4, .move (.c (.p (.int .i64 0))), none⟩])
   (.block 1
   (.loop [1, 3, 4]
   fc19_b0)))
   (.seq
   (.region [2] [
   ⟨some 113, .move (.t 3), none⟩,
   ⟨some 114, .bin .add (.t 113) (.c (.p (.str [93]))), none⟩,
   ⟨some 2, .move (.t 114), none⟩])
   .ret)))
   .skip))))))))))))))))))
   (.seq
   (.seq
   (.region [1, 117] [
   ⟨some 115, .faddr (.t 1) 3, none⟩,
   ⟨some 116, .load none (.t 115), none⟩,
   ⟨some 117, .len 1 (.t 116), none⟩])
   (.block 3
   (.seq
   (.region [1, 117, 118] [
   ⟨some 119, .bin .eql (.t 117) (.c (.p (.int .i64 0))), none⟩,
   ⟨some 118, .move (.t 119), none⟩])
   (.cond (.t 118)
   (.seq
   (.region [2] [
   ⟨some 120, .faddr (.t 1) 0, none⟩,
   ⟨some 121, .load none (.t 120), none⟩,
   ⟨some 122, .call (.c (.fn 53 [] [])) [(.t 121)], none⟩,
   ⟨some 2, .move (.t 122), none⟩])
   .ret)
   (.seq
   (.region [1, 123] [
   ⟨some 124, .bin .eql (.t 117) (.c (.p (.int .i64 1))), none⟩,
   ⟨some 123, .move (.t 124), none⟩])
   (.cond (.t 123)
   (.seq
   (.draw [2] [(1, 5), (2, 5), (1, 7), (2, 7)] [
   ⟨some 125, .faddr (.t 1) 0, none⟩,
   ⟨some 126, .load none (.t 125), none⟩,
   ⟨some 127, .call (.c (.fn 53 [] [])) [(.t 126)], none⟩,
   ⟨some 128, .bin .add (.t 127) (.c (.p (.str [32]))), none⟩,
   ⟨some 129, .faddr (.t 1) 3, none⟩,
   ⟨some 130, .load none (.t 129), none⟩,
   ⟨some 131, .iaddr none 5 (.t 130) (.c (.p (.int .i64 0))), none⟩,
   ⟨some 132, .load (some 5) (.t 131), none⟩,
   ⟨some 133, .call (.c (.fn 52 [] [])) [(.t 132)], none⟩,
   ⟨some 134, .bin .add (.t 128) (.t 133), none⟩,
   ⟨some 2, .move (.t 134), none⟩])
   .ret)
   .skip))))))
   (.seq
   (.draw [2] [(1, 7), (3, 7), (4, 7), (1, 12), (3, 12), (4, 12), (7, 12), (8, 12), (1, 14), (3, 14), (4, 14), (7, 14), (8, 14)] [
   ⟨some 135, .faddr (.t 1) 3, none⟩,
   ⟨some 136, .load none (.t 135), none⟩,
   ⟨some 137, .iaddr none 5 (.t 136) (.c (.p (.int .i64 0))), none⟩,
   ⟨some 138, .load (some 5) (.t 137), none⟩,
   ⟨some 139, .call (.c (.fn 52 [] [])) [(.t 138)], none⟩,
   ⟨some 140, .bin .add (.t 139) (.c (.p (.str [32]))), none⟩,
   ⟨some 141, .faddr (.t 1) 0, none⟩,
   ⟨some 142, .load none (.t 141), none⟩,
   ⟨some 143, .call (.c (.fn 54 [] [])) [(.t 142)], none⟩,
   ⟨some 144, .bin .add (.t 140) (.t 143), none⟩,
   ⟨some 145, .bin .add (.t 144) (.c (.p (.str [32]))), none⟩,
   ⟨some 146, .faddr (.t 1) 3, none⟩,
   ⟨some 147, .load none (.t 146), none⟩,
   ⟨some 148, .iaddr none 5 (.t 147) (.c (.p (.int .i64 1))), none⟩,
   ⟨some 149, .load (some 5) (.t 148), none⟩,
   ⟨some 150, .call (.c (.fn 52 [] [])) [(.t 149)], none⟩,
   ⟨some 151, .bin .add (.t 145) (.t 150), none⟩,
   ⟨some 2, .move (.t 151), none⟩])
   .ret))))

theorem ok19 : FOk Tryz.prog 19 fc19 := FOk.of Tryz.func19 (by kernel_rfl)

/-- armature/armaturelaw02.reads -/
def fc20 : FC where
  nt := 20
  np := 2
  res := [.t 4]
  body :=
    (.seq
   (.region [0, 3] [
   ⟨some 3, .box (.t 1), none⟩,
   ⟨some 4, .move (.c (.p (.bool false))), none⟩])
   (.seq
   (.region [3, 5, 6] [
   ⟨some 8, .move (.t 0), none⟩,
   ⟨some 9, .call (.c (.fn 17 [] [])) [(.t 8)], none⟩,
   ⟨some 7, .move (.t 9), none⟩,
   ⟨some 10, .extract (.t 7) 0, none⟩,
   ⟨some 11, .extract (.t 7) 1, none⟩,
   ⟨some 5, .alloc [.int .i64 0, .str [], .int .i64 0, .nils, .int .i64 0], none⟩,
   ⟨none, .store 5 (.t 5) (.t 10), none⟩,
   ⟨some 6, .move (.t 11), none⟩])
   (.seq
   (.region [4] [
   ⟨some 12, .move (.t 6), none⟩,
   ⟨some 13, .len 1 (.t 12), none⟩,
   ⟨some 14, .bin .eql (.t 13) (.c (.p (.int .i64 0))), none⟩,
   ⟨some 15, .move (.t 14), none⟩,
   ⟨some 16, .load (some 5) (.t 5), some (15, true)⟩,
   ⟨some 17, .load (some 5) (.t 3), some (15, true)⟩,
   ⟨some 18, .call (.c (.fn 29 [] [])) [(.t 16), (.t 17), (.c (.p (.bool false)))], some (15, true)⟩,
   ⟨some 19, .pick (.t 15) (.t 18) (.c (.p (.bool false))), none⟩,
   ⟨some 4, .move (.t 19), none⟩])
   .ret)))

theorem ok20 : FOk Tryz.prog 20 fc20 := FOk.of Tryz.func20 (by kernel_rfl)

/-- armature/armaturelaw02.one -/
def fc21 : FC where
  nt := 9
  np := 2
  res := [.cell 4 (some 5)]
  body :=
    (.seq
   (.region [0, 3, 4] [
   ⟨some 3, .box (.t 1), none⟩,
   ⟨some 4, .alloc [.int .i64 0, .str [], .int .i64 0, .nils, .int .i64 0], none⟩])
   (.seq
   (.region [4] [
   ⟨some 5, .move (.t 0), none⟩,
   ⟨some 6, .load (some 5) (.t 3), none⟩,
   ⟨some 7, .bslice 39 5 1 (.agg [.int .i64 0, .str [], .int .i64 0, .nils, .int .i64 0]) [(0, (.t 6))], none⟩,
   ⟨some 8, .build [.int .i64 0, .str [], .int .i64 0, .nils, .int .i64 0] [(0, 1, (.t 5)), (3, 1, (.t 7))], none⟩,
   ⟨none, .store 5 (.t 4) (.t 8), none⟩])
   .ret))
  frz := true

theorem ok21 : FOk Tryz.prog 21 fc21 := FOk.of Tryz.func21 (by kernel_rfl)

/-- armature/armaturelaw02.name -/
def fc22 : FC where
  nt := 5
  np := 1
  res := [.cell 2 (some 5)]
  body :=
    (.seq
   (.region [0, 2] [
   ⟨some 2, .alloc [.int .i64 0, .str [], .int .i64 0, .nils, .int .i64 0], none⟩])
   (.seq
   (.region [2] [
   ⟨some 3, .move (.t 0), none⟩,
   ⟨some 4, .build [.int .i64 0, .str [], .int .i64 0, .nils, .int .i64 0] [(0, 1, (.c (.p (.int .i64 1)))), (1, 1, (.t 3))], none⟩,
   ⟨none, .store 5 (.t 2) (.t 4), none⟩])
   .ret))
  frz := true

theorem ok22 : FOk Tryz.prog 22 fc22 := FOk.of Tryz.func22 (by kernel_rfl)

/-- armature/armatureref02.Binary -/
def fc23 : FC where
  nt := 46
  np := 2
  res := [.t 4]
  body :=
    (.seq
   (.region [0, 1] [
   ⟨some 4, .move (.c (.p (.int .i64 0))), none⟩])
   (.seq
   (.seq
   (.region [0, 6] [
   ⟨some 5, .move (.t 1), none⟩,
   ⟨some 6, .bin .eql (.t 5) (.c (.p (.int .u8 101))), none⟩])
   (.cond (.t 6)
   (.seq
   (.region [0, 7] [
   ⟨some 7, .move (.t 0), none⟩])
   (.block 0
   (.seq
   (.region [0, 7, 8] [
   ⟨some 9, .bin .eql (.t 7) (.c (.p (.str [105, 110]))), none⟩,
   ⟨some 8, .move (.t 9), none⟩])
   (.cond (.t 8)
   (.seq
   (.region [4] [
   ⟨some 4, .move (.c (.p (.int .i64 32))), none⟩])
   .ret)
   (.seq
   (.seq
   (.region [0, 7, 10] [
   ⟨some 11, .bin .eql (.t 7) (.c (.p (.str [61]))), none⟩,
   ⟨some 10, .move (.t 11), none⟩])
   (.cond (.t 10)
   .skip
   (.region [0, 7, 10] [
   ⟨some 12, .bin .eql (.t 7) (.c (.p (.str [33, 61]))), none⟩,
   ⟨some 10, .move (.t 12), none⟩])))
   (.cond (.t 10)
   (.seq
   (.region [4] [
   ⟨some 4, .move (.c (.p (.int .i64 33))), none⟩])
   .ret)
   (.seq
   (.region [0, 7, 13] [
   ⟨some 14, .bin .eql (.t 7) (.c (.p (.str [43]))), none⟩,
   ⟨some 13, .move (.t 14), none⟩])
   (.cond (.t 13)
   (.seq
   (.region [4] [
   ⟨some 4, .move (.c (.p (.int .i64 6))), none⟩])
   .ret)
   (.seq
   (.region [0, 7, 15] [
   ⟨some 16, .bin .eql (.t 7) (.c (.p (.str [45]))), none⟩,
   ⟨some 15, .move (.t 16), none⟩])
   (.cond (.t 15)
   (.seq
   (.region [4] [
   ⟨some 4, .move (.c (.p (.int .i64 8))), none⟩])
   .ret)
   (.seq
   (.region [0, 7, 17] [
   ⟨some 18, .bin .eql (.t 7) (.c (.p (.str [43, 43]))), none⟩,
   ⟨some 17, .move (.t 18), none⟩])
   (.cond (.t 17)
   (.seq
   (.region [4] [
   ⟨some 4, .move (.c (.p (.int .i64 14))), none⟩])
   .ret)
   (.seq
   (.region [0, 7, 19] [
   ⟨some 20, .bin .eql (.t 7) (.c (.p (.str [38]))), none⟩,
   ⟨some 19, .move (.t 20), none⟩])
   (.cond (.t 19)
   (.seq
   (.region [4] [
   ⟨some 4, .move (.c (.p (.int .i64 7))), none⟩])
   .ret)
   (.seq
   (.region [0, 7, 21] [
   ⟨some 22, .bin .eql (.t 7) (.c (.p (.str [45, 62]))), none⟩,
   ⟨some 21, .move (.t 22), none⟩])
   (.cond (.t 21)
   (.seq
   (.region [4] [
   ⟨some 4, .move (.c (.p (.int .i64 10))), none⟩])
   .ret)
   (.seq
   (.region [0, 23] [
   ⟨some 24, .bin .eql (.t 7) (.c (.p (.str [46]))), none⟩,
   ⟨some 23, .move (.t 24), none⟩])
   (.cond (.t 23)
   (.seq
   (.region [4] [
   ⟨some 4, .move (.c (.p (.int .i64 9))), none⟩])
   .ret)
   .skip))))))))))))))))))
   .skip))
   (.seq
   (.seq
   (.region [25] [
   ⟨some 25, .move (.t 0), none⟩])
   (.block 1
   (.seq
   (.region [25, 26] [
   ⟨some 27, .bin .eql (.t 25) (.c (.p (.str [60, 61, 62]))), none⟩,
   ⟨some 26, .move (.t 27), none⟩])
   (.cond (.t 26)
   (.seq
   (.region [4] [
   ⟨some 4, .move (.c (.p (.int .i64 44))), none⟩])
   .ret)
   (.seq
   (.region [25, 28] [
   ⟨some 29, .bin .eql (.t 25) (.c (.p (.str [61, 62]))), none⟩,
   ⟨some 28, .move (.t 29), none⟩])
   (.cond (.t 28)
   (.seq
   (.region [4] [
   ⟨some 4, .move (.c (.p (.int .i64 43))), none⟩])
   .ret)
   (.seq
   (.region [25, 30] [
   ⟨some 31, .bin .eql (.t 25) (.c (.p (.str [124, 124]))), none⟩,
   ⟨some 30, .move (.t 31), none⟩])
   (.cond (.t 30)
   (.seq
   (.region [4] [
   ⟨some 4, .move (.c (.p (.int .i64 42))), none⟩])
   .ret)
   (.seq
   (.region [25, 32] [
   ⟨some 33, .bin .eql (.t 25) (.c (.p (.str [38, 38]))), none⟩,
   ⟨some 32, .move (.t 33), none⟩])
   (.cond (.t 32)
   (.seq
   (.region [4] [
   ⟨some 4, .move (.c (.p (.int .i64 41))), none⟩])
   .ret)
   (.seq
   (.region [25, 34] [
   ⟨some 35, .bin .eql (.t 25) (.c (.p (.str [117, 110, 116, 105, 108]))), none⟩,
   ⟨some 34, .move (.t 35), none⟩])
   (.cond (.t 34)
   (.seq
   (.region [4] [
   ⟨some 4, .move (.c (.p (.int .i64 51))), none⟩])
   .ret)
   (.seq
   (.seq
   (.region [25, 36] [
   ⟨some 37, .bin .eql (.t 25) (.c (.p (.str [61]))), none⟩,
   ⟨some 36, .move (.t 37), none⟩])
   (.cond (.t 36)
   .skip
   (.region [25, 36] [
   ⟨some 38, .bin .eql (.t 25) (.c (.p (.str [33, 61]))), none⟩,
   ⟨some 36, .move (.t 38), none⟩])))
   (.cond (.t 36)
   (.seq
   (.region [4] [
   ⟨some 4, .move (.c (.p (.int .i64 38))), none⟩])
   .ret)
   (.seq
   (.seq
   (.region [25, 39] [
   ⟨some 40, .bin .eql (.t 25) (.c (.p (.str [60]))), none⟩,
   ⟨some 39, .move (.t 40), none⟩])
   (.cond (.t 39)
   .skip
   (.region [25, 39] [
   ⟨some 41, .bin .eql (.t 25) (.c (.p (.str [60, 61]))), none⟩,
   ⟨some 39, .move (.t 41), none⟩])))
   (.cond (.t 39)
   (.seq
   (.region [4] [
   ⟨some 4, .move (.c (.p (.int .i64 39))), none⟩])
   .ret)
   (.seq
   (.region [25, 42] [
   ⟨some 43, .bin .eql (.t 25) (.c (.p (.str [43]))), none⟩,
   ⟨some 42, .move (.t 43), none⟩])
   (.cond (.t 42)
   (.seq
   (.region [4] [
   ⟨some 4, .move (.c (.p (.int .i64 22))), none⟩])
   .ret)
   (.seq
   (.region [44] [
   ⟨some 45, .bin .eql (.t 25) (.c (.p (.str [45]))), none⟩,
   ⟨some 44, .move (.t 45), none⟩])
   (.cond (.t 44)
   (.seq
   (.region [4] [
   ⟨some 4, .move (.c (.p (.int .i64 23))), none⟩])
   .ret)
   .skip))))))))))))))))))))
   (.seq
   (.region [4] [
   ⟨some 4, .move (.c (.p (.int .i64 0))), none⟩])
   .ret))))

theorem ok23 : FOk Tryz.prog 23 fc23 := FOk.of Tryz.func23 (by kernel_rfl)

/-- armature/armatureref02.Level -/
def fc24 : FC where
  nt := 31
  np := 1
  res := [.t 2]
  body :=
    (.seq
   (.region [0] [
   ⟨some 2, .move (.c (.p (.int .i64 0))), none⟩])
   (.seq
   (.seq
   (.region [3] [
   ⟨some 3, .move (.t 0), none⟩])
   (.block 0
   (.seq
   (.region [3, 4] [
   ⟨some 5, .bin .eql (.t 3) (.c (.p (.str [60, 61, 62]))), none⟩,
   ⟨some 4, .move (.t 5), none⟩])
   (.cond (.t 4)
   (.seq
   (.region [2] [
   ⟨some 2, .move (.c (.p (.int .i64 1))), none⟩])
   .ret)
   (.seq
   (.region [3, 6] [
   ⟨some 7, .bin .eql (.t 3) (.c (.p (.str [61, 62]))), none⟩,
   ⟨some 6, .move (.t 7), none⟩])
   (.cond (.t 6)
   (.seq
   (.region [2] [
   ⟨some 2, .move (.c (.p (.int .i64 2))), none⟩])
   .ret)
   (.seq
   (.region [3, 8] [
   ⟨some 9, .bin .eql (.t 3) (.c (.p (.str [124, 124]))), none⟩,
   ⟨some 8, .move (.t 9), none⟩])
   (.cond (.t 8)
   (.seq
   (.region [2] [
   ⟨some 2, .move (.c (.p (.int .i64 3))), none⟩])
   .ret)
   (.seq
   (.region [3, 10] [
   ⟨some 11, .bin .eql (.t 3) (.c (.p (.str [38, 38]))), none⟩,
   ⟨some 10, .move (.t 11), none⟩])
   (.cond (.t 10)
   (.seq
   (.region [2] [
   ⟨some 2, .move (.c (.p (.int .i64 4))), none⟩])
   .ret)
   (.seq
   (.region [3, 12] [
   ⟨some 13, .bin .eql (.t 3) (.c (.p (.str [117, 110, 116, 105, 108]))), none⟩,
   ⟨some 12, .move (.t 13), none⟩])
   (.cond (.t 12)
   (.seq
   (.region [2] [
   ⟨some 2, .move (.c (.p (.int .i64 5))), none⟩])
   .ret)
   (.seq
   (.seq
   (.region [3, 14] [
   ⟨some 15, .bin .eql (.t 3) (.c (.p (.str [105, 110]))), none⟩,
   ⟨some 14, .move (.t 15), none⟩])
   (.cond (.t 14)
   .skip
   (.seq
   (.region [3, 14] [
   ⟨some 16, .bin .eql (.t 3) (.c (.p (.str [61]))), none⟩,
   ⟨some 14, .move (.t 16), none⟩])
   (.cond (.t 14)
   .skip
   (.seq
   (.region [3, 14] [
   ⟨some 17, .bin .eql (.t 3) (.c (.p (.str [33, 61]))), none⟩,
   ⟨some 14, .move (.t 17), none⟩])
   (.cond (.t 14)
   .skip
   (.seq
   (.region [3, 14] [
   ⟨some 18, .bin .eql (.t 3) (.c (.p (.str [60]))), none⟩,
   ⟨some 14, .move (.t 18), none⟩])
   (.cond (.t 14)
   .skip
   (.region [3, 14] [
   ⟨some 19, .bin .eql (.t 3) (.c (.p (.str [60, 61]))), none⟩,
   ⟨some 14, .move (.t 19), none⟩])))))))))
   (.cond (.t 14)
   (.seq
   (.region [2] [
   ⟨some 2, .move (.c (.p (.int .i64 7))), none⟩])
   .ret)
   (.seq
   (.seq
   (.region [3, 20] [
   ⟨some 21, .bin .eql (.t 3) (.c (.p (.str [43]))), none⟩,
   ⟨some 20, .move (.t 21), none⟩])
   (.cond (.t 20)
   .skip
   (.region [3, 20] [
   ⟨some 22, .bin .eql (.t 3) (.c (.p (.str [45]))), none⟩,
   ⟨some 20, .move (.t 22), none⟩])))
   (.cond (.t 20)
   (.seq
   (.region [2] [
   ⟨some 2, .move (.c (.p (.int .i64 8))), none⟩])
   .ret)
   (.seq
   (.region [3, 23] [
   ⟨some 24, .bin .eql (.t 3) (.c (.p (.str [43, 43]))), none⟩,
   ⟨some 23, .move (.t 24), none⟩])
   (.cond (.t 23)
   (.seq
   (.region [2] [
   ⟨some 2, .move (.c (.p (.int .i64 9))), none⟩])
   .ret)
   (.seq
   (.region [3, 25] [
   ⟨some 26, .bin .eql (.t 3) (.c (.p (.str [38]))), none⟩,
   ⟨some 25, .move (.t 26), none⟩])
   (.cond (.t 25)
   (.seq
   (.region [2] [
   ⟨some 2, .move (.c (.p (.int .i64 10))), none⟩])
   .ret)
   (.seq
   (.region [3, 27] [
   ⟨some 28, .bin .eql (.t 3) (.c (.p (.str [45, 62]))), none⟩,
   ⟨some 27, .move (.t 28), none⟩])
   (.cond (.t 27)
   (.seq
   (.region [2] [
   ⟨some 2, .move (.c (.p (.int .i64 11))), none⟩])
   .ret)
   (.seq
   (.region [29] [
   ⟨some 30, .bin .eql (.t 3) (.c (.p (.str [46]))), none⟩,
   ⟨some 29, .move (.t 30), none⟩])
   (.cond (.t 29)
   (.seq
   (.region [2] [
   ⟨some 2, .move (.c (.p (.int .i64 12))), none⟩])
   .ret)
   .skip))))))))))))))))))))))))
   (.seq
   (.region [2] [
   ⟨some 2, .move (.c (.p (.int .i64 0))), none⟩])
   .ret)))

theorem ok24 : FOk Tryz.prog 24 fc24 := FOk.of Tryz.func24 (by kernel_rfl)

/-- armature/armaturelaw02.pair -/
def fc25 : FC where
  nt := 12
  np := 3
  res := [.cell 6 (some 5)]
  body :=
    (.seq
   (.region [0, 4, 5, 6] [
   ⟨some 4, .box (.t 1), none⟩,
   ⟨some 5, .box (.t 2), none⟩,
   ⟨some 6, .alloc [.int .i64 0, .str [], .int .i64 0, .nils, .int .i64 0], none⟩])
   (.seq
   (.region [6] [
   ⟨some 7, .move (.t 0), none⟩,
   ⟨some 8, .load (some 5) (.t 4), none⟩,
   ⟨some 9, .load (some 5) (.t 5), none⟩,
   ⟨some 10, .bslice 39 5 2 (.agg [.int .i64 0, .str [], .int .i64 0, .nils, .int .i64 0]) [(0, (.t 8)), (1, (.t 9))], none⟩,
   ⟨some 11, .build [.int .i64 0, .str [], .int .i64 0, .nils, .int .i64 0] [(0, 1, (.t 7)), (3, 1, (.t 10))], none⟩,
   ⟨none, .store 5 (.t 6) (.t 11), none⟩])
   .ret))
  frz := true

theorem ok25 : FOk Tryz.prog 25 fc25 := FOk.of Tryz.func25 (by kernel_rfl)

/-- armature/lexer.Lex -/
def fc26_b0 : SC :=
 (.loc
 (.seq
 (.seq
 (.region [0, 5, 6, 23] [
 ⟨some 17, .move (.t 5), none⟩,
 ⟨some 18, .nilCheck (.t 17), none⟩,
 ⟨some 19, .faddr (.t 18) 1, none⟩,
 ⟨some 20, .load none (.t 19), none⟩,
 ⟨some 21, .move (.t 0), none⟩,
 ⟨some 22, .len 0 (.t 21), none⟩,
 ⟨some 23, .bin .lss (.t 20) (.t 22), none⟩])
 (.cond (.t 23)
 .skip
 (.exit 0)))
 (.seq
 (.block 1
 (.seq
 (.region [0, 5, 6, 7, 8] [
 ⟨some 27, .move (.t 5), none⟩,
 ⟨some 28, .call (.c (.fn 56 [] [])) [(.t 27)], none⟩,
 ⟨some 26, .move (.t 28), none⟩,
 ⟨some 29, .extract (.t 26) 0, none⟩,
 ⟨some 30, .extract (.t 26) 1, none⟩,
 ⟨some 7, .alloc [.int .i64 0, .str [], .int .i64 0], none⟩,
 ⟨none, .store 3 (.t 7) (.t 29), none⟩,
 ⟨some 8, .move (.t 30), none⟩])
 (.seq
 (.seq
 (.region [0, 5, 6, 7, 32] [
 ⟨some 31, .move (.t 8), none⟩,
 ⟨some 32, .un .not (.t 31), none⟩])
 (.cond (.t 32)
 (.seq
 (.draw [2, 3, 4] [] [
 ⟨some 33, .faddr (.t 7) 2, none⟩,
 ⟨some 34, .load none (.t 33), none⟩,
 ⟨some 2, .move (.c (.p (.nils))), none⟩,
 ⟨some 3, .move (.c (.p (.int .i64 10))), none⟩,
 ⟨some 4, .move (.t 34), none⟩])
 .ret)
 .skip))
 (.region [0, 5, 6] [
 ⟨some 35, .move (.t 6), none⟩,
 ⟨some 36, .load (some 3) (.t 7), none⟩,
 ⟨some 37, .bslice 64 3 1 (.agg [.int .i64 0, .str [], .int .i64 0]) [(0, (.t 36))], none⟩,
 ⟨some 38, .append 64 3 32 (.t 35) (.t 37), none⟩,
 ⟨some 6, .move (.t 38), none⟩]))))
 (.region [0, 5, 6] [
 ⟨some 24, .move (.t 5), none⟩,
 ⟨some 25, .call (.c (.fn 55 [] [])) [(.t 24)], none⟩]))))

def fc26 : FC where
  nt := 40
  np := 1
  res := [.t 2, .t 3, .t 4]
  body :=
    (.seq
   (.region [0] [
   ⟨some 2, .move (.c (.p (.nils))), none⟩,
   ⟨some 3, .move (.c (.p (.int .i64 0))), none⟩,
   ⟨some 4, .move (.c (.p (.int .i64 0))), none⟩])
   (.seq
   (.seq
   (.region [0, 11] [
   ⟨some 9, .move (.t 0), none⟩,
   ⟨some 10, .len 0 (.t 9), none⟩,
   ⟨some 11, .bin .gtr (.t 10) (.c (.p (.int .i64 20000))), none⟩])
   (.cond (.t 11)
   (.seq
   (.region [2, 3, 4] [
   ⟨some 2, .move (.c (.p (.nils))), none⟩,
   ⟨some 3, .move (.c (.p (.int .i64 2))), none⟩,
   ⟨some 4, .move (.c (.p (.int .i64 0))), none⟩])
   .ret)
   .skip))
   (.seq
   (.region [0, 5] [
   ⟨some 12, .move (.t 0), none⟩,
   ⟨some 13, .build [.str [], .int .i64 0] [(0, 1, (.t 12))], none⟩,
   ⟨some 14, .box (.t 13), none⟩,
   ⟨some 5, .move (.t 14), none⟩])
   (.seq
   (.region [0, 5, 6] [
   ⟨some 6, .move (.c (.p (.nils))), none⟩])
   (.seq
   (.seq
   (.region [0, 5, 6] [
   ⟨some 15, .move (.t 5), none⟩,
   ⟨some 16, .call (.c (.fn 55 [] [])) [(.t 15)], none⟩])
   (.block 0
   (.seq
   (.tok 6 64 3)
   (.loop [0, 5, 6]
   fc26_b0))))
   (.seq
   (.region [2, 3, 4] [
   ⟨some 39, .move (.t 6), none⟩,
   ⟨some 2, .move (.t 39), none⟩,
   ⟨some 3, .move (.c (.p (.int .i64 0))), none⟩,
   ⟨some 4, .move (.c (.p (.int .i64 0))), none⟩])
   .ret))))))

theorem ok26 : FOk Tryz.prog 26 fc26 := FOk.of Tryz.func26 (by kernel_rfl)

/-- armature/armaturelaw02.offsets -/
def fc27_b0 : SC :=
 (.loc
 (.seq
 (.seq
 (.region [0, 1, 5, 6, 11] [
 ⟨some 8, .move (.t 6), none⟩,
 ⟨some 9, .move (.t 0), none⟩,
 ⟨some 10, .len 1 (.t 9), none⟩,
 ⟨some 11, .bin .lss (.t 8) (.t 10), none⟩])
 (.cond (.t 11)
 .skip
 (.exit 0)))
 (.seq
 (.block 1
 (.region [0, 1, 5, 6] [
 ⟨some 14, .move (.t 5), none⟩,
 ⟨some 15, .move (.t 0), none⟩,
 ⟨some 16, .move (.t 6), none⟩,
 ⟨some 17, .iaddr none 3 (.t 15) (.t 16), none⟩,
 ⟨some 18, .faddr (.t 17) 2, none⟩,
 ⟨some 19, .load none (.t 18), none⟩,
 ⟨some 20, .bslice 3 1 1 (.int .i64 0) [(0, (.t 19))], none⟩,
 ⟨some 21, .append 3 1 8 (.t 14) (.t 20), none⟩,
 ⟨some 5, .move (.t 21), none⟩]))
 (.region [0, 1, 5, 6] [
 ⟨some 12, .move (.t 6), none⟩,
 ⟨some 13, .bin .add (.t 12) (.c (.p (.int .i64 1))), none⟩,
 ⟨some 6, .move (.t 13), none⟩]))))

def fc27 : FC where
  nt := 26
  np := 2
  res := [.t 4]
  body :=
    (.seq
   (.region [0, 1] [
   ⟨some 4, .move (.c (.p (.nils))), none⟩])
   (.seq
   (.region [0, 1, 5] [
   ⟨some 7, .bslice 3 1 0 (.int .i64 0) [], none⟩,
   ⟨some 5, .move (.t 7), none⟩])
   (.seq
   (.seq
   (.region [0, 1, 5, 6] [
   ⟨some 6, .move (.c (.p (.int .i64 0))), none⟩])
   (.block 0
   (.seq
   (.tok 5 3 1)
   (.loop [0, 1, 5, 6]
   fc27_b0))))
   (.seq
   (.region [4] [
   ⟨some 22, .move (.t 5), none⟩,
   ⟨some 23, .move (.t 1), none⟩,
   ⟨some 24, .bslice 3 1 1 (.int .i64 0) [(0, (.t 23))], none⟩,
   ⟨some 25, .append 3 1 8 (.t 22) (.t 24), none⟩,
   ⟨some 4, .move (.t 25), none⟩])
   .ret))))

theorem ok27 : FOk Tryz.prog 27 fc27 := FOk.of Tryz.func27 (by kernel_rfl)

/-- armature/armatureref02.SameSpec -/
def fc28_b0 : SC :=
 (.seq
 (.seq
 (.region [2, 3, 4, 7, 49] [
 ⟨some 45, .move (.t 7), none⟩,
 ⟨some 46, .faddr (.t 3) 0, none⟩,
 ⟨some 47, .load none (.t 46), none⟩,
 ⟨some 48, .len 1 (.t 47), none⟩,
 ⟨some 49, .bin .lss (.t 45) (.t 48), none⟩])
 (.cond (.t 49)
 .skip
 (.exit 0)))
 (.seq
 (.block 1
 (.seq
 (.draw [2, 3, 4, 7, 62] [(1, 6), (4, 6), (1, 9), (4, 9)] [
 ⟨some 52, .faddr (.t 3) 0, none⟩,
 ⟨some 53, .load none (.t 52), none⟩,
 ⟨some 54, .move (.t 7), none⟩,
 ⟨some 55, .iaddr none 2 (.t 53) (.t 54), none⟩,
 ⟨some 56, .load (some 2) (.t 55), none⟩,
 ⟨some 57, .faddr (.t 4) 0, none⟩,
 ⟨some 58, .load none (.t 57), none⟩,
 ⟨some 59, .move (.t 7), none⟩,
 ⟨some 60, .iaddr none 2 (.t 58) (.t 59), none⟩,
 ⟨some 61, .load (some 2) (.t 60), none⟩,
 ⟨some 62, .eqs true [2, 0] (.t 56) (.t 61), none⟩])
 (.cond (.t 62)
 (.seq
 (.region [6] [
 ⟨some 6, .move (.c (.p (.bool false))), none⟩])
 .ret)
 .skip)))
 (.region [2, 3, 4, 7] [
 ⟨some 50, .move (.t 7), none⟩,
 ⟨some 51, .bin .add (.t 50) (.c (.p (.int .i64 1))), none⟩,
 ⟨some 7, .move (.t 51), none⟩])))

def fc28_b1 : SC :=
 (.loc
 (.seq
 (.seq
 (.region [2, 3, 4, 8, 67] [
 ⟨some 63, .move (.t 8), none⟩,
 ⟨some 64, .faddr (.t 3) 1, none⟩,
 ⟨some 65, .load none (.t 64), none⟩,
 ⟨some 66, .len 1 (.t 65), none⟩,
 ⟨some 67, .bin .lss (.t 63) (.t 66), none⟩])
 (.cond (.t 67)
 .skip
 (.exit 2)))
 (.seq
 (.block 3
 (.seq
 (.draw [2, 3, 4, 8, 113] [(1, 7), (5, 7), (1, 11), (5, 11), (15, 21), (19, 21), (15, 25), (19, 25), (30, 36), (34, 36), (30, 40), (34, 40)] [
 ⟨some 70, .faddr (.t 3) 1, none⟩,
 ⟨some 71, .load none (.t 70), none⟩,
 ⟨some 72, .move (.t 8), none⟩,
 ⟨some 73, .iaddr none 3 (.t 71) (.t 72), none⟩,
 ⟨some 74, .faddr (.t 73) 0, none⟩,
 ⟨some 75, .load none (.t 74), none⟩,
 ⟨some 76, .faddr (.t 4) 1, none⟩,
 ⟨some 77, .load none (.t 76), none⟩,
 ⟨some 78, .move (.t 8), none⟩,
 ⟨some 79, .iaddr none 3 (.t 77) (.t 78), none⟩,
 ⟨some 80, .faddr (.t 79) 0, none⟩,
 ⟨some 81, .load none (.t 80), none⟩,
 ⟨some 82, .bin .neq (.t 75) (.t 81), none⟩,
 ⟨some 83, .move (.t 82), none⟩,
 ⟨some 84, .faddr (.t 3) 1, some (83, false)⟩,
 ⟨some 85, .load none (.t 84), some (83, false)⟩,
 ⟨some 86, .move (.t 8), some (83, false)⟩,
 ⟨some 87, .iaddr none 3 (.t 85) (.t 86), some (83, false)⟩,
 ⟨some 88, .faddr (.t 87) 2, some (83, false)⟩,
 ⟨some 89, .load none (.t 88), some (83, false)⟩,
 ⟨some 90, .faddr (.t 4) 1, some (83, false)⟩,
 ⟨some 91, .load none (.t 90), some (83, false)⟩,
 ⟨some 92, .move (.t 8), some (83, false)⟩,
 ⟨some 93, .iaddr none 3 (.t 91) (.t 92), some (83, false)⟩,
 ⟨some 94, .faddr (.t 93) 2, some (83, false)⟩,
 ⟨some 95, .load none (.t 94), some (83, false)⟩,
 ⟨some 96, .eqk 0 true (.t 89) (.t 95), some (83, false)⟩,
 ⟨some 97, .pick (.t 83) (.c (.p (.bool true))) (.t 96), none⟩,
 ⟨some 98, .move (.t 97), none⟩,
 ⟨some 99, .faddr (.t 3) 1, some (98, false)⟩,
 ⟨some 100, .load none (.t 99), some (98, false)⟩,
 ⟨some 101, .move (.t 8), some (98, false)⟩,
 ⟨some 102, .iaddr none 3 (.t 100) (.t 101), some (98, false)⟩,
 ⟨some 103, .faddr (.t 102) 1, some (98, false)⟩,
 ⟨some 104, .load none (.t 103), some (98, false)⟩,
 ⟨some 105, .faddr (.t 4) 1, some (98, false)⟩,
 ⟨some 106, .load none (.t 105), some (98, false)⟩,
 ⟨some 107, .move (.t 8), some (98, false)⟩,
 ⟨some 108, .iaddr none 3 (.t 106) (.t 107), some (98, false)⟩,
 ⟨some 109, .faddr (.t 108) 1, some (98, false)⟩,
 ⟨some 110, .load none (.t 109), some (98, false)⟩,
 ⟨some 111, .call (.c (.fn 57 [] [])) [(.t 104), (.t 110)], some (98, false)⟩,
 ⟨some 112, .un .not (.t 111), some (98, false)⟩,
 ⟨some 113, .pick (.t 98) (.c (.p (.bool true))) (.t 112), none⟩])
 (.cond (.t 113)
 (.seq
 (.region [6] [
 ⟨some 6, .move (.c (.p (.bool false))), none⟩])
 .ret)
 .skip)))
 (.region [2, 3, 4, 8] [
 ⟨some 68, .move (.t 8), none⟩,
 ⟨some 69, .bin .add (.t 68) (.c (.p (.int .i64 1))), none⟩,
 ⟨some 8, .move (.t 69), none⟩]))))

def fc28_b2 : SC :=
 (.loc
 (.seq
 (.seq
 (.region [2, 3, 4, 9, 118] [
 ⟨some 114, .move (.t 9), none⟩,
 ⟨some 115, .faddr (.t 3) 2, none⟩,
 ⟨some 116, .load none (.t 115), none⟩,
 ⟨some 117, .len 1 (.t 116), none⟩,
 ⟨some 118, .bin .lss (.t 114) (.t 117), none⟩])
 (.cond (.t 118)
 .skip
 (.exit 4)))
 (.seq
 (.block 5
 (.seq
 (.draw [2, 3, 4, 9, 166] [(1, 7), (5, 7), (1, 11), (5, 11), (15, 21), (19, 21), (15, 25), (19, 25), (31, 37), (35, 37), (31, 41), (35, 41)] [
 ⟨some 121, .faddr (.t 3) 2, none⟩,
 ⟨some 122, .load none (.t 121), none⟩,
 ⟨some 123, .move (.t 9), none⟩,
 ⟨some 124, .iaddr none 7 (.t 122) (.t 123), none⟩,
 ⟨some 125, .faddr (.t 124) 0, none⟩,
 ⟨some 126, .load none (.t 125), none⟩,
 ⟨some 127, .faddr (.t 4) 2, none⟩,
 ⟨some 128, .load none (.t 127), none⟩,
 ⟨some 129, .move (.t 9), none⟩,
 ⟨some 130, .iaddr none 7 (.t 128) (.t 129), none⟩,
 ⟨some 131, .faddr (.t 130) 0, none⟩,
 ⟨some 132, .load none (.t 131), none⟩,
 ⟨some 133, .bin .neq (.t 126) (.t 132), none⟩,
 ⟨some 134, .move (.t 133), none⟩,
 ⟨some 135, .faddr (.t 3) 2, some (134, false)⟩,
 ⟨some 136, .load none (.t 135), some (134, false)⟩,
 ⟨some 137, .move (.t 9), some (134, false)⟩,
 ⟨some 138, .iaddr none 7 (.t 136) (.t 137), some (134, false)⟩,
 ⟨some 139, .faddr (.t 138) 1, some (134, false)⟩,
 ⟨some 140, .load none (.t 139), some (134, false)⟩,
 ⟨some 141, .faddr (.t 4) 2, some (134, false)⟩,
 ⟨some 142, .load none (.t 141), some (134, false)⟩,
 ⟨some 143, .move (.t 9), some (134, false)⟩,
 ⟨some 144, .iaddr none 7 (.t 142) (.t 143), some (134, false)⟩,
 ⟨some 145, .faddr (.t 144) 1, some (134, false)⟩,
 ⟨some 146, .load none (.t 145), some (134, false)⟩,
 ⟨some 147, .call (.c (.fn 58 [] [])) [(.t 140), (.t 146)], some (134, false)⟩,
 ⟨some 148, .un .not (.t 147), some (134, false)⟩,
 ⟨some 149, .pick (.t 134) (.c (.p (.bool true))) (.t 148), none⟩,
 ⟨some 150, .move (.t 149), none⟩,
 ⟨some 151, .faddr (.t 3) 2, some (150, false)⟩,
 ⟨some 152, .load none (.t 151), some (150, false)⟩,
 ⟨some 153, .move (.t 9), some (150, false)⟩,
 ⟨some 154, .iaddr none 7 (.t 152) (.t 153), some (150, false)⟩,
 ⟨some 155, .faddr (.t 154) 2, some (150, false)⟩,
 ⟨some 156, .load (some 5) (.t 155), some (150, false)⟩,
 ⟨some 157, .faddr (.t 4) 2, some (150, false)⟩,
 ⟨some 158, .load none (.t 157), some (150, false)⟩,
 ⟨some 159, .move (.t 9), some (150, false)⟩,
 ⟨some 160, .iaddr none 7 (.t 158) (.t 159), some (150, false)⟩,
 ⟨some 161, .faddr (.t 160) 2, some (150, false)⟩,
 ⟨some 162, .load (some 5) (.t 161), some (150, false)⟩,
 ⟨some 163, .move (.t 2), some (150, false)⟩,
 ⟨some 164, .call (.c (.fn 29 [] [])) [(.t 156), (.t 162), (.t 163)], some (150, false)⟩,
 ⟨some 165, .un .not (.t 164), some (150, false)⟩,
 ⟨some 166, .pick (.t 150) (.c (.p (.bool true))) (.t 165), none⟩])
 (.cond (.t 166)
 (.seq
 (.region [6] [
 ⟨some 6, .move (.c (.p (.bool false))), none⟩])
 .ret)
 .skip)))
 (.region [2, 3, 4, 9] [
 ⟨some 119, .move (.t 9), none⟩,
 ⟨some 120, .bin .add (.t 119) (.c (.p (.int .i64 1))), none⟩,
 ⟨some 9, .move (.t 120), none⟩]))))

def fc28_b3 : SC :=
 (.loc
 (.seq
 (.seq
 (.region [2, 3, 4, 10, 171] [
 ⟨some 167, .move (.t 10), none⟩,
 ⟨some 168, .faddr (.t 3) 3, none⟩,
 ⟨some 169, .load none (.t 168), none⟩,
 ⟨some 170, .len 1 (.t 169), none⟩,
 ⟨some 171, .bin .lss (.t 167) (.t 170), none⟩])
 (.cond (.t 171)
 .skip
 (.exit 6)))
 (.seq
 (.block 7
 (.seq
 (.draw [2, 3, 4, 10, 203] [(1, 7), (5, 7), (1, 11), (5, 11), (15, 21), (19, 21), (15, 25), (19, 25)] [
 ⟨some 174, .faddr (.t 3) 3, none⟩,
 ⟨some 175, .load none (.t 174), none⟩,
 ⟨some 176, .move (.t 10), none⟩,
 ⟨some 177, .iaddr none 6 (.t 175) (.t 176), none⟩,
 ⟨some 178, .faddr (.t 177) 0, none⟩,
 ⟨some 179, .load none (.t 178), none⟩,
 ⟨some 180, .faddr (.t 4) 3, none⟩,
 ⟨some 181, .load none (.t 180), none⟩,
 ⟨some 182, .move (.t 10), none⟩,
 ⟨some 183, .iaddr none 6 (.t 181) (.t 182), none⟩,
 ⟨some 184, .faddr (.t 183) 0, none⟩,
 ⟨some 185, .load none (.t 184), none⟩,
 ⟨some 186, .bin .neq (.t 179) (.t 185), none⟩,
 ⟨some 187, .move (.t 186), none⟩,
 ⟨some 188, .faddr (.t 3) 3, some (187, false)⟩,
 ⟨some 189, .load none (.t 188), some (187, false)⟩,
 ⟨some 190, .move (.t 10), some (187, false)⟩,
 ⟨some 191, .iaddr none 6 (.t 189) (.t 190), some (187, false)⟩,
 ⟨some 192, .faddr (.t 191) 1, some (187, false)⟩,
 ⟨some 193, .load (some 5) (.t 192), some (187, false)⟩,
 ⟨some 194, .faddr (.t 4) 3, some (187, false)⟩,
 ⟨some 195, .load none (.t 194), some (187, false)⟩,
 ⟨some 196, .move (.t 10), some (187, false)⟩,
 ⟨some 197, .iaddr none 6 (.t 195) (.t 196), some (187, false)⟩,
 ⟨some 198, .faddr (.t 197) 1, some (187, false)⟩,
 ⟨some 199, .load (some 5) (.t 198), some (187, false)⟩,
 ⟨some 200, .move (.t 2), some (187, false)⟩,
 ⟨some 201, .call (.c (.fn 29 [] [])) [(.t 193), (.t 199), (.t 200)], some (187, false)⟩,
 ⟨some 202, .un .not (.t 201), some (187, false)⟩,
 ⟨some 203, .pick (.t 187) (.c (.p (.bool true))) (.t 202), none⟩])
 (.cond (.t 203)
 (.seq
 (.region [6] [
 ⟨some 6, .move (.c (.p (.bool false))), none⟩])
 .ret)
 .skip)))
 (.region [2, 3, 4, 10] [
 ⟨some 172, .move (.t 10), none⟩,
 ⟨some 173, .bin .add (.t 172) (.c (.p (.int .i64 1))), none⟩,
 ⟨some 10, .move (.t 173), none⟩]))))

def fc28 : FC where
  nt := 204
  np := 3
  res := [.t 6]
  body :=
    (.seq
   (.region [2, 3, 4] [
   ⟨some 3, .box (.t 0), none⟩,
   ⟨some 4, .box (.t 1), none⟩,
   ⟨some 6, .move (.c (.p (.bool false))), none⟩])
   (.seq
   (.seq
   (.region [2, 3, 4, 44] [
   ⟨some 11, .faddr (.t 3) 0, none⟩,
   ⟨some 12, .load none (.t 11), none⟩,
   ⟨some 13, .len 1 (.t 12), none⟩,
   ⟨some 14, .faddr (.t 4) 0, none⟩,
   ⟨some 15, .load none (.t 14), none⟩,
   ⟨some 16, .len 1 (.t 15), none⟩,
   ⟨some 17, .bin .neq (.t 13) (.t 16), none⟩,
   ⟨some 18, .move (.t 17), none⟩,
   ⟨some 19, .faddr (.t 3) 1, some (18, false)⟩,
   ⟨some 20, .load none (.t 19), some (18, false)⟩,
   ⟨some 21, .len 1 (.t 20), some (18, false)⟩,
   ⟨some 22, .faddr (.t 4) 1, some (18, false)⟩,
   ⟨some 23, .load none (.t 22), some (18, false)⟩,
   ⟨some 24, .len 1 (.t 23), some (18, false)⟩,
   ⟨some 25, .bin .neq (.t 21) (.t 24), some (18, false)⟩,
   ⟨some 26, .pick (.t 18) (.c (.p (.bool true))) (.t 25), none⟩,
   ⟨some 27, .move (.t 26), none⟩,
   ⟨some 28, .faddr (.t 3) 2, some (27, false)⟩,
   ⟨some 29, .load none (.t 28), some (27, false)⟩,
   ⟨some 30, .len 1 (.t 29), some (27, false)⟩,
   ⟨some 31, .faddr (.t 4) 2, some (27, false)⟩,
   ⟨some 32, .load none (.t 31), some (27, false)⟩,
   ⟨some 33, .len 1 (.t 32), some (27, false)⟩,
   ⟨some 34, .bin .neq (.t 30) (.t 33), some (27, false)⟩,
   ⟨some 35, .pick (.t 27) (.c (.p (.bool true))) (.t 34), none⟩,
   ⟨some 36, .move (.t 35), none⟩,
   ⟨some 37, .faddr (.t 3) 3, some (36, false)⟩,
   ⟨some 38, .load none (.t 37), some (36, false)⟩,
   ⟨some 39, .len 1 (.t 38), some (36, false)⟩,
   ⟨some 40, .faddr (.t 4) 3, some (36, false)⟩,
   ⟨some 41, .load none (.t 40), some (36, false)⟩,
   ⟨some 42, .len 1 (.t 41), some (36, false)⟩,
   ⟨some 43, .bin .neq (.t 39) (.t 42), some (36, false)⟩,
   ⟨some 44, .pick (.t 36) (.c (.p (.bool true))) (.t 43), none⟩])
   (.cond (.t 44)
   (.seq
   (.region [6] [
   ⟨some 6, .move (.c (.p (.bool false))), none⟩])
   .ret)
   .skip))
   (.seq
   (.seq
   (.region [2, 3, 4, 7] [
   ⟨some 7, .move (.c (.p (.int .i64 0))), none⟩])
   (.block 0
   (.loop [2, 3, 4, 7]
   fc28_b0)))
   (.seq
   (.seq
   (.region [2, 3, 4, 8] [
   ⟨some 8, .move (.c (.p (.int .i64 0))), none⟩])
   (.block 2
   (.loop [2, 3, 4, 8]
   fc28_b1)))
   (.seq
   (.seq
   (.region [2, 3, 4, 9] [
   ⟨some 9, .move (.c (.p (.int .i64 0))), none⟩])
   (.block 4
   (.loop [2, 3, 4, 9]
   fc28_b2)))
   (.seq
   (.seq
   (.region [2, 3, 4, 10] [
   ⟨some 10, .move (.c (.p (.int .i64 0))), none⟩])
   (.block 6
   (.loop [2, 3, 4, 10]
   fc28_b3)))
   (.seq
   (.region [6] [
   ⟨some 6, .move (.c (.p (.bool true))), none⟩])
   .ret)))))))

theorem ok28 : FOk Tryz.prog 28 fc28 := FOk.of Tryz.func28 (by kernel_rfl)

end Go.Proofs.YtalgjkpkkdljaaaGreatDoor
