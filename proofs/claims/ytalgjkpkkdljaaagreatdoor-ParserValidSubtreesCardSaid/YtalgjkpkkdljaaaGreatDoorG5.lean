/-
  A value-level evaluator for Go functions; the functions of this cut by it; plain laws. Part 5 of 6.
-/
import Derived.Test.YtalgjkpkkdljaaaGreatDoorProg
import Derived.Test.YtalgjkpkkdljaaaGreatDoorG3
import Derived.KernelRfl
import Derived.Test.YtalgjkpkkdljaaaGreatDoorG4

/-! The functions of the cut, as the evaluator's (printed by a program of ours), each checked against the program's. -/
namespace Go.Proofs.YtalgjkpkkdljaaaGreatDoor
open Go.Vs

/-- armature/armatureref02.Same -/
def fc29_b0 : SC :=
 (.loc
 (.seq
 (.seq
 (.region [2, 3, 4, 7, 50] [
 ⟨some 46, .move (.t 7), none⟩,
 ⟨some 47, .faddr (.t 3) 3, none⟩,
 ⟨some 48, .load none (.t 47), none⟩,
 ⟨some 49, .len 1 (.t 48), none⟩,
 ⟨some 50, .bin .lss (.t 46) (.t 49), none⟩])
 (.cond (.t 50)
 .skip
 (.exit 0)))
 (.seq
 (.block 1
 (.seq
 (.draw [2, 3, 4, 7, 65] [(1, 6), (4, 6), (1, 9), (4, 9)] [
 ⟨some 53, .faddr (.t 3) 3, none⟩,
 ⟨some 54, .load none (.t 53), none⟩,
 ⟨some 55, .move (.t 7), none⟩,
 ⟨some 56, .iaddr none 5 (.t 54) (.t 55), none⟩,
 ⟨some 57, .load (some 5) (.t 56), none⟩,
 ⟨some 58, .faddr (.t 4) 3, none⟩,
 ⟨some 59, .load none (.t 58), none⟩,
 ⟨some 60, .move (.t 7), none⟩,
 ⟨some 61, .iaddr none 5 (.t 59) (.t 60), none⟩,
 ⟨some 62, .load (some 5) (.t 61), none⟩,
 ⟨some 63, .move (.t 2), none⟩,
 ⟨some 64, .call (.c (.fn 29 [] [])) [(.t 57), (.t 62), (.t 63)], none⟩,
 ⟨some 65, .un .not (.t 64), none⟩])
 (.cond (.t 65)
 (.seq
 (.region [6] [
 ⟨some 6, .move (.c (.p (.bool false))), none⟩])
 .ret)
 .skip)))
 (.region [2, 3, 4, 7] [
 ⟨some 51, .move (.t 7), none⟩,
 ⟨some 52, .bin .add (.t 51) (.c (.p (.int .i64 1))), none⟩,
 ⟨some 7, .move (.t 52), none⟩]))))

def fc29 : FC where
  nt := 66
  np := 3
  res := [.t 6]
  body :=
    (.seq
   (.region [2, 3, 4] [
   ⟨some 3, .box (.t 0), none⟩,
   ⟨some 4, .box (.t 1), none⟩,
   ⟨some 6, .move (.c (.p (.bool false))), none⟩])
   (.seq
   (.seq
   (.region [2, 3, 4, 45] [
   ⟨some 8, .faddr (.t 3) 0, none⟩,
   ⟨some 9, .load none (.t 8), none⟩,
   ⟨some 10, .faddr (.t 4) 0, none⟩,
   ⟨some 11, .load none (.t 10), none⟩,
   ⟨some 12, .bin .neq (.t 9) (.t 11), none⟩,
   ⟨some 13, .move (.t 12), none⟩,
   ⟨some 14, .faddr (.t 3) 1, some (13, false)⟩,
   ⟨some 15, .load none (.t 14), some (13, false)⟩,
   ⟨some 16, .faddr (.t 4) 1, some (13, false)⟩,
   ⟨some 17, .load none (.t 16), some (13, false)⟩,
   ⟨some 18, .bin .neq (.t 15) (.t 17), some (13, false)⟩,
   ⟨some 19, .pick (.t 13) (.c (.p (.bool true))) (.t 18), none⟩,
   ⟨some 20, .move (.t 19), none⟩,
   ⟨some 21, .faddr (.t 3) 2, some (20, false)⟩,
   ⟨some 22, .load none (.t 21), some (20, false)⟩,
   ⟨some 23, .faddr (.t 4) 2, some (20, false)⟩,
   ⟨some 24, .load none (.t 23), some (20, false)⟩,
   ⟨some 25, .bin .neq (.t 22) (.t 24), some (20, false)⟩,
   ⟨some 26, .pick (.t 20) (.c (.p (.bool true))) (.t 25), none⟩,
   ⟨some 27, .move (.t 26), none⟩,
   ⟨some 28, .move (.t 2), some (27, false)⟩,
   ⟨some 29, .move (.t 28), some (27, false)⟩,
   ⟨some 30, .faddr (.t 3) 4, some (29, true)⟩,
   ⟨some 31, .load none (.t 30), some (29, true)⟩,
   ⟨some 32, .faddr (.t 4) 4, some (29, true)⟩,
   ⟨some 33, .load none (.t 32), some (29, true)⟩,
   ⟨some 34, .bin .neq (.t 31) (.t 33), some (29, true)⟩,
   ⟨some 35, .pick (.t 29) (.t 34) (.c (.p (.bool false))), some (27, false)⟩,
   ⟨some 36, .pick (.t 27) (.c (.p (.bool true))) (.t 35), none⟩,
   ⟨some 37, .move (.t 36), none⟩,
   ⟨some 38, .faddr (.t 3) 3, some (37, false)⟩,
   ⟨some 39, .load none (.t 38), some (37, false)⟩,
   ⟨some 40, .len 1 (.t 39), some (37, false)⟩,
   ⟨some 41, .faddr (.t 4) 3, some (37, false)⟩,
   ⟨some 42, .load none (.t 41), some (37, false)⟩,
   ⟨some 43, .len 1 (.t 42), some (37, false)⟩,
   ⟨some 44, .bin .neq (.t 40) (.t 43), some (37, false)⟩,
   ⟨some 45, .pick (.t 37) (.c (.p (.bool true))) (.t 44), none⟩])
   (.cond (.t 45)
   (.seq
   (.region [6] [
   ⟨some 6, .move (.c (.p (.bool false))), none⟩])
   .ret)
   .skip))
   (.seq
   (.seq
   (.region [2, 3, 4, 7] [
   ⟨some 7, .move (.c (.p (.int .i64 0))), none⟩])
   (.block 0
   (.loop [2, 3, 4, 7]
   fc29_b0)))
   (.seq
   (.region [6] [
   ⟨some 6, .move (.c (.p (.bool true))), none⟩])
   .ret))))

theorem ok29 : FOk Tryz.prog 29 fc29 := FOk.of Tryz.func29 (by kernel_rfl)

/-- armature/armaturelaw02.moved -/
def fc30_b0 : SC :=
 (.seq
 (.seq
 (.region [0, 1, 2, 3, 9, 10, 11, 33] [
 ⟨some 30, .move (.t 11), none⟩,
 ⟨some 31, .move (.t 2), none⟩,
 ⟨some 32, .len 1 (.t 31), none⟩,
 ⟨some 33, .bin .lss (.t 30) (.t 32), none⟩])
 (.cond (.t 33)
 .skip
 (.exit 2)))
 (.seq
 (.block 3
 (.draw [0, 1, 2, 3, 9, 10, 11] [(6, 10), (17, 21)] [
 ⟨some 36, .move (.t 10), none⟩,
 ⟨some 37, .move (.t 36), none⟩,
 ⟨some 38, .move (.t 0), some (37, false)⟩,
 ⟨some 39, .move (.t 9), some (37, false)⟩,
 ⟨some 40, .iaddr none 2 (.t 38) (.t 39), some (37, false)⟩,
 ⟨some 41, .faddr (.t 40) 1, some (37, false)⟩,
 ⟨some 42, .load none (.t 41), some (37, false)⟩,
 ⟨some 43, .move (.t 2), some (37, false)⟩,
 ⟨some 44, .move (.t 11), some (37, false)⟩,
 ⟨some 45, .iaddr none 1 (.t 43) (.t 44), some (37, false)⟩,
 ⟨some 46, .load none (.t 45), some (37, false)⟩,
 ⟨some 47, .bin .eql (.t 42) (.t 46), some (37, false)⟩,
 ⟨some 48, .move (.t 47), some (37, false)⟩,
 ⟨some 49, .move (.t 1), some (48, true)⟩,
 ⟨some 50, .move (.t 9), some (48, true)⟩,
 ⟨some 51, .iaddr none 2 (.t 49) (.t 50), some (48, true)⟩,
 ⟨some 52, .faddr (.t 51) 1, some (48, true)⟩,
 ⟨some 53, .load none (.t 52), some (48, true)⟩,
 ⟨some 54, .move (.t 3), some (48, true)⟩,
 ⟨some 55, .move (.t 11), some (48, true)⟩,
 ⟨some 56, .iaddr none 1 (.t 54) (.t 55), some (48, true)⟩,
 ⟨some 57, .load none (.t 56), some (48, true)⟩,
 ⟨some 58, .bin .eql (.t 53) (.t 57), some (48, true)⟩,
 ⟨some 59, .pick (.t 48) (.t 58) (.c (.p (.bool false))), some (37, false)⟩,
 ⟨some 60, .pick (.t 37) (.c (.p (.bool true))) (.t 59), none⟩,
 ⟨some 10, .move (.t 60), none⟩]))
 (.region [0, 1, 2, 3, 9, 10, 11] [
 ⟨some 34, .move (.t 11), none⟩,
 ⟨some 35, .bin .add (.t 34) (.c (.p (.int .i64 1))), none⟩,
 ⟨some 11, .move (.t 35), none⟩])))

def fc30_b1 : SC :=
 (.seq
 (.seq
 (.region [0, 1, 2, 3, 9, 27] [
 ⟨some 24, .move (.t 9), none⟩,
 ⟨some 25, .move (.t 0), none⟩,
 ⟨some 26, .len 1 (.t 25), none⟩,
 ⟨some 27, .bin .lss (.t 24) (.t 26), none⟩])
 (.cond (.t 27)
 .skip
 (.exit 0)))
 (.seq
 (.block 1
 (.seq
 (.region [0, 1, 2, 3, 9, 10] [
 ⟨some 10, .move (.c (.p (.bool false))), none⟩])
 (.seq
 (.seq
 (.region [0, 1, 2, 3, 9, 10, 11] [
 ⟨some 11, .move (.c (.p (.int .i64 0))), none⟩])
 (.block 2
 (.loop [0, 1, 2, 3, 9, 10, 11]
 fc30_b0)))
 (.seq
 (.draw [0, 1, 2, 3, 9, 75] [(7, 12)] [
 ⟨some 61, .move (.t 10), none⟩,
 ⟨some 62, .un .not (.t 61), none⟩,
 ⟨some 63, .move (.t 62), none⟩,
 ⟨some 64, .move (.t 0), some (63, false)⟩,
 ⟨some 65, .move (.t 9), some (63, false)⟩,
 ⟨some 66, .iaddr none 2 (.t 64) (.t 65), some (63, false)⟩,
 ⟨some 67, .faddr (.t 66) 0, some (63, false)⟩,
 ⟨some 68, .load none (.t 67), some (63, false)⟩,
 ⟨some 69, .move (.t 1), some (63, false)⟩,
 ⟨some 70, .move (.t 9), some (63, false)⟩,
 ⟨some 71, .iaddr none 2 (.t 69) (.t 70), some (63, false)⟩,
 ⟨some 72, .faddr (.t 71) 0, some (63, false)⟩,
 ⟨some 73, .load none (.t 72), some (63, false)⟩,
 ⟨some 74, .bin .neq (.t 68) (.t 73), some (63, false)⟩,
 ⟨some 75, .pick (.t 63) (.c (.p (.bool true))) (.t 74), none⟩])
 (.cond (.t 75)
 (.seq
 (.region [8] [
 ⟨some 8, .move (.c (.p (.bool false))), none⟩])
 .ret)
 .skip)))))
 (.region [0, 1, 2, 3, 9] [
 ⟨some 28, .move (.t 9), none⟩,
 ⟨some 29, .bin .add (.t 28) (.c (.p (.int .i64 1))), none⟩,
 ⟨some 9, .move (.t 29), none⟩])))

def fc30 : FC where
  nt := 76
  np := 4
  res := [.t 8]
  body :=
    (.seq
   (.region [0, 1, 2, 3] [
   ⟨some 8, .move (.c (.p (.bool false))), none⟩])
   (.seq
   (.seq
   (.region [0, 1, 2, 3, 23] [
   ⟨some 12, .move (.t 0), none⟩,
   ⟨some 13, .len 1 (.t 12), none⟩,
   ⟨some 14, .move (.t 1), none⟩,
   ⟨some 15, .len 1 (.t 14), none⟩,
   ⟨some 16, .bin .neq (.t 13) (.t 15), none⟩,
   ⟨some 17, .move (.t 16), none⟩,
   ⟨some 18, .move (.t 2), some (17, false)⟩,
   ⟨some 19, .len 1 (.t 18), some (17, false)⟩,
   ⟨some 20, .move (.t 3), some (17, false)⟩,
   ⟨some 21, .len 1 (.t 20), some (17, false)⟩,
   ⟨some 22, .bin .neq (.t 19) (.t 21), some (17, false)⟩,
   ⟨some 23, .pick (.t 17) (.c (.p (.bool true))) (.t 22), none⟩])
   (.cond (.t 23)
   (.seq
   (.region [8] [
   ⟨some 8, .move (.c (.p (.bool false))), none⟩])
   .ret)
   .skip))
   (.seq
   (.seq
   (.region [0, 1, 2, 3, 9] [
   ⟨some 9, .move (.c (.p (.int .i64 0))), none⟩])
   (.block 0
   (.loop [0, 1, 2, 3, 9]
   fc30_b1)))
   (.seq
   (.region [8] [
   ⟨some 8, .move (.c (.p (.bool true))), none⟩])
   .ret))))

theorem ok30 : FOk Tryz.prog 30 fc30 := FOk.of Tryz.func30 (by kernel_rfl)

/-- armature/armaturelaw02.ends -/
def fc31_b0 : SC :=
 (.loc
 (.seq
 (.seq
 (.region [0, 3, 4, 5, 10] [
 ⟨some 7, .move (.t 5), none⟩,
 ⟨some 8, .move (.t 0), none⟩,
 ⟨some 9, .len 1 (.t 8), none⟩,
 ⟨some 10, .bin .lss (.t 7) (.t 9), none⟩])
 (.cond (.t 10)
 .skip
 (.exit 0)))
 (.seq
 (.block 1
 (.seq
 (.seq
 (.region [0, 3, 4, 5, 18] [
 ⟨some 13, .move (.t 0), none⟩,
 ⟨some 14, .move (.t 5), none⟩,
 ⟨some 15, .iaddr none 3 (.t 13) (.t 14), none⟩,
 ⟨some 16, .faddr (.t 15) 1, none⟩,
 ⟨some 17, .load none (.t 16), none⟩,
 ⟨some 18, .bin .eql (.t 17) (.c (.p (.str [123]))), none⟩])
 (.cond (.t 18)
 (.region [0, 3, 4, 5] [
 ⟨some 19, .move (.t 4), none⟩,
 ⟨some 20, .bin .add (.t 19) (.c (.p (.int .i64 1))), none⟩,
 ⟨some 4, .move (.t 20), none⟩])
 .skip))
 (.seq
 (.seq
 (.region [0, 3, 4, 5, 26] [
 ⟨some 21, .move (.t 0), none⟩,
 ⟨some 22, .move (.t 5), none⟩,
 ⟨some 23, .iaddr none 3 (.t 21) (.t 22), none⟩,
 ⟨some 24, .faddr (.t 23) 1, none⟩,
 ⟨some 25, .load none (.t 24), none⟩,
 ⟨some 26, .bin .eql (.t 25) (.c (.p (.str [125]))), none⟩])
 (.cond (.t 26)
 (.region [0, 3, 4, 5] [
 ⟨some 27, .move (.t 4), none⟩,
 ⟨some 28, .bin .sub (.t 27) (.c (.p (.int .i64 1))), none⟩,
 ⟨some 4, .move (.t 28), none⟩])
 .skip))
 (.seq
 (.region [0, 3, 4, 5, 46] [
 ⟨some 29, .move (.t 4), none⟩,
 ⟨some 30, .bin .eql (.t 29) (.c (.p (.int .i64 0))), none⟩,
 ⟨some 31, .move (.t 30), none⟩,
 ⟨some 32, .move (.t 0), some (31, true)⟩,
 ⟨some 33, .move (.t 5), some (31, true)⟩,
 ⟨some 34, .iaddr none 3 (.t 32) (.t 33), some (31, true)⟩,
 ⟨some 35, .faddr (.t 34) 1, some (31, true)⟩,
 ⟨some 36, .load none (.t 35), some (31, true)⟩,
 ⟨some 37, .bin .eql (.t 36) (.c (.p (.str [125]))), some (31, true)⟩,
 ⟨some 38, .move (.t 37), some (31, true)⟩,
 ⟨some 39, .move (.t 0), some (38, false)⟩,
 ⟨some 40, .move (.t 5), some (38, false)⟩,
 ⟨some 41, .iaddr none 3 (.t 39) (.t 40), some (38, false)⟩,
 ⟨some 42, .faddr (.t 41) 1, some (38, false)⟩,
 ⟨some 43, .load none (.t 42), some (38, false)⟩,
 ⟨some 44, .bin .eql (.t 43) (.c (.p (.str [59]))), some (38, false)⟩,
 ⟨some 45, .pick (.t 38) (.c (.p (.bool true))) (.t 44), some (31, true)⟩,
 ⟨some 46, .pick (.t 31) (.t 45) (.c (.p (.bool false))), none⟩])
 (.cond (.t 46)
 (.region [0, 3, 4, 5] [
 ⟨some 47, .move (.t 3), none⟩,
 ⟨some 48, .move (.t 0), none⟩,
 ⟨some 49, .move (.t 5), none⟩,
 ⟨some 50, .iaddr none 3 (.t 48) (.t 49), none⟩,
 ⟨some 51, .faddr (.t 50) 2, none⟩,
 ⟨some 52, .load none (.t 51), none⟩,
 ⟨some 53, .bin .add (.t 52) (.c (.p (.int .i64 1))), none⟩,
 ⟨some 54, .bslice 3 1 1 (.int .i64 0) [(0, (.t 53))], none⟩,
 ⟨some 55, .append 3 1 8 (.t 47) (.t 54), none⟩,
 ⟨some 3, .move (.t 55), none⟩])
 .skip)))))
 (.region [0, 3, 4, 5] [
 ⟨some 11, .move (.t 5), none⟩,
 ⟨some 12, .bin .add (.t 11) (.c (.p (.int .i64 1))), none⟩,
 ⟨some 5, .move (.t 12), none⟩]))))

def fc31 : FC where
  nt := 57
  np := 1
  res := [.t 2]
  body :=
    (.seq
   (.region [0] [
   ⟨some 2, .move (.c (.p (.nils))), none⟩])
   (.seq
   (.region [0, 3] [
   ⟨some 6, .bslice 3 1 1 (.int .i64 0) [(0, (.c (.p (.int .i64 0))))], none⟩,
   ⟨some 3, .move (.t 6), none⟩])
   (.seq
   (.region [0, 3, 4] [
   ⟨some 4, .move (.c (.p (.int .i64 0))), none⟩])
   (.seq
   (.seq
   (.region [0, 3, 4, 5] [
   ⟨some 5, .move (.c (.p (.int .i64 0))), none⟩])
   (.block 0
   (.seq
   (.tok 3 3 1)
   (.loop [0, 3, 4, 5]
   fc31_b0))))
   (.seq
   (.region [2] [
   ⟨some 56, .move (.t 3), none⟩,
   ⟨some 2, .move (.t 56), none⟩])
   .ret)))))

theorem ok31 : FOk Tryz.prog 31 fc31 := FOk.of Tryz.func31 (by kernel_rfl)

/-- armature/armaturelaw03.head -/
def fc32 : FC where
  nt := 120
  np := 0
  res := [.t 0]
  body :=
    (.seq
   (.region [] [
   ⟨some 0, .move (.c (.p (.bool false))), none⟩])
   (.seq
   (.region [1] [
   ⟨some 10, .call (.c (.fn 59 [] [])) [(.c (.p (.str [65])))], none⟩,
   ⟨some 11, .call (.c (.fn 60 [] [])) [(.c (.p (.str [112])))], none⟩,
   ⟨some 12, .bslice 39 5 2 (.agg [.int .i64 0, .str [], .int .i64 0, .nils, .int .i64 0]) [(0, (.t 10)), (1, (.t 11))], none⟩,
   ⟨some 13, .build [.int .i64 0, .str [], .int .i64 0, .nils, .int .i64 0] [(0, 1, (.c (.p (.int .i64 45)))), (1, 1, (.c (.p (.str [120])))), (3, 1, (.t 12))], none⟩,
   ⟨some 1, .alloc [.int .i64 0, .str [], .int .i64 0, .nils, .int .i64 0], none⟩,
   ⟨none, .store 5 (.t 1) (.t 13), none⟩])
   (.seq
   (.region [1, 2] [
   ⟨some 14, .build [.int .i64 0, .str [], .int .i64 0, .nils, .int .i64 0] [(0, 1, (.c (.p (.int .i64 30))))], none⟩,
   ⟨some 15, .build [.int .i64 0, .str [], .int .i64 0, .nils, .int .i64 0] [(0, 1, (.c (.p (.int .i64 31))))], none⟩,
   ⟨some 16, .call (.c (.fn 61 [] [])) [(.c (.p (.int .i64 41))), (.t 14), (.t 15)], none⟩,
   ⟨some 17, .bslice 39 5 1 (.agg [.int .i64 0, .str [], .int .i64 0, .nils, .int .i64 0]) [(0, (.t 16))], none⟩,
   ⟨some 18, .build [.int .i64 0, .str [], .int .i64 0, .nils, .int .i64 0] [(0, 1, (.c (.p (.int .i64 40)))), (3, 1, (.t 17))], none⟩,
   ⟨some 2, .alloc [.int .i64 0, .str [], .int .i64 0, .nils, .int .i64 0], none⟩,
   ⟨none, .store 5 (.t 2) (.t 18), none⟩])
   (.seq
   (.region [1, 2, 3] [
   ⟨some 19, .call (.c (.fn 59 [] [])) [(.c (.p (.str [97])))], none⟩,
   ⟨some 20, .call (.c (.fn 59 [] [])) [(.c (.p (.str [98])))], none⟩,
   ⟨some 21, .call (.c (.fn 59 [] [])) [(.c (.p (.str [99])))], none⟩,
   ⟨some 22, .call (.c (.fn 61 [] [])) [(.c (.p (.int .i64 8))), (.t 20), (.t 21)], none⟩,
   ⟨some 23, .call (.c (.fn 61 [] [])) [(.c (.p (.int .i64 8))), (.t 19), (.t 22)], none⟩,
   ⟨some 3, .alloc [.int .i64 0, .str [], .int .i64 0, .nils, .int .i64 0], none⟩,
   ⟨none, .store 5 (.t 3) (.t 23), none⟩])
   (.seq
   (.region [1, 2, 3, 4] [
   ⟨some 24, .call (.c (.fn 59 [] [])) [(.c (.p (.str [97])))], none⟩,
   ⟨some 25, .call (.c (.fn 59 [] [])) [(.c (.p (.str [98])))], none⟩,
   ⟨some 26, .bslice 39 5 1 (.agg [.int .i64 0, .str [], .int .i64 0, .nils, .int .i64 0]) [(0, (.t 25))], none⟩,
   ⟨some 27, .build [.int .i64 0, .str [], .int .i64 0, .nils, .int .i64 0] [(0, 1, (.c (.p (.int .i64 11)))), (3, 1, (.t 26))], none⟩,
   ⟨some 28, .call (.c (.fn 61 [] [])) [(.c (.p (.int .i64 9))), (.t 24), (.t 27)], none⟩,
   ⟨some 29, .bslice 39 5 1 (.agg [.int .i64 0, .str [], .int .i64 0, .nils, .int .i64 0]) [(0, (.t 28))], none⟩,
   ⟨some 30, .build [.int .i64 0, .str [], .int .i64 0, .nils, .int .i64 0] [(0, 1, (.c (.p (.int .i64 5)))), (3, 1, (.t 29))], none⟩,
   ⟨some 4, .alloc [.int .i64 0, .str [], .int .i64 0, .nils, .int .i64 0], none⟩,
   ⟨none, .store 5 (.t 4) (.t 30), none⟩])
   (.seq
   (.region [1, 2, 3, 4, 5] [
   ⟨some 31, .build [.int .i64 0, .str [], .int .i64 0, .nils, .int .i64 0] [(0, 1, (.c (.p (.int .i64 20)))), (2, 1, (.c (.p (.int .i64 (-3)))))], none⟩,
   ⟨some 32, .call (.c (.fn 59 [] [])) [(.c (.p (.str [97])))], none⟩,
   ⟨some 33, .build [.int .i64 0, .str [], .int .i64 0, .nils, .int .i64 0] [(0, 1, (.c (.p (.int .i64 2)))), (2, 1, (.c (.p (.int .i64 2))))], none⟩,
   ⟨some 34, .call (.c (.fn 61 [] [])) [(.c (.p (.int .i64 6))), (.t 32), (.t 33)], none⟩,
   ⟨some 35, .bslice 39 5 1 (.agg [.int .i64 0, .str [], .int .i64 0, .nils, .int .i64 0]) [(0, (.t 34))], none⟩,
   ⟨some 36, .build [.int .i64 0, .str [], .int .i64 0, .nils, .int .i64 0] [(0, 1, (.c (.p (.int .i64 21)))), (3, 1, (.t 35))], none⟩,
   ⟨some 37, .call (.c (.fn 61 [] [])) [(.c (.p (.int .i64 39))), (.t 31), (.t 36)], none⟩,
   ⟨some 5, .alloc [.int .i64 0, .str [], .int .i64 0, .nils, .int .i64 0], none⟩,
   ⟨none, .store 5 (.t 5) (.t 37), none⟩])
   (.seq
   (.draw [1, 2, 3, 4, 5, 6] [(8, 11), (8, 12), (11, 12), (8, 13), (8, 17), (11, 17), (12, 17), (13, 17)] [
   ⟨some 38, .build [.str [], .bool false] [(0, 1, (.c (.p (.str [65])))), (1, 1, (.c (.p (.bool true))))], none⟩,
   ⟨some 39, .build [.str [], .bool false] [(0, 1, (.c (.p (.str [66]))))], none⟩,
   ⟨some 40, .bslice 81 2 2 (.agg [.str [], .bool false]) [(0, (.t 38)), (1, (.t 39))], none⟩,
   ⟨some 41, .bslice 3 1 2 (.int .i64 0) [(0, (.c (.p (.int .i64 0)))), (1, (.c (.p (.int .i64 1))))], none⟩,
   ⟨some 42, .build [.str [], .nils, .bool false] [(0, 1, (.c (.p (.str [102])))), (1, 1, (.t 41)), (2, 1, (.c (.p (.bool true))))], none⟩,
   ⟨some 43, .bslice 70 3 1 (.agg [.str [], .nils, .bool false]) [(0, (.t 42))], none⟩,
   ⟨some 44, .build [.str [], .int .i64 0] [(0, 1, (.c (.p (.str [120])))), (1, 1, (.c (.p (.int .i64 1))))], none⟩,
   ⟨some 45, .bslice 72 2 1 (.agg [.str [], .int .i64 0]) [(0, (.t 44))], none⟩,
   ⟨some 46, .load (some 5) (.t 5), none⟩,
   ⟨some 47, .build [.str [], .nils, .int .i64 0, .str [], .int .i64 0, .nils, .int .i64 0] [(0, 1, (.c (.p (.str [112])))), (1, 1, (.t 45)), (2, 5, (.t 46))], none⟩,
   ⟨some 48, .bslice 41 7 1 (.agg [.str [], .nils, .int .i64 0, .str [], .int .i64 0, .nils, .int .i64 0]) [(0, (.t 47))], none⟩,
   ⟨some 49, .load (some 5) (.t 1), none⟩,
   ⟨some 50, .call (.c (.fn 60 [] [])) [(.c (.p (.str [113])))], none⟩,
   ⟨some 51, .call (.c (.fn 61 [] [])) [(.c (.p (.int .i64 41))), (.t 49), (.t 50)], none⟩,
   ⟨some 52, .build [.str [], .int .i64 0, .str [], .int .i64 0, .nils, .int .i64 0] [(0, 1, (.c (.p (.str [113])))), (1, 5, (.t 51))], none⟩,
   ⟨some 53, .bslice 44 6 1 (.agg [.str [], .int .i64 0, .str [], .int .i64 0, .nils, .int .i64 0]) [(0, (.t 52))], none⟩,
   ⟨some 54, .build [.nils, .nils, .nils, .nils] [(0, 1, (.t 40)), (1, 1, (.t 43)), (2, 1, (.t 48)), (3, 1, (.t 53))], none⟩,
   ⟨some 6, .alloc [.nils, .nils, .nils, .nils], none⟩,
   ⟨none, .store 4 (.t 6) (.t 54), none⟩])
   (.seq
   (.draw [1, 2, 3, 4, 5, 6, 7] [(0, 1), (6, 7)] [
   ⟨some 55, .load (some 5) (.t 1), none⟩,
   ⟨some 56, .call (.c (.fn 60 [] [])) [(.c (.p (.str [113])))], none⟩,
   ⟨some 57, .call (.c (.fn 61 [] [])) [(.c (.p (.int .i64 41))), (.t 55), (.t 56)], none⟩,
   ⟨some 58, .call (.c (.fn 34 [] [])) [(.t 57)], none⟩,
   ⟨some 59, .bin .eql (.t 58) (.c (.p (.str [40, 97, 108, 108, 32, 120, 58, 32, 65, 32, 124, 32, 112, 91, 93, 41, 32, 38, 38, 32, 113, 91, 93]))), none⟩,
   ⟨some 60, .move (.t 59), none⟩,
   ⟨some 61, .call (.c (.fn 60 [] [])) [(.c (.p (.str [113])))], some (60, true)⟩,
   ⟨some 62, .load (some 5) (.t 1), some (60, true)⟩,
   ⟨some 63, .call (.c (.fn 61 [] [])) [(.c (.p (.int .i64 41))), (.t 61), (.t 62)], some (60, true)⟩,
   ⟨some 64, .call (.c (.fn 34 [] [])) [(.t 63)], some (60, true)⟩,
   ⟨some 65, .bin .eql (.t 64) (.c (.p (.str [113, 91, 93, 32, 38, 38, 32, 97, 108, 108, 32, 120, 58, 32, 65, 32, 124, 32, 112, 91, 93]))), some (60, true)⟩,
   ⟨some 66, .pick (.t 60) (.t 65) (.c (.p (.bool false))), none⟩,
   ⟨some 7, .move (.t 66), none⟩])
   (.seq
   (.region [1, 2, 6, 7, 8] [
   ⟨some 67, .load (some 5) (.t 2), none⟩,
   ⟨some 68, .call (.c (.fn 34 [] [])) [(.t 67)], none⟩,
   ⟨some 69, .bin .eql (.t 68) (.c (.p (.str [110, 111, 116, 32, 40, 116, 114, 117, 101, 32, 38, 38, 32, 102, 97, 108, 115, 101, 41]))), none⟩,
   ⟨some 70, .move (.t 69), none⟩,
   ⟨some 71, .load (some 5) (.t 3), some (70, true)⟩,
   ⟨some 72, .call (.c (.fn 34 [] [])) [(.t 71)], some (70, true)⟩,
   ⟨some 73, .bin .eql (.t 72) (.c (.p (.str [97, 32, 45, 32, 40, 98, 32, 45, 32, 99, 41]))), some (70, true)⟩,
   ⟨some 74, .pick (.t 70) (.t 73) (.c (.p (.bool false))), none⟩,
   ⟨some 75, .move (.t 74), none⟩,
   ⟨some 76, .load (some 5) (.t 4), some (75, true)⟩,
   ⟨some 77, .call (.c (.fn 34 [] [])) [(.t 76)], some (75, true)⟩,
   ⟨some 78, .bin .eql (.t 77) (.c (.p (.str [40, 97, 46, 126, 98, 41, 39]))), some (75, true)⟩,
   ⟨some 79, .pick (.t 75) (.t 78) (.c (.p (.bool false))), none⟩,
   ⟨some 80, .move (.t 79), none⟩,
   ⟨some 81, .load (some 5) (.t 5), some (80, true)⟩,
   ⟨some 82, .call (.c (.fn 34 [] [])) [(.t 81)], some (80, true)⟩,
   ⟨some 83, .bin .eql (.t 82) (.c (.p (.str [45, 51, 32, 60, 32, 35, 40, 97, 32, 43, 32, 110, 111, 110, 101, 91, 50, 93, 41]))), some (80, true)⟩,
   ⟨some 84, .pick (.t 80) (.t 83) (.c (.p (.bool false))), none⟩,
   ⟨some 8, .move (.t 84), none⟩])
   (.seq
   (.region [1, 2, 6, 7, 8, 9] [
   ⟨some 85, .load (some 4) (.t 6), none⟩,
   ⟨some 86, .call (.c (.fn 62 [] [])) [(.t 85)], none⟩,
   ⟨some 87, .bin .eql (.t 86) (.c (.p (.str [115, 111, 114, 116, 32, 65, 32, 111, 114, 100, 101, 114, 101, 100, 59, 10, 115, 111, 114, 116, 32, 66, 59, 10, 118, 97, 114, 32, 102, 105, 101, 108, 100, 32, 102, 58, 32, 65, 32, 45, 62, 32, 66, 59, 10, 112, 114, 101, 100, 32, 112, 91, 120, 58, 32, 66, 93, 32, 123, 32, 45, 51, 32, 60, 32, 35, 40, 97, 32, 43, 32, 110, 111, 110, 101, 91, 50, 93, 41, 32, 125, 10, 102, 97, 99, 116, 32, 113, 32, 123, 32, 40, 97, 108, 108, 32, 120, 58, 32, 65, 32, 124, 32, 112, 91, 93, 41, 32, 38, 38, 32, 113, 91, 93, 32, 125, 10]))), none⟩,
   ⟨some 9, .move (.t 87), none⟩])
   (.seq
   (.draw [0] [(8, 9), (8, 10), (16, 17), (22, 23)] [
   ⟨some 88, .move (.t 7), none⟩,
   ⟨some 89, .move (.t 88), none⟩,
   ⟨some 90, .move (.t 8), some (89, true)⟩,
   ⟨some 91, .pick (.t 89) (.t 90) (.c (.p (.bool false))), none⟩,
   ⟨some 92, .move (.t 91), none⟩,
   ⟨some 93, .move (.t 9), some (92, true)⟩,
   ⟨some 94, .pick (.t 92) (.t 93) (.c (.p (.bool false))), none⟩,
   ⟨some 95, .move (.t 94), none⟩,
   ⟨some 96, .load (some 5) (.t 1), some (95, true)⟩,
   ⟨some 97, .call (.c (.fn 59 [] [])) [(.c (.p (.str [65])))], some (95, true)⟩,
   ⟨some 98, .call (.c (.fn 60 [] [])) [(.c (.p (.str [112])))], some (95, true)⟩,
   ⟨some 99, .bslice 39 5 2 (.agg [.int .i64 0, .str [], .int .i64 0, .nils, .int .i64 0]) [(0, (.t 97)), (1, (.t 98))], some (95, true)⟩,
   ⟨some 100, .build [.int .i64 0, .str [], .int .i64 0, .nils, .int .i64 0] [(0, 1, (.c (.p (.int .i64 45)))), (1, 1, (.c (.p (.str [120])))), (4, 1, (.c (.p (.int .i64 7)))), (3, 1, (.t 99))], some (95, true)⟩,
   ⟨some 101, .call (.c (.fn 35 [] [])) [(.t 96), (.t 100)], some (95, true)⟩,
   ⟨some 102, .pick (.t 95) (.t 101) (.c (.p (.bool false))), none⟩,
   ⟨some 103, .move (.t 102), none⟩,
   ⟨some 104, .load (some 5) (.t 1), some (103, true)⟩,
   ⟨some 105, .load (some 5) (.t 2), some (103, true)⟩,
   ⟨some 106, .call (.c (.fn 35 [] [])) [(.t 104), (.t 105)], some (103, true)⟩,
   ⟨some 107, .un .not (.t 106), some (103, true)⟩,
   ⟨some 108, .pick (.t 103) (.t 107) (.c (.p (.bool false))), none⟩,
   ⟨some 109, .move (.t 108), none⟩,
   ⟨some 110, .load (some 4) (.t 6), some (109, true)⟩,
   ⟨some 111, .load (some 4) (.t 6), some (109, true)⟩,
   ⟨some 112, .call (.c (.fn 63 [] [])) [(.t 110), (.t 111)], some (109, true)⟩,
   ⟨some 113, .pick (.t 109) (.t 112) (.c (.p (.bool false))), none⟩,
   ⟨some 114, .move (.t 113), none⟩,
   ⟨some 115, .load (some 4) (.t 6), some (114, true)⟩,
   ⟨some 116, .build [.nils, .nils, .nils, .nils] [], some (114, true)⟩,
   ⟨some 117, .call (.c (.fn 63 [] [])) [(.t 115), (.t 116)], some (114, true)⟩,
   ⟨some 118, .un .not (.t 117), some (114, true)⟩,
   ⟨some 119, .pick (.t 114) (.t 118) (.c (.p (.bool false))), none⟩,
   ⟨some 0, .move (.t 119), none⟩])
   .ret)))))))))))

theorem ok32 : FOk Tryz.prog 32 fc32 := FOk.of Tryz.func32 (by kernel_rfl)

/-- armature/armaturelaw03.formula -/
def fc33 : FC where
  nt := 13
  np := 1
  res := [.t 2]
  body :=
    (.seq
   (.region [1] [
   ⟨some 1, .box (.t 0), none⟩,
   ⟨some 2, .move (.c (.p (.bool false))), none⟩])
   (.seq
   (.region [1, 3] [
   ⟨some 4, .load (some 5) (.t 1), none⟩,
   ⟨some 5, .call (.c (.fn 64 [] [])) [(.t 4)], none⟩,
   ⟨some 3, .move (.t 5), none⟩])
   (.seq
   (.region [2] [
   ⟨some 6, .move (.t 3), none⟩,
   ⟨some 7, .move (.t 6), none⟩,
   ⟨some 8, .faddr (.t 1) 0, some (7, true)⟩,
   ⟨some 9, .load none (.t 8), some (7, true)⟩,
   ⟨some 10, .call (.c (.fn 16 [] [])) [(.t 9)], some (7, true)⟩,
   ⟨some 11, .bin .eql (.t 10) (.c (.p (.int .u8 102))), some (7, true)⟩,
   ⟨some 12, .pick (.t 7) (.t 11) (.c (.p (.bool false))), none⟩,
   ⟨some 2, .move (.t 12), none⟩])
   .ret)))

theorem ok33 : FOk Tryz.prog 33 fc33 := FOk.of Tryz.func33 (by kernel_rfl)

/-- armature/printer.Formula -/
def fc34 : FC where
  nt := 12
  np := 1
  res := [.t 2]
  body :=
    (.seq
   (.region [1] [
   ⟨some 1, .box (.t 0), none⟩,
   ⟨some 2, .move (.c (.p (.str []))), none⟩])
   (.seq
   (.region [1, 3] [
   ⟨some 4, .call (.c (.fn 65 [] [])) [], none⟩,
   ⟨some 3, .move (.t 4), none⟩])
   (.seq
   (.tokb 3 1 5 1)
   (.seq
   (.region [3] [
   ⟨some 5, .move (.t 3), none⟩,
   ⟨some 6, .load (some 5) (.t 1), none⟩,
   ⟨some 7, .call (.c (.fn 66 [] [])) [(.t 5), (.t 6), (.c (.p (.bool true)))], none⟩])
   (.seq
   (.region [2] [
   ⟨some 8, .move (.t 3), none⟩,
   ⟨some 9, .nilCheck (.t 8), none⟩,
   ⟨some 10, .faddr (.t 9) 0, none⟩,
   ⟨some 11, .call (.c (.fn 67 [] [])) [(.t 10)], none⟩,
   ⟨some 2, .move (.t 11), none⟩])
   .ret)))))

theorem ok34 : FOk Tryz.prog 34 fc34 := FOk.of Tryz.func34 (by kernel_rfl)

/-- armature/printer.EqualNodes -/
def fc35 : FC where
  nt := 31
  np := 2
  res := [.t 4]
  body :=
    (.seq
   (.region [2, 3] [
   ⟨some 2, .box (.t 0), none⟩,
   ⟨some 3, .box (.t 1), none⟩,
   ⟨some 4, .move (.c (.p (.bool false))), none⟩])
   (.seq
   (.region [4] [
   ⟨some 5, .faddr (.t 2) 0, none⟩,
   ⟨some 6, .load none (.t 5), none⟩,
   ⟨some 7, .faddr (.t 3) 0, none⟩,
   ⟨some 8, .load none (.t 7), none⟩,
   ⟨some 9, .bin .eql (.t 6) (.t 8), none⟩,
   ⟨some 10, .move (.t 9), none⟩,
   ⟨some 11, .faddr (.t 2) 1, some (10, true)⟩,
   ⟨some 12, .load none (.t 11), some (10, true)⟩,
   ⟨some 13, .faddr (.t 3) 1, some (10, true)⟩,
   ⟨some 14, .load none (.t 13), some (10, true)⟩,
   ⟨some 15, .bin .eql (.t 12) (.t 14), some (10, true)⟩,
   ⟨some 16, .pick (.t 10) (.t 15) (.c (.p (.bool false))), none⟩,
   ⟨some 17, .move (.t 16), none⟩,
   ⟨some 18, .faddr (.t 2) 2, some (17, true)⟩,
   ⟨some 19, .load none (.t 18), some (17, true)⟩,
   ⟨some 20, .faddr (.t 3) 2, some (17, true)⟩,
   ⟨some 21, .load none (.t 20), some (17, true)⟩,
   ⟨some 22, .bin .eql (.t 19) (.t 21), some (17, true)⟩,
   ⟨some 23, .pick (.t 17) (.t 22) (.c (.p (.bool false))), none⟩,
   ⟨some 24, .move (.t 23), none⟩,
   ⟨some 25, .faddr (.t 2) 3, some (24, true)⟩,
   ⟨some 26, .load none (.t 25), some (24, true)⟩,
   ⟨some 27, .faddr (.t 3) 3, some (24, true)⟩,
   ⟨some 28, .load none (.t 27), some (24, true)⟩,
   ⟨some 29, .call (.c (.fn 68 [] [])) [(.t 26), (.t 28), (.c (.fn 35 [] []))], some (24, true)⟩,
   ⟨some 30, .pick (.t 24) (.t 29) (.c (.p (.bool false))), none⟩,
   ⟨some 4, .move (.t 30), none⟩])
   .ret))

theorem ok35 : FOk Tryz.prog 35 fc35 := FOk.of Tryz.func35 (by kernel_rfl)

/-- armature/armatureref03.EqualNodes -/
def fc36_b0 : SC :=
 (.loc
 (.seq
 (.seq
 (.region [2, 3, 5, 39] [
 ⟨some 35, .move (.t 5), none⟩,
 ⟨some 36, .faddr (.t 2) 3, none⟩,
 ⟨some 37, .load none (.t 36), none⟩,
 ⟨some 38, .len 1 (.t 37), none⟩,
 ⟨some 39, .bin .lss (.t 35) (.t 38), none⟩])
 (.cond (.t 39)
 .skip
 (.exit 0)))
 (.seq
 (.block 1
 (.seq
 (.draw [2, 3, 5, 6] [(1, 6), (4, 6), (1, 9), (4, 9)] [
 ⟨some 42, .faddr (.t 2) 3, none⟩,
 ⟨some 43, .load none (.t 42), none⟩,
 ⟨some 44, .move (.t 5), none⟩,
 ⟨some 45, .iaddr none 5 (.t 43) (.t 44), none⟩,
 ⟨some 46, .load (some 5) (.t 45), none⟩,
 ⟨some 47, .faddr (.t 3) 3, none⟩,
 ⟨some 48, .load none (.t 47), none⟩,
 ⟨some 49, .move (.t 5), none⟩,
 ⟨some 50, .iaddr none 5 (.t 48) (.t 49), none⟩,
 ⟨some 51, .load (some 5) (.t 50), none⟩,
 ⟨some 52, .call (.c (.fn 36 [] [])) [(.t 46), (.t 51)], none⟩,
 ⟨some 6, .move (.t 52), none⟩])
 (.seq
 (.region [2, 3, 5, 54] [
 ⟨some 53, .move (.t 6), none⟩,
 ⟨some 54, .un .not (.t 53), none⟩])
 (.cond (.t 54)
 (.seq
 (.region [4] [
 ⟨some 4, .move (.c (.p (.bool false))), none⟩])
 .ret)
 .skip))))
 (.region [2, 3, 5] [
 ⟨some 40, .move (.t 5), none⟩,
 ⟨some 41, .bin .add (.t 40) (.c (.p (.int .i64 1))), none⟩,
 ⟨some 5, .move (.t 41), none⟩]))))

def fc36 : FC where
  nt := 55
  np := 2
  res := [.t 4]
  body :=
    (.seq
   (.region [2, 3] [
   ⟨some 2, .box (.t 0), none⟩,
   ⟨some 3, .box (.t 1), none⟩,
   ⟨some 4, .move (.c (.p (.bool false))), none⟩])
   (.seq
   (.seq
   (.region [2, 3, 34] [
   ⟨some 7, .faddr (.t 2) 0, none⟩,
   ⟨some 8, .load none (.t 7), none⟩,
   ⟨some 9, .faddr (.t 3) 0, none⟩,
   ⟨some 10, .load none (.t 9), none⟩,
   ⟨some 11, .bin .neq (.t 8) (.t 10), none⟩,
   ⟨some 12, .move (.t 11), none⟩,
   ⟨some 13, .faddr (.t 2) 1, some (12, false)⟩,
   ⟨some 14, .load none (.t 13), some (12, false)⟩,
   ⟨some 15, .faddr (.t 3) 1, some (12, false)⟩,
   ⟨some 16, .load none (.t 15), some (12, false)⟩,
   ⟨some 17, .bin .neq (.t 14) (.t 16), some (12, false)⟩,
   ⟨some 18, .pick (.t 12) (.c (.p (.bool true))) (.t 17), none⟩,
   ⟨some 19, .move (.t 18), none⟩,
   ⟨some 20, .faddr (.t 2) 2, some (19, false)⟩,
   ⟨some 21, .load none (.t 20), some (19, false)⟩,
   ⟨some 22, .faddr (.t 3) 2, some (19, false)⟩,
   ⟨some 23, .load none (.t 22), some (19, false)⟩,
   ⟨some 24, .bin .neq (.t 21) (.t 23), some (19, false)⟩,
   ⟨some 25, .pick (.t 19) (.c (.p (.bool true))) (.t 24), none⟩,
   ⟨some 26, .move (.t 25), none⟩,
   ⟨some 27, .faddr (.t 2) 3, some (26, false)⟩,
   ⟨some 28, .load none (.t 27), some (26, false)⟩,
   ⟨some 29, .len 1 (.t 28), some (26, false)⟩,
   ⟨some 30, .faddr (.t 3) 3, some (26, false)⟩,
   ⟨some 31, .load none (.t 30), some (26, false)⟩,
   ⟨some 32, .len 1 (.t 31), some (26, false)⟩,
   ⟨some 33, .bin .neq (.t 29) (.t 32), some (26, false)⟩,
   ⟨some 34, .pick (.t 26) (.c (.p (.bool true))) (.t 33), none⟩])
   (.cond (.t 34)
   (.seq
   (.region [4] [
   ⟨some 4, .move (.c (.p (.bool false))), none⟩])
   .ret)
   .skip))
   (.seq
   (.seq
   (.region [2, 3, 5] [
   ⟨some 5, .move (.c (.p (.int .i64 0))), none⟩])
   (.block 0
   (.loop [2, 3, 5]
   fc36_b0)))
   (.seq
   (.region [4] [
   ⟨some 4, .move (.c (.p (.bool true))), none⟩])
   .ret))))

theorem ok36 : FOk Tryz.prog 36 fc36 := FOk.of Tryz.func36 (by kernel_rfl)

/-- armature/armatureref03.Small -/
def fc37 : FC where
  nt := 6
  np := 1
  res := [.t 2]
  body :=
    (.seq
   (.region [1] [
   ⟨some 1, .box (.t 0), none⟩,
   ⟨some 2, .move (.c (.p (.bool false))), none⟩])
   (.seq
   (.region [2] [
   ⟨some 3, .load (some 5) (.t 1), none⟩,
   ⟨some 4, .call (.c (.fn 69 [] [])) [(.t 3), (.c (.p (.int .i64 400)))], none⟩,
   ⟨some 5, .bin .leq (.t 4) (.c (.p (.int .i64 400))), none⟩,
   ⟨some 2, .move (.t 5), none⟩])
   .ret))

theorem ok37 : FOk Tryz.prog 37 fc37 := FOk.of Tryz.func37 (by kernel_rfl)

/-- armature/armaturelaw03.closing -/
def fc38_b0 : SC :=
 (.seq
 (.seq
 (.region [0, 5, 6, 11] [
 ⟨some 8, .move (.t 6), none⟩,
 ⟨some 9, .move (.t 0), none⟩,
 ⟨some 10, .len 0 (.t 9), none⟩,
 ⟨some 11, .bin .lss (.t 8) (.t 10), none⟩])
 (.cond (.t 11)
 .skip
 (.exit 0)))
 (.seq
 (.block 1
 (.seq
 (.seq
 (.region [0, 5, 6, 17] [
 ⟨some 14, .move (.t 0), none⟩,
 ⟨some 15, .move (.t 6), none⟩,
 ⟨some 16, .index none (.t 14) (.t 15), none⟩,
 ⟨some 17, .bin .eql (.t 16) (.c (.p (.int .u8 40))), none⟩])
 (.cond (.t 17)
 (.region [0, 5, 6] [
 ⟨some 18, .move (.t 5), none⟩,
 ⟨some 19, .bin .add (.t 18) (.c (.p (.int .i64 1))), none⟩,
 ⟨some 5, .move (.t 19), none⟩])
 .skip))
 (.seq
 (.seq
 (.region [0, 5, 6, 23] [
 ⟨some 20, .move (.t 0), none⟩,
 ⟨some 21, .move (.t 6), none⟩,
 ⟨some 22, .index none (.t 20) (.t 21), none⟩,
 ⟨some 23, .bin .eql (.t 22) (.c (.p (.int .u8 41))), none⟩])
 (.cond (.t 23)
 (.region [0, 5, 6] [
 ⟨some 24, .move (.t 5), none⟩,
 ⟨some 25, .bin .sub (.t 24) (.c (.p (.int .i64 1))), none⟩,
 ⟨some 5, .move (.t 25), none⟩])
 .skip))
 (.seq
 (.region [0, 5, 6, 27] [
 ⟨some 26, .move (.t 5), none⟩,
 ⟨some 27, .bin .eql (.t 26) (.c (.p (.int .i64 0))), none⟩])
 (.cond (.t 27)
 (.seq
 (.region [4] [
 ⟨some 28, .move (.t 6), none⟩,
 ⟨some 4, .move (.t 28), none⟩])
 .ret)
 .skip)))))
 (.region [0, 5, 6] [
 ⟨some 12, .move (.t 6), none⟩,
 ⟨some 13, .bin .add (.t 12) (.c (.p (.int .i64 1))), none⟩,
 ⟨some 6, .move (.t 13), none⟩])))

def fc38 : FC where
  nt := 29
  np := 2
  res := [.t 4]
  body :=
    (.seq
   (.region [0, 1] [
   ⟨some 4, .move (.c (.p (.int .i64 0))), none⟩])
   (.seq
   (.region [0, 1, 5] [
   ⟨some 5, .move (.c (.p (.int .i64 0))), none⟩])
   (.seq
   (.seq
   (.region [0, 5, 6] [
   ⟨some 7, .move (.t 1), none⟩,
   ⟨some 6, .move (.t 7), none⟩])
   (.block 0
   (.loop [0, 5, 6]
   fc38_b0)))
   (.seq
   (.region [4] [
   ⟨some 4, .move (.c (.p (.int .i64 (-1)))), none⟩])
   .ret))))

theorem ok38 : FOk Tryz.prog 38 fc38 := FOk.of Tryz.func38 (by kernel_rfl)

/-- armature/armaturelaw02.fails -/
def fc39 : FC where
  nt := 20
  np := 3
  res := [.t 6]
  body :=
    (.seq
   (.region [0, 1, 2] [
   ⟨some 6, .move (.c (.p (.bool false))), none⟩])
   (.seq
   (.region [1, 2, 8] [
   ⟨some 10, .move (.t 0), none⟩,
   ⟨some 11, .call (.c (.fn 17 [] [])) [(.t 10)], none⟩,
   ⟨some 9, .move (.t 11), none⟩,
   ⟨some 12, .extract (.t 9) 0, none⟩,
   ⟨some 13, .extract (.t 9) 1, none⟩,
   ⟨some 7, .alloc [.int .i64 0, .str [], .int .i64 0, .nils, .int .i64 0], none⟩,
   ⟨none, .store 5 (.t 7) (.t 12), none⟩,
   ⟨some 8, .move (.t 13), none⟩])
   (.seq
   (.region [6] [
   ⟨some 14, .move (.t 8), none⟩,
   ⟨some 15, .move (.t 1), none⟩,
   ⟨some 16, .move (.t 2), none⟩,
   ⟨some 17, .build [.int .i64 0, .int .i64 0] [(0, 1, (.t 15)), (1, 1, (.t 16))], none⟩,
   ⟨some 18, .bslice 34 2 1 (.agg [.int .i64 0, .int .i64 0]) [(0, (.t 17))], none⟩,
   ⟨some 19, .call (.c (.fn 40 [] [])) [(.t 14), (.t 18)], none⟩,
   ⟨some 6, .move (.t 19), none⟩])
   .ret)))

theorem ok39 : FOk Tryz.prog 39 fc39 := FOk.of Tryz.func39 (by kernel_rfl)

/-- armature/armatureref02.SameDiags -/
def fc40_b0 : SC :=
 (.seq
 (.seq
 (.region [0, 1, 5, 14] [
 ⟨some 11, .move (.t 5), none⟩,
 ⟨some 12, .move (.t 0), none⟩,
 ⟨some 13, .len 1 (.t 12), none⟩,
 ⟨some 14, .bin .lss (.t 11) (.t 13), none⟩])
 (.cond (.t 14)
 .skip
 (.exit 0)))
 (.seq
 (.block 1
 (.seq
 (.draw [0, 1, 5, 25] [(3, 7)] [
 ⟨some 17, .move (.t 0), none⟩,
 ⟨some 18, .move (.t 5), none⟩,
 ⟨some 19, .iaddr none 2 (.t 17) (.t 18), none⟩,
 ⟨some 20, .load (some 2) (.t 19), none⟩,
 ⟨some 21, .move (.t 1), none⟩,
 ⟨some 22, .move (.t 5), none⟩,
 ⟨some 23, .iaddr none 2 (.t 21) (.t 22), none⟩,
 ⟨some 24, .load (some 2) (.t 23), none⟩,
 ⟨some 25, .eqs true [1, 1] (.t 20) (.t 24), none⟩])
 (.cond (.t 25)
 (.seq
 (.region [4] [
 ⟨some 4, .move (.c (.p (.bool false))), none⟩])
 .ret)
 .skip)))
 (.region [0, 1, 5] [
 ⟨some 15, .move (.t 5), none⟩,
 ⟨some 16, .bin .add (.t 15) (.c (.p (.int .i64 1))), none⟩,
 ⟨some 5, .move (.t 16), none⟩])))

def fc40 : FC where
  nt := 26
  np := 2
  res := [.t 4]
  body :=
    (.seq
   (.region [0, 1] [
   ⟨some 4, .move (.c (.p (.bool false))), none⟩])
   (.seq
   (.seq
   (.region [0, 1, 10] [
   ⟨some 6, .move (.t 0), none⟩,
   ⟨some 7, .len 1 (.t 6), none⟩,
   ⟨some 8, .move (.t 1), none⟩,
   ⟨some 9, .len 1 (.t 8), none⟩,
   ⟨some 10, .bin .neq (.t 7) (.t 9), none⟩])
   (.cond (.t 10)
   (.seq
   (.region [4] [
   ⟨some 4, .move (.c (.p (.bool false))), none⟩])
   .ret)
   .skip))
   (.seq
   (.seq
   (.region [0, 1, 5] [
   ⟨some 5, .move (.c (.p (.int .i64 0))), none⟩])
   (.block 0
   (.loop [0, 1, 5]
   fc40_b0)))
   (.seq
   (.region [4] [
   ⟨some 4, .move (.c (.p (.bool true))), none⟩])
   .ret))))

theorem ok40 : FOk Tryz.prog 40 fc40 := FOk.of Tryz.func40 (by kernel_rfl)

/-- armature/parser.open -/
def fc41 : FC where
  nt := 27
  np := 1
  res := [.t 2, .t 3]
  body :=
    (.seq
   (.region [0] [
   ⟨some 2, .move (.c (.p (.nilp))), none⟩,
   ⟨some 3, .move (.c (.p (.nils))), none⟩])
   (.seq
   (.region [0, 4, 5, 6] [
   ⟨some 8, .move (.t 0), none⟩,
   ⟨some 9, .call (.c (.fn 26 [] [])) [(.t 8)], none⟩,
   ⟨some 7, .move (.t 9), none⟩,
   ⟨some 10, .extract (.t 7) 0, none⟩,
   ⟨some 11, .extract (.t 7) 1, none⟩,
   ⟨some 12, .extract (.t 7) 2, none⟩,
   ⟨some 4, .move (.t 10), none⟩,
   ⟨some 5, .move (.t 11), none⟩,
   ⟨some 6, .move (.t 12), none⟩])
   (.seq
   (.seq
   (.region [0, 4, 5, 6, 14] [
   ⟨some 13, .move (.t 5), none⟩,
   ⟨some 14, .bin .neq (.t 13) (.c (.p (.int .i64 0))), none⟩])
   (.cond (.t 14)
   (.seq
   (.region [2, 3] [
   ⟨some 15, .move (.t 5), none⟩,
   ⟨some 16, .move (.t 6), none⟩,
   ⟨some 17, .build [.int .i64 0, .int .i64 0] [(0, 1, (.t 15)), (1, 1, (.t 16))], none⟩,
   ⟨some 18, .bslice 34 2 1 (.agg [.int .i64 0, .int .i64 0]) [(0, (.t 17))], none⟩,
   ⟨some 2, .move (.c (.p (.nilp))), none⟩,
   ⟨some 3, .move (.t 18), none⟩])
   .ret)
   .skip))
   (.seq
   (.region [2, 3] [
   ⟨some 19, .move (.t 4), none⟩,
   ⟨some 20, .move (.t 0), none⟩,
   ⟨some 21, .len 0 (.t 20), none⟩,
   ⟨some 22, .call (.c (.fn 70 [] [])) [], none⟩,
   ⟨some 23, .call (.c (.fn 71 [] [])) [], none⟩,
   ⟨some 24, .call (.c (.fn 46 [] [])) [], none⟩,
   ⟨some 25, .build [.nils, .int .i64 0, .int .i64 0, .int .i64 0, .nilm, .nilm, .nilm, .nils, .nils, .nils, .nils, .nils] [(0, 1, (.t 19)), (2, 1, (.t 21)), (4, 1, (.t 22)), (5, 1, (.t 23)), (6, 1, (.t 24))], none⟩,
   ⟨some 26, .box (.t 25), none⟩,
   ⟨some 2, .move (.t 26), none⟩,
   ⟨some 3, .move (.c (.p (.nils))), none⟩])
   .ret))))

theorem ok41 : FOk Tryz.prog 41 fc41 := FOk.of Tryz.func41 (by kernel_rfl)

/-- (*armature/parser.reader).decl -/
def fc42 : FC where
  nt := 34
  np := 1
  res := []
  body :=
    (.seq
   (.region [0, 2] [
   ⟨some 3, .move (.t 0), none⟩,
   ⟨some 4, .call (.c (.fn 72 [] [])) [(.t 3), (.c (.p (.int .i64 0)))], none⟩,
   ⟨some 2, .alloc [.int .i64 0, .str [], .int .i64 0], none⟩,
   ⟨none, .store 3 (.t 2) (.t 4), none⟩])
   (.seq
   (.region [0, 2, 6] [
   ⟨some 5, .faddr (.t 2) 1, none⟩,
   ⟨some 6, .load none (.t 5), none⟩])
   (.block 0
   (.seq
   (.region [0, 2, 6, 9] [
   ⟨some 10, .bin .eql (.t 6) (.c (.p (.str [115, 111, 114, 116]))), none⟩,
   ⟨some 9, .move (.t 10), none⟩])
   (.cond (.t 9)
   (.region [] [
   ⟨some 11, .move (.t 0), none⟩,
   ⟨some 12, .faddr (.t 2) 2, none⟩,
   ⟨some 13, .load none (.t 12), none⟩,
   ⟨some 14, .call (.c (.fn 73 [] [])) [(.t 11), (.t 13)], none⟩])
   (.seq
   (.seq
   (.region [0, 2, 6, 15] [
   ⟨some 16, .bin .eql (.t 6) (.c (.p (.str [118, 97, 114]))), none⟩,
   ⟨some 15, .move (.t 16), none⟩])
   (.cond (.t 15)
   .skip
   (.region [0, 2, 6, 15] [
   ⟨some 17, .bin .eql (.t 6) (.c (.p (.str [102, 105, 101, 108, 100]))), none⟩,
   ⟨some 15, .move (.t 17), none⟩])))
   (.cond (.t 15)
   (.region [] [
   ⟨some 18, .move (.t 0), none⟩,
   ⟨some 19, .faddr (.t 2) 2, none⟩,
   ⟨some 20, .load none (.t 19), none⟩,
   ⟨some 21, .call (.c (.fn 74 [] [])) [(.t 18), (.t 20)], none⟩])
   (.seq
   (.region [0, 2, 6, 22] [
   ⟨some 23, .bin .eql (.t 6) (.c (.p (.str [112, 114, 101, 100]))), none⟩,
   ⟨some 22, .move (.t 23), none⟩])
   (.cond (.t 22)
   (.region [] [
   ⟨some 24, .move (.t 0), none⟩,
   ⟨some 25, .faddr (.t 2) 2, none⟩,
   ⟨some 26, .load none (.t 25), none⟩,
   ⟨some 27, .call (.c (.fn 75 [] [])) [(.t 24), (.t 26)], none⟩])
   (.seq
   (.region [0, 2, 28] [
   ⟨some 29, .bin .eql (.t 6) (.c (.p (.str [102, 97, 99, 116]))), none⟩,
   ⟨some 28, .move (.t 29), none⟩])
   (.cond (.t 28)
   (.region [] [
   ⟨some 30, .move (.t 0), none⟩,
   ⟨some 31, .faddr (.t 2) 2, none⟩,
   ⟨some 32, .load none (.t 31), none⟩,
   ⟨some 33, .call (.c (.fn 76 [] [])) [(.t 30), (.t 32)], none⟩])
   (.region [] [
   ⟨some 7, .move (.t 0), none⟩,
   ⟨some 8, .call (.c (.fn 49 [] [])) [(.t 7)], none⟩]))))))))))))

theorem ok42 : FOk Tryz.prog 42 fc42 := FOk.of Tryz.func42 (by kernel_rfl)

/-- (*armature/parser.reader).try -/
def fc43 : FC where
  nt := 8
  np := 2
  res := [.cell 4 none]
  body :=
    (.seq
   (.region [4] [
   ⟨some 6, .move (.t 1), none⟩,
   ⟨some 7, .call (.t 6) [], none⟩])
   (.seq
   (.region [4] [
   ⟨none, .store 1 (.t 4) (.c (.p (.bool true))), none⟩])
   .ret))
  dfr := some ⟨[
   (.region [1, 2, 4] [
   ⟨some 2, .box (.t 0), none⟩,
   ⟨some 4, .alloc [.bool false], none⟩])],
    [1, 4], [
   ⟨some 5, .mkfn 77 [] [(.t 2), (.t 4)], none⟩],
    (.t 5), []⟩

theorem ok43 : FOk Tryz.prog 43 fc43 := FOk.of Tryz.func43 (by kernel_rfl)

/-- (*armature/parser.reader).skip -/
def fc44_b0 : SC :=
 (.seq
 (.seq
 (.draw [0, 12] [(3, 7)] [
 ⟨some 3, .move (.t 0), none⟩,
 ⟨some 4, .nilCheck (.t 3), none⟩,
 ⟨some 5, .faddr (.t 4) 1, none⟩,
 ⟨some 6, .load none (.t 5), none⟩,
 ⟨some 7, .move (.t 0), none⟩,
 ⟨some 8, .nilCheck (.t 7), none⟩,
 ⟨some 9, .faddr (.t 8) 0, none⟩,
 ⟨some 10, .load none (.t 9), none⟩,
 ⟨some 11, .len 1 (.t 10), none⟩,
 ⟨some 12, .bin .lss (.t 6) (.t 11), none⟩])
 (.cond (.t 12)
 .skip
 (.exit 0)))
 (.block 1
 (.seq
 (.draw [0, 2] [(3, 7)] [
 ⟨some 13, .move (.t 0), none⟩,
 ⟨some 14, .nilCheck (.t 13), none⟩,
 ⟨some 15, .faddr (.t 14) 0, none⟩,
 ⟨some 16, .load none (.t 15), none⟩,
 ⟨some 17, .move (.t 0), none⟩,
 ⟨some 18, .nilCheck (.t 17), none⟩,
 ⟨some 19, .faddr (.t 18) 1, none⟩,
 ⟨some 20, .load none (.t 19), none⟩,
 ⟨some 21, .iaddr none 3 (.t 16) (.t 20), none⟩,
 ⟨some 22, .faddr (.t 21) 1, none⟩,
 ⟨some 23, .load none (.t 22), none⟩,
 ⟨some 2, .move (.t 23), none⟩])
 (.seq
 (.region [0, 2] [
 ⟨some 24, .move (.t 0), none⟩,
 ⟨some 25, .nilCheck (.t 24), none⟩,
 ⟨some 26, .faddr (.t 25) 1, none⟩,
 ⟨some 27, .load none (.t 26), none⟩,
 ⟨some 28, .bin .add (.t 27) (.c (.p (.int .i64 1))), none⟩,
 ⟨some 29, .nilCheck (.t 24), none⟩,
 ⟨some 30, .faddr (.t 29) 1, none⟩,
 ⟨none, .store 1 (.t 30) (.t 28), none⟩])
 (.seq
 (.region [0, 36] [
 ⟨some 31, .move (.t 2), none⟩,
 ⟨some 32, .bin .eql (.t 31) (.c (.p (.str [59]))), none⟩,
 ⟨some 33, .move (.t 32), none⟩,
 ⟨some 34, .move (.t 2), some (33, false)⟩,
 ⟨some 35, .bin .eql (.t 34) (.c (.p (.str [125]))), some (33, false)⟩,
 ⟨some 36, .pick (.t 33) (.c (.p (.bool true))) (.t 35), none⟩])
 (.cond (.t 36)
 .ret
 .skip))))))

def fc44 : FC where
  nt := 37
  np := 1
  res := []
  body :=
    (.block 0
   (.loop [0]
   fc44_b0))

theorem ok44 : FOk Tryz.prog 44 fc44 := FOk.of Tryz.func44 (by kernel_rfl)

/-- armature/parser.measure -/
def fc45_b0 : SC :=
 (.loc
 (.seq
 (.region [0, 2, 3, 10, 42, 43, 44, 45] [
 ⟨some 45, .bin .lss (.t 44) (.t 43), none⟩])
 (.seq
 (.cond (.t 45)
 .skip
 (.exit 0))
 (.seq
 (.block 1
 (.seq
 (.region [0, 2, 3, 10, 12, 42, 43, 44] [
 ⟨some 46, .iaddr none 5 (.t 42) (.t 44), none⟩,
 ⟨some 47, .load (some 5) (.t 46), none⟩,
 ⟨some 12, .alloc [.int .i64 0, .str [], .int .i64 0, .nils, .int .i64 0], none⟩,
 ⟨none, .store 5 (.t 12) (.t 47), none⟩])
 (.seq
 (.region [0, 2, 3, 10, 13, 14, 42, 43, 44] [
 ⟨some 49, .move (.t 0), none⟩,
 ⟨some 50, .load (some 5) (.t 12), none⟩,
 ⟨some 51, .move (.t 2), none⟩,
 ⟨some 52, .bin .add (.t 51) (.c (.p (.int .i64 1))), none⟩,
 ⟨some 53, .move (.t 3), none⟩,
 ⟨some 54, .move (.t 10), none⟩,
 ⟨some 55, .bin .sub (.t 53) (.t 54), none⟩,
 ⟨some 56, .call (.c (.fn 45 [] [])) [(.t 49), (.t 50), (.t 52), (.t 55)], none⟩,
 ⟨some 48, .move (.t 56), none⟩,
 ⟨some 57, .extract (.t 48) 0, none⟩,
 ⟨some 58, .extract (.t 48) 1, none⟩,
 ⟨some 13, .move (.t 57), none⟩,
 ⟨some 14, .move (.t 58), none⟩])
 (.seq
 (.seq
 (.region [0, 2, 3, 10, 13, 42, 43, 44, 60] [
 ⟨some 59, .move (.t 14), none⟩,
 ⟨some 60, .un .not (.t 59), none⟩])
 (.cond (.t 60)
 (.seq
 (.region [8, 9] [
 ⟨some 8, .move (.c (.p (.int .i64 0))), none⟩,
 ⟨some 9, .move (.c (.p (.bool false))), none⟩])
 .ret)
 .skip))
 (.region [0, 2, 3, 10, 42, 43, 44] [
 ⟨some 61, .move (.t 10), none⟩,
 ⟨some 62, .move (.t 13), none⟩,
 ⟨some 63, .bin .add (.t 61) (.t 62), none⟩,
 ⟨some 10, .move (.t 63), none⟩])))))
 (.region [0, 2, 3, 10, 42, 43, 44] [
 ⟨some 64, .bin .add (.t 44) (.c (.p (.int .i64 1))), none⟩,
 ⟨some 44, .move (.t 64), none⟩])))))

def fc45 : FC where
  nt := 66
  np := 4
  res := [.t 8, .t 9]
  body :=
    (.seq
   (.region [0, 2, 3, 5] [
   ⟨some 5, .box (.t 1), none⟩,
   ⟨some 8, .move (.c (.p (.int .i64 0))), none⟩,
   ⟨some 9, .move (.c (.p (.bool false))), none⟩])
   (.seq
   (.seq
   (.region [0, 2, 3, 5, 40] [
   ⟨some 15, .move (.t 2), none⟩,
   ⟨some 16, .bin .gtr (.t 15) (.c (.p (.int .i64 24))), none⟩,
   ⟨some 17, .move (.t 16), none⟩,
   ⟨some 18, .move (.t 3), some (17, false)⟩,
   ⟨some 19, .bin .lss (.t 18) (.c (.p (.int .i64 1))), some (17, false)⟩,
   ⟨some 20, .pick (.t 17) (.c (.p (.bool true))) (.t 19), none⟩,
   ⟨some 21, .move (.t 20), none⟩,
   ⟨some 22, .faddr (.t 5) 3, some (21, false)⟩,
   ⟨some 23, .load none (.t 22), some (21, false)⟩,
   ⟨some 24, .len 1 (.t 23), some (21, false)⟩,
   ⟨some 25, .bin .gtr (.t 24) (.c (.p (.int .i64 400))), some (21, false)⟩,
   ⟨some 26, .pick (.t 21) (.c (.p (.bool true))) (.t 25), none⟩,
   ⟨some 27, .move (.t 26), none⟩,
   ⟨some 28, .load (some 5) (.t 5), some (27, false)⟩,
   ⟨some 29, .call (.c (.fn 78 [] [])) [(.t 28)], some (27, false)⟩,
   ⟨some 30, .un .not (.t 29), some (27, false)⟩,
   ⟨some 31, .pick (.t 27) (.c (.p (.bool true))) (.t 30), none⟩,
   ⟨some 32, .move (.t 31), none⟩,
   ⟨some 33, .move (.t 0), some (32, false)⟩,
   ⟨some 34, .faddr (.t 5) 0, some (32, false)⟩,
   ⟨some 35, .load none (.t 34), some (32, false)⟩,
   ⟨some 36, .faddr (.t 5) 3, some (32, false)⟩,
   ⟨some 37, .load none (.t 36), some (32, false)⟩,
   ⟨some 38, .call (.c (.fn 79 [] [])) [(.t 33), (.t 35), (.t 37)], some (32, false)⟩,
   ⟨some 39, .un .not (.t 38), some (32, false)⟩,
   ⟨some 40, .pick (.t 32) (.c (.p (.bool true))) (.t 39), none⟩])
   (.cond (.t 40)
   (.seq
   (.region [8, 9] [
   ⟨some 8, .move (.c (.p (.int .i64 0))), none⟩,
   ⟨some 9, .move (.c (.p (.bool false))), none⟩])
   .ret)
   .skip))
   (.seq
   (.region [0, 2, 3, 5, 10] [
   ⟨some 10, .move (.c (.p (.int .i64 1))), none⟩])
   (.seq
   (.seq
   (.region [0, 2, 3, 10, 42, 43, 44] [
   ⟨some 41, .faddr (.t 5) 3, none⟩,
   ⟨some 42, .load none (.t 41), none⟩,
   ⟨some 43, .len 1 (.t 42), none⟩,
   ⟨some 44, .move (.c (.p (.int .i64 0))), none⟩])
   (.block 0
   (.loop [0, 2, 3, 10, 42, 43, 44]
   fc45_b0)))
   (.seq
   (.region [8, 9] [
   ⟨some 65, .move (.t 10), none⟩,
   ⟨some 8, .move (.t 65), none⟩,
   ⟨some 9, .move (.c (.p (.bool true))), none⟩])
   .ret)))))

theorem ok45 : FOk Tryz.prog 45 fc45 := FOk.of Tryz.func45 (by kernel_rfl)

/-- armature/parser.shapes -/
def fc46 : FC where
  nt := 3
  np := 0
  res := [.t 0]
  body :=
    (.seq
   (.region [] [
   ⟨some 0, .move (.c (.p (.nilm))), none⟩])
   (.seq
   (.region [0] [
   ⟨some 1, .mkmap 13, none⟩,
   ⟨none, .mapins 13 (.t 1) (.c (.p (.int .i64 1))) (.c (.p (.str []))), none⟩,
   ⟨none, .mapins 13 (.t 1) (.c (.p (.int .i64 2))) (.c (.p (.str []))), none⟩,
   ⟨none, .mapins 13 (.t 1) (.c (.p (.int .i64 3))) (.c (.p (.str []))), none⟩,
   ⟨none, .mapins 13 (.t 1) (.c (.p (.int .i64 4))) (.c (.p (.str []))), none⟩,
   ⟨none, .mapins 13 (.t 1) (.c (.p (.int .i64 5))) (.c (.p (.str [101]))), none⟩,
   ⟨none, .mapins 13 (.t 1) (.c (.p (.int .i64 6))) (.c (.p (.str [101, 101]))), none⟩,
   ⟨none, .mapins 13 (.t 1) (.c (.p (.int .i64 7))) (.c (.p (.str [101, 101]))), none⟩,
   ⟨none, .mapins 13 (.t 1) (.c (.p (.int .i64 8))) (.c (.p (.str [101, 101]))), none⟩,
   ⟨none, .mapins 13 (.t 1) (.c (.p (.int .i64 9))) (.c (.p (.str [101, 101]))), none⟩,
   ⟨none, .mapins 13 (.t 1) (.c (.p (.int .i64 10))) (.c (.p (.str [101, 101]))), none⟩,
   ⟨none, .mapins 13 (.t 1) (.c (.p (.int .i64 11))) (.c (.p (.str [101]))), none⟩,
   ⟨none, .mapins 13 (.t 1) (.c (.p (.int .i64 12))) (.c (.p (.str [101]))), none⟩,
   ⟨none, .mapins 13 (.t 1) (.c (.p (.int .i64 13))) (.c (.p (.str [101]))), none⟩,
   ⟨none, .mapins 13 (.t 1) (.c (.p (.int .i64 14))) (.c (.p (.str [101, 101]))), none⟩,
   ⟨none, .mapins 13 (.t 1) (.c (.p (.int .i64 15))) (.c (.p (.str [101, 102]))), none⟩,
   ⟨none, .mapins 13 (.t 1) (.c (.p (.int .i64 20))) (.c (.p (.str []))), none⟩,
   ⟨none, .mapins 13 (.t 1) (.c (.p (.int .i64 21))) (.c (.p (.str [101]))), none⟩,
   ⟨none, .mapins 13 (.t 1) (.c (.p (.int .i64 22))) (.c (.p (.str [105, 105]))), none⟩,
   ⟨none, .mapins 13 (.t 1) (.c (.p (.int .i64 23))) (.c (.p (.str [105, 105]))), none⟩,
   ⟨none, .mapins 13 (.t 1) (.c (.p (.int .i64 30))) (.c (.p (.str []))), none⟩,
   ⟨none, .mapins 13 (.t 1) (.c (.p (.int .i64 31))) (.c (.p (.str []))), none⟩,
   ⟨none, .mapins 13 (.t 1) (.c (.p (.int .i64 32))) (.c (.p (.str [101, 101]))), none⟩,
   ⟨none, .mapins 13 (.t 1) (.c (.p (.int .i64 33))) (.c (.p (.str [101, 101]))), none⟩,
   ⟨none, .mapins 13 (.t 1) (.c (.p (.int .i64 34))) (.c (.p (.str [101]))), none⟩,
   ⟨none, .mapins 13 (.t 1) (.c (.p (.int .i64 35))) (.c (.p (.str [101]))), none⟩,
   ⟨none, .mapins 13 (.t 1) (.c (.p (.int .i64 36))) (.c (.p (.str [101]))), none⟩,
   ⟨none, .mapins 13 (.t 1) (.c (.p (.int .i64 37))) (.c (.p (.str [101]))), none⟩,
   ⟨none, .mapins 13 (.t 1) (.c (.p (.int .i64 38))) (.c (.p (.str [105, 105]))), none⟩,
   ⟨none, .mapins 13 (.t 1) (.c (.p (.int .i64 39))) (.c (.p (.str [105, 105]))), none⟩,
   ⟨none, .mapins 13 (.t 1) (.c (.p (.int .i64 40))) (.c (.p (.str [102]))), none⟩,
   ⟨none, .mapins 13 (.t 1) (.c (.p (.int .i64 41))) (.c (.p (.str [102, 102]))), none⟩,
   ⟨none, .mapins 13 (.t 1) (.c (.p (.int .i64 42))) (.c (.p (.str [102, 102]))), none⟩,
   ⟨none, .mapins 13 (.t 1) (.c (.p (.int .i64 43))) (.c (.p (.str [102, 102]))), none⟩,
   ⟨none, .mapins 13 (.t 1) (.c (.p (.int .i64 44))) (.c (.p (.str [102, 102]))), none⟩,
   ⟨none, .mapins 13 (.t 1) (.c (.p (.int .i64 45))) (.c (.p (.str [101, 102]))), none⟩,
   ⟨none, .mapins 13 (.t 1) (.c (.p (.int .i64 46))) (.c (.p (.str [101, 102]))), none⟩,
   ⟨none, .mapins 13 (.t 1) (.c (.p (.int .i64 48))) (.c (.p (.str [102]))), none⟩,
   ⟨none, .mapins 13 (.t 1) (.c (.p (.int .i64 49))) (.c (.p (.str [102]))), none⟩,
   ⟨none, .mapins 13 (.t 1) (.c (.p (.int .i64 50))) (.c (.p (.str [102]))), none⟩,
   ⟨none, .mapins 13 (.t 1) (.c (.p (.int .i64 51))) (.c (.p (.str [102, 102]))), none⟩,
   ⟨some 2, .move (.t 1), none⟩,
   ⟨some 0, .move (.t 2), none⟩])
   .ret))

theorem ok46 : FOk Tryz.prog 46 fc46 := FOk.of Tryz.func46 (by kernel_rfl)

/-- armature/parser.ParseFormula$1 -/
def fc47 : FC where
  nt := 16
  np := 2
  res := []
  body :=
    (.seq
   (.region [0] [
   ⟨some 2, .load none (.t 0), none⟩,
   ⟨some 3, .call (.c (.fn 48 [] [])) [(.t 2)], none⟩,
   ⟨none, .store 5 (.t 1) (.t 3), none⟩])
   (.seq
   (.draw [0, 13] [(0, 4), (3, 4), (0, 7), (3, 7)] [
   ⟨some 4, .load none (.t 0), none⟩,
   ⟨some 5, .nilCheck (.t 4), none⟩,
   ⟨some 6, .faddr (.t 5) 1, none⟩,
   ⟨some 7, .load none (.t 6), none⟩,
   ⟨some 8, .load none (.t 0), none⟩,
   ⟨some 9, .nilCheck (.t 8), none⟩,
   ⟨some 10, .faddr (.t 9) 0, none⟩,
   ⟨some 11, .load none (.t 10), none⟩,
   ⟨some 12, .len 1 (.t 11), none⟩,
   ⟨some 13, .bin .lss (.t 7) (.t 12), none⟩])
   (.cond (.t 13)
   (.region [] [
   ⟨some 14, .load none (.t 0), none⟩,
   ⟨some 15, .call (.c (.fn 49 [] [])) [(.t 14)], none⟩])
   .skip)))

theorem ok47 : FOk Tryz.prog 47 fc47 := FOk.of Tryz.func47 (by kernel_rfl)

/-- (*armature/parser.reader).whole -/
def fc48 : FC where
  nt := 22
  np := 1
  res := [.cell 2 (some 5)]
  body :=
    (.seq
   (.region [0, 2] [
   ⟨some 2, .alloc [.int .i64 0, .str [], .int .i64 0, .nils, .int .i64 0], none⟩])
   (.seq
   (.region [0, 2, 3] [
   ⟨some 5, .move (.t 0), none⟩,
   ⟨some 6, .call (.c (.fn 72 [] [])) [(.t 5), (.c (.p (.int .i64 0)))], none⟩,
   ⟨some 7, .field (.t 6) 2 none, none⟩,
   ⟨some 3, .move (.t 7), none⟩])
   (.seq
   (.region [2, 3, 4] [
   ⟨some 8, .move (.t 0), none⟩,
   ⟨some 9, .call (.c (.fn 80 [] [])) [(.t 8), (.c (.p (.int .i64 1)))], none⟩,
   ⟨some 4, .alloc [.int .i64 0, .str [], .int .i64 0, .nils, .int .i64 0], none⟩,
   ⟨none, .store 5 (.t 4) (.t 9), none⟩])
   (.seq
   (.seq
   (.region [2, 3, 4, 13] [
   ⟨some 10, .faddr (.t 4) 0, none⟩,
   ⟨some 11, .load none (.t 10), none⟩,
   ⟨some 12, .call (.c (.fn 81 [] [])) [(.t 11)], none⟩,
   ⟨some 13, .bin .neq (.t 12) (.c (.p (.int .i64 3))), none⟩])
   (.cond (.t 13)
   (.region [2, 3, 4] [
   ⟨some 14, .move (.t 3), none⟩,
   ⟨some 15, .call (.c (.fn 82 [] [])) [(.c (.p (.int .i64 43))), (.t 14)], none⟩])
   .skip))
   (.seq
   (.seq
   (.region [2, 3, 4, 18] [
   ⟨some 16, .load (some 5) (.t 4), none⟩,
   ⟨some 17, .call (.c (.fn 15 [] [])) [(.t 16)], none⟩,
   ⟨some 18, .un .not (.t 17), none⟩])
   (.cond (.t 18)
   (.region [2, 4] [
   ⟨some 19, .move (.t 3), none⟩,
   ⟨some 20, .call (.c (.fn 82 [] [])) [(.c (.p (.int .i64 2))), (.t 19)], none⟩])
   .skip))
   (.seq
   (.region [2] [
   ⟨some 21, .load (some 5) (.t 4), none⟩,
   ⟨none, .store 5 (.t 2) (.t 21), none⟩])
   .ret))))))
  frz := true

theorem ok48 : FOk Tryz.prog 48 fc48 := FOk.of Tryz.func48 (by kernel_rfl)

/-- (*armature/parser.reader).wrong -/
def fc49 : FC where
  nt := 16
  np := 1
  res := []
  body :=
    (.seq
   (.region [0, 2] [
   ⟨some 3, .move (.t 0), none⟩,
   ⟨some 4, .call (.c (.fn 72 [] [])) [(.t 3), (.c (.p (.int .i64 0)))], none⟩,
   ⟨some 2, .alloc [.int .i64 0, .str [], .int .i64 0], none⟩,
   ⟨none, .store 3 (.t 2) (.t 4), none⟩])
   (.seq
   (.seq
   (.region [0, 2, 7] [
   ⟨some 5, .faddr (.t 2) 0, none⟩,
   ⟨some 6, .load none (.t 5), none⟩,
   ⟨some 7, .bin .eql (.t 6) (.c (.p (.int .i64 0))), none⟩])
   (.cond (.t 7)
   (.region [2] [
   ⟨some 8, .move (.t 0), none⟩,
   ⟨some 9, .nilCheck (.t 8), none⟩,
   ⟨some 10, .faddr (.t 9) 2, none⟩,
   ⟨some 11, .load none (.t 10), none⟩,
   ⟨some 12, .call (.c (.fn 82 [] [])) [(.c (.p (.int .i64 21))), (.t 11)], none⟩])
   .skip))
   (.region [] [
   ⟨some 13, .faddr (.t 2) 2, none⟩,
   ⟨some 14, .load none (.t 13), none⟩,
   ⟨some 15, .call (.c (.fn 82 [] [])) [(.c (.p (.int .i64 20))), (.t 14)], none⟩])))

theorem ok49 : FOk Tryz.prog 49 fc49 := FOk.of Tryz.func49 (by kernel_rfl)

/-- armature/armaturelaw02.count -/
def fc50_b0 : SC :=
 (.loc
 (.seq
 (.seq
 (.region [1, 2, 5, 6, 16] [
 ⟨some 7, .move (.t 6), none⟩,
 ⟨some 8, .faddr (.t 2) 3, none⟩,
 ⟨some 9, .load none (.t 8), none⟩,
 ⟨some 10, .len 1 (.t 9), none⟩,
 ⟨some 11, .bin .lss (.t 7) (.t 10), none⟩,
 ⟨some 12, .move (.t 11), none⟩,
 ⟨some 13, .move (.t 5), some (12, true)⟩,
 ⟨some 14, .move (.t 1), some (12, true)⟩,
 ⟨some 15, .bin .leq (.t 13) (.t 14), some (12, true)⟩,
 ⟨some 16, .pick (.t 12) (.t 15) (.c (.p (.bool false))), none⟩])
 (.cond (.t 16)
 .skip
 (.exit 0)))
 (.seq
 (.block 1
 (.region [1, 2, 5, 6] [
 ⟨some 19, .move (.t 5), none⟩,
 ⟨some 20, .faddr (.t 2) 3, none⟩,
 ⟨some 21, .load none (.t 20), none⟩,
 ⟨some 22, .move (.t 6), none⟩,
 ⟨some 23, .iaddr none 5 (.t 21) (.t 22), none⟩,
 ⟨some 24, .load (some 5) (.t 23), none⟩,
 ⟨some 25, .move (.t 1), none⟩,
 ⟨some 26, .move (.t 5), none⟩,
 ⟨some 27, .bin .sub (.t 25) (.t 26), none⟩,
 ⟨some 28, .call (.c (.fn 50 [] [])) [(.t 24), (.t 27)], none⟩,
 ⟨some 29, .bin .add (.t 19) (.t 28), none⟩,
 ⟨some 5, .move (.t 29), none⟩]))
 (.region [1, 2, 5, 6] [
 ⟨some 17, .move (.t 6), none⟩,
 ⟨some 18, .bin .add (.t 17) (.c (.p (.int .i64 1))), none⟩,
 ⟨some 6, .move (.t 18), none⟩]))))

def fc50 : FC where
  nt := 31
  np := 2
  res := [.t 4]
  body :=
    (.seq
   (.region [1, 2] [
   ⟨some 2, .box (.t 0), none⟩,
   ⟨some 4, .move (.c (.p (.int .i64 0))), none⟩])
   (.seq
   (.region [1, 2, 5] [
   ⟨some 5, .move (.c (.p (.int .i64 1))), none⟩])
   (.seq
   (.seq
   (.region [1, 2, 5, 6] [
   ⟨some 6, .move (.c (.p (.int .i64 0))), none⟩])
   (.block 0
   (.loop [1, 2, 5, 6]
   fc50_b0)))
   (.seq
   (.region [4] [
   ⟨some 30, .move (.t 5), none⟩,
   ⟨some 4, .move (.t 30), none⟩])
   .ret))))

theorem ok50 : FOk Tryz.prog 50 fc50 := FOk.of Tryz.func50 (by kernel_rfl)

/-- armature/armaturelaw02.Number -/
def fc51 : FC where
  nt := 26
  np := 1
  res := [.t 2]
  body :=
    (.seq
   (.region [0] [
   ⟨some 2, .move (.c (.p (.str []))), none⟩])
   (.seq
   (.seq
   (.region [0, 4] [
   ⟨some 3, .move (.t 0), none⟩,
   ⟨some 4, .bin .lss (.t 3) (.c (.p (.int .i64 0))), none⟩])
   (.cond (.t 4)
   (.seq
   (.region [2] [
   ⟨some 5, .move (.t 0), none⟩,
   ⟨some 6, .un .neg (.t 5), none⟩,
   ⟨some 7, .call (.c (.fn 51 [] [])) [(.t 6)], none⟩,
   ⟨some 8, .bin .add (.c (.p (.str [45]))) (.t 7), none⟩,
   ⟨some 2, .move (.t 8), none⟩])
   .ret)
   .skip))
   (.seq
   (.seq
   (.region [0, 10] [
   ⟨some 9, .move (.t 0), none⟩,
   ⟨some 10, .bin .lss (.t 9) (.c (.p (.int .i64 10))), none⟩])
   (.cond (.t 10)
   (.seq
   (.region [2] [
   ⟨some 11, .move (.t 0), none⟩,
   ⟨some 12, .bin .add (.c (.p (.int .i64 48))) (.t 11), none⟩,
   ⟨some 13, .conv .u8 (.t 12), none⟩,
   ⟨some 14, .bslice 5 1 1 (.int .u8 0) [(0, (.t 13))], none⟩,
   ⟨some 15, .toStr (.t 14), none⟩,
   ⟨some 2, .move (.t 15), none⟩])
   .ret)
   .skip))
   (.seq
   (.region [2] [
   ⟨some 16, .move (.t 0), none⟩,
   ⟨some 17, .bin .quo (.t 16) (.c (.p (.int .i64 10))), none⟩,
   ⟨some 18, .bin .add (.c (.p (.int .i64 48))) (.t 17), none⟩,
   ⟨some 19, .conv .u8 (.t 18), none⟩,
   ⟨some 20, .move (.t 0), none⟩,
   ⟨some 21, .bin .rem (.t 20) (.c (.p (.int .i64 10))), none⟩,
   ⟨some 22, .bin .add (.c (.p (.int .i64 48))) (.t 21), none⟩,
   ⟨some 23, .conv .u8 (.t 22), none⟩,
   ⟨some 24, .bslice 5 1 2 (.int .u8 0) [(0, (.t 19)), (1, (.t 23))], none⟩,
   ⟨some 25, .toStr (.t 24), none⟩,
   ⟨some 2, .move (.t 25), none⟩])
   .ret))))

theorem ok51 : FOk Tryz.prog 51 fc51 := FOk.of Tryz.func51 (by kernel_rfl)

/-- armature/armaturelaw02.in -/
def fc52 : FC where
  nt := 7
  np := 1
  res := [.t 2]
  body :=
    (.seq
   (.region [1] [
   ⟨some 1, .box (.t 0), none⟩,
   ⟨some 2, .move (.c (.p (.str []))), none⟩])
   (.seq
   (.region [2] [
   ⟨some 3, .load (some 5) (.t 1), none⟩,
   ⟨some 4, .call (.c (.fn 19 [] [])) [(.t 3)], none⟩,
   ⟨some 5, .bin .add (.c (.p (.str [40]))) (.t 4), none⟩,
   ⟨some 6, .bin .add (.t 5) (.c (.p (.str [41]))), none⟩,
   ⟨some 2, .move (.t 6), none⟩])
   .ret))

theorem ok52 : FOk Tryz.prog 52 fc52 := FOk.of Tryz.func52 (by kernel_rfl)

/-- armature/armaturelaw02.word -/
def fc53_b0 : SC :=
 (.loc
 (.seq
 (.seq
 (.region [0, 3, 4, 11] [
 ⟨some 8, .move (.t 4), none⟩,
 ⟨some 9, .move (.t 3), none⟩,
 ⟨some 10, .len 1 (.t 9), none⟩,
 ⟨some 11, .bin .lss (.t 8) (.t 10), none⟩])
 (.cond (.t 11)
 .skip
 (.exit 0)))
 (.seq
 (.block 1
 (.seq
 (.region [0, 3, 4, 5] [
 ⟨some 15, .move (.t 3), none⟩,
 ⟨some 16, .move (.t 4), none⟩,
 ⟨some 17, .iaddr none 1 (.t 15) (.t 16), none⟩,
 ⟨some 18, .load none (.t 17), none⟩,
 ⟨some 19, .call (.c (.fn 83 [] [])) [(.t 18)], none⟩,
 ⟨some 14, .move (.t 19), none⟩,
 ⟨some 20, .extract (.t 14) 0, none⟩,
 ⟨some 21, .extract (.t 14) 1, none⟩,
 ⟨some 5, .move (.t 20), none⟩,
 ⟨some 6, .move (.t 21), none⟩])
 (.seq
 (.region [0, 3, 4, 24] [
 ⟨some 22, .move (.t 5), none⟩,
 ⟨some 23, .move (.t 0), none⟩,
 ⟨some 24, .bin .eql (.t 22) (.t 23), none⟩])
 (.cond (.t 24)
 (.seq
 (.region [2] [
 ⟨some 25, .move (.t 3), none⟩,
 ⟨some 26, .move (.t 4), none⟩,
 ⟨some 27, .iaddr none 1 (.t 25) (.t 26), none⟩,
 ⟨some 28, .load none (.t 27), none⟩,
 ⟨some 2, .move (.t 28), none⟩])
 .ret)
 .skip))))
 (.region [0, 3, 4] [
 ⟨some 12, .move (.t 4), none⟩,
 ⟨some 13, .bin .add (.t 12) (.c (.p (.int .i64 1))), none⟩,
 ⟨some 4, .move (.t 13), none⟩]))))

def fc53 : FC where
  nt := 38
  np := 1
  res := [.t 2]
  body :=
    (.seq
   (.region [0] [
   ⟨some 2, .move (.c (.p (.str []))), none⟩])
   (.seq
   (.region [0, 3] [
   ⟨some 7, .bslice 9 1 12 (.str []) [(0, (.c (.p (.str [110, 111, 116])))), (1, (.c (.p (.str [97, 108, 119, 97, 121, 115])))), (2, (.c (.p (.str [101, 118, 101, 110, 116, 117, 97, 108, 108, 121])))), (3, (.c (.p (.str [97, 102, 116, 101, 114])))), (4, (.c (.p (.str [110, 111])))), (5, (.c (.p (.str [115, 111, 109, 101])))), (6, (.c (.p (.str [111, 110, 101])))), (7, (.c (.p (.str [108, 111, 110, 101])))), (8, (.c (.p (.str [35])))), (9, (.c (.p (.str [126])))), (10, (.c (.p (.str [94])))), (11, (.c (.p (.str [42]))))], none⟩,
   ⟨some 3, .move (.t 7), none⟩])
   (.seq
   (.seq
   (.region [0, 3, 4] [
   ⟨some 4, .move (.c (.p (.int .i64 0))), none⟩])
   (.block 0
   (.loop [0, 3, 4]
   fc53_b0)))
   (.seq
   (.seq
   (.region [29] [
   ⟨some 29, .move (.t 0), none⟩])
   (.block 2
   (.seq
   (.region [29, 30] [
   ⟨some 31, .bin .eql (.t 29) (.c (.p (.int .i64 30))), none⟩,
   ⟨some 30, .move (.t 31), none⟩])
   (.cond (.t 30)
   (.seq
   (.region [2] [
   ⟨some 2, .move (.c (.p (.str [116, 114, 117, 101]))), none⟩])
   .ret)
   (.seq
   (.region [29, 32] [
   ⟨some 33, .bin .eql (.t 29) (.c (.p (.int .i64 31))), none⟩,
   ⟨some 32, .move (.t 33), none⟩])
   (.cond (.t 32)
   (.seq
   (.region [2] [
   ⟨some 2, .move (.c (.p (.str [102, 97, 108, 115, 101]))), none⟩])
   .ret)
   (.seq
   (.region [29, 34] [
   ⟨some 35, .bin .eql (.t 29) (.c (.p (.int .i64 3))), none⟩,
   ⟨some 34, .move (.t 35), none⟩])
   (.cond (.t 34)
   (.seq
   (.region [2] [
   ⟨some 2, .move (.c (.p (.str [117, 110, 105, 118]))), none⟩])
   .ret)
   (.seq
   (.region [36] [
   ⟨some 37, .bin .eql (.t 29) (.c (.p (.int .i64 4))), none⟩,
   ⟨some 36, .move (.t 37), none⟩])
   (.cond (.t 36)
   (.seq
   (.region [2] [
   ⟨some 2, .move (.c (.p (.str [105, 100, 101, 110]))), none⟩])
   .ret)
   .skip))))))))))
   (.seq
   (.region [2] [
   ⟨some 2, .move (.c (.p (.str []))), none⟩])
   .ret)))))

theorem ok53 : FOk Tryz.prog 53 fc53 := FOk.of Tryz.func53 (by kernel_rfl)

/-- armature/armaturelaw02.sign -/
def fc54_b0 : SC :=
 (.loc
 (.seq
 (.seq
 (.region [0, 3, 4, 9] [
 ⟨some 6, .move (.t 4), none⟩,
 ⟨some 7, .move (.t 3), none⟩,
 ⟨some 8, .len 1 (.t 7), none⟩,
 ⟨some 9, .bin .lss (.t 6) (.t 8), none⟩])
 (.cond (.t 9)
 .skip
 (.exit 0)))
 (.seq
 (.block 1
 (.seq
 (.region [0, 3, 4, 27] [
 ⟨some 12, .move (.t 3), none⟩,
 ⟨some 13, .move (.t 4), none⟩,
 ⟨some 14, .iaddr none 1 (.t 12) (.t 13), none⟩,
 ⟨some 15, .load none (.t 14), none⟩,
 ⟨some 16, .call (.c (.fn 23 [] [])) [(.t 15), (.c (.p (.int .u8 101)))], none⟩,
 ⟨some 17, .move (.t 0), none⟩,
 ⟨some 18, .bin .eql (.t 16) (.t 17), none⟩,
 ⟨some 19, .move (.t 18), none⟩,
 ⟨some 20, .move (.t 3), some (19, false)⟩,
 ⟨some 21, .move (.t 4), some (19, false)⟩,
 ⟨some 22, .iaddr none 1 (.t 20) (.t 21), some (19, false)⟩,
 ⟨some 23, .load none (.t 22), some (19, false)⟩,
 ⟨some 24, .call (.c (.fn 23 [] [])) [(.t 23), (.c (.p (.int .u8 0)))], some (19, false)⟩,
 ⟨some 25, .move (.t 0), some (19, false)⟩,
 ⟨some 26, .bin .eql (.t 24) (.t 25), some (19, false)⟩,
 ⟨some 27, .pick (.t 19) (.c (.p (.bool true))) (.t 26), none⟩])
 (.cond (.t 27)
 (.seq
 (.region [2] [
 ⟨some 28, .move (.t 3), none⟩,
 ⟨some 29, .move (.t 4), none⟩,
 ⟨some 30, .iaddr none 1 (.t 28) (.t 29), none⟩,
 ⟨some 31, .load none (.t 30), none⟩,
 ⟨some 2, .move (.t 31), none⟩])
 .ret)
 .skip)))
 (.region [0, 3, 4] [
 ⟨some 10, .move (.t 4), none⟩,
 ⟨some 11, .bin .add (.t 10) (.c (.p (.int .i64 1))), none⟩,
 ⟨some 4, .move (.t 11), none⟩]))))

def fc54 : FC where
  nt := 32
  np := 1
  res := [.t 2]
  body :=
    (.seq
   (.region [0] [
   ⟨some 2, .move (.c (.p (.str []))), none⟩])
   (.seq
   (.region [0, 3] [
   ⟨some 5, .bslice 9 1 14 (.str []) [(0, (.c (.p (.str [60, 61, 62])))), (1, (.c (.p (.str [61, 62])))), (2, (.c (.p (.str [124, 124])))), (3, (.c (.p (.str [38, 38])))), (4, (.c (.p (.str [117, 110, 116, 105, 108])))), (5, (.c (.p (.str [105, 110])))), (6, (.c (.p (.str [61])))), (7, (.c (.p (.str [60])))), (8, (.c (.p (.str [43])))), (9, (.c (.p (.str [45])))), (10, (.c (.p (.str [43, 43])))), (11, (.c (.p (.str [38])))), (12, (.c (.p (.str [45, 62])))), (13, (.c (.p (.str [46]))))], none⟩,
   ⟨some 3, .move (.t 5), none⟩])
   (.seq
   (.seq
   (.region [0, 3, 4] [
   ⟨some 4, .move (.c (.p (.int .i64 0))), none⟩])
   (.block 0
   (.loop [0, 3, 4]
   fc54_b0)))
   (.seq
   (.region [2] [
   ⟨some 2, .move (.c (.p (.str []))), none⟩])
   .ret))))

theorem ok54 : FOk Tryz.prog 54 fc54 := FOk.of Tryz.func54 (by kernel_rfl)

/-- (*armature/lexer.scanner).skip -/
def fc55_b0 : SC :=
 (.loc
 (.seq
 (.seq
 (.draw [0, 15] [(3, 7)] [
 ⟨some 6, .move (.t 0), none⟩,
 ⟨some 7, .nilCheck (.t 6), none⟩,
 ⟨some 8, .faddr (.t 7) 0, none⟩,
 ⟨some 9, .load none (.t 8), none⟩,
 ⟨some 10, .move (.t 0), none⟩,
 ⟨some 11, .nilCheck (.t 10), none⟩,
 ⟨some 12, .faddr (.t 11) 1, none⟩,
 ⟨some 13, .load none (.t 12), none⟩,
 ⟨some 14, .slice 0 (.t 9) (some (.t 13)) none, none⟩,
 ⟨some 15, .call (.c (.fn 86 [] [])) [(.t 14), (.c (.p (.str [47, 47])))], none⟩])
 (.cond (.t 15)
 .skip
 (.exit 0)))
 (.seq
 (.block 1
 (.region [0] [
 ⟨some 20, .move (.t 0), none⟩,
 ⟨some 21, .move (.t 0), none⟩,
 ⟨some 22, .mkfn 87 [(.t 21)] [], none⟩,
 ⟨some 23, .call (.c (.fn 84 [] [])) [(.t 20), (.t 22)], none⟩]))
 (.region [0] [
 ⟨some 16, .move (.t 0), none⟩,
 ⟨some 17, .move (.t 0), none⟩,
 ⟨some 18, .mkfn 85 [(.t 17)] [], none⟩,
 ⟨some 19, .call (.c (.fn 84 [] [])) [(.t 16), (.t 18)], none⟩]))))

def fc55 : FC where
  nt := 24
  np := 1
  res := []
  body :=
    (.seq
   (.region [0] [
   ⟨some 2, .move (.t 0), none⟩,
   ⟨some 3, .move (.t 0), none⟩,
   ⟨some 4, .mkfn 85 [(.t 3)] [], none⟩,
   ⟨some 5, .call (.c (.fn 84 [] [])) [(.t 2), (.t 4)], none⟩])
   (.block 0
   (.loop [0]
   fc55_b0)))

theorem ok55 : FOk Tryz.prog 55 fc55 := FOk.of Tryz.func55 (by kernel_rfl)

/-- (*armature/lexer.scanner).next -/
def fc56 : FC where
  nt := 43
  np := 1
  res := [.cell 2 (some 3), .t 3]
  body :=
    (.seq
   (.region [0, 2] [
   ⟨some 2, .alloc [.int .i64 0, .str [], .int .i64 0], none⟩,
   ⟨some 3, .move (.c (.p (.bool false))), none⟩])
   (.seq
   (.region [0, 2, 4] [
   ⟨some 6, .move (.t 0), none⟩,
   ⟨some 7, .nilCheck (.t 6), none⟩,
   ⟨some 8, .faddr (.t 7) 1, none⟩,
   ⟨some 9, .load none (.t 8), none⟩,
   ⟨some 10, .build [.int .i64 0, .str [], .int .i64 0] [(2, 1, (.t 9))], none⟩,
   ⟨some 4, .alloc [.int .i64 0, .str [], .int .i64 0], none⟩,
   ⟨none, .store 3 (.t 4) (.t 10), none⟩])
   (.seq
   (.region [0, 2, 4] [
   ⟨some 5, .move (.c (.p (.bool true))), none⟩])
   (.seq
   (.block 0
   (.seq
   (.region [0, 2, 4, 18] [
   ⟨some 19, .move (.t 0), none⟩,
   ⟨some 20, .call (.c (.fn 88 [] [])) [(.t 19)], none⟩,
   ⟨some 18, .move (.t 20), none⟩])
   (.cond (.t 18)
   (.seq
   (.region [0, 2, 4] [
   ⟨some 21, .faddr (.t 4) 0, none⟩,
   ⟨none, .store 1 (.t 21) (.c (.p (.int .i64 1))), none⟩])
   (.seq
   (.region [2, 4] [
   ⟨some 22, .move (.t 0), none⟩,
   ⟨some 23, .move (.t 0), none⟩,
   ⟨some 24, .mkfn 89 [(.t 23)] [], none⟩,
   ⟨some 25, .call (.c (.fn 84 [] [])) [(.t 22), (.t 24)], none⟩,
   ⟨some 26, .faddr (.t 4) 1, none⟩,
   ⟨none, .store 1 (.t 26) (.t 25), none⟩])
   (.region [2, 4, 5] [
   ⟨some 27, .faddr (.t 4) 1, none⟩,
   ⟨some 28, .load none (.t 27), none⟩,
   ⟨some 29, .len 0 (.t 28), none⟩,
   ⟨some 30, .bin .leq (.t 29) (.c (.p (.int .i64 16))), none⟩,
   ⟨some 5, .move (.t 30), none⟩])))
   (.seq
   (.region [0, 2, 4, 31] [
   ⟨some 32, .move (.t 0), none⟩,
   ⟨some 33, .call (.c (.fn 90 [] [])) [(.t 32)], none⟩,
   ⟨some 31, .move (.t 33), none⟩])
   (.cond (.t 31)
   (.seq
   (.region [0, 2, 4] [
   ⟨some 34, .faddr (.t 4) 0, none⟩,
   ⟨none, .store 1 (.t 34) (.c (.p (.int .i64 2))), none⟩])
   (.region [2, 4, 5] [
   ⟨some 36, .move (.t 0), none⟩,
   ⟨some 37, .call (.c (.fn 91 [] [])) [(.t 36)], none⟩,
   ⟨some 35, .move (.t 37), none⟩,
   ⟨some 38, .extract (.t 35) 0, none⟩,
   ⟨some 39, .extract (.t 35) 1, none⟩,
   ⟨some 40, .faddr (.t 4) 1, none⟩,
   ⟨none, .store 1 (.t 40) (.t 38), none⟩,
   ⟨some 5, .move (.t 39), none⟩]))
   (.seq
   (.region [0, 2, 4] [
   ⟨some 11, .faddr (.t 4) 0, none⟩,
   ⟨none, .store 1 (.t 11) (.c (.p (.int .i64 3))), none⟩])
   (.region [2, 4, 5] [
   ⟨some 13, .move (.t 0), none⟩,
   ⟨some 14, .call (.c (.fn 92 [] [])) [(.t 13)], none⟩,
   ⟨some 12, .move (.t 14), none⟩,
   ⟨some 15, .extract (.t 12) 0, none⟩,
   ⟨some 16, .extract (.t 12) 1, none⟩,
   ⟨some 17, .faddr (.t 4) 1, none⟩,
   ⟨none, .store 1 (.t 17) (.t 15), none⟩,
   ⟨some 5, .move (.t 16), none⟩])))))))
   (.seq
   (.region [2, 3] [
   ⟨some 41, .load (some 3) (.t 4), none⟩,
   ⟨some 42, .move (.t 5), none⟩,
   ⟨none, .store 3 (.t 2) (.t 41), none⟩,
   ⟨some 3, .move (.t 42), none⟩])
   .ret)))))

theorem ok56 : FOk Tryz.prog 56 fc56 := FOk.of Tryz.func56 (by kernel_rfl)

/-- armature/armatureref02.ints -/
def fc57_b0 : SC :=
 (.seq
 (.seq
 (.region [0, 1, 5, 14] [
 ⟨some 11, .move (.t 5), none⟩,
 ⟨some 12, .move (.t 0), none⟩,
 ⟨some 13, .len 1 (.t 12), none⟩,
 ⟨some 14, .bin .lss (.t 11) (.t 13), none⟩])
 (.cond (.t 14)
 .skip
 (.exit 0)))
 (.seq
 (.block 1
 (.seq
 (.draw [0, 1, 5, 25] [(3, 7)] [
 ⟨some 17, .move (.t 0), none⟩,
 ⟨some 18, .move (.t 5), none⟩,
 ⟨some 19, .iaddr none 1 (.t 17) (.t 18), none⟩,
 ⟨some 20, .load none (.t 19), none⟩,
 ⟨some 21, .move (.t 1), none⟩,
 ⟨some 22, .move (.t 5), none⟩,
 ⟨some 23, .iaddr none 1 (.t 21) (.t 22), none⟩,
 ⟨some 24, .load none (.t 23), none⟩,
 ⟨some 25, .bin .neq (.t 20) (.t 24), none⟩])
 (.cond (.t 25)
 (.seq
 (.region [4] [
 ⟨some 4, .move (.c (.p (.bool false))), none⟩])
 .ret)
 .skip)))
 (.region [0, 1, 5] [
 ⟨some 15, .move (.t 5), none⟩,
 ⟨some 16, .bin .add (.t 15) (.c (.p (.int .i64 1))), none⟩,
 ⟨some 5, .move (.t 16), none⟩])))

def fc57 : FC where
  nt := 26
  np := 2
  res := [.t 4]
  body :=
    (.seq
   (.region [0, 1] [
   ⟨some 4, .move (.c (.p (.bool false))), none⟩])
   (.seq
   (.seq
   (.region [0, 1, 10] [
   ⟨some 6, .move (.t 0), none⟩,
   ⟨some 7, .len 1 (.t 6), none⟩,
   ⟨some 8, .move (.t 1), none⟩,
   ⟨some 9, .len 1 (.t 8), none⟩,
   ⟨some 10, .bin .neq (.t 7) (.t 9), none⟩])
   (.cond (.t 10)
   (.seq
   (.region [4] [
   ⟨some 4, .move (.c (.p (.bool false))), none⟩])
   .ret)
   .skip))
   (.seq
   (.seq
   (.region [0, 1, 5] [
   ⟨some 5, .move (.c (.p (.int .i64 0))), none⟩])
   (.block 0
   (.loop [0, 1, 5]
   fc57_b0)))
   (.seq
   (.region [4] [
   ⟨some 4, .move (.c (.p (.bool true))), none⟩])
   .ret))))

theorem ok57 : FOk Tryz.prog 57 fc57 := FOk.of Tryz.func57 (by kernel_rfl)

/-- armature/armatureref02.params -/
def fc58_b0 : SC :=
 (.seq
 (.seq
 (.region [0, 1, 5, 14] [
 ⟨some 11, .move (.t 5), none⟩,
 ⟨some 12, .move (.t 0), none⟩,
 ⟨some 13, .len 1 (.t 12), none⟩,
 ⟨some 14, .bin .lss (.t 11) (.t 13), none⟩])
 (.cond (.t 14)
 .skip
 (.exit 0)))
 (.seq
 (.block 1
 (.seq
 (.draw [0, 1, 5, 25] [(3, 7)] [
 ⟨some 17, .move (.t 0), none⟩,
 ⟨some 18, .move (.t 5), none⟩,
 ⟨some 19, .iaddr none 2 (.t 17) (.t 18), none⟩,
 ⟨some 20, .load (some 2) (.t 19), none⟩,
 ⟨some 21, .move (.t 1), none⟩,
 ⟨some 22, .move (.t 5), none⟩,
 ⟨some 23, .iaddr none 2 (.t 21) (.t 22), none⟩,
 ⟨some 24, .load (some 2) (.t 23), none⟩,
 ⟨some 25, .eqs true [2, 1] (.t 20) (.t 24), none⟩])
 (.cond (.t 25)
 (.seq
 (.region [4] [
 ⟨some 4, .move (.c (.p (.bool false))), none⟩])
 .ret)
 .skip)))
 (.region [0, 1, 5] [
 ⟨some 15, .move (.t 5), none⟩,
 ⟨some 16, .bin .add (.t 15) (.c (.p (.int .i64 1))), none⟩,
 ⟨some 5, .move (.t 16), none⟩])))

def fc58 : FC where
  nt := 26
  np := 2
  res := [.t 4]
  body :=
    (.seq
   (.region [0, 1] [
   ⟨some 4, .move (.c (.p (.bool false))), none⟩])
   (.seq
   (.seq
   (.region [0, 1, 10] [
   ⟨some 6, .move (.t 0), none⟩,
   ⟨some 7, .len 1 (.t 6), none⟩,
   ⟨some 8, .move (.t 1), none⟩,
   ⟨some 9, .len 1 (.t 8), none⟩,
   ⟨some 10, .bin .neq (.t 7) (.t 9), none⟩])
   (.cond (.t 10)
   (.seq
   (.region [4] [
   ⟨some 4, .move (.c (.p (.bool false))), none⟩])
   .ret)
   .skip))
   (.seq
   (.seq
   (.region [0, 1, 5] [
   ⟨some 5, .move (.c (.p (.int .i64 0))), none⟩])
   (.block 0
   (.loop [0, 1, 5]
   fc58_b0)))
   (.seq
   (.region [4] [
   ⟨some 4, .move (.c (.p (.bool true))), none⟩])
   .ret))))

theorem ok58 : FOk Tryz.prog 58 fc58 := FOk.of Tryz.func58 (by kernel_rfl)

/-- armature/armaturelaw03.name -/
def fc59 : FC where
  nt := 5
  np := 1
  res := [.cell 2 (some 5)]
  body :=
    (.seq
   (.region [0, 2] [
   ⟨some 2, .alloc [.int .i64 0, .str [], .int .i64 0, .nils, .int .i64 0], none⟩])
   (.seq
   (.region [2] [
   ⟨some 3, .move (.t 0), none⟩,
   ⟨some 4, .build [.int .i64 0, .str [], .int .i64 0, .nils, .int .i64 0] [(0, 1, (.c (.p (.int .i64 1)))), (1, 1, (.t 3))], none⟩,
   ⟨none, .store 5 (.t 2) (.t 4), none⟩])
   .ret))

theorem ok59 : FOk Tryz.prog 59 fc59 := FOk.of Tryz.func59 (by kernel_rfl)

/-- armature/armaturelaw03.call -/
def fc60 : FC where
  nt := 5
  np := 1
  res := [.cell 2 (some 5)]
  body :=
    (.seq
   (.region [0, 2] [
   ⟨some 2, .alloc [.int .i64 0, .str [], .int .i64 0, .nils, .int .i64 0], none⟩])
   (.seq
   (.region [2] [
   ⟨some 3, .move (.t 0), none⟩,
   ⟨some 4, .build [.int .i64 0, .str [], .int .i64 0, .nils, .int .i64 0] [(0, 1, (.c (.p (.int .i64 47)))), (1, 1, (.t 3))], none⟩,
   ⟨none, .store 5 (.t 2) (.t 4), none⟩])
   .ret))

theorem ok60 : FOk Tryz.prog 60 fc60 := FOk.of Tryz.func60 (by kernel_rfl)

/-- armature/armaturelaw03.both -/
def fc61 : FC where
  nt := 12
  np := 3
  res := [.cell 6 (some 5)]
  body :=
    (.seq
   (.region [0, 4, 5, 6] [
   ⟨some 4, .box (.t 1), none⟩,
   ⟨some 5, .box (.t 2), none⟩,
   ⟨some 6, .alloc [.int .i64 0, .str [], .int .i64 0, .nils, .int .i64 0], none⟩])
   (.seq
   (.region [6] [
   ⟨some 7, .move (.t 0), none⟩,
   ⟨some 8, .load (some 5) (.t 4), none⟩,
   ⟨some 9, .load (some 5) (.t 5), none⟩,
   ⟨some 10, .bslice 39 5 2 (.agg [.int .i64 0, .str [], .int .i64 0, .nils, .int .i64 0]) [(0, (.t 8)), (1, (.t 9))], none⟩,
   ⟨some 11, .build [.int .i64 0, .str [], .int .i64 0, .nils, .int .i64 0] [(0, 1, (.t 7)), (3, 1, (.t 10))], none⟩,
   ⟨none, .store 5 (.t 6) (.t 11), none⟩])
   .ret))

theorem ok61 : FOk Tryz.prog 61 fc61 := FOk.of Tryz.func61 (by kernel_rfl)

/-- armature/printer.Spec -/
def fc62_b0 : SC :=
 (.loc
 (.seq
 (.region [1, 3, 4, 16, 17, 18, 19] [
 ⟨some 19, .bin .lss (.t 18) (.t 17), none⟩])
 (.seq
 (.cond (.t 19)
 .skip
 (.exit 0))
 (.seq
 (.block 1
 (.seq
 (.region [1, 3, 4, 6, 16, 17, 18] [
 ⟨some 20, .iaddr none 2 (.t 16) (.t 18), none⟩,
 ⟨some 21, .load (some 2) (.t 20), none⟩,
 ⟨some 6, .alloc [.str [], .bool false], none⟩,
 ⟨none, .store 2 (.t 6) (.t 21), none⟩])
 (.seq
 (.draw [1, 3, 4, 6, 16, 17, 18] [(0, 4)] [
 ⟨some 22, .load none (.t 3), none⟩,
 ⟨some 23, .nilCheck (.t 22), none⟩,
 ⟨some 24, .faddr (.t 23) 0, none⟩,
 ⟨some 25, .faddr (.t 6) 0, none⟩,
 ⟨some 26, .load none (.t 25), none⟩,
 ⟨some 27, .bin .add (.c (.p (.str [115, 111, 114, 116, 32]))) (.t 26), none⟩,
 ⟨some 28, .call (.c (.fn 94 [] [])) [(.t 24), (.t 27)], none⟩])
 (.seq
 (.seq
 (.region [1, 3, 4, 16, 17, 18, 30] [
 ⟨some 29, .faddr (.t 6) 1, none⟩,
 ⟨some 30, .load none (.t 29), none⟩])
 (.cond (.t 30)
 (.region [1, 3, 4, 16, 17, 18] [
 ⟨some 31, .load none (.t 3), none⟩,
 ⟨some 32, .nilCheck (.t 31), none⟩,
 ⟨some 33, .faddr (.t 32) 0, none⟩,
 ⟨some 34, .call (.c (.fn 94 [] [])) [(.t 33), (.c (.p (.str [32, 111, 114, 100, 101, 114, 101, 100])))], none⟩])
 .skip))
 (.region [1, 3, 4, 16, 17, 18] [
 ⟨some 35, .load none (.t 3), none⟩,
 ⟨some 36, .nilCheck (.t 35), none⟩,
 ⟨some 37, .faddr (.t 36) 0, none⟩,
 ⟨some 38, .call (.c (.fn 94 [] [])) [(.t 37), (.c (.p (.str [59, 10])))], none⟩])))))
 (.region [1, 3, 4, 16, 17, 18] [
 ⟨some 39, .bin .add (.t 18) (.c (.p (.int .i64 1))), none⟩,
 ⟨some 18, .move (.t 39), none⟩])))))

def fc62_b1 : SC :=
 (.loc
 (.seq
 (.region [1, 3, 4, 41, 42, 43, 44] [
 ⟨some 44, .bin .lss (.t 43) (.t 42), none⟩])
 (.seq
 (.cond (.t 44)
 .skip
 (.exit 2))
 (.seq
 (.block 3
 (.seq
 (.region [1, 3, 4, 8, 41, 42, 43] [
 ⟨some 45, .iaddr none 3 (.t 41) (.t 43), none⟩,
 ⟨some 46, .load (some 3) (.t 45), none⟩,
 ⟨some 8, .alloc [.str [], .nils, .bool false], none⟩,
 ⟨none, .store 3 (.t 8) (.t 46), none⟩])
 (.seq
 (.seq
 (.region [1, 3, 4, 8, 41, 42, 43, 48] [
 ⟨some 47, .faddr (.t 8) 2, none⟩,
 ⟨some 48, .load none (.t 47), none⟩])
 (.cond (.t 48)
 (.region [1, 3, 4, 8, 41, 42, 43] [
 ⟨some 49, .load none (.t 3), none⟩,
 ⟨some 50, .nilCheck (.t 49), none⟩,
 ⟨some 51, .faddr (.t 50) 0, none⟩,
 ⟨some 52, .call (.c (.fn 94 [] [])) [(.t 51), (.c (.p (.str [118, 97, 114, 32])))], none⟩])
 .skip))
 (.seq
 (.draw [1, 3, 4, 8, 41, 42, 43] [(0, 4)] [
 ⟨some 53, .load none (.t 3), none⟩,
 ⟨some 54, .nilCheck (.t 53), none⟩,
 ⟨some 55, .faddr (.t 54) 0, none⟩,
 ⟨some 56, .faddr (.t 8) 0, none⟩,
 ⟨some 57, .load none (.t 56), none⟩,
 ⟨some 58, .bin .add (.c (.p (.str [102, 105, 101, 108, 100, 32]))) (.t 57), none⟩,
 ⟨some 59, .bin .add (.t 58) (.c (.p (.str [58, 32]))), none⟩,
 ⟨some 60, .call (.c (.fn 94 [] [])) [(.t 55), (.t 59)], none⟩])
 (.seq
 (.region [1, 3, 4, 41, 42, 43] [
 ⟨some 61, .load none (.t 3), none⟩,
 ⟨some 62, .faddr (.t 8) 1, none⟩,
 ⟨some 63, .load none (.t 62), none⟩,
 ⟨some 64, .mkfn 96 [] [(.t 3), (.t 4)], none⟩,
 ⟨some 65, .call (.c (.fn 95 [] [])) [(.t 61), (.t 63), (.c (.p (.str [32, 45, 62, 32]))), (.t 64)], none⟩])
 (.region [1, 3, 4, 41, 42, 43] [
 ⟨some 66, .load none (.t 3), none⟩,
 ⟨some 67, .nilCheck (.t 66), none⟩,
 ⟨some 68, .faddr (.t 67) 0, none⟩,
 ⟨some 69, .call (.c (.fn 94 [] [])) [(.t 68), (.c (.p (.str [59, 10])))], none⟩]))))))
 (.region [1, 3, 4, 41, 42, 43] [
 ⟨some 70, .bin .add (.t 43) (.c (.p (.int .i64 1))), none⟩,
 ⟨some 43, .move (.t 70), none⟩])))))

def fc62_b2 : SC :=
 (.loc
 (.seq
 (.region [1, 3, 4, 72, 73, 74, 75] [
 ⟨some 75, .bin .lss (.t 74) (.t 73), none⟩])
 (.seq
 (.cond (.t 75)
 .skip
 (.exit 4))
 (.seq
 (.block 5
 (.seq
 (.region [1, 3, 4, 10, 72, 73, 74] [
 ⟨some 76, .iaddr none 7 (.t 72) (.t 74), none⟩,
 ⟨some 77, .load (some 7) (.t 76), none⟩,
 ⟨some 10, .alloc [.str [], .nils, .int .i64 0, .str [], .int .i64 0, .nils, .int .i64 0], none⟩,
 ⟨none, .store 7 (.t 10) (.t 77), none⟩])
 (.seq
 (.draw [1, 3, 4, 10, 72, 73, 74] [(0, 4)] [
 ⟨some 78, .load none (.t 3), none⟩,
 ⟨some 79, .nilCheck (.t 78), none⟩,
 ⟨some 80, .faddr (.t 79) 0, none⟩,
 ⟨some 81, .faddr (.t 10) 0, none⟩,
 ⟨some 82, .load none (.t 81), none⟩,
 ⟨some 83, .bin .add (.c (.p (.str [112, 114, 101, 100, 32]))) (.t 82), none⟩,
 ⟨some 84, .bin .add (.t 83) (.c (.p (.str [91]))), none⟩,
 ⟨some 85, .call (.c (.fn 94 [] [])) [(.t 80), (.t 84)], none⟩])
 (.seq
 (.region [1, 3, 4, 10, 72, 73, 74] [
 ⟨some 86, .load none (.t 3), none⟩,
 ⟨some 87, .faddr (.t 10) 1, none⟩,
 ⟨some 88, .load none (.t 87), none⟩,
 ⟨some 89, .mkfn 98 [] [(.t 3), (.t 4)], none⟩,
 ⟨some 90, .call (.c (.fn 97 [] [])) [(.t 86), (.t 88), (.c (.p (.str [44, 32]))), (.t 89)], none⟩])
 (.draw [1, 3, 4, 72, 73, 74] [(0, 4), (0, 5)] [
 ⟨some 91, .load none (.t 3), none⟩,
 ⟨some 92, .nilCheck (.t 91), none⟩,
 ⟨some 93, .faddr (.t 92) 0, none⟩,
 ⟨some 94, .faddr (.t 10) 2, none⟩,
 ⟨some 95, .load (some 5) (.t 94), none⟩,
 ⟨some 96, .call (.c (.fn 34 [] [])) [(.t 95)], none⟩,
 ⟨some 97, .bin .add (.c (.p (.str [93, 32, 123, 32]))) (.t 96), none⟩,
 ⟨some 98, .bin .add (.t 97) (.c (.p (.str [32, 125, 10]))), none⟩,
 ⟨some 99, .call (.c (.fn 94 [] [])) [(.t 93), (.t 98)], none⟩])))))
 (.region [1, 3, 4, 72, 73, 74] [
 ⟨some 100, .bin .add (.t 74) (.c (.p (.int .i64 1))), none⟩,
 ⟨some 74, .move (.t 100), none⟩])))))

def fc62_b3 : SC :=
 (.loc
 (.seq
 (.region [3, 102, 103, 104, 105] [
 ⟨some 105, .bin .lss (.t 104) (.t 103), none⟩])
 (.seq
 (.cond (.t 105)
 .skip
 (.exit 6))
 (.seq
 (.block 7
 (.seq
 (.region [3, 12, 102, 103, 104] [
 ⟨some 106, .iaddr none 6 (.t 102) (.t 104), none⟩,
 ⟨some 107, .load (some 6) (.t 106), none⟩,
 ⟨some 12, .alloc [.str [], .int .i64 0, .str [], .int .i64 0, .nils, .int .i64 0], none⟩,
 ⟨none, .store 6 (.t 12) (.t 107), none⟩])
 (.draw [3, 102, 103, 104] [(0, 4), (0, 8), (4, 8), (0, 9), (4, 9)] [
 ⟨some 108, .load none (.t 3), none⟩,
 ⟨some 109, .nilCheck (.t 108), none⟩,
 ⟨some 110, .faddr (.t 109) 0, none⟩,
 ⟨some 111, .faddr (.t 12) 0, none⟩,
 ⟨some 112, .load none (.t 111), none⟩,
 ⟨some 113, .bin .add (.c (.p (.str [102, 97, 99, 116, 32]))) (.t 112), none⟩,
 ⟨some 114, .bin .add (.t 113) (.c (.p (.str [32, 123, 32]))), none⟩,
 ⟨some 115, .faddr (.t 12) 1, none⟩,
 ⟨some 116, .load (some 5) (.t 115), none⟩,
 ⟨some 117, .call (.c (.fn 34 [] [])) [(.t 116)], none⟩,
 ⟨some 118, .bin .add (.t 114) (.t 117), none⟩,
 ⟨some 119, .bin .add (.t 118) (.c (.p (.str [32, 125, 10]))), none⟩,
 ⟨some 120, .call (.c (.fn 94 [] [])) [(.t 110), (.t 119)], none⟩])))
 (.region [3, 102, 103, 104] [
 ⟨some 121, .bin .add (.t 104) (.c (.p (.int .i64 1))), none⟩,
 ⟨some 104, .move (.t 121), none⟩])))))

def fc62 : FC where
  nt := 126
  np := 1
  res := [.t 2]
  body :=
    (.seq
   (.region [1] [
   ⟨some 1, .box (.t 0), none⟩,
   ⟨some 2, .move (.c (.p (.str []))), none⟩])
   (.seq
   (.region [1, 3, 13] [
   ⟨some 13, .call (.c (.fn 65 [] [])) [], none⟩,
   ⟨some 3, .alloc [.nilp], none⟩,
   ⟨none, .store 1 (.t 3) (.t 13), none⟩])
   (.seq
   (.tokb 13 1 5 1)
   (.seq
   (.region [1, 3, 4] [
   ⟨some 14, .mkfn 93 [] [(.t 1)], none⟩,
   ⟨some 4, .alloc [.nilf], none⟩,
   ⟨none, .store 1 (.t 4) (.t 14), none⟩])
   (.seq
   (.seq
   (.region [1, 3, 4, 16, 17, 18] [
   ⟨some 15, .faddr (.t 1) 0, none⟩,
   ⟨some 16, .load none (.t 15), none⟩,
   ⟨some 17, .len 1 (.t 16), none⟩,
   ⟨some 18, .move (.c (.p (.int .i64 0))), none⟩])
   (.block 0
   (.loop [1, 3, 4, 16, 17, 18]
   fc62_b0)))
   (.seq
   (.seq
   (.region [1, 3, 4, 41, 42, 43] [
   ⟨some 40, .faddr (.t 1) 1, none⟩,
   ⟨some 41, .load none (.t 40), none⟩,
   ⟨some 42, .len 1 (.t 41), none⟩,
   ⟨some 43, .move (.c (.p (.int .i64 0))), none⟩])
   (.block 2
   (.loop [1, 3, 4, 41, 42, 43]
   fc62_b1)))
   (.seq
   (.seq
   (.region [1, 3, 4, 72, 73, 74] [
   ⟨some 71, .faddr (.t 1) 2, none⟩,
   ⟨some 72, .load none (.t 71), none⟩,
   ⟨some 73, .len 1 (.t 72), none⟩,
   ⟨some 74, .move (.c (.p (.int .i64 0))), none⟩])
   (.block 4
   (.loop [1, 3, 4, 72, 73, 74]
   fc62_b2)))
   (.seq
   (.seq
   (.region [3, 102, 103, 104] [
   ⟨some 101, .faddr (.t 1) 3, none⟩,
   ⟨some 102, .load none (.t 101), none⟩,
   ⟨some 103, .len 1 (.t 102), none⟩,
   ⟨some 104, .move (.c (.p (.int .i64 0))), none⟩])
   (.block 6
   (.loop [3, 102, 103, 104]
   fc62_b3)))
   (.seq
   (.region [2] [
   ⟨some 122, .load none (.t 3), none⟩,
   ⟨some 123, .nilCheck (.t 122), none⟩,
   ⟨some 124, .faddr (.t 123) 0, none⟩,
   ⟨some 125, .call (.c (.fn 67 [] [])) [(.t 124)], none⟩,
   ⟨some 2, .move (.t 125), none⟩])
   .ret)))))))))

theorem ok62 : FOk Tryz.prog 62 fc62 := FOk.of Tryz.func62 (by kernel_rfl)

/-- armature/printer.EqualSpecs -/
def fc63 : FC where
  nt := 37
  np := 2
  res := [.t 4]
  body :=
    (.seq
   (.region [2, 3] [
   ⟨some 2, .box (.t 0), none⟩,
   ⟨some 3, .box (.t 1), none⟩,
   ⟨some 4, .move (.c (.p (.bool false))), none⟩])
   (.seq
   (.region [2, 3, 5] [
   ⟨some 5, .move (.c (.fn 99 [] [])), none⟩])
   (.seq
   (.region [2, 3, 5, 6] [
   ⟨some 6, .move (.c (.fn 101 [] [])), none⟩])
   (.seq
   (.region [2, 3, 5, 6, 7] [
   ⟨some 7, .move (.c (.fn 103 [] [])), none⟩])
   (.seq
   (.region [4] [
   ⟨some 8, .faddr (.t 2) 0, none⟩,
   ⟨some 9, .load none (.t 8), none⟩,
   ⟨some 10, .faddr (.t 3) 0, none⟩,
   ⟨some 11, .load none (.t 10), none⟩,
   ⟨some 12, .call (.c (.fn 104 [] [])) [(.t 9), (.t 11)], none⟩,
   ⟨some 13, .move (.t 12), none⟩,
   ⟨some 14, .faddr (.t 2) 1, some (13, true)⟩,
   ⟨some 15, .load none (.t 14), some (13, true)⟩,
   ⟨some 16, .faddr (.t 3) 1, some (13, true)⟩,
   ⟨some 17, .load none (.t 16), some (13, true)⟩,
   ⟨some 18, .move (.t 5), some (13, true)⟩,
   ⟨some 19, .call (.c (.fn 105 [] [])) [(.t 15), (.t 17), (.t 18)], some (13, true)⟩,
   ⟨some 20, .pick (.t 13) (.t 19) (.c (.p (.bool false))), none⟩,
   ⟨some 21, .move (.t 20), none⟩,
   ⟨some 22, .faddr (.t 2) 2, some (21, true)⟩,
   ⟨some 23, .load none (.t 22), some (21, true)⟩,
   ⟨some 24, .faddr (.t 3) 2, some (21, true)⟩,
   ⟨some 25, .load none (.t 24), some (21, true)⟩,
   ⟨some 26, .move (.t 6), some (21, true)⟩,
   ⟨some 27, .call (.c (.fn 106 [] [])) [(.t 23), (.t 25), (.t 26)], some (21, true)⟩,
   ⟨some 28, .pick (.t 21) (.t 27) (.c (.p (.bool false))), none⟩,
   ⟨some 29, .move (.t 28), none⟩,
   ⟨some 30, .faddr (.t 2) 3, some (29, true)⟩,
   ⟨some 31, .load none (.t 30), some (29, true)⟩,
   ⟨some 32, .faddr (.t 3) 3, some (29, true)⟩,
   ⟨some 33, .load none (.t 32), some (29, true)⟩,
   ⟨some 34, .move (.t 7), some (29, true)⟩,
   ⟨some 35, .call (.c (.fn 107 [] [])) [(.t 31), (.t 33), (.t 34)], some (29, true)⟩,
   ⟨some 36, .pick (.t 29) (.t 35) (.c (.p (.bool false))), none⟩,
   ⟨some 4, .move (.t 36), none⟩])
   .ret)))))

theorem ok63 : FOk Tryz.prog 63 fc63 := FOk.of Tryz.func63 (by kernel_rfl)

/-- armature/armatureref02.ValidNode -/
def fc64 : FC where
  nt := 10
  np := 1
  res := [.t 2]
  body :=
    (.seq
   (.region [1] [
   ⟨some 1, .box (.t 0), none⟩,
   ⟨some 2, .move (.c (.p (.bool false))), none⟩])
   (.seq
   (.region [2] [
   ⟨some 3, .load (some 5) (.t 1), none⟩,
   ⟨some 4, .call (.c (.fn 108 [] [])) [(.t 3), (.c (.p (.int .i64 400)))], none⟩,
   ⟨some 5, .bin .leq (.t 4) (.c (.p (.int .i64 400))), none⟩,
   ⟨some 6, .move (.t 5), none⟩,
   ⟨some 7, .load (some 5) (.t 1), some (6, true)⟩,
   ⟨some 8, .call (.c (.fn 109 [] [])) [(.t 7), (.c (.p (.int .i64 24)))], some (6, true)⟩,
   ⟨some 9, .pick (.t 6) (.t 8) (.c (.p (.bool false))), none⟩,
   ⟨some 2, .move (.t 9), none⟩])
   .ret))

theorem ok64 : FOk Tryz.prog 64 fc64 := FOk.of Tryz.func64 (by kernel_rfl)

/-- armature/printer.newPrinter -/
def fc65 : FC where
  nt := 5
  np := 0
  res := [.t 0]
  body :=
    (.seq
   (.region [] [
   ⟨some 0, .move (.c (.p (.nilp))), none⟩])
   (.seq
   (.region [0] [
   ⟨some 1, .call (.c (.fn 110 [] [])) [], none⟩,
   ⟨some 2, .call (.c (.fn 111 [] [])) [], none⟩,
   ⟨some 3, .build [.nilp, .nils, .nilm, .nilm] [(2, 1, (.t 1)), (3, 1, (.t 2))], none⟩,
   ⟨some 4, .boxB 116 (.t 3), none⟩,
   ⟨some 0, .move (.t 4), none⟩])
   .ret))

theorem ok65 : FOk Tryz.prog 65 fc65 := FOk.of Tryz.func65 (by kernel_rfl)

/-- (*armature/printer.printer).node -/
def fc66 : FC where
  nt := 173
  np := 3
  res := []
  body :=
    (.seq
   (.region [0, 2, 4] [
   ⟨some 4, .box (.t 1), none⟩])
   (.seq
   (.seq
   (.draw [0, 2, 4, 6, 7] [(3, 5), (3, 10), (5, 10), (6, 10)] [
   ⟨some 11, .move (.t 0), none⟩,
   ⟨some 12, .nilCheck (.t 11), none⟩,
   ⟨some 13, .faddr (.t 12) 2, none⟩,
   ⟨some 14, .load none (.t 13), none⟩,
   ⟨some 15, .faddr (.t 4) 0, none⟩,
   ⟨some 16, .load none (.t 15), none⟩,
   ⟨some 17, .mapget 13 (.agg [.str [], .int .i64 0, .int .i64 0, .int .i64 0]) true (.t 14) (.t 16), none⟩,
   ⟨some 10, .move (.t 17), none⟩,
   ⟨some 18, .extract (.t 10) 0, none⟩,
   ⟨some 19, .extract (.t 10) 1, none⟩,
   ⟨some 6, .alloc [.str [], .int .i64 0, .int .i64 0, .int .i64 0], none⟩,
   ⟨none, .store 4 (.t 6) (.t 18), none⟩,
   ⟨some 7, .move (.t 19), none⟩])
   (.seq
   (.region [0, 2, 4, 6, 20] [
   ⟨some 20, .move (.t 7), none⟩])
   (.cond (.t 20)
   (.seq
   (.draw [0, 2, 4, 6] [(1, 5), (2, 5)] [
   ⟨some 21, .move (.t 0), none⟩,
   ⟨some 22, .load (some 5) (.t 4), none⟩,
   ⟨some 23, .call (.c (.fn 113 [] [])) [(.t 22), (.c (.p (.int .i64 0)))], none⟩,
   ⟨some 24, .faddr (.t 6) 2, none⟩,
   ⟨some 25, .iaddr (some 2) 1 (.t 24) (.c (.p (.int .i64 0))), none⟩,
   ⟨some 26, .load none (.t 25), none⟩,
   ⟨some 27, .call (.c (.fn 112 [] [])) [(.t 21), (.t 23), (.t 26), (.c (.p (.bool false)))], none⟩])
   (.seq
   (.draw [0, 2, 4, 6] [] [
   ⟨some 28, .move (.t 0), none⟩,
   ⟨some 29, .nilCheck (.t 28), none⟩,
   ⟨some 30, .faddr (.t 29) 0, none⟩,
   ⟨some 31, .faddr (.t 6) 0, none⟩,
   ⟨some 32, .load none (.t 31), none⟩,
   ⟨some 33, .call (.c (.fn 94 [] [])) [(.t 30), (.t 32)], none⟩])
   (.seq
   (.draw [] [(1, 5), (2, 5)] [
   ⟨some 34, .move (.t 0), none⟩,
   ⟨some 35, .load (some 5) (.t 4), none⟩,
   ⟨some 36, .call (.c (.fn 113 [] [])) [(.t 35), (.c (.p (.int .i64 1)))], none⟩,
   ⟨some 37, .faddr (.t 6) 2, none⟩,
   ⟨some 38, .iaddr (some 2) 1 (.t 37) (.c (.p (.int .i64 1))), none⟩,
   ⟨some 39, .load none (.t 38), none⟩,
   ⟨some 40, .move (.t 2), none⟩,
   ⟨some 41, .call (.c (.fn 112 [] [])) [(.t 34), (.t 36), (.t 39), (.t 40)], none⟩])
   .ret)))
   .skip)))
   (.seq
   (.seq
   (.draw [0, 2, 4, 8, 9] [(3, 5), (3, 10), (5, 10), (6, 10)] [
   ⟨some 43, .move (.t 0), none⟩,
   ⟨some 44, .nilCheck (.t 43), none⟩,
   ⟨some 45, .faddr (.t 44) 3, none⟩,
   ⟨some 46, .load none (.t 45), none⟩,
   ⟨some 47, .faddr (.t 4) 0, none⟩,
   ⟨some 48, .load none (.t 47), none⟩,
   ⟨some 49, .mapget 13 (.agg [.str [], .int .i64 0, .int .i64 0, .int .i64 0]) true (.t 46) (.t 48), none⟩,
   ⟨some 42, .move (.t 49), none⟩,
   ⟨some 50, .extract (.t 42) 0, none⟩,
   ⟨some 51, .extract (.t 42) 1, none⟩,
   ⟨some 8, .alloc [.str [], .int .i64 0, .int .i64 0, .int .i64 0], none⟩,
   ⟨none, .store 4 (.t 8) (.t 50), none⟩,
   ⟨some 9, .move (.t 51), none⟩])
   (.seq
   (.region [0, 2, 4, 8, 52] [
   ⟨some 52, .move (.t 9), none⟩])
   (.cond (.t 52)
   (.seq
   (.draw [0, 2, 4, 8] [] [
   ⟨some 53, .move (.t 0), none⟩,
   ⟨some 54, .nilCheck (.t 53), none⟩,
   ⟨some 55, .faddr (.t 54) 0, none⟩,
   ⟨some 56, .faddr (.t 8) 0, none⟩,
   ⟨some 57, .load none (.t 56), none⟩,
   ⟨some 58, .call (.c (.fn 94 [] [])) [(.t 55), (.t 57)], none⟩])
   (.seq
   (.draw [] [(1, 5), (2, 5)] [
   ⟨some 59, .move (.t 0), none⟩,
   ⟨some 60, .load (some 5) (.t 4), none⟩,
   ⟨some 61, .call (.c (.fn 113 [] [])) [(.t 60), (.c (.p (.int .i64 0)))], none⟩,
   ⟨some 62, .faddr (.t 8) 2, none⟩,
   ⟨some 63, .iaddr (some 2) 1 (.t 62) (.c (.p (.int .i64 0))), none⟩,
   ⟨some 64, .load none (.t 63), none⟩,
   ⟨some 65, .move (.t 2), none⟩,
   ⟨some 66, .call (.c (.fn 112 [] [])) [(.t 59), (.t 61), (.t 64), (.t 65)], none⟩])
   .ret))
   .skip)))
   (.seq
   (.region [0, 4, 68] [
   ⟨some 67, .faddr (.t 4) 0, none⟩,
   ⟨some 68, .load none (.t 67), none⟩])
   (.block 0
   (.seq
   (.region [0, 4, 68, 78] [
   ⟨some 79, .bin .eql (.t 68) (.c (.p (.int .i64 1))), none⟩,
   ⟨some 78, .move (.t 79), none⟩])
   (.cond (.t 78)
   (.draw [] [] [
   ⟨some 80, .move (.t 0), none⟩,
   ⟨some 81, .nilCheck (.t 80), none⟩,
   ⟨some 82, .faddr (.t 81) 0, none⟩,
   ⟨some 83, .faddr (.t 4) 1, none⟩,
   ⟨some 84, .load none (.t 83), none⟩,
   ⟨some 85, .call (.c (.fn 94 [] [])) [(.t 82), (.t 84)], none⟩])
   (.seq
   (.region [0, 4, 68, 86] [
   ⟨some 87, .bin .eql (.t 68) (.c (.p (.int .i64 2))), none⟩,
   ⟨some 86, .move (.t 87), none⟩])
   (.cond (.t 86)
   (.seq
   (.region [0, 4] [
   ⟨some 88, .move (.t 0), none⟩,
   ⟨some 89, .nilCheck (.t 88), none⟩,
   ⟨some 90, .faddr (.t 89) 0, none⟩,
   ⟨some 91, .call (.c (.fn 94 [] [])) [(.t 90), (.c (.p (.str [110, 111, 110, 101])))], none⟩])
   (.seq
   (.region [0, 4, 94] [
   ⟨some 92, .faddr (.t 4) 2, none⟩,
   ⟨some 93, .load none (.t 92), none⟩,
   ⟨some 94, .bin .neq (.t 93) (.c (.p (.int .i64 1))), none⟩])
   (.cond (.t 94)
   (.draw [] [] [
   ⟨some 95, .move (.t 0), none⟩,
   ⟨some 96, .nilCheck (.t 95), none⟩,
   ⟨some 97, .faddr (.t 96) 0, none⟩,
   ⟨some 98, .faddr (.t 4) 2, none⟩,
   ⟨some 99, .load none (.t 98), none⟩,
   ⟨some 100, .call (.c (.fn 114 [] [])) [(.t 99)], none⟩,
   ⟨some 101, .bin .add (.c (.p (.str [91]))) (.t 100), none⟩,
   ⟨some 102, .bin .add (.t 101) (.c (.p (.str [93]))), none⟩,
   ⟨some 103, .call (.c (.fn 94 [] [])) [(.t 97), (.t 102)], none⟩])
   .skip)))
   (.seq
   (.region [0, 4, 68, 104] [
   ⟨some 105, .bin .eql (.t 68) (.c (.p (.int .i64 20))), none⟩,
   ⟨some 104, .move (.t 105), none⟩])
   (.cond (.t 104)
   (.draw [] [] [
   ⟨some 106, .move (.t 0), none⟩,
   ⟨some 107, .nilCheck (.t 106), none⟩,
   ⟨some 108, .faddr (.t 107) 0, none⟩,
   ⟨some 109, .faddr (.t 4) 2, none⟩,
   ⟨some 110, .load none (.t 109), none⟩,
   ⟨some 111, .call (.c (.fn 114 [] [])) [(.t 110)], none⟩,
   ⟨some 112, .call (.c (.fn 94 [] [])) [(.t 108), (.t 111)], none⟩])
   (.seq
   (.region [0, 4, 68, 113] [
   ⟨some 114, .bin .eql (.t 68) (.c (.p (.int .i64 5))), none⟩,
   ⟨some 113, .move (.t 114), none⟩])
   (.cond (.t 113)
   (.seq
   (.region [0] [
   ⟨some 115, .move (.t 0), none⟩,
   ⟨some 116, .load (some 5) (.t 4), none⟩,
   ⟨some 117, .call (.c (.fn 113 [] [])) [(.t 116), (.c (.p (.int .i64 0)))], none⟩,
   ⟨some 118, .call (.c (.fn 112 [] [])) [(.t 115), (.t 117), (.c (.p (.int .i64 14))), (.c (.p (.bool false)))], none⟩])
   (.region [] [
   ⟨some 119, .move (.t 0), none⟩,
   ⟨some 120, .nilCheck (.t 119), none⟩,
   ⟨some 121, .faddr (.t 120) 0, none⟩,
   ⟨some 122, .call (.c (.fn 115 [] [])) [(.t 121), (.c (.p (.int .u8 39)))], none⟩]))
   (.seq
   (.region [0, 4, 68, 123] [
   ⟨some 124, .bin .eql (.t 68) (.c (.p (.int .i64 45))), none⟩,
   ⟨some 123, .move (.t 124), none⟩])
   (.cond (.t 123)
   (.seq
   (.region [0, 4] [
   ⟨some 125, .move (.t 0), none⟩,
   ⟨some 126, .nilCheck (.t 125), none⟩,
   ⟨some 127, .faddr (.t 126) 0, none⟩,
   ⟨some 128, .call (.c (.fn 94 [] [])) [(.t 127), (.c (.p (.str [97, 108, 108, 32])))], none⟩])
   (.region [] [
   ⟨some 129, .move (.t 0), none⟩,
   ⟨some 130, .load (some 5) (.t 4), none⟩,
   ⟨some 131, .call (.c (.fn 116 [] [])) [(.t 129), (.t 130)], none⟩]))
   (.seq
   (.region [0, 4, 68, 132] [
   ⟨some 133, .bin .eql (.t 68) (.c (.p (.int .i64 46))), none⟩,
   ⟨some 132, .move (.t 133), none⟩])
   (.cond (.t 132)
   (.seq
   (.region [0, 4] [
   ⟨some 134, .move (.t 0), none⟩,
   ⟨some 135, .nilCheck (.t 134), none⟩,
   ⟨some 136, .faddr (.t 135) 0, none⟩,
   ⟨some 137, .call (.c (.fn 94 [] [])) [(.t 136), (.c (.p (.str [115, 111, 109, 101, 32])))], none⟩])
   (.region [] [
   ⟨some 138, .move (.t 0), none⟩,
   ⟨some 139, .load (some 5) (.t 4), none⟩,
   ⟨some 140, .call (.c (.fn 116 [] [])) [(.t 138), (.t 139)], none⟩]))
   (.seq
   (.region [0, 4, 68, 141] [
   ⟨some 142, .bin .eql (.t 68) (.c (.p (.int .i64 15))), none⟩,
   ⟨some 141, .move (.t 142), none⟩])
   (.cond (.t 141)
   (.seq
   (.region [0, 4] [
   ⟨some 143, .move (.t 0), none⟩,
   ⟨some 144, .nilCheck (.t 143), none⟩,
   ⟨some 145, .faddr (.t 144) 0, none⟩,
   ⟨some 146, .call (.c (.fn 115 [] [])) [(.t 145), (.c (.p (.int .u8 123)))], none⟩])
   (.seq
   (.region [0] [
   ⟨some 147, .move (.t 0), none⟩,
   ⟨some 148, .load (some 5) (.t 4), none⟩,
   ⟨some 149, .call (.c (.fn 116 [] [])) [(.t 147), (.t 148)], none⟩])
   (.region [] [
   ⟨some 150, .move (.t 0), none⟩,
   ⟨some 151, .nilCheck (.t 150), none⟩,
   ⟨some 152, .faddr (.t 151) 0, none⟩,
   ⟨some 153, .call (.c (.fn 115 [] [])) [(.t 152), (.c (.p (.int .u8 125)))], none⟩])))
   (.seq
   (.region [0, 4, 154] [
   ⟨some 155, .bin .eql (.t 68) (.c (.p (.int .i64 47))), none⟩,
   ⟨some 154, .move (.t 155), none⟩])
   (.cond (.t 154)
   (.seq
   (.draw [0, 4] [] [
   ⟨some 156, .move (.t 0), none⟩,
   ⟨some 157, .nilCheck (.t 156), none⟩,
   ⟨some 158, .faddr (.t 157) 0, none⟩,
   ⟨some 159, .faddr (.t 4) 1, none⟩,
   ⟨some 160, .load none (.t 159), none⟩,
   ⟨some 161, .bin .add (.t 160) (.c (.p (.str [91]))), none⟩,
   ⟨some 162, .call (.c (.fn 94 [] [])) [(.t 158), (.t 161)], none⟩])
   (.seq
   (.region [0] [
   ⟨some 163, .move (.t 0), none⟩,
   ⟨some 164, .faddr (.t 4) 3, none⟩,
   ⟨some 165, .load none (.t 164), none⟩,
   ⟨some 166, .move (.t 0), none⟩,
   ⟨some 167, .mkfn 118 [(.t 166)] [], none⟩,
   ⟨some 168, .call (.c (.fn 117 [] [])) [(.t 163), (.t 165), (.c (.p (.str [44, 32]))), (.t 167)], none⟩])
   (.region [] [
   ⟨some 169, .move (.t 0), none⟩,
   ⟨some 170, .nilCheck (.t 169), none⟩,
   ⟨some 171, .faddr (.t 170) 0, none⟩,
   ⟨some 172, .call (.c (.fn 115 [] [])) [(.t 171), (.c (.p (.int .u8 93)))], none⟩])))
   (.draw [] [(4, 5), (4, 6), (5, 6), (4, 7), (5, 7), (6, 7), (3, 10), (4, 10), (5, 10), (6, 10), (7, 10)] [
   ⟨some 69, .move (.t 0), none⟩,
   ⟨some 70, .nilCheck (.t 69), none⟩,
   ⟨some 71, .faddr (.t 70) 0, none⟩,
   ⟨some 72, .mkmap 13, none⟩,
   ⟨none, .mapins 13 (.t 72) (.c (.p (.int .i64 3))) (.c (.p (.str [117, 110, 105, 118]))), none⟩,
   ⟨none, .mapins 13 (.t 72) (.c (.p (.int .i64 4))) (.c (.p (.str [105, 100, 101, 110]))), none⟩,
   ⟨none, .mapins 13 (.t 72) (.c (.p (.int .i64 30))) (.c (.p (.str [116, 114, 117, 101]))), none⟩,
   ⟨none, .mapins 13 (.t 72) (.c (.p (.int .i64 31))) (.c (.p (.str [102, 97, 108, 115, 101]))), none⟩,
   ⟨some 73, .move (.t 72), none⟩,
   ⟨some 74, .faddr (.t 4) 0, none⟩,
   ⟨some 75, .load none (.t 74), none⟩,
   ⟨some 76, .mapget 13 (.str []) false (.t 73) (.t 75), none⟩,
   ⟨some 77, .call (.c (.fn 94 [] [])) [(.t 71), (.t 76)], none⟩]))))))))))))))))))))))

theorem ok66 : FOk Tryz.prog 66 fc66 := FOk.of Tryz.func66 (by kernel_rfl)

/-- (*strings.Builder).String -/
def fc67 : FC where
  nt := 14
  np := 1
  res := [.t 2]
  body :=
    (.seq
   (.region [0] [
   ⟨some 2, .move (.c (.p (.str []))), none⟩])
   (.seq
   (.draw [2] [(3, 8), (4, 8)] [
   ⟨some 3, .move (.t 0), none⟩,
   ⟨some 4, .nilCheck (.t 3), none⟩,
   ⟨some 5, .faddr (.t 4) 1, none⟩,
   ⟨some 6, .load none (.t 5), none⟩,
   ⟨some 7, .sdata (.t 6), none⟩,
   ⟨some 8, .move (.t 0), none⟩,
   ⟨some 9, .nilCheck (.t 8), none⟩,
   ⟨some 10, .faddr (.t 9) 1, none⟩,
   ⟨some 11, .load none (.t 10), none⟩,
   ⟨some 12, .len 1 (.t 11), none⟩,
   ⟨some 13, .ustr 5 (.t 7) (.t 12), none⟩,
   ⟨some 2, .move (.t 13), none⟩])
   .ret))

theorem ok67 : FOk Tryz.prog 67 fc67 := FOk.of Tryz.func67 (by kernel_rfl)

/-- slices.EqualFunc[[]armature/api.Node,[]armature/api.Node,armature/api.Node,armature/api.Node] -/
def fc68_b0 : SC :=
 (.loc
 (.seq
 (.region [1, 2, 15, 16, 17, 18] [
 ⟨some 18, .bin .lss (.t 17) (.t 16), none⟩])
 (.seq
 (.cond (.t 18)
 .skip
 (.exit 0))
 (.seq
 (.block 1
 (.seq
 (.region [1, 2, 7, 8, 15, 16, 17] [
 ⟨some 19, .move (.t 17), none⟩,
 ⟨some 20, .iaddr none 5 (.t 15) (.t 17), none⟩,
 ⟨some 21, .load (some 5) (.t 20), none⟩,
 ⟨some 8, .alloc [.int .i64 0, .str [], .int .i64 0, .nils, .int .i64 0], none⟩,
 ⟨some 7, .move (.t 19), none⟩,
 ⟨none, .store 5 (.t 8) (.t 21), none⟩])
 (.seq
 (.region [1, 2, 8, 9, 15, 16, 17] [
 ⟨some 22, .move (.t 1), none⟩,
 ⟨some 23, .move (.t 7), none⟩,
 ⟨some 24, .iaddr none 5 (.t 22) (.t 23), none⟩,
 ⟨some 25, .load (some 5) (.t 24), none⟩,
 ⟨some 9, .alloc [.int .i64 0, .str [], .int .i64 0, .nils, .int .i64 0], none⟩,
 ⟨none, .store 5 (.t 9) (.t 25), none⟩])
 (.seq
 (.region [1, 2, 15, 16, 17, 30] [
 ⟨some 26, .move (.t 2), none⟩,
 ⟨some 27, .load (some 5) (.t 8), none⟩,
 ⟨some 28, .load (some 5) (.t 9), none⟩,
 ⟨some 29, .call (.t 26) [(.t 27), (.t 28)], none⟩,
 ⟨some 30, .un .not (.t 29), none⟩])
 (.cond (.t 30)
 (.seq
 (.region [6] [
 ⟨some 6, .move (.c (.p (.bool false))), none⟩])
 .ret)
 .skip)))))
 (.region [1, 2, 15, 16, 17] [
 ⟨some 31, .bin .add (.t 17) (.c (.p (.int .i64 1))), none⟩,
 ⟨some 17, .move (.t 31), none⟩])))))

def fc68 : FC where
  nt := 32
  np := 3
  res := [.t 6]
  body :=
    (.seq
   (.region [0, 1, 2] [
   ⟨some 6, .move (.c (.p (.bool false))), none⟩])
   (.seq
   (.seq
   (.region [0, 1, 2, 14] [
   ⟨some 10, .move (.t 0), none⟩,
   ⟨some 11, .len 1 (.t 10), none⟩,
   ⟨some 12, .move (.t 1), none⟩,
   ⟨some 13, .len 1 (.t 12), none⟩,
   ⟨some 14, .bin .neq (.t 11) (.t 13), none⟩])
   (.cond (.t 14)
   (.seq
   (.region [6] [
   ⟨some 6, .move (.c (.p (.bool false))), none⟩])
   .ret)
   .skip))
   (.seq
   (.seq
   (.region [1, 2, 15, 16, 17] [
   ⟨some 15, .move (.t 0), none⟩,
   ⟨some 16, .len 1 (.t 15), none⟩,
   ⟨some 17, .move (.c (.p (.int .i64 0))), none⟩])
   (.block 0
   (.loop [1, 2, 15, 16, 17]
   fc68_b0)))
   (.seq
   (.region [6] [
   ⟨some 6, .move (.c (.p (.bool true))), none⟩])
   .ret))))

theorem ok68 : FOk Tryz.prog 68 fc68 := FOk.of Tryz.func68 (by kernel_rfl)

/-- armature/armatureref03.Count -/
def fc69_b0 : SC :=
 (.loc
 (.seq
 (.seq
 (.region [1, 2, 5, 6, 17] [
 ⟨some 8, .move (.t 6), none⟩,
 ⟨some 9, .faddr (.t 2) 3, none⟩,
 ⟨some 10, .load none (.t 9), none⟩,
 ⟨some 11, .len 1 (.t 10), none⟩,
 ⟨some 12, .bin .lss (.t 8) (.t 11), none⟩,
 ⟨some 13, .move (.t 12), none⟩,
 ⟨some 14, .move (.t 5), some (13, true)⟩,
 ⟨some 15, .move (.t 1), some (13, true)⟩,
 ⟨some 16, .bin .leq (.t 14) (.t 15), some (13, true)⟩,
 ⟨some 17, .pick (.t 13) (.t 16) (.c (.p (.bool false))), none⟩])
 (.cond (.t 17)
 .skip
 (.exit 0)))
 (.seq
 (.block 1
 (.seq
 (.region [1, 2, 5, 6, 7] [
 ⟨some 20, .faddr (.t 2) 3, none⟩,
 ⟨some 21, .load none (.t 20), none⟩,
 ⟨some 22, .move (.t 6), none⟩,
 ⟨some 23, .iaddr none 5 (.t 21) (.t 22), none⟩,
 ⟨some 24, .load (some 5) (.t 23), none⟩,
 ⟨some 25, .move (.t 1), none⟩,
 ⟨some 26, .move (.t 5), none⟩,
 ⟨some 27, .bin .sub (.t 25) (.t 26), none⟩,
 ⟨some 28, .call (.c (.fn 69 [] [])) [(.t 24), (.t 27)], none⟩,
 ⟨some 7, .move (.t 28), none⟩])
 (.region [1, 2, 5, 6] [
 ⟨some 29, .move (.t 5), none⟩,
 ⟨some 30, .move (.t 7), none⟩,
 ⟨some 31, .bin .add (.t 29) (.t 30), none⟩,
 ⟨some 5, .move (.t 31), none⟩])))
 (.region [1, 2, 5, 6] [
 ⟨some 18, .move (.t 6), none⟩,
 ⟨some 19, .bin .add (.t 18) (.c (.p (.int .i64 1))), none⟩,
 ⟨some 6, .move (.t 19), none⟩]))))

def fc69 : FC where
  nt := 33
  np := 2
  res := [.t 4]
  body :=
    (.seq
   (.region [1, 2] [
   ⟨some 2, .box (.t 0), none⟩,
   ⟨some 4, .move (.c (.p (.int .i64 0))), none⟩])
   (.seq
   (.region [1, 2, 5] [
   ⟨some 5, .move (.c (.p (.int .i64 1))), none⟩])
   (.seq
   (.seq
   (.region [1, 2, 5, 6] [
   ⟨some 6, .move (.c (.p (.int .i64 0))), none⟩])
   (.block 0
   (.loop [1, 2, 5, 6]
   fc69_b0)))
   (.seq
   (.region [4] [
   ⟨some 32, .move (.t 5), none⟩,
   ⟨some 4, .move (.t 32), none⟩])
   .ret))))

theorem ok69 : FOk Tryz.prog 69 fc69 := FOk.of Tryz.func69 (by kernel_rfl)

/-- armature/parser.operators -/
def fc70 : FC where
  nt := 19
  np := 0
  res := [.t 0]
  body :=
    (.seq
   (.region [] [
   ⟨some 0, .move (.c (.p (.nilm))), none⟩])
   (.seq
   (.region [0] [
   ⟨some 1, .mkmap 2, none⟩,
   ⟨some 2, .build [.int .i64 0, .bool false, .int .i64 0, .int .i64 0] [(0, 1, (.c (.p (.int .i64 1)))), (1, 1, (.c (.p (.bool false)))), (2, 1, (.c (.p (.int .i64 0)))), (3, 1, (.c (.p (.int .i64 44))))], none⟩,
   ⟨none, .mapins 2 (.t 1) (.c (.p (.str [60, 61, 62]))) (.t 2), none⟩,
   ⟨some 3, .build [.int .i64 0, .bool false, .int .i64 0, .int .i64 0] [(0, 1, (.c (.p (.int .i64 2)))), (1, 1, (.c (.p (.bool true)))), (2, 1, (.c (.p (.int .i64 0)))), (3, 1, (.c (.p (.int .i64 43))))], none⟩,
   ⟨none, .mapins 2 (.t 1) (.c (.p (.str [61, 62]))) (.t 3), none⟩,
   ⟨some 4, .build [.int .i64 0, .bool false, .int .i64 0, .int .i64 0] [(0, 1, (.c (.p (.int .i64 3)))), (1, 1, (.c (.p (.bool false)))), (2, 1, (.c (.p (.int .i64 0)))), (3, 1, (.c (.p (.int .i64 42))))], none⟩,
   ⟨none, .mapins 2 (.t 1) (.c (.p (.str [124, 124]))) (.t 4), none⟩,
   ⟨some 5, .build [.int .i64 0, .bool false, .int .i64 0, .int .i64 0] [(0, 1, (.c (.p (.int .i64 4)))), (1, 1, (.c (.p (.bool false)))), (2, 1, (.c (.p (.int .i64 0)))), (3, 1, (.c (.p (.int .i64 41))))], none⟩,
   ⟨none, .mapins 2 (.t 1) (.c (.p (.str [38, 38]))) (.t 5), none⟩,
   ⟨some 6, .build [.int .i64 0, .bool false, .int .i64 0, .int .i64 0] [(0, 1, (.c (.p (.int .i64 5)))), (1, 1, (.c (.p (.bool true)))), (2, 1, (.c (.p (.int .i64 0)))), (3, 1, (.c (.p (.int .i64 51))))], none⟩,
   ⟨none, .mapins 2 (.t 1) (.c (.p (.str [117, 110, 116, 105, 108]))) (.t 6), none⟩,
   ⟨some 7, .build [.int .i64 0, .bool false, .int .i64 0, .int .i64 0] [(0, 1, (.c (.p (.int .i64 7)))), (1, 1, (.c (.p (.bool false)))), (2, 1, (.c (.p (.int .i64 32)))), (3, 1, (.c (.p (.int .i64 0))))], none⟩,
   ⟨none, .mapins 2 (.t 1) (.c (.p (.str [105, 110]))) (.t 7), none⟩,
   ⟨some 8, .build [.int .i64 0, .bool false, .int .i64 0, .int .i64 0] [(0, 1, (.c (.p (.int .i64 7)))), (1, 1, (.c (.p (.bool false)))), (2, 1, (.c (.p (.int .i64 33)))), (3, 1, (.c (.p (.int .i64 38))))], none⟩,
   ⟨none, .mapins 2 (.t 1) (.c (.p (.str [61]))) (.t 8), none⟩,
   ⟨some 9, .build [.int .i64 0, .bool false, .int .i64 0, .int .i64 0] [(0, 1, (.c (.p (.int .i64 7)))), (1, 1, (.c (.p (.bool false)))), (2, 1, (.c (.p (.int .i64 33)))), (3, 1, (.c (.p (.int .i64 38))))], none⟩,
   ⟨none, .mapins 2 (.t 1) (.c (.p (.str [33, 61]))) (.t 9), none⟩,
   ⟨some 10, .build [.int .i64 0, .bool false, .int .i64 0, .int .i64 0] [(0, 1, (.c (.p (.int .i64 7)))), (1, 1, (.c (.p (.bool false)))), (2, 1, (.c (.p (.int .i64 0)))), (3, 1, (.c (.p (.int .i64 39))))], none⟩,
   ⟨none, .mapins 2 (.t 1) (.c (.p (.str [60]))) (.t 10), none⟩,
   ⟨some 11, .build [.int .i64 0, .bool false, .int .i64 0, .int .i64 0] [(0, 1, (.c (.p (.int .i64 7)))), (1, 1, (.c (.p (.bool false)))), (2, 1, (.c (.p (.int .i64 0)))), (3, 1, (.c (.p (.int .i64 39))))], none⟩,
   ⟨none, .mapins 2 (.t 1) (.c (.p (.str [60, 61]))) (.t 11), none⟩,
   ⟨some 12, .build [.int .i64 0, .bool false, .int .i64 0, .int .i64 0] [(0, 1, (.c (.p (.int .i64 8)))), (1, 1, (.c (.p (.bool false)))), (2, 1, (.c (.p (.int .i64 6)))), (3, 1, (.c (.p (.int .i64 22))))], none⟩,
   ⟨none, .mapins 2 (.t 1) (.c (.p (.str [43]))) (.t 12), none⟩,
   ⟨some 13, .build [.int .i64 0, .bool false, .int .i64 0, .int .i64 0] [(0, 1, (.c (.p (.int .i64 8)))), (1, 1, (.c (.p (.bool false)))), (2, 1, (.c (.p (.int .i64 8)))), (3, 1, (.c (.p (.int .i64 23))))], none⟩,
   ⟨none, .mapins 2 (.t 1) (.c (.p (.str [45]))) (.t 13), none⟩,
   ⟨some 14, .build [.int .i64 0, .bool false, .int .i64 0, .int .i64 0] [(0, 1, (.c (.p (.int .i64 9)))), (1, 1, (.c (.p (.bool false)))), (2, 1, (.c (.p (.int .i64 14)))), (3, 1, (.c (.p (.int .i64 0))))], none⟩,
   ⟨none, .mapins 2 (.t 1) (.c (.p (.str [43, 43]))) (.t 14), none⟩,
   ⟨some 15, .build [.int .i64 0, .bool false, .int .i64 0, .int .i64 0] [(0, 1, (.c (.p (.int .i64 10)))), (1, 1, (.c (.p (.bool false)))), (2, 1, (.c (.p (.int .i64 7)))), (3, 1, (.c (.p (.int .i64 0))))], none⟩,
   ⟨none, .mapins 2 (.t 1) (.c (.p (.str [38]))) (.t 15), none⟩,
   ⟨some 16, .build [.int .i64 0, .bool false, .int .i64 0, .int .i64 0] [(0, 1, (.c (.p (.int .i64 11)))), (1, 1, (.c (.p (.bool false)))), (2, 1, (.c (.p (.int .i64 10)))), (3, 1, (.c (.p (.int .i64 0))))], none⟩,
   ⟨none, .mapins 2 (.t 1) (.c (.p (.str [45, 62]))) (.t 16), none⟩,
   ⟨some 17, .build [.int .i64 0, .bool false, .int .i64 0, .int .i64 0] [(0, 1, (.c (.p (.int .i64 12)))), (1, 1, (.c (.p (.bool false)))), (2, 1, (.c (.p (.int .i64 9)))), (3, 1, (.c (.p (.int .i64 0))))], none⟩,
   ⟨none, .mapins 2 (.t 1) (.c (.p (.str [46]))) (.t 17), none⟩,
   ⟨some 18, .move (.t 1), none⟩,
   ⟨some 0, .move (.t 18), none⟩])
   .ret))

theorem ok70 : FOk Tryz.prog 70 fc70 := FOk.of Tryz.func70 (by kernel_rfl)

/-- armature/parser.prefixes -/
def fc71 : FC where
  nt := 15
  np := 0
  res := [.t 0]
  body :=
    (.seq
   (.region [] [
   ⟨some 0, .move (.c (.p (.nilm))), none⟩])
   (.seq
   (.region [0] [
   ⟨some 1, .mkmap 2, none⟩,
   ⟨some 2, .build [.int .i64 0, .int .i64 0] [(0, 1, (.c (.p (.int .i64 6)))), (1, 1, (.c (.p (.int .i64 40))))], none⟩,
   ⟨none, .mapins 2 (.t 1) (.c (.p (.str [110, 111, 116]))) (.t 2), none⟩,
   ⟨some 3, .build [.int .i64 0, .int .i64 0] [(0, 1, (.c (.p (.int .i64 6)))), (1, 1, (.c (.p (.int .i64 48))))], none⟩,
   ⟨none, .mapins 2 (.t 1) (.c (.p (.str [97, 108, 119, 97, 121, 115]))) (.t 3), none⟩,
   ⟨some 4, .build [.int .i64 0, .int .i64 0] [(0, 1, (.c (.p (.int .i64 6)))), (1, 1, (.c (.p (.int .i64 49))))], none⟩,
   ⟨none, .mapins 2 (.t 1) (.c (.p (.str [101, 118, 101, 110, 116, 117, 97, 108, 108, 121]))) (.t 4), none⟩,
   ⟨some 5, .build [.int .i64 0, .int .i64 0] [(0, 1, (.c (.p (.int .i64 6)))), (1, 1, (.c (.p (.int .i64 50))))], none⟩,
   ⟨none, .mapins 2 (.t 1) (.c (.p (.str [97, 102, 116, 101, 114]))) (.t 5), none⟩,
   ⟨some 6, .build [.int .i64 0, .int .i64 0] [(0, 1, (.c (.p (.int .i64 8)))), (1, 1, (.c (.p (.int .i64 35))))], none⟩,
   ⟨none, .mapins 2 (.t 1) (.c (.p (.str [110, 111]))) (.t 6), none⟩,
   ⟨some 7, .build [.int .i64 0, .int .i64 0] [(0, 1, (.c (.p (.int .i64 8)))), (1, 1, (.c (.p (.int .i64 34))))], none⟩,
   ⟨none, .mapins 2 (.t 1) (.c (.p (.str [115, 111, 109, 101]))) (.t 7), none⟩,
   ⟨some 8, .build [.int .i64 0, .int .i64 0] [(0, 1, (.c (.p (.int .i64 8)))), (1, 1, (.c (.p (.int .i64 36))))], none⟩,
   ⟨none, .mapins 2 (.t 1) (.c (.p (.str [111, 110, 101]))) (.t 8), none⟩,
   ⟨some 9, .build [.int .i64 0, .int .i64 0] [(0, 1, (.c (.p (.int .i64 8)))), (1, 1, (.c (.p (.int .i64 37))))], none⟩,
   ⟨none, .mapins 2 (.t 1) (.c (.p (.str [108, 111, 110, 101]))) (.t 9), none⟩,
   ⟨some 10, .build [.int .i64 0, .int .i64 0] [(0, 1, (.c (.p (.int .i64 12)))), (1, 1, (.c (.p (.int .i64 21))))], none⟩,
   ⟨none, .mapins 2 (.t 1) (.c (.p (.str [35]))) (.t 10), none⟩,
   ⟨some 11, .build [.int .i64 0, .int .i64 0] [(0, 1, (.c (.p (.int .i64 13)))), (1, 1, (.c (.p (.int .i64 11))))], none⟩,
   ⟨none, .mapins 2 (.t 1) (.c (.p (.str [126]))) (.t 11), none⟩,
   ⟨some 12, .build [.int .i64 0, .int .i64 0] [(0, 1, (.c (.p (.int .i64 13)))), (1, 1, (.c (.p (.int .i64 12))))], none⟩,
   ⟨none, .mapins 2 (.t 1) (.c (.p (.str [94]))) (.t 12), none⟩,
   ⟨some 13, .build [.int .i64 0, .int .i64 0] [(0, 1, (.c (.p (.int .i64 13)))), (1, 1, (.c (.p (.int .i64 13))))], none⟩,
   ⟨none, .mapins 2 (.t 1) (.c (.p (.str [42]))) (.t 13), none⟩,
   ⟨some 14, .move (.t 1), none⟩,
   ⟨some 0, .move (.t 14), none⟩])
   .ret))

theorem ok71 : FOk Tryz.prog 71 fc71 := FOk.of Tryz.func71 (by kernel_rfl)

/-- (*armature/parser.reader).look -/
def fc72 : FC where
  nt := 34
  np := 2
  res := [.cell 4 (some 3)]
  body :=
    (.seq
   (.region [0, 1, 4] [
   ⟨some 4, .alloc [.int .i64 0, .str [], .int .i64 0], none⟩])
   (.seq
   (.seq
   (.draw [0, 1, 4, 16] [(3, 9)] [
   ⟨some 5, .move (.t 0), none⟩,
   ⟨some 6, .nilCheck (.t 5), none⟩,
   ⟨some 7, .faddr (.t 6) 1, none⟩,
   ⟨some 8, .load none (.t 7), none⟩,
   ⟨some 9, .move (.t 1), none⟩,
   ⟨some 10, .bin .add (.t 8) (.t 9), none⟩,
   ⟨some 11, .move (.t 0), none⟩,
   ⟨some 12, .nilCheck (.t 11), none⟩,
   ⟨some 13, .faddr (.t 12) 0, none⟩,
   ⟨some 14, .load none (.t 13), none⟩,
   ⟨some 15, .len 1 (.t 14), none⟩,
   ⟨some 16, .bin .lss (.t 10) (.t 15), none⟩])
   (.cond (.t 16)
   (.seq
   (.draw [4] [(3, 7)] [
   ⟨some 17, .move (.t 0), none⟩,
   ⟨some 18, .nilCheck (.t 17), none⟩,
   ⟨some 19, .faddr (.t 18) 0, none⟩,
   ⟨some 20, .load none (.t 19), none⟩,
   ⟨some 21, .move (.t 0), none⟩,
   ⟨some 22, .nilCheck (.t 21), none⟩,
   ⟨some 23, .faddr (.t 22) 1, none⟩,
   ⟨some 24, .load none (.t 23), none⟩,
   ⟨some 25, .move (.t 1), none⟩,
   ⟨some 26, .bin .add (.t 24) (.t 25), none⟩,
   ⟨some 27, .iaddr none 3 (.t 20) (.t 26), none⟩,
   ⟨some 28, .load (some 3) (.t 27), none⟩,
   ⟨none, .store 3 (.t 4) (.t 28), none⟩])
   .ret)
   .skip))
   (.seq
   (.region [4] [
   ⟨some 29, .move (.t 0), none⟩,
   ⟨some 30, .nilCheck (.t 29), none⟩,
   ⟨some 31, .faddr (.t 30) 2, none⟩,
   ⟨some 32, .load none (.t 31), none⟩,
   ⟨some 33, .build [.int .i64 0, .str [], .int .i64 0] [(2, 1, (.t 32))], none⟩,
   ⟨none, .store 3 (.t 4) (.t 33), none⟩])
   .ret)))

theorem ok72 : FOk Tryz.prog 72 fc72 := FOk.of Tryz.func72 (by kernel_rfl)

/-- (*armature/parser.reader).sortDecl -/
def fc73 : FC where
  nt := 40
  np := 2
  res := []
  body :=
    (.seq
   (.region [0] [
   ⟨some 5, .move (.t 0), none⟩,
   ⟨some 6, .nilCheck (.t 5), none⟩,
   ⟨some 7, .faddr (.t 6) 8, none⟩,
   ⟨some 8, .faddr (.t 7) 0, none⟩,
   ⟨some 9, .load none (.t 8), none⟩,
   ⟨some 10, .len 1 (.t 9), none⟩,
   ⟨some 11, .move (.t 1), none⟩,
   ⟨some 12, .call (.c (.fn 119 [] [])) [(.t 10), (.c (.p (.int .i64 4))), (.t 11)], none⟩])
   (.seq
   (.region [0] [
   ⟨some 13, .move (.t 0), none⟩,
   ⟨some 14, .nilCheck (.t 13), none⟩,
   ⟨some 15, .faddr (.t 14) 1, none⟩,
   ⟨some 16, .load none (.t 15), none⟩,
   ⟨some 17, .bin .add (.t 16) (.c (.p (.int .i64 1))), none⟩,
   ⟨some 18, .nilCheck (.t 13), none⟩,
   ⟨some 19, .faddr (.t 18) 1, none⟩,
   ⟨none, .store 1 (.t 19) (.t 17), none⟩])
   (.seq
   (.region [0, 4] [
   ⟨some 20, .move (.t 0), none⟩,
   ⟨some 21, .call (.c (.fn 120 [] [])) [(.t 20)], none⟩,
   ⟨some 22, .field (.t 21) 1 none, none⟩,
   ⟨some 23, .move (.t 0), none⟩,
   ⟨some 24, .call (.c (.fn 121 [] [])) [(.t 23), (.c (.p (.str [111, 114, 100, 101, 114, 101, 100])))], none⟩,
   ⟨some 25, .build [.str [], .bool false] [(0, 1, (.t 22)), (1, 1, (.t 24))], none⟩,
   ⟨some 4, .alloc [.str [], .bool false], none⟩,
   ⟨none, .store 2 (.t 4) (.t 25), none⟩])
   (.seq
   (.region [0, 4] [
   ⟨some 26, .move (.t 0), none⟩,
   ⟨some 27, .call (.c (.fn 122 [] [])) [(.t 26), (.c (.p (.str [59])))], none⟩])
   (.draw [] [(5, 6)] [
   ⟨some 28, .move (.t 0), none⟩,
   ⟨some 29, .move (.t 0), none⟩,
   ⟨some 30, .nilCheck (.t 29), none⟩,
   ⟨some 31, .faddr (.t 30) 8, none⟩,
   ⟨some 32, .faddr (.t 31) 0, none⟩,
   ⟨some 33, .load none (.t 32), none⟩,
   ⟨some 34, .load (some 2) (.t 4), none⟩,
   ⟨some 35, .bslice 81 2 1 (.agg [.str [], .bool false]) [(0, (.t 34))], none⟩,
   ⟨some 36, .append 81 2 24 (.t 33) (.t 35), none⟩,
   ⟨some 37, .nilCheck (.t 28), none⟩,
   ⟨some 38, .faddr (.t 37) 8, none⟩,
   ⟨some 39, .faddr (.t 38) 0, none⟩,
   ⟨none, .store 1 (.t 39) (.t 36), none⟩])))))

theorem ok73 : FOk Tryz.prog 73 fc73 := FOk.of Tryz.func73 (by kernel_rfl)

/-- (*armature/parser.reader).fieldDecl -/
def fc74_b0 : SC :=
 (.loc
 (.seq
 (.seq
 (.region [0, 4, 38] [
 ⟨some 31, .faddr (.t 4) 1, none⟩,
 ⟨some 32, .load none (.t 31), none⟩,
 ⟨some 33, .len 1 (.t 32), none⟩,
 ⟨some 34, .bin .lss (.t 33) (.c (.p (.int .i64 3))), none⟩,
 ⟨some 35, .move (.t 34), none⟩,
 ⟨some 36, .move (.t 0), some (35, true)⟩,
 ⟨some 37, .call (.c (.fn 121 [] [])) [(.t 36), (.c (.p (.str [45, 62])))], some (35, true)⟩,
 ⟨some 38, .pick (.t 35) (.t 37) (.c (.p (.bool false))), none⟩])
 (.cond (.t 38)
 .skip
 (.exit 0)))
 (.block 1
 (.draw [0, 4] [(1, 3)] [
 ⟨some 39, .faddr (.t 4) 1, none⟩,
 ⟨some 40, .load none (.t 39), none⟩,
 ⟨some 41, .move (.t 0), none⟩,
 ⟨some 42, .call (.c (.fn 123 [] [])) [(.t 41)], none⟩,
 ⟨some 43, .bslice 3 1 1 (.int .i64 0) [(0, (.t 42))], none⟩,
 ⟨some 44, .append 3 1 8 (.t 40) (.t 43), none⟩,
 ⟨some 45, .faddr (.t 4) 1, none⟩,
 ⟨none, .store 1 (.t 45) (.t 44), none⟩]))))

def fc74 : FC where
  nt := 60
  np := 2
  res := []
  body :=
    (.seq
   (.region [0] [
   ⟨some 5, .move (.t 0), none⟩,
   ⟨some 6, .nilCheck (.t 5), none⟩,
   ⟨some 7, .faddr (.t 6) 8, none⟩,
   ⟨some 8, .faddr (.t 7) 1, none⟩,
   ⟨some 9, .load none (.t 8), none⟩,
   ⟨some 10, .len 1 (.t 9), none⟩,
   ⟨some 11, .move (.t 1), none⟩,
   ⟨some 12, .call (.c (.fn 119 [] [])) [(.t 10), (.c (.p (.int .i64 6))), (.t 11)], none⟩])
   (.seq
   (.region [0, 4] [
   ⟨some 13, .move (.t 0), none⟩,
   ⟨some 14, .call (.c (.fn 121 [] [])) [(.t 13), (.c (.p (.str [118, 97, 114])))], none⟩,
   ⟨some 15, .build [.str [], .nils, .bool false] [(2, 1, (.t 14))], none⟩,
   ⟨some 4, .alloc [.str [], .nils, .bool false], none⟩,
   ⟨none, .store 3 (.t 4) (.t 15), none⟩])
   (.seq
   (.region [0, 4] [
   ⟨some 16, .move (.t 0), none⟩,
   ⟨some 17, .call (.c (.fn 122 [] [])) [(.t 16), (.c (.p (.str [102, 105, 101, 108, 100])))], none⟩])
   (.seq
   (.region [0, 4] [
   ⟨some 18, .move (.t 0), none⟩,
   ⟨some 19, .call (.c (.fn 120 [] [])) [(.t 18)], none⟩,
   ⟨some 20, .field (.t 19) 1 none, none⟩,
   ⟨some 21, .faddr (.t 4) 0, none⟩,
   ⟨none, .store 1 (.t 21) (.t 20), none⟩])
   (.seq
   (.region [0, 4] [
   ⟨some 22, .move (.t 0), none⟩,
   ⟨some 23, .call (.c (.fn 122 [] [])) [(.t 22), (.c (.p (.str [58])))], none⟩])
   (.seq
   (.draw [0, 4] [(1, 3)] [
   ⟨some 24, .faddr (.t 4) 1, none⟩,
   ⟨some 25, .load none (.t 24), none⟩,
   ⟨some 26, .move (.t 0), none⟩,
   ⟨some 27, .call (.c (.fn 123 [] [])) [(.t 26)], none⟩,
   ⟨some 28, .bslice 3 1 1 (.int .i64 0) [(0, (.t 27))], none⟩,
   ⟨some 29, .append 3 1 8 (.t 25) (.t 28), none⟩,
   ⟨some 30, .faddr (.t 4) 1, none⟩,
   ⟨none, .store 1 (.t 30) (.t 29), none⟩])
   (.seq
   (.block 0
   (.loop [0, 4]
   fc74_b0))
   (.seq
   (.region [0, 4] [
   ⟨some 46, .move (.t 0), none⟩,
   ⟨some 47, .call (.c (.fn 122 [] [])) [(.t 46), (.c (.p (.str [59])))], none⟩])
   (.draw [] [(5, 6)] [
   ⟨some 48, .move (.t 0), none⟩,
   ⟨some 49, .move (.t 0), none⟩,
   ⟨some 50, .nilCheck (.t 49), none⟩,
   ⟨some 51, .faddr (.t 50) 8, none⟩,
   ⟨some 52, .faddr (.t 51) 1, none⟩,
   ⟨some 53, .load none (.t 52), none⟩,
   ⟨some 54, .load (some 3) (.t 4), none⟩,
   ⟨some 55, .bslice 70 3 1 (.agg [.str [], .nils, .bool false]) [(0, (.t 54))], none⟩,
   ⟨some 56, .append 70 3 48 (.t 53) (.t 55), none⟩,
   ⟨some 57, .nilCheck (.t 48), none⟩,
   ⟨some 58, .faddr (.t 57) 8, none⟩,
   ⟨some 59, .faddr (.t 58) 1, none⟩,
   ⟨none, .store 1 (.t 59) (.t 56), none⟩])))))))))

theorem ok74 : FOk Tryz.prog 74 fc74 := FOk.of Tryz.func74 (by kernel_rfl)

/-- (*armature/parser.reader).predDecl -/
def fc75_b0 : SC :=
 (.loc
 (.seq
 (.seq
 (.region [0, 4, 29] [
 ⟨some 27, .move (.t 0), none⟩,
 ⟨some 28, .call (.c (.fn 121 [] [])) [(.t 27), (.c (.p (.str [93])))], none⟩,
 ⟨some 29, .un .not (.t 28), none⟩])
 (.cond (.t 29)
 .skip
 (.exit 0)))
 (.block 1
 (.seq
 (.seq
 (.region [0, 4, 33] [
 ⟨some 30, .faddr (.t 4) 1, none⟩,
 ⟨some 31, .load none (.t 30), none⟩,
 ⟨some 32, .len 1 (.t 31), none⟩,
 ⟨some 33, .bin .gtr (.t 32) (.c (.p (.int .i64 0))), none⟩])
 (.cond (.t 33)
 (.region [0, 4] [
 ⟨some 34, .move (.t 0), none⟩,
 ⟨some 35, .call (.c (.fn 122 [] [])) [(.t 34), (.c (.p (.str [44])))], none⟩])
 .skip))
 (.seq
 (.region [0, 4, 5] [
 ⟨some 36, .move (.t 0), none⟩,
 ⟨some 37, .call (.c (.fn 120 [] [])) [(.t 36)], none⟩,
 ⟨some 5, .alloc [.int .i64 0, .str [], .int .i64 0], none⟩,
 ⟨none, .store 3 (.t 5) (.t 37), none⟩])
 (.seq
 (.region [0, 4, 5] [
 ⟨some 38, .move (.t 0), none⟩,
 ⟨some 39, .call (.c (.fn 122 [] [])) [(.t 38), (.c (.p (.str [58])))], none⟩])
 (.draw [0, 4] [(1, 3), (1, 5), (3, 5)] [
 ⟨some 40, .faddr (.t 4) 1, none⟩,
 ⟨some 41, .load none (.t 40), none⟩,
 ⟨some 42, .faddr (.t 5) 1, none⟩,
 ⟨some 43, .load none (.t 42), none⟩,
 ⟨some 44, .move (.t 0), none⟩,
 ⟨some 45, .call (.c (.fn 123 [] [])) [(.t 44)], none⟩,
 ⟨some 46, .build [.str [], .int .i64 0] [(0, 1, (.t 43)), (1, 1, (.t 45))], none⟩,
 ⟨some 47, .bslice 72 2 1 (.agg [.str [], .int .i64 0]) [(0, (.t 46))], none⟩,
 ⟨some 48, .append 72 2 24 (.t 41) (.t 47), none⟩,
 ⟨some 49, .faddr (.t 4) 1, none⟩,
 ⟨none, .store 1 (.t 49) (.t 48), none⟩])))))))

def fc75 : FC where
  nt := 65
  np := 2
  res := []
  body :=
    (.seq
   (.region [0] [
   ⟨some 6, .move (.t 0), none⟩,
   ⟨some 7, .nilCheck (.t 6), none⟩,
   ⟨some 8, .faddr (.t 7) 8, none⟩,
   ⟨some 9, .faddr (.t 8) 2, none⟩,
   ⟨some 10, .load none (.t 9), none⟩,
   ⟨some 11, .len 1 (.t 10), none⟩,
   ⟨some 12, .move (.t 1), none⟩,
   ⟨some 13, .call (.c (.fn 119 [] [])) [(.t 11), (.c (.p (.int .i64 8))), (.t 12)], none⟩])
   (.seq
   (.region [0] [
   ⟨some 14, .move (.t 0), none⟩,
   ⟨some 15, .nilCheck (.t 14), none⟩,
   ⟨some 16, .faddr (.t 15) 1, none⟩,
   ⟨some 17, .load none (.t 16), none⟩,
   ⟨some 18, .bin .add (.t 17) (.c (.p (.int .i64 1))), none⟩,
   ⟨some 19, .nilCheck (.t 14), none⟩,
   ⟨some 20, .faddr (.t 19) 1, none⟩,
   ⟨none, .store 1 (.t 20) (.t 18), none⟩])
   (.seq
   (.region [0, 4] [
   ⟨some 21, .move (.t 0), none⟩,
   ⟨some 22, .call (.c (.fn 120 [] [])) [(.t 21)], none⟩,
   ⟨some 23, .field (.t 22) 1 none, none⟩,
   ⟨some 24, .build [.str [], .nils, .int .i64 0, .str [], .int .i64 0, .nils, .int .i64 0] [(0, 1, (.t 23))], none⟩,
   ⟨some 4, .alloc [.str [], .nils, .int .i64 0, .str [], .int .i64 0, .nils, .int .i64 0], none⟩,
   ⟨none, .store 7 (.t 4) (.t 24), none⟩])
   (.seq
   (.tokb 4 1 72 2)
   (.seq
   (.region [0, 4] [
   ⟨some 25, .move (.t 0), none⟩,
   ⟨some 26, .call (.c (.fn 122 [] [])) [(.t 25), (.c (.p (.str [91])))], none⟩])
   (.seq
   (.block 0
   (.loop [0, 4]
   fc75_b0))
   (.seq
   (.region [0, 4] [
   ⟨some 50, .move (.t 0), none⟩,
   ⟨some 51, .call (.c (.fn 124 [] [])) [(.t 50)], none⟩,
   ⟨some 52, .faddr (.t 4) 2, none⟩,
   ⟨none, .store 5 (.t 52) (.t 51), none⟩])
   (.draw [] [(5, 6)] [
   ⟨some 53, .move (.t 0), none⟩,
   ⟨some 54, .move (.t 0), none⟩,
   ⟨some 55, .nilCheck (.t 54), none⟩,
   ⟨some 56, .faddr (.t 55) 8, none⟩,
   ⟨some 57, .faddr (.t 56) 2, none⟩,
   ⟨some 58, .load none (.t 57), none⟩,
   ⟨some 59, .load (some 7) (.t 4), none⟩,
   ⟨some 60, .bslice 41 7 1 (.agg [.str [], .nils, .int .i64 0, .str [], .int .i64 0, .nils, .int .i64 0]) [(0, (.t 59))], none⟩,
   ⟨some 61, .append 41 7 104 (.t 58) (.t 60), none⟩,
   ⟨some 62, .nilCheck (.t 53), none⟩,
   ⟨some 63, .faddr (.t 62) 8, none⟩,
   ⟨some 64, .faddr (.t 63) 2, none⟩,
   ⟨none, .store 1 (.t 64) (.t 61), none⟩]))))))))

theorem ok75 : FOk Tryz.prog 75 fc75 := FOk.of Tryz.func75 (by kernel_rfl)

/-- (*armature/parser.reader).factDecl -/
def fc76 : FC where
  nt := 39
  np := 2
  res := []
  body :=
    (.seq
   (.region [0] [
   ⟨some 5, .move (.t 0), none⟩,
   ⟨some 6, .nilCheck (.t 5), none⟩,
   ⟨some 7, .faddr (.t 6) 8, none⟩,
   ⟨some 8, .faddr (.t 7) 3, none⟩,
   ⟨some 9, .load none (.t 8), none⟩,
   ⟨some 10, .len 1 (.t 9), none⟩,
   ⟨some 11, .move (.t 1), none⟩,
   ⟨some 12, .call (.c (.fn 119 [] [])) [(.t 10), (.c (.p (.int .i64 16))), (.t 11)], none⟩])
   (.seq
   (.region [0] [
   ⟨some 13, .move (.t 0), none⟩,
   ⟨some 14, .nilCheck (.t 13), none⟩,
   ⟨some 15, .faddr (.t 14) 1, none⟩,
   ⟨some 16, .load none (.t 15), none⟩,
   ⟨some 17, .bin .add (.t 16) (.c (.p (.int .i64 1))), none⟩,
   ⟨some 18, .nilCheck (.t 13), none⟩,
   ⟨some 19, .faddr (.t 18) 1, none⟩,
   ⟨none, .store 1 (.t 19) (.t 17), none⟩])
   (.seq
   (.region [0, 4] [
   ⟨some 20, .move (.t 0), none⟩,
   ⟨some 21, .call (.c (.fn 120 [] [])) [(.t 20)], none⟩,
   ⟨some 22, .field (.t 21) 1 none, none⟩,
   ⟨some 23, .build [.str [], .int .i64 0, .str [], .int .i64 0, .nils, .int .i64 0] [(0, 1, (.t 22))], none⟩,
   ⟨some 4, .alloc [.str [], .int .i64 0, .str [], .int .i64 0, .nils, .int .i64 0], none⟩,
   ⟨none, .store 6 (.t 4) (.t 23), none⟩])
   (.seq
   (.region [0, 4] [
   ⟨some 24, .move (.t 0), none⟩,
   ⟨some 25, .call (.c (.fn 124 [] [])) [(.t 24)], none⟩,
   ⟨some 26, .faddr (.t 4) 1, none⟩,
   ⟨none, .store 5 (.t 26) (.t 25), none⟩])
   (.draw [] [(5, 6)] [
   ⟨some 27, .move (.t 0), none⟩,
   ⟨some 28, .move (.t 0), none⟩,
   ⟨some 29, .nilCheck (.t 28), none⟩,
   ⟨some 30, .faddr (.t 29) 8, none⟩,
   ⟨some 31, .faddr (.t 30) 3, none⟩,
   ⟨some 32, .load none (.t 31), none⟩,
   ⟨some 33, .load (some 6) (.t 4), none⟩,
   ⟨some 34, .bslice 44 6 1 (.agg [.str [], .int .i64 0, .str [], .int .i64 0, .nils, .int .i64 0]) [(0, (.t 33))], none⟩,
   ⟨some 35, .append 44 6 80 (.t 32) (.t 34), none⟩,
   ⟨some 36, .nilCheck (.t 27), none⟩,
   ⟨some 37, .faddr (.t 36) 8, none⟩,
   ⟨some 38, .faddr (.t 37) 3, none⟩,
   ⟨none, .store 1 (.t 38) (.t 35), none⟩])))))

theorem ok76 : FOk Tryz.prog 76 fc76 := FOk.of Tryz.func76 (by kernel_rfl)

/-- (*armature/parser.reader).try$1 -/
def fc77 : FC where
  nt := 30
  np := 2
  res := []
  body :=
    (.seq
   (.region [0, 1, 2] [
   ⟨some 5, .move (.t 5), none⟩,
   ⟨some 2, .move (.t 5), none⟩])
   (.seq
   (.region [0, 1, 2, 7] [
   ⟨some 6, .move (.t 2), none⟩,
   ⟨some 7, .eqk 4 true (.t 6) (.c (.p (.nili))), none⟩])
   (.cond (.t 7)
   (.seq
   (.region [0, 1, 2, 3, 4] [
   ⟨some 9, .move (.t 2), none⟩,
   ⟨some 10, .tassert 123 (.agg [.int .i64 0, .int .i64 0]) true (.t 9), none⟩,
   ⟨some 8, .move (.t 10), none⟩,
   ⟨some 11, .extract (.t 8) 0, none⟩,
   ⟨some 12, .extract (.t 8) 1, none⟩,
   ⟨some 3, .alloc [.int .i64 0, .int .i64 0], none⟩,
   ⟨none, .store 2 (.t 3) (.t 11), none⟩,
   ⟨some 4, .move (.t 12), none⟩])
   (.seq
   (.seq
   (.region [0, 1, 2, 3, 14] [
   ⟨some 13, .move (.t 4), none⟩,
   ⟨some 14, .un .not (.t 13), none⟩])
   (.cond (.t 14)
   (.region [0, 1, 3] [
   ⟨some 15, .move (.t 2), none⟩,
   ⟨none, .panic (.t 15), none⟩])
   .skip))
   (.seq
   (.draw [0, 1] [(0, 1), (0, 4), (0, 6), (1, 6), (4, 6), (0, 8)] [
   ⟨some 16, .load none (.t 0), none⟩,
   ⟨some 17, .load none (.t 0), none⟩,
   ⟨some 18, .nilCheck (.t 17), none⟩,
   ⟨some 19, .faddr (.t 18) 7, none⟩,
   ⟨some 20, .load none (.t 19), none⟩,
   ⟨some 21, .faddr (.t 3) 0, none⟩,
   ⟨some 22, .load (some 2) (.t 21), none⟩,
   ⟨some 23, .bslice 34 2 1 (.agg [.int .i64 0, .int .i64 0]) [(0, (.t 22))], none⟩,
   ⟨some 24, .append 34 2 16 (.t 20) (.t 23), none⟩,
   ⟨some 25, .nilCheck (.t 16), none⟩,
   ⟨some 26, .faddr (.t 25) 7, none⟩,
   ⟨none, .store 1 (.t 26) (.t 24), none⟩])
   (.seq
   (.region [1] [
   ⟨some 27, .load none (.t 0), none⟩,
   ⟨some 28, .nilCheck (.t 27), none⟩,
   ⟨some 29, .faddr (.t 28) 3, none⟩,
   ⟨none, .store 1 (.t 29) (.c (.p (.int .i64 0))), none⟩])
   (.region [] [
   ⟨none, .store 1 (.t 1) (.c (.p (.bool false))), none⟩])))))
   .skip)))

theorem ok77 : DOk Tryz.prog 77 5 fc77 := DOk.of Tryz.func77 (by kernel_rfl)

/-- armature/parser.own -/
def fc78 : FC where
  nt := 57
  np := 1
  res := [.t 2]
  body :=
    (.seq
   (.region [1] [
   ⟨some 1, .box (.t 0), none⟩,
   ⟨some 2, .move (.c (.p (.bool false))), none⟩])
   (.seq
   (.seq
   (.region [1, 4] [
   ⟨some 3, .faddr (.t 1) 0, none⟩,
   ⟨some 4, .load none (.t 3), none⟩])
   (.block 0
   (.seq
   (.seq
   (.region [1, 4, 5] [
   ⟨some 6, .bin .eql (.t 4) (.c (.p (.int .i64 1))), none⟩,
   ⟨some 5, .move (.t 6), none⟩])
   (.cond (.t 5)
   .skip
   (.seq
   (.region [1, 4, 5] [
   ⟨some 7, .bin .eql (.t 4) (.c (.p (.int .i64 15))), none⟩,
   ⟨some 5, .move (.t 7), none⟩])
   (.cond (.t 5)
   .skip
   (.seq
   (.region [1, 4, 5] [
   ⟨some 8, .bin .eql (.t 4) (.c (.p (.int .i64 45))), none⟩,
   ⟨some 5, .move (.t 8), none⟩])
   (.cond (.t 5)
   .skip
   (.seq
   (.region [1, 4, 5] [
   ⟨some 9, .bin .eql (.t 4) (.c (.p (.int .i64 46))), none⟩,
   ⟨some 5, .move (.t 9), none⟩])
   (.cond (.t 5)
   .skip
   (.region [1, 4, 5] [
   ⟨some 10, .bin .eql (.t 4) (.c (.p (.int .i64 47))), none⟩,
   ⟨some 5, .move (.t 10), none⟩])))))))))
   (.cond (.t 5)
   (.seq
   (.region [2] [
   ⟨some 11, .faddr (.t 1) 1, none⟩,
   ⟨some 12, .load none (.t 11), none⟩,
   ⟨some 13, .call (.c (.fn 125 [] [])) [(.t 12)], none⟩,
   ⟨some 14, .move (.t 13), none⟩,
   ⟨some 15, .faddr (.t 1) 2, some (14, true)⟩,
   ⟨some 16, .load none (.t 15), some (14, true)⟩,
   ⟨some 17, .bin .eql (.t 16) (.c (.p (.int .i64 0))), some (14, true)⟩,
   ⟨some 18, .pick (.t 14) (.t 17) (.c (.p (.bool false))), none⟩,
   ⟨some 2, .move (.t 18), none⟩])
   .ret)
   (.seq
   (.region [1, 4, 19] [
   ⟨some 20, .bin .eql (.t 4) (.c (.p (.int .i64 2))), none⟩,
   ⟨some 19, .move (.t 20), none⟩])
   (.cond (.t 19)
   (.seq
   (.region [2] [
   ⟨some 21, .faddr (.t 1) 1, none⟩,
   ⟨some 22, .load none (.t 21), none⟩,
   ⟨some 23, .bin .eql (.t 22) (.c (.p (.str []))), none⟩,
   ⟨some 24, .move (.t 23), none⟩,
   ⟨some 25, .faddr (.t 1) 2, some (24, true)⟩,
   ⟨some 26, .load none (.t 25), some (24, true)⟩,
   ⟨some 27, .bin .geq (.t 26) (.c (.p (.int .i64 1))), some (24, true)⟩,
   ⟨some 28, .pick (.t 24) (.t 27) (.c (.p (.bool false))), none⟩,
   ⟨some 29, .move (.t 28), none⟩,
   ⟨some 30, .faddr (.t 1) 2, some (29, true)⟩,
   ⟨some 31, .load none (.t 30), some (29, true)⟩,
   ⟨some 32, .bin .leq (.t 31) (.c (.p (.int .i64 3))), some (29, true)⟩,
   ⟨some 33, .pick (.t 29) (.t 32) (.c (.p (.bool false))), none⟩,
   ⟨some 2, .move (.t 33), none⟩])
   .ret)
   (.seq
   (.region [1, 34] [
   ⟨some 35, .bin .eql (.t 4) (.c (.p (.int .i64 20))), none⟩,
   ⟨some 34, .move (.t 35), none⟩])
   (.cond (.t 34)
   (.seq
   (.region [2] [
   ⟨some 36, .faddr (.t 1) 1, none⟩,
   ⟨some 37, .load none (.t 36), none⟩,
   ⟨some 38, .bin .eql (.t 37) (.c (.p (.str []))), none⟩,
   ⟨some 39, .move (.t 38), none⟩,
   ⟨some 40, .faddr (.t 1) 2, some (39, true)⟩,
   ⟨some 41, .load none (.t 40), some (39, true)⟩,
   ⟨some 42, .bin .geq (.t 41) (.c (.p (.int .i64 (-64)))), some (39, true)⟩,
   ⟨some 43, .pick (.t 39) (.t 42) (.c (.p (.bool false))), none⟩,
   ⟨some 44, .move (.t 43), none⟩,
   ⟨some 45, .faddr (.t 1) 2, some (44, true)⟩,
   ⟨some 46, .load none (.t 45), some (44, true)⟩,
   ⟨some 47, .bin .leq (.t 46) (.c (.p (.int .i64 64))), some (44, true)⟩,
   ⟨some 48, .pick (.t 44) (.t 47) (.c (.p (.bool false))), none⟩,
   ⟨some 2, .move (.t 48), none⟩])
   .ret)
   .skip))))))))
   (.seq
   (.region [2] [
   ⟨some 49, .faddr (.t 1) 1, none⟩,
   ⟨some 50, .load none (.t 49), none⟩,
   ⟨some 51, .bin .eql (.t 50) (.c (.p (.str []))), none⟩,
   ⟨some 52, .move (.t 51), none⟩,
   ⟨some 53, .faddr (.t 1) 2, some (52, true)⟩,
   ⟨some 54, .load none (.t 53), some (52, true)⟩,
   ⟨some 55, .bin .eql (.t 54) (.c (.p (.int .i64 0))), some (52, true)⟩,
   ⟨some 56, .pick (.t 52) (.t 55) (.c (.p (.bool false))), none⟩,
   ⟨some 2, .move (.t 56), none⟩])
   .ret)))

theorem ok78 : FOk Tryz.prog 78 fc78 := FOk.of Tryz.func78 (by kernel_rfl)

/-- armature/parser.fits -/
def fc79_b0 : SC :=
 (.loc
 (.seq
 (.region [7, 31, 32, 33, 34] [
 ⟨some 34, .bin .lss (.t 33) (.t 32), none⟩])
 (.seq
 (.cond (.t 34)
 .skip
 (.exit 0))
 (.seq
 (.block 1
 (.seq
 (.region [7, 9, 10, 31, 32, 33] [
 ⟨some 35, .move (.t 33), none⟩,
 ⟨some 36, .iaddr none 5 (.t 31) (.t 33), none⟩,
 ⟨some 37, .load (some 5) (.t 36), none⟩,
 ⟨some 10, .alloc [.int .i64 0, .str [], .int .i64 0, .nils, .int .i64 0], none⟩,
 ⟨some 9, .move (.t 35), none⟩,
 ⟨none, .store 5 (.t 10) (.t 37), none⟩])
 (.seq
 (.draw [7, 31, 32, 33, 45] [] [
 ⟨some 38, .faddr (.t 10) 0, none⟩,
 ⟨some 39, .load none (.t 38), none⟩,
 ⟨some 40, .call (.c (.fn 81 [] [])) [(.t 39)], none⟩,
 ⟨some 41, .index none (.c (.p (.str [63, 101, 105, 102]))) (.t 40), none⟩,
 ⟨some 42, .move (.t 7), none⟩,
 ⟨some 43, .move (.t 9), none⟩,
 ⟨some 44, .index none (.t 42) (.t 43), none⟩,
 ⟨some 45, .bin .neq (.t 41) (.t 44), none⟩])
 (.cond (.t 45)
 (.seq
 (.region [6] [
 ⟨some 6, .move (.c (.p (.bool false))), none⟩])
 .ret)
 .skip))))
 (.region [7, 31, 32, 33] [
 ⟨some 46, .bin .add (.t 33) (.c (.p (.int .i64 1))), none⟩,
 ⟨some 33, .move (.t 46), none⟩])))))

def fc79 : FC where
  nt := 47
  np := 3
  res := [.t 6]
  body :=
    (.seq
   (.region [0, 1, 2] [
   ⟨some 6, .move (.c (.p (.bool false))), none⟩])
   (.seq
   (.region [1, 2, 7, 8] [
   ⟨some 12, .move (.t 0), none⟩,
   ⟨some 13, .move (.t 1), none⟩,
   ⟨some 14, .mapget 13 (.str []) true (.t 12) (.t 13), none⟩,
   ⟨some 11, .move (.t 14), none⟩,
   ⟨some 15, .extract (.t 11) 0, none⟩,
   ⟨some 16, .extract (.t 11) 1, none⟩,
   ⟨some 7, .move (.t 15), none⟩,
   ⟨some 8, .move (.t 16), none⟩])
   (.seq
   (.seq
   (.region [2, 7, 8, 18] [
   ⟨some 17, .move (.t 1), none⟩,
   ⟨some 18, .bin .eql (.t 17) (.c (.p (.int .i64 47))), none⟩])
   (.cond (.t 18)
   (.region [2, 7, 8] [
   ⟨some 19, .move (.t 2), none⟩,
   ⟨some 20, .len 1 (.t 19), none⟩,
   ⟨some 21, .call (.c (.fn 126 [] [])) [(.c (.p (.str [101]))), (.t 20)], none⟩,
   ⟨some 7, .move (.t 21), none⟩,
   ⟨some 8, .move (.c (.p (.bool true))), none⟩])
   .skip))
   (.seq
   (.seq
   (.region [2, 7, 30] [
   ⟨some 22, .move (.t 8), none⟩,
   ⟨some 23, .un .not (.t 22), none⟩,
   ⟨some 24, .move (.t 23), none⟩,
   ⟨some 25, .move (.t 2), some (24, false)⟩,
   ⟨some 26, .len 1 (.t 25), some (24, false)⟩,
   ⟨some 27, .move (.t 7), some (24, false)⟩,
   ⟨some 28, .len 0 (.t 27), some (24, false)⟩,
   ⟨some 29, .bin .neq (.t 26) (.t 28), some (24, false)⟩,
   ⟨some 30, .pick (.t 24) (.c (.p (.bool true))) (.t 29), none⟩])
   (.cond (.t 30)
   (.seq
   (.region [6] [
   ⟨some 6, .move (.c (.p (.bool false))), none⟩])
   .ret)
   .skip))
   (.seq
   (.seq
   (.region [7, 31, 32, 33] [
   ⟨some 31, .move (.t 2), none⟩,
   ⟨some 32, .len 1 (.t 31), none⟩,
   ⟨some 33, .move (.c (.p (.int .i64 0))), none⟩])
   (.block 0
   (.loop [7, 31, 32, 33]
   fc79_b0)))
   (.seq
   (.region [6] [
   ⟨some 6, .move (.c (.p (.bool true))), none⟩])
   .ret))))))

theorem ok79 : FOk Tryz.prog 79 fc79 := FOk.of Tryz.func79 (by kernel_rfl)

/-- (*armature/parser.reader).parse -/
def fc80_b0 : SC :=
 (.loc
 (.block 1
 (.seq
 (.region [0, 1, 4, 5, 6, 7] [
 ⟨some 35, .move (.t 0), none⟩,
 ⟨some 36, .call (.c (.fn 72 [] [])) [(.t 35), (.c (.p (.int .i64 0)))], none⟩,
 ⟨some 7, .alloc [.int .i64 0, .str [], .int .i64 0], none⟩,
 ⟨none, .store 3 (.t 7) (.t 36), none⟩])
 (.seq
 (.draw [0, 1, 4, 5, 6, 7, 8, 9] [(3, 5), (3, 10), (5, 10), (6, 10)] [
 ⟨some 38, .move (.t 0), none⟩,
 ⟨some 39, .nilCheck (.t 38), none⟩,
 ⟨some 40, .faddr (.t 39) 4, none⟩,
 ⟨some 41, .load none (.t 40), none⟩,
 ⟨some 42, .faddr (.t 7) 1, none⟩,
 ⟨some 43, .load none (.t 42), none⟩,
 ⟨some 44, .mapget 2 (.agg [.int .i64 0, .bool false, .int .i64 0, .int .i64 0]) true (.t 41) (.t 43), none⟩,
 ⟨some 37, .move (.t 44), none⟩,
 ⟨some 45, .extract (.t 37) 0, none⟩,
 ⟨some 46, .extract (.t 37) 1, none⟩,
 ⟨some 8, .alloc [.int .i64 0, .bool false, .int .i64 0, .int .i64 0], none⟩,
 ⟨none, .store 4 (.t 8) (.t 45), none⟩,
 ⟨some 9, .move (.t 46), none⟩])
 (.seq
 (.seq
 (.region [0, 1, 4, 5, 7, 8, 67] [
 ⟨some 47, .faddr (.t 7) 0, none⟩,
 ⟨some 48, .load none (.t 47), none⟩,
 ⟨some 49, .bin .eql (.t 48) (.c (.p (.int .i64 0))), none⟩,
 ⟨some 50, .move (.t 49), none⟩,
 ⟨some 51, .move (.t 9), some (50, false)⟩,
 ⟨some 52, .un .not (.t 51), some (50, false)⟩,
 ⟨some 53, .pick (.t 50) (.c (.p (.bool true))) (.t 52), none⟩,
 ⟨some 54, .move (.t 53), none⟩,
 ⟨some 55, .faddr (.t 8) 0, some (54, false)⟩,
 ⟨some 56, .load none (.t 55), some (54, false)⟩,
 ⟨some 57, .move (.t 1), some (54, false)⟩,
 ⟨some 58, .bin .lss (.t 56) (.t 57), some (54, false)⟩,
 ⟨some 59, .pick (.t 54) (.c (.p (.bool true))) (.t 58), none⟩,
 ⟨some 60, .move (.t 59), none⟩,
 ⟨some 61, .faddr (.t 8) 0, some (60, false)⟩,
 ⟨some 62, .load none (.t 61), some (60, false)⟩,
 ⟨some 63, .bin .eql (.t 62) (.c (.p (.int .i64 7))), some (60, false)⟩,
 ⟨some 64, .move (.t 63), some (60, false)⟩,
 ⟨some 65, .move (.t 6), some (64, true)⟩,
 ⟨some 66, .pick (.t 64) (.t 65) (.c (.p (.bool false))), some (60, false)⟩,
 ⟨some 67, .pick (.t 60) (.c (.p (.bool true))) (.t 66), none⟩])
 (.cond (.t 67)
 (.exit 0)
 .skip))
 (.seq
 (.region [0, 1, 4, 5, 7, 8] [
 ⟨some 68, .move (.t 0), none⟩,
 ⟨some 69, .nilCheck (.t 68), none⟩,
 ⟨some 70, .faddr (.t 69) 1, none⟩,
 ⟨some 71, .load none (.t 70), none⟩,
 ⟨some 72, .bin .add (.t 71) (.c (.p (.int .i64 1))), none⟩,
 ⟨some 73, .nilCheck (.t 68), none⟩,
 ⟨some 74, .faddr (.t 73) 1, none⟩,
 ⟨none, .store 1 (.t 74) (.t 72), none⟩])
 (.seq
 (.region [0, 1, 4, 5, 7, 8, 10] [
 ⟨some 75, .faddr (.t 8) 0, none⟩,
 ⟨some 76, .load none (.t 75), none⟩,
 ⟨some 77, .bin .add (.t 76) (.c (.p (.int .i64 1))), none⟩,
 ⟨some 10, .move (.t 77), none⟩])
 (.seq
 (.seq
 (.region [0, 1, 4, 5, 7, 8, 10, 79] [
 ⟨some 78, .faddr (.t 8) 1, none⟩,
 ⟨some 79, .load none (.t 78), none⟩])
 (.cond (.t 79)
 (.region [0, 1, 4, 5, 7, 8, 10] [
 ⟨some 80, .faddr (.t 8) 0, none⟩,
 ⟨some 81, .load none (.t 80), none⟩,
 ⟨some 10, .move (.t 81), none⟩])
 .skip))
 (.seq
 (.draw [0, 1, 4, 5, 8] [(1, 2), (1, 3), (2, 3), (1, 6), (2, 6), (3, 6)] [
 ⟨some 82, .move (.t 0), none⟩,
 ⟨some 83, .load (some 3) (.t 7), none⟩,
 ⟨some 84, .load (some 4) (.t 8), none⟩,
 ⟨some 85, .load (some 5) (.t 5), none⟩,
 ⟨some 86, .move (.t 0), none⟩,
 ⟨some 87, .move (.t 10), none⟩,
 ⟨some 88, .call (.c (.fn 80 [] [])) [(.t 86), (.t 87)], none⟩,
 ⟨some 89, .call (.c (.fn 128 [] [])) [(.t 82), (.t 83), (.t 84), (.t 85), (.t 88)], none⟩,
 ⟨none, .store 5 (.t 5) (.t 89), none⟩])
 (.region [0, 1, 4, 5, 6] [
 ⟨some 90, .faddr (.t 8) 0, none⟩,
 ⟨some 91, .load none (.t 90), none⟩,
 ⟨some 92, .bin .eql (.t 91) (.c (.p (.int .i64 7))), none⟩,
 ⟨some 6, .move (.t 92), none⟩]))))))))))

def fc80 : FC where
  nt := 101
  np := 2
  res := [.cell 4 (some 5)]
  body :=
    (.seq
   (.region [0, 1, 4] [
   ⟨some 4, .alloc [.int .i64 0, .str [], .int .i64 0, .nils, .int .i64 0], none⟩])
   (.seq
   (.seq
   (.region [0, 1, 4, 21] [
   ⟨some 11, .move (.t 0), none⟩,
   ⟨some 12, .nilCheck (.t 11), none⟩,
   ⟨some 13, .faddr (.t 12) 3, none⟩,
   ⟨some 14, .load none (.t 13), none⟩,
   ⟨some 15, .bin .geq (.t 14) (.c (.p (.int .i64 100))), none⟩,
   ⟨some 16, .move (.t 15), none⟩,
   ⟨some 17, .move (.t 0), some (16, true)⟩,
   ⟨some 18, .call (.c (.fn 72 [] [])) [(.t 17), (.c (.p (.int .i64 0)))], some (16, true)⟩,
   ⟨some 19, .field (.t 18) 0 none, some (16, true)⟩,
   ⟨some 20, .bin .neq (.t 19) (.c (.p (.int .i64 0))), some (16, true)⟩,
   ⟨some 21, .pick (.t 16) (.t 20) (.c (.p (.bool false))), none⟩])
   (.cond (.t 21)
   (.region [0, 1, 4] [
   ⟨some 22, .move (.t 0), none⟩,
   ⟨some 23, .call (.c (.fn 72 [] [])) [(.t 22), (.c (.p (.int .i64 0)))], none⟩,
   ⟨some 24, .field (.t 23) 2 none, none⟩,
   ⟨some 25, .call (.c (.fn 82 [] [])) [(.c (.p (.int .i64 2))), (.t 24)], none⟩])
   .skip))
   (.seq
   (.region [0, 1, 4] [
   ⟨some 26, .move (.t 0), none⟩,
   ⟨some 27, .nilCheck (.t 26), none⟩,
   ⟨some 28, .faddr (.t 27) 3, none⟩,
   ⟨some 29, .load none (.t 28), none⟩,
   ⟨some 30, .bin .add (.t 29) (.c (.p (.int .i64 1))), none⟩,
   ⟨some 31, .nilCheck (.t 26), none⟩,
   ⟨some 32, .faddr (.t 31) 3, none⟩,
   ⟨none, .store 1 (.t 32) (.t 30), none⟩])
   (.seq
   (.region [0, 1, 4, 5] [
   ⟨some 33, .move (.t 0), none⟩,
   ⟨some 34, .call (.c (.fn 127 [] [])) [(.t 33)], none⟩,
   ⟨some 5, .alloc [.int .i64 0, .str [], .int .i64 0, .nils, .int .i64 0], none⟩,
   ⟨none, .store 5 (.t 5) (.t 34), none⟩])
   (.seq
   (.region [0, 1, 4, 5, 6] [
   ⟨some 6, .move (.c (.p (.bool false))), none⟩])
   (.seq
   (.block 0
   (.loop [0, 1, 4, 5, 6]
   fc80_b0))
   (.seq
   (.region [4, 5] [
   ⟨some 93, .move (.t 0), none⟩,
   ⟨some 94, .nilCheck (.t 93), none⟩,
   ⟨some 95, .faddr (.t 94) 3, none⟩,
   ⟨some 96, .load none (.t 95), none⟩,
   ⟨some 97, .bin .sub (.t 96) (.c (.p (.int .i64 1))), none⟩,
   ⟨some 98, .nilCheck (.t 93), none⟩,
   ⟨some 99, .faddr (.t 98) 3, none⟩,
   ⟨none, .store 1 (.t 99) (.t 97), none⟩])
   (.seq
   (.region [4] [
   ⟨some 100, .load (some 5) (.t 5), none⟩,
   ⟨none, .store 5 (.t 4) (.t 100), none⟩])
   .ret))))))))
  frz := true

theorem ok80 : FOk Tryz.prog 80 fc80 := FOk.of Tryz.func80 (by kernel_rfl)

/-- armature/parser.kind -/
def fc81 : FC where
  nt := 24
  np := 1
  res := [.t 2]
  body :=
    (.seq
   (.region [0] [
   ⟨some 2, .move (.c (.p (.int .i64 0))), none⟩])
   (.seq
   (.block 0
   (.seq
   (.region [0, 3] [
   ⟨some 4, .move (.t 0), none⟩,
   ⟨some 5, .bin .geq (.t 4) (.c (.p (.int .i64 1))), none⟩,
   ⟨some 6, .move (.t 5), none⟩,
   ⟨some 7, .move (.t 0), some (6, true)⟩,
   ⟨some 8, .bin .leq (.t 7) (.c (.p (.int .i64 15))), some (6, true)⟩,
   ⟨some 9, .pick (.t 6) (.t 8) (.c (.p (.bool false))), none⟩,
   ⟨some 3, .move (.t 9), none⟩])
   (.cond (.t 3)
   (.seq
   (.region [2] [
   ⟨some 2, .move (.c (.p (.int .i64 1))), none⟩])
   .ret)
   (.seq
   (.region [0, 10] [
   ⟨some 11, .move (.t 0), none⟩,
   ⟨some 12, .bin .geq (.t 11) (.c (.p (.int .i64 20))), none⟩,
   ⟨some 13, .move (.t 12), none⟩,
   ⟨some 14, .move (.t 0), some (13, true)⟩,
   ⟨some 15, .bin .leq (.t 14) (.c (.p (.int .i64 23))), some (13, true)⟩,
   ⟨some 16, .pick (.t 13) (.t 15) (.c (.p (.bool false))), none⟩,
   ⟨some 10, .move (.t 16), none⟩])
   (.cond (.t 10)
   (.seq
   (.region [2] [
   ⟨some 2, .move (.c (.p (.int .i64 2))), none⟩])
   .ret)
   (.seq
   (.region [17] [
   ⟨some 18, .move (.t 0), none⟩,
   ⟨some 19, .bin .geq (.t 18) (.c (.p (.int .i64 30))), none⟩,
   ⟨some 20, .move (.t 19), none⟩,
   ⟨some 21, .move (.t 0), some (20, true)⟩,
   ⟨some 22, .bin .leq (.t 21) (.c (.p (.int .i64 51))), some (20, true)⟩,
   ⟨some 23, .pick (.t 20) (.t 22) (.c (.p (.bool false))), none⟩,
   ⟨some 17, .move (.t 23), none⟩])
   (.cond (.t 17)
   (.seq
   (.region [2] [
   ⟨some 2, .move (.c (.p (.int .i64 3))), none⟩])
   .ret)
   .skip)))))))
   (.seq
   (.region [2] [
   ⟨some 2, .move (.c (.p (.int .i64 0))), none⟩])
   .ret)))

theorem ok81 : FOk Tryz.prog 81 fc81 := FOk.of Tryz.func81 (by kernel_rfl)

/-- armature/parser.fail -/
def fc82 : FC where
  nt := 9
  np := 2
  res := []
  body :=
    (.region [] [
   ⟨some 4, .move (.t 0), none⟩,
   ⟨some 5, .move (.t 1), none⟩,
   ⟨some 6, .build [.int .i64 0, .int .i64 0] [(0, 1, (.t 4)), (1, 1, (.t 5))], none⟩,
   ⟨some 7, .build [.int .i64 0, .int .i64 0] [(0, 2, (.t 6))], none⟩,
   ⟨some 8, .iface 123 (.t 7), none⟩,
   ⟨none, .panic (.t 8), none⟩])

theorem ok82 : FOk Tryz.prog 82 fc82 := FOk.of Tryz.func82 (by kernel_rfl)

/-- armature/armatureref02.Prefix -/
def fc83 : FC where
  nt := 29
  np := 1
  res := [.t 2, .t 3]
  body :=
    (.seq
   (.region [0] [
   ⟨some 2, .move (.c (.p (.int .i64 0))), none⟩,
   ⟨some 3, .move (.c (.p (.int .i64 0))), none⟩])
   (.seq
   (.seq
   (.region [4] [
   ⟨some 4, .move (.t 0), none⟩])
   (.block 0
   (.seq
   (.region [4, 5] [
   ⟨some 6, .bin .eql (.t 4) (.c (.p (.str [110, 111, 116]))), none⟩,
   ⟨some 5, .move (.t 6), none⟩])
   (.cond (.t 5)
   (.seq
   (.region [2, 3] [
   ⟨some 2, .move (.c (.p (.int .i64 40))), none⟩,
   ⟨some 3, .move (.c (.p (.int .i64 6))), none⟩])
   .ret)
   (.seq
   (.region [4, 7] [
   ⟨some 8, .bin .eql (.t 4) (.c (.p (.str [97, 108, 119, 97, 121, 115]))), none⟩,
   ⟨some 7, .move (.t 8), none⟩])
   (.cond (.t 7)
   (.seq
   (.region [2, 3] [
   ⟨some 2, .move (.c (.p (.int .i64 48))), none⟩,
   ⟨some 3, .move (.c (.p (.int .i64 6))), none⟩])
   .ret)
   (.seq
   (.region [4, 9] [
   ⟨some 10, .bin .eql (.t 4) (.c (.p (.str [101, 118, 101, 110, 116, 117, 97, 108, 108, 121]))), none⟩,
   ⟨some 9, .move (.t 10), none⟩])
   (.cond (.t 9)
   (.seq
   (.region [2, 3] [
   ⟨some 2, .move (.c (.p (.int .i64 49))), none⟩,
   ⟨some 3, .move (.c (.p (.int .i64 6))), none⟩])
   .ret)
   (.seq
   (.region [4, 11] [
   ⟨some 12, .bin .eql (.t 4) (.c (.p (.str [97, 102, 116, 101, 114]))), none⟩,
   ⟨some 11, .move (.t 12), none⟩])
   (.cond (.t 11)
   (.seq
   (.region [2, 3] [
   ⟨some 2, .move (.c (.p (.int .i64 50))), none⟩,
   ⟨some 3, .move (.c (.p (.int .i64 6))), none⟩])
   .ret)
   (.seq
   (.region [4, 13] [
   ⟨some 14, .bin .eql (.t 4) (.c (.p (.str [110, 111]))), none⟩,
   ⟨some 13, .move (.t 14), none⟩])
   (.cond (.t 13)
   (.seq
   (.region [2, 3] [
   ⟨some 2, .move (.c (.p (.int .i64 35))), none⟩,
   ⟨some 3, .move (.c (.p (.int .i64 8))), none⟩])
   .ret)
   (.seq
   (.region [4, 15] [
   ⟨some 16, .bin .eql (.t 4) (.c (.p (.str [115, 111, 109, 101]))), none⟩,
   ⟨some 15, .move (.t 16), none⟩])
   (.cond (.t 15)
   (.seq
   (.region [2, 3] [
   ⟨some 2, .move (.c (.p (.int .i64 34))), none⟩,
   ⟨some 3, .move (.c (.p (.int .i64 8))), none⟩])
   .ret)
   (.seq
   (.region [4, 17] [
   ⟨some 18, .bin .eql (.t 4) (.c (.p (.str [111, 110, 101]))), none⟩,
   ⟨some 17, .move (.t 18), none⟩])
   (.cond (.t 17)
   (.seq
   (.region [2, 3] [
   ⟨some 2, .move (.c (.p (.int .i64 36))), none⟩,
   ⟨some 3, .move (.c (.p (.int .i64 8))), none⟩])
   .ret)
   (.seq
   (.region [4, 19] [
   ⟨some 20, .bin .eql (.t 4) (.c (.p (.str [108, 111, 110, 101]))), none⟩,
   ⟨some 19, .move (.t 20), none⟩])
   (.cond (.t 19)
   (.seq
   (.region [2, 3] [
   ⟨some 2, .move (.c (.p (.int .i64 37))), none⟩,
   ⟨some 3, .move (.c (.p (.int .i64 8))), none⟩])
   .ret)
   (.seq
   (.region [4, 21] [
   ⟨some 22, .bin .eql (.t 4) (.c (.p (.str [35]))), none⟩,
   ⟨some 21, .move (.t 22), none⟩])
   (.cond (.t 21)
   (.seq
   (.region [2, 3] [
   ⟨some 2, .move (.c (.p (.int .i64 21))), none⟩,
   ⟨some 3, .move (.c (.p (.int .i64 12))), none⟩])
   .ret)
   (.seq
   (.region [4, 23] [
   ⟨some 24, .bin .eql (.t 4) (.c (.p (.str [126]))), none⟩,
   ⟨some 23, .move (.t 24), none⟩])
   (.cond (.t 23)
   (.seq
   (.region [2, 3] [
   ⟨some 2, .move (.c (.p (.int .i64 11))), none⟩,
   ⟨some 3, .move (.c (.p (.int .i64 13))), none⟩])
   .ret)
   (.seq
   (.region [4, 25] [
   ⟨some 26, .bin .eql (.t 4) (.c (.p (.str [94]))), none⟩,
   ⟨some 25, .move (.t 26), none⟩])
   (.cond (.t 25)
   (.seq
   (.region [2, 3] [
   ⟨some 2, .move (.c (.p (.int .i64 12))), none⟩,
   ⟨some 3, .move (.c (.p (.int .i64 13))), none⟩])
   .ret)
   (.seq
   (.region [27] [
   ⟨some 28, .bin .eql (.t 4) (.c (.p (.str [42]))), none⟩,
   ⟨some 27, .move (.t 28), none⟩])
   (.cond (.t 27)
   (.seq
   (.region [2, 3] [
   ⟨some 2, .move (.c (.p (.int .i64 13))), none⟩,
   ⟨some 3, .move (.c (.p (.int .i64 13))), none⟩])
   .ret)
   .skip))))))))))))))))))))))))))
   (.seq
   (.region [2, 3] [
   ⟨some 2, .move (.c (.p (.int .i64 0))), none⟩,
   ⟨some 3, .move (.c (.p (.int .i64 0))), none⟩])
   .ret)))

theorem ok83 : FOk Tryz.prog 83 fc83 := FOk.of Tryz.func83 (by kernel_rfl)

/-- (*armature/lexer.scanner).while -/
def fc84_b0 : SC :=
 (.loc
 (.seq
 (.seq
 (.draw [0, 1, 5, 23] [(3, 7)] [
 ⟨some 10, .move (.t 0), none⟩,
 ⟨some 11, .nilCheck (.t 10), none⟩,
 ⟨some 12, .faddr (.t 11) 1, none⟩,
 ⟨some 13, .load none (.t 12), none⟩,
 ⟨some 14, .move (.t 0), none⟩,
 ⟨some 15, .nilCheck (.t 14), none⟩,
 ⟨some 16, .faddr (.t 15) 0, none⟩,
 ⟨some 17, .load none (.t 16), none⟩,
 ⟨some 18, .len 0 (.t 17), none⟩,
 ⟨some 19, .bin .lss (.t 13) (.t 18), none⟩,
 ⟨some 20, .move (.t 19), none⟩,
 ⟨some 21, .move (.t 1), some (20, true)⟩,
 ⟨some 22, .call (.t 21) [], some (20, true)⟩,
 ⟨some 23, .pick (.t 20) (.t 22) (.c (.p (.bool false))), none⟩])
 (.cond (.t 23)
 .skip
 (.exit 0)))
 (.block 1
 (.region [0, 1, 5] [
 ⟨some 24, .move (.t 0), none⟩,
 ⟨some 25, .nilCheck (.t 24), none⟩,
 ⟨some 26, .faddr (.t 25) 1, none⟩,
 ⟨some 27, .load none (.t 26), none⟩,
 ⟨some 28, .bin .add (.t 27) (.c (.p (.int .i64 1))), none⟩,
 ⟨some 29, .nilCheck (.t 24), none⟩,
 ⟨some 30, .faddr (.t 29) 1, none⟩,
 ⟨none, .store 1 (.t 30) (.t 28), none⟩]))))

def fc84 : FC where
  nt := 41
  np := 2
  res := [.t 4]
  body :=
    (.seq
   (.region [0, 1] [
   ⟨some 4, .move (.c (.p (.str []))), none⟩])
   (.seq
   (.region [0, 1, 5] [
   ⟨some 6, .move (.t 0), none⟩,
   ⟨some 7, .nilCheck (.t 6), none⟩,
   ⟨some 8, .faddr (.t 7) 1, none⟩,
   ⟨some 9, .load none (.t 8), none⟩,
   ⟨some 5, .move (.t 9), none⟩])
   (.seq
   (.block 0
   (.loop [0, 1, 5]
   fc84_b0))
   (.seq
   (.draw [4] [(3, 8)] [
   ⟨some 31, .move (.t 0), none⟩,
   ⟨some 32, .nilCheck (.t 31), none⟩,
   ⟨some 33, .faddr (.t 32) 0, none⟩,
   ⟨some 34, .load none (.t 33), none⟩,
   ⟨some 35, .move (.t 5), none⟩,
   ⟨some 36, .move (.t 0), none⟩,
   ⟨some 37, .nilCheck (.t 36), none⟩,
   ⟨some 38, .faddr (.t 37) 1, none⟩,
   ⟨some 39, .load none (.t 38), none⟩,
   ⟨some 40, .slice 0 (.t 34) (some (.t 35)) (some (.t 39)), none⟩,
   ⟨some 4, .move (.t 40), none⟩])
   .ret))))

theorem ok84 : FOk Tryz.prog 84 fc84 := FOk.of Tryz.func84 (by kernel_rfl)

end Go.Proofs.YtalgjkpkkdljaaaGreatDoor
