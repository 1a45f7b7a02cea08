/-
  A value-level evaluator for Go functions; the functions of this cut by it; plain laws. Part 4 of 5.
-/
import Derived.Test.YtalgjkpkkdljaaaDoorProg
import Derived.Test.YtalgjkpkkdljaaaDoorG3
import Derived.KernelRfl
import Derived.Lib.ItoaNum
import Derived.Carry
import Derived.ChangeSlices
import Derived.ChangeMaps5
import Derived.RowKit

/-! The functions of the cut, as the evaluator's (printed by a program of ours), each checked against the program's. -/
namespace Go.Proofs.YtalgjkpkkdljaaaDoor
open Go.Vs

/-- armature/printer.list[armature/api.Param] -/
def fc52_b0 : SC :=
    (.loc
      (.seq
        (.region [0, 2, 3, 10, 11, 12, 13] [
            ⟨some 13, .bin .lss (.t 12) (.t 11), none⟩])
        (.seq
          (.cond (.t 13)
            .skip
            (.exit 0))
          (.seq
            (.block 1
              (.seq
                (.region [0, 2, 3, 8, 9, 10, 11, 12] [
                    ⟨some 14, .move (.t 12), none⟩,
                    ⟨some 15, .iaddr none 2 (.t 10) (.t 12), none⟩,
                    ⟨some 16, .load (some 2) (.t 15), none⟩,
                    ⟨some 9, .alloc [.str [], .int .i64 0], none⟩,
                    ⟨some 8, .move (.t 14), none⟩,
                    ⟨none, .store 2 (.t 9) (.t 16), none⟩])
                (.seq
                  (.seq
                    (.region [0, 2, 3, 9, 10, 11, 12, 18] [
                        ⟨some 17, .move (.t 8), none⟩,
                        ⟨some 18, .bin .gtr (.t 17) (.c (.p (.int .i64 0))), none⟩])
                    (.cond (.t 18)
                      (.region [0, 2, 3, 9, 10, 11, 12] [
                          ⟨some 19, .move (.t 0), none⟩,
                          ⟨some 20, .nilCheck (.t 19), none⟩,
                          ⟨some 21, .faddr (.t 20) 0, none⟩,
                          ⟨some 22, .move (.t 2), none⟩,
                          ⟨some 23, .call (.c (.fn 49 [] [])) [(.t 21), (.t 22)], none⟩])
                      .skip))
                  (.region [0, 2, 3, 10, 11, 12] [
                      ⟨some 24, .move (.t 3), none⟩,
                      ⟨some 25, .load (some 2) (.t 9), none⟩,
                      ⟨some 26, .call (.t 24) [(.t 25)], none⟩]))))
            (.region [0, 2, 3, 10, 11, 12] [
                ⟨some 27, .bin .add (.t 12) (.c (.p (.int .i64 1))), none⟩,
                ⟨some 12, .move (.t 27), none⟩])))))

def fc52 : FC where
  nt := 28
  np := 4
  res := []
  body :=
    (.seq
      (.region [0, 2, 3, 10, 11, 12] [
          ⟨some 10, .move (.t 1), none⟩,
          ⟨some 11, .len 1 (.t 10), none⟩,
          ⟨some 12, .move (.c (.p (.int .i64 0))), none⟩])
      (.block 0
        (.loop [0, 2, 3, 10, 11, 12]
          fc52_b0)))

theorem ok52 : FOk Tryd.prog 52 fc52 := FOk.of Tryd.func52 (by kernel_rfl)

/-- armature/printer.Spec$3 -/
def fc53 : FC where
  nt := 16
  np := 3
  res := []
  body :=
    (.seq
      (.region [1, 2, 3] [
          ⟨some 3, .box (.t 0), none⟩])
      (.draw [] [(0, 4), (0, 6), (4, 6), (0, 8), (4, 8), (6, 8), (0, 9), (4, 9)] [
          ⟨some 4, .load none (.t 1), none⟩,
          ⟨some 5, .nilCheck (.t 4), none⟩,
          ⟨some 6, .faddr (.t 5) 0, none⟩,
          ⟨some 7, .faddr (.t 3) 0, none⟩,
          ⟨some 8, .load none (.t 7), none⟩,
          ⟨some 9, .bin .add (.t 8) (.c (.p (.str [58, 32]))), none⟩,
          ⟨some 10, .load none (.t 2), none⟩,
          ⟨some 11, .faddr (.t 3) 1, none⟩,
          ⟨some 12, .load none (.t 11), none⟩,
          ⟨some 13, .call (.t 10) [(.t 12)], none⟩,
          ⟨some 14, .bin .add (.t 9) (.t 13), none⟩,
          ⟨some 15, .call (.c (.fn 49 [] [])) [(.t 6), (.t 14)], none⟩]))

theorem ok53 : FOk Tryd.prog 53 fc53 := FOk.of Tryd.func53 (by kernel_rfl)

/-- armature/armatureref03.field -/
def fc54_b0 : SC :=
    (.seq
      (.seq
        (.region [2, 3, 5, 6, 19] [
            ⟨some 15, .move (.t 6), none⟩,
            ⟨some 16, .faddr (.t 3) 1, none⟩,
            ⟨some 17, .load none (.t 16), none⟩,
            ⟨some 18, .len 1 (.t 17), none⟩,
            ⟨some 19, .bin .lss (.t 15) (.t 18), none⟩])
        (.cond (.t 19)
          .skip
          (.exit 0)))
      (.seq
        (.block 1
          (.seq
            (.seq
              (.region [2, 3, 5, 6, 23] [
                  ⟨some 22, .move (.t 6), none⟩,
                  ⟨some 23, .bin .gtr (.t 22) (.c (.p (.int .i64 0))), none⟩])
              (.cond (.t 23)
                (.region [2, 3, 5, 6] [
                    ⟨some 24, .move (.t 5), none⟩,
                    ⟨some 25, .bin .add (.t 24) (.c (.p (.str [32, 45, 62, 32]))), none⟩,
                    ⟨some 5, .move (.t 25), none⟩])
                .skip))
            (.draw [2, 3, 5, 6] [(2, 4), (2, 7)] [
                ⟨some 26, .move (.t 5), none⟩,
                ⟨some 27, .faddr (.t 2) 0, none⟩,
                ⟨some 28, .load none (.t 27), none⟩,
                ⟨some 29, .faddr (.t 3) 1, none⟩,
                ⟨some 30, .load none (.t 29), none⟩,
                ⟨some 31, .move (.t 6), none⟩,
                ⟨some 32, .iaddr none 1 (.t 30) (.t 31), none⟩,
                ⟨some 33, .load none (.t 32), none⟩,
                ⟨some 34, .iaddr none 2 (.t 28) (.t 33), none⟩,
                ⟨some 35, .faddr (.t 34) 0, none⟩,
                ⟨some 36, .load none (.t 35), none⟩,
                ⟨some 37, .bin .add (.t 26) (.t 36), none⟩,
                ⟨some 5, .move (.t 37), none⟩])))
        (.region [2, 3, 5, 6] [
            ⟨some 20, .move (.t 6), none⟩,
            ⟨some 21, .bin .add (.t 20) (.c (.p (.int .i64 1))), none⟩,
            ⟨some 6, .move (.t 21), none⟩])))

def fc54 : FC where
  nt := 40
  np := 2
  res := [.t 4]
  body :=
    (.seq
      (.region [2, 3] [
          ⟨some 2, .box (.t 0), none⟩,
          ⟨some 3, .box (.t 1), none⟩,
          ⟨some 4, .move (.c (.p (.str []))), none⟩])
      (.seq
        (.region [2, 3, 5] [
            ⟨some 7, .faddr (.t 3) 0, none⟩,
            ⟨some 8, .load none (.t 7), none⟩,
            ⟨some 9, .bin .add (.c (.p (.str [102, 105, 101, 108, 100, 32]))) (.t 8), none⟩,
            ⟨some 10, .bin .add (.t 9) (.c (.p (.str [58, 32]))), none⟩,
            ⟨some 5, .move (.t 10), none⟩])
        (.seq
          (.seq
            (.region [2, 3, 5, 12] [
                ⟨some 11, .faddr (.t 3) 2, none⟩,
                ⟨some 12, .load none (.t 11), none⟩])
            (.cond (.t 12)
              (.region [2, 3, 5] [
                  ⟨some 13, .move (.t 5), none⟩,
                  ⟨some 14, .bin .add (.c (.p (.str [118, 97, 114, 32]))) (.t 13), none⟩,
                  ⟨some 5, .move (.t 14), none⟩])
              .skip))
          (.seq
            (.seq
              (.region [2, 3, 5, 6] [
                  ⟨some 6, .move (.c (.p (.int .i64 0))), none⟩])
              (.block 0
                (.loop [2, 3, 5, 6]
                  fc54_b0)))
            (.seq
              (.region [4] [
                  ⟨some 38, .move (.t 5), none⟩,
                  ⟨some 39, .bin .add (.t 38) (.c (.p (.str [59, 10]))), none⟩,
                  ⟨some 4, .move (.t 39), none⟩])
              .ret)))))

theorem ok54 : FOk Tryd.prog 54 fc54 := FOk.of Tryd.func54 (by kernel_rfl)

/-- armature/armatureref03.pred -/
def fc55_b0 : SC :=
    (.seq
      (.seq
        (.region [2, 3, 5, 6, 15] [
            ⟨some 11, .move (.t 6), none⟩,
            ⟨some 12, .faddr (.t 3) 1, none⟩,
            ⟨some 13, .load none (.t 12), none⟩,
            ⟨some 14, .len 1 (.t 13), none⟩,
            ⟨some 15, .bin .lss (.t 11) (.t 14), none⟩])
        (.cond (.t 15)
          .skip
          (.exit 0)))
      (.seq
        (.block 1
          (.seq
            (.seq
              (.region [2, 3, 5, 6, 19] [
                  ⟨some 18, .move (.t 6), none⟩,
                  ⟨some 19, .bin .gtr (.t 18) (.c (.p (.int .i64 0))), none⟩])
              (.cond (.t 19)
                (.region [2, 3, 5, 6] [
                    ⟨some 20, .move (.t 5), none⟩,
                    ⟨some 21, .bin .add (.t 20) (.c (.p (.str [44, 32]))), none⟩,
                    ⟨some 5, .move (.t 21), none⟩])
                .skip))
            (.draw [2, 3, 5, 6] [(2, 10), (6, 10), (2, 12), (6, 12), (10, 12), (2, 16), (6, 16), (10, 16), (2, 19), (6, 19)] [
                ⟨some 22, .move (.t 5), none⟩,
                ⟨some 23, .faddr (.t 3) 1, none⟩,
                ⟨some 24, .load none (.t 23), none⟩,
                ⟨some 25, .move (.t 6), none⟩,
                ⟨some 26, .iaddr none 2 (.t 24) (.t 25), none⟩,
                ⟨some 27, .faddr (.t 26) 0, none⟩,
                ⟨some 28, .load none (.t 27), none⟩,
                ⟨some 29, .bin .add (.t 22) (.t 28), none⟩,
                ⟨some 30, .bin .add (.t 29) (.c (.p (.str [58, 32]))), none⟩,
                ⟨some 31, .faddr (.t 2) 0, none⟩,
                ⟨some 32, .load none (.t 31), none⟩,
                ⟨some 33, .faddr (.t 3) 1, none⟩,
                ⟨some 34, .load none (.t 33), none⟩,
                ⟨some 35, .move (.t 6), none⟩,
                ⟨some 36, .iaddr none 2 (.t 34) (.t 35), none⟩,
                ⟨some 37, .faddr (.t 36) 1, none⟩,
                ⟨some 38, .load none (.t 37), none⟩,
                ⟨some 39, .iaddr none 2 (.t 32) (.t 38), none⟩,
                ⟨some 40, .faddr (.t 39) 0, none⟩,
                ⟨some 41, .load none (.t 40), none⟩,
                ⟨some 42, .bin .add (.t 30) (.t 41), none⟩,
                ⟨some 5, .move (.t 42), none⟩])))
        (.region [2, 3, 5, 6] [
            ⟨some 16, .move (.t 6), none⟩,
            ⟨some 17, .bin .add (.t 16) (.c (.p (.int .i64 1))), none⟩,
            ⟨some 6, .move (.t 17), none⟩])))

def fc55 : FC where
  nt := 50
  np := 2
  res := [.t 4]
  body :=
    (.seq
      (.region [2, 3] [
          ⟨some 2, .box (.t 0), none⟩,
          ⟨some 3, .box (.t 1), none⟩,
          ⟨some 4, .move (.c (.p (.str []))), none⟩])
      (.seq
        (.region [2, 3, 5] [
            ⟨some 7, .faddr (.t 3) 0, none⟩,
            ⟨some 8, .load none (.t 7), none⟩,
            ⟨some 9, .bin .add (.c (.p (.str [112, 114, 101, 100, 32]))) (.t 8), none⟩,
            ⟨some 10, .bin .add (.t 9) (.c (.p (.str [91]))), none⟩,
            ⟨some 5, .move (.t 10), none⟩])
        (.seq
          (.seq
            (.region [2, 3, 5, 6] [
                ⟨some 6, .move (.c (.p (.int .i64 0))), none⟩])
            (.block 0
              (.loop [2, 3, 5, 6]
                fc55_b0)))
          (.seq
            (.region [4] [
                ⟨some 43, .move (.t 5), none⟩,
                ⟨some 44, .bin .add (.t 43) (.c (.p (.str [93, 32, 123, 32]))), none⟩,
                ⟨some 45, .faddr (.t 3) 2, none⟩,
                ⟨some 46, .load (some 5) (.t 45), none⟩,
                ⟨some 47, .call (.c (.fn 15 [] [])) [(.t 46)], none⟩,
                ⟨some 48, .bin .add (.t 44) (.t 47), none⟩,
                ⟨some 49, .bin .add (.t 48) (.c (.p (.str [32, 125, 10]))), none⟩,
                ⟨some 4, .move (.t 49), none⟩])
            .ret))))

theorem ok55 : FOk Tryd.prog 55 fc55 := FOk.of Tryd.func55 (by kernel_rfl)

/-- armature/armatureref02.Kind -/
def fc56 : FC where
  nt := 21
  np := 1
  res := [.t 2]
  body :=
    (.seq
      (.region [0] [
          ⟨some 2, .move (.c (.p (.int .u8 0))), none⟩])
      (.seq
        (.seq
          (.region [0, 8] [
              ⟨some 3, .move (.t 0), none⟩,
              ⟨some 4, .bin .geq (.t 3) (.c (.p (.int .i64 1))), none⟩,
              ⟨some 5, .move (.t 4), none⟩,
              ⟨some 6, .move (.t 0), some (5, true)⟩,
              ⟨some 7, .bin .leq (.t 6) (.c (.p (.int .i64 15))), some (5, true)⟩,
              ⟨some 8, .pick (.t 5) (.t 7) (.c (.p (.bool false))), none⟩])
          (.cond (.t 8)
            (.seq
              (.region [2] [
                  ⟨some 2, .move (.c (.p (.int .u8 101))), none⟩])
              .ret)
            .skip))
        (.seq
          (.seq
            (.region [0, 14] [
                ⟨some 9, .move (.t 0), none⟩,
                ⟨some 10, .bin .geq (.t 9) (.c (.p (.int .i64 20))), none⟩,
                ⟨some 11, .move (.t 10), none⟩,
                ⟨some 12, .move (.t 0), some (11, true)⟩,
                ⟨some 13, .bin .leq (.t 12) (.c (.p (.int .i64 23))), some (11, true)⟩,
                ⟨some 14, .pick (.t 11) (.t 13) (.c (.p (.bool false))), none⟩])
            (.cond (.t 14)
              (.seq
                (.region [2] [
                    ⟨some 2, .move (.c (.p (.int .u8 105))), none⟩])
                .ret)
              .skip))
          (.seq
            (.seq
              (.region [20] [
                  ⟨some 15, .move (.t 0), none⟩,
                  ⟨some 16, .bin .geq (.t 15) (.c (.p (.int .i64 30))), none⟩,
                  ⟨some 17, .move (.t 16), none⟩,
                  ⟨some 18, .move (.t 0), some (17, true)⟩,
                  ⟨some 19, .bin .leq (.t 18) (.c (.p (.int .i64 51))), some (17, true)⟩,
                  ⟨some 20, .pick (.t 17) (.t 19) (.c (.p (.bool false))), none⟩])
              (.cond (.t 20)
                (.seq
                  (.region [2] [
                      ⟨some 2, .move (.c (.p (.int .u8 102))), none⟩])
                  .ret)
                .skip))
            (.seq
              (.region [2] [
                  ⟨some 2, .move (.c (.p (.int .u8 0))), none⟩])
              .ret)))))

theorem ok56 : FOk Tryd.prog 56 fc56 := FOk.of Tryd.func56 (by kernel_rfl)

/-- armature/armatureref02.own -/
def fc57 : FC where
  nt := 66
  np := 1
  res := [.t 2]
  body :=
    (.seq
      (.region [1] [
          ⟨some 1, .box (.t 0), none⟩,
          ⟨some 2, .move (.c (.p (.bool false))), none⟩])
      (.seq
        (.region [1, 3] [
            ⟨some 4, .faddr (.t 1) 0, none⟩,
            ⟨some 5, .load none (.t 4), none⟩,
            ⟨some 6, .bin .eql (.t 5) (.c (.p (.int .i64 1))), none⟩,
            ⟨some 7, .move (.t 6), none⟩,
            ⟨some 8, .faddr (.t 1) 0, some (7, false)⟩,
            ⟨some 9, .load none (.t 8), some (7, false)⟩,
            ⟨some 10, .bin .eql (.t 9) (.c (.p (.int .i64 15))), some (7, false)⟩,
            ⟨some 11, .pick (.t 7) (.c (.p (.bool true))) (.t 10), none⟩,
            ⟨some 12, .move (.t 11), none⟩,
            ⟨some 13, .faddr (.t 1) 0, some (12, false)⟩,
            ⟨some 14, .load none (.t 13), some (12, false)⟩,
            ⟨some 15, .bin .eql (.t 14) (.c (.p (.int .i64 45))), some (12, false)⟩,
            ⟨some 16, .pick (.t 12) (.c (.p (.bool true))) (.t 15), none⟩,
            ⟨some 17, .move (.t 16), none⟩,
            ⟨some 18, .faddr (.t 1) 0, some (17, false)⟩,
            ⟨some 19, .load none (.t 18), some (17, false)⟩,
            ⟨some 20, .bin .eql (.t 19) (.c (.p (.int .i64 46))), some (17, false)⟩,
            ⟨some 21, .pick (.t 17) (.c (.p (.bool true))) (.t 20), none⟩,
            ⟨some 22, .move (.t 21), none⟩,
            ⟨some 23, .faddr (.t 1) 0, some (22, false)⟩,
            ⟨some 24, .load none (.t 23), some (22, false)⟩,
            ⟨some 25, .bin .eql (.t 24) (.c (.p (.int .i64 47))), some (22, false)⟩,
            ⟨some 26, .pick (.t 22) (.c (.p (.bool true))) (.t 25), none⟩,
            ⟨some 3, .move (.t 26), none⟩])
        (.seq
          (.seq
            (.region [1, 40] [
                ⟨some 27, .move (.t 3), none⟩,
                ⟨some 28, .faddr (.t 1) 1, none⟩,
                ⟨some 29, .load none (.t 28), none⟩,
                ⟨some 30, .call (.c (.fn 44 [] [])) [(.t 29)], none⟩,
                ⟨some 31, .eqk 0 true (.t 27) (.t 30), none⟩,
                ⟨some 32, .move (.t 31), none⟩,
                ⟨some 33, .move (.t 3), some (32, false)⟩,
                ⟨some 34, .un .not (.t 33), some (32, false)⟩,
                ⟨some 35, .move (.t 34), some (32, false)⟩,
                ⟨some 36, .faddr (.t 1) 1, some (35, true)⟩,
                ⟨some 37, .load none (.t 36), some (35, true)⟩,
                ⟨some 38, .bin .neq (.t 37) (.c (.p (.str []))), some (35, true)⟩,
                ⟨some 39, .pick (.t 35) (.t 38) (.c (.p (.bool false))), some (32, false)⟩,
                ⟨some 40, .pick (.t 32) (.c (.p (.bool true))) (.t 39), none⟩])
            (.cond (.t 40)
              (.seq
                (.region [2] [
                    ⟨some 2, .move (.c (.p (.bool false))), none⟩])
                .ret)
              .skip))
          (.seq
            (.seq
              (.region [1, 42] [
                  ⟨some 41, .faddr (.t 1) 0, none⟩,
                  ⟨some 42, .load none (.t 41), none⟩])
              (.block 0
                (.seq
                  (.region [1, 42, 43] [
                      ⟨some 44, .bin .eql (.t 42) (.c (.p (.int .i64 2))), none⟩,
                      ⟨some 43, .move (.t 44), none⟩])
                  (.cond (.t 43)
                    (.seq
                      (.region [2] [
                          ⟨some 45, .faddr (.t 1) 2, none⟩,
                          ⟨some 46, .load none (.t 45), none⟩,
                          ⟨some 47, .bin .geq (.t 46) (.c (.p (.int .i64 1))), none⟩,
                          ⟨some 48, .move (.t 47), none⟩,
                          ⟨some 49, .faddr (.t 1) 2, some (48, true)⟩,
                          ⟨some 50, .load none (.t 49), some (48, true)⟩,
                          ⟨some 51, .bin .leq (.t 50) (.c (.p (.int .i64 3))), some (48, true)⟩,
                          ⟨some 52, .pick (.t 48) (.t 51) (.c (.p (.bool false))), none⟩,
                          ⟨some 2, .move (.t 52), none⟩])
                      .ret)
                    (.seq
                      (.region [1, 53] [
                          ⟨some 54, .bin .eql (.t 42) (.c (.p (.int .i64 20))), none⟩,
                          ⟨some 53, .move (.t 54), none⟩])
                      (.cond (.t 53)
                        (.seq
                          (.region [2] [
                              ⟨some 55, .faddr (.t 1) 2, none⟩,
                              ⟨some 56, .load none (.t 55), none⟩,
                              ⟨some 57, .bin .geq (.t 56) (.c (.p (.int .i64 (-64)))), none⟩,
                              ⟨some 58, .move (.t 57), none⟩,
                              ⟨some 59, .faddr (.t 1) 2, some (58, true)⟩,
                              ⟨some 60, .load none (.t 59), some (58, true)⟩,
                              ⟨some 61, .bin .leq (.t 60) (.c (.p (.int .i64 64))), some (58, true)⟩,
                              ⟨some 62, .pick (.t 58) (.t 61) (.c (.p (.bool false))), none⟩,
                              ⟨some 2, .move (.t 62), none⟩])
                          .ret)
                        .skip))))))
            (.seq
              (.region [2] [
                  ⟨some 63, .faddr (.t 1) 2, none⟩,
                  ⟨some 64, .load none (.t 63), none⟩,
                  ⟨some 65, .bin .eql (.t 64) (.c (.p (.int .i64 0))), none⟩,
                  ⟨some 2, .move (.t 65), none⟩])
              .ret)))))

theorem ok57 : FOk Tryd.prog 57 fc57 := FOk.of Tryd.func57 (by kernel_rfl)

/-- armature/armatureref02.Fits -/
def fc58_b0 : SC :=
    (.loc
      (.seq
        (.seq
          (.region [1, 5, 7, 27] [
              ⟨some 24, .move (.t 7), none⟩,
              ⟨some 25, .move (.t 1), none⟩,
              ⟨some 26, .len 1 (.t 25), none⟩,
              ⟨some 27, .bin .lss (.t 24) (.t 26), none⟩])
          (.cond (.t 27)
            .skip
            (.exit 0)))
        (.seq
          (.block 1
            (.seq
              (.draw [1, 5, 7, 39] [] [
                  ⟨some 30, .move (.t 1), none⟩,
                  ⟨some 31, .move (.t 7), none⟩,
                  ⟨some 32, .iaddr none 5 (.t 30) (.t 31), none⟩,
                  ⟨some 33, .faddr (.t 32) 0, none⟩,
                  ⟨some 34, .load none (.t 33), none⟩,
                  ⟨some 35, .call (.c (.fn 56 [] [])) [(.t 34)], none⟩,
                  ⟨some 36, .move (.t 5), none⟩,
                  ⟨some 37, .move (.t 7), none⟩,
                  ⟨some 38, .index none (.t 36) (.t 37), none⟩,
                  ⟨some 39, .bin .neq (.t 35) (.t 38), none⟩])
              (.cond (.t 39)
                (.seq
                  (.region [4] [
                      ⟨some 4, .move (.c (.p (.bool false))), none⟩])
                  .ret)
                .skip)))
          (.region [1, 5, 7] [
              ⟨some 28, .move (.t 7), none⟩,
              ⟨some 29, .bin .add (.t 28) (.c (.p (.int .i64 1))), none⟩,
              ⟨some 7, .move (.t 29), none⟩]))))

def fc58 : FC where
  nt := 40
  np := 2
  res := [.t 4]
  body :=
    (.seq
      (.region [0, 1] [
          ⟨some 4, .move (.c (.p (.bool false))), none⟩])
      (.seq
        (.region [1, 5, 6] [
            ⟨some 9, .move (.t 0), none⟩,
            ⟨some 10, .move (.t 1), none⟩,
            ⟨some 11, .len 1 (.t 10), none⟩,
            ⟨some 12, .call (.c (.fn 78 [] [])) [(.t 9), (.t 11)], none⟩,
            ⟨some 8, .move (.t 12), none⟩,
            ⟨some 13, .extract (.t 8) 0, none⟩,
            ⟨some 14, .extract (.t 8) 1, none⟩,
            ⟨some 5, .move (.t 13), none⟩,
            ⟨some 6, .move (.t 14), none⟩])
        (.seq
          (.seq
            (.region [1, 5, 23] [
                ⟨some 15, .move (.t 6), none⟩,
                ⟨some 16, .un .not (.t 15), none⟩,
                ⟨some 17, .move (.t 16), none⟩,
                ⟨some 18, .move (.t 5), some (17, false)⟩,
                ⟨some 19, .len 0 (.t 18), some (17, false)⟩,
                ⟨some 20, .move (.t 1), some (17, false)⟩,
                ⟨some 21, .len 1 (.t 20), some (17, false)⟩,
                ⟨some 22, .bin .neq (.t 19) (.t 21), some (17, false)⟩,
                ⟨some 23, .pick (.t 17) (.c (.p (.bool true))) (.t 22), none⟩])
            (.cond (.t 23)
              (.seq
                (.region [4] [
                    ⟨some 4, .move (.c (.p (.bool false))), none⟩])
                .ret)
              .skip))
          (.seq
            (.seq
              (.region [1, 5, 7] [
                  ⟨some 7, .move (.c (.p (.int .i64 0))), none⟩])
              (.block 0
                (.loop [1, 5, 7]
                  fc58_b0)))
            (.seq
              (.region [4] [
                  ⟨some 4, .move (.c (.p (.bool true))), none⟩])
              .ret)))))

theorem ok58 : FOk Tryd.prog 58 fc58 := FOk.of Tryd.func58 (by kernel_rfl)

/-- armature/printer.binaries -/
def fc59 : FC where
  nt := 37
  np := 0
  res := [.t 0]
  body :=
    (.seq
      (.region [] [
          ⟨some 0, .move (.c (.p (.nilm))), none⟩])
      (.seq
        (.region [0] [
            ⟨some 1, .mkmap 13, none⟩,
            ⟨some 2, .build [.int .i64 0, .int .i64 0] [(0, 1, (.c (.p (.int .i64 1)))), (1, 1, (.c (.p (.int .i64 2))))], none⟩,
            ⟨some 3, .build [.str [], .int .i64 0, .int .i64 0, .int .i64 0] [(0, 1, (.c (.p (.str [32, 60, 61, 62, 32])))), (1, 1, (.c (.p (.int .i64 1)))), (2, 2, (.t 2))], none⟩,
            ⟨none, .mapins 13 (.t 1) (.c (.p (.int .i64 44))) (.t 3), none⟩,
            ⟨some 4, .build [.int .i64 0, .int .i64 0] [(0, 1, (.c (.p (.int .i64 3)))), (1, 1, (.c (.p (.int .i64 2))))], none⟩,
            ⟨some 5, .build [.str [], .int .i64 0, .int .i64 0, .int .i64 0] [(0, 1, (.c (.p (.str [32, 61, 62, 32])))), (1, 1, (.c (.p (.int .i64 2)))), (2, 2, (.t 4))], none⟩,
            ⟨none, .mapins 13 (.t 1) (.c (.p (.int .i64 43))) (.t 5), none⟩,
            ⟨some 6, .build [.int .i64 0, .int .i64 0] [(0, 1, (.c (.p (.int .i64 3)))), (1, 1, (.c (.p (.int .i64 4))))], none⟩,
            ⟨some 7, .build [.str [], .int .i64 0, .int .i64 0, .int .i64 0] [(0, 1, (.c (.p (.str [32, 124, 124, 32])))), (1, 1, (.c (.p (.int .i64 3)))), (2, 2, (.t 6))], none⟩,
            ⟨none, .mapins 13 (.t 1) (.c (.p (.int .i64 42))) (.t 7), none⟩,
            ⟨some 8, .build [.int .i64 0, .int .i64 0] [(0, 1, (.c (.p (.int .i64 4)))), (1, 1, (.c (.p (.int .i64 5))))], none⟩,
            ⟨some 9, .build [.str [], .int .i64 0, .int .i64 0, .int .i64 0] [(0, 1, (.c (.p (.str [32, 38, 38, 32])))), (1, 1, (.c (.p (.int .i64 4)))), (2, 2, (.t 8))], none⟩,
            ⟨none, .mapins 13 (.t 1) (.c (.p (.int .i64 41))) (.t 9), none⟩,
            ⟨some 10, .build [.int .i64 0, .int .i64 0] [(0, 1, (.c (.p (.int .i64 6)))), (1, 1, (.c (.p (.int .i64 5))))], none⟩,
            ⟨some 11, .build [.str [], .int .i64 0, .int .i64 0, .int .i64 0] [(0, 1, (.c (.p (.str [32, 117, 110, 116, 105, 108, 32])))), (1, 1, (.c (.p (.int .i64 5)))), (2, 2, (.t 10))], none⟩,
            ⟨none, .mapins 13 (.t 1) (.c (.p (.int .i64 51))) (.t 11), none⟩,
            ⟨some 12, .build [.int .i64 0, .int .i64 0] [(0, 1, (.c (.p (.int .i64 8)))), (1, 1, (.c (.p (.int .i64 8))))], none⟩,
            ⟨some 13, .build [.str [], .int .i64 0, .int .i64 0, .int .i64 0] [(0, 1, (.c (.p (.str [32, 105, 110, 32])))), (1, 1, (.c (.p (.int .i64 7)))), (2, 2, (.t 12))], none⟩,
            ⟨none, .mapins 13 (.t 1) (.c (.p (.int .i64 32))) (.t 13), none⟩,
            ⟨some 14, .build [.int .i64 0, .int .i64 0] [(0, 1, (.c (.p (.int .i64 8)))), (1, 1, (.c (.p (.int .i64 8))))], none⟩,
            ⟨some 15, .build [.str [], .int .i64 0, .int .i64 0, .int .i64 0] [(0, 1, (.c (.p (.str [32, 61, 32])))), (1, 1, (.c (.p (.int .i64 7)))), (2, 2, (.t 14))], none⟩,
            ⟨none, .mapins 13 (.t 1) (.c (.p (.int .i64 33))) (.t 15), none⟩,
            ⟨some 16, .build [.int .i64 0, .int .i64 0] [(0, 1, (.c (.p (.int .i64 8)))), (1, 1, (.c (.p (.int .i64 8))))], none⟩,
            ⟨some 17, .build [.str [], .int .i64 0, .int .i64 0, .int .i64 0] [(0, 1, (.c (.p (.str [32, 61, 32])))), (1, 1, (.c (.p (.int .i64 7)))), (2, 2, (.t 16))], none⟩,
            ⟨none, .mapins 13 (.t 1) (.c (.p (.int .i64 38))) (.t 17), none⟩,
            ⟨some 18, .build [.int .i64 0, .int .i64 0] [(0, 1, (.c (.p (.int .i64 8)))), (1, 1, (.c (.p (.int .i64 8))))], none⟩,
            ⟨some 19, .build [.str [], .int .i64 0, .int .i64 0, .int .i64 0] [(0, 1, (.c (.p (.str [32, 60, 32])))), (1, 1, (.c (.p (.int .i64 7)))), (2, 2, (.t 18))], none⟩,
            ⟨none, .mapins 13 (.t 1) (.c (.p (.int .i64 39))) (.t 19), none⟩,
            ⟨some 20, .build [.int .i64 0, .int .i64 0] [(0, 1, (.c (.p (.int .i64 8)))), (1, 1, (.c (.p (.int .i64 9))))], none⟩,
            ⟨some 21, .build [.str [], .int .i64 0, .int .i64 0, .int .i64 0] [(0, 1, (.c (.p (.str [32, 43, 32])))), (1, 1, (.c (.p (.int .i64 8)))), (2, 2, (.t 20))], none⟩,
            ⟨none, .mapins 13 (.t 1) (.c (.p (.int .i64 6))) (.t 21), none⟩,
            ⟨some 22, .build [.int .i64 0, .int .i64 0] [(0, 1, (.c (.p (.int .i64 8)))), (1, 1, (.c (.p (.int .i64 9))))], none⟩,
            ⟨some 23, .build [.str [], .int .i64 0, .int .i64 0, .int .i64 0] [(0, 1, (.c (.p (.str [32, 43, 32])))), (1, 1, (.c (.p (.int .i64 8)))), (2, 2, (.t 22))], none⟩,
            ⟨none, .mapins 13 (.t 1) (.c (.p (.int .i64 22))) (.t 23), none⟩,
            ⟨some 24, .build [.int .i64 0, .int .i64 0] [(0, 1, (.c (.p (.int .i64 8)))), (1, 1, (.c (.p (.int .i64 9))))], none⟩,
            ⟨some 25, .build [.str [], .int .i64 0, .int .i64 0, .int .i64 0] [(0, 1, (.c (.p (.str [32, 45, 32])))), (1, 1, (.c (.p (.int .i64 8)))), (2, 2, (.t 24))], none⟩,
            ⟨none, .mapins 13 (.t 1) (.c (.p (.int .i64 8))) (.t 25), none⟩,
            ⟨some 26, .build [.int .i64 0, .int .i64 0] [(0, 1, (.c (.p (.int .i64 8)))), (1, 1, (.c (.p (.int .i64 9))))], none⟩,
            ⟨some 27, .build [.str [], .int .i64 0, .int .i64 0, .int .i64 0] [(0, 1, (.c (.p (.str [32, 45, 32])))), (1, 1, (.c (.p (.int .i64 8)))), (2, 2, (.t 26))], none⟩,
            ⟨none, .mapins 13 (.t 1) (.c (.p (.int .i64 23))) (.t 27), none⟩,
            ⟨some 28, .build [.int .i64 0, .int .i64 0] [(0, 1, (.c (.p (.int .i64 9)))), (1, 1, (.c (.p (.int .i64 10))))], none⟩,
            ⟨some 29, .build [.str [], .int .i64 0, .int .i64 0, .int .i64 0] [(0, 1, (.c (.p (.str [32, 43, 43, 32])))), (1, 1, (.c (.p (.int .i64 9)))), (2, 2, (.t 28))], none⟩,
            ⟨none, .mapins 13 (.t 1) (.c (.p (.int .i64 14))) (.t 29), none⟩,
            ⟨some 30, .build [.int .i64 0, .int .i64 0] [(0, 1, (.c (.p (.int .i64 10)))), (1, 1, (.c (.p (.int .i64 11))))], none⟩,
            ⟨some 31, .build [.str [], .int .i64 0, .int .i64 0, .int .i64 0] [(0, 1, (.c (.p (.str [32, 38, 32])))), (1, 1, (.c (.p (.int .i64 10)))), (2, 2, (.t 30))], none⟩,
            ⟨none, .mapins 13 (.t 1) (.c (.p (.int .i64 7))) (.t 31), none⟩,
            ⟨some 32, .build [.int .i64 0, .int .i64 0] [(0, 1, (.c (.p (.int .i64 11)))), (1, 1, (.c (.p (.int .i64 12))))], none⟩,
            ⟨some 33, .build [.str [], .int .i64 0, .int .i64 0, .int .i64 0] [(0, 1, (.c (.p (.str [32, 45, 62, 32])))), (1, 1, (.c (.p (.int .i64 11)))), (2, 2, (.t 32))], none⟩,
            ⟨none, .mapins 13 (.t 1) (.c (.p (.int .i64 10))) (.t 33), none⟩,
            ⟨some 34, .build [.int .i64 0, .int .i64 0] [(0, 1, (.c (.p (.int .i64 12)))), (1, 1, (.c (.p (.int .i64 13))))], none⟩,
            ⟨some 35, .build [.str [], .int .i64 0, .int .i64 0, .int .i64 0] [(0, 1, (.c (.p (.str [46])))), (1, 1, (.c (.p (.int .i64 12)))), (2, 2, (.t 34))], none⟩,
            ⟨none, .mapins 13 (.t 1) (.c (.p (.int .i64 9))) (.t 35), none⟩,
            ⟨some 36, .move (.t 1), none⟩,
            ⟨some 0, .move (.t 36), none⟩])
        .ret))

theorem ok59 : FOk Tryd.prog 59 fc59 := FOk.of Tryd.func59 (by kernel_rfl)

/-- armature/printer.prefixes -/
def fc60 : FC where
  nt := 27
  np := 0
  res := [.t 0]
  body :=
    (.seq
      (.region [] [
          ⟨some 0, .move (.c (.p (.nilm))), none⟩])
      (.seq
        (.region [0] [
            ⟨some 1, .mkmap 13, none⟩,
            ⟨some 2, .build [.int .i64 0, .int .i64 0] [(0, 1, (.c (.p (.int .i64 6))))], none⟩,
            ⟨some 3, .build [.str [], .int .i64 0, .int .i64 0, .int .i64 0] [(0, 1, (.c (.p (.str [110, 111, 116, 32])))), (1, 1, (.c (.p (.int .i64 6)))), (2, 2, (.t 2))], none⟩,
            ⟨none, .mapins 13 (.t 1) (.c (.p (.int .i64 40))) (.t 3), none⟩,
            ⟨some 4, .build [.int .i64 0, .int .i64 0] [(0, 1, (.c (.p (.int .i64 6))))], none⟩,
            ⟨some 5, .build [.str [], .int .i64 0, .int .i64 0, .int .i64 0] [(0, 1, (.c (.p (.str [97, 108, 119, 97, 121, 115, 32])))), (1, 1, (.c (.p (.int .i64 6)))), (2, 2, (.t 4))], none⟩,
            ⟨none, .mapins 13 (.t 1) (.c (.p (.int .i64 48))) (.t 5), none⟩,
            ⟨some 6, .build [.int .i64 0, .int .i64 0] [(0, 1, (.c (.p (.int .i64 6))))], none⟩,
            ⟨some 7, .build [.str [], .int .i64 0, .int .i64 0, .int .i64 0] [(0, 1, (.c (.p (.str [101, 118, 101, 110, 116, 117, 97, 108, 108, 121, 32])))), (1, 1, (.c (.p (.int .i64 6)))), (2, 2, (.t 6))], none⟩,
            ⟨none, .mapins 13 (.t 1) (.c (.p (.int .i64 49))) (.t 7), none⟩,
            ⟨some 8, .build [.int .i64 0, .int .i64 0] [(0, 1, (.c (.p (.int .i64 6))))], none⟩,
            ⟨some 9, .build [.str [], .int .i64 0, .int .i64 0, .int .i64 0] [(0, 1, (.c (.p (.str [97, 102, 116, 101, 114, 32])))), (1, 1, (.c (.p (.int .i64 6)))), (2, 2, (.t 8))], none⟩,
            ⟨none, .mapins 13 (.t 1) (.c (.p (.int .i64 50))) (.t 9), none⟩,
            ⟨some 10, .build [.int .i64 0, .int .i64 0] [(0, 1, (.c (.p (.int .i64 8))))], none⟩,
            ⟨some 11, .build [.str [], .int .i64 0, .int .i64 0, .int .i64 0] [(0, 1, (.c (.p (.str [110, 111, 32])))), (1, 1, (.c (.p (.int .i64 7)))), (2, 2, (.t 10))], none⟩,
            ⟨none, .mapins 13 (.t 1) (.c (.p (.int .i64 35))) (.t 11), none⟩,
            ⟨some 12, .build [.int .i64 0, .int .i64 0] [(0, 1, (.c (.p (.int .i64 8))))], none⟩,
            ⟨some 13, .build [.str [], .int .i64 0, .int .i64 0, .int .i64 0] [(0, 1, (.c (.p (.str [115, 111, 109, 101, 32])))), (1, 1, (.c (.p (.int .i64 7)))), (2, 2, (.t 12))], none⟩,
            ⟨none, .mapins 13 (.t 1) (.c (.p (.int .i64 34))) (.t 13), none⟩,
            ⟨some 14, .build [.int .i64 0, .int .i64 0] [(0, 1, (.c (.p (.int .i64 8))))], none⟩,
            ⟨some 15, .build [.str [], .int .i64 0, .int .i64 0, .int .i64 0] [(0, 1, (.c (.p (.str [111, 110, 101, 32])))), (1, 1, (.c (.p (.int .i64 7)))), (2, 2, (.t 14))], none⟩,
            ⟨none, .mapins 13 (.t 1) (.c (.p (.int .i64 36))) (.t 15), none⟩,
            ⟨some 16, .build [.int .i64 0, .int .i64 0] [(0, 1, (.c (.p (.int .i64 8))))], none⟩,
            ⟨some 17, .build [.str [], .int .i64 0, .int .i64 0, .int .i64 0] [(0, 1, (.c (.p (.str [108, 111, 110, 101, 32])))), (1, 1, (.c (.p (.int .i64 7)))), (2, 2, (.t 16))], none⟩,
            ⟨none, .mapins 13 (.t 1) (.c (.p (.int .i64 37))) (.t 17), none⟩,
            ⟨some 18, .build [.int .i64 0, .int .i64 0] [(0, 1, (.c (.p (.int .i64 12))))], none⟩,
            ⟨some 19, .build [.str [], .int .i64 0, .int .i64 0, .int .i64 0] [(0, 1, (.c (.p (.str [35])))), (1, 1, (.c (.p (.int .i64 12)))), (2, 2, (.t 18))], none⟩,
            ⟨none, .mapins 13 (.t 1) (.c (.p (.int .i64 21))) (.t 19), none⟩,
            ⟨some 20, .build [.int .i64 0, .int .i64 0] [(0, 1, (.c (.p (.int .i64 13))))], none⟩,
            ⟨some 21, .build [.str [], .int .i64 0, .int .i64 0, .int .i64 0] [(0, 1, (.c (.p (.str [126])))), (1, 1, (.c (.p (.int .i64 13)))), (2, 2, (.t 20))], none⟩,
            ⟨none, .mapins 13 (.t 1) (.c (.p (.int .i64 11))) (.t 21), none⟩,
            ⟨some 22, .build [.int .i64 0, .int .i64 0] [(0, 1, (.c (.p (.int .i64 13))))], none⟩,
            ⟨some 23, .build [.str [], .int .i64 0, .int .i64 0, .int .i64 0] [(0, 1, (.c (.p (.str [94])))), (1, 1, (.c (.p (.int .i64 13)))), (2, 2, (.t 22))], none⟩,
            ⟨none, .mapins 13 (.t 1) (.c (.p (.int .i64 12))) (.t 23), none⟩,
            ⟨some 24, .build [.int .i64 0, .int .i64 0] [(0, 1, (.c (.p (.int .i64 13))))], none⟩,
            ⟨some 25, .build [.str [], .int .i64 0, .int .i64 0, .int .i64 0] [(0, 1, (.c (.p (.str [42])))), (1, 1, (.c (.p (.int .i64 13)))), (2, 2, (.t 24))], none⟩,
            ⟨none, .mapins 13 (.t 1) (.c (.p (.int .i64 13))) (.t 25), none⟩,
            ⟨some 26, .move (.t 1), none⟩,
            ⟨some 0, .move (.t 26), none⟩])
        .ret))

theorem ok60 : FOk Tryd.prog 60 fc60 := FOk.of Tryd.func60 (by kernel_rfl)

/-- (*armature/printer.printer).operand -/
def fc61 : FC where
  nt := 45
  np := 4
  res := []
  body :=
    (.seq
      (.region [0, 2, 3, 5] [
          ⟨some 5, .box (.t 1), none⟩])
      (.seq
        (.region [0, 2, 3, 5, 8] [
            ⟨some 9, .faddr (.t 5) 0, none⟩,
            ⟨some 10, .load none (.t 9), none⟩,
            ⟨some 11, .bin .eql (.t 10) (.c (.p (.int .i64 45))), none⟩,
            ⟨some 12, .move (.t 11), none⟩,
            ⟨some 13, .faddr (.t 5) 0, some (12, false)⟩,
            ⟨some 14, .load none (.t 13), some (12, false)⟩,
            ⟨some 15, .bin .eql (.t 14) (.c (.p (.int .i64 46))), some (12, false)⟩,
            ⟨some 16, .pick (.t 12) (.c (.p (.bool true))) (.t 15), none⟩,
            ⟨some 8, .move (.t 16), none⟩])
        (.seq
          (.seq
            (.region [0, 3, 5, 29] [
                ⟨some 17, .move (.t 0), none⟩,
                ⟨some 18, .faddr (.t 5) 0, none⟩,
                ⟨some 19, .load none (.t 18), none⟩,
                ⟨some 20, .call (.c (.fn 79 [] [])) [(.t 17), (.t 19)], none⟩,
                ⟨some 21, .move (.t 2), none⟩,
                ⟨some 22, .bin .geq (.t 20) (.t 21), none⟩,
                ⟨some 23, .move (.t 22), none⟩,
                ⟨some 24, .move (.t 3), some (23, true)⟩,
                ⟨some 25, .move (.t 24), some (23, true)⟩,
                ⟨some 26, .move (.t 8), some (25, false)⟩,
                ⟨some 27, .un .not (.t 26), some (25, false)⟩,
                ⟨some 28, .pick (.t 25) (.c (.p (.bool true))) (.t 27), some (23, true)⟩,
                ⟨some 29, .pick (.t 23) (.t 28) (.c (.p (.bool false))), none⟩])
            (.cond (.t 29)
              (.seq
                (.region [] [
                    ⟨some 30, .move (.t 0), none⟩,
                    ⟨some 31, .load (some 5) (.t 5), none⟩,
                    ⟨some 32, .move (.t 3), none⟩,
                    ⟨some 33, .call (.c (.fn 40 [] [])) [(.t 30), (.t 31), (.t 32)], none⟩])
                .ret)
              .skip))
          (.seq
            (.region [0, 5] [
                ⟨some 34, .move (.t 0), none⟩,
                ⟨some 35, .nilCheck (.t 34), none⟩,
                ⟨some 36, .faddr (.t 35) 0, none⟩,
                ⟨some 37, .call (.c (.fn 64 [] [])) [(.t 36), (.c (.p (.int .u8 40)))], none⟩])
            (.seq
              (.region [0] [
                  ⟨some 38, .move (.t 0), none⟩,
                  ⟨some 39, .load (some 5) (.t 5), none⟩,
                  ⟨some 40, .call (.c (.fn 40 [] [])) [(.t 38), (.t 39), (.c (.p (.bool true)))], none⟩])
              (.region [] [
                  ⟨some 41, .move (.t 0), none⟩,
                  ⟨some 42, .nilCheck (.t 41), none⟩,
                  ⟨some 43, .faddr (.t 42) 0, none⟩,
                  ⟨some 44, .call (.c (.fn 64 [] [])) [(.t 43), (.c (.p (.int .u8 41)))], none⟩]))))))

theorem ok61 : FOk Tryd.prog 61 fc61 := FOk.of Tryd.func61 (by kernel_rfl)

/-- armature/printer.kid -/
def fc62 : FC where
  nt := 16
  np := 2
  res := [.cell 4 (some 5)]
  body :=
    (.seq
      (.region [1, 2, 4] [
          ⟨some 2, .box (.t 0), none⟩,
          ⟨some 4, .alloc [.int .i64 0, .str [], .int .i64 0, .nils, .int .i64 0], none⟩])
      (.seq
        (.seq
          (.region [1, 2, 4, 9] [
              ⟨some 5, .move (.t 1), none⟩,
              ⟨some 6, .faddr (.t 2) 3, none⟩,
              ⟨some 7, .load none (.t 6), none⟩,
              ⟨some 8, .len 1 (.t 7), none⟩,
              ⟨some 9, .bin .lss (.t 5) (.t 8), none⟩])
          (.cond (.t 9)
            (.seq
              (.region [4] [
                  ⟨some 10, .faddr (.t 2) 3, none⟩,
                  ⟨some 11, .load none (.t 10), none⟩,
                  ⟨some 12, .move (.t 1), none⟩,
                  ⟨some 13, .iaddr none 5 (.t 11) (.t 12), none⟩,
                  ⟨some 14, .load (some 5) (.t 13), none⟩,
                  ⟨none, .store 5 (.t 4) (.t 14), none⟩])
              .ret)
            .skip))
        (.seq
          (.region [4] [
              ⟨some 15, .build [.int .i64 0, .str [], .int .i64 0, .nils, .int .i64 0] [], none⟩,
              ⟨none, .store 5 (.t 4) (.t 15), none⟩])
          .ret)))

theorem ok62 : FOk Tryd.prog 62 fc62 := FOk.of Tryd.func62 (by kernel_rfl)

/-- (*strings.Builder).WriteByte -/
def fc64 : FC where
  nt := 17
  np := 2
  res := [.t 4]
  body :=
    (.seq
      (.region [0, 1] [
          ⟨some 4, .move (.c (.p (.nili))), none⟩])
      (.seq
        (.region [0, 1] [
            ⟨some 5, .move (.t 0), none⟩,
            ⟨some 6, .call (.c (.fn 77 [] [])) [(.t 5)], none⟩])
        (.seq
          (.region [] [
              ⟨some 7, .move (.t 0), none⟩,
              ⟨some 8, .move (.t 0), none⟩,
              ⟨some 9, .nilCheck (.t 8), none⟩,
              ⟨some 10, .faddr (.t 9) 1, none⟩,
              ⟨some 11, .load none (.t 10), none⟩,
              ⟨some 12, .move (.t 1), none⟩,
              ⟨some 13, .bslice 5 1 1 (.int .u8 0) [(0, (.t 12))], none⟩,
              ⟨some 14, .append 5 1 1 (.t 11) (.t 13), none⟩,
              ⟨some 15, .nilCheck (.t 7), none⟩,
              ⟨some 16, .faddr (.t 15) 1, none⟩,
              ⟨none, .store 1 (.t 16) (.t 14), none⟩])
          (.seq
            (.region [4] [
                ⟨some 4, .move (.c (.p (.nili))), none⟩])
            .ret))))

theorem ok64 : FOk Tryd.prog 64 fc64 := FOk.of Tryd.func64 (by kernel_rfl)

/-- (*armature/printer.printer).bound -/
def fc65 : FC where
  nt := 23
  np := 2
  res := []
  body :=
    (.seq
      (.region [0, 3] [
          ⟨some 3, .box (.t 1), none⟩])
      (.seq
        (.draw [0, 3] [] [
            ⟨some 4, .move (.t 0), none⟩,
            ⟨some 5, .nilCheck (.t 4), none⟩,
            ⟨some 6, .faddr (.t 5) 0, none⟩,
            ⟨some 7, .faddr (.t 3) 1, none⟩,
            ⟨some 8, .load none (.t 7), none⟩,
            ⟨some 9, .bin .add (.t 8) (.c (.p (.str [58, 32]))), none⟩,
            ⟨some 10, .call (.c (.fn 49 [] [])) [(.t 6), (.t 9)], none⟩])
        (.seq
          (.region [0, 3] [
              ⟨some 11, .move (.t 0), none⟩,
              ⟨some 12, .load (some 5) (.t 3), none⟩,
              ⟨some 13, .call (.c (.fn 62 [] [])) [(.t 12), (.c (.p (.int .i64 0)))], none⟩,
              ⟨some 14, .call (.c (.fn 61 [] [])) [(.t 11), (.t 13), (.c (.p (.int .i64 8))), (.c (.p (.bool true)))], none⟩])
          (.seq
            (.region [0, 3] [
                ⟨some 15, .move (.t 0), none⟩,
                ⟨some 16, .nilCheck (.t 15), none⟩,
                ⟨some 17, .faddr (.t 16) 0, none⟩,
                ⟨some 18, .call (.c (.fn 49 [] [])) [(.t 17), (.c (.p (.str [32, 124, 32])))], none⟩])
            (.region [] [
                ⟨some 19, .move (.t 0), none⟩,
                ⟨some 20, .load (some 5) (.t 3), none⟩,
                ⟨some 21, .call (.c (.fn 62 [] [])) [(.t 20), (.c (.p (.int .i64 1)))], none⟩,
                ⟨some 22, .call (.c (.fn 40 [] [])) [(.t 19), (.t 21), (.c (.p (.bool true)))], none⟩])))))

theorem ok65 : FOk Tryd.prog 65 fc65 := FOk.of Tryd.func65 (by kernel_rfl)

/-- armature/printer.list[armature/api.Node] -/
def fc66_b0 : SC :=
    (.loc
      (.seq
        (.region [0, 2, 3, 10, 11, 12, 13] [
            ⟨some 13, .bin .lss (.t 12) (.t 11), none⟩])
        (.seq
          (.cond (.t 13)
            .skip
            (.exit 0))
          (.seq
            (.block 1
              (.seq
                (.region [0, 2, 3, 8, 9, 10, 11, 12] [
                    ⟨some 14, .move (.t 12), none⟩,
                    ⟨some 15, .iaddr none 5 (.t 10) (.t 12), none⟩,
                    ⟨some 16, .load (some 5) (.t 15), none⟩,
                    ⟨some 9, .alloc [.int .i64 0, .str [], .int .i64 0, .nils, .int .i64 0], none⟩,
                    ⟨some 8, .move (.t 14), none⟩,
                    ⟨none, .store 5 (.t 9) (.t 16), none⟩])
                (.seq
                  (.seq
                    (.region [0, 2, 3, 9, 10, 11, 12, 18] [
                        ⟨some 17, .move (.t 8), none⟩,
                        ⟨some 18, .bin .gtr (.t 17) (.c (.p (.int .i64 0))), none⟩])
                    (.cond (.t 18)
                      (.region [0, 2, 3, 9, 10, 11, 12] [
                          ⟨some 19, .move (.t 0), none⟩,
                          ⟨some 20, .nilCheck (.t 19), none⟩,
                          ⟨some 21, .faddr (.t 20) 0, none⟩,
                          ⟨some 22, .move (.t 2), none⟩,
                          ⟨some 23, .call (.c (.fn 49 [] [])) [(.t 21), (.t 22)], none⟩])
                      .skip))
                  (.region [0, 2, 3, 10, 11, 12] [
                      ⟨some 24, .move (.t 3), none⟩,
                      ⟨some 25, .load (some 5) (.t 9), none⟩,
                      ⟨some 26, .call (.t 24) [(.t 25)], none⟩]))))
            (.region [0, 2, 3, 10, 11, 12] [
                ⟨some 27, .bin .add (.t 12) (.c (.p (.int .i64 1))), none⟩,
                ⟨some 12, .move (.t 27), none⟩])))))

def fc66 : FC where
  nt := 28
  np := 4
  res := []
  body :=
    (.seq
      (.region [0, 2, 3, 10, 11, 12] [
          ⟨some 10, .move (.t 1), none⟩,
          ⟨some 11, .len 1 (.t 10), none⟩,
          ⟨some 12, .move (.c (.p (.int .i64 0))), none⟩])
      (.block 0
        (.loop [0, 2, 3, 10, 11, 12]
          fc66_b0)))

theorem ok66 : FOk Tryd.prog 66 fc66 := FOk.of Tryd.func66 (by kernel_rfl)

/-- (*armature/printer.printer).argument -/
def fc67 : FC where
  nt := 7
  np := 2
  res := []
  body :=
    (.seq
      (.region [0, 3] [
          ⟨some 3, .box (.t 1), none⟩])
      (.region [] [
          ⟨some 4, .move (.t 0), none⟩,
          ⟨some 5, .load (some 5) (.t 3), none⟩,
          ⟨some 6, .call (.c (.fn 61 [] [])) [(.t 4), (.t 5), (.c (.p (.int .i64 8))), (.c (.p (.bool true)))], none⟩]))

theorem ok67 : FOk Tryd.prog 67 fc67 := FOk.of Tryd.func67 (by kernel_rfl)

/-- armature/armatureref03.symbol -/
def fc68 : FC where
  nt := 35
  np := 1
  res := [.t 2]
  body :=
    (.seq
      (.region [0] [
          ⟨some 2, .move (.c (.p (.str []))), none⟩])
      (.seq
        (.seq
          (.region [3] [
              ⟨some 3, .move (.t 0), none⟩])
          (.block 0
            (.seq
              (.region [3, 4] [
                  ⟨some 5, .bin .eql (.t 3) (.c (.p (.int .i64 44))), none⟩,
                  ⟨some 4, .move (.t 5), none⟩])
              (.cond (.t 4)
                (.seq
                  (.region [2] [
                      ⟨some 2, .move (.c (.p (.str [60, 61, 62]))), none⟩])
                  .ret)
                (.seq
                  (.region [3, 6] [
                      ⟨some 7, .bin .eql (.t 3) (.c (.p (.int .i64 43))), none⟩,
                      ⟨some 6, .move (.t 7), none⟩])
                  (.cond (.t 6)
                    (.seq
                      (.region [2] [
                          ⟨some 2, .move (.c (.p (.str [61, 62]))), none⟩])
                      .ret)
                    (.seq
                      (.region [3, 8] [
                          ⟨some 9, .bin .eql (.t 3) (.c (.p (.int .i64 42))), none⟩,
                          ⟨some 8, .move (.t 9), none⟩])
                      (.cond (.t 8)
                        (.seq
                          (.region [2] [
                              ⟨some 2, .move (.c (.p (.str [124, 124]))), none⟩])
                          .ret)
                        (.seq
                          (.region [3, 10] [
                              ⟨some 11, .bin .eql (.t 3) (.c (.p (.int .i64 41))), none⟩,
                              ⟨some 10, .move (.t 11), none⟩])
                          (.cond (.t 10)
                            (.seq
                              (.region [2] [
                                  ⟨some 2, .move (.c (.p (.str [38, 38]))), none⟩])
                              .ret)
                            (.seq
                              (.region [3, 12] [
                                  ⟨some 13, .bin .eql (.t 3) (.c (.p (.int .i64 51))), none⟩,
                                  ⟨some 12, .move (.t 13), none⟩])
                              (.cond (.t 12)
                                (.seq
                                  (.region [2] [
                                      ⟨some 2, .move (.c (.p (.str [117, 110, 116, 105, 108]))), none⟩])
                                  .ret)
                                (.seq
                                  (.region [3, 14] [
                                      ⟨some 15, .bin .eql (.t 3) (.c (.p (.int .i64 32))), none⟩,
                                      ⟨some 14, .move (.t 15), none⟩])
                                  (.cond (.t 14)
                                    (.seq
                                      (.region [2] [
                                          ⟨some 2, .move (.c (.p (.str [105, 110]))), none⟩])
                                      .ret)
                                    (.seq
                                      (.seq
                                        (.region [3, 16] [
                                            ⟨some 17, .bin .eql (.t 3) (.c (.p (.int .i64 33))), none⟩,
                                            ⟨some 16, .move (.t 17), none⟩])
                                        (.cond (.t 16)
                                          .skip
                                          (.region [3, 16] [
                                              ⟨some 18, .bin .eql (.t 3) (.c (.p (.int .i64 38))), none⟩,
                                              ⟨some 16, .move (.t 18), none⟩])))
                                      (.cond (.t 16)
                                        (.seq
                                          (.region [2] [
                                              ⟨some 2, .move (.c (.p (.str [61]))), none⟩])
                                          .ret)
                                        (.seq
                                          (.region [3, 19] [
                                              ⟨some 20, .bin .eql (.t 3) (.c (.p (.int .i64 39))), none⟩,
                                              ⟨some 19, .move (.t 20), none⟩])
                                          (.cond (.t 19)
                                            (.seq
                                              (.region [2] [
                                                  ⟨some 2, .move (.c (.p (.str [60]))), none⟩])
                                              .ret)
                                            (.seq
                                              (.seq
                                                (.region [3, 21] [
                                                    ⟨some 22, .bin .eql (.t 3) (.c (.p (.int .i64 6))), none⟩,
                                                    ⟨some 21, .move (.t 22), none⟩])
                                                (.cond (.t 21)
                                                  .skip
                                                  (.region [3, 21] [
                                                      ⟨some 23, .bin .eql (.t 3) (.c (.p (.int .i64 22))), none⟩,
                                                      ⟨some 21, .move (.t 23), none⟩])))
                                              (.cond (.t 21)
                                                (.seq
                                                  (.region [2] [
                                                      ⟨some 2, .move (.c (.p (.str [43]))), none⟩])
                                                  .ret)
                                                (.seq
                                                  (.seq
                                                    (.region [3, 24] [
                                                        ⟨some 25, .bin .eql (.t 3) (.c (.p (.int .i64 8))), none⟩,
                                                        ⟨some 24, .move (.t 25), none⟩])
                                                    (.cond (.t 24)
                                                      .skip
                                                      (.region [3, 24] [
                                                          ⟨some 26, .bin .eql (.t 3) (.c (.p (.int .i64 23))), none⟩,
                                                          ⟨some 24, .move (.t 26), none⟩])))
                                                  (.cond (.t 24)
                                                    (.seq
                                                      (.region [2] [
                                                          ⟨some 2, .move (.c (.p (.str [45]))), none⟩])
                                                      .ret)
                                                    (.seq
                                                      (.region [3, 27] [
                                                          ⟨some 28, .bin .eql (.t 3) (.c (.p (.int .i64 14))), none⟩,
                                                          ⟨some 27, .move (.t 28), none⟩])
                                                      (.cond (.t 27)
                                                        (.seq
                                                          (.region [2] [
                                                              ⟨some 2, .move (.c (.p (.str [43, 43]))), none⟩])
                                                          .ret)
                                                        (.seq
                                                          (.region [3, 29] [
                                                              ⟨some 30, .bin .eql (.t 3) (.c (.p (.int .i64 7))), none⟩,
                                                              ⟨some 29, .move (.t 30), none⟩])
                                                          (.cond (.t 29)
                                                            (.seq
                                                              (.region [2] [
                                                                  ⟨some 2, .move (.c (.p (.str [38]))), none⟩])
                                                              .ret)
                                                            (.seq
                                                              (.region [3, 31] [
                                                                  ⟨some 32, .bin .eql (.t 3) (.c (.p (.int .i64 10))), none⟩,
                                                                  ⟨some 31, .move (.t 32), none⟩])
                                                              (.cond (.t 31)
                                                                (.seq
                                                                  (.region [2] [
                                                                      ⟨some 2, .move (.c (.p (.str [45, 62]))), none⟩])
                                                                  .ret)
                                                                (.seq
                                                                  (.region [33] [
                                                                      ⟨some 34, .bin .eql (.t 3) (.c (.p (.int .i64 9))), none⟩,
                                                                      ⟨some 33, .move (.t 34), none⟩])
                                                                  (.cond (.t 33)
                                                                    (.seq
                                                                      (.region [2] [
                                                                          ⟨some 2, .move (.c (.p (.str [46]))), none⟩])
                                                                      .ret)
                                                                    .skip))))))))))))))))))))))))))))))
        (.seq
          (.region [2] [
              ⟨some 2, .move (.c (.p (.str []))), none⟩])
          .ret)))

theorem ok68 : FOk Tryd.prog 68 fc68 := FOk.of Tryd.func68 (by kernel_rfl)

/-- armature/armatureref03.binary -/
def fc69 : FC where
  nt := 53
  np := 2
  res := [.t 4]
  body :=
    (.seq
      (.region [1, 2] [
          ⟨some 2, .box (.t 0), none⟩,
          ⟨some 4, .move (.c (.p (.str []))), none⟩])
      (.seq
        (.region [1, 2, 5] [
            ⟨some 9, .faddr (.t 2) 0, none⟩,
            ⟨some 10, .load none (.t 9), none⟩,
            ⟨some 11, .call (.c (.fn 71 [] [])) [(.t 10)], none⟩,
            ⟨some 5, .move (.t 11), none⟩])
        (.seq
          (.region [1, 2, 5, 6] [
              ⟨some 12, .move (.t 5), none⟩,
              ⟨some 6, .move (.t 12), none⟩])
          (.seq
            (.region [1, 2, 5, 6, 7] [
                ⟨some 13, .move (.t 5), none⟩,
                ⟨some 14, .bin .add (.t 13) (.c (.p (.int .i64 1))), none⟩,
                ⟨some 7, .move (.t 14), none⟩])
            (.seq
              (.seq
                (.region [1, 2, 5, 6, 7, 22] [
                    ⟨some 15, .faddr (.t 2) 0, none⟩,
                    ⟨some 16, .load none (.t 15), none⟩,
                    ⟨some 17, .bin .eql (.t 16) (.c (.p (.int .i64 43))), none⟩,
                    ⟨some 18, .move (.t 17), none⟩,
                    ⟨some 19, .faddr (.t 2) 0, some (18, false)⟩,
                    ⟨some 20, .load none (.t 19), some (18, false)⟩,
                    ⟨some 21, .bin .eql (.t 20) (.c (.p (.int .i64 51))), some (18, false)⟩,
                    ⟨some 22, .pick (.t 18) (.c (.p (.bool true))) (.t 21), none⟩])
                (.cond (.t 22)
                  (.seq
                    (.region [1, 2, 5, 6] [
                        ⟨some 23, .move (.t 5), none⟩,
                        ⟨some 24, .bin .add (.t 23) (.c (.p (.int .i64 1))), none⟩,
                        ⟨some 6, .move (.t 24), none⟩])
                    (.region [1, 2, 5, 6, 7] [
                        ⟨some 25, .move (.t 5), none⟩,
                        ⟨some 7, .move (.t 25), none⟩]))
                  .skip))
              (.seq
                (.seq
                  (.region [1, 2, 6, 7, 27] [
                      ⟨some 26, .move (.t 5), none⟩,
                      ⟨some 27, .bin .eql (.t 26) (.c (.p (.int .i64 7))), none⟩])
                  (.cond (.t 27)
                    (.region [1, 2, 6, 7] [
                        ⟨some 6, .move (.c (.p (.int .i64 8))), none⟩])
                    .skip))
                (.seq
                  (.region [1, 2, 6, 7, 8] [
                      ⟨some 28, .faddr (.t 2) 0, none⟩,
                      ⟨some 29, .load none (.t 28), none⟩,
                      ⟨some 30, .call (.c (.fn 68 [] [])) [(.t 29)], none⟩,
                      ⟨some 8, .move (.t 30), none⟩])
                  (.seq
                    (.seq
                      (.region [1, 2, 6, 7, 8, 33] [
                          ⟨some 31, .faddr (.t 2) 0, none⟩,
                          ⟨some 32, .load none (.t 31), none⟩,
                          ⟨some 33, .bin .neq (.t 32) (.c (.p (.int .i64 9))), none⟩])
                      (.cond (.t 33)
                        (.region [1, 2, 6, 7, 8] [
                            ⟨some 34, .move (.t 8), none⟩,
                            ⟨some 35, .bin .add (.c (.p (.str [32]))) (.t 34), none⟩,
                            ⟨some 36, .bin .add (.t 35) (.c (.p (.str [32]))), none⟩,
                            ⟨some 8, .move (.t 36), none⟩])
                        .skip))
                    (.seq
                      (.draw [4] [(1, 9), (3, 9), (5, 9), (1, 11), (3, 11), (5, 11)] [
                          ⟨some 37, .faddr (.t 2) 3, none⟩,
                          ⟨some 38, .load none (.t 37), none⟩,
                          ⟨some 39, .iaddr none 5 (.t 38) (.c (.p (.int .i64 0))), none⟩,
                          ⟨some 40, .load (some 5) (.t 39), none⟩,
                          ⟨some 41, .move (.t 6), none⟩,
                          ⟨some 42, .call (.c (.fn 72 [] [])) [(.t 40), (.t 41), (.c (.p (.bool false)))], none⟩,
                          ⟨some 43, .move (.t 8), none⟩,
                          ⟨some 44, .bin .add (.t 42) (.t 43), none⟩,
                          ⟨some 45, .faddr (.t 2) 3, none⟩,
                          ⟨some 46, .load none (.t 45), none⟩,
                          ⟨some 47, .iaddr none 5 (.t 46) (.c (.p (.int .i64 1))), none⟩,
                          ⟨some 48, .load (some 5) (.t 47), none⟩,
                          ⟨some 49, .move (.t 7), none⟩,
                          ⟨some 50, .move (.t 1), none⟩,
                          ⟨some 51, .call (.c (.fn 72 [] [])) [(.t 48), (.t 49), (.t 50)], none⟩,
                          ⟨some 52, .bin .add (.t 44) (.t 51), none⟩,
                          ⟨some 4, .move (.t 52), none⟩])
                      .ret)))))))))

theorem ok69 : FOk Tryd.prog 69 fc69 := FOk.of Tryd.func69 (by kernel_rfl)

/-- armature/armatureref03.prefix -/
def fc70 : FC where
  nt := 28
  np := 1
  res := [.t 2]
  body :=
    (.seq
      (.region [0] [
          ⟨some 2, .move (.c (.p (.str []))), none⟩])
      (.seq
        (.seq
          (.region [3] [
              ⟨some 3, .move (.t 0), none⟩])
          (.block 0
            (.seq
              (.region [3, 4] [
                  ⟨some 5, .bin .eql (.t 3) (.c (.p (.int .i64 40))), none⟩,
                  ⟨some 4, .move (.t 5), none⟩])
              (.cond (.t 4)
                (.seq
                  (.region [2] [
                      ⟨some 2, .move (.c (.p (.str [110, 111, 116, 32]))), none⟩])
                  .ret)
                (.seq
                  (.region [3, 6] [
                      ⟨some 7, .bin .eql (.t 3) (.c (.p (.int .i64 48))), none⟩,
                      ⟨some 6, .move (.t 7), none⟩])
                  (.cond (.t 6)
                    (.seq
                      (.region [2] [
                          ⟨some 2, .move (.c (.p (.str [97, 108, 119, 97, 121, 115, 32]))), none⟩])
                      .ret)
                    (.seq
                      (.region [3, 8] [
                          ⟨some 9, .bin .eql (.t 3) (.c (.p (.int .i64 49))), none⟩,
                          ⟨some 8, .move (.t 9), none⟩])
                      (.cond (.t 8)
                        (.seq
                          (.region [2] [
                              ⟨some 2, .move (.c (.p (.str [101, 118, 101, 110, 116, 117, 97, 108, 108, 121, 32]))), none⟩])
                          .ret)
                        (.seq
                          (.region [3, 10] [
                              ⟨some 11, .bin .eql (.t 3) (.c (.p (.int .i64 50))), none⟩,
                              ⟨some 10, .move (.t 11), none⟩])
                          (.cond (.t 10)
                            (.seq
                              (.region [2] [
                                  ⟨some 2, .move (.c (.p (.str [97, 102, 116, 101, 114, 32]))), none⟩])
                              .ret)
                            (.seq
                              (.region [3, 12] [
                                  ⟨some 13, .bin .eql (.t 3) (.c (.p (.int .i64 35))), none⟩,
                                  ⟨some 12, .move (.t 13), none⟩])
                              (.cond (.t 12)
                                (.seq
                                  (.region [2] [
                                      ⟨some 2, .move (.c (.p (.str [110, 111, 32]))), none⟩])
                                  .ret)
                                (.seq
                                  (.region [3, 14] [
                                      ⟨some 15, .bin .eql (.t 3) (.c (.p (.int .i64 34))), none⟩,
                                      ⟨some 14, .move (.t 15), none⟩])
                                  (.cond (.t 14)
                                    (.seq
                                      (.region [2] [
                                          ⟨some 2, .move (.c (.p (.str [115, 111, 109, 101, 32]))), none⟩])
                                      .ret)
                                    (.seq
                                      (.region [3, 16] [
                                          ⟨some 17, .bin .eql (.t 3) (.c (.p (.int .i64 36))), none⟩,
                                          ⟨some 16, .move (.t 17), none⟩])
                                      (.cond (.t 16)
                                        (.seq
                                          (.region [2] [
                                              ⟨some 2, .move (.c (.p (.str [111, 110, 101, 32]))), none⟩])
                                          .ret)
                                        (.seq
                                          (.region [3, 18] [
                                              ⟨some 19, .bin .eql (.t 3) (.c (.p (.int .i64 37))), none⟩,
                                              ⟨some 18, .move (.t 19), none⟩])
                                          (.cond (.t 18)
                                            (.seq
                                              (.region [2] [
                                                  ⟨some 2, .move (.c (.p (.str [108, 111, 110, 101, 32]))), none⟩])
                                              .ret)
                                            (.seq
                                              (.region [3, 20] [
                                                  ⟨some 21, .bin .eql (.t 3) (.c (.p (.int .i64 21))), none⟩,
                                                  ⟨some 20, .move (.t 21), none⟩])
                                              (.cond (.t 20)
                                                (.seq
                                                  (.region [2] [
                                                      ⟨some 2, .move (.c (.p (.str [35]))), none⟩])
                                                  .ret)
                                                (.seq
                                                  (.region [3, 22] [
                                                      ⟨some 23, .bin .eql (.t 3) (.c (.p (.int .i64 11))), none⟩,
                                                      ⟨some 22, .move (.t 23), none⟩])
                                                  (.cond (.t 22)
                                                    (.seq
                                                      (.region [2] [
                                                          ⟨some 2, .move (.c (.p (.str [126]))), none⟩])
                                                      .ret)
                                                    (.seq
                                                      (.region [3, 24] [
                                                          ⟨some 25, .bin .eql (.t 3) (.c (.p (.int .i64 12))), none⟩,
                                                          ⟨some 24, .move (.t 25), none⟩])
                                                      (.cond (.t 24)
                                                        (.seq
                                                          (.region [2] [
                                                              ⟨some 2, .move (.c (.p (.str [94]))), none⟩])
                                                          .ret)
                                                        (.seq
                                                          (.region [26] [
                                                              ⟨some 27, .bin .eql (.t 3) (.c (.p (.int .i64 13))), none⟩,
                                                              ⟨some 26, .move (.t 27), none⟩])
                                                          (.cond (.t 26)
                                                            (.seq
                                                              (.region [2] [
                                                                  ⟨some 2, .move (.c (.p (.str [42]))), none⟩])
                                                              .ret)
                                                            .skip))))))))))))))))))))))))))
        (.seq
          (.region [2] [
              ⟨some 2, .move (.c (.p (.str []))), none⟩])
          .ret)))

theorem ok70 : FOk Tryd.prog 70 fc70 := FOk.of Tryd.func70 (by kernel_rfl)

/-- armature/armatureref03.Level -/
def fc71 : FC where
  nt := 48
  np := 1
  res := [.t 2]
  body :=
    (.seq
      (.region [0] [
          ⟨some 2, .move (.c (.p (.int .i64 0))), none⟩])
      (.seq
        (.seq
          (.region [3] [
              ⟨some 3, .move (.t 0), none⟩])
          (.block 0
            (.seq
              (.region [3, 4] [
                  ⟨some 5, .bin .eql (.t 3) (.c (.p (.int .i64 44))), none⟩,
                  ⟨some 4, .move (.t 5), none⟩])
              (.cond (.t 4)
                (.seq
                  (.region [2] [
                      ⟨some 2, .move (.c (.p (.int .i64 1))), none⟩])
                  .ret)
                (.seq
                  (.region [3, 6] [
                      ⟨some 7, .bin .eql (.t 3) (.c (.p (.int .i64 43))), none⟩,
                      ⟨some 6, .move (.t 7), none⟩])
                  (.cond (.t 6)
                    (.seq
                      (.region [2] [
                          ⟨some 2, .move (.c (.p (.int .i64 2))), none⟩])
                      .ret)
                    (.seq
                      (.region [3, 8] [
                          ⟨some 9, .bin .eql (.t 3) (.c (.p (.int .i64 42))), none⟩,
                          ⟨some 8, .move (.t 9), none⟩])
                      (.cond (.t 8)
                        (.seq
                          (.region [2] [
                              ⟨some 2, .move (.c (.p (.int .i64 3))), none⟩])
                          .ret)
                        (.seq
                          (.region [3, 10] [
                              ⟨some 11, .bin .eql (.t 3) (.c (.p (.int .i64 41))), none⟩,
                              ⟨some 10, .move (.t 11), none⟩])
                          (.cond (.t 10)
                            (.seq
                              (.region [2] [
                                  ⟨some 2, .move (.c (.p (.int .i64 4))), none⟩])
                              .ret)
                            (.seq
                              (.region [3, 12] [
                                  ⟨some 13, .bin .eql (.t 3) (.c (.p (.int .i64 51))), none⟩,
                                  ⟨some 12, .move (.t 13), none⟩])
                              (.cond (.t 12)
                                (.seq
                                  (.region [2] [
                                      ⟨some 2, .move (.c (.p (.int .i64 5))), none⟩])
                                  .ret)
                                (.seq
                                  (.seq
                                    (.region [3, 14] [
                                        ⟨some 15, .bin .eql (.t 3) (.c (.p (.int .i64 40))), none⟩,
                                        ⟨some 14, .move (.t 15), none⟩])
                                    (.cond (.t 14)
                                      .skip
                                      (.seq
                                        (.region [3, 14] [
                                            ⟨some 16, .bin .eql (.t 3) (.c (.p (.int .i64 48))), none⟩,
                                            ⟨some 14, .move (.t 16), none⟩])
                                        (.cond (.t 14)
                                          .skip
                                          (.seq
                                            (.region [3, 14] [
                                                ⟨some 17, .bin .eql (.t 3) (.c (.p (.int .i64 49))), none⟩,
                                                ⟨some 14, .move (.t 17), none⟩])
                                            (.cond (.t 14)
                                              .skip
                                              (.region [3, 14] [
                                                  ⟨some 18, .bin .eql (.t 3) (.c (.p (.int .i64 50))), none⟩,
                                                  ⟨some 14, .move (.t 18), none⟩])))))))
                                  (.cond (.t 14)
                                    (.seq
                                      (.region [2] [
                                          ⟨some 2, .move (.c (.p (.int .i64 6))), none⟩])
                                      .ret)
                                    (.seq
                                      (.seq
                                        (.region [3, 19] [
                                            ⟨some 20, .bin .eql (.t 3) (.c (.p (.int .i64 32))), none⟩,
                                            ⟨some 19, .move (.t 20), none⟩])
                                        (.cond (.t 19)
                                          .skip
                                          (.seq
                                            (.region [3, 19] [
                                                ⟨some 21, .bin .eql (.t 3) (.c (.p (.int .i64 33))), none⟩,
                                                ⟨some 19, .move (.t 21), none⟩])
                                            (.cond (.t 19)
                                              .skip
                                              (.seq
                                                (.region [3, 19] [
                                                    ⟨some 22, .bin .eql (.t 3) (.c (.p (.int .i64 38))), none⟩,
                                                    ⟨some 19, .move (.t 22), none⟩])
                                                (.cond (.t 19)
                                                  .skip
                                                  (.seq
                                                    (.region [3, 19] [
                                                        ⟨some 23, .bin .eql (.t 3) (.c (.p (.int .i64 39))), none⟩,
                                                        ⟨some 19, .move (.t 23), none⟩])
                                                    (.cond (.t 19)
                                                      .skip
                                                      (.seq
                                                        (.region [3, 19] [
                                                            ⟨some 24, .bin .eql (.t 3) (.c (.p (.int .i64 35))), none⟩,
                                                            ⟨some 19, .move (.t 24), none⟩])
                                                        (.cond (.t 19)
                                                          .skip
                                                          (.seq
                                                            (.region [3, 19] [
                                                                ⟨some 25, .bin .eql (.t 3) (.c (.p (.int .i64 34))), none⟩,
                                                                ⟨some 19, .move (.t 25), none⟩])
                                                            (.cond (.t 19)
                                                              .skip
                                                              (.seq
                                                                (.region [3, 19] [
                                                                    ⟨some 26, .bin .eql (.t 3) (.c (.p (.int .i64 36))), none⟩,
                                                                    ⟨some 19, .move (.t 26), none⟩])
                                                                (.cond (.t 19)
                                                                  .skip
                                                                  (.region [3, 19] [
                                                                      ⟨some 27, .bin .eql (.t 3) (.c (.p (.int .i64 37))), none⟩,
                                                                      ⟨some 19, .move (.t 27), none⟩])))))))))))))))
                                      (.cond (.t 19)
                                        (.seq
                                          (.region [2] [
                                              ⟨some 2, .move (.c (.p (.int .i64 7))), none⟩])
                                          .ret)
                                        (.seq
                                          (.seq
                                            (.region [3, 28] [
                                                ⟨some 29, .bin .eql (.t 3) (.c (.p (.int .i64 6))), none⟩,
                                                ⟨some 28, .move (.t 29), none⟩])
                                            (.cond (.t 28)
                                              .skip
                                              (.seq
                                                (.region [3, 28] [
                                                    ⟨some 30, .bin .eql (.t 3) (.c (.p (.int .i64 8))), none⟩,
                                                    ⟨some 28, .move (.t 30), none⟩])
                                                (.cond (.t 28)
                                                  .skip
                                                  (.seq
                                                    (.region [3, 28] [
                                                        ⟨some 31, .bin .eql (.t 3) (.c (.p (.int .i64 22))), none⟩,
                                                        ⟨some 28, .move (.t 31), none⟩])
                                                    (.cond (.t 28)
                                                      .skip
                                                      (.region [3, 28] [
                                                          ⟨some 32, .bin .eql (.t 3) (.c (.p (.int .i64 23))), none⟩,
                                                          ⟨some 28, .move (.t 32), none⟩])))))))
                                          (.cond (.t 28)
                                            (.seq
                                              (.region [2] [
                                                  ⟨some 2, .move (.c (.p (.int .i64 8))), none⟩])
                                              .ret)
                                            (.seq
                                              (.region [3, 33] [
                                                  ⟨some 34, .bin .eql (.t 3) (.c (.p (.int .i64 14))), none⟩,
                                                  ⟨some 33, .move (.t 34), none⟩])
                                              (.cond (.t 33)
                                                (.seq
                                                  (.region [2] [
                                                      ⟨some 2, .move (.c (.p (.int .i64 9))), none⟩])
                                                  .ret)
                                                (.seq
                                                  (.region [3, 35] [
                                                      ⟨some 36, .bin .eql (.t 3) (.c (.p (.int .i64 7))), none⟩,
                                                      ⟨some 35, .move (.t 36), none⟩])
                                                  (.cond (.t 35)
                                                    (.seq
                                                      (.region [2] [
                                                          ⟨some 2, .move (.c (.p (.int .i64 10))), none⟩])
                                                      .ret)
                                                    (.seq
                                                      (.region [3, 37] [
                                                          ⟨some 38, .bin .eql (.t 3) (.c (.p (.int .i64 10))), none⟩,
                                                          ⟨some 37, .move (.t 38), none⟩])
                                                      (.cond (.t 37)
                                                        (.seq
                                                          (.region [2] [
                                                              ⟨some 2, .move (.c (.p (.int .i64 11))), none⟩])
                                                          .ret)
                                                        (.seq
                                                          (.seq
                                                            (.region [3, 39] [
                                                                ⟨some 40, .bin .eql (.t 3) (.c (.p (.int .i64 9))), none⟩,
                                                                ⟨some 39, .move (.t 40), none⟩])
                                                            (.cond (.t 39)
                                                              .skip
                                                              (.region [3, 39] [
                                                                  ⟨some 41, .bin .eql (.t 3) (.c (.p (.int .i64 21))), none⟩,
                                                                  ⟨some 39, .move (.t 41), none⟩])))
                                                          (.cond (.t 39)
                                                            (.seq
                                                              (.region [2] [
                                                                  ⟨some 2, .move (.c (.p (.int .i64 12))), none⟩])
                                                              .ret)
                                                            (.seq
                                                              (.seq
                                                                (.region [3, 42] [
                                                                    ⟨some 43, .bin .eql (.t 3) (.c (.p (.int .i64 11))), none⟩,
                                                                    ⟨some 42, .move (.t 43), none⟩])
                                                                (.cond (.t 42)
                                                                  .skip
                                                                  (.seq
                                                                    (.region [3, 42] [
                                                                        ⟨some 44, .bin .eql (.t 3) (.c (.p (.int .i64 12))), none⟩,
                                                                        ⟨some 42, .move (.t 44), none⟩])
                                                                    (.cond (.t 42)
                                                                      .skip
                                                                      (.region [3, 42] [
                                                                          ⟨some 45, .bin .eql (.t 3) (.c (.p (.int .i64 13))), none⟩,
                                                                          ⟨some 42, .move (.t 45), none⟩])))))
                                                              (.cond (.t 42)
                                                                (.seq
                                                                  (.region [2] [
                                                                      ⟨some 2, .move (.c (.p (.int .i64 13))), none⟩])
                                                                  .ret)
                                                                (.seq
                                                                  (.region [46] [
                                                                      ⟨some 47, .bin .eql (.t 3) (.c (.p (.int .i64 5))), none⟩,
                                                                      ⟨some 46, .move (.t 47), none⟩])
                                                                  (.cond (.t 46)
                                                                    (.seq
                                                                      (.region [2] [
                                                                          ⟨some 2, .move (.c (.p (.int .i64 14))), none⟩])
                                                                      .ret)
                                                                    .skip))))))))))))))))))))))))))))))
        (.seq
          (.region [2] [
              ⟨some 2, .move (.c (.p (.int .i64 15))), none⟩])
          .ret)))

theorem ok71 : FOk Tryd.prog 71 fc71 := FOk.of Tryd.func71 (by kernel_rfl)

/-- armature/armatureref03.operand -/
def fc72 : FC where
  nt := 35
  np := 3
  res := [.t 6]
  body :=
    (.seq
      (.region [1, 2, 3] [
          ⟨some 3, .box (.t 0), none⟩,
          ⟨some 6, .move (.c (.p (.str []))), none⟩])
      (.seq
        (.region [1, 2, 3, 7] [
            ⟨some 8, .faddr (.t 3) 0, none⟩,
            ⟨some 9, .load none (.t 8), none⟩,
            ⟨some 10, .bin .eql (.t 9) (.c (.p (.int .i64 45))), none⟩,
            ⟨some 11, .move (.t 10), none⟩,
            ⟨some 12, .faddr (.t 3) 0, some (11, false)⟩,
            ⟨some 13, .load none (.t 12), some (11, false)⟩,
            ⟨some 14, .bin .eql (.t 13) (.c (.p (.int .i64 46))), some (11, false)⟩,
            ⟨some 15, .pick (.t 11) (.c (.p (.bool true))) (.t 14), none⟩,
            ⟨some 7, .move (.t 15), none⟩])
        (.seq
          (.seq
            (.region [2, 3, 27] [
                ⟨some 16, .faddr (.t 3) 0, none⟩,
                ⟨some 17, .load none (.t 16), none⟩,
                ⟨some 18, .call (.c (.fn 71 [] [])) [(.t 17)], none⟩,
                ⟨some 19, .move (.t 1), none⟩,
                ⟨some 20, .bin .lss (.t 18) (.t 19), none⟩,
                ⟨some 21, .move (.t 20), none⟩,
                ⟨some 22, .move (.t 7), some (21, false)⟩,
                ⟨some 23, .move (.t 22), some (21, false)⟩,
                ⟨some 24, .move (.t 2), some (23, true)⟩,
                ⟨some 25, .un .not (.t 24), some (23, true)⟩,
                ⟨some 26, .pick (.t 23) (.t 25) (.c (.p (.bool false))), some (21, false)⟩,
                ⟨some 27, .pick (.t 21) (.c (.p (.bool true))) (.t 26), none⟩])
            (.cond (.t 27)
              (.seq
                (.region [6] [
                    ⟨some 28, .load (some 5) (.t 3), none⟩,
                    ⟨some 29, .call (.c (.fn 42 [] [])) [(.t 28), (.c (.p (.bool true)))], none⟩,
                    ⟨some 30, .bin .add (.c (.p (.str [40]))) (.t 29), none⟩,
                    ⟨some 31, .bin .add (.t 30) (.c (.p (.str [41]))), none⟩,
                    ⟨some 6, .move (.t 31), none⟩])
                .ret)
              .skip))
          (.seq
            (.region [6] [
                ⟨some 32, .load (some 5) (.t 3), none⟩,
                ⟨some 33, .move (.t 2), none⟩,
                ⟨some 34, .call (.c (.fn 42 [] [])) [(.t 32), (.t 33)], none⟩,
                ⟨some 6, .move (.t 34), none⟩])
            .ret))))

theorem ok72 : FOk Tryd.prog 72 fc72 := FOk.of Tryd.func72 (by kernel_rfl)

/-- armature/armatureref03.decimal -/
def fc73 : FC where
  nt := 26
  np := 1
  res := [.t 2]
  body :=
    (.seq
      (.region [0] [
          ⟨some 2, .move (.c (.p (.str []))), none⟩])
      (.seq
        (.seq
          (.region [0, 4] [
              ⟨some 3, .move (.t 0), none⟩,
              ⟨some 4, .bin .lss (.t 3) (.c (.p (.int .i64 0))), none⟩])
          (.cond (.t 4)
            (.seq
              (.region [2] [
                  ⟨some 5, .move (.t 0), none⟩,
                  ⟨some 6, .bin .sub (.c (.p (.int .i64 0))) (.t 5), none⟩,
                  ⟨some 7, .call (.c (.fn 73 [] [])) [(.t 6)], none⟩,
                  ⟨some 8, .bin .add (.c (.p (.str [45]))) (.t 7), none⟩,
                  ⟨some 2, .move (.t 8), none⟩])
              .ret)
            .skip))
        (.seq
          (.seq
            (.region [0, 10] [
                ⟨some 9, .move (.t 0), none⟩,
                ⟨some 10, .bin .lss (.t 9) (.c (.p (.int .i64 10))), none⟩])
            (.cond (.t 10)
              (.seq
                (.region [2] [
                    ⟨some 11, .move (.t 0), none⟩,
                    ⟨some 12, .bin .add (.c (.p (.int .i64 48))) (.t 11), none⟩,
                    ⟨some 13, .conv .u8 (.t 12), none⟩,
                    ⟨some 14, .bslice 5 1 1 (.int .u8 0) [(0, (.t 13))], none⟩,
                    ⟨some 15, .toStr (.t 14), none⟩,
                    ⟨some 2, .move (.t 15), none⟩])
                .ret)
              .skip))
          (.seq
            (.draw [2] [(2, 8)] [
                ⟨some 16, .move (.t 0), none⟩,
                ⟨some 17, .bin .quo (.t 16) (.c (.p (.int .i64 10))), none⟩,
                ⟨some 18, .call (.c (.fn 73 [] [])) [(.t 17)], none⟩,
                ⟨some 19, .move (.t 0), none⟩,
                ⟨some 20, .bin .rem (.t 19) (.c (.p (.int .i64 10))), none⟩,
                ⟨some 21, .bin .add (.c (.p (.int .i64 48))) (.t 20), none⟩,
                ⟨some 22, .conv .u8 (.t 21), none⟩,
                ⟨some 23, .bslice 5 1 1 (.int .u8 0) [(0, (.t 22))], none⟩,
                ⟨some 24, .toStr (.t 23), none⟩,
                ⟨some 25, .bin .add (.t 18) (.t 24), none⟩,
                ⟨some 2, .move (.t 25), none⟩])
            .ret))))

theorem ok73 : FOk Tryd.prog 73 fc73 := FOk.of Tryd.func73 (by kernel_rfl)

/-- armature/armatureref03.bound -/
def fc74 : FC where
  nt := 19
  np := 1
  res := [.t 2]
  body :=
    (.seq
      (.region [1] [
          ⟨some 1, .box (.t 0), none⟩,
          ⟨some 2, .move (.c (.p (.str []))), none⟩])
      (.seq
        (.draw [2] [(1, 4), (1, 6), (1, 7), (1, 11), (4, 11), (6, 11), (7, 11), (1, 13), (4, 13), (6, 13), (7, 13), (1, 14)] [
            ⟨some 3, .faddr (.t 1) 1, none⟩,
            ⟨some 4, .load none (.t 3), none⟩,
            ⟨some 5, .bin .add (.t 4) (.c (.p (.str [58, 32]))), none⟩,
            ⟨some 6, .faddr (.t 1) 3, none⟩,
            ⟨some 7, .load none (.t 6), none⟩,
            ⟨some 8, .iaddr none 5 (.t 7) (.c (.p (.int .i64 0))), none⟩,
            ⟨some 9, .load (some 5) (.t 8), none⟩,
            ⟨some 10, .call (.c (.fn 72 [] [])) [(.t 9), (.c (.p (.int .i64 8))), (.c (.p (.bool true)))], none⟩,
            ⟨some 11, .bin .add (.t 5) (.t 10), none⟩,
            ⟨some 12, .bin .add (.t 11) (.c (.p (.str [32, 124, 32]))), none⟩,
            ⟨some 13, .faddr (.t 1) 3, none⟩,
            ⟨some 14, .load none (.t 13), none⟩,
            ⟨some 15, .iaddr none 5 (.t 14) (.c (.p (.int .i64 1))), none⟩,
            ⟨some 16, .load (some 5) (.t 15), none⟩,
            ⟨some 17, .call (.c (.fn 42 [] [])) [(.t 16), (.c (.p (.bool true)))], none⟩,
            ⟨some 18, .bin .add (.t 12) (.t 17), none⟩,
            ⟨some 2, .move (.t 18), none⟩])
        .ret))

theorem ok74 : FOk Tryd.prog 74 fc74 := FOk.of Tryd.func74 (by kernel_rfl)

/-- armature/armatureref03.constant -/
def fc75 : FC where
  nt := 10
  np := 1
  res := [.t 2]
  body :=
    (.seq
      (.region [0] [
          ⟨some 2, .move (.c (.p (.str []))), none⟩])
      (.seq
        (.seq
          (.region [3] [
              ⟨some 3, .move (.t 0), none⟩])
          (.block 0
            (.seq
              (.region [3, 4] [
                  ⟨some 5, .bin .eql (.t 3) (.c (.p (.int .i64 3))), none⟩,
                  ⟨some 4, .move (.t 5), none⟩])
              (.cond (.t 4)
                (.seq
                  (.region [2] [
                      ⟨some 2, .move (.c (.p (.str [117, 110, 105, 118]))), none⟩])
                  .ret)
                (.seq
                  (.region [3, 6] [
                      ⟨some 7, .bin .eql (.t 3) (.c (.p (.int .i64 4))), none⟩,
                      ⟨some 6, .move (.t 7), none⟩])
                  (.cond (.t 6)
                    (.seq
                      (.region [2] [
                          ⟨some 2, .move (.c (.p (.str [105, 100, 101, 110]))), none⟩])
                      .ret)
                    (.seq
                      (.region [8] [
                          ⟨some 9, .bin .eql (.t 3) (.c (.p (.int .i64 30))), none⟩,
                          ⟨some 8, .move (.t 9), none⟩])
                      (.cond (.t 8)
                        (.seq
                          (.region [2] [
                              ⟨some 2, .move (.c (.p (.str [116, 114, 117, 101]))), none⟩])
                          .ret)
                        .skip))))))))
        (.seq
          (.region [2] [
              ⟨some 2, .move (.c (.p (.str [102, 97, 108, 115, 101]))), none⟩])
          .ret)))

theorem ok75 : FOk Tryd.prog 75 fc75 := FOk.of Tryd.func75 (by kernel_rfl)

/-- armature/armatureref02.Keyword -/
def fc76_b0 : SC :=
    (.seq
      (.seq
        (.region [0, 3, 4, 9] [
            ⟨some 6, .move (.t 4), none⟩,
            ⟨some 7, .move (.t 3), none⟩,
            ⟨some 8, .len 1 (.t 7), none⟩,
            ⟨some 9, .bin .lss (.t 6) (.t 8), none⟩])
        (.cond (.t 9)
          .skip
          (.exit 0)))
      (.seq
        (.block 1
          (.seq
            (.region [0, 3, 4, 17] [
                ⟨some 12, .move (.t 3), none⟩,
                ⟨some 13, .move (.t 4), none⟩,
                ⟨some 14, .iaddr none 1 (.t 12) (.t 13), none⟩,
                ⟨some 15, .load none (.t 14), none⟩,
                ⟨some 16, .move (.t 0), none⟩,
                ⟨some 17, .bin .eql (.t 15) (.t 16), none⟩])
            (.cond (.t 17)
              (.seq
                (.region [2] [
                    ⟨some 2, .move (.c (.p (.bool true))), none⟩])
                .ret)
              .skip)))
        (.region [0, 3, 4] [
            ⟨some 10, .move (.t 4), none⟩,
            ⟨some 11, .bin .add (.t 10) (.c (.p (.int .i64 1))), none⟩,
            ⟨some 4, .move (.t 11), none⟩])))

def fc76 : FC where
  nt := 18
  np := 1
  res := [.t 2]
  body :=
    (.seq
      (.region [0] [
          ⟨some 2, .move (.c (.p (.bool false))), none⟩])
      (.seq
        (.region [0, 3] [
            ⟨some 5, .bslice 9 1 22 (.str []) [(0, (.c (.p (.str [115, 111, 114, 116])))), (1, (.c (.p (.str [111, 114, 100, 101, 114, 101, 100])))), (2, (.c (.p (.str [118, 97, 114])))), (3, (.c (.p (.str [102, 105, 101, 108, 100])))), (4, (.c (.p (.str [112, 114, 101, 100])))), (5, (.c (.p (.str [102, 97, 99, 116])))), (6, (.c (.p (.str [97, 108, 108])))), (7, (.c (.p (.str [115, 111, 109, 101])))), (8, (.c (.p (.str [110, 111])))), (9, (.c (.p (.str [111, 110, 101])))), (10, (.c (.p (.str [108, 111, 110, 101])))), (11, (.c (.p (.str [97, 108, 119, 97, 121, 115])))), (12, (.c (.p (.str [101, 118, 101, 110, 116, 117, 97, 108, 108, 121])))), (13, (.c (.p (.str [97, 102, 116, 101, 114])))), (14, (.c (.p (.str [117, 110, 116, 105, 108])))), (15, (.c (.p (.str [110, 111, 110, 101])))), (16, (.c (.p (.str [117, 110, 105, 118])))), (17, (.c (.p (.str [105, 100, 101, 110])))), (18, (.c (.p (.str [105, 110])))), (19, (.c (.p (.str [110, 111, 116])))), (20, (.c (.p (.str [116, 114, 117, 101])))), (21, (.c (.p (.str [102, 97, 108, 115, 101]))))], none⟩,
            ⟨some 3, .move (.t 5), none⟩])
        (.seq
          (.seq
            (.region [0, 3, 4] [
                ⟨some 4, .move (.c (.p (.int .i64 0))), none⟩])
            (.block 0
              (.loop [0, 3, 4]
                fc76_b0)))
          (.seq
            (.region [2] [
                ⟨some 2, .move (.c (.p (.bool false))), none⟩])
            .ret))))

theorem ok76 : FOk Tryd.prog 76 fc76 := FOk.of Tryd.func76 (by kernel_rfl)

/-- armature/armatureref02.Shape -/
def fc78_b0 : SC :=
    (.seq
      (.seq
        (.region [1, 6, 7, 64] [
            ⟨some 58, .move (.t 7), none⟩,
            ⟨some 59, .move (.t 1), none⟩,
            ⟨some 60, .bin .lss (.t 58) (.t 59), none⟩,
            ⟨some 61, .move (.t 60), none⟩,
            ⟨some 62, .move (.t 7), some (61, true)⟩,
            ⟨some 63, .bin .lss (.t 62) (.c (.p (.int .i64 401))), some (61, true)⟩,
            ⟨some 64, .pick (.t 61) (.t 63) (.c (.p (.bool false))), none⟩])
        (.cond (.t 64)
          .skip
          (.exit 1)))
      (.seq
        (.block 2
          (.region [1, 6, 7] [
              ⟨some 67, .move (.t 6), none⟩,
              ⟨some 68, .bin .add (.t 67) (.c (.p (.str [101]))), none⟩,
              ⟨some 6, .move (.t 68), none⟩]))
        (.region [1, 6, 7] [
            ⟨some 65, .move (.t 7), none⟩,
            ⟨some 66, .bin .add (.t 65) (.c (.p (.int .i64 1))), none⟩,
            ⟨some 7, .move (.t 66), none⟩])))

def fc78 : FC where
  nt := 70
  np := 2
  res := [.t 4, .t 5]
  body :=
    (.seq
      (.region [0, 1] [
          ⟨some 4, .move (.c (.p (.str []))), none⟩,
          ⟨some 5, .move (.c (.p (.bool false))), none⟩])
      (.seq
        (.seq
          (.region [1, 8] [
              ⟨some 8, .move (.t 0), none⟩])
          (.block 0
            (.seq
              (.seq
                (.region [1, 8, 9] [
                    ⟨some 10, .bin .eql (.t 8) (.c (.p (.int .i64 1))), none⟩,
                    ⟨some 9, .move (.t 10), none⟩])
                (.cond (.t 9)
                  .skip
                  (.seq
                    (.region [1, 8, 9] [
                        ⟨some 11, .bin .eql (.t 8) (.c (.p (.int .i64 2))), none⟩,
                        ⟨some 9, .move (.t 11), none⟩])
                    (.cond (.t 9)
                      .skip
                      (.seq
                        (.region [1, 8, 9] [
                            ⟨some 12, .bin .eql (.t 8) (.c (.p (.int .i64 3))), none⟩,
                            ⟨some 9, .move (.t 12), none⟩])
                        (.cond (.t 9)
                          .skip
                          (.seq
                            (.region [1, 8, 9] [
                                ⟨some 13, .bin .eql (.t 8) (.c (.p (.int .i64 4))), none⟩,
                                ⟨some 9, .move (.t 13), none⟩])
                            (.cond (.t 9)
                              .skip
                              (.seq
                                (.region [1, 8, 9] [
                                    ⟨some 14, .bin .eql (.t 8) (.c (.p (.int .i64 20))), none⟩,
                                    ⟨some 9, .move (.t 14), none⟩])
                                (.cond (.t 9)
                                  .skip
                                  (.seq
                                    (.region [1, 8, 9] [
                                        ⟨some 15, .bin .eql (.t 8) (.c (.p (.int .i64 30))), none⟩,
                                        ⟨some 9, .move (.t 15), none⟩])
                                    (.cond (.t 9)
                                      .skip
                                      (.region [1, 8, 9] [
                                          ⟨some 16, .bin .eql (.t 8) (.c (.p (.int .i64 31))), none⟩,
                                          ⟨some 9, .move (.t 16), none⟩])))))))))))))
              (.cond (.t 9)
                (.seq
                  (.region [4, 5] [
                      ⟨some 4, .move (.c (.p (.str []))), none⟩,
                      ⟨some 5, .move (.c (.p (.bool true))), none⟩])
                  .ret)
                (.seq
                  (.seq
                    (.region [1, 8, 17] [
                        ⟨some 18, .bin .eql (.t 8) (.c (.p (.int .i64 5))), none⟩,
                        ⟨some 17, .move (.t 18), none⟩])
                    (.cond (.t 17)
                      .skip
                      (.seq
                        (.region [1, 8, 17] [
                            ⟨some 19, .bin .eql (.t 8) (.c (.p (.int .i64 11))), none⟩,
                            ⟨some 17, .move (.t 19), none⟩])
                        (.cond (.t 17)
                          .skip
                          (.seq
                            (.region [1, 8, 17] [
                                ⟨some 20, .bin .eql (.t 8) (.c (.p (.int .i64 12))), none⟩,
                                ⟨some 17, .move (.t 20), none⟩])
                            (.cond (.t 17)
                              .skip
                              (.seq
                                (.region [1, 8, 17] [
                                    ⟨some 21, .bin .eql (.t 8) (.c (.p (.int .i64 13))), none⟩,
                                    ⟨some 17, .move (.t 21), none⟩])
                                (.cond (.t 17)
                                  .skip
                                  (.seq
                                    (.region [1, 8, 17] [
                                        ⟨some 22, .bin .eql (.t 8) (.c (.p (.int .i64 21))), none⟩,
                                        ⟨some 17, .move (.t 22), none⟩])
                                    (.cond (.t 17)
                                      .skip
                                      (.seq
                                        (.region [1, 8, 17] [
                                            ⟨some 23, .bin .eql (.t 8) (.c (.p (.int .i64 34))), none⟩,
                                            ⟨some 17, .move (.t 23), none⟩])
                                        (.cond (.t 17)
                                          .skip
                                          (.seq
                                            (.region [1, 8, 17] [
                                                ⟨some 24, .bin .eql (.t 8) (.c (.p (.int .i64 35))), none⟩,
                                                ⟨some 17, .move (.t 24), none⟩])
                                            (.cond (.t 17)
                                              .skip
                                              (.seq
                                                (.region [1, 8, 17] [
                                                    ⟨some 25, .bin .eql (.t 8) (.c (.p (.int .i64 36))), none⟩,
                                                    ⟨some 17, .move (.t 25), none⟩])
                                                (.cond (.t 17)
                                                  .skip
                                                  (.region [1, 8, 17] [
                                                      ⟨some 26, .bin .eql (.t 8) (.c (.p (.int .i64 37))), none⟩,
                                                      ⟨some 17, .move (.t 26), none⟩])))))))))))))))))
                  (.cond (.t 17)
                    (.seq
                      (.region [4, 5] [
                          ⟨some 4, .move (.c (.p (.str [101]))), none⟩,
                          ⟨some 5, .move (.c (.p (.bool true))), none⟩])
                      .ret)
                    (.seq
                      (.seq
                        (.region [1, 8, 27] [
                            ⟨some 28, .bin .eql (.t 8) (.c (.p (.int .i64 6))), none⟩,
                            ⟨some 27, .move (.t 28), none⟩])
                        (.cond (.t 27)
                          .skip
                          (.seq
                            (.region [1, 8, 27] [
                                ⟨some 29, .bin .eql (.t 8) (.c (.p (.int .i64 7))), none⟩,
                                ⟨some 27, .move (.t 29), none⟩])
                            (.cond (.t 27)
                              .skip
                              (.seq
                                (.region [1, 8, 27] [
                                    ⟨some 30, .bin .eql (.t 8) (.c (.p (.int .i64 8))), none⟩,
                                    ⟨some 27, .move (.t 30), none⟩])
                                (.cond (.t 27)
                                  .skip
                                  (.seq
                                    (.region [1, 8, 27] [
                                        ⟨some 31, .bin .eql (.t 8) (.c (.p (.int .i64 9))), none⟩,
                                        ⟨some 27, .move (.t 31), none⟩])
                                    (.cond (.t 27)
                                      .skip
                                      (.seq
                                        (.region [1, 8, 27] [
                                            ⟨some 32, .bin .eql (.t 8) (.c (.p (.int .i64 10))), none⟩,
                                            ⟨some 27, .move (.t 32), none⟩])
                                        (.cond (.t 27)
                                          .skip
                                          (.seq
                                            (.region [1, 8, 27] [
                                                ⟨some 33, .bin .eql (.t 8) (.c (.p (.int .i64 14))), none⟩,
                                                ⟨some 27, .move (.t 33), none⟩])
                                            (.cond (.t 27)
                                              .skip
                                              (.seq
                                                (.region [1, 8, 27] [
                                                    ⟨some 34, .bin .eql (.t 8) (.c (.p (.int .i64 32))), none⟩,
                                                    ⟨some 27, .move (.t 34), none⟩])
                                                (.cond (.t 27)
                                                  .skip
                                                  (.region [1, 8, 27] [
                                                      ⟨some 35, .bin .eql (.t 8) (.c (.p (.int .i64 33))), none⟩,
                                                      ⟨some 27, .move (.t 35), none⟩])))))))))))))))
                      (.cond (.t 27)
                        (.seq
                          (.region [4, 5] [
                              ⟨some 4, .move (.c (.p (.str [101, 101]))), none⟩,
                              ⟨some 5, .move (.c (.p (.bool true))), none⟩])
                          .ret)
                        (.seq
                          (.seq
                            (.region [1, 8, 36] [
                                ⟨some 37, .bin .eql (.t 8) (.c (.p (.int .i64 15))), none⟩,
                                ⟨some 36, .move (.t 37), none⟩])
                            (.cond (.t 36)
                              .skip
                              (.seq
                                (.region [1, 8, 36] [
                                    ⟨some 38, .bin .eql (.t 8) (.c (.p (.int .i64 45))), none⟩,
                                    ⟨some 36, .move (.t 38), none⟩])
                                (.cond (.t 36)
                                  .skip
                                  (.region [1, 8, 36] [
                                      ⟨some 39, .bin .eql (.t 8) (.c (.p (.int .i64 46))), none⟩,
                                      ⟨some 36, .move (.t 39), none⟩])))))
                          (.cond (.t 36)
                            (.seq
                              (.region [4, 5] [
                                  ⟨some 4, .move (.c (.p (.str [101, 102]))), none⟩,
                                  ⟨some 5, .move (.c (.p (.bool true))), none⟩])
                              .ret)
                            (.seq
                              (.seq
                                (.region [1, 8, 40] [
                                    ⟨some 41, .bin .eql (.t 8) (.c (.p (.int .i64 22))), none⟩,
                                    ⟨some 40, .move (.t 41), none⟩])
                                (.cond (.t 40)
                                  .skip
                                  (.seq
                                    (.region [1, 8, 40] [
                                        ⟨some 42, .bin .eql (.t 8) (.c (.p (.int .i64 23))), none⟩,
                                        ⟨some 40, .move (.t 42), none⟩])
                                    (.cond (.t 40)
                                      .skip
                                      (.seq
                                        (.region [1, 8, 40] [
                                            ⟨some 43, .bin .eql (.t 8) (.c (.p (.int .i64 38))), none⟩,
                                            ⟨some 40, .move (.t 43), none⟩])
                                        (.cond (.t 40)
                                          .skip
                                          (.region [1, 8, 40] [
                                              ⟨some 44, .bin .eql (.t 8) (.c (.p (.int .i64 39))), none⟩,
                                              ⟨some 40, .move (.t 44), none⟩])))))))
                              (.cond (.t 40)
                                (.seq
                                  (.region [4, 5] [
                                      ⟨some 4, .move (.c (.p (.str [105, 105]))), none⟩,
                                      ⟨some 5, .move (.c (.p (.bool true))), none⟩])
                                  .ret)
                                (.seq
                                  (.seq
                                    (.region [1, 8, 45] [
                                        ⟨some 46, .bin .eql (.t 8) (.c (.p (.int .i64 40))), none⟩,
                                        ⟨some 45, .move (.t 46), none⟩])
                                    (.cond (.t 45)
                                      .skip
                                      (.seq
                                        (.region [1, 8, 45] [
                                            ⟨some 47, .bin .eql (.t 8) (.c (.p (.int .i64 48))), none⟩,
                                            ⟨some 45, .move (.t 47), none⟩])
                                        (.cond (.t 45)
                                          .skip
                                          (.seq
                                            (.region [1, 8, 45] [
                                                ⟨some 48, .bin .eql (.t 8) (.c (.p (.int .i64 49))), none⟩,
                                                ⟨some 45, .move (.t 48), none⟩])
                                            (.cond (.t 45)
                                              .skip
                                              (.region [1, 8, 45] [
                                                  ⟨some 49, .bin .eql (.t 8) (.c (.p (.int .i64 50))), none⟩,
                                                  ⟨some 45, .move (.t 49), none⟩])))))))
                                  (.cond (.t 45)
                                    (.seq
                                      (.region [4, 5] [
                                          ⟨some 4, .move (.c (.p (.str [102]))), none⟩,
                                          ⟨some 5, .move (.c (.p (.bool true))), none⟩])
                                      .ret)
                                    (.seq
                                      (.seq
                                        (.region [1, 8, 50] [
                                            ⟨some 51, .bin .eql (.t 8) (.c (.p (.int .i64 41))), none⟩,
                                            ⟨some 50, .move (.t 51), none⟩])
                                        (.cond (.t 50)
                                          .skip
                                          (.seq
                                            (.region [1, 8, 50] [
                                                ⟨some 52, .bin .eql (.t 8) (.c (.p (.int .i64 42))), none⟩,
                                                ⟨some 50, .move (.t 52), none⟩])
                                            (.cond (.t 50)
                                              .skip
                                              (.seq
                                                (.region [1, 8, 50] [
                                                    ⟨some 53, .bin .eql (.t 8) (.c (.p (.int .i64 43))), none⟩,
                                                    ⟨some 50, .move (.t 53), none⟩])
                                                (.cond (.t 50)
                                                  .skip
                                                  (.seq
                                                    (.region [1, 8, 50] [
                                                        ⟨some 54, .bin .eql (.t 8) (.c (.p (.int .i64 44))), none⟩,
                                                        ⟨some 50, .move (.t 54), none⟩])
                                                    (.cond (.t 50)
                                                      .skip
                                                      (.region [1, 8, 50] [
                                                          ⟨some 55, .bin .eql (.t 8) (.c (.p (.int .i64 51))), none⟩,
                                                          ⟨some 50, .move (.t 55), none⟩])))))))))
                                      (.cond (.t 50)
                                        (.seq
                                          (.region [4, 5] [
                                              ⟨some 4, .move (.c (.p (.str [102, 102]))), none⟩,
                                              ⟨some 5, .move (.c (.p (.bool true))), none⟩])
                                          .ret)
                                        (.seq
                                          (.region [1, 56] [
                                              ⟨some 57, .bin .eql (.t 8) (.c (.p (.int .i64 47))), none⟩,
                                              ⟨some 56, .move (.t 57), none⟩])
                                          (.cond (.t 56)
                                            (.seq
                                              (.region [1, 6] [
                                                  ⟨some 6, .move (.c (.p (.str []))), none⟩])
                                              (.seq
                                                (.seq
                                                  (.region [1, 6, 7] [
                                                      ⟨some 7, .move (.c (.p (.int .i64 0))), none⟩])
                                                  (.block 1
                                                    (.loop [1, 6, 7]
                                                      fc78_b0)))
                                                (.seq
                                                  (.region [4, 5] [
                                                      ⟨some 69, .move (.t 6), none⟩,
                                                      ⟨some 4, .move (.t 69), none⟩,
                                                      ⟨some 5, .move (.c (.p (.bool true))), none⟩])
                                                  .ret)))
                                            .skip))))))))))))))))))
        (.seq
          (.region [4, 5] [
              ⟨some 4, .move (.c (.p (.str []))), none⟩,
              ⟨some 5, .move (.c (.p (.bool false))), none⟩])
          .ret)))

theorem ok78 : FOk Tryd.prog 78 fc78 := FOk.of Tryd.func78 (by kernel_rfl)

/-- (*armature/printer.printer).level -/
def fc79 : FC where
  nt := 35
  np := 2
  res := [.t 4]
  body :=
    (.seq
      (.region [0, 1] [
          ⟨some 4, .move (.c (.p (.int .i64 0))), none⟩])
      (.seq
        (.seq
          (.region [0, 1, 5, 6] [
              ⟨some 10, .move (.t 0), none⟩,
              ⟨some 11, .nilCheck (.t 10), none⟩,
              ⟨some 12, .faddr (.t 11) 2, none⟩,
              ⟨some 13, .load none (.t 12), none⟩,
              ⟨some 14, .move (.t 1), none⟩,
              ⟨some 15, .mapget 13 (.agg [.str [], .int .i64 0, .int .i64 0, .int .i64 0]) true (.t 13) (.t 14), none⟩,
              ⟨some 9, .move (.t 15), none⟩,
              ⟨some 16, .extract (.t 9) 0, none⟩,
              ⟨some 17, .extract (.t 9) 1, none⟩,
              ⟨some 5, .alloc [.str [], .int .i64 0, .int .i64 0, .int .i64 0], none⟩,
              ⟨none, .store 4 (.t 5) (.t 16), none⟩,
              ⟨some 6, .move (.t 17), none⟩])
          (.seq
            (.region [0, 1, 5, 18] [
                ⟨some 18, .move (.t 6), none⟩])
            (.cond (.t 18)
              (.seq
                (.region [4] [
                    ⟨some 19, .faddr (.t 5) 1, none⟩,
                    ⟨some 20, .load none (.t 19), none⟩,
                    ⟨some 4, .move (.t 20), none⟩])
                .ret)
              .skip)))
        (.seq
          (.seq
            (.region [1, 7, 8] [
                ⟨some 22, .move (.t 0), none⟩,
                ⟨some 23, .nilCheck (.t 22), none⟩,
                ⟨some 24, .faddr (.t 23) 3, none⟩,
                ⟨some 25, .load none (.t 24), none⟩,
                ⟨some 26, .move (.t 1), none⟩,
                ⟨some 27, .mapget 13 (.agg [.str [], .int .i64 0, .int .i64 0, .int .i64 0]) true (.t 25) (.t 26), none⟩,
                ⟨some 21, .move (.t 27), none⟩,
                ⟨some 28, .extract (.t 21) 0, none⟩,
                ⟨some 29, .extract (.t 21) 1, none⟩,
                ⟨some 7, .alloc [.str [], .int .i64 0, .int .i64 0, .int .i64 0], none⟩,
                ⟨none, .store 4 (.t 7) (.t 28), none⟩,
                ⟨some 8, .move (.t 29), none⟩])
            (.seq
              (.region [1, 7, 30] [
                  ⟨some 30, .move (.t 8), none⟩])
              (.cond (.t 30)
                (.seq
                  (.region [4] [
                      ⟨some 31, .faddr (.t 7) 1, none⟩,
                      ⟨some 32, .load none (.t 31), none⟩,
                      ⟨some 4, .move (.t 32), none⟩])
                  .ret)
                .skip)))
          (.seq
            (.seq
              (.region [34] [
                  ⟨some 33, .move (.t 1), none⟩,
                  ⟨some 34, .bin .eql (.t 33) (.c (.p (.int .i64 5))), none⟩])
              (.cond (.t 34)
                (.seq
                  (.region [4] [
                      ⟨some 4, .move (.c (.p (.int .i64 14))), none⟩])
                  .ret)
                .skip))
            (.seq
              (.region [4] [
                  ⟨some 4, .move (.c (.p (.int .i64 15))), none⟩])
              .ret)))))

theorem ok79 : FOk Tryd.prog 79 fc79 := FOk.of Tryd.func79 (by kernel_rfl)

end Go.Proofs.YtalgjkpkkdljaaaDoor

/-! The evaluator's program of this cut. -/
namespace Go.Proofs.YtalgjkpkkdljaaaDoor
open Go.Vs

/-- The library's functions. -/
def pgL : CallR := fun f args H =>
  match f, args with
  | 63, [.p (.int .i64 n)] => if -9223372036854775808 ≤ n ∧ n ≤ 9223372036854775807 then some (.val (.p (.str (Lib.itoa n))), H) else none
  | 77, [.box 0 0] => match H.bx with
    | (.fresh 78 4 0 :: r) :: l => some (.val .undef, { H with bx := (.box 0 0 :: r) :: l })
    | (.box 0 0 :: _) :: _ => some (.val .undef, H)
    | _ => none
  | _, _ => none

def pgF : Nat → Option FC
  | 3 => some fc3 | 4 => some fc4 | 5 => some fc5 | 6 => some fc6 | 7 => some fc7 | 8 => some fc8 | 9 => some fc9 | 10 => some fc10
  | 11 => some fc11 | 12 => some fc12 | 13 => some fc13 | 14 => some fc14 | 15 => some fc15 | 16 => some fc16 | 17 => some fc17 | 18 => some fc18 | 19 => some fc19 | 20 => some fc20
  | 21 => some fc21 | 22 => some fc22 | 23 => some fc23 | 24 => some fc24 | 25 => some fc25 | 26 => some fc26 | 27 => some fc27 | 28 => some fc28 | 29 => some fc29 | 30 => some fc30
  | 31 => some fc31 | 32 => some fc32 | 33 => some fc33 | 34 => some fc34 | 35 => some fc35 | 36 => some fc36 | 37 => some fc37 | 38 => some fc38 | 39 => some fc39 | 40 => some fc40
  | 41 => some fc41 | 42 => some fc42 | 43 => some fc43 | 44 => some fc44 | 45 => some fc45 | 46 => some fc46 | 47 => some fc47 | 48 => some fc48 | 49 => some fc49 | 50 => some fc50
  | 51 => some fc51 | 52 => some fc52 | 53 => some fc53 | 54 => some fc54 | 55 => some fc55 | 56 => some fc56 | 57 => some fc57 | 58 => some fc58 | 59 => some fc59 | 60 => some fc60
  | 61 => some fc61 | 62 => some fc62 | 64 => some fc64 | 65 => some fc65 | 66 => some fc66 | 67 => some fc67 | 68 => some fc68 | 69 => some fc69 | 70 => some fc70
  | 71 => some fc71 | 72 => some fc72 | 73 => some fc73 | 74 => some fc74 | 75 => some fc75 | 76 => some fc76 | 78 => some fc78 | 79 => some fc79
  | _ => none

def pgG : Nat → Option (List PD) := fun _ => none

def pg : Pg := ⟨pgF, pgG, pgL⟩

end Go.Proofs.YtalgjkpkkdljaaaDoor

/-! From a row's condition to the evaluator, and from the evaluator's outcome to the row's promise. -/
namespace Go.Vs
open Go.RowKit Go.ChangeShapes Go.WideShapes

variable {P : Program}

/-- All that stands in memory is known for good. -/
def gh0 (W : World) : Gh := ⟨W.heap.size, fun _ => none, fun b o => W.cell? ⟨b, o, none⟩, [], []⟩

structure GlobOk (G : Nat → Option (List PD)) (W : World) : Prop where
  ok : ∀ g cs, G g = some cs → ∀ j c, cs[j]? = some c → c.one = true ∧ ∃ v, W.cell? ⟨g, j, none⟩ = some v ∧ RepP (gh0 W).mem v c

theorem inv0 {G : Nat → Option (List PD)} {W : World} (h : GlobOk G W) : Inv G (gh0 W) ⟨[], []⟩ W := by
  refine ⟨Nat.le_refl _, fun _ _ _ h => by simp [gh0] at h, fun t row n b cap h _ => by simp [gh0] at h, fun _ _ _ h => h, h.ok, rfl, List.nodup_nil, fun i b cs hb _ => ?_, fun b o hb => ?_, rfl, fun t row f hr _ => ?_, fun t row f hr _ => ?_, fun t t' b hf _ => ?_⟩
  · simp [gh0] at hb
  · simp [gh0] at hb
  · simp [gh0] at hr
  · simp [gh0] at hr
  · obtain ⟨row, f, cap, hr, _⟩ := hf
    simp [gh0] at hr

theorem owned0 {W : World} {b : Nat} (h : Owned (gh0 W) ⟨[], []⟩ b) : False := by
  rcases h with h | ⟨t, row, f, cap, hr, _⟩
  · simp [gh0] at h
  · simp [gh0] at hr

theorem invS0 {G : Nat → Option (List PD)} {W : World} (h : GlobOk G W) : InvS W G (gh0 W) ⟨[], []⟩ W :=
  ⟨inv0 h, rfl, Below.refl _ W, fun _ h => (owned0 h).elim⟩

theorem below_frame {W W' : World} {γ' : Gh} {H' : Hp} (F : Frame (gh0 W) ⟨[], []⟩ W γ' H' W') : Below W.heap.size W W' :=
  ⟨F.os, F.tape, F.output, F.size, fun k hk => (F.blk k hk owned0).1 hk⟩

/-- A law that the evaluator finds true. -/
theorem law_calls {p : Pg} {W : World} (h : PgOk P W p) {f : Nat} {ds : List D} {H' : Hp} (hc : call p f ds ⟨[], []⟩ = some (.val (.p (.bool true)), H')) {args : Array Value} (hg : GlobOk p.G W) (hr : RepL (gh0 W) args ds) :
    Calls P f args W fun e W' => e = .returned (.bool true) ∧ Below W.heap.size W W' := by
  obtain ⟨_, m⟩ := call_sound h f ds ⟨[], []⟩ _ _ hc
  refine (m (gh0 W) W args (invS0 hg) hr).mono ?_
  rintro e W' ⟨γ', L, F, J, v, rfl, hv⟩
  rw [hv.p_inv.bool_inv]
  exact ⟨rfl, below_frame F⟩

section
variable {H : Type} {enc : TypeId × Value → H}

theorem trodAll_below (hl : laidOutB P = true) {W W' : World} (B : Below W.heap.size W W') : ∀ {ts : List TypeId} {vs : List Value} {ds : List (DataW H)} {ps : List MemPlace}, (∀ t ∈ ts, P.readableRec t = true ∧ t < P.types.size) →
    DataW.TrodAll enc P W 0 (fun _ => true) true ts vs ds ps → (∀ x ∈ ps, x.block < W.heap.size) → DataW.TrodAll enc P W' 0 (fun b => decide (b < W.heap.size)) true ts vs ds ps
  | [], [], [], _, _, h, _ => h
  | t :: ts, v :: vs, d :: ds, ps, ht, ⟨p, q, h1, h2, e⟩, hlt => by
    subst e
    exact ⟨p, q, Below.trod hl (ht t (by simp)).1 (ht t (by simp)).2 h1 B fun x hx => hlt x (by simp [hx]), trodAll_below hl B (fun u hu => ht u (by simp [hu])) h2 fun x hx => hlt x (by simp [hx]), rfl⟩
  | [], [], _ :: _, _, _, h, _ => h.elim
  | [], _ :: _, _, _, _, h, _ => by cases h
  | _ :: _, [], _, _, _, h, _ => by cases h
  | _ :: _, _ :: _, [], _, _, h, _ => by cases h

/-- The promise of a law's row: it returns true, and each argument reads as it did. -/
theorem post_law {fn : Func} {s : ChangeSpec} {apart fresh handsOn : Bool} {W W' : World} {args : Array Value} {ds : List (DataW H)} {before : List MemPlace} {tb : TypeId} (hl : laidOutB P = true)
    (hts : ∀ t ∈ fn.params.toList, P.readableRec t = true ∧ t < P.types.size) (hv : s.vars = []) (hW : DataW.Whole enc P fn.params.toList s.vars apart W args.toList ds [] before) (hr : fn.resultTypes = #[tb]) (hb : P.underlying tb = some .bool)
    (hs : s.fn H (ds ++ []) = { results := [.lit (.bool true)], args := ds }) (B : Below W.heap.size W W') : s.post enc P fn apart fresh handsOn false W args (.bool true) W' := by
  have hlt := hW.lt
  obtain ⟨p, q, hA, hV, he, hz, hn⟩ := hW
  have hq : q = [] := by rw [hv] at hV; exact hV
  refine ⟨ds, [], before, [], p, [], ⟨p, q, hA, hV, he, hz, hn⟩, ?_, ?_, ?_, ?_, fun h => by cases h⟩
  · rw [hs, hr]
    exact trodAll_mk1 (shut_bool hb true)
  · rw [hs]
    refine trodAll_below hl B hts hA fun x hx => by simpa using hlt x (by rw [he]; simp [hx])
  · rw [hs, hv]; rfl
  · refine World.keptBut_mono (fun x hx => ?_) (B.frame (fun _ => False))
    cases hx

end

/-! The arguments. -/
theorem rep_string (W : World) (s : ByteArray) : RepD (gh0 W) (.string s) (.p (.str s.data.toList)) := by
  refine .p _ _ ?_
  have : s = ⟨s.data.toList.toArray⟩ := by simp
  rw [this]
  exact .str _

theorem repL1 {γ : Gh} {v : Value} {d : D} (h : RepD γ v d) : RepL γ #[v] [d] := ⟨rfl, fun i x hx => by
  match i with
  | 0 => simp only [List.getElem?_cons_zero, Option.some.injEq] at hx; subst hx; exact h
  | i + 1 => simp at hx⟩

theorem repL2 {γ : Gh} {v u : Value} {d e : D} (h : RepD γ v d) (k : RepD γ u e) : RepL γ #[v, u] [d, e] := ⟨rfl, fun i x hx => by
  match i with
  | 0 => simp only [List.getElem?_cons_zero, Option.some.injEq] at hx; subst hx; exact h
  | 1 => simp only [List.getElem?_cons_succ, List.getElem?_cons_zero, Option.some.injEq] at hx; subst hx; exact k
  | i + 2 => simp at hx⟩

/-- A slice of integers, as the evaluator's datum. -/
theorem rep_ints {H : Type} {enc : TypeId × Value → H} {t e : TypeId} {k : IntKind} (ht : P.underlying t = some (.slice e)) (he : P.underlying e = some (.int k)) (hc : P.cellsOf e = 1) {W : World} {r : Reach} {b0 : Nat} {v : Value} {d : DataW H} {ps : List MemPlace}
    (hval : Value.okWide P W r b0 t v) (hd : DataW.Trod enc P W 0 (fun _ => true) true t v d ps) :
    ∃ x : PD, RepD (gh0 W) v (.p x) ∧ (x = .nils ∨ ∃ zs : List Int, x = .slice 1 (zs.map (PD.int k)) ∧ ∀ n ∈ zs, (Lit.int k n).wf = true) := by
  obtain ⟨a0, n0, c0, rfl⟩ := okWide_slice ht hval
  obtain ⟨fuel, hf⟩ := hd
  rcases open_ints ht he hc hf with ⟨h1, _⟩ | ⟨a, len, cap, zs, h1, _, hlc, _, hlen, _, hcell, hwf⟩
  · simp [Value.cells] at h1
    obtain ⟨rfl, rfl, rfl⟩ := h1
    exact ⟨.nils, .p _ _ .nils, .inl rfl⟩
  · simp [Value.cells] at h1
    obtain ⟨rfl, rfl, rfl⟩ := h1
    simp only [if_true] at hlen
    refine ⟨.slice 1 ((zs.take n0).map (PD.int k)), .p _ _ ?_, .inr ⟨zs.take n0, rfl, fun n hn => hwf n (List.mem_of_mem_take hn)⟩⟩
    by_cases hn : n0 = 0
    · subst hn
      simpa using RepP.sl0 (m := (gh0 W).mem) (some a) c0 1
    · have hl : ((zs.take n0).map (PD.int k)).length = n0 := by simp; omega
      have h0 := hcell 0 (by omega)
      obtain ⟨b, o, sp⟩ := a
      have hsp : sp = none := by
        cases sp with
        | none => rfl
        | some q =>
          exfalso
          unfold World.cell? Addr.add at h0
          split at h0
          · simp at h0
          · cases h0
      subst hsp
      have := RepP.sl (m := (gh0 W).mem) b o c0 1 ((zs.take n0).map (PD.int k)) (fun i _ => .int k (zs.getD i 0)) (by omega) (fun e he => by
        obtain ⟨n, _, rfl⟩ := List.mem_map.1 he; rfl) (fun e he c hc => by
        obtain ⟨n, _, rfl⟩ := List.mem_map.1 he
        simp only [PD.cells, List.mem_singleton] at hc; subst hc; rfl) (fun i j hi hj => by
        have hj0 : j = 0 := by omega
        subst hj0
        have := hcell i (by simp at hi; omega)
        simp only [Addr.add_lit] at this
        simpa [gh0] using this) (fun i e j c hi hj => by
        simp only [List.getElem?_map, Option.map_eq_some_iff] at hi
        obtain ⟨n, hn, rfl⟩ := hi
        obtain ⟨h1, h2⟩ := take_get hn
        match j with
        | 0 =>
          simp only [PD.cells, List.getElem?_cons_zero, Option.some.injEq] at hj
          subst hj
          have : zs.getD i 0 = n := by simp [List.getD_eq_getElem?_getD, h2]
          rw [this]; exact .int k n
        | j + 1 => simp [PD.cells] at hj)
      rw [hl] at this
      exact this

end Go.Vs

/-! The evaluator, step by step: lengths and elements of known data. -/
namespace Go.Vs

theorem lenD_str (s : List UInt8) : lenD 0 (.p (.str s)) = some s.length := rfl
theorem lenD_nils : lenD 1 (.p .nils) = some 0 := rfl
theorem lenD_sl (sz : Nat) (es : List PD) : lenD 1 (.p (.slice sz es)) = some es.length := rfl
theorem lenD_fsl (e0 sz : Nat) (es : List PD) : lenD 1 (.fsl e0 sz es) = some es.length := rfl
theorem lenD_tsl (t e sz : Nat) (es : List PD) : lenD 1 (.tsl t e sz es) = some es.length := rfl

theorem iaddr_sl {sz : Nat} {es : List PD} {k : Nat} (h : k < es.length) : iaddrD none sz (.p (.slice sz es)) (k : Int) = some (.ro (es[k]).cells 0) := by
  simp [iaddrD, D.elems?, h]
theorem iaddr_fsl {e0 sz : Nat} {es : List PD} {k : Nat} (h : k < es.length) : iaddrD none sz (.fsl e0 sz es) (k : Int) = some (.ro (es[k]).cells 0) := by
  simp [iaddrD, D.elems?, h]
theorem iaddr_tsl {t e sz : Nat} {es : List PD} {k : Nat} (h : k < es.length) : iaddrD none sz (.tsl t e sz es) (k : Int) = some (.ro (es[k]).cells 0) := by
  simp [iaddrD, D.elems?, h]

theorem u8_range {n : Int} (h : (Lit.int .u8 n).wf = true) : 0 ≤ n ∧ n < 256 := by
  simp [Lit.wf, IntKind.min, IntKind.max, IntKind.bits, IntKind.signed] at h
  omega

theorem repL_nil {γ : Gh} : RepL γ #[] [] := ⟨rfl, fun i x hx => by simp at hx⟩
theorem repL_cons {γ : Gh} {v : Value} {d : D} {vs : List Value} {ds : List D} (h : RepD γ v d) (k : RepL γ ⟨vs⟩ ds) : RepL γ ⟨v :: vs⟩ (d :: ds) := by
  refine ⟨by have := k.1; simpa using this, fun i x hx => ?_⟩
  match i with
  | 0 => simp only [List.getElem?_cons_zero, Option.some.injEq] at hx; subst hx; exact h
  | i + 1 => simpa using k.2 i x (by simpa using hx)

end Go.Vs

/-! Slices of plain data; functions that programs share: equality of slices. -/
namespace Go.Vs

inductive Sl (α : Type) where
  | nil
  | amb
  | of (l : List α)

def Sl.map {α β : Type} (f : α → β) : Sl α → Sl β
  | .nil => .nil
  | .amb => .amb
  | .of l => .of (l.map f)

def slP (sz : Nat) : Sl PD → PD
  | .nil => .nils
  | .amb => .slice sz []
  | .of [] => .emp sz
  | .of (e :: es) => .slice sz (e :: es)

def els {α : Type} : Sl α → List α
  | .of l => l
  | _ => []

theorem els_map {α β : Type} (f : α → β) (o : Sl α) : els (o.map f) = (els o).map f := by cases o <;> rfl

theorem len_slP (sz : Nat) (o : Sl PD) : lenD 1 (.p (slP sz o)) = some (els o).length := by
  match o with
  | .nil => rfl
  | .amb => rfl
  | .of [] => rfl
  | .of (e :: es) => rfl

theorem ia_slP {sz : Nat} {o : Sl PD} {k : Nat} (h : k < (els o).length) : iaddrD none sz (.p (slP sz o)) (k : Int) = some (.ro ((els o)[k]).cells 0) := by
  match o with
  | .nil => simp [els] at h
  | .amb => simp [els] at h
  | .of [] => simp [els] at h
  | .of (e :: es) =>
    have h' : k < (e :: es).length := h
    simp only [slP, iaddrD, D.elems?, els]
    simp [List.getElem?_eq_getElem h']

theorem len_map {α : Type} (sz : Nat) (f : α → PD) (o : Sl α) : lenD 1 (.p (slP sz (o.map f))) = some (els o).length := by
  rw [len_slP, els_map, List.length_map]

theorem ia_map {α : Type} {sz : Nat} {f : α → PD} {o : Sl α} {k : Nat} (h : k < (els o).length) : iaddrD none sz (.p (slP sz (o.map f))) (k : Int) = some (.ro (f (els o)[k]).cells 0) := by
  have h' : k < (els (o.map f)).length := by rw [els_map, List.length_map]; exact h
  rw [ia_slP h']
  simp [els_map]

theorem one_slP (sz : Nat) (o : Sl PD) : (D.p (slP sz o)).one = true := by
  match o with
  | .nil => rfl
  | .amb => rfl
  | .of [] => rfl
  | .of (_ :: _) => rfl

theorem pone_slP (sz : Nat) (o : Sl PD) : (slP sz o).one = true := by
  match o with
  | .nil => rfl
  | .amb => rfl
  | .of [] => rfl
  | .of (_ :: _) => rfl

@[simp] theorem one_int (k : IntKind) (n : Int) : (D.p (.int k n)).one = true := rfl
@[simp] theorem one_bool (b : Bool) : (D.p (.bool b)).one = true := rfl
@[simp] theorem one_str (s : List UInt8) : (D.p (.str s)).one = true := rfl
@[simp] theorem one_slice (sz : Nat) (es : List PD) : (D.p (.slice sz es)).one = true := rfl
@[simp] theorem pone_slice (sz : Nat) (es : List PD) : (PD.slice sz es).one = true := rfl
@[simp] theorem one_nils : (D.p .nils).one = true := rfl
@[simp] theorem one_nilp : (D.p .nilp).one = true := rfl
@[simp] theorem one_box (i o : Nat) : (D.box i o).one = true := rfl
@[simp] theorem one_mapr (i : Nat) : (D.mapr i).one = true := rfl
@[simp] theorem one_tsl (t e sz : Nat) (es : List PD) : (D.tsl t e sz es).one = true := rfl
@[simp] theorem one_fsl (e sz : Nat) (es : List PD) : (D.fsl e sz es).one = true := rfl
@[simp] theorem one_msl (i o n : Nat) (c : Option Nat) (sz : Nat) : (D.msl i o n c sz).one = true := rfl
@[simp] theorem pone_int (k : IntKind) (n : Int) : (PD.int k n).one = true := rfl
@[simp] theorem pone_str (s : List UInt8) : (PD.str s).one = true := rfl
@[simp] theorem pone_bool (b : Bool) : (PD.bool b).one = true := rfl
@[simp] theorem pone_nils : PD.nils.one = true := rfl

theorem cells_agg (cs : List PD) : (PD.agg cs).cells = cs := rfl

theorem pures_p : ∀ l : List PD, pures (l.map D.p) = some l
  | [] => rfl
  | x :: l => by simp [pures, pures_p l]

theorem mkAgg_p (l : List PD) : mkAgg (l.map D.p) = .p (.agg l) := by simp [mkAgg, pures_p]

theorem isMapC_p (l : List PD) : isMapC (l.map D.p) = false := by
  match l with
  | [] => rfl
  | [x] => rfl
  | x :: y :: r => rfl

@[simp] theorem renL_p (f g : Nat → Option Nat) : ∀ l : List PD, D.renL f g (l.map D.p) = some (l.map D.p)
  | [] => rfl
  | x :: l => by simp [D.renL, D.ren, renL_p f g l]

@[simp] theorem refsL_p : ∀ l : List PD, D.refsL (l.map D.p) = []
  | [] => rfl
  | x :: l => by simp [D.refsL, D.refs, refsL_p l]

@[simp] theorem toksL_p : ∀ l : List PD, D.toksL (l.map D.p) = []
  | [] => rfl
  | x :: l => by simp [D.toksL, D.toks, toksL_p l]

theorem sub_all {α : Type} (l : List α) : sub l 0 l.length = l := by simp [sub]

theorem load_ro {G : Nat → Option (List PD)} {H : Hp} {cs : List PD} {n : Nat} (h : cs.length = n) : loadD G H (some n) (.ro cs 0) = some (.p (.agg cs)) := by
  subst h
  simp [loadD, cutAt, sub_all]

theorem load_box {G : Nat → Option (List PD)} {H : Hp} {i : Nat} {cs : List PD} {n : Nat} (hb : H.bx[i]? = some (cs.map D.p)) (h : cs.length = n) : loadD G H (some n) (.box i 0) = some (.p (.agg cs)) := by
  subst h
  have := sub_all (cs.map D.p)
  rw [List.length_map] at this
  simp [loadD, hb, isMapC_p, cutAt, this, mkAgg_p]

theorem store_box {H : Hp} {i : Nat} {zs : List PD} {cs : List PD} {n : Nat} (hb : H.bx[i]? = some (zs.map D.p)) (h1 : zs.length = n) (h2 : cs.length = n) (h0 : 0 < n) (ho : ∀ c ∈ cs, c.one = true) :
    storeD H n (.box i 0) (.p (.agg cs)) = some { H with bx := H.bx.set i (cs.map D.p) } := by
  have hc : (D.p (.agg cs)).cells = cs.map D.p := rfl
  have ha : (cs.map D.p).all D.one = true := by
    rw [List.all_eq_true]
    intro d hd
    obtain ⟨c, hc, rfl⟩ := List.mem_map.1 hd
    exact ho c hc
  simp only [storeD, hb, hc, isMapC_p, List.length_map, ha]
  rw [if_pos ⟨trivial, h2, trivial, by omega, h0⟩]
  have hd : (zs.map D.p).drop (0 + (cs.map D.p).length) = [] := List.drop_eq_nil_of_le (by simp; omega)
  simp only [splice, hd, List.take_zero, List.nil_append, List.append_nil]

theorem beq_nat (a b : Nat) : ((a : Int) == (b : Int)) = (a == b) := by rw [Bool.eq_iff_iff]; simp; omega
theorem bne_nat (a b : Nat) : ((a : Int) != (b : Int)) = (a != b) := by simp only [bne, beq_nat]
theorem dlt_nat (a b : Nat) : ((a : Int) < (b : Int)) = (a < b) := by simp
theorem inc64 {k : Nat} (h : k < 4611686018427387904) : IntKind.i64.wrap ((k : Int) + 1) = ((k + 1 : Nat) : Int) := by rw [wrap64 (by omega) (by omega)]; rfl

/-! slices.EqualFunc, with arguments that are copied into variables. -/
def eqfB (sz : Nat) (zs : List PD) : SC :=
    (.loc
      (.seq
        (.region [1, 2, 15, 16, 17, 18] [
            ⟨some 18, .bin .lss (.t 17) (.t 16), none⟩])
        (.seq
          (.cond (.t 18)
            .skip
            (.exit 0))
          (.seq
            (.block 1
              (.seq
                (.region [1, 2, 7, 8, 15, 16, 17] [
                    ⟨some 19, .move (.t 17), none⟩,
                    ⟨some 20, .iaddr none sz (.t 15) (.t 17), none⟩,
                    ⟨some 21, .load (some sz) (.t 20), none⟩,
                    ⟨some 8, .alloc zs, none⟩,
                    ⟨some 7, .move (.t 19), none⟩,
                    ⟨none, .store sz (.t 8) (.t 21), none⟩])
                (.seq
                  (.region [1, 2, 8, 9, 15, 16, 17] [
                      ⟨some 22, .move (.t 1), none⟩,
                      ⟨some 23, .move (.t 7), none⟩,
                      ⟨some 24, .iaddr none sz (.t 22) (.t 23), none⟩,
                      ⟨some 25, .load (some sz) (.t 24), none⟩,
                      ⟨some 9, .alloc zs, none⟩,
                      ⟨none, .store sz (.t 9) (.t 25), none⟩])
                  (.seq
                    (.region [1, 2, 15, 16, 17, 30] [
                        ⟨some 26, .move (.t 2), none⟩,
                        ⟨some 27, .load (some sz) (.t 8), none⟩,
                        ⟨some 28, .load (some sz) (.t 9), none⟩,
                        ⟨some 29, .call (.t 26) [(.t 27), (.t 28)], none⟩,
                        ⟨some 30, .un .not (.t 29), none⟩])
                    (.cond (.t 30)
                      (.seq
                        (.region [6] [
                            ⟨some 6, .move (.c (.p (.bool false))), none⟩])
                        .ret)
                      .skip)))))
            (.region [1, 2, 15, 16, 17] [
                ⟨some 31, .bin .add (.t 17) (.c (.p (.int .i64 1))), none⟩,
                ⟨some 17, .move (.t 31), none⟩])))))

def eqfC (sz : Nat) (zs : List PD) : FC where
  nt := 32
  np := 3
  res := [.t 6]
  body :=
    (.seq
      (.region [0, 1, 2] [
          ⟨some 6, .move (.c (.p (.bool false))), none⟩])
      (.seq
        (.seq
          (.region [0, 1, 2, 14] [
              ⟨some 10, .move (.t 0), none⟩,
              ⟨some 11, .len 1 (.t 10), none⟩,
              ⟨some 12, .move (.t 1), none⟩,
              ⟨some 13, .len 1 (.t 12), none⟩,
              ⟨some 14, .bin .neq (.t 11) (.t 13), none⟩])
          (.cond (.t 14)
            (.seq
              (.region [6] [
                  ⟨some 6, .move (.c (.p (.bool false))), none⟩])
              .ret)
            .skip))
        (.seq
          (.seq
            (.region [1, 2, 15, 16, 17] [
                ⟨some 15, .move (.t 0), none⟩,
                ⟨some 16, .len 1 (.t 15), none⟩,
                ⟨some 17, .move (.c (.p (.int .i64 0))), none⟩])
            (.block 0
              (.loop [1, 2, 15, 16, 17]
                (eqfB sz zs))))
          (.seq
            (.region [6] [
                ⟨some 6, .move (.c (.p (.bool true))), none⟩])
            .ret))))

def eqAll {α β : Type} (r : α → β → Bool) : List α → List β → Bool
  | [], [] => true
  | a :: x, b :: y => r a b && eqAll r x y
  | _, _ => false

theorem eqAll_drop {α β : Type} {r : α → β → Bool} {a : List α} {b : List β} {k : Nat} (ha : k < a.length) (hb : k < b.length) : eqAll r (a.drop k) (b.drop k) = (r a[k] b[k] && eqAll r (a.drop (k + 1)) (b.drop (k + 1))) := by
  rw [List.drop_eq_getElem_cons ha, List.drop_eq_getElem_cons hb]; rfl

theorem eqAll_len {α β : Type} {r : α → β → Bool} : ∀ {a : List α} {b : List β}, eqAll r a b = true → a.length = b.length
  | [], [], _ => rfl
  | _ :: _, _ :: _, h => by simp only [eqAll, Bool.and_eq_true] at h; simp [eqAll_len h.2]
  | [], _ :: _, h => by cases h
  | _ :: _, [], h => by cases h

/-- Structs of this many cells. -/
def Rec (n : Nat) (x : PD) : Prop := ∃ cs, x = .agg cs ∧ cs.length = n ∧ ∀ c ∈ cs, c.one = true

section
variable {c : CallR} {G : Nat → Option (List PD)} {sz : Nat} {zs : List PD} {g : Nat} {α : Type} {f : α → PD} {a b : Sl α} {r : α → α → Bool}
  (hz : zs.length = sz) (h0 : 0 < sz) (hzo : zs.all PD.one = true) (ha : ∀ x ∈ els a, Rec sz (f x)) (hb : ∀ x ∈ els b, Rec sz (f x))
  (hc : ∀ (k : Nat) (h1 : k < (els a).length) (h2 : k < (els b).length) H, callD c g [.p (f (els a)[k]), .p (f (els b)[k])] H = some (.val (.p (.bool (r (els a)[k] (els b)[k]))), H))
  (hl : (els a).length = (els b).length) (hn : (els a).length ≤ 4611686018427387904)
include hz h0 hzo ha hb hc hl hn

theorem eqf_loop : ∀ (n k : Nat), k ≤ (els a).length → (els a).length - k ≤ n →
    ∃ env, loopK c G [1, 2, 15, 16, 17] (eqfB sz zs) ⟨[(1, .p (slP sz (b.map f))), (2, .fn g [] []), (15, .p (slP sz (a.map f))), (16, .p (.int .i64 (els a).length)), (17, .p (.int .i64 k))], ⟨[], []⟩⟩ =
      some (if eqAll r ((els a).drop k) ((els b).drop k) then (.exit 0, ⟨env, ⟨[], []⟩⟩) else (.ret, ⟨[(6, .p (.bool false))], ⟨[], []⟩⟩)) := by
  intro n
  induction n with
  | zero =>
    intro k hk hn'
    have : k = (els a).length := by omega
    refine ⟨[(1, .p (slP sz (b.map f))), (2, .fn g [] []), (15, .p (slP sz (a.map f))), (16, .p (.int .i64 (els a).length)), (17, .p (.int .i64 k)), (18, .p (.bool false))], ?_⟩
    rw [List.drop_eq_nil_of_le (by omega), List.drop_eq_nil_of_le (by omega)]
    refine loopK_out (o := .exit 0) ?_ (by simp)
    simp [eqfB, evKC, evK, put, Env.get, Env.keep, Opd.ev, binD, mapO, D.renL, D.ren, locD, Out.ren, List.map, this]
  | succ n ih =>
    intro k hk hn'
    by_cases he : k = (els a).length
    · refine ⟨[(1, .p (slP sz (b.map f))), (2, .fn g [] []), (15, .p (slP sz (a.map f))), (16, .p (.int .i64 (els a).length)), (17, .p (.int .i64 k)), (18, .p (.bool false))], ?_⟩
      rw [List.drop_eq_nil_of_le (by omega), List.drop_eq_nil_of_le (by omega)]
      refine loopK_out (o := .exit 0) ?_ (by simp)
      simp [eqfB, evKC, evK, put, Env.get, Env.keep, Opd.ev, binD, mapO, D.renL, D.ren, locD, Out.ren, List.map, he]
    · have hka : k < (els a).length := by omega
      have hkb : k < (els b).length := by omega
      have hlt' : (k : Int) < ((els a).length : Int) := by omega
      have hia := ia_map (sz := sz) (f := f) hka
      have hib := ia_map (sz := sz) (f := f) hkb
      have hcall := hc k hka hkb
      obtain ⟨env, he⟩ := ih (k + 1) (by omega) (by omega)
      refine ⟨env, ?_⟩
      rw [eqAll_drop hka hkb]
      obtain ⟨ca, ea, la, oa⟩ := ha _ (List.getElem_mem hka)
      obtain ⟨cb, eb, lb, ob⟩ := hb _ (List.getElem_mem hkb)
      generalize (els a)[k] = x at *
      generalize (els b)[k] = y at *
      rw [ea] at hia hcall
      rw [eb] at hib hcall
      rw [cells_agg] at hia hib
      have hk1 := inc64 (k := k) (by omega)
      have l1 := fun (H : Hp) => load_ro (G := G) (H := H) la
      have l2 := fun (H : Hp) => load_ro (G := G) (H := H) lb
      have s1 : storeD ⟨[zs.map D.p], []⟩ sz (.box 0 0) (.p (.agg ca)) = some ⟨[ca.map D.p], []⟩ := store_box (H := ⟨[zs.map D.p], []⟩) rfl hz la h0 oa
      have s2 : storeD ⟨[ca.map D.p, zs.map D.p], []⟩ sz (.box 1 0) (.p (.agg cb)) = some ⟨[ca.map D.p, cb.map D.p], []⟩ := store_box (H := ⟨[ca.map D.p, zs.map D.p], []⟩) (i := 1) rfl hz lb h0 ob
      have l3 : loadD G ⟨[ca.map D.p, cb.map D.p], []⟩ (some sz) (.box 0 0) = some (.p (.agg ca)) := load_box rfl la
      have l4 : loadD G ⟨[ca.map D.p, cb.map D.p], []⟩ (some sz) (.box 1 0) = some (.p (.agg cb)) := load_box rfl lb
      have hzo' : (zs.all PD.one) = true := hzo
      cases hr : r x y with
      | true =>
        rw [hr] at hcall
        rw [Bool.true_and, ← he]
        refine loopK_norm ?_
        simp [eqfB, evKC, evK, put, Env.get, Env.keep, Opd.ev, D.asInt?, binD, unD, mapO, D.renL, D.ren, locD, Out.ren, List.map, hlt', hia, hib, l1, l2, l3, l4, s1, s2, hzo', hcall, hk1]
      | false =>
        rw [hr] at hcall
        rw [Bool.false_and]
        refine loopK_out (o := .ret) ?_ (by simp)
        simp [eqfB, evKC, evK, put, Env.get, Env.keep, Opd.ev, D.asInt?, binD, unD, mapO, D.ren, locD, Out.ren, List.map, hlt', hia, hib, l1, l2, l3, l4, s1, s2, hzo', hcall]
end

theorem eqf_eq {α : Type} {f : α → PD} {p : Pg} {fi g sz : Nat} {zs : List PD} {a b : Sl α} {r : α → α → Bool} (hL : p.lib fi [.p (slP sz (a.map f)), .p (slP sz (b.map f)), .fn g [] []] ⟨[], []⟩ = none) (hF : p.F fi = some (eqfC sz zs))
    (hz : zs.length = sz) (h0 : 0 < sz) (hzo : zs.all PD.one = true) (ha : ∀ x ∈ els a, Rec sz (f x)) (hb : ∀ x ∈ els b, Rec sz (f x))
    (hc : ∀ (k : Nat) (h1 : k < (els a).length) (h2 : k < (els b).length) H, callD (call p) g [.p (f (els a)[k]), .p (f (els b)[k])] H = some (.val (.p (.bool (r (els a)[k] (els b)[k]))), H))
    (hn : (els a).length ≤ 4611686018427387904) : call p fi [.p (slP sz (a.map f)), .p (slP sz (b.map f)), .fn g [] []] ⟨[], []⟩ = some (.val (.p (.bool (eqAll r (els a) (els b)))), ⟨[], []⟩) := by
  refine call_body (fc := eqfC sz zs) hL hF rfl rfl ?_
  by_cases hl : (els a).length = (els b).length
  · have hne : (((els a).length : Int) != ((els b).length : Int)) = false := by rw [bne_nat]; simp [hl]
    obtain ⟨env, he⟩ := eqf_loop (G := p.G) hz h0 hzo ha hb hc hl hn (els a).length 0 (by omega) (by omega)
    rw [List.drop_zero, List.drop_zero] at he
    simp only [Int.natCast_zero] at he
    cases hr : eqAll r (els a) (els b) with
    | true =>
      rw [hr] at he
      simp [eqfC, evKC, evK, put, Env.get, Env.keep, entry, Opd.ev, binD, finish, evRes, evRes1, len_map, hne, he]
    | false =>
      rw [hr] at he
      simp [eqfC, evKC, evK, put, Env.get, Env.keep, entry, Opd.ev, binD, finish, evRes, evRes1, len_map, hne, he]
  · have hne : (((els a).length : Int) != ((els b).length : Int)) = true := by rw [bne_nat]; simp [hl]
    have hr : eqAll r (els a) (els b) = false := by
      cases h : eqAll r (els a) (els b) with
      | false => rfl
      | true => exact absurd (eqAll_len h) hl
    simp [eqfC, evKC, evK, put, Env.get, Env.keep, entry, Opd.ev, binD, finish, evRes, evRes1, len_map, hne, hr]

end Go.Vs

/-! Trees as the evaluator's data; printer.EqualNodes, Count, Small. -/
namespace Go.Proofs.YtalgjkpkkdljaaaDoor
open Go.Vs

def i64 (n : Int) : Prop := -9223372036854775808 ≤ n ∧ n ≤ 9223372036854775807

/-- A list that is nil, or empty, or the one or the other. -/
def ndSl {α : Type} : Nat → List α → Sl α
  | 0, [] => .nil
  | 1, [] => .amb
  | _, l => .of l

theorem els_ndSl {α : Type} (c : Nat) (l : List α) : els (ndSl c l) = l := by
  unfold ndSl; split <;> rfl

theorem map_ndSl {α β : Type} (f : α → β) (c : Nat) (l : List α) : (ndSl c l).map f = ndSl c (l.map f) := by
  cases l with
  | nil => match c with
    | 0 => rfl
    | 1 => rfl
    | c + 2 => rfl
  | cons x l => match c with
    | 0 => rfl
    | 1 => rfl
    | c + 2 => rfl

/-- A tree: operator, name, number, kids, offset. -/
inductive Nd where
  | mk (op : Int) (nm : List UInt8) (n : Int) (c : Nat) (ks : List Nd) (pos : Int)

def Nd.op : Nd → Int | .mk op _ _ _ _ _ => op
def Nd.nm : Nd → List UInt8 | .mk _ nm _ _ _ _ => nm
def Nd.n : Nd → Int | .mk _ _ n _ _ _ => n
def Nd.c : Nd → Nat | .mk _ _ _ c _ _ => c
def Nd.ks : Nd → List Nd | .mk _ _ _ _ ks _ => ks
def Nd.pos : Nd → Int | .mk _ _ _ _ _ pos => pos

mutual
def Nd.pd : Nd → PD
  | .mk op nm n c ks pos => .agg [.int .i64 op, .str nm, .int .i64 n, slP 5 (ndSl c (Nd.pdL ks)), .int .i64 pos]
def Nd.pdL : List Nd → List PD
  | [] => []
  | k :: ks => k.pd :: Nd.pdL ks
end

theorem pdL_map : ∀ ks : List Nd, Nd.pdL ks = ks.map Nd.pd
  | [] => rfl
  | k :: ks => by simp [Nd.pdL, pdL_map ks]

/-- The kids, as they lie. -/
def Nd.kidsP (a : Nd) : PD := slP 5 ((ndSl a.c a.ks).map Nd.pd)

def Nd.cells (a : Nd) : List PD := [.int .i64 a.op, .str a.nm, .int .i64 a.n, a.kidsP, .int .i64 a.pos]

theorem pd_cells (a : Nd) : a.pd = .agg a.cells := by
  cases a with
  | mk op nm n c ks pos => simp only [Nd.pd, Nd.cells, Nd.op, Nd.nm, Nd.n, Nd.kidsP, Nd.c, Nd.ks, Nd.pos, pdL_map, map_ndSl]

@[simp] theorem one_kids (a : Nd) : (D.p a.kidsP).one = true := one_slP ..
@[simp] theorem pone_kids (a : Nd) : a.kidsP.one = true := pone_slP ..

theorem rec_nd (a : Nd) : Rec 5 a.pd := ⟨a.cells, pd_cells a, rfl, fun c hc => by
  simp only [Nd.cells, List.mem_cons, List.not_mem_nil, or_false] at hc
  rcases hc with rfl | rfl | rfl | rfl | rfl <;> first | rfl | exact pone_kids a⟩

mutual
def Nd.size : Nd → Nat
  | .mk _ _ _ _ ks _ => 1 + Nd.sizeL ks
def Nd.sizeL : List Nd → Nat
  | [] => 0
  | k :: ks => k.size + Nd.sizeL ks
end

theorem size_eq (a : Nd) : a.size = 1 + Nd.sizeL a.ks := by cases a; rfl

theorem size_mem : ∀ {ks : List Nd} {k : Nd}, k ∈ ks → k.size ≤ Nd.sizeL ks
  | x :: ks, k, h => by
    simp only [Nd.sizeL]
    rcases List.mem_cons.1 h with rfl | h
    · omega
    · have := size_mem h; omega

theorem size_kid {a k : Nd} (h : k ∈ a.ks) : k.size < a.size := by
  have := size_mem h
  rw [size_eq a]; omega

theorem len_sizeL : ∀ ks : List Nd, ks.length ≤ Nd.sizeL ks
  | [] => Nat.le_refl _
  | k :: ks => by
    have := len_sizeL ks
    have := size_eq k
    simp only [Nd.sizeL, List.length_cons]; omega

/-! Equality, offsets aside. -/
mutual
def eqN : Nd → Nd → Bool
  | .mk op nm n _ ks _, .mk op' nm' n' _ ks' _ => (op == op' && nm == nm' && n == n') && eqNL ks ks'
def eqNL : List Nd → List Nd → Bool
  | [], [] => true
  | a :: x, b :: y => eqN a b && eqNL x y
  | _, _ => false
end

theorem eqNL_all : ∀ x y : List Nd, eqNL x y = eqAll eqN x y
  | [], [] => by simp [eqNL, eqAll]
  | a :: x, b :: y => by simp [eqNL, eqAll, eqNL_all x y]
  | [], _ :: _ => by simp [eqNL, eqAll]
  | _ :: _, [] => by simp [eqNL, eqAll]

theorem eqN_eq (a b : Nd) : eqN a b = ((a.op == b.op && a.nm == b.nm && a.n == b.n) && eqAll eqN a.ks b.ks) := by
  cases a; cases b
  simp only [eqN, Nd.op, Nd.nm, Nd.n, Nd.ks, eqNL_all]

/-- Trees whose lists are not too long. -/
def Bd (n : Nat) (a : Nd) : Prop := a.size ≤ n

theorem callD_any {f : Nat} {args : List D} {d d' : D} (h : ∃ Hl, call pg f args ⟨[], []⟩ = some (.val d, Hl)) (hr : D.refsL args = []) (ht : D.toksL args = []) (ha : D.renL (idx []) (idx []) args = some args)
    (hd : d.ren (fun _ => none) (fun _ => none) = some d') (H : Hp) : callD (call pg) f args H = some (.val d', H) := by
  obtain ⟨Hl, h⟩ := h
  exact callD_pure h hr ht ha hd

theorem equalNodes0 : ∀ (s : Nat) (a b : Nd), a.size ≤ s → s ≤ 1000000000 → ∃ H', call pg 9 [.p a.pd, .p b.pd] ⟨[], []⟩ = some (.val (.p (.bool (eqN a b))), H') := by
  intro s
  induction s with
  | zero => intro a b h; have := size_eq a; omega
  | succ s ih =>
    intro a b hs hB
    have hkids : ∀ H, callD (call pg) 25 [.p a.kidsP, .p b.kidsP, .fn 9 [] []] H = some (.val (.p (.bool (eqAll eqN a.ks b.ks))), H) := by
      intro H
      have hlen := len_sizeL a.ks
      have hsz := size_eq a
      have := eqf_eq (p := pg) (fi := 25) (g := 9) (sz := 5) (zs := [.int .i64 0, .str [], .int .i64 0, .nils, .int .i64 0]) (f := Nd.pd) (a := ndSl a.c a.ks) (b := ndSl b.c b.ks) (r := eqN) rfl rfl rfl (by decide) rfl
        (fun x _ => rec_nd x) (fun x _ => rec_nd x) (fun k h1 h2 H => by
          have hm : ∀ x ∈ els (ndSl a.c a.ks), x ∈ a.ks := fun x hx => by rw [els_ndSl] at hx; exact hx
          have hsk := size_kid (hm _ (List.getElem_mem h1))
          exact callD_any (ih _ _ (by omega) (by omega)) rfl rfl rfl rfl H) (by rw [els_ndSl]; omega)
      rw [els_ndSl, els_ndSl] at this
      exact callD_pure this rfl rfl rfl rfl
    rw [pd_cells, pd_cells]
    refine ⟨_, call_body (fc := fc9) rfl rfl rfl rfl (r := (_, ⟨[a.cells.map .p, b.cells.map .p], []⟩)) ?_⟩
    have e := eqN_eq a b
    cases h1 : (a.op == b.op) with
    | false =>
      rw [h1] at e
      simp [fc9, evKC, evK, evGuard, put, Env.get, Env.keep, entry, Opd.ev, loadD, cutAt, binD, finish, evRes, evRes1, D.cells, isMapC, isMapC, Nd.cells, h1, e]
    | true =>
      cases h2 : (a.nm == b.nm) with
      | false =>
        rw [h1, h2] at e
        simp [fc9, evKC, evK, evGuard, put, Env.get, Env.keep, entry, Opd.ev, loadD, cutAt, binD, strBin, finish, evRes, evRes1, D.cells, isMapC, isMapC, Nd.cells, h1, h2, e]
      | true =>
        cases h3 : (a.n == b.n) with
        | false =>
          rw [h1, h2, h3] at e
          simp [fc9, evKC, evK, evGuard, put, Env.get, Env.keep, entry, Opd.ev, loadD, cutAt, binD, strBin, finish, evRes, evRes1, D.cells, isMapC, isMapC, Nd.cells, h1, h2, h3, e]
        | true =>
          rw [h1, h2, h3] at e
          simp [fc9, evKC, evK, evGuard, put, Env.get, Env.keep, entry, Opd.ev, loadD, cutAt, binD, strBin, finish, evRes, evRes1, D.cells, isMapC, isMapC, Nd.cells, h1, h2, h3, e, hkids]

theorem equalNodes_eq {a b : Nd} (h : a.size ≤ 1000000000) (H : Hp) : callD (call pg) 9 [.p a.pd, .p b.pd] H = some (.val (.p (.bool (eqN a b))), H) :=
  callD_any (equalNodes0 _ a b (Nat.le_refl _) h) rfl rfl rfl rfl H

end Go.Proofs.YtalgjkpkkdljaaaDoor

/-! Count, Small: the number of nodes. -/
namespace Go.Proofs.YtalgjkpkkdljaaaDoor
open Go.Vs

theorem len_kids (a : Nd) : lenD 1 (.p a.kidsP) = some a.ks.length := by
  rw [Nd.kidsP, len_map, els_ndSl]

theorem nd_cells (a : Nd) : a.pd.cells = a.cells := by rw [pd_cells, cells_agg]

theorem ia_kids {a : Nd} {k : Nat} (h : k < a.ks.length) : iaddrD none 5 (.p a.kidsP) (k : Int) = some (.ro (a.ks[k]).cells 0) := by
  have h' : k < (els (ndSl a.c a.ks)).length := by rw [els_ndSl]; exact h
  rw [Nd.kidsP, ia_map h', ← nd_cells]
  simp only [els_ndSl]

theorem load_nd {G : Nat → Option (List PD)} {H : Hp} (x : Nd) : loadD G H (some 5) (.ro x.cells 0) = some (.p x.pd) := by
  rw [pd_cells]; exact load_ro rfl

theorem pd_one (a : Nd) : ∀ c ∈ a.cells, c.one = true := fun c hc => by
  simp only [Nd.cells, List.mem_cons, List.not_mem_nil, or_false] at hc
  rcases hc with rfl | rfl | rfl | rfl | rfl <;> first | rfl | exact pone_kids a

theorem load_ndb {G : Nat → Option (List PD)} {H : Hp} {i : Nat} {x : Nd} (hb : H.bx[i]? = some (x.cells.map D.p)) : loadD G H (some 5) (.box i 0) = some (.p x.pd) := by
  rw [pd_cells]; exact load_box hb rfl

theorem one_cells (a : Nd) : ∀ c ∈ a.cells, (D.p c).one = true := fun c hc => by
  simp only [Nd.cells, List.mem_cons, List.not_mem_nil, or_false] at hc
  rcases hc with rfl | rfl | rfl | rfl | rfl <;> first | rfl | exact one_kids a

theorem one_all (a : Nd) : (∀ x, x ∈ a.cells → (D.p x).one = true) = True := eq_true (one_cells a)

/-- The number of nodes, as Count gives it. -/
def cntN (s left : Nat) : Nat := min s (left + 1)

theorem ld_kids {G : Nat → Option (List PD)} (a : Nd) (tk : List Nat) : loadD G ⟨[a.cells.map .p], tk⟩ none (.box 0 3) = some (.p a.kidsP) := rfl

theorem cntN_step (s z left sum : Nat) (h : sum ≤ left) : min (sum + cntN s (left - sum) + z) (left + 1) = min (sum + (s + z)) (left + 1) := by
  simp only [cntN]; omega

theorem count_loop {a : Nd} (ih : ∀ (k : Nd) (left : Nat), k ∈ a.ks → left ≤ 1000000000 → ∀ H, callD (call pg) 24 [.p k.pd, .p (.int .i64 left)] H = some (.val (.p (.int .i64 (cntN k.size left))), H)) {left : Nat} (hl : left ≤ 1000000000) :
    ∀ (n k sum : Nat), a.ks.length - k ≤ n → k ≤ a.ks.length → k < sum → sum ≤ left + 1 →
    ∃ env, loopK (call pg) pg.G [1, 2, 5, 6] fc24_b0 ⟨[(1, .p (.int .i64 left)), (2, .box 0 0), (5, .p (.int .i64 sum)), (6, .p (.int .i64 k))], ⟨[a.cells.map .p], []⟩⟩ =
      some (.exit 0, ⟨env, ⟨[a.cells.map .p], []⟩⟩) ∧ env.get 5 = .p (.int .i64 (min (sum + Nd.sizeL (a.ks.drop k)) (left + 1) : Nat)) := by
  intro n
  have hk0 := len_kids a
  have hld := fun (G : Nat → Option (List PD)) tk => ld_kids (G := G) a tk
  induction n with
  | zero =>
    intro k sum hn hk h1 h2
    have he : k = a.ks.length := by omega
    refine ⟨[(1, .p (.int .i64 left)), (2, .box 0 0), (5, .p (.int .i64 sum)), (6, .p (.int .i64 k)), (17, .p (.bool false))], ?_, ?_⟩
    · refine loopK_out (o := .exit 0) ?_ (by simp)
      simp [fc24_b0, evKC, evK, evGuard, put, Env.get, Env.keep, Opd.ev, binD, mapO, D.ren, locD, below, Out.ren, List.map, hk0, hld, he]
    · rw [List.drop_eq_nil_of_le (by omega)]
      simp only [Nd.sizeL, Nat.add_zero, Nat.min_eq_left h2]
      rfl
  | succ n IH =>
    intro k sum hn hk h1 h2
    by_cases he : k = a.ks.length
    · refine ⟨[(1, .p (.int .i64 left)), (2, .box 0 0), (5, .p (.int .i64 sum)), (6, .p (.int .i64 k)), (17, .p (.bool false))], ?_, ?_⟩
      · refine loopK_out (o := .exit 0) ?_ (by simp)
        simp [fc24_b0, evKC, evK, evGuard, put, Env.get, Env.keep, Opd.ev, binD, mapO, D.ren, locD, below, Out.ren, List.map, hk0, hld, he]
      · rw [List.drop_eq_nil_of_le (by omega)]
        simp only [Nd.sizeL, Nat.add_zero, Nat.min_eq_left h2]
        rfl
    · have hlt : k < a.ks.length := by omega
      have hlt' : (k : Int) < (a.ks.length : Int) := by omega
      by_cases hs : sum ≤ left
      · have hs' : (sum : Int) ≤ (left : Int) := by omega
        have hc := ih a.ks[k] (left - sum) (List.getElem_mem hlt) (by omega)
        have hia := ia_kids hlt
        have hld2 := fun (G : Nat → Option (List PD)) (H : Hp) => load_nd (G := G) (H := H) a.ks[k]
        have hcpos : 1 ≤ cntN a.ks[k].size (left - sum) := by have := size_eq a.ks[k]; simp only [cntN]; omega
        have hcle : cntN a.ks[k].size (left - sum) ≤ left - sum + 1 := by simp only [cntN]; omega
        obtain ⟨env, e1, e2⟩ := IH (k + 1) (sum + cntN a.ks[k].size (left - sum)) (by omega) (by omega) (by omega) (by omega)
        refine ⟨env, ?_, ?_⟩
        · have hk1 := inc64 (k := k) (by omega)
          have w1 : IntKind.i64.wrap ((left : Int) - (sum : Int)) = ((left - sum : Nat) : Int) := by rw [wrap64 (by omega) (by omega)]; omega
          have w2 : IntKind.i64.wrap ((sum : Int) + (cntN a.ks[k].size (left - sum) : Int)) = ((sum + cntN a.ks[k].size (left - sum) : Nat) : Int) := by rw [wrap64 (by omega) (by omega)]; omega
          rw [← e1]
          refine loopK_norm ?_
          generalize cntN a.ks[k].size (left - sum) = z at *
          generalize a.ks[k] = x at *
          simp [fc24_b0, evKC, evK, evGuard, put, Env.get, Env.keep, Opd.ev, D.asInt?, binD, mapO, D.ren, locD, below, Out.ren, List.map, hk0, hld, hlt', hs', hia, hld2, hc, w1, w2, hk1]
        · rw [e2, cntN_step _ _ _ _ hs, List.drop_eq_getElem_cons hlt]
          rfl
      · have hs' : ¬ (sum : Int) ≤ (left : Int) := by omega
        refine ⟨[(1, .p (.int .i64 left)), (2, .box 0 0), (5, .p (.int .i64 sum)), (6, .p (.int .i64 k)), (17, .p (.bool false))], ?_, ?_⟩
        · refine loopK_out (o := .exit 0) ?_ (by simp)
          simp [fc24_b0, evKC, evK, evGuard, put, Env.get, Env.keep, Opd.ev, binD, mapO, D.ren, locD, below, Out.ren, List.map, hk0, hld, hlt', hs']
        · have : min (sum + Nd.sizeL (a.ks.drop k)) (left + 1) = sum := by omega
          rw [this]; rfl

theorem count0 : ∀ (s : Nat) (a : Nd) (left : Nat), a.size ≤ s → left ≤ 1000000000 → ∃ H', call pg 24 [.p a.pd, .p (.int .i64 left)] ⟨[], []⟩ = some (.val (.p (.int .i64 (cntN a.size left))), H') := by
  intro s
  induction s with
  | zero => intro a left h; have := size_eq a; omega
  | succ s ih =>
    intro a left hs hl
    obtain ⟨env, e1, e2⟩ := count_loop (a := a) (left := left) (fun k l hk hl H => callD_any (ih k l (by have := size_kid hk; omega) hl) rfl rfl rfl rfl H) hl a.ks.length 0 1 (by omega) (by omega) (by omega) (by omega)
    rw [List.drop_zero, ← size_eq] at e2
    simp only [Int.natCast_zero, Int.natCast_one] at e1
    rw [pd_cells]
    refine ⟨_, call_body (fc := fc24) rfl rfl rfl rfl (r := (_, ⟨[a.cells.map .p], []⟩)) ?_⟩
    simp only [cntN]
    simp [fc24, evKC, evK, put, Env.get, Env.keep, entry, Opd.ev, finish, evRes, evRes1, D.cells, List.map, e1, e2, one_all a]

theorem count_eq (a : Nd) {left : Nat} (hl : left ≤ 1000000000) (H : Hp) : callD (call pg) 24 [.p a.pd, .p (.int .i64 left)] H = some (.val (.p (.int .i64 (cntN a.size left))), H) :=
  callD_any (count0 _ a left (Nat.le_refl _) hl) rfl rfl rfl rfl H

theorem small0 (a : Nd) : ∃ H', call pg 7 [.p a.pd] ⟨[], []⟩ = some (.val (.p (.bool (decide (a.size ≤ 400)))), H') := by
  have hc : ∀ H, callD (call pg) 24 [.p a.pd, .p (.int .i64 400)] H = some (.val (.p (.int .i64 (cntN a.size 400))), H) := count_eq a (left := 400) (by omega)
  have hl := fun (G : Nat → Option (List PD)) => load_ndb (G := G) (H := ⟨[a.cells.map .p], []⟩) (i := 0) (x := a) rfl
  have he : decide ((cntN a.size 400 : Int) ≤ 400) = decide (a.size ≤ 400) := by
    rw [decide_eq_decide]; simp only [cntN]; omega
  rw [pd_cells]
  refine ⟨_, call_body (fc := fc7) rfl rfl rfl rfl (r := (_, ⟨[a.cells.map .p], []⟩)) ?_⟩
  simp [fc7, evKC, evK, put, Env.get, Env.keep, entry, Opd.ev, binD, finish, evRes, evRes1, D.cells, List.map, hl, hc, one_all a, he]

theorem small_eq (a : Nd) (H : Hp) : callD (call pg) 7 [.p a.pd] H = some (.val (.p (.bool (decide (a.size ≤ 400)))), H) :=
  callD_any (small0 a) rfl rfl rfl rfl H

end Go.Proofs.YtalgjkpkkdljaaaDoor

/-! Specifications as the evaluator's data; EqualSpecs. Printed by mkE3.py. -/
namespace Go.Proofs.YtalgjkpkkdljaaaDoor
open Go.Vs

structure Srt where
  nm : List UInt8
  o : Bool
structure Prm where
  nm : List UInt8
  s : Int
structure Fld where
  nm : List UInt8
  l : Sl Int
  v : Bool
structure Prd where
  nm : List UInt8
  l : Sl Prm
  b : Nd
structure Fct where
  nm : List UInt8
  b : Nd
structure Spc where
  s : Sl Srt
  f : Sl Fld
  p : Sl Prd
  q : Sl Fct

def Srt.cells (x : Srt) : List PD := [.str x.nm, .bool x.o]
def Prm.cells (x : Prm) : List PD := [.str x.nm, .int .i64 x.s]
def Srt.pd (x : Srt) : PD := .agg x.cells
def Prm.pd (x : Prm) : PD := .agg x.cells
def intsP (l : Sl Int) : PD := slP 1 (l.map (PD.int .i64))
def prmsP (l : Sl Prm) : PD := slP 2 (l.map Prm.pd)
def srtsP (l : Sl Srt) : PD := slP 2 (l.map Srt.pd)
def Fld.cells (x : Fld) : List PD := [.str x.nm, intsP x.l, .bool x.v]
def Fld.pd (x : Fld) : PD := .agg x.cells
def Prd.cells (x : Prd) : List PD := [.str x.nm, prmsP x.l] ++ x.b.cells
def Prd.pd (x : Prd) : PD := .agg x.cells
def Fct.cells (x : Fct) : List PD := [.str x.nm] ++ x.b.cells
def Fct.pd (x : Fct) : PD := .agg x.cells
def fldsP (l : Sl Fld) : PD := slP 3 (l.map Fld.pd)
def prdsP (l : Sl Prd) : PD := slP 7 (l.map Prd.pd)
def fctsP (l : Sl Fct) : PD := slP 6 (l.map Fct.pd)
def Spc.cells (x : Spc) : List PD := [srtsP x.s, fldsP x.f, prdsP x.p, fctsP x.q]
def Spc.pd (x : Spc) : PD := .agg x.cells

theorem one_of {cs : List PD} (h : ∀ c ∈ cs, c.one = true) : (∀ x, x ∈ cs → (D.p x).one = true) = True := eq_true fun c hc => h c hc

theorem nd_one (a : Nd) : ∀ c ∈ a.cells, c.one = true := pd_one a

theorem rec_srt (x : Srt) : Rec 2 x.pd := ⟨x.cells, rfl, rfl, fun c hc => by
  simp only [Srt.cells, List.mem_cons, List.not_mem_nil, or_false] at hc
  rcases hc with rfl | rfl <;> rfl⟩
theorem rec_prm (x : Prm) : Rec 2 x.pd := ⟨x.cells, rfl, rfl, fun c hc => by
  simp only [Prm.cells, List.mem_cons, List.not_mem_nil, or_false] at hc
  rcases hc with rfl | rfl <;> rfl⟩
theorem fld_one (x : Fld) : ∀ c ∈ x.cells, c.one = true := fun c hc => by
  simp only [Fld.cells, List.mem_cons, List.not_mem_nil, or_false] at hc
  rcases hc with rfl | rfl | rfl <;> first | rfl | exact pone_slP ..
theorem prd_one (x : Prd) : ∀ c ∈ x.cells, c.one = true := fun c hc => by
  simp only [Prd.cells, List.mem_append, List.mem_cons, List.not_mem_nil, or_false] at hc
  rcases hc with (rfl | rfl) | hc <;> first | rfl | exact pone_slP .. | exact nd_one _ _ hc
theorem fct_one (x : Fct) : ∀ c ∈ x.cells, c.one = true := fun c hc => by
  simp only [Fct.cells, List.mem_append, List.mem_cons, List.not_mem_nil, or_false] at hc
  rcases hc with rfl | hc <;> first | rfl | exact nd_one _ _ hc
theorem spc_one (x : Spc) : ∀ c ∈ x.cells, c.one = true := fun c hc => by
  simp only [Spc.cells, List.mem_cons, List.not_mem_nil, or_false] at hc
  rcases hc with rfl | rfl | rfl | rfl <;> exact pone_slP ..
theorem nd_len (a : Nd) : a.cells.length = 5 := rfl
theorem rec_fld (x : Fld) : Rec 3 x.pd := ⟨x.cells, rfl, rfl, fld_one x⟩
theorem rec_prd (x : Prd) : Rec 7 x.pd := ⟨x.cells, rfl, by simp [Prd.cells, nd_len], prd_one x⟩
theorem rec_fct (x : Fct) : Rec 6 x.pd := ⟨x.cells, rfl, by simp [Fct.cells, nd_len], fct_one x⟩

theorem sub_app {α : Type} (pre cs : List α) : sub (pre ++ cs) pre.length (pre.length + cs.length) = cs := by
  have : pre.length + cs.length = (pre ++ cs).length := by simp
  rw [this, sub, List.take_length, List.drop_left]

theorem load_at {G : Nat → Option (List PD)} {H : Hp} {i o n : Nat} {pre cs : List PD} (hb : H.bx[i]? = some ((pre ++ cs).map D.p)) (ho : pre.length = o) (h : cs.length = n) : loadD G H (some n) (.box i o) = some (.p (.agg cs)) := by
  subst ho; subst h
  have := sub_app (pre.map D.p) (cs.map D.p)
  rw [List.length_map, List.length_map] at this
  have hm : isMapC (pre.map D.p ++ cs.map D.p) = false := by rw [← List.map_append]; exact isMapC_p _
  simp only [loadD, hb, cutAt, List.map_append, this, hm]
  simp [mkAgg_p]

theorem ro_at {G : Nat → Option (List PD)} {H : Hp} {o n : Nat} {pre cs : List PD} (ho : pre.length = o) (h : cs.length = n) : loadD G H (some n) (.ro (pre ++ cs) o) = some (.p (.agg cs)) := by
  subst ho; subst h
  have := sub_app pre cs
  simp [loadD, cutAt, this]

theorem eqAll_drop' {α : Type} {r : α → α → Bool} {a b : List α} {k : Nat} (ha : k < a.length) (hb : k < b.length) : eqAll r (a.drop k) (b.drop k) = (r a[k] b[k] && eqAll r (a.drop (k + 1)) (b.drop (k + 1))) := eqAll_drop ha hb

def intCells (n : Int) : List PD := [.int .i64 n]
def rInt (x y : Int) : Bool := x == y
def rPrm (x y : Prm) : Bool := x.nm == y.nm && x.s == y.s
def rSrt (x y : Srt) : Bool := x.nm == y.nm && x.o == y.o

/-! slices.Equal, function 27. -/
theorem len27 (o : Sl Int) : lenD 1 (.p (intsP o)) = some (els o).length := len_map ..

theorem ia27 {o : Sl Int} {k : Nat} (h : k < (els o).length) : iaddrD none 1 (.p (intsP o)) (k : Int) = some (.ro (intCells ((els o)[k])) 0) := ia_map h

theorem eq27_loop (a b : Sl Int) (hl : (els a).length = (els b).length) (hb : (els a).length ≤ 4611686018427387904) : ∀ (n k : Nat), k ≤ (els a).length → (els a).length - k ≤ n →
    ∃ env, loopK (call pg) pg.G [0, 1, 12, 13] fc27_b0 ⟨[(0, .p (intsP a)), (1, .p (intsP b)), (12, .p (.int .i64 (els a).length)), (13, .p (.int .i64 k))], ⟨[], []⟩⟩ =
      some (if eqAll rInt ((els a).drop k) ((els b).drop k) then (.exit 0, ⟨env, ⟨[], []⟩⟩) else (.ret, ⟨[(4, .p (.bool false))], ⟨[], []⟩⟩)) := by
  intro n
  induction n with
  | zero =>
    intro k hk hn
    have : k = (els a).length := by omega
    refine ⟨[(0, .p (intsP a)), (1, .p (intsP b)), (12, .p (.int .i64 (els a).length)), (13, .p (.int .i64 k)), (14, .p (.bool false))], ?_⟩
    rw [List.drop_eq_nil_of_le (by omega), List.drop_eq_nil_of_le (by omega)]
    refine loopK_out (o := .exit 0) ?_ (by simp)
    simp [fc27_b0, evKC, evK, put, Env.get, Env.keep, Opd.ev, binD, this]
  | succ n ih =>
    intro k hk hn
    by_cases he : k = (els a).length
    · refine ⟨[(0, .p (intsP a)), (1, .p (intsP b)), (12, .p (.int .i64 (els a).length)), (13, .p (.int .i64 k)), (14, .p (.bool false))], ?_⟩
      rw [List.drop_eq_nil_of_le (by omega), List.drop_eq_nil_of_le (by omega)]
      refine loopK_out (o := .exit 0) ?_ (by simp)
      simp [fc27_b0, evKC, evK, put, Env.get, Env.keep, Opd.ev, binD, he]
    · have hlt : k < (els a).length := by omega
      have hlt2 : k < (els b).length := by omega
      have hlt' : (k : Int) < ((els a).length : Int) := by omega
      have hia := ia27 hlt
      have hib := ia27 hlt2
      obtain ⟨env, he⟩ := ih (k + 1) (by omega) (by omega)
      refine ⟨env, ?_⟩
      rw [eqAll_drop' hlt hlt2]
      generalize (els a)[k] = x at hia
      generalize (els b)[k] = y at hib
      have hk1 := inc64 (k := k) (by omega)
      cases e1 : rInt x y with
      | true =>
        have e2 : (x != y) = false := by
          have h : (x != y) = !rInt x y := rfl
          rw [h, e1]; rfl
        rw [Bool.true_and, ← he]
        refine loopK_norm ?_
        simp [fc27_b0, evKC, evK, put, Env.get, Env.keep, Opd.ev, loadD, cutAt, D.asInt?, binD, clsP, cls, isW, apartRW, apartWW, clash, insOk, intCells, hlt', hia, hib, hk1, e2]
      | false =>
        have e2 : (x != y) = true := by
          have h : (x != y) = !rInt x y := rfl
          rw [h, e1]; rfl
        rw [Bool.false_and]
        refine loopK_out (o := .ret) ?_ (by simp)
        simp [fc27_b0, evKC, evK, put, Env.get, Env.keep, Opd.ev, loadD, cutAt, D.asInt?, binD, clsP, cls, isW, apartRW, apartWW, clash, insOk, intCells, hlt', hia, hib, e2]

theorem eq270 (a b : Sl Int) (hb : (els a).length ≤ 4611686018427387904) : call pg 27 [.p (intsP a), .p (intsP b)] ⟨[], []⟩ = some (.val (.p (.bool (eqAll rInt (els a) (els b)))), ⟨[], []⟩) := by
  refine call_body (fc := fc27) rfl rfl rfl rfl ?_
  by_cases hl : (els a).length = (els b).length
  · have hn : (((els a).length : Int) != ((els b).length : Int)) = false := by rw [bne_nat]; simp [hl]
    obtain ⟨env, he⟩ := eq27_loop a b hl hb (els a).length 0 (by omega) (by omega)
    rw [List.drop_zero, List.drop_zero] at he
    simp only [Int.natCast_zero] at he
    cases ha : eqAll rInt (els a) (els b) with
    | true =>
      rw [ha] at he
      simp [fc27, evKC, evK, put, Env.get, Env.keep, entry, Opd.ev, binD, finish, evRes, evRes1, len27, hn, he]
    | false =>
      rw [ha] at he
      simp [fc27, evKC, evK, put, Env.get, Env.keep, entry, Opd.ev, binD, finish, evRes, evRes1, len27, hn, he]
  · have hn : (((els a).length : Int) != ((els b).length : Int)) = true := by rw [bne_nat]; simp [hl]
    have ha : eqAll rInt (els a) (els b) = false := by
      cases h : eqAll rInt (els a) (els b) with
      | false => rfl
      | true => exact absurd (eqAll_len h) hl
    simp [fc27, evKC, evK, put, Env.get, Env.keep, entry, Opd.ev, binD, finish, evRes, evRes1, len27, hn, ha]

theorem eq27_eq (a b : Sl Int) (hb : (els a).length ≤ 4611686018427387904) (H : Hp) : callD (call pg) 27 [.p (intsP a), .p (intsP b)] H = some (.val (.p (.bool (eqAll rInt (els a) (els b)))), H) :=
  callD_pure (eq270 a b hb) rfl rfl rfl rfl

/-! slices.Equal, function 29. -/
theorem len29 (o : Sl Prm) : lenD 1 (.p (prmsP o)) = some (els o).length := len_map ..

theorem ia29 {o : Sl Prm} {k : Nat} (h : k < (els o).length) : iaddrD none 2 (.p (prmsP o)) (k : Int) = some (.ro (Prm.cells ((els o)[k])) 0) := ia_map h

theorem eq29_loop (a b : Sl Prm) (hl : (els a).length = (els b).length) (hb : (els a).length ≤ 4611686018427387904) : ∀ (n k : Nat), k ≤ (els a).length → (els a).length - k ≤ n →
    ∃ env, loopK (call pg) pg.G [0, 1, 12, 13] fc29_b0 ⟨[(0, .p (prmsP a)), (1, .p (prmsP b)), (12, .p (.int .i64 (els a).length)), (13, .p (.int .i64 k))], ⟨[], []⟩⟩ =
      some (if eqAll rPrm ((els a).drop k) ((els b).drop k) then (.exit 0, ⟨env, ⟨[], []⟩⟩) else (.ret, ⟨[(4, .p (.bool false))], ⟨[], []⟩⟩)) := by
  intro n
  induction n with
  | zero =>
    intro k hk hn
    have : k = (els a).length := by omega
    refine ⟨[(0, .p (prmsP a)), (1, .p (prmsP b)), (12, .p (.int .i64 (els a).length)), (13, .p (.int .i64 k)), (14, .p (.bool false))], ?_⟩
    rw [List.drop_eq_nil_of_le (by omega), List.drop_eq_nil_of_le (by omega)]
    refine loopK_out (o := .exit 0) ?_ (by simp)
    simp [fc29_b0, evKC, evK, put, Env.get, Env.keep, Opd.ev, binD, this]
  | succ n ih =>
    intro k hk hn
    by_cases he : k = (els a).length
    · refine ⟨[(0, .p (prmsP a)), (1, .p (prmsP b)), (12, .p (.int .i64 (els a).length)), (13, .p (.int .i64 k)), (14, .p (.bool false))], ?_⟩
      rw [List.drop_eq_nil_of_le (by omega), List.drop_eq_nil_of_le (by omega)]
      refine loopK_out (o := .exit 0) ?_ (by simp)
      simp [fc29_b0, evKC, evK, put, Env.get, Env.keep, Opd.ev, binD, he]
    · have hlt : k < (els a).length := by omega
      have hlt2 : k < (els b).length := by omega
      have hlt' : (k : Int) < ((els a).length : Int) := by omega
      have hia := ia29 hlt
      have hib := ia29 hlt2
      obtain ⟨env, he⟩ := ih (k + 1) (by omega) (by omega)
      refine ⟨env, ?_⟩
      rw [eqAll_drop' hlt hlt2]
      generalize (els a)[k] = x at hia
      generalize (els b)[k] = y at hib
      have hk1 := inc64 (k := k) (by omega)
      cases e1 : rPrm x y with
      | true =>
        have e2 : (!(x.nm == y.nm) || !(x.s == y.s)) = false := by
          have h : (!(x.nm == y.nm) || !(x.s == y.s)) = !rPrm x y := by simp [rPrm]
          rw [h, e1]; rfl
        rw [Bool.true_and, ← he]
        refine loopK_norm ?_
        simp [fc29_b0, evKC, evK, put, Env.get, Env.keep, Opd.ev, loadD, cutAt, D.asInt?, binD, sub, eqvL, PD.eqv, clsP, cls, isW, apartRW, apartWW, clash, insOk, Prm.cells, hlt', hia, hib, hk1, e2]
      | false =>
        have e2 : (!(x.nm == y.nm) || !(x.s == y.s)) = true := by
          have h : (!(x.nm == y.nm) || !(x.s == y.s)) = !rPrm x y := by simp [rPrm]
          rw [h, e1]; rfl
        rw [Bool.false_and]
        refine loopK_out (o := .ret) ?_ (by simp)
        simp [fc29_b0, evKC, evK, put, Env.get, Env.keep, Opd.ev, loadD, cutAt, D.asInt?, binD, sub, eqvL, PD.eqv, clsP, cls, isW, apartRW, apartWW, clash, insOk, Prm.cells, hlt', hia, hib, e2]

theorem eq290 (a b : Sl Prm) (hb : (els a).length ≤ 4611686018427387904) : call pg 29 [.p (prmsP a), .p (prmsP b)] ⟨[], []⟩ = some (.val (.p (.bool (eqAll rPrm (els a) (els b)))), ⟨[], []⟩) := by
  refine call_body (fc := fc29) rfl rfl rfl rfl ?_
  by_cases hl : (els a).length = (els b).length
  · have hn : (((els a).length : Int) != ((els b).length : Int)) = false := by rw [bne_nat]; simp [hl]
    obtain ⟨env, he⟩ := eq29_loop a b hl hb (els a).length 0 (by omega) (by omega)
    rw [List.drop_zero, List.drop_zero] at he
    simp only [Int.natCast_zero] at he
    cases ha : eqAll rPrm (els a) (els b) with
    | true =>
      rw [ha] at he
      simp [fc29, evKC, evK, put, Env.get, Env.keep, entry, Opd.ev, binD, finish, evRes, evRes1, len29, hn, he]
    | false =>
      rw [ha] at he
      simp [fc29, evKC, evK, put, Env.get, Env.keep, entry, Opd.ev, binD, finish, evRes, evRes1, len29, hn, he]
  · have hn : (((els a).length : Int) != ((els b).length : Int)) = true := by rw [bne_nat]; simp [hl]
    have ha : eqAll rPrm (els a) (els b) = false := by
      cases h : eqAll rPrm (els a) (els b) with
      | false => rfl
      | true => exact absurd (eqAll_len h) hl
    simp [fc29, evKC, evK, put, Env.get, Env.keep, entry, Opd.ev, binD, finish, evRes, evRes1, len29, hn, ha]

theorem eq29_eq (a b : Sl Prm) (hb : (els a).length ≤ 4611686018427387904) (H : Hp) : callD (call pg) 29 [.p (prmsP a), .p (prmsP b)] H = some (.val (.p (.bool (eqAll rPrm (els a) (els b)))), H) :=
  callD_pure (eq290 a b hb) rfl rfl rfl rfl

/-! slices.Equal, function 31. -/
theorem len31 (o : Sl Srt) : lenD 1 (.p (srtsP o)) = some (els o).length := len_map ..

theorem ia31 {o : Sl Srt} {k : Nat} (h : k < (els o).length) : iaddrD none 2 (.p (srtsP o)) (k : Int) = some (.ro (Srt.cells ((els o)[k])) 0) := ia_map h

theorem eq31_loop (a b : Sl Srt) (hl : (els a).length = (els b).length) (hb : (els a).length ≤ 4611686018427387904) : ∀ (n k : Nat), k ≤ (els a).length → (els a).length - k ≤ n →
    ∃ env, loopK (call pg) pg.G [0, 1, 12, 13] fc31_b0 ⟨[(0, .p (srtsP a)), (1, .p (srtsP b)), (12, .p (.int .i64 (els a).length)), (13, .p (.int .i64 k))], ⟨[], []⟩⟩ =
      some (if eqAll rSrt ((els a).drop k) ((els b).drop k) then (.exit 0, ⟨env, ⟨[], []⟩⟩) else (.ret, ⟨[(4, .p (.bool false))], ⟨[], []⟩⟩)) := by
  intro n
  induction n with
  | zero =>
    intro k hk hn
    have : k = (els a).length := by omega
    refine ⟨[(0, .p (srtsP a)), (1, .p (srtsP b)), (12, .p (.int .i64 (els a).length)), (13, .p (.int .i64 k)), (14, .p (.bool false))], ?_⟩
    rw [List.drop_eq_nil_of_le (by omega), List.drop_eq_nil_of_le (by omega)]
    refine loopK_out (o := .exit 0) ?_ (by simp)
    simp [fc31_b0, evKC, evK, put, Env.get, Env.keep, Opd.ev, binD, this]
  | succ n ih =>
    intro k hk hn
    by_cases he : k = (els a).length
    · refine ⟨[(0, .p (srtsP a)), (1, .p (srtsP b)), (12, .p (.int .i64 (els a).length)), (13, .p (.int .i64 k)), (14, .p (.bool false))], ?_⟩
      rw [List.drop_eq_nil_of_le (by omega), List.drop_eq_nil_of_le (by omega)]
      refine loopK_out (o := .exit 0) ?_ (by simp)
      simp [fc31_b0, evKC, evK, put, Env.get, Env.keep, Opd.ev, binD, he]
    · have hlt : k < (els a).length := by omega
      have hlt2 : k < (els b).length := by omega
      have hlt' : (k : Int) < ((els a).length : Int) := by omega
      have hia := ia31 hlt
      have hib := ia31 hlt2
      obtain ⟨env, he⟩ := ih (k + 1) (by omega) (by omega)
      refine ⟨env, ?_⟩
      rw [eqAll_drop' hlt hlt2]
      generalize (els a)[k] = x at hia
      generalize (els b)[k] = y at hib
      have hk1 := inc64 (k := k) (by omega)
      cases e1 : rSrt x y with
      | true =>
        have e2 : (!(x.nm == y.nm) || !(x.o == y.o)) = false := by
          have h : (!(x.nm == y.nm) || !(x.o == y.o)) = !rSrt x y := by simp [rSrt]
          rw [h, e1]; rfl
        rw [Bool.true_and, ← he]
        refine loopK_norm ?_
        simp [fc31_b0, evKC, evK, put, Env.get, Env.keep, Opd.ev, loadD, cutAt, D.asInt?, binD, sub, eqvL, PD.eqv, clsP, cls, isW, apartRW, apartWW, clash, insOk, Srt.cells, hlt', hia, hib, hk1, e2]
      | false =>
        have e2 : (!(x.nm == y.nm) || !(x.o == y.o)) = true := by
          have h : (!(x.nm == y.nm) || !(x.o == y.o)) = !rSrt x y := by simp [rSrt]
          rw [h, e1]; rfl
        rw [Bool.false_and]
        refine loopK_out (o := .ret) ?_ (by simp)
        simp [fc31_b0, evKC, evK, put, Env.get, Env.keep, Opd.ev, loadD, cutAt, D.asInt?, binD, sub, eqvL, PD.eqv, clsP, cls, isW, apartRW, apartWW, clash, insOk, Srt.cells, hlt', hia, hib, e2]

theorem eq310 (a b : Sl Srt) (hb : (els a).length ≤ 4611686018427387904) : call pg 31 [.p (srtsP a), .p (srtsP b)] ⟨[], []⟩ = some (.val (.p (.bool (eqAll rSrt (els a) (els b)))), ⟨[], []⟩) := by
  refine call_body (fc := fc31) rfl rfl rfl rfl ?_
  by_cases hl : (els a).length = (els b).length
  · have hn : (((els a).length : Int) != ((els b).length : Int)) = false := by rw [bne_nat]; simp [hl]
    obtain ⟨env, he⟩ := eq31_loop a b hl hb (els a).length 0 (by omega) (by omega)
    rw [List.drop_zero, List.drop_zero] at he
    simp only [Int.natCast_zero] at he
    cases ha : eqAll rSrt (els a) (els b) with
    | true =>
      rw [ha] at he
      simp [fc31, evKC, evK, put, Env.get, Env.keep, entry, Opd.ev, binD, finish, evRes, evRes1, len31, hn, he]
    | false =>
      rw [ha] at he
      simp [fc31, evKC, evK, put, Env.get, Env.keep, entry, Opd.ev, binD, finish, evRes, evRes1, len31, hn, he]
  · have hn : (((els a).length : Int) != ((els b).length : Int)) = true := by rw [bne_nat]; simp [hl]
    have ha : eqAll rSrt (els a) (els b) = false := by
      cases h : eqAll rSrt (els a) (els b) with
      | false => rfl
      | true => exact absurd (eqAll_len h) hl
    simp [fc31, evKC, evK, put, Env.get, Env.keep, entry, Opd.ev, binD, finish, evRes, evRes1, len31, hn, ha]

theorem eq31_eq (a b : Sl Srt) (hb : (els a).length ≤ 4611686018427387904) (H : Hp) : callD (call pg) 31 [.p (srtsP a), .p (srtsP b)] H = some (.val (.p (.bool (eqAll rSrt (els a) (els b)))), H) :=
  callD_pure (eq310 a b hb) rfl rfl rfl rfl

/-! The closures of EqualSpecs. -/
def rFld (x y : Fld) : Bool := x.nm == y.nm && x.v == y.v && eqAll rInt (els x.l) (els y.l)
def rPrd (x y : Prd) : Bool := x.nm == y.nm && eqAll rPrm (els x.l) (els y.l) && eqN x.b y.b
def rFct (x y : Fct) : Bool := x.nm == y.nm && eqN x.b y.b

theorem fld0 (x y : Fld) (hb : (els x.l).length ≤ 4611686018427387904) : ∃ H', call pg 26 [.p x.pd, .p y.pd] ⟨[], []⟩ = some (.val (.p (.bool (rFld x y))), H') := by
  have hq := fun H => eq27_eq x.l y.l hb H
  refine ⟨_, call_body (fc := fc26) rfl rfl rfl rfl (r := (_, ⟨[x.cells.map .p, y.cells.map .p], []⟩)) ?_⟩
  cases h1 : (x.nm == y.nm) with
  | false => simp [fc26, evKC, evK, evGuard, put, Env.get, Env.keep, entry, Opd.ev, loadD, cutAt, binD, strBin, finish, evRes, evRes1, D.cells, isMapC, Fld.pd, Fld.cells, h1, rFld, intsP, one_slP]
  | true =>
    cases h2 : (x.v == y.v) with
    | false => simp [fc26, evKC, evK, evGuard, put, Env.get, Env.keep, entry, Opd.ev, loadD, cutAt, binD, strBin, finish, evRes, evRes1, D.cells, eqD, isMapC, Fld.pd, Fld.cells, h1, h2, rFld, intsP, one_slP]
    | true =>
      simp only [intsP] at hq
      simp [fc26, evKC, evK, evGuard, put, Env.get, Env.keep, entry, Opd.ev, loadD, cutAt, binD, strBin, finish, evRes, evRes1, D.cells, eqD, isMapC, Fld.pd, Fld.cells, h1, h2, rFld, intsP, hq, one_slP]

theorem fld_eq (x y : Fld) (hb : (els x.l).length ≤ 4611686018427387904) (H : Hp) : callD (call pg) 26 [.p x.pd, .p y.pd] H = some (.val (.p (.bool (rFld x y))), H) := callD_any (fld0 x y hb) rfl rfl rfl rfl H

theorem prd0 (x y : Prd) (hb : (els x.l).length ≤ 4611686018427387904) (hs : x.b.size ≤ 1000000000) : ∃ H', call pg 28 [.p x.pd, .p y.pd] ⟨[], []⟩ = some (.val (.p (.bool (rPrd x y))), H') := by
  have hq := fun H => eq29_eq x.l y.l hb H
  have hn := fun H => equalNodes_eq (b := y.b) hs H
  have o1 := one_of (prd_one x)
  have o2 := one_of (prd_one y)
  have l1 : ∀ G, loadD G ⟨[x.cells.map .p, y.cells.map .p], []⟩ (some 5) (.box 0 2) = some (.p x.b.pd) := fun G => by rw [pd_cells]; exact load_at (pre := [.str x.nm, prmsP x.l]) rfl rfl rfl
  have l2 : ∀ G, loadD G ⟨[x.cells.map .p, y.cells.map .p], []⟩ (some 5) (.box 1 2) = some (.p y.b.pd) := fun G => by rw [pd_cells]; exact load_at (pre := [.str y.nm, prmsP y.l]) rfl rfl rfl
  have l3 : ∀ G, loadD G ⟨[x.cells.map .p, y.cells.map .p], []⟩ none (.box 0 0) = some (.p (.str x.nm)) := fun G => rfl
  have l4 : ∀ G, loadD G ⟨[x.cells.map .p, y.cells.map .p], []⟩ none (.box 1 0) = some (.p (.str y.nm)) := fun G => rfl
  have l5 : ∀ G, loadD G ⟨[x.cells.map .p, y.cells.map .p], []⟩ none (.box 0 1) = some (.p (prmsP x.l)) := fun G => rfl
  have l6 : ∀ G, loadD G ⟨[x.cells.map .p, y.cells.map .p], []⟩ none (.box 1 1) = some (.p (prmsP y.l)) := fun G => rfl
  refine ⟨_, call_body (fc := fc28) rfl rfl rfl rfl (r := (_, ⟨[x.cells.map .p, y.cells.map .p], []⟩)) ?_⟩
  cases h1 : (x.nm == y.nm) with
  | false => simp [fc28, evKC, evK, evGuard, put, Env.get, Env.keep, entry, Opd.ev, binD, strBin, finish, evRes, evRes1, D.cells, Prd.pd, o1, o2, l3, l4, h1, rPrd]
  | true =>
    cases h2 : eqAll rPrm (els x.l) (els y.l) with
    | false => simp [fc28, evKC, evK, evGuard, put, Env.get, Env.keep, entry, Opd.ev, binD, strBin, finish, evRes, evRes1, D.cells, Prd.pd, o1, o2, l3, l4, l5, l6, h1, h2, rPrd, hq]
    | true => simp [fc28, evKC, evK, evGuard, put, Env.get, Env.keep, entry, Opd.ev, binD, strBin, finish, evRes, evRes1, D.cells, Prd.pd, o1, o2, l1, l2, l3, l4, l5, l6, h1, h2, rPrd, hq, hn]

theorem prd_eq (x y : Prd) (hb : (els x.l).length ≤ 4611686018427387904) (hs : x.b.size ≤ 1000000000) (H : Hp) : callD (call pg) 28 [.p x.pd, .p y.pd] H = some (.val (.p (.bool (rPrd x y))), H) := callD_any (prd0 x y hb hs) rfl rfl rfl rfl H

theorem fct0 (x y : Fct) (hs : x.b.size ≤ 1000000000) : ∃ H', call pg 30 [.p x.pd, .p y.pd] ⟨[], []⟩ = some (.val (.p (.bool (rFct x y))), H') := by
  have hn := fun H => equalNodes_eq (b := y.b) hs H
  have o1 := one_of (fct_one x)
  have o2 := one_of (fct_one y)
  have l1 : ∀ G, loadD G ⟨[x.cells.map .p, y.cells.map .p], []⟩ (some 5) (.box 0 1) = some (.p x.b.pd) := fun G => by rw [pd_cells]; exact load_at (pre := [.str x.nm]) rfl rfl rfl
  have l2 : ∀ G, loadD G ⟨[x.cells.map .p, y.cells.map .p], []⟩ (some 5) (.box 1 1) = some (.p y.b.pd) := fun G => by rw [pd_cells]; exact load_at (pre := [.str y.nm]) rfl rfl rfl
  have l3 : ∀ G, loadD G ⟨[x.cells.map .p, y.cells.map .p], []⟩ none (.box 0 0) = some (.p (.str x.nm)) := fun G => rfl
  have l4 : ∀ G, loadD G ⟨[x.cells.map .p, y.cells.map .p], []⟩ none (.box 1 0) = some (.p (.str y.nm)) := fun G => rfl
  refine ⟨_, call_body (fc := fc30) rfl rfl rfl rfl (r := (_, ⟨[x.cells.map .p, y.cells.map .p], []⟩)) ?_⟩
  cases h1 : (x.nm == y.nm) with
  | false => simp [fc30, evKC, evK, evGuard, put, Env.get, Env.keep, entry, Opd.ev, binD, strBin, finish, evRes, evRes1, D.cells, Fct.pd, o1, o2, l3, l4, h1, rFct]
  | true => simp [fc30, evKC, evK, evGuard, put, Env.get, Env.keep, entry, Opd.ev, binD, strBin, finish, evRes, evRes1, D.cells, Fct.pd, o1, o2, l1, l2, l3, l4, h1, rFct, hn]

theorem fct_eq (x y : Fct) (hs : x.b.size ≤ 1000000000) (H : Hp) : callD (call pg) 30 [.p x.pd, .p y.pd] H = some (.val (.p (.bool (rFct x y))), H) := callD_any (fct0 x y hs) rfl rfl rfl rfl H

/-! EqualFunc. -/
theorem flds_eq (a b : Sl Fld) (hn : (els a).length ≤ 4611686018427387904) (hl : ∀ x ∈ els a, (els x.l).length ≤ 4611686018427387904) (H : Hp) : callD (call pg) 32 [.p (fldsP a), .p (fldsP b), .fn 26 [] []] H = some (.val (.p (.bool (eqAll rFld (els a) (els b)))), H) :=
  callD_pure (eqf_eq (p := pg) (fi := 32) (g := 26) (sz := 3) (zs := [.str [], .nils, .bool false]) rfl rfl rfl (by decide) rfl (fun x _ => rec_fld x) (fun x _ => rec_fld x) (fun _ h1 _ H => fld_eq _ _ (hl _ (List.getElem_mem h1)) H) hn) rfl rfl rfl rfl

theorem prds_eq (a b : Sl Prd) (hn : (els a).length ≤ 4611686018427387904) (hl : ∀ x ∈ els a, (els x.l).length ≤ 4611686018427387904 ∧ x.b.size ≤ 1000000000) (H : Hp) : callD (call pg) 33 [.p (prdsP a), .p (prdsP b), .fn 28 [] []] H = some (.val (.p (.bool (eqAll rPrd (els a) (els b)))), H) :=
  callD_pure (eqf_eq (p := pg) (fi := 33) (g := 28) (sz := 7) (zs := [.str [], .nils, .int .i64 0, .str [], .int .i64 0, .nils, .int .i64 0]) rfl rfl rfl (by decide) rfl (fun x _ => rec_prd x) (fun x _ => rec_prd x) (fun _ h1 _ H => prd_eq _ _ (hl _ (List.getElem_mem h1)).1 (hl _ (List.getElem_mem h1)).2 H) hn) rfl rfl rfl rfl

theorem fcts_eq (a b : Sl Fct) (hn : (els a).length ≤ 4611686018427387904) (hl : ∀ x ∈ els a, x.b.size ≤ 1000000000) (H : Hp) : callD (call pg) 34 [.p (fctsP a), .p (fctsP b), .fn 30 [] []] H = some (.val (.p (.bool (eqAll rFct (els a) (els b)))), H) :=
  callD_pure (eqf_eq (p := pg) (fi := 34) (g := 30) (sz := 6) (zs := [.str [], .int .i64 0, .str [], .int .i64 0, .nils, .int .i64 0]) rfl rfl rfl (by decide) rfl (fun x _ => rec_fct x) (fun x _ => rec_fct x) (fun _ h1 _ H => fct_eq _ _ (hl _ (List.getElem_mem h1)) H) hn) rfl rfl rfl rfl

/-- A specification whose lists are short and whose trees are small. -/
def Mod (x : Spc) : Prop := (els x.s).length ≤ 20 ∧ (els x.f).length ≤ 20 ∧ (els x.p).length ≤ 20 ∧ (els x.q).length ≤ 20 ∧ (∀ y ∈ els x.f, (els y.l).length ≤ 20) ∧ (∀ y ∈ els x.p, y.b.size ≤ 400 ∧ (els y.l).length ≤ 20) ∧ ∀ y ∈ els x.q, y.b.size ≤ 400

def rSpc (x y : Spc) : Bool := eqAll rSrt (els x.s) (els y.s) && eqAll rFld (els x.f) (els y.f) && eqAll rPrd (els x.p) (els y.p) && eqAll rFct (els x.q) (els y.q)

theorem spc0 (x y : Spc) (hm : Mod x) : ∃ H', call pg 11 [.p x.pd, .p y.pd] ⟨[], []⟩ = some (.val (.p (.bool (rSpc x y))), H') := by
  obtain ⟨m1, m2, m3, m4, m5, m6, m7⟩ := hm
  have q1 := fun H => eq31_eq x.s y.s (by omega) H
  have q2 := fun H => flds_eq x.f y.f (by omega) (fun z h => by have := m5 z h; omega) H
  have q3 := fun H => prds_eq x.p y.p (by omega) (fun z h => by have := m6 z h; exact ⟨by omega, by omega⟩) H
  have q4 := fun H => fcts_eq x.q y.q (by omega) (fun z h => by have := m7 z h; omega) H
  have o1 := one_of (spc_one x)
  have o2 := one_of (spc_one y)
  have a0 : ∀ G, loadD G ⟨[x.cells.map .p, y.cells.map .p], []⟩ none (.box 0 0) = some (.p (srtsP x.s)) := fun G => rfl
  have a1 : ∀ G, loadD G ⟨[x.cells.map .p, y.cells.map .p], []⟩ none (.box 0 1) = some (.p (fldsP x.f)) := fun G => rfl
  have a2 : ∀ G, loadD G ⟨[x.cells.map .p, y.cells.map .p], []⟩ none (.box 0 2) = some (.p (prdsP x.p)) := fun G => rfl
  have a3 : ∀ G, loadD G ⟨[x.cells.map .p, y.cells.map .p], []⟩ none (.box 0 3) = some (.p (fctsP x.q)) := fun G => rfl
  have b0 : ∀ G, loadD G ⟨[x.cells.map .p, y.cells.map .p], []⟩ none (.box 1 0) = some (.p (srtsP y.s)) := fun G => rfl
  have b1 : ∀ G, loadD G ⟨[x.cells.map .p, y.cells.map .p], []⟩ none (.box 1 1) = some (.p (fldsP y.f)) := fun G => rfl
  have b2 : ∀ G, loadD G ⟨[x.cells.map .p, y.cells.map .p], []⟩ none (.box 1 2) = some (.p (prdsP y.p)) := fun G => rfl
  have b3 : ∀ G, loadD G ⟨[x.cells.map .p, y.cells.map .p], []⟩ none (.box 1 3) = some (.p (fctsP y.q)) := fun G => rfl
  refine ⟨_, call_body (fc := fc11) rfl rfl rfl rfl (r := (_, ⟨[x.cells.map .p, y.cells.map .p], []⟩)) ?_⟩
  simp only [rSpc]
  cases h1 : eqAll rSrt (els x.s) (els y.s) with
  | false => simp [fc11, evKC, evK, evGuard, put, Env.get, Env.keep, entry, Opd.ev, finish, evRes, evRes1, D.cells, Spc.pd, o1, o2, a0, b0, h1, q1]
  | true =>
    cases h2 : eqAll rFld (els x.f) (els y.f) with
    | false => simp [fc11, evKC, evK, evGuard, put, Env.get, Env.keep, entry, Opd.ev, finish, evRes, evRes1, D.cells, Spc.pd, o1, o2, a0, b0, a1, b1, h1, h2, q1, q2]
    | true =>
      cases h3 : eqAll rPrd (els x.p) (els y.p) with
      | false => simp [fc11, evKC, evK, evGuard, put, Env.get, Env.keep, entry, Opd.ev, finish, evRes, evRes1, D.cells, Spc.pd, o1, o2, a0, b0, a1, b1, a2, b2, h1, h2, h3, q1, q2, q3]
      | true => simp [fc11, evKC, evK, evGuard, put, Env.get, Env.keep, entry, Opd.ev, finish, evRes, evRes1, D.cells, Spc.pd, o1, o2, a0, b0, a1, b1, a2, b2, a3, b3, h1, h2, h3, q1, q2, q3, q4]

theorem spc_eq (x y : Spc) (hm : Mod x) (H : Hp) : callD (call pg) 11 [.p x.pd, .p y.pd] H = some (.val (.p (.bool (rSpc x y))), H) := callD_any (spc0 x y hm) rfl rfl rfl rfl H

end Go.Proofs.YtalgjkpkkdljaaaDoor

/-! modest. Printed by mkE4.py. -/
namespace Go.Proofs.YtalgjkpkkdljaaaDoor
open Go.Vs

def okF (y : Fld) : Bool := decide ((els y.l).length ≤ 20)
def okP (y : Prd) : Bool := decide (y.b.size ≤ 400) && decide ((els y.l).length ≤ 20)
def okQ (y : Fct) : Bool := decide (y.b.size ≤ 400)

theorem len_flds (o : Sl Fld) : lenD 1 (.p (fldsP o)) = some (els o).length := len_map ..

theorem ia_flds {o : Sl Fld} {k : Nat} (h : k < (els o).length) : iaddrD none 3 (.p (fldsP o)) (k : Int) = some (.ro ((els o)[k]).cells 0) := ia_map h

theorem modf (x : Spc) (hb : (els x.f).length ≤ 20) : ∀ (n k : Nat), k ≤ (els x.f).length → (els x.f).length - k ≤ n →
    ∃ env, env.get 1 = .box 0 0 ∧ loopK (call pg) pg.G [1, 3] fc8_b0 ⟨[(1, .box 0 0), (3, .p (.int .i64 k))], ⟨[x.cells.map .p], []⟩⟩ =
      some (if ((els x.f).drop k).all okF then (.exit 0, ⟨env, ⟨[x.cells.map .p], []⟩⟩) else (.ret, ⟨[(2, .p (.bool false))], ⟨[x.cells.map .p], []⟩⟩)) := by
  intro n
  have hn := len_flds x.f
  have hld : ∀ G, loadD G ⟨[x.cells.map .p], []⟩ none (.box 0 1) = some (.p (fldsP x.f)) := fun G => rfl
  induction n with
  | zero =>
    intro k hk hn'
    have he : k = (els x.f).length := by omega
    refine ⟨[(1, .box 0 0), (3, .p (.int .i64 k)), (34, .p (.bool false))], rfl, ?_⟩
    rw [List.drop_eq_nil_of_le (by omega)]
    refine loopK_out (o := .exit 0) ?_ (by simp)
    simp [fc8_b0, evKC, evK, put, Env.get, Env.keep, Opd.ev, binD, List.map, hn, hld, he]
  | succ n ih =>
    intro k hk hn'
    by_cases he : k = (els x.f).length
    · refine ⟨[(1, .box 0 0), (3, .p (.int .i64 k)), (34, .p (.bool false))], rfl, ?_⟩
      rw [List.drop_eq_nil_of_le (by omega)]
      refine loopK_out (o := .exit 0) ?_ (by simp)
      simp [fc8_b0, evKC, evK, put, Env.get, Env.keep, Opd.ev, binD, List.map, hn, hld, he]
    · have hlt : k < (els x.f).length := by omega
      have hlt' : (k : Int) < ((els x.f).length : Int) := by omega
      have hia := ia_flds hlt
      have hk1 := inc64 (k := k) (by omega)
      obtain ⟨env, g1, he⟩ := ih (k + 1) (by omega) (by omega)
      refine ⟨env, g1, ?_⟩
      rw [List.drop_eq_getElem_cons hlt, List.all_cons]
      generalize (els x.f)[k] = y at hia
      have l1 : ∀ (G : Nat → Option (List PD)) H, loadD G H none (.ro y.cells 1) = some (.p (intsP y.l)) := fun G H => rfl
      have n1 := len27 y.l
      by_cases h1 : (els y.l).length ≤ 20
      · have d1 : ¬ (20 : Int) < ((els y.l).length : Int) := by omega
        simp only [okF, decide_eq_true h1, Bool.true_and]
        rw [← he]
        refine loopK_norm ?_
        simp [fc8_b0, evKC, evK, put, Env.get, Env.keep, Opd.ev, D.asInt?, binD, List.map, hn, hld, hlt', hia, l1, n1, d1, hk1]
      · have d1 : (20 : Int) < ((els y.l).length : Int) := by omega
        simp only [okF, decide_eq_false h1, Bool.false_and]
        refine loopK_out (o := .ret) ?_ (by simp)
        simp [fc8_b0, evKC, evK, put, Env.get, Env.keep, Opd.ev, D.asInt?, binD, List.map, hn, hld, hlt', hia, l1, n1, d1]


theorem len_prds (o : Sl Prd) : lenD 1 (.p (prdsP o)) = some (els o).length := len_map ..

theorem ia_prds {o : Sl Prd} {k : Nat} (h : k < (els o).length) : iaddrD none 7 (.p (prdsP o)) (k : Int) = some (.ro ((els o)[k]).cells 0) := ia_map h

theorem modp (x : Spc) (hb : (els x.p).length ≤ 20) : ∀ (n k : Nat), k ≤ (els x.p).length → (els x.p).length - k ≤ n →
    ∃ env, env.get 1 = .box 0 0 ∧ loopK (call pg) pg.G [1, 4] fc8_b1 ⟨[(1, .box 0 0), (4, .p (.int .i64 k))], ⟨[x.cells.map .p], []⟩⟩ =
      some (if ((els x.p).drop k).all okP then (.exit 2, ⟨env, ⟨[x.cells.map .p], []⟩⟩) else (.ret, ⟨[(2, .p (.bool false))], ⟨[x.cells.map .p], []⟩⟩)) := by
  intro n
  have hn := len_prds x.p
  have hld : ∀ G, loadD G ⟨[x.cells.map .p], []⟩ none (.box 0 2) = some (.p (prdsP x.p)) := fun G => rfl
  induction n with
  | zero =>
    intro k hk hn'
    have he : k = (els x.p).length := by omega
    refine ⟨[(1, .box 0 0), (4, .p (.int .i64 k)), (49, .p (.bool false))], rfl, ?_⟩
    rw [List.drop_eq_nil_of_le (by omega)]
    refine loopK_out (o := .exit 2) ?_ (by simp)
    simp [fc8_b1, evKC, evK, put, Env.get, Env.keep, Opd.ev, binD, mapO, D.ren, locD, below, Out.ren, List.map, hn, hld, he]
  | succ n ih =>
    intro k hk hn'
    by_cases he : k = (els x.p).length
    · refine ⟨[(1, .box 0 0), (4, .p (.int .i64 k)), (49, .p (.bool false))], rfl, ?_⟩
      rw [List.drop_eq_nil_of_le (by omega)]
      refine loopK_out (o := .exit 2) ?_ (by simp)
      simp [fc8_b1, evKC, evK, put, Env.get, Env.keep, Opd.ev, binD, mapO, D.ren, locD, below, Out.ren, List.map, hn, hld, he]
    · have hlt : k < (els x.p).length := by omega
      have hlt' : (k : Int) < ((els x.p).length : Int) := by omega
      have hia := ia_prds hlt
      have hk1 := inc64 (k := k) (by omega)
      obtain ⟨env, g1, he⟩ := ih (k + 1) (by omega) (by omega)
      refine ⟨env, g1, ?_⟩
      rw [List.drop_eq_getElem_cons hlt, List.all_cons]
      generalize (els x.p)[k] = y at hia
      have l1 : ∀ (G : Nat → Option (List PD)) H, loadD G H none (.ro y.cells 1) = some (.p (prmsP y.l)) := fun G H => rfl
      have l2 : ∀ (G : Nat → Option (List PD)) H, loadD G H (some 5) (.ro y.cells 2) = some (.p y.b.pd) := fun G H => by rw [pd_cells]; exact ro_at (pre := [.str y.nm, prmsP y.l]) rfl rfl
      have n1 := len29 y.l
      have hc := small_eq y.b
      by_cases h0 : y.b.size ≤ 400
      · simp only [decide_eq_true h0] at hc
        by_cases h1 : (els y.l).length ≤ 20
        · have d1 : ¬ (20 : Int) < ((els y.l).length : Int) := by omega
          simp only [okP, decide_eq_true h0, decide_eq_true h1, Bool.true_and]
          rw [← he]
          refine loopK_norm ?_
          simp [fc8_b1, evKC, evK, evGuard, put, Env.get, Env.keep, Opd.ev, D.asInt?, binD, unD, mapO, D.ren, locD, below, Out.ren, List.map, hn, hld, hlt', hia, l1, l2, n1, d1, hk1, hc]
        · have d1 : (20 : Int) < ((els y.l).length : Int) := by omega
          simp only [okP, decide_eq_true h0, decide_eq_false h1, Bool.true_and, Bool.false_and]
          refine loopK_out (o := .ret) ?_ (by simp)
          simp [fc8_b1, evKC, evK, evGuard, put, Env.get, Env.keep, Opd.ev, D.asInt?, binD, unD, mapO, D.ren, locD, Out.ren, List.map, hn, hld, hlt', hia, l1, l2, n1, d1, hc]
      · simp only [decide_eq_false h0] at hc
        simp only [okP, decide_eq_false h0, Bool.false_and]
        refine loopK_out (o := .ret) ?_ (by simp)
        simp [fc8_b1, evKC, evK, evGuard, put, Env.get, Env.keep, Opd.ev, D.asInt?, binD, unD, mapO, D.ren, locD, Out.ren, List.map, hn, hld, hlt', hia, l2, hc]


theorem len_fcts (o : Sl Fct) : lenD 1 (.p (fctsP o)) = some (els o).length := len_map ..

theorem ia_fcts {o : Sl Fct} {k : Nat} (h : k < (els o).length) : iaddrD none 6 (.p (fctsP o)) (k : Int) = some (.ro ((els o)[k]).cells 0) := ia_map h

theorem modq (x : Spc) (hb : (els x.q).length ≤ 20) : ∀ (n k : Nat), k ≤ (els x.q).length → (els x.q).length - k ≤ n →
    ∃ env, env.get 1 = .box 0 0 ∧ loopK (call pg) pg.G [1, 6] fc8_b2 ⟨[(1, .box 0 0), (6, .p (.int .i64 k))], ⟨[x.cells.map .p], []⟩⟩ =
      some (if ((els x.q).drop k).all okQ then (.exit 4, ⟨env, ⟨[x.cells.map .p], []⟩⟩) else (.ret, ⟨[(2, .p (.bool false))], ⟨[x.cells.map .p], []⟩⟩)) := by
  intro n
  have hn := len_fcts x.q
  have hld : ∀ G, loadD G ⟨[x.cells.map .p], []⟩ none (.box 0 3) = some (.p (fctsP x.q)) := fun G => rfl
  induction n with
  | zero =>
    intro k hk hn'
    have he : k = (els x.q).length := by omega
    refine ⟨[(1, .box 0 0), (6, .p (.int .i64 k)), (75, .p (.bool false))], rfl, ?_⟩
    rw [List.drop_eq_nil_of_le (by omega)]
    refine loopK_out (o := .exit 4) ?_ (by simp)
    simp [fc8_b2, evKC, evK, put, Env.get, Env.keep, Opd.ev, binD, mapO, D.ren, locD, below, Out.ren, List.map, hn, hld, he]
  | succ n ih =>
    intro k hk hn'
    by_cases he : k = (els x.q).length
    · refine ⟨[(1, .box 0 0), (6, .p (.int .i64 k)), (75, .p (.bool false))], rfl, ?_⟩
      rw [List.drop_eq_nil_of_le (by omega)]
      refine loopK_out (o := .exit 4) ?_ (by simp)
      simp [fc8_b2, evKC, evK, put, Env.get, Env.keep, Opd.ev, binD, mapO, D.ren, locD, below, Out.ren, List.map, hn, hld, he]
    · have hlt : k < (els x.q).length := by omega
      have hlt' : (k : Int) < ((els x.q).length : Int) := by omega
      have hia := ia_fcts hlt
      have hk1 := inc64 (k := k) (by omega)
      obtain ⟨env, g1, he⟩ := ih (k + 1) (by omega) (by omega)
      refine ⟨env, g1, ?_⟩
      rw [List.drop_eq_getElem_cons hlt, List.all_cons]
      generalize (els x.q)[k] = y at hia
      have l2 : ∀ (G : Nat → Option (List PD)) H, loadD G H (some 5) (.ro y.cells 1) = some (.p y.b.pd) := fun G H => by rw [pd_cells]; exact ro_at (pre := [.str y.nm]) rfl rfl
      have hc := small_eq y.b
      by_cases h0 : y.b.size ≤ 400
      · simp only [decide_eq_true h0] at hc
        simp only [okQ, decide_eq_true h0, Bool.true_and]
        rw [← he]
        refine loopK_norm ?_
        simp [fc8_b2, evKC, evK, put, Env.get, Env.keep, Opd.ev, D.asInt?, binD, unD, mapO, D.ren, locD, below, Out.ren, List.map, hn, hld, hlt', hia, l2, hk1, hc]
      · simp only [decide_eq_false h0] at hc
        simp only [okQ, decide_eq_false h0, Bool.false_and]
        refine loopK_out (o := .ret) ?_ (by simp)
        simp [fc8_b2, evKC, evK, put, Env.get, Env.keep, Opd.ev, D.asInt?, binD, unD, mapO, D.ren, locD, Out.ren, List.map, hn, hld, hlt', hia, l2, hc]


instance (x : Spc) : Decidable (Mod x) := by unfold Mod; exact inferInstance

theorem modest0 (x : Spc) : ∃ H', call pg 8 [.p x.pd] ⟨[], []⟩ = some (.val (.p (.bool (decide (Mod x)))), H') := by
  have o1 := one_of (spc_one x)
  have a0 : ∀ G, loadD G ⟨[x.cells.map .p], []⟩ none (.box 0 0) = some (.p (srtsP x.s)) := fun G => rfl
  have a1 : ∀ G, loadD G ⟨[x.cells.map .p], []⟩ none (.box 0 1) = some (.p (fldsP x.f)) := fun G => rfl
  have a2 : ∀ G, loadD G ⟨[x.cells.map .p], []⟩ none (.box 0 2) = some (.p (prdsP x.p)) := fun G => rfl
  have a3 : ∀ G, loadD G ⟨[x.cells.map .p], []⟩ none (.box 0 3) = some (.p (fctsP x.q)) := fun G => rfl
  have n0 := len31 x.s
  have n1 := len_flds x.f
  have n2 := len_prds x.p
  have n3 := len_fcts x.q
  refine ⟨_, call_body (fc := fc8) rfl rfl rfl rfl (r := (_, ⟨[x.cells.map .p], []⟩)) ?_⟩
  by_cases h0 : (els x.s).length ≤ 20
  · have d0 : ¬ (20 : Int) < ((els x.s).length : Int) := by omega
    by_cases h1 : (els x.f).length ≤ 20
    · have d1 : ¬ (20 : Int) < ((els x.f).length : Int) := by omega
      by_cases h2 : (els x.p).length ≤ 20
      · have d2 : ¬ (20 : Int) < ((els x.p).length : Int) := by omega
        by_cases h3 : (els x.q).length ≤ 20
        · have d3 : ¬ (20 : Int) < ((els x.q).length : Int) := by omega
          have hm : decide (Mod x) = ((els x.f).all okF && (els x.p).all okP && (els x.q).all okQ) := by
            rw [Bool.eq_iff_iff]
            simp only [decide_eq_true_eq, Mod, Bool.and_eq_true, List.all_eq_true, okF, okP, okQ, h0, h1, h2, h3, true_and, and_assoc]
          rw [hm]
          obtain ⟨e1, g1, w1⟩ := modf x h1 _ 0 (by omega) (Nat.le_refl _)
          obtain ⟨e2, g2, w2⟩ := modp x h2 _ 0 (by omega) (Nat.le_refl _)
          obtain ⟨e3, g3, w3⟩ := modq x h3 _ 0 (by omega) (Nat.le_refl _)
          rw [List.drop_zero] at w1 w2 w3
          simp only [Int.natCast_zero] at w1 w2 w3
          cases c1 : (els x.f).all okF with
          | false =>
            rw [c1] at w1
            simp [fc8, evKC, evK, evGuard, put, Env.get, Env.keep, entry, Opd.ev, binD, finish, evRes, evRes1, D.cells, List.map, Spc.pd, o1, a0, a1, a2, a3, n0, n1, n2, n3, d0, d1, d2, d3, w1]
          | true =>
            rw [c1] at w1
            cases c2 : (els x.p).all okP with
            | false =>
              rw [c2] at w2
              simp [fc8, evKC, evK, evGuard, put, Env.get, Env.keep, entry, Opd.ev, binD, finish, evRes, evRes1, D.cells, List.map, Spc.pd, o1, a0, a1, a2, a3, n0, n1, n2, n3, d0, d1, d2, d3, w1, g1, w2]
            | true =>
              rw [c2] at w2
              cases c3 : (els x.q).all okQ with
              | false =>
                rw [c3] at w3
                simp [fc8, evKC, evK, evGuard, put, Env.get, Env.keep, entry, Opd.ev, binD, finish, evRes, evRes1, D.cells, List.map, Spc.pd, o1, a0, a1, a2, a3, n0, n1, n2, n3, d0, d1, d2, d3, w1, g1, w2, g2, w3]
              | true =>
                rw [c3] at w3
                simp [fc8, evKC, evK, evGuard, put, Env.get, Env.keep, entry, Opd.ev, binD, finish, evRes, evRes1, D.cells, List.map, Spc.pd, o1, a0, a1, a2, a3, n0, n1, n2, n3, d0, d1, d2, d3, w1, g1, w2, g2, w3]
        · have d3 : (20 : Int) < ((els x.q).length : Int) := by omega
          rw [decide_eq_false (fun h => h3 h.2.2.2.1)]
          simp [fc8, evKC, evK, evGuard, put, Env.get, Env.keep, entry, Opd.ev, binD, finish, evRes, evRes1, D.cells, List.map, Spc.pd, o1, a0, a1, a2, a3, n0, n1, n2, n3, d0, d1, d2, d3]
      · have d2 : (20 : Int) < ((els x.p).length : Int) := by omega
        rw [decide_eq_false (fun h => h2 h.2.2.1)]
        simp [fc8, evKC, evK, evGuard, put, Env.get, Env.keep, entry, Opd.ev, binD, finish, evRes, evRes1, D.cells, List.map, Spc.pd, o1, a0, a1, a2, n0, n1, n2, d0, d1, d2]
    · have d1 : (20 : Int) < ((els x.f).length : Int) := by omega
      rw [decide_eq_false (fun h => h1 h.2.1)]
      simp [fc8, evKC, evK, evGuard, put, Env.get, Env.keep, entry, Opd.ev, binD, finish, evRes, evRes1, D.cells, List.map, Spc.pd, o1, a0, a1, n0, n1, d0, d1]
  · have d0 : (20 : Int) < ((els x.s).length : Int) := by omega
    rw [decide_eq_false (fun h => h0 h.1)]
    simp [fc8, evKC, evK, evGuard, put, Env.get, Env.keep, entry, Opd.ev, binD, finish, evRes, evRes1, D.cells, List.map, Spc.pd, o1, a0, n0, d0]

theorem modest_eq (x : Spc) (H : Hp) : callD (call pg) 8 [.p x.pd] H = some (.val (.p (.bool (decide (Mod x)))), H) := callD_any (modest0 x) rfl rfl rfl rfl H

end Go.Proofs.YtalgjkpkkdljaaaDoor

/-! moved: a tree with other offsets. -/
namespace Go.Proofs.YtalgjkpkkdljaaaDoor
open Go.Vs

mutual
def mvN : Nd → Int → Nd
  | .mk op nm n _ ks pos, b => .mk op nm n 1 (mvL ks b 0) (IntKind.i64.wrap (pos + b))
def mvL : List Nd → Int → Nat → List Nd
  | [], _, _ => []
  | k :: ks, b, i => mvN k (IntKind.i64.wrap (b + (i : Int))) :: mvL ks b (i + 1)
end

theorem kids_c1 (op : Int) (nm : List UInt8) (n : Int) (ks : List Nd) (pos : Int) : (Nd.mk op nm n 1 ks pos).kidsP = .slice 5 (ks.map Nd.pd) := by
  cases ks <;> rfl

theorem mv_cells (a : Nd) (b : Int) : (mvN a b).cells = [.int .i64 a.op, .str a.nm, .int .i64 a.n, .slice 5 ((mvL a.ks b 0).map Nd.pd), .int .i64 (IntKind.i64.wrap (a.pos + b))] := by
  cases a
  simp only [mvN, Nd.cells, kids_c1]
  rfl

theorem one_ofP {cs : List PD} (h : ∀ c ∈ cs, c.one = true) : (∀ x, x ∈ cs → x.one = true) = True := eq_true h

def mvBox (a : Nd) (b : Int) (acc : List PD) : List D := [.p (.int .i64 a.op), .p (.str a.nm), .p (.int .i64 a.n), .tsl 0 24 5 acc, .p (.int .i64 (IntKind.i64.wrap (a.pos + b)))]
def zBox : List D := [.p (.int .i64 0), .p (.str []), .p (.int .i64 0), .p .nils, .p (.int .i64 0)]

theorem ren_z (f g : Nat → Option Nat) : D.renL f g zBox = some zBox := rfl
theorem ren_mv (a : Nd) (b : Int) (acc : List PD) (f : Nat → Option Nat) : D.renL f (below 1) (mvBox a b acc) = some (mvBox a b acc) := rfl

theorem mv_loop {a : Nd} {b : Int} (hsz : a.ks.length ≤ 1000000) (ih : ∀ (k : Nd) (b : Int), k ∈ a.ks → ∀ H, callD (call pg) 20 [.p k.pd, .p (.int .i64 b)] H = some (.val (.agg ((mvN k b).cells.map .p)), H)) :
    ∀ (n k : Nat) (acc : List PD), a.ks.length - k ≤ n → k ≤ a.ks.length → acc.length = k →
    ∃ env, env.get 4 = .box 1 0 ∧ env.get 5 = .box 2 0 ∧ loopK (call pg) pg.G [1, 2, 4, 5, 6] fc20_b0 ⟨[(1, .p (.int .i64 b)), (2, .box 0 0), (4, .box 1 0), (5, .box 2 0), (6, .p (.int .i64 k))], ⟨[a.cells.map .p, zBox, mvBox a b acc], [acc.length]⟩⟩ =
      some (.exit 0, ⟨env, ⟨[a.cells.map .p, zBox, mvBox a b (acc ++ (mvL (a.ks.drop k) b k).map Nd.pd)], [(acc ++ (mvL (a.ks.drop k) b k).map Nd.pd).length]⟩⟩) := by
  intro n
  have hk0 := len_kids a
  have hld : ∀ G bx tk, loadD G ⟨a.cells.map .p :: bx, tk⟩ none (.box 0 3) = some (.p a.kidsP) := fun G bx tk => rfl
  induction n with
  | zero =>
    intro k acc hn hk h1
    have he : k = a.ks.length := by omega
    refine ⟨[(1, .p (.int .i64 b)), (2, .box 0 0), (4, .box 1 0), (5, .box 2 0), (6, .p (.int .i64 k)), (23, .p (.bool false))], rfl, rfl, ?_⟩
    rw [List.drop_eq_nil_of_le (by omega)]
    refine loopK_out (o := .exit 0) ?_ (by simp)
    simp [fc20_b0, mvL, zBox, mvBox, evKC, evK, put, Env.get, Env.keep, Opd.ev, binD, mapO, D.renL, D.ren, locD, below, Out.ren, List.map, hk0, hld, he]
  | succ n IH =>
    intro k acc hn hk h1
    by_cases he : k = a.ks.length
    · refine ⟨[(1, .p (.int .i64 b)), (2, .box 0 0), (4, .box 1 0), (5, .box 2 0), (6, .p (.int .i64 k)), (23, .p (.bool false))], rfl, rfl, ?_⟩
      rw [List.drop_eq_nil_of_le (by omega)]
      refine loopK_out (o := .exit 0) ?_ (by simp)
      simp [fc20_b0, mvL, zBox, mvBox, evKC, evK, put, Env.get, Env.keep, Opd.ev, binD, mapO, D.renL, D.ren, locD, below, Out.ren, List.map, hk0, hld, he]
    · have hlt : k < a.ks.length := by omega
      have hlt' : (k : Int) < (a.ks.length : Int) := by omega
      have hc := ih a.ks[k] (IntKind.i64.wrap (b + (k : Int))) (List.getElem_mem hlt)
      have hia := ia_kids hlt
      have hld2 := fun (G : Nat → Option (List PD)) (H : Hp) => load_nd (G := G) (H := H) a.ks[k]
      obtain ⟨env, g4, g5, e1⟩ := IH (k + 1) (acc ++ [(mvN a.ks[k] (IntKind.i64.wrap (b + (k : Int)))).pd]) (by omega) (by omega) (by simp [h1])
      refine ⟨env, g4, g5, ?_⟩
      have hacc : acc ++ [(mvN a.ks[k] (IntKind.i64.wrap (b + (k : Int)))).pd] ++ (mvL (a.ks.drop (k + 1)) b (k + 1)).map Nd.pd = acc ++ (mvL (a.ks.drop k) b k).map Nd.pd := by
        rw [List.drop_eq_getElem_cons hlt]
        simp [mvL]
      rw [hacc] at e1
      rw [← e1]
      refine loopK_norm ?_
      have hk1 := inc64 (k := k) (by omega)
      have hst : ∀ (x : Nd), storeD ⟨[a.cells.map .p, zBox, mvBox a b acc, [D.p (PD.int IntKind.i64 0), D.p (PD.str []), D.p (PD.int IntKind.i64 0), D.p PD.nils, D.p (PD.int IntKind.i64 0)]], [acc.length]⟩ 5 (.box 3 0) (.agg (x.cells.map .p)) = some ⟨[a.cells.map .p, zBox, mvBox a b acc, x.cells.map .p], [acc.length]⟩ := fun x => by
        have := store_box (H := ⟨[a.cells.map .p, zBox, mvBox a b acc, zBox], [acc.length]⟩) (i := 3) (zs := [.int .i64 0, .str [], .int .i64 0, .nils, .int .i64 0]) (cs := x.cells) (n := 5) rfl rfl rfl (by decide) (pd_one x)
        exact this
      have hlx : ∀ G (x : Nd), loadD G ⟨[a.cells.map .p, zBox, mvBox a b acc, x.cells.map .p], [acc.length]⟩ (some 5) (.box 3 0) = some (.p x.pd) := fun G x => load_ndb (i := 3) rfl
      have hl5 : ∀ G c tk, loadD G ⟨[a.cells.map .p, zBox, mvBox a b acc, c], tk⟩ none (.box 2 3) = some (.tsl 0 24 5 acc) := fun G c tk => rfl
      have hs5 : ∀ c tk acc', storeD ⟨[a.cells.map .p, zBox, mvBox a b acc, c], tk⟩ 1 (.box 2 3) (.tsl 0 24 5 acc') = some ⟨[a.cells.map .p, zBox, mvBox a b acc', c], tk⟩ := fun c tk acc' => by
        simp [storeD, mvBox, isMapC, splice, D.cells]
      have hro : roomy (acc.length + 1) 64 = true := by simp [roomy]; omega
      generalize mvN a.ks[k] (IntKind.i64.wrap (b + (k : Int))) = y at *
      generalize a.ks[k] = x at *
      have hy := pd_cells y
      have hyo := one_ofP (pd_one y)
      have hyl := nd_len y
      simp [fc20_b0, evKC, evK, put, Env.get, Env.keep, Opd.ev, D.asInt?, binD, mapO, PD.cells, fillE, appendD, srcD, D.elems?, D.asPD, srcH, D.ren, locD, below, Out.ren, List.map, hk0, hld, hlt', hia, hld2, hc, hk1, hy, hyo, hyl, ren_z, ren_mv, hst, hlx, hl5, hs5, hro]

theorem moved0 : ∀ (s : Nat) (a : Nd) (b : Int), a.size ≤ s → s ≤ 1000000 → ∃ Hl, call pg 20 [.p a.pd, .p (.int .i64 b)] ⟨[], []⟩ = some (.val (.agg (mvBox a b ((mvL a.ks b 0).map Nd.pd))), Hl) := by
  intro s
  induction s with
  | zero => intro a b h; have := size_eq a; omega
  | succ s ih =>
    intro a b hs hB
    have hlen := len_sizeL a.ks
    have hsz := size_eq a
    have hone := fun k c (h : c ∈ (mvN k b).cells) => pd_one (mvN k b) c h
    obtain ⟨env, g4, g5, e1⟩ := mv_loop (a := a) (b := b) (by omega) (fun k b hk H => by
      have hk' := size_kid hk
      obtain ⟨Hl, h⟩ := ih k b (by omega) (by omega)
      have e : (mvN k b).cells.map D.p = [.p (.int .i64 k.op), .p (.str k.nm), .p (.int .i64 k.n), .p (.slice 5 ((mvL k.ks b 0).map Nd.pd)), .p (.int .i64 (IntKind.i64.wrap (k.pos + b)))] := by rw [mv_cells]; rfl
      rw [e]
      exact callD_any ⟨Hl, h⟩ rfl rfl rfl rfl H) a.ks.length 0 [] (by omega) (by omega) rfl
    rw [List.drop_zero, List.nil_append] at e1
    simp only [Int.natCast_zero, List.length_nil] at e1
    simp only [Nd.cells, List.map_cons, List.map_nil, zBox, mvBox] at e1
    rw [pd_cells]
    refine ⟨_, call_body (fc := fc20) rfl rfl rfl rfl (r := (_, ⟨[a.cells.map .p, mvBox a b ((mvL a.ks b 0).map Nd.pd), mvBox a b ((mvL a.ks b 0).map Nd.pd)], [((mvL a.ks b 0).map Nd.pd).length]⟩)) ?_⟩
    simp [fc20, Nd.cells, mvBox, evKC, evK, put, Env.get, Env.keep, entry, Opd.ev, loadD, storeD, splice, cutAt, binD, sub, finish, evRes, evRes1, D.cells, mkAgg, pures, fillD, isMapC, List.map, tokbD, tokD, e1, g4, g5]

theorem moved_eq {a : Nd} (h : a.size ≤ 1000000) (b : Int) (H : Hp) : callD (call pg) 20 [.p a.pd, .p (.int .i64 b)] H = some (.val (.agg ((mvN a b).cells.map .p)), H) := by
  have e : (mvN a b).cells.map D.p = [.p (.int .i64 a.op), .p (.str a.nm), .p (.int .i64 a.n), .p (.slice 5 ((mvL a.ks b 0).map Nd.pd)), .p (.int .i64 (IntKind.i64.wrap (a.pos + b)))] := by rw [mv_cells]; rfl
  rw [e]
  exact callD_any (moved0 _ a b (Nat.le_refl _) h) rfl rfl rfl rfl H

/-! EqualNodes, of what moved gives. -/
theorem kids_eq {a b : Nd} (hB : a.size ≤ 1000000000) (H : Hp) : callD (call pg) 25 [.p a.kidsP, .p b.kidsP, .fn 9 [] []] H = some (.val (.p (.bool (eqAll eqN a.ks b.ks))), H) := by
  have hlen := len_sizeL a.ks
  have hsz := size_eq a
  have := eqf_eq (p := pg) (fi := 25) (g := 9) (sz := 5) (zs := [.int .i64 0, .str [], .int .i64 0, .nils, .int .i64 0]) (f := Nd.pd) (a := ndSl a.c a.ks) (b := ndSl b.c b.ks) (r := eqN) rfl rfl rfl (by decide) rfl
    (fun x _ => rec_nd x) (fun x _ => rec_nd x) (fun k h1 h2 H => by
      have hm : ∀ x ∈ els (ndSl a.c a.ks), x ∈ a.ks := fun x hx => by rw [els_ndSl] at hx; exact hx
      have hsk := size_kid (hm _ (List.getElem_mem h1))
      exact equalNodes_eq (by omega) H) (by rw [els_ndSl]; omega)
  rw [els_ndSl, els_ndSl] at this
  exact callD_pure this rfl rfl rfl rfl

theorem equalAgg0 {a b : Nd} (hB : a.size ≤ 1000000000) : ∃ H', call pg 9 [.p a.pd, .agg (b.cells.map .p)] ⟨[], []⟩ = some (.val (.p (.bool (eqN a b))), H') := by
  have hkids := fun H => kids_eq (b := b) hB H
  rw [pd_cells]
  refine ⟨_, call_body (fc := fc9) rfl rfl rfl rfl (r := (_, ⟨[a.cells.map .p, b.cells.map .p], []⟩)) ?_⟩
  have e := eqN_eq a b
  cases h1 : (a.op == b.op) with
  | false =>
    rw [h1] at e
    simp [fc9, evKC, evK, evGuard, put, Env.get, Env.keep, entry, Opd.ev, loadD, cutAt, binD, finish, evRes, evRes1, D.cells, isMapC, Nd.cells, h1, e]
  | true =>
    cases h2 : (a.nm == b.nm) with
    | false =>
      rw [h1, h2] at e
      simp [fc9, evKC, evK, evGuard, put, Env.get, Env.keep, entry, Opd.ev, loadD, cutAt, binD, strBin, finish, evRes, evRes1, D.cells, isMapC, Nd.cells, h1, h2, e]
    | true =>
      cases h3 : (a.n == b.n) with
      | false =>
        rw [h1, h2, h3] at e
        simp [fc9, evKC, evK, evGuard, put, Env.get, Env.keep, entry, Opd.ev, loadD, cutAt, binD, strBin, finish, evRes, evRes1, D.cells, isMapC, Nd.cells, h1, h2, h3, e]
      | true =>
        rw [h1, h2, h3] at e
        simp [fc9, evKC, evK, evGuard, put, Env.get, Env.keep, entry, Opd.ev, loadD, cutAt, binD, strBin, finish, evRes, evRes1, D.cells, isMapC, Nd.cells, h1, h2, h3, e, hkids]

theorem refsL_agg (a : PD) (l : List PD) : D.refsL [.p a, .agg (l.map .p)] = [] := by simp [D.refsL, D.refs]
theorem toksL_agg (a : PD) (l : List PD) : D.toksL [.p a, .agg (l.map .p)] = [] := by simp [D.toksL, D.toks]

theorem equalAgg_eq {a b : Nd} (h : a.size ≤ 1000000000) (H : Hp) : callD (call pg) 9 [.p a.pd, .agg (b.cells.map .p)] H = some (.val (.p (.bool (eqN a b))), H) :=
  callD_any (equalAgg0 h) (refsL_agg ..) (toksL_agg ..) (by simp [D.renL, D.ren]) rfl H

end Go.Proofs.YtalgjkpkkdljaaaDoor

/-! The fixed examples: run by the kernel. Equality is an equivalence. -/
namespace Go.Proofs.YtalgjkpkkdljaaaDoor
open Go.Vs

def isTrue : Option (Res × Hp) → Bool
  | some (.val (.p (.bool true)), _) => true
  | _ => false

theorem isTrue_some {o : Option (Res × Hp)} (h : isTrue o = true) : ∃ H, o = some (.val (.p (.bool true)), H) := by
  unfold isTrue at h
  split at h
  · exact ⟨_, rfl⟩
  · cases h

theorem head_run : isTrue (evF pg 60 6 [] ⟨[], []⟩) = true := by kernel_rfl

theorem head_eq (H : Hp) : callD (call pg) 6 [] H = some (.val (.p (.bool true)), H) := by
  obtain ⟨H', h⟩ := isTrue_some head_run
  exact callD_pure (call_of_evF 60 h) rfl rfl rfl rfl

mutual
theorem eqN_refl : ∀ a : Nd, eqN a a = true
  | .mk op nm n c ks pos => by simp [eqN, eqNL_refl ks]
theorem eqNL_refl : ∀ l : List Nd, eqNL l l = true
  | [] => rfl
  | a :: l => by simp [eqNL, eqN_refl a, eqNL_refl l]
end

mutual
theorem eqN_symm : ∀ a b : Nd, eqN a b = true → eqN b a = true
  | .mk op nm n c ks pos, .mk op' nm' n' c' ks' pos' => by
    simp only [eqN, Bool.and_eq_true, beq_iff_eq]
    rintro ⟨⟨⟨h1, h2⟩, h3⟩, h4⟩
    exact ⟨⟨⟨h1.symm, h2.symm⟩, h3.symm⟩, eqNL_symm ks ks' h4⟩
theorem eqNL_symm : ∀ a b : List Nd, eqNL a b = true → eqNL b a = true
  | [], [], _ => rfl
  | a :: x, b :: y, h => by
    simp only [eqNL, Bool.and_eq_true] at h ⊢
    exact ⟨eqN_symm a b h.1, eqNL_symm x y h.2⟩
  | [], _ :: _, h => by simp [eqNL] at h
  | _ :: _, [], h => by simp [eqNL] at h
end

theorem eqN_comm (a b : Nd) : eqN a b = eqN b a := by
  rw [Bool.eq_iff_iff]; exact ⟨eqN_symm a b, eqN_symm b a⟩

mutual
theorem eqN_trans : ∀ a b c : Nd, eqN a b = true → eqN b c = true → eqN a c = true
  | .mk op nm n _ ks pos, .mk op' nm' n' _ ks' pos', .mk op'' nm'' n'' _ ks'' pos'' => by
    simp only [eqN, Bool.and_eq_true, beq_iff_eq]
    rintro ⟨⟨⟨h1, h2⟩, h3⟩, h4⟩ ⟨⟨⟨g1, g2⟩, g3⟩, g4⟩
    exact ⟨⟨⟨h1.trans g1, h2.trans g2⟩, h3.trans g3⟩, eqNL_trans ks ks' ks'' h4 g4⟩
theorem eqNL_trans : ∀ a b c : List Nd, eqNL a b = true → eqNL b c = true → eqNL a c = true
  | [], [], [], _, _ => rfl
  | a :: x, b :: y, c :: z, h, g => by
    simp only [eqNL, Bool.and_eq_true] at h g ⊢
    exact ⟨eqN_trans a b c h.1 g.1, eqNL_trans x y z h.2 g.2⟩
  | [], _ :: _, _, h, _ => by simp [eqNL] at h
  | _ :: _, [], _, h, _ => by simp [eqNL] at h
  | _, [], _ :: _, _, h => by simp [eqNL] at h
  | _, _ :: _, [], _, h => by simp [eqNL] at h
end

mutual
theorem eqN_mv : ∀ (a : Nd) (b : Int), eqN a (mvN a b) = true
  | .mk op nm n c ks pos, b => by simp [mvN, eqN, eqNL_mv ks b 0]
theorem eqNL_mv : ∀ (l : List Nd) (b : Int) (i : Nat), eqNL l (mvL l b i) = true
  | [], _, _ => rfl
  | a :: l, b, i => by simp [mvL, eqNL, eqN_mv a, eqNL_mv l]
end

theorem eqAll_refl {α : Type} {r : α → α → Bool} (h : ∀ x, r x x = true) : ∀ l : List α, eqAll r l l = true
  | [] => rfl
  | x :: l => by simp [eqAll, h x, eqAll_refl h l]

theorem eqAll_comm {α : Type} {r : α → α → Bool} (h : ∀ x y, r x y = r y x) : ∀ a b : List α, eqAll r a b = eqAll r b a
  | [], [] => rfl
  | x :: a, y :: b => by simp [eqAll, h x y, eqAll_comm h a b]
  | [], _ :: _ => rfl
  | _ :: _, [] => rfl

theorem rInt_refl (x : Int) : rInt x x = true := by simp [rInt]
theorem rPrm_refl (x : Prm) : rPrm x x = true := by simp [rPrm]
theorem rSrt_refl (x : Srt) : rSrt x x = true := by simp [rSrt]
theorem rFld_refl (x : Fld) : rFld x x = true := by simp [rFld, eqAll_refl rInt_refl]
theorem rPrd_refl (x : Prd) : rPrd x x = true := by simp [rPrd, eqAll_refl rPrm_refl, eqN_refl]
theorem rFct_refl (x : Fct) : rFct x x = true := by simp [rFct, eqN_refl]
theorem rSpc_refl (x : Spc) : rSpc x x = true := by
  simp [rSpc, eqAll_refl rSrt_refl, eqAll_refl rFld_refl, eqAll_refl rPrd_refl, eqAll_refl rFct_refl]

theorem beq_comm' {α : Type} [BEq α] [LawfulBEq α] (x y : α) : (x == y) = (y == x) := by
  rw [Bool.eq_iff_iff]; simp only [beq_iff_eq]; exact ⟨Eq.symm, Eq.symm⟩

theorem rInt_comm (x y : Int) : rInt x y = rInt y x := beq_comm' x y
theorem rPrm_comm (x y : Prm) : rPrm x y = rPrm y x := by simp only [rPrm, beq_comm' x.nm, beq_comm' x.s]
theorem rSrt_comm (x y : Srt) : rSrt x y = rSrt y x := by simp only [rSrt, beq_comm' x.nm, beq_comm' x.o]
theorem rFld_comm (x y : Fld) : rFld x y = rFld y x := by simp only [rFld, beq_comm' x.nm, beq_comm' x.v, eqAll_comm rInt_comm (els x.l)]
theorem rPrd_comm (x y : Prd) : rPrd x y = rPrd y x := by simp only [rPrd, beq_comm' x.nm, eqAll_comm rPrm_comm (els x.l), eqN_comm x.b]
theorem rFct_comm (x y : Fct) : rFct x y = rFct y x := by simp only [rFct, beq_comm' x.nm, eqN_comm x.b]
theorem rSpc_comm (x y : Spc) : rSpc x y = rSpc y x := by
  simp only [rSpc, eqAll_comm rSrt_comm (els x.s), eqAll_comm rFld_comm (els x.f), eqAll_comm rPrd_comm (els x.p), eqAll_comm rFct_comm (els x.q)]

end Go.Proofs.YtalgjkpkkdljaaaDoor

/-! The walk of PrinterEquality. -/
namespace Go.Proofs.YtalgjkpkkdljaaaDoor
open Go.Vs

theorem load_spc {G : Nat → Option (List PD)} {H : Hp} {i : Nat} {x : Spc} (hb : H.bx[i]? = some (x.cells.map D.p)) : loadD G H (some 4) (.box i 0) = some (.p x.pd) := load_box hb rfl

theorem law5 (a b c : Nd) (sp sq : Spc) (n : Int) (hn : -128 ≤ n ∧ n ≤ 127) : ∃ H, call pg 5 [.p a.pd, .p b.pd, .p c.pd, .p sp.pd, .p sq.pd, .p (.int .i8 n)] ⟨[], []⟩ = some (.val (.p (.bool true)), H) := by
  have hh := head_eq
  have oa := one_of (pd_one a)
  have ob := one_of (pd_one b)
  have oc := one_of (pd_one c)
  have op := one_of (spc_one sp)
  have oq := one_of (spc_one sq)
  have hw : IntKind.i64.wrap n = n := wrap64 (by omega) (by omega)
  have la : ∀ G, loadD G ⟨[a.cells.map .p, b.cells.map .p, c.cells.map .p, sp.cells.map .p, sq.cells.map .p], []⟩ (some 5) (.box 0 0) = some (.p a.pd) := fun G => load_ndb rfl
  have lb : ∀ G, loadD G ⟨[a.cells.map .p, b.cells.map .p, c.cells.map .p, sp.cells.map .p, sq.cells.map .p], []⟩ (some 5) (.box 1 0) = some (.p b.pd) := fun G => load_ndb rfl
  have lc : ∀ G, loadD G ⟨[a.cells.map .p, b.cells.map .p, c.cells.map .p, sp.cells.map .p, sq.cells.map .p], []⟩ (some 5) (.box 2 0) = some (.p c.pd) := fun G => load_ndb rfl
  have lp : ∀ G, loadD G ⟨[a.cells.map .p, b.cells.map .p, c.cells.map .p, sp.cells.map .p, sq.cells.map .p], []⟩ (some 4) (.box 3 0) = some (.p sp.pd) := fun G => load_spc rfl
  have lq : ∀ G, loadD G ⟨[a.cells.map .p, b.cells.map .p, c.cells.map .p, sp.cells.map .p, sq.cells.map .p], []⟩ (some 4) (.box 4 0) = some (.p sq.pd) := fun G => load_spc rfl
  have ha := small_eq a
  have hb := small_eq b
  have hc := small_eq c
  have hp := modest_eq sp
  have hq := modest_eq sq
  rw [pd_cells a] at la ha ⊢
  rw [pd_cells b] at lb hb ⊢
  rw [pd_cells c] at lc hc ⊢
  simp only [Spc.pd] at lp lq hp hq ⊢
  refine ⟨⟨[a.cells.map .p, b.cells.map .p, c.cells.map .p, sp.cells.map .p, sq.cells.map .p], []⟩, call_body (fc := fc5) rfl rfl rfl rfl ?_⟩
  by_cases ka : a.size ≤ 400
  case neg =>
    simp only [decide_eq_false ka] at ha
    simp [fc5, evKC, evK, evGuard, put, Env.get, Env.keep, entry, Opd.ev, unD, finish, evRes, evRes1, D.cells, List.map, oa, ob, oc, op, oq, hh, la, ha]
  simp only [decide_eq_true ka] at ha
  by_cases kb : b.size ≤ 400
  case neg =>
    simp only [decide_eq_false kb] at hb
    simp [fc5, evKC, evK, evGuard, put, Env.get, Env.keep, entry, Opd.ev, unD, finish, evRes, evRes1, D.cells, List.map, oa, ob, oc, op, oq, hh, la, ha, lb, hb]
  simp only [decide_eq_true kb] at hb
  by_cases kc : c.size ≤ 400
  case neg =>
    simp only [decide_eq_false kc] at hc
    simp [fc5, evKC, evK, evGuard, put, Env.get, Env.keep, entry, Opd.ev, unD, finish, evRes, evRes1, D.cells, List.map, oa, ob, oc, op, oq, hh, la, ha, lb, hb, lc, hc]
  simp only [decide_eq_true kc] at hc
  by_cases kp : Mod sp
  case neg =>
    simp only [decide_eq_false kp] at hp
    simp [fc5, evKC, evK, evGuard, put, Env.get, Env.keep, entry, Opd.ev, unD, finish, evRes, evRes1, D.cells, List.map, oa, ob, oc, op, oq, hh, la, ha, lb, hb, lc, hc, lp, hp]
  simp only [decide_eq_true kp] at hp
  by_cases kq : Mod sq
  case neg =>
    simp only [decide_eq_false kq] at hq
    simp [fc5, evKC, evK, evGuard, put, Env.get, Env.keep, entry, Opd.ev, unD, finish, evRes, evRes1, D.cells, List.map, oa, ob, oc, op, oq, hh, la, ha, lb, hb, lc, hc, lp, hp, lq, hq]
  simp only [decide_eq_true kq] at hq
  have eab := fun H => equalNodes_eq (a := a) (b := b) (by omega) H
  have ebc := fun H => equalNodes_eq (a := b) (b := c) (by omega) H
  have eac := fun H => equalNodes_eq (a := a) (b := c) (by omega) H
  have eaa := fun H => equalNodes_eq (a := a) (b := a) (by omega) H
  have eba := fun H => equalNodes_eq (a := b) (b := a) (by omega) H
  have emv := fun H => moved_eq (a := a) (by omega) n H
  have eam := fun H => equalAgg_eq (a := a) (b := mvN a n) (by omega) H
  have epp := fun H => spc_eq sp sp kp H
  have epq := fun H => spc_eq sp sq kp H
  have eqp := fun H => spc_eq sq sp kq H
  rw [eqN_refl] at eaa
  rw [eqN_comm b a] at eba
  rw [eqN_mv] at eam
  rw [rSpc_refl] at epp
  rw [rSpc_comm sq sp] at eqp
  simp only [Spc.pd, pd_cells] at eab ebc eac eaa eba emv eam epp epq eqp
  have t1 := eqN_trans a b c
  have t2 : eqN a b = true → eqN a c = true → eqN b c = true := fun h g => eqN_trans b a c (by rw [eqN_comm]; exact h) g
  cases vab : eqN a b <;> cases vbc : eqN b c <;> cases vac : eqN a c <;> first | (exact absurd (t1 vab vbc) (by rw [vac]; decide)) | (exact absurd (t2 vab vac) (by rw [vbc]; decide)) |
    (rw [vab] at eab eba; rw [vbc] at ebc; rw [vac] at eac
     simp [fc5, evKC, evK, evGuard, put, Env.get, Env.keep, entry, Opd.ev, D.asInt?, unD, clsP, cls, clsR, isCl, isW, apartRW, apartWW, clash, insOk, finish, evRes, evRes1, D.cells, D.refsL, D.refs, D.toksL, D.toks, eqD, List.map, oa, ob, oc, op, oq, hh, la, ha, lb, hb, lc, hc, lp, hp, lq, hq, hw, eab, ebc, eac, eaa, eba, emv, eam, epp, epq, eqp])

end Go.Proofs.YtalgjkpkkdljaaaDoor
