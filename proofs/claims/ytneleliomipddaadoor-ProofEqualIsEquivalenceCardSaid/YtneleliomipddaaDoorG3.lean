/-
  A value-level evaluator for Go functions; the functions of this cut by it; plain laws. Part 3 of 4.
-/
import Derived.Test.YtneleliomipddaaDoorProg
import Derived.Test.YtneleliomipddaaDoorG2
import Derived.KernelRfl
import Derived.Lib.ItoaNum
import Derived.Lib.Atoi
import Derived.Lib.Split
import Derived.Lib.IndexMore
import Derived.Lib.Strings
import Derived.Carry
import Derived.ChangeSlices
import Derived.ChangeMaps5
import Derived.RowKit
import Derived.Lib.AtoiBound
import Derived.Lib.CountLaws
import Derived.Lib.SplitLaws
import Derived.Lib.IndexLaws
import Derived.Lib.IndexBytes

/-! The functions of the cut, as the evaluator's (printed by a program of ours), each checked against the program's. -/
namespace Go.Proofs.YtneleliomipddaaDoor
open Go.Vs

/-- armature/armaturelaw22.ProofRoundTrip -/
def fc3 : FC where
  nt := 41
  np := 2
  res := [.t 4]
  body :=
    (.seq
      (.region [0, 1] [
          ⟨some 4, .move (.c (.p (.bool false))), none⟩])
      (.seq
        (.region [0, 1, 5] [
            ⟨some 8, .call (.c (.fn 10 [] [])) [], none⟩,
            ⟨some 5, .move (.t 8), none⟩])
        (.seq
          (.seq
            (.region [1, 5, 18] [
                ⟨some 9, .move (.t 1), none⟩,
                ⟨some 10, .call (.c (.fn 11 [] [])) [(.t 9), (.c (.p (.int .i64 200)))], none⟩,
                ⟨some 11, .un .not (.t 10), none⟩,
                ⟨some 12, .move (.t 11), none⟩,
                ⟨some 13, .move (.t 0), some (12, false)⟩,
                ⟨some 14, .conv .i64 (.t 13), some (12, false)⟩,
                ⟨some 15, .move (.t 1), some (12, false)⟩,
                ⟨some 16, .call (.c (.fn 12 [] [])) [(.t 14), (.t 15)], some (12, false)⟩,
                ⟨some 17, .un .not (.t 16), some (12, false)⟩,
                ⟨some 18, .pick (.t 12) (.c (.p (.bool true))) (.t 17), none⟩])
            (.cond (.t 18)
              (.seq
                (.region [4] [
                    ⟨some 19, .move (.t 5), none⟩,
                    ⟨some 4, .move (.t 19), none⟩])
                .ret)
              .skip))
          (.seq
            (.region [1, 5, 6, 7] [
                ⟨some 21, .move (.t 1), none⟩,
                ⟨some 22, .call (.c (.fn 14 [] [])) [(.t 21)], none⟩,
                ⟨some 23, .call (.c (.fn 13 [] [])) [(.t 22)], none⟩,
                ⟨some 20, .move (.t 23), none⟩,
                ⟨some 24, .extract (.t 20) 0, none⟩,
                ⟨some 25, .extract (.t 20) 1, none⟩,
                ⟨some 6, .move (.t 24), none⟩,
                ⟨some 7, .move (.t 25), none⟩])
            (.seq
              (.region [4] [
                  ⟨some 26, .move (.t 5), none⟩,
                  ⟨some 27, .move (.t 26), none⟩,
                  ⟨some 28, .move (.t 7), some (27, true)⟩,
                  ⟨some 29, .bin .eql (.t 28) (.c (.p (.int .i64 0))), some (27, true)⟩,
                  ⟨some 30, .pick (.t 27) (.t 29) (.c (.p (.bool false))), none⟩,
                  ⟨some 31, .move (.t 30), none⟩,
                  ⟨some 32, .move (.t 1), some (31, true)⟩,
                  ⟨some 33, .move (.t 6), some (31, true)⟩,
                  ⟨some 34, .call (.c (.fn 15 [] [])) [(.t 32), (.t 33)], some (31, true)⟩,
                  ⟨some 35, .pick (.t 31) (.t 34) (.c (.p (.bool false))), none⟩,
                  ⟨some 36, .move (.t 35), none⟩,
                  ⟨some 37, .move (.t 1), some (36, true)⟩,
                  ⟨some 38, .move (.t 6), some (36, true)⟩,
                  ⟨some 39, .call (.c (.fn 16 [] [])) [(.t 37), (.t 38)], some (36, true)⟩,
                  ⟨some 40, .pick (.t 36) (.t 39) (.c (.p (.bool false))), none⟩,
                  ⟨some 4, .move (.t 40), none⟩])
              .ret)))))

theorem ok3 : FOk Tryd.prog 3 fc3 := FOk.of Tryd.func3 (by kernel_rfl)

/-- armature/armaturelaw22.ProofDecodesOnlyTexts -/
def fc4 : FC where
  nt := 39
  np := 1
  res := [.t 2]
  body :=
    (.seq
      (.region [0] [
          ⟨some 2, .move (.c (.p (.bool false))), none⟩])
      (.seq
        (.region [0, 3] [
            ⟨some 6, .call (.c (.fn 10 [] [])) [], none⟩,
            ⟨some 3, .move (.t 6), none⟩])
        (.seq
          (.seq
            (.region [0, 3, 9] [
                ⟨some 7, .move (.t 0), none⟩,
                ⟨some 8, .len 0 (.t 7), none⟩,
                ⟨some 9, .bin .gtr (.t 8) (.c (.p (.int .i64 4000))), none⟩])
            (.cond (.t 9)
              (.seq
                (.region [2] [
                    ⟨some 10, .move (.t 3), none⟩,
                    ⟨some 2, .move (.t 10), none⟩])
                .ret)
              .skip))
          (.seq
            (.region [0, 3, 4, 5] [
                ⟨some 12, .move (.t 0), none⟩,
                ⟨some 13, .call (.c (.fn 13 [] [])) [(.t 12)], none⟩,
                ⟨some 11, .move (.t 13), none⟩,
                ⟨some 14, .extract (.t 11) 0, none⟩,
                ⟨some 15, .extract (.t 11) 1, none⟩,
                ⟨some 4, .move (.t 14), none⟩,
                ⟨some 5, .move (.t 15), none⟩])
            (.seq
              (.seq
                (.region [0, 3, 4, 5, 17] [
                    ⟨some 16, .move (.t 5), none⟩,
                    ⟨some 17, .bin .neq (.t 16) (.c (.p (.int .i64 0))), none⟩])
                (.cond (.t 17)
                  (.seq
                    (.region [2] [
                        ⟨some 18, .move (.t 3), none⟩,
                        ⟨some 19, .move (.t 18), none⟩,
                        ⟨some 20, .move (.t 5), some (19, true)⟩,
                        ⟨some 21, .bin .eql (.t 20) (.c (.p (.int .i64 340))), some (19, true)⟩,
                        ⟨some 22, .pick (.t 19) (.t 21) (.c (.p (.bool false))), none⟩,
                        ⟨some 23, .move (.t 22), none⟩,
                        ⟨some 24, .move (.t 4), some (23, true)⟩,
                        ⟨some 25, .len 1 (.t 24), some (23, true)⟩,
                        ⟨some 26, .bin .eql (.t 25) (.c (.p (.int .i64 0))), some (23, true)⟩,
                        ⟨some 27, .pick (.t 23) (.t 26) (.c (.p (.bool false))), none⟩,
                        ⟨some 2, .move (.t 27), none⟩])
                    .ret)
                  .skip))
              (.seq
                (.region [2] [
                    ⟨some 28, .move (.t 3), none⟩,
                    ⟨some 29, .move (.t 28), none⟩,
                    ⟨some 30, .move (.t 4), some (29, true)⟩,
                    ⟨some 31, .call (.c (.fn 17 [] [])) [(.t 30)], some (29, true)⟩,
                    ⟨some 32, .pick (.t 29) (.t 31) (.c (.p (.bool false))), none⟩,
                    ⟨some 33, .move (.t 32), none⟩,
                    ⟨some 34, .move (.t 4), some (33, true)⟩,
                    ⟨some 35, .call (.c (.fn 14 [] [])) [(.t 34)], some (33, true)⟩,
                    ⟨some 36, .move (.t 0), some (33, true)⟩,
                    ⟨some 37, .bin .eql (.t 35) (.t 36), some (33, true)⟩,
                    ⟨some 38, .pick (.t 33) (.t 37) (.c (.p (.bool false))), none⟩,
                    ⟨some 2, .move (.t 38), none⟩])
                .ret))))))

theorem ok4 : FOk Tryd.prog 4 fc4 := FOk.of Tryd.func4 (by kernel_rfl)

/-- armature/armaturelaw22.ProofDetectsCorruption -/
def fc5_b0 : SC :=
    (.seq
      (.seq
        (.region [7, 8, 10, 11, 66] [
            ⟨some 50, .move (.t 11), none⟩,
            ⟨some 51, .move (.t 8), none⟩,
            ⟨some 52, .len 0 (.t 51), none⟩,
            ⟨some 53, .bin .sub (.t 52) (.c (.p (.int .i64 1))), none⟩,
            ⟨some 54, .bin .lss (.t 50) (.t 53), none⟩,
            ⟨some 55, .move (.t 54), none⟩,
            ⟨some 56, .move (.t 8), some (55, true)⟩,
            ⟨some 57, .move (.t 11), some (55, true)⟩,
            ⟨some 58, .index none (.t 56) (.t 57), some (55, true)⟩,
            ⟨some 59, .bin .neq (.t 58) (.c (.p (.int .u8 32))), some (55, true)⟩,
            ⟨some 60, .pick (.t 55) (.t 59) (.c (.p (.bool false))), none⟩,
            ⟨some 61, .move (.t 60), none⟩,
            ⟨some 62, .move (.t 8), some (61, true)⟩,
            ⟨some 63, .move (.t 11), some (61, true)⟩,
            ⟨some 64, .index none (.t 62) (.t 63), some (61, true)⟩,
            ⟨some 65, .bin .neq (.t 64) (.c (.p (.int .u8 10))), some (61, true)⟩,
            ⟨some 66, .pick (.t 61) (.t 65) (.c (.p (.bool false))), none⟩])
        (.cond (.t 66)
          .skip
          (.exit 0)))
      (.block 1
        (.region [7, 8, 10, 11] [
            ⟨some 67, .move (.t 11), none⟩,
            ⟨some 68, .bin .add (.t 67) (.c (.p (.int .i64 1))), none⟩,
            ⟨some 11, .move (.t 68), none⟩])))

def fc5 : FC where
  nt := 95
  np := 3
  res := [.t 6]
  body :=
    (.seq
      (.region [0, 1, 2] [
          ⟨some 6, .move (.c (.p (.bool false))), none⟩])
      (.seq
        (.region [0, 1, 2, 7] [
            ⟨some 14, .call (.c (.fn 10 [] [])) [], none⟩,
            ⟨some 7, .move (.t 14), none⟩])
        (.seq
          (.seq
            (.region [1, 2, 7, 29] [
                ⟨some 15, .move (.t 1), none⟩,
                ⟨some 16, .call (.c (.fn 11 [] [])) [(.t 15), (.c (.p (.int .i64 100)))], none⟩,
                ⟨some 17, .un .not (.t 16), none⟩,
                ⟨some 18, .move (.t 17), none⟩,
                ⟨some 19, .move (.t 1), some (18, false)⟩,
                ⟨some 20, .len 1 (.t 19), some (18, false)⟩,
                ⟨some 21, .bin .eql (.t 20) (.c (.p (.int .i64 0))), some (18, false)⟩,
                ⟨some 22, .pick (.t 18) (.c (.p (.bool true))) (.t 21), none⟩,
                ⟨some 23, .move (.t 22), none⟩,
                ⟨some 24, .move (.t 0), some (23, false)⟩,
                ⟨some 25, .conv .i64 (.t 24), some (23, false)⟩,
                ⟨some 26, .move (.t 1), some (23, false)⟩,
                ⟨some 27, .call (.c (.fn 12 [] [])) [(.t 25), (.t 26)], some (23, false)⟩,
                ⟨some 28, .un .not (.t 27), some (23, false)⟩,
                ⟨some 29, .pick (.t 23) (.c (.p (.bool true))) (.t 28), none⟩])
            (.cond (.t 29)
              (.seq
                (.region [6] [
                    ⟨some 30, .move (.t 7), none⟩,
                    ⟨some 6, .move (.t 30), none⟩])
                .ret)
              .skip))
          (.seq
            (.region [2, 7, 8] [
                ⟨some 31, .move (.t 1), none⟩,
                ⟨some 32, .call (.c (.fn 14 [] [])) [(.t 31)], none⟩,
                ⟨some 8, .move (.t 32), none⟩])
            (.seq
              (.seq
                (.region [2, 7, 8, 35] [
                    ⟨some 33, .move (.t 8), none⟩,
                    ⟨some 34, .len 0 (.t 33), none⟩,
                    ⟨some 35, .bin .eql (.t 34) (.c (.p (.int .i64 0))), none⟩])
                (.cond (.t 35)
                  (.seq
                    (.region [6] [
                        ⟨some 6, .move (.c (.p (.bool false))), none⟩])
                    .ret)
                  .skip))
              (.seq
                (.region [2, 7, 8, 10] [
                    ⟨some 37, .move (.t 8), none⟩,
                    ⟨some 38, .move (.t 8), none⟩,
                    ⟨some 39, .len 0 (.t 38), none⟩,
                    ⟨some 40, .bin .sub (.t 39) (.c (.p (.int .i64 1))), none⟩,
                    ⟨some 41, .slice 0 (.t 37) none (some (.t 40)), none⟩,
                    ⟨some 42, .call (.c (.fn 13 [] [])) [(.t 41)], none⟩,
                    ⟨some 36, .move (.t 42), none⟩,
                    ⟨some 43, .extract (.t 36) 0, none⟩,
                    ⟨some 44, .extract (.t 36) 1, none⟩,
                    ⟨some 9, .move (.t 43), none⟩,
                    ⟨some 10, .move (.t 44), none⟩])
                (.seq
                  (.region [7, 8, 10, 11] [
                      ⟨some 45, .move (.t 2), none⟩,
                      ⟨some 46, .conv .i64 (.t 45), none⟩,
                      ⟨some 47, .move (.t 8), none⟩,
                      ⟨some 48, .len 0 (.t 47), none⟩,
                      ⟨some 49, .bin .rem (.t 46) (.t 48), none⟩,
                      ⟨some 11, .move (.t 49), none⟩])
                  (.seq
                    (.block 0
                      (.loop [7, 8, 10, 11]
                        fc5_b0))
                    (.seq
                      (.draw [7, 10, 13] [] [
                          ⟨some 70, .move (.t 8), none⟩,
                          ⟨some 71, .move (.t 11), none⟩,
                          ⟨some 72, .slice 0 (.t 70) none (some (.t 71)), none⟩,
                          ⟨some 73, .move (.t 8), none⟩,
                          ⟨some 74, .move (.t 11), none⟩,
                          ⟨some 75, .move (.t 11), none⟩,
                          ⟨some 76, .bin .add (.t 75) (.c (.p (.int .i64 1))), none⟩,
                          ⟨some 77, .slice 0 (.t 73) (some (.t 74)) (some (.t 76)), none⟩,
                          ⟨some 78, .bin .add (.t 72) (.t 77), none⟩,
                          ⟨some 79, .move (.t 8), none⟩,
                          ⟨some 80, .move (.t 11), none⟩,
                          ⟨some 81, .slice 0 (.t 79) (some (.t 80)) none, none⟩,
                          ⟨some 82, .bin .add (.t 78) (.t 81), none⟩,
                          ⟨some 83, .call (.c (.fn 13 [] [])) [(.t 82)], none⟩,
                          ⟨some 69, .move (.t 83), none⟩,
                          ⟨some 84, .extract (.t 69) 0, none⟩,
                          ⟨some 85, .extract (.t 69) 1, none⟩,
                          ⟨some 12, .move (.t 84), none⟩,
                          ⟨some 13, .move (.t 85), none⟩])
                      (.seq
                        (.region [6] [
                            ⟨some 86, .move (.t 7), none⟩,
                            ⟨some 87, .move (.t 86), none⟩,
                            ⟨some 88, .move (.t 10), some (87, true)⟩,
                            ⟨some 89, .bin .eql (.t 88) (.c (.p (.int .i64 340))), some (87, true)⟩,
                            ⟨some 90, .pick (.t 87) (.t 89) (.c (.p (.bool false))), none⟩,
                            ⟨some 91, .move (.t 90), none⟩,
                            ⟨some 92, .move (.t 13), some (91, true)⟩,
                            ⟨some 93, .bin .eql (.t 92) (.c (.p (.int .i64 340))), some (91, true)⟩,
                            ⟨some 94, .pick (.t 91) (.t 93) (.c (.p (.bool false))), none⟩,
                            ⟨some 6, .move (.t 94), none⟩])
                        .ret))))))))))

theorem ok5 : FOk Tryd.prog 5 fc5 := FOk.of Tryd.func5 (by kernel_rfl)

/-- armature/armaturelaw22.ProofPrefixes -/
def fc6 : FC where
  nt := 61
  np := 3
  res := [.t 6]
  body :=
    (.seq
      (.region [0, 1, 2] [
          ⟨some 6, .move (.c (.p (.bool false))), none⟩])
      (.seq
        (.region [0, 1, 2, 7] [
            ⟨some 11, .call (.c (.fn 10 [] [])) [], none⟩,
            ⟨some 7, .move (.t 11), none⟩])
        (.seq
          (.seq
            (.region [0, 1, 2, 7, 21] [
                ⟨some 12, .move (.t 1), none⟩,
                ⟨some 13, .call (.c (.fn 11 [] [])) [(.t 12), (.c (.p (.int .i64 200)))], none⟩,
                ⟨some 14, .un .not (.t 13), none⟩,
                ⟨some 15, .move (.t 14), none⟩,
                ⟨some 16, .move (.t 0), some (15, false)⟩,
                ⟨some 17, .conv .i64 (.t 16), some (15, false)⟩,
                ⟨some 18, .move (.t 1), some (15, false)⟩,
                ⟨some 19, .call (.c (.fn 12 [] [])) [(.t 17), (.t 18)], some (15, false)⟩,
                ⟨some 20, .un .not (.t 19), some (15, false)⟩,
                ⟨some 21, .pick (.t 15) (.c (.p (.bool true))) (.t 20), none⟩])
            (.cond (.t 21)
              (.seq
                (.region [6] [
                    ⟨some 22, .move (.t 7), none⟩,
                    ⟨some 6, .move (.t 22), none⟩])
                .ret)
              .skip))
          (.seq
            (.region [0, 1, 7, 8] [
                ⟨some 23, .move (.t 2), none⟩,
                ⟨some 24, .conv .i64 (.t 23), none⟩,
                ⟨some 25, .move (.t 1), none⟩,
                ⟨some 26, .len 1 (.t 25), none⟩,
                ⟨some 27, .bin .add (.t 26) (.c (.p (.int .i64 1))), none⟩,
                ⟨some 28, .bin .rem (.t 24) (.t 27), none⟩,
                ⟨some 8, .move (.t 28), none⟩])
            (.seq
              (.draw [0, 1, 7, 9, 10] [] [
                  ⟨some 29, .move (.t 1), none⟩,
                  ⟨some 30, .move (.t 8), none⟩,
                  ⟨some 31, .slice 3 (.t 29) none (some (.t 30)), none⟩,
                  ⟨some 32, .move (.t 1), none⟩,
                  ⟨some 33, .move (.t 8), none⟩,
                  ⟨some 34, .slice 3 (.t 32) (some (.t 33)) none, none⟩,
                  ⟨some 9, .move (.t 31), none⟩,
                  ⟨some 10, .move (.t 34), none⟩])
              (.seq
                (.region [6] [
                    ⟨some 35, .move (.t 7), none⟩,
                    ⟨some 36, .move (.t 35), none⟩,
                    ⟨some 37, .move (.t 0), some (36, true)⟩,
                    ⟨some 38, .conv .i64 (.t 37), some (36, true)⟩,
                    ⟨some 39, .move (.t 9), some (36, true)⟩,
                    ⟨some 40, .call (.c (.fn 12 [] [])) [(.t 38), (.t 39)], some (36, true)⟩,
                    ⟨some 41, .pick (.t 36) (.t 40) (.c (.p (.bool false))), none⟩,
                    ⟨some 42, .move (.t 41), none⟩,
                    ⟨some 43, .move (.t 0), some (42, true)⟩,
                    ⟨some 44, .conv .i64 (.t 43), some (42, true)⟩,
                    ⟨some 45, .move (.t 9), some (42, true)⟩,
                    ⟨some 46, .call (.c (.fn 18 [] [])) [(.t 45)], some (42, true)⟩,
                    ⟨some 47, .bin .add (.t 44) (.t 46), some (42, true)⟩,
                    ⟨some 48, .move (.t 10), some (42, true)⟩,
                    ⟨some 49, .call (.c (.fn 12 [] [])) [(.t 47), (.t 48)], some (42, true)⟩,
                    ⟨some 50, .pick (.t 42) (.t 49) (.c (.p (.bool false))), none⟩,
                    ⟨some 51, .move (.t 50), none⟩,
                    ⟨some 52, .move (.t 9), some (51, true)⟩,
                    ⟨some 53, .call (.c (.fn 14 [] [])) [(.t 52)], some (51, true)⟩,
                    ⟨some 54, .move (.t 10), some (51, true)⟩,
                    ⟨some 55, .call (.c (.fn 14 [] [])) [(.t 54)], some (51, true)⟩,
                    ⟨some 56, .bin .add (.t 53) (.t 55), some (51, true)⟩,
                    ⟨some 57, .move (.t 1), some (51, true)⟩,
                    ⟨some 58, .call (.c (.fn 14 [] [])) [(.t 57)], some (51, true)⟩,
                    ⟨some 59, .bin .eql (.t 56) (.t 58), some (51, true)⟩,
                    ⟨some 60, .pick (.t 51) (.t 59) (.c (.p (.bool false))), none⟩,
                    ⟨some 6, .move (.t 60), none⟩])
                .ret))))))

theorem ok6 : FOk Tryd.prog 6 fc6 := FOk.of Tryd.func6 (by kernel_rfl)

/-- armature/armaturelaw22.ProofMoreVariables -/
def fc7 : FC where
  nt := 48
  np := 3
  res := [.t 6]
  body :=
    (.seq
      (.region [0, 1, 2] [
          ⟨some 6, .move (.c (.p (.bool false))), none⟩])
      (.seq
        (.region [0, 1, 2, 7] [
            ⟨some 9, .call (.c (.fn 10 [] [])) [], none⟩,
            ⟨some 7, .move (.t 9), none⟩])
        (.seq
          (.seq
            (.region [0, 1, 2, 7, 27] [
                ⟨some 10, .move (.t 1), none⟩,
                ⟨some 11, .call (.c (.fn 11 [] [])) [(.t 10), (.c (.p (.int .i64 200)))], none⟩,
                ⟨some 12, .un .not (.t 11), none⟩,
                ⟨some 13, .move (.t 12), none⟩,
                ⟨some 14, .move (.t 0), some (13, false)⟩,
                ⟨some 15, .conv .i64 (.t 14), some (13, false)⟩,
                ⟨some 16, .move (.t 1), some (13, false)⟩,
                ⟨some 17, .call (.c (.fn 12 [] [])) [(.t 15), (.t 16)], some (13, false)⟩,
                ⟨some 18, .un .not (.t 17), some (13, false)⟩,
                ⟨some 19, .pick (.t 13) (.c (.p (.bool true))) (.t 18), none⟩,
                ⟨some 20, .move (.t 19), none⟩,
                ⟨some 21, .move (.t 0), some (20, false)⟩,
                ⟨some 22, .conv .i64 (.t 21), some (20, false)⟩,
                ⟨some 23, .move (.t 2), some (20, false)⟩,
                ⟨some 24, .conv .i64 (.t 23), some (20, false)⟩,
                ⟨some 25, .bin .add (.t 22) (.t 24), some (20, false)⟩,
                ⟨some 26, .bin .gtr (.t 25) (.c (.p (.int .i64 20000))), some (20, false)⟩,
                ⟨some 27, .pick (.t 20) (.c (.p (.bool true))) (.t 26), none⟩])
            (.cond (.t 27)
              (.seq
                (.region [6] [
                    ⟨some 28, .move (.t 7), none⟩,
                    ⟨some 6, .move (.t 28), none⟩])
                .ret)
              .skip))
          (.seq
            (.region [1, 2, 7, 8] [
                ⟨some 29, .move (.t 0), none⟩,
                ⟨some 30, .conv .i64 (.t 29), none⟩,
                ⟨some 31, .move (.t 2), none⟩,
                ⟨some 32, .conv .i64 (.t 31), none⟩,
                ⟨some 33, .bin .add (.t 30) (.t 32), none⟩,
                ⟨some 34, .move (.t 1), none⟩,
                ⟨some 35, .call (.c (.fn 12 [] [])) [(.t 33), (.t 34)], none⟩,
                ⟨some 8, .move (.t 35), none⟩])
            (.seq
              (.region [6] [
                  ⟨some 36, .move (.t 7), none⟩,
                  ⟨some 37, .move (.t 36), none⟩,
                  ⟨some 38, .move (.t 8), some (37, true)⟩,
                  ⟨some 39, .move (.t 1), some (37, true)⟩,
                  ⟨some 40, .call (.c (.fn 18 [] [])) [(.t 39)], some (37, true)⟩,
                  ⟨some 41, .bin .eql (.t 40) (.c (.p (.int .i64 0))), some (37, true)⟩,
                  ⟨some 42, .move (.t 41), some (37, true)⟩,
                  ⟨some 43, .move (.t 2), some (42, false)⟩,
                  ⟨some 44, .bin .eql (.t 43) (.c (.p (.int .u16 0))), some (42, false)⟩,
                  ⟨some 45, .pick (.t 42) (.c (.p (.bool true))) (.t 44), some (37, true)⟩,
                  ⟨some 46, .eqk 0 false (.t 38) (.t 45), some (37, true)⟩,
                  ⟨some 47, .pick (.t 37) (.t 46) (.c (.p (.bool false))), none⟩,
                  ⟨some 6, .move (.t 47), none⟩])
              .ret)))))

theorem ok7 : FOk Tryd.prog 7 fc7 := FOk.of Tryd.func7 (by kernel_rfl)

/-- armature/armaturelaw22.ProofShifts -/
def fc8 : FC where
  nt := 77
  np := 4
  res := [.t 8]
  body :=
    (.seq
      (.region [0, 1, 2, 3] [
          ⟨some 8, .move (.c (.p (.bool false))), none⟩])
      (.seq
        (.region [0, 1, 2, 3, 9] [
            ⟨some 12, .call (.c (.fn 10 [] [])) [], none⟩,
            ⟨some 9, .move (.t 12), none⟩])
        (.seq
          (.seq
            (.region [0, 1, 2, 3, 9, 27] [
                ⟨some 13, .move (.t 1), none⟩,
                ⟨some 14, .call (.c (.fn 11 [] [])) [(.t 13), (.c (.p (.int .i64 200)))], none⟩,
                ⟨some 15, .un .not (.t 14), none⟩,
                ⟨some 16, .move (.t 15), none⟩,
                ⟨some 17, .move (.t 0), some (16, false)⟩,
                ⟨some 18, .conv .i64 (.t 17), some (16, false)⟩,
                ⟨some 19, .move (.t 1), some (16, false)⟩,
                ⟨some 20, .call (.c (.fn 12 [] [])) [(.t 18), (.t 19)], some (16, false)⟩,
                ⟨some 21, .un .not (.t 20), some (16, false)⟩,
                ⟨some 22, .pick (.t 16) (.c (.p (.bool true))) (.t 21), none⟩,
                ⟨some 23, .move (.t 22), none⟩,
                ⟨some 24, .move (.t 1), some (23, false)⟩,
                ⟨some 25, .call (.c (.fn 18 [] [])) [(.t 24)], some (23, false)⟩,
                ⟨some 26, .bin .gtr (.t 25) (.c (.p (.int .i64 0))), some (23, false)⟩,
                ⟨some 27, .pick (.t 23) (.c (.p (.bool true))) (.t 26), none⟩])
            (.cond (.t 27)
              (.seq
                (.region [8] [
                    ⟨some 28, .move (.t 9), none⟩,
                    ⟨some 8, .move (.t 28), none⟩])
                .ret)
              .skip))
          (.seq
            (.region [0, 1, 2, 3, 9, 10] [
                ⟨some 29, .move (.t 1), none⟩,
                ⟨some 30, .move (.t 2), none⟩,
                ⟨some 31, .conv .i64 (.t 30), none⟩,
                ⟨some 32, .call (.c (.fn 19 [] [])) [(.t 29), (.t 31)], none⟩,
                ⟨some 10, .move (.t 32), none⟩])
            (.seq
              (.region [1, 2, 3, 9, 10, 11] [
                  ⟨some 33, .move (.t 0), none⟩,
                  ⟨some 34, .conv .i64 (.t 33), none⟩,
                  ⟨some 35, .move (.t 2), none⟩,
                  ⟨some 36, .conv .i64 (.t 35), none⟩,
                  ⟨some 37, .bin .add (.t 34) (.t 36), none⟩,
                  ⟨some 11, .move (.t 37), none⟩])
              (.seq
                (.region [8] [
                    ⟨some 38, .move (.t 9), none⟩,
                    ⟨some 39, .move (.t 38), none⟩,
                    ⟨some 40, .move (.t 11), some (39, true)⟩,
                    ⟨some 41, .bin .gtr (.t 40) (.c (.p (.int .i64 20000))), some (39, true)⟩,
                    ⟨some 42, .move (.t 41), some (39, true)⟩,
                    ⟨some 43, .move (.t 11), some (42, false)⟩,
                    ⟨some 44, .move (.t 10), some (42, false)⟩,
                    ⟨some 45, .call (.c (.fn 12 [] [])) [(.t 43), (.t 44)], some (42, false)⟩,
                    ⟨some 46, .pick (.t 42) (.c (.p (.bool true))) (.t 45), some (39, true)⟩,
                    ⟨some 47, .pick (.t 39) (.t 46) (.c (.p (.bool false))), none⟩,
                    ⟨some 48, .move (.t 47), none⟩,
                    ⟨some 49, .move (.t 10), some (48, true)⟩,
                    ⟨some 50, .move (.t 2), some (48, true)⟩,
                    ⟨some 51, .conv .i64 (.t 50), some (48, true)⟩,
                    ⟨some 52, .un .neg (.t 51), some (48, true)⟩,
                    ⟨some 53, .call (.c (.fn 19 [] [])) [(.t 49), (.t 52)], some (48, true)⟩,
                    ⟨some 54, .move (.t 1), some (48, true)⟩,
                    ⟨some 55, .call (.c (.fn 15 [] [])) [(.t 53), (.t 54)], some (48, true)⟩,
                    ⟨some 56, .pick (.t 48) (.t 55) (.c (.p (.bool false))), none⟩,
                    ⟨some 57, .move (.t 56), none⟩,
                    ⟨some 58, .move (.t 10), some (57, true)⟩,
                    ⟨some 59, .move (.t 3), some (57, true)⟩,
                    ⟨some 60, .conv .i64 (.t 59), some (57, true)⟩,
                    ⟨some 61, .call (.c (.fn 19 [] [])) [(.t 58), (.t 60)], some (57, true)⟩,
                    ⟨some 62, .move (.t 1), some (57, true)⟩,
                    ⟨some 63, .move (.t 2), some (57, true)⟩,
                    ⟨some 64, .conv .i64 (.t 63), some (57, true)⟩,
                    ⟨some 65, .move (.t 3), some (57, true)⟩,
                    ⟨some 66, .conv .i64 (.t 65), some (57, true)⟩,
                    ⟨some 67, .bin .add (.t 64) (.t 66), some (57, true)⟩,
                    ⟨some 68, .call (.c (.fn 19 [] [])) [(.t 62), (.t 67)], some (57, true)⟩,
                    ⟨some 69, .call (.c (.fn 15 [] [])) [(.t 61), (.t 68)], some (57, true)⟩,
                    ⟨some 70, .pick (.t 57) (.t 69) (.c (.p (.bool false))), none⟩,
                    ⟨some 71, .move (.t 70), none⟩,
                    ⟨some 72, .move (.t 1), some (71, true)⟩,
                    ⟨some 73, .call (.c (.fn 19 [] [])) [(.t 72), (.c (.p (.int .i64 0)))], some (71, true)⟩,
                    ⟨some 74, .move (.t 1), some (71, true)⟩,
                    ⟨some 75, .call (.c (.fn 15 [] [])) [(.t 73), (.t 74)], some (71, true)⟩,
                    ⟨some 76, .pick (.t 71) (.t 75) (.c (.p (.bool false))), none⟩,
                    ⟨some 8, .move (.t 76), none⟩])
                .ret))))))

theorem ok8 : FOk Tryd.prog 8 fc8 := FOk.of Tryd.func8 (by kernel_rfl)

/-- armature/armaturelaw22.ProofEqualIsEquivalence -/
def fc9 : FC where
  nt := 56
  np := 3
  res := [.t 6]
  body :=
    (.seq
      (.region [0, 1, 2] [
          ⟨some 6, .move (.c (.p (.bool false))), none⟩])
      (.seq
        (.region [0, 1, 2, 7] [
            ⟨some 9, .call (.c (.fn 10 [] [])) [], none⟩,
            ⟨some 7, .move (.t 9), none⟩])
        (.seq
          (.seq
            (.region [0, 1, 2, 7, 17] [
                ⟨some 10, .move (.t 1), none⟩,
                ⟨some 11, .call (.c (.fn 11 [] [])) [(.t 10), (.c (.p (.int .i64 100)))], none⟩,
                ⟨some 12, .un .not (.t 11), none⟩,
                ⟨some 13, .move (.t 12), none⟩,
                ⟨some 14, .move (.t 2), some (13, false)⟩,
                ⟨some 15, .call (.c (.fn 11 [] [])) [(.t 14), (.c (.p (.int .i64 100)))], some (13, false)⟩,
                ⟨some 16, .un .not (.t 15), some (13, false)⟩,
                ⟨some 17, .pick (.t 13) (.c (.p (.bool true))) (.t 16), none⟩])
            (.cond (.t 17)
              (.seq
                (.region [6] [
                    ⟨some 18, .move (.t 7), none⟩,
                    ⟨some 6, .move (.t 18), none⟩])
                .ret)
              .skip))
          (.seq
            (.region [0, 1, 2, 7, 8] [
                ⟨some 19, .move (.t 1), none⟩,
                ⟨some 20, .move (.t 2), none⟩,
                ⟨some 21, .call (.c (.fn 16 [] [])) [(.t 19), (.t 20)], none⟩,
                ⟨some 8, .move (.t 21), none⟩])
            (.seq
              (.seq
                (.region [0, 1, 2, 7, 8, 32] [
                    ⟨some 22, .move (.t 1), none⟩,
                    ⟨some 23, .move (.t 1), none⟩,
                    ⟨some 24, .call (.c (.fn 16 [] [])) [(.t 22), (.t 23)], none⟩,
                    ⟨some 25, .un .not (.t 24), none⟩,
                    ⟨some 26, .move (.t 25), none⟩,
                    ⟨some 27, .move (.t 2), some (26, false)⟩,
                    ⟨some 28, .move (.t 1), some (26, false)⟩,
                    ⟨some 29, .call (.c (.fn 16 [] [])) [(.t 27), (.t 28)], some (26, false)⟩,
                    ⟨some 30, .move (.t 8), some (26, false)⟩,
                    ⟨some 31, .eqk 0 true (.t 29) (.t 30), some (26, false)⟩,
                    ⟨some 32, .pick (.t 26) (.c (.p (.bool true))) (.t 31), none⟩])
                (.cond (.t 32)
                  (.seq
                    (.region [6] [
                        ⟨some 6, .move (.c (.p (.bool false))), none⟩])
                    .ret)
                  .skip))
              (.seq
                (.seq
                  (.region [1, 2, 7, 8, 44] [
                      ⟨some 33, .move (.t 0), none⟩,
                      ⟨some 34, .conv .i64 (.t 33), none⟩,
                      ⟨some 35, .move (.t 1), none⟩,
                      ⟨some 36, .call (.c (.fn 12 [] [])) [(.t 34), (.t 35)], none⟩,
                      ⟨some 37, .un .not (.t 36), none⟩,
                      ⟨some 38, .move (.t 37), none⟩,
                      ⟨some 39, .move (.t 0), some (38, false)⟩,
                      ⟨some 40, .conv .i64 (.t 39), some (38, false)⟩,
                      ⟨some 41, .move (.t 2), some (38, false)⟩,
                      ⟨some 42, .call (.c (.fn 12 [] [])) [(.t 40), (.t 41)], some (38, false)⟩,
                      ⟨some 43, .un .not (.t 42), some (38, false)⟩,
                      ⟨some 44, .pick (.t 38) (.c (.p (.bool true))) (.t 43), none⟩])
                  (.cond (.t 44)
                    (.seq
                      (.region [6] [
                          ⟨some 45, .move (.t 7), none⟩,
                          ⟨some 6, .move (.t 45), none⟩])
                      .ret)
                    .skip))
                (.seq
                  (.region [6] [
                      ⟨some 46, .move (.t 7), none⟩,
                      ⟨some 47, .move (.t 46), none⟩,
                      ⟨some 48, .move (.t 8), some (47, true)⟩,
                      ⟨some 49, .move (.t 1), some (47, true)⟩,
                      ⟨some 50, .call (.c (.fn 14 [] [])) [(.t 49)], some (47, true)⟩,
                      ⟨some 51, .move (.t 2), some (47, true)⟩,
                      ⟨some 52, .call (.c (.fn 14 [] [])) [(.t 51)], some (47, true)⟩,
                      ⟨some 53, .bin .eql (.t 50) (.t 52), some (47, true)⟩,
                      ⟨some 54, .eqk 0 false (.t 48) (.t 53), some (47, true)⟩,
                      ⟨some 55, .pick (.t 47) (.t 54) (.c (.p (.bool false))), none⟩,
                      ⟨some 6, .move (.t 55), none⟩])
                  .ret)))))))

theorem ok9 : FOk Tryd.prog 9 fc9 := FOk.of Tryd.func9 (by kernel_rfl)

/-- armature/armaturelaw22.head -/
def fc10 : FC where
  nt := 99
  np := 0
  res := [.t 0]
  body :=
    (.seq
      (.region [] [
          ⟨some 0, .move (.c (.p (.bool false))), none⟩])
      (.seq
        (.region [1] [
            ⟨some 9, .bslice 3 1 2 (.int .i64 0) [(0, (.c (.p (.int .i64 1)))), (1, (.c (.p (.int .i64 (-2)))))], none⟩,
            ⟨some 10, .build [.int .i64 0, .nils, .int .i64 0] [(0, 1, (.c (.p (.int .i64 1)))), (1, 1, (.t 9))], none⟩,
            ⟨some 11, .bslice 3 1 3 (.int .i64 0) [(0, (.c (.p (.int .i64 3)))), (1, (.c (.p (.int .i64 1)))), (2, (.c (.p (.int .i64 2))))], none⟩,
            ⟨some 12, .build [.int .i64 0, .nils, .int .i64 0] [(0, 1, (.c (.p (.int .i64 3)))), (1, 1, (.t 11))], none⟩,
            ⟨some 13, .bslice 3 1 2 (.int .i64 0) [(0, (.c (.p (.int .i64 (-1))))), (1, (.c (.p (.int .i64 3))))], none⟩,
            ⟨some 14, .build [.int .i64 0, .nils, .int .i64 0] [(0, 1, (.c (.p (.int .i64 4)))), (1, 1, (.t 13)), (2, 1, (.c (.p (.int .i64 1))))], none⟩,
            ⟨some 15, .build [.int .i64 0, .nils, .int .i64 0] [(0, 1, (.c (.p (.int .i64 2))))], none⟩,
            ⟨some 16, .bslice 43 3 4 (.agg [.int .i64 0, .nils, .int .i64 0]) [(0, (.t 10)), (1, (.t 12)), (2, (.t 14)), (3, (.t 15))], none⟩,
            ⟨some 1, .move (.t 16), none⟩])
        (.seq
          (.region [1, 2] [
              ⟨some 2, .move (.c (.p (.str [108, 32, 49, 32, 45, 50, 32, 48, 10, 101, 32, 51, 32, 49, 32, 50, 32, 48, 10, 115, 32, 49, 32, 45, 49, 32, 51, 32, 48, 10, 100, 32, 48, 10]))), none⟩])
          (.seq
            (.region [1, 2, 3, 4] [
                ⟨some 18, .move (.t 2), none⟩,
                ⟨some 19, .call (.c (.fn 13 [] [])) [(.t 18)], none⟩,
                ⟨some 17, .move (.t 19), none⟩,
                ⟨some 20, .extract (.t 17) 0, none⟩,
                ⟨some 21, .extract (.t 17) 1, none⟩,
                ⟨some 3, .move (.t 20), none⟩,
                ⟨some 4, .move (.t 21), none⟩])
            (.seq
              (.region [1, 2, 3, 4, 6] [
                  ⟨some 23, .call (.c (.fn 13 [] [])) [(.c (.p (.str [108, 32, 48, 49, 32, 48, 10])))], none⟩,
                  ⟨some 22, .move (.t 23), none⟩,
                  ⟨some 24, .extract (.t 22) 0, none⟩,
                  ⟨some 25, .extract (.t 22) 1, none⟩,
                  ⟨some 5, .move (.t 24), none⟩,
                  ⟨some 6, .move (.t 25), none⟩])
              (.seq
                (.region [1, 2, 3, 4, 6, 7, 8] [
                    ⟨some 27, .call (.c (.fn 13 [] [])) [(.c (.p (.str [])))], none⟩,
                    ⟨some 26, .move (.t 27), none⟩,
                    ⟨some 28, .extract (.t 26) 0, none⟩,
                    ⟨some 29, .extract (.t 26) 1, none⟩,
                    ⟨some 7, .move (.t 28), none⟩,
                    ⟨some 8, .move (.t 29), none⟩])
                (.seq
                  (.draw [0] [] [
                      ⟨some 30, .move (.t 1), none⟩,
                      ⟨some 31, .call (.c (.fn 14 [] [])) [(.t 30)], none⟩,
                      ⟨some 32, .move (.t 2), none⟩,
                      ⟨some 33, .bin .eql (.t 31) (.t 32), none⟩,
                      ⟨some 34, .move (.t 33), none⟩,
                      ⟨some 35, .move (.t 4), some (34, true)⟩,
                      ⟨some 36, .bin .eql (.t 35) (.c (.p (.int .i64 0))), some (34, true)⟩,
                      ⟨some 37, .pick (.t 34) (.t 36) (.c (.p (.bool false))), none⟩,
                      ⟨some 38, .move (.t 37), none⟩,
                      ⟨some 39, .move (.t 1), some (38, true)⟩,
                      ⟨some 40, .move (.t 3), some (38, true)⟩,
                      ⟨some 41, .call (.c (.fn 16 [] [])) [(.t 39), (.t 40)], some (38, true)⟩,
                      ⟨some 42, .pick (.t 38) (.t 41) (.c (.p (.bool false))), none⟩,
                      ⟨some 43, .move (.t 42), none⟩,
                      ⟨some 44, .move (.t 1), some (43, true)⟩,
                      ⟨some 45, .move (.t 3), some (43, true)⟩,
                      ⟨some 46, .call (.c (.fn 15 [] [])) [(.t 44), (.t 45)], some (43, true)⟩,
                      ⟨some 47, .pick (.t 43) (.t 46) (.c (.p (.bool false))), none⟩,
                      ⟨some 48, .move (.t 47), none⟩,
                      ⟨some 49, .move (.t 6), some (48, true)⟩,
                      ⟨some 50, .bin .eql (.t 49) (.c (.p (.int .i64 340))), some (48, true)⟩,
                      ⟨some 51, .pick (.t 48) (.t 50) (.c (.p (.bool false))), none⟩,
                      ⟨some 52, .move (.t 51), none⟩,
                      ⟨some 53, .move (.t 7), some (52, true)⟩,
                      ⟨some 54, .len 1 (.t 53), some (52, true)⟩,
                      ⟨some 55, .bin .eql (.t 54) (.c (.p (.int .i64 0))), some (52, true)⟩,
                      ⟨some 56, .pick (.t 52) (.t 55) (.c (.p (.bool false))), none⟩,
                      ⟨some 57, .move (.t 56), none⟩,
                      ⟨some 58, .move (.t 8), some (57, true)⟩,
                      ⟨some 59, .bin .eql (.t 58) (.c (.p (.int .i64 0))), some (57, true)⟩,
                      ⟨some 60, .pick (.t 57) (.t 59) (.c (.p (.bool false))), none⟩,
                      ⟨some 61, .move (.t 60), none⟩,
                      ⟨some 62, .move (.t 1), some (61, true)⟩,
                      ⟨some 63, .call (.c (.fn 12 [] [])) [(.c (.p (.int .i64 2))), (.t 62)], some (61, true)⟩,
                      ⟨some 64, .pick (.t 61) (.t 63) (.c (.p (.bool false))), none⟩,
                      ⟨some 65, .move (.t 64), none⟩,
                      ⟨some 66, .move (.t 1), some (65, true)⟩,
                      ⟨some 67, .call (.c (.fn 12 [] [])) [(.c (.p (.int .i64 1))), (.t 66)], some (65, true)⟩,
                      ⟨some 68, .un .not (.t 67), some (65, true)⟩,
                      ⟨some 69, .pick (.t 65) (.t 68) (.c (.p (.bool false))), none⟩,
                      ⟨some 70, .move (.t 69), none⟩,
                      ⟨some 71, .move (.t 1), some (70, true)⟩,
                      ⟨some 72, .call (.c (.fn 12 [] [])) [(.c (.p (.int .i64 3))), (.t 71)], some (70, true)⟩,
                      ⟨some 73, .un .not (.t 72), some (70, true)⟩,
                      ⟨some 74, .pick (.t 70) (.t 73) (.c (.p (.bool false))), none⟩,
                      ⟨some 75, .move (.t 74), none⟩,
                      ⟨some 76, .call (.c (.fn 12 [] [])) [(.c (.p (.int .i64 (-1)))), (.c (.p (.nils)))], some (75, true)⟩,
                      ⟨some 77, .un .not (.t 76), some (75, true)⟩,
                      ⟨some 78, .pick (.t 75) (.t 77) (.c (.p (.bool false))), none⟩,
                      ⟨some 79, .move (.t 78), none⟩,
                      ⟨some 80, .call (.c (.fn 12 [] [])) [(.c (.p (.int .i64 0))), (.c (.p (.nils)))], some (79, true)⟩,
                      ⟨some 81, .pick (.t 79) (.t 80) (.c (.p (.bool false))), none⟩,
                      ⟨some 82, .move (.t 81), none⟩,
                      ⟨some 83, .move (.t 1), some (82, true)⟩,
                      ⟨some 84, .slice 3 (.t 83) none (some (.c (.p (.int .i64 1)))), some (82, true)⟩,
                      ⟨some 85, .call (.c (.fn 19 [] [])) [(.t 84), (.c (.p (.int .i64 4)))], some (82, true)⟩,
                      ⟨some 86, .bslice 3 1 2 (.int .i64 0) [(0, (.c (.p (.int .i64 5)))), (1, (.c (.p (.int .i64 (-6)))))], some (82, true)⟩,
                      ⟨some 87, .build [.int .i64 0, .nils, .int .i64 0] [(0, 1, (.c (.p (.int .i64 1)))), (1, 1, (.t 86))], some (82, true)⟩,
                      ⟨some 88, .bslice 43 3 1 (.agg [.int .i64 0, .nils, .int .i64 0]) [(0, (.t 87))], some (82, true)⟩,
                      ⟨some 89, .call (.c (.fn 16 [] [])) [(.t 85), (.t 88)], some (82, true)⟩,
                      ⟨some 90, .pick (.t 82) (.t 89) (.c (.p (.bool false))), none⟩,
                      ⟨some 91, .move (.t 90), none⟩,
                      ⟨some 92, .move (.t 1), some (91, true)⟩,
                      ⟨some 93, .slice 3 (.t 92) none (some (.c (.p (.int .i64 1)))), some (91, true)⟩,
                      ⟨some 94, .move (.t 1), some (91, true)⟩,
                      ⟨some 95, .slice 3 (.t 94) (some (.c (.p (.int .i64 1)))) (some (.c (.p (.int .i64 2)))), some (91, true)⟩,
                      ⟨some 96, .call (.c (.fn 16 [] [])) [(.t 93), (.t 95)], some (91, true)⟩,
                      ⟨some 97, .un .not (.t 96), some (91, true)⟩,
                      ⟨some 98, .pick (.t 91) (.t 97) (.c (.p (.bool false))), none⟩,
                      ⟨some 0, .move (.t 98), none⟩])
                  .ret)))))))

theorem ok10 : FOk Tryd.prog 10 fc10 := FOk.of Tryd.func10 (by kernel_rfl)

/-- armature/armatureref22.Few -/
def fc11_b0 : SC :=
    (.seq
      (.seq
        (.region [0, 5, 13] [
            ⟨some 10, .move (.t 5), none⟩,
            ⟨some 11, .move (.t 0), none⟩,
            ⟨some 12, .len 1 (.t 11), none⟩,
            ⟨some 13, .bin .lss (.t 10) (.t 12), none⟩])
        (.cond (.t 13)
          .skip
          (.exit 0)))
      (.seq
        (.block 1
          (.seq
            (.region [0, 5, 22] [
                ⟨some 16, .move (.t 0), none⟩,
                ⟨some 17, .move (.t 5), none⟩,
                ⟨some 18, .iaddr none 3 (.t 16) (.t 17), none⟩,
                ⟨some 19, .faddr (.t 18) 1, none⟩,
                ⟨some 20, .load none (.t 19), none⟩,
                ⟨some 21, .len 1 (.t 20), none⟩,
                ⟨some 22, .bin .gtr (.t 21) (.c (.p (.int .i64 60))), none⟩])
            (.cond (.t 22)
              (.seq
                (.region [4] [
                    ⟨some 4, .move (.c (.p (.bool false))), none⟩])
                .ret)
              .skip)))
        (.region [0, 5] [
            ⟨some 14, .move (.t 5), none⟩,
            ⟨some 15, .bin .add (.t 14) (.c (.p (.int .i64 1))), none⟩,
            ⟨some 5, .move (.t 15), none⟩])))

def fc11 : FC where
  nt := 23
  np := 2
  res := [.t 4]
  body :=
    (.seq
      (.region [0, 1] [
          ⟨some 4, .move (.c (.p (.bool false))), none⟩])
      (.seq
        (.seq
          (.region [0, 9] [
              ⟨some 6, .move (.t 0), none⟩,
              ⟨some 7, .len 1 (.t 6), none⟩,
              ⟨some 8, .move (.t 1), none⟩,
              ⟨some 9, .bin .gtr (.t 7) (.t 8), none⟩])
          (.cond (.t 9)
            (.seq
              (.region [4] [
                  ⟨some 4, .move (.c (.p (.bool false))), none⟩])
              .ret)
            .skip))
        (.seq
          (.seq
            (.region [0, 5] [
                ⟨some 5, .move (.c (.p (.int .i64 0))), none⟩])
            (.block 0
              (.loop [0, 5]
                fc11_b0)))
          (.seq
            (.region [4] [
                ⟨some 4, .move (.c (.p (.bool true))), none⟩])
            .ret))))

theorem ok11 : FOk Tryd.prog 11 fc11 := FOk.of Tryd.func11 (by kernel_rfl)

/-- armature/proof.Valid -/
def fc12_b0 : SC :=
    (.loc
      (.seq
        (.region [5, 6, 22, 23, 24, 25] [
            ⟨some 25, .bin .lss (.t 24) (.t 23), none⟩])
        (.seq
          (.cond (.t 25)
            .skip
            (.exit 0))
          (.seq
            (.block 1
              (.seq
                (.region [5, 6, 8, 22, 23, 24] [
                    ⟨some 26, .iaddr none 3 (.t 22) (.t 24), none⟩,
                    ⟨some 27, .load (some 3) (.t 26), none⟩,
                    ⟨some 8, .alloc [.int .i64 0, .nils, .int .i64 0], none⟩,
                    ⟨none, .store 3 (.t 8) (.t 27), none⟩])
                (.seq
                  (.region [5, 6, 8, 22, 23, 24, 29] [
                      ⟨some 28, .faddr (.t 8) 0, none⟩,
                      ⟨some 29, .load none (.t 28), none⟩])
                  (.block 2
                    (.seq
                      (.seq
                        (.region [5, 6, 8, 22, 23, 24, 29, 30] [
                            ⟨some 31, .bin .eql (.t 29) (.c (.p (.int .i64 1))), none⟩,
                            ⟨some 30, .move (.t 31), none⟩])
                        (.cond (.t 30)
                          .skip
                          (.region [5, 6, 8, 22, 23, 24, 29, 30] [
                              ⟨some 32, .bin .eql (.t 29) (.c (.p (.int .i64 2))), none⟩,
                              ⟨some 30, .move (.t 32), none⟩])))
                      (.cond (.t 30)
                        (.seq
                          (.region [5, 6, 22, 23, 24, 42] [
                              ⟨some 33, .faddr (.t 8) 2, none⟩,
                              ⟨some 34, .load none (.t 33), none⟩,
                              ⟨some 35, .bin .neq (.t 34) (.c (.p (.int .i64 0))), none⟩,
                              ⟨some 36, .move (.t 35), none⟩,
                              ⟨some 37, .move (.t 6), some (36, false)⟩,
                              ⟨some 38, .faddr (.t 8) 1, some (36, false)⟩,
                              ⟨some 39, .load none (.t 38), some (36, false)⟩,
                              ⟨some 40, .call (.t 37) [(.t 39)], some (36, false)⟩,
                              ⟨some 41, .un .not (.t 40), some (36, false)⟩,
                              ⟨some 42, .pick (.t 36) (.c (.p (.bool true))) (.t 41), none⟩])
                          (.cond (.t 42)
                            (.seq
                              (.region [4] [
                                  ⟨some 4, .move (.c (.p (.bool false))), none⟩])
                              .ret)
                            .skip))
                        (.seq
                          (.region [5, 6, 8, 22, 23, 24, 29, 43] [
                              ⟨some 44, .bin .eql (.t 29) (.c (.p (.int .i64 4))), none⟩,
                              ⟨some 43, .move (.t 44), none⟩])
                          (.cond (.t 43)
                            (.seq
                              (.region [5, 6, 22, 23, 24, 59] [
                                  ⟨some 45, .faddr (.t 8) 2, none⟩,
                                  ⟨some 46, .load none (.t 45), none⟩,
                                  ⟨some 47, .bin .lss (.t 46) (.c (.p (.int .i64 0))), none⟩,
                                  ⟨some 48, .move (.t 47), none⟩,
                                  ⟨some 49, .faddr (.t 8) 2, some (48, false)⟩,
                                  ⟨some 50, .load none (.t 49), some (48, false)⟩,
                                  ⟨some 51, .bin .gtr (.t 50) (.c (.p (.int .i64 20000))), some (48, false)⟩,
                                  ⟨some 52, .pick (.t 48) (.c (.p (.bool true))) (.t 51), none⟩,
                                  ⟨some 53, .move (.t 52), none⟩,
                                  ⟨some 54, .move (.t 6), some (53, false)⟩,
                                  ⟨some 55, .faddr (.t 8) 1, some (53, false)⟩,
                                  ⟨some 56, .load none (.t 55), some (53, false)⟩,
                                  ⟨some 57, .call (.t 54) [(.t 56)], some (53, false)⟩,
                                  ⟨some 58, .un .not (.t 57), some (53, false)⟩,
                                  ⟨some 59, .pick (.t 53) (.c (.p (.bool true))) (.t 58), none⟩])
                              (.cond (.t 59)
                                (.seq
                                  (.region [4] [
                                      ⟨some 4, .move (.c (.p (.bool false))), none⟩])
                                  .ret)
                                .skip))
                            (.seq
                              (.region [5, 6, 8, 22, 23, 24, 60] [
                                  ⟨some 61, .bin .eql (.t 29) (.c (.p (.int .i64 3))), none⟩,
                                  ⟨some 60, .move (.t 61), none⟩])
                              (.cond (.t 60)
                                (.seq
                                  (.seq
                                    (.draw [5, 6, 22, 23, 24, 91] [(11, 14), (13, 14)] [
                                        ⟨some 62, .faddr (.t 8) 2, none⟩,
                                        ⟨some 63, .load none (.t 62), none⟩,
                                        ⟨some 64, .bin .neq (.t 63) (.c (.p (.int .i64 0))), none⟩,
                                        ⟨some 65, .move (.t 64), none⟩,
                                        ⟨some 66, .faddr (.t 8) 1, some (65, false)⟩,
                                        ⟨some 67, .load none (.t 66), some (65, false)⟩,
                                        ⟨some 68, .len 1 (.t 67), some (65, false)⟩,
                                        ⟨some 69, .bin .lss (.t 68) (.c (.p (.int .i64 2))), some (65, false)⟩,
                                        ⟨some 70, .pick (.t 65) (.c (.p (.bool true))) (.t 69), none⟩,
                                        ⟨some 71, .move (.t 70), none⟩,
                                        ⟨some 72, .faddr (.t 8) 1, some (71, false)⟩,
                                        ⟨some 73, .load none (.t 72), some (71, false)⟩,
                                        ⟨some 74, .iaddr none 1 (.t 73) (.c (.p (.int .i64 0))), some (71, false)⟩,
                                        ⟨some 75, .load none (.t 74), some (71, false)⟩,
                                        ⟨some 76, .load none (.t 5), some (71, false)⟩,
                                        ⟨some 77, .bin .add (.t 76) (.c (.p (.int .i64 1))), some (71, false)⟩,
                                        ⟨some 78, .bin .neq (.t 75) (.t 77), some (71, false)⟩,
                                        ⟨some 79, .pick (.t 71) (.c (.p (.bool true))) (.t 78), none⟩,
                                        ⟨some 80, .move (.t 79), none⟩,
                                        ⟨some 81, .load none (.t 5), some (80, false)⟩,
                                        ⟨some 82, .bin .geq (.t 81) (.c (.p (.int .i64 20000))), some (80, false)⟩,
                                        ⟨some 83, .pick (.t 80) (.c (.p (.bool true))) (.t 82), none⟩,
                                        ⟨some 84, .move (.t 83), none⟩,
                                        ⟨some 85, .move (.t 6), some (84, false)⟩,
                                        ⟨some 86, .faddr (.t 8) 1, some (84, false)⟩,
                                        ⟨some 87, .load none (.t 86), some (84, false)⟩,
                                        ⟨some 88, .slice 1 (.t 87) (some (.c (.p (.int .i64 1)))) none, some (84, false)⟩,
                                        ⟨some 89, .call (.t 85) [(.t 88)], some (84, false)⟩,
                                        ⟨some 90, .un .not (.t 89), some (84, false)⟩,
                                        ⟨some 91, .pick (.t 84) (.c (.p (.bool true))) (.t 90), none⟩])
                                    (.cond (.t 91)
                                      (.seq
                                        (.region [4] [
                                            ⟨some 4, .move (.c (.p (.bool false))), none⟩])
                                        .ret)
                                      .skip))
                                  (.region [5, 6, 22, 23, 24] [
                                      ⟨some 92, .load none (.t 5), none⟩,
                                      ⟨some 93, .bin .add (.t 92) (.c (.p (.int .i64 1))), none⟩,
                                      ⟨none, .store 1 (.t 5) (.t 93), none⟩]))
                                (.seq
                                  (.region [4] [
                                      ⟨some 4, .move (.c (.p (.bool false))), none⟩])
                                  .ret)))))))))))
            (.region [5, 6, 22, 23, 24] [
                ⟨some 94, .bin .add (.t 24) (.c (.p (.int .i64 1))), none⟩,
                ⟨some 24, .move (.t 94), none⟩])))))

def fc12 : FC where
  nt := 95
  np := 2
  res := [.t 4]
  body :=
    (.seq
      (.region [0, 1] [
          ⟨some 4, .move (.c (.p (.bool false))), none⟩])
      (.seq
        (.seq
          (.region [0, 1, 19] [
              ⟨some 9, .move (.t 0), none⟩,
              ⟨some 10, .bin .lss (.t 9) (.c (.p (.int .i64 0))), none⟩,
              ⟨some 11, .move (.t 10), none⟩,
              ⟨some 12, .move (.t 0), some (11, false)⟩,
              ⟨some 13, .bin .gtr (.t 12) (.c (.p (.int .i64 20000))), some (11, false)⟩,
              ⟨some 14, .pick (.t 11) (.c (.p (.bool true))) (.t 13), none⟩,
              ⟨some 15, .move (.t 14), none⟩,
              ⟨some 16, .move (.t 1), some (15, false)⟩,
              ⟨some 17, .len 1 (.t 16), some (15, false)⟩,
              ⟨some 18, .bin .gtr (.t 17) (.c (.p (.int .i64 20000))), some (15, false)⟩,
              ⟨some 19, .pick (.t 15) (.c (.p (.bool true))) (.t 18), none⟩])
          (.cond (.t 19)
            (.seq
              (.region [4] [
                  ⟨some 4, .move (.c (.p (.bool false))), none⟩])
              .ret)
            .skip))
        (.seq
          (.region [1, 5] [
              ⟨some 20, .move (.t 0), none⟩,
              ⟨some 5, .alloc [.int .i64 0], none⟩,
              ⟨none, .store 1 (.t 5) (.t 20), none⟩])
          (.seq
            (.region [1, 5, 6] [
                ⟨some 21, .mkfn 20 [] [(.t 5)], none⟩,
                ⟨some 6, .move (.t 21), none⟩])
            (.seq
              (.seq
                (.region [5, 6, 22, 23, 24] [
                    ⟨some 22, .move (.t 1), none⟩,
                    ⟨some 23, .len 1 (.t 22), none⟩,
                    ⟨some 24, .move (.c (.p (.int .i64 0))), none⟩])
                (.block 0
                  (.loop [5, 6, 22, 23, 24]
                    fc12_b0)))
              (.seq
                (.region [4] [
                    ⟨some 4, .move (.c (.p (.bool true))), none⟩])
                .ret))))))

theorem ok12 : FOk Tryd.prog 12 fc12 := FOk.of Tryd.func12 (by kernel_rfl)

/-- armature/proof.Decode -/
def fc13_b0 : SC :=
    (.loc
      (.seq
        (.seq
          (.region [0, 4, 14] [
              ⟨some 13, .move (.t 0), none⟩,
              ⟨some 14, .bin .neq (.t 13) (.c (.p (.str []))), none⟩])
          (.cond (.t 14)
            .skip
            (.exit 0)))
        (.block 1
          (.seq
            (.region [4, 5, 6, 7] [
                ⟨some 16, .move (.t 0), none⟩,
                ⟨some 17, .call (.c (.fn 21 [] [])) [(.t 16), (.c (.p (.str [10])))], none⟩,
                ⟨some 15, .move (.t 17), none⟩,
                ⟨some 18, .extract (.t 15) 0, none⟩,
                ⟨some 19, .extract (.t 15) 1, none⟩,
                ⟨some 20, .extract (.t 15) 2, none⟩,
                ⟨some 5, .move (.t 18), none⟩,
                ⟨some 6, .move (.t 19), none⟩,
                ⟨some 7, .move (.t 20), none⟩])
            (.seq
              (.region [4, 6, 7, 8, 9] [
                  ⟨some 22, .move (.t 5), none⟩,
                  ⟨some 23, .call (.c (.fn 22 [] [])) [(.t 22)], none⟩,
                  ⟨some 21, .move (.t 23), none⟩,
                  ⟨some 24, .extract (.t 21) 0, none⟩,
                  ⟨some 25, .extract (.t 21) 1, none⟩,
                  ⟨some 8, .alloc [.int .i64 0, .nils, .int .i64 0], none⟩,
                  ⟨none, .store 3 (.t 8) (.t 24), none⟩,
                  ⟨some 9, .move (.t 25), none⟩])
              (.seq
                (.seq
                  (.region [4, 6, 8, 31] [
                      ⟨some 26, .move (.t 7), none⟩,
                      ⟨some 27, .un .not (.t 26), none⟩,
                      ⟨some 28, .move (.t 27), none⟩,
                      ⟨some 29, .move (.t 9), some (28, false)⟩,
                      ⟨some 30, .un .not (.t 29), some (28, false)⟩,
                      ⟨some 31, .pick (.t 28) (.c (.p (.bool true))) (.t 30), none⟩])
                  (.cond (.t 31)
                    (.seq
                      (.region [2, 3] [
                          ⟨some 2, .move (.c (.p (.nils))), none⟩,
                          ⟨some 3, .move (.c (.p (.int .i64 340))), none⟩])
                      .ret)
                    .skip))
                (.seq
                  (.region [4, 6] [
                      ⟨some 32, .move (.t 4), none⟩,
                      ⟨some 33, .load (some 3) (.t 8), none⟩,
                      ⟨some 34, .bslice 43 3 1 (.agg [.int .i64 0, .nils, .int .i64 0]) [(0, (.t 33))], none⟩,
                      ⟨some 35, .append 43 3 40 (.t 32) (.t 34), none⟩,
                      ⟨some 4, .move (.t 35), none⟩])
                  (.region [0, 4] [
                      ⟨some 36, .move (.t 6), none⟩,
                      ⟨some 0, .move (.t 36), none⟩]))))))))

def fc13 : FC where
  nt := 38
  np := 1
  res := [.t 2, .t 3]
  body :=
    (.seq
      (.region [0] [
          ⟨some 2, .move (.c (.p (.nils))), none⟩,
          ⟨some 3, .move (.c (.p (.int .i64 0))), none⟩])
      (.seq
        (.seq
          (.region [0, 12] [
              ⟨some 10, .move (.t 0), none⟩,
              ⟨some 11, .len 0 (.t 10), none⟩,
              ⟨some 12, .bin .gtr (.t 11) (.c (.p (.int .i64 2000000))), none⟩])
          (.cond (.t 12)
            (.seq
              (.region [2, 3] [
                  ⟨some 2, .move (.c (.p (.nils))), none⟩,
                  ⟨some 3, .move (.c (.p (.int .i64 2))), none⟩])
              .ret)
            .skip))
        (.seq
          (.region [0, 4] [
              ⟨some 4, .move (.c (.p (.nils))), none⟩])
          (.seq
            (.block 0
              (.seq
                (.tok 4 43 3)
                (.loop [0, 4]
                  fc13_b0)))
            (.seq
              (.region [2, 3] [
                  ⟨some 37, .move (.t 4), none⟩,
                  ⟨some 2, .move (.t 37), none⟩,
                  ⟨some 3, .move (.c (.p (.int .i64 0))), none⟩])
              .ret)))))

theorem ok13 : FOk Tryd.prog 13 fc13 := FOk.of Tryd.func13 (by kernel_rfl)

/-- armature/proof.Encode -/
def fc14_b0 : SC :=
    (.loc
      (.seq
        (.region [3, 8, 9, 10, 27, 28, 29, 30] [
            ⟨some 30, .bin .lss (.t 29) (.t 28), none⟩])
        (.seq
          (.cond (.t 30)
            .skip
            (.exit 2))
          (.seq
            (.block 3
              (.seq
                (.region [3, 7, 8, 9, 10, 27, 28, 29] [
                    ⟨some 31, .iaddr none 1 (.t 27) (.t 29), none⟩,
                    ⟨some 32, .load none (.t 31), none⟩,
                    ⟨some 7, .move (.t 32), none⟩])
                (.region [3, 8, 9, 10, 27, 28, 29] [
                    ⟨some 33, .move (.t 7), none⟩,
                    ⟨some 34, .call (.c (.fn 26 [] [])) [(.t 33)], none⟩,
                    ⟨some 35, .bin .add (.c (.p (.str [32]))) (.t 34), none⟩,
                    ⟨some 36, .call (.c (.fn 25 [] [])) [(.t 3), (.t 35)], none⟩])))
            (.region [3, 8, 9, 10, 27, 28, 29] [
                ⟨some 37, .bin .add (.t 29) (.c (.p (.int .i64 1))), none⟩,
                ⟨some 29, .move (.t 37), none⟩])))))

def fc14_b1 : SC :=
    (.loc
      (.seq
        (.region [3, 8, 9, 10, 11] [
            ⟨some 11, .bin .lss (.t 10) (.t 9), none⟩])
        (.seq
          (.cond (.t 11)
            .skip
            (.exit 0))
          (.seq
            (.block 1
              (.seq
                (.region [3, 5, 8, 9, 10] [
                    ⟨some 12, .iaddr none 3 (.t 8) (.t 10), none⟩,
                    ⟨some 13, .load (some 3) (.t 12), none⟩,
                    ⟨some 5, .alloc [.int .i64 0, .nils, .int .i64 0], none⟩,
                    ⟨none, .store 3 (.t 5) (.t 13), none⟩])
                (.seq
                  (.region [3, 5, 8, 9, 10] [
                      ⟨some 14, .faddr (.t 5) 0, none⟩,
                      ⟨some 15, .load none (.t 14), none⟩,
                      ⟨some 16, .call (.c (.fn 24 [] [])) [(.t 15)], none⟩,
                      ⟨some 17, .call (.c (.fn 23 [] [])) [(.t 3), (.t 16)], none⟩])
                  (.seq
                    (.seq
                      (.region [3, 5, 8, 9, 10, 20] [
                          ⟨some 18, .faddr (.t 5) 0, none⟩,
                          ⟨some 19, .load none (.t 18), none⟩,
                          ⟨some 20, .bin .eql (.t 19) (.c (.p (.int .i64 4))), none⟩])
                      (.cond (.t 20)
                        (.region [3, 5, 8, 9, 10] [
                            ⟨some 21, .faddr (.t 5) 2, none⟩,
                            ⟨some 22, .load none (.t 21), none⟩,
                            ⟨some 23, .call (.c (.fn 26 [] [])) [(.t 22)], none⟩,
                            ⟨some 24, .bin .add (.c (.p (.str [32]))) (.t 23), none⟩,
                            ⟨some 25, .call (.c (.fn 25 [] [])) [(.t 3), (.t 24)], none⟩])
                        .skip))
                    (.seq
                      (.seq
                        (.region [3, 8, 9, 10, 27, 28, 29] [
                            ⟨some 26, .faddr (.t 5) 1, none⟩,
                            ⟨some 27, .load none (.t 26), none⟩,
                            ⟨some 28, .len 1 (.t 27), none⟩,
                            ⟨some 29, .move (.c (.p (.int .i64 0))), none⟩])
                        (.block 2
                          (.loop [3, 8, 9, 10, 27, 28, 29]
                            fc14_b0)))
                      (.region [3, 8, 9, 10] [
                          ⟨some 38, .call (.c (.fn 25 [] [])) [(.t 3), (.c (.p (.str [32, 48, 10])))], none⟩]))))))
            (.region [3, 8, 9, 10] [
                ⟨some 39, .bin .add (.t 10) (.c (.p (.int .i64 1))), none⟩,
                ⟨some 10, .move (.t 39), none⟩])))))

def fc14 : FC where
  nt := 41
  np := 1
  res := [.t 2]
  body :=
    (.seq
      (.region [0] [
          ⟨some 2, .move (.c (.p (.str []))), none⟩])
      (.seq
        (.region [0, 3] [
            ⟨some 3, .allocB 52 [.nilp, .nils], none⟩])
        (.seq
          (.tokb 3 1 5 1)
          (.seq
            (.seq
              (.region [3, 8, 9, 10] [
                  ⟨some 8, .move (.t 0), none⟩,
                  ⟨some 9, .len 1 (.t 8), none⟩,
                  ⟨some 10, .move (.c (.p (.int .i64 0))), none⟩])
              (.block 0
                (.loop [3, 8, 9, 10]
                  fc14_b1)))
            (.seq
              (.region [2] [
                  ⟨some 40, .call (.c (.fn 27 [] [])) [(.t 3)], none⟩,
                  ⟨some 2, .move (.t 40), none⟩])
              .ret)))))

theorem ok14 : FOk Tryd.prog 14 fc14 := FOk.of Tryd.func14 (by kernel_rfl)

/-- armature/armatureref22.Equal -/
def fc15_b0 : SC :=
    (.seq
      (.seq
        (.region [0, 1, 5, 6, 64] [
            ⟨some 57, .move (.t 6), none⟩,
            ⟨some 58, .move (.t 0), none⟩,
            ⟨some 59, .move (.t 5), none⟩,
            ⟨some 60, .iaddr none 3 (.t 58) (.t 59), none⟩,
            ⟨some 61, .faddr (.t 60) 1, none⟩,
            ⟨some 62, .load none (.t 61), none⟩,
            ⟨some 63, .len 1 (.t 62), none⟩,
            ⟨some 64, .bin .lss (.t 57) (.t 63), none⟩])
        (.cond (.t 64)
          .skip
          (.exit 2)))
      (.seq
        (.block 3
          (.seq
            (.draw [0, 1, 5, 6, 83] [(4, 12), (7, 12), (4, 15), (7, 15)] [
                ⟨some 67, .move (.t 0), none⟩,
                ⟨some 68, .move (.t 5), none⟩,
                ⟨some 69, .iaddr none 3 (.t 67) (.t 68), none⟩,
                ⟨some 70, .faddr (.t 69) 1, none⟩,
                ⟨some 71, .load none (.t 70), none⟩,
                ⟨some 72, .move (.t 6), none⟩,
                ⟨some 73, .iaddr none 1 (.t 71) (.t 72), none⟩,
                ⟨some 74, .load none (.t 73), none⟩,
                ⟨some 75, .move (.t 1), none⟩,
                ⟨some 76, .move (.t 5), none⟩,
                ⟨some 77, .iaddr none 3 (.t 75) (.t 76), none⟩,
                ⟨some 78, .faddr (.t 77) 1, none⟩,
                ⟨some 79, .load none (.t 78), none⟩,
                ⟨some 80, .move (.t 6), none⟩,
                ⟨some 81, .iaddr none 1 (.t 79) (.t 80), none⟩,
                ⟨some 82, .load none (.t 81), none⟩,
                ⟨some 83, .bin .neq (.t 74) (.t 82), none⟩])
            (.cond (.t 83)
              (.seq
                (.region [4] [
                    ⟨some 4, .move (.c (.p (.bool false))), none⟩])
                .ret)
              .skip)))
        (.region [0, 1, 5, 6] [
            ⟨some 65, .move (.t 6), none⟩,
            ⟨some 66, .bin .add (.t 65) (.c (.p (.int .i64 1))), none⟩,
            ⟨some 6, .move (.t 66), none⟩])))

def fc15_b1 : SC :=
    (.seq
      (.seq
        (.region [0, 1, 5, 15] [
            ⟨some 12, .move (.t 5), none⟩,
            ⟨some 13, .move (.t 0), none⟩,
            ⟨some 14, .len 1 (.t 13), none⟩,
            ⟨some 15, .bin .lss (.t 12) (.t 14), none⟩])
        (.cond (.t 15)
          .skip
          (.exit 0)))
      (.seq
        (.block 1
          (.seq
            (.seq
              (.draw [0, 1, 5, 56] [(4, 9), (16, 21), (29, 35)] [
                  ⟨some 18, .move (.t 0), none⟩,
                  ⟨some 19, .move (.t 5), none⟩,
                  ⟨some 20, .iaddr none 3 (.t 18) (.t 19), none⟩,
                  ⟨some 21, .faddr (.t 20) 0, none⟩,
                  ⟨some 22, .load none (.t 21), none⟩,
                  ⟨some 23, .move (.t 1), none⟩,
                  ⟨some 24, .move (.t 5), none⟩,
                  ⟨some 25, .iaddr none 3 (.t 23) (.t 24), none⟩,
                  ⟨some 26, .faddr (.t 25) 0, none⟩,
                  ⟨some 27, .load none (.t 26), none⟩,
                  ⟨some 28, .bin .neq (.t 22) (.t 27), none⟩,
                  ⟨some 29, .move (.t 28), none⟩,
                  ⟨some 30, .move (.t 0), some (29, false)⟩,
                  ⟨some 31, .move (.t 5), some (29, false)⟩,
                  ⟨some 32, .iaddr none 3 (.t 30) (.t 31), some (29, false)⟩,
                  ⟨some 33, .faddr (.t 32) 2, some (29, false)⟩,
                  ⟨some 34, .load none (.t 33), some (29, false)⟩,
                  ⟨some 35, .move (.t 1), some (29, false)⟩,
                  ⟨some 36, .move (.t 5), some (29, false)⟩,
                  ⟨some 37, .iaddr none 3 (.t 35) (.t 36), some (29, false)⟩,
                  ⟨some 38, .faddr (.t 37) 2, some (29, false)⟩,
                  ⟨some 39, .load none (.t 38), some (29, false)⟩,
                  ⟨some 40, .bin .neq (.t 34) (.t 39), some (29, false)⟩,
                  ⟨some 41, .pick (.t 29) (.c (.p (.bool true))) (.t 40), none⟩,
                  ⟨some 42, .move (.t 41), none⟩,
                  ⟨some 43, .move (.t 0), some (42, false)⟩,
                  ⟨some 44, .move (.t 5), some (42, false)⟩,
                  ⟨some 45, .iaddr none 3 (.t 43) (.t 44), some (42, false)⟩,
                  ⟨some 46, .faddr (.t 45) 1, some (42, false)⟩,
                  ⟨some 47, .load none (.t 46), some (42, false)⟩,
                  ⟨some 48, .len 1 (.t 47), some (42, false)⟩,
                  ⟨some 49, .move (.t 1), some (42, false)⟩,
                  ⟨some 50, .move (.t 5), some (42, false)⟩,
                  ⟨some 51, .iaddr none 3 (.t 49) (.t 50), some (42, false)⟩,
                  ⟨some 52, .faddr (.t 51) 1, some (42, false)⟩,
                  ⟨some 53, .load none (.t 52), some (42, false)⟩,
                  ⟨some 54, .len 1 (.t 53), some (42, false)⟩,
                  ⟨some 55, .bin .neq (.t 48) (.t 54), some (42, false)⟩,
                  ⟨some 56, .pick (.t 42) (.c (.p (.bool true))) (.t 55), none⟩])
              (.cond (.t 56)
                (.seq
                  (.region [4] [
                      ⟨some 4, .move (.c (.p (.bool false))), none⟩])
                  .ret)
                .skip))
            (.seq
              (.region [0, 1, 5, 6] [
                  ⟨some 6, .move (.c (.p (.int .i64 0))), none⟩])
              (.block 2
                (.loop [0, 1, 5, 6]
                  fc15_b0)))))
        (.region [0, 1, 5] [
            ⟨some 16, .move (.t 5), none⟩,
            ⟨some 17, .bin .add (.t 16) (.c (.p (.int .i64 1))), none⟩,
            ⟨some 5, .move (.t 17), none⟩])))

def fc15 : FC where
  nt := 84
  np := 2
  res := [.t 4]
  body :=
    (.seq
      (.region [0, 1] [
          ⟨some 4, .move (.c (.p (.bool false))), none⟩])
      (.seq
        (.seq
          (.region [0, 1, 11] [
              ⟨some 7, .move (.t 0), none⟩,
              ⟨some 8, .len 1 (.t 7), none⟩,
              ⟨some 9, .move (.t 1), none⟩,
              ⟨some 10, .len 1 (.t 9), none⟩,
              ⟨some 11, .bin .neq (.t 8) (.t 10), none⟩])
          (.cond (.t 11)
            (.seq
              (.region [4] [
                  ⟨some 4, .move (.c (.p (.bool false))), none⟩])
              .ret)
            .skip))
        (.seq
          (.seq
            (.region [0, 1, 5] [
                ⟨some 5, .move (.c (.p (.int .i64 0))), none⟩])
            (.block 0
              (.loop [0, 1, 5]
                fc15_b1)))
          (.seq
            (.region [4] [
                ⟨some 4, .move (.c (.p (.bool true))), none⟩])
            .ret))))

theorem ok15 : FOk Tryd.prog 15 fc15 := FOk.of Tryd.func15 (by kernel_rfl)

/-- armature/proof.Equal -/
def fc16 : FC where
  nt := 8
  np := 2
  res := [.t 4]
  body :=
    (.seq
      (.region [0, 1] [
          ⟨some 4, .move (.c (.p (.bool false))), none⟩])
      (.seq
        (.region [4] [
            ⟨some 5, .move (.t 0), none⟩,
            ⟨some 6, .move (.t 1), none⟩,
            ⟨some 7, .call (.c (.fn 28 [] [])) [(.t 5), (.t 6), (.c (.fn 29 [] []))], none⟩,
            ⟨some 4, .move (.t 7), none⟩])
        .ret))

theorem ok16 : FOk Tryd.prog 16 fc16 := FOk.of Tryd.func16 (by kernel_rfl)

/-- armature/armaturelaw22.plain -/
def fc17_b0 : SC :=
    (.seq
      (.seq
        (.region [0, 3, 4, 32] [
            ⟨some 25, .move (.t 4), none⟩,
            ⟨some 26, .move (.t 0), none⟩,
            ⟨some 27, .move (.t 3), none⟩,
            ⟨some 28, .iaddr none 3 (.t 26) (.t 27), none⟩,
            ⟨some 29, .faddr (.t 28) 1, none⟩,
            ⟨some 30, .load none (.t 29), none⟩,
            ⟨some 31, .len 1 (.t 30), none⟩,
            ⟨some 32, .bin .lss (.t 25) (.t 31), none⟩])
        (.cond (.t 32)
          .skip
          (.exit 2)))
      (.seq
        (.block 3
          (.seq
            (.region [0, 3, 4, 43] [
                ⟨some 35, .move (.t 0), none⟩,
                ⟨some 36, .move (.t 3), none⟩,
                ⟨some 37, .iaddr none 3 (.t 35) (.t 36), none⟩,
                ⟨some 38, .faddr (.t 37) 1, none⟩,
                ⟨some 39, .load none (.t 38), none⟩,
                ⟨some 40, .move (.t 4), none⟩,
                ⟨some 41, .iaddr none 1 (.t 39) (.t 40), none⟩,
                ⟨some 42, .load none (.t 41), none⟩,
                ⟨some 43, .bin .eql (.t 42) (.c (.p (.int .i64 0))), none⟩])
            (.cond (.t 43)
              (.seq
                (.region [2] [
                    ⟨some 2, .move (.c (.p (.bool false))), none⟩])
                .ret)
              .skip)))
        (.region [0, 3, 4] [
            ⟨some 33, .move (.t 4), none⟩,
            ⟨some 34, .bin .add (.t 33) (.c (.p (.int .i64 1))), none⟩,
            ⟨some 4, .move (.t 34), none⟩])))

def fc17_b1 : SC :=
    (.seq
      (.seq
        (.region [0, 3, 8] [
            ⟨some 5, .move (.t 3), none⟩,
            ⟨some 6, .move (.t 0), none⟩,
            ⟨some 7, .len 1 (.t 6), none⟩,
            ⟨some 8, .bin .lss (.t 5) (.t 7), none⟩])
        (.cond (.t 8)
          .skip
          (.exit 0)))
      (.seq
        (.block 1
          (.seq
            (.seq
              (.region [0, 3, 24] [
                  ⟨some 11, .move (.t 0), none⟩,
                  ⟨some 12, .move (.t 3), none⟩,
                  ⟨some 13, .iaddr none 3 (.t 11) (.t 12), none⟩,
                  ⟨some 14, .faddr (.t 13) 0, none⟩,
                  ⟨some 15, .load none (.t 14), none⟩,
                  ⟨some 16, .bin .lss (.t 15) (.c (.p (.int .i64 1))), none⟩,
                  ⟨some 17, .move (.t 16), none⟩,
                  ⟨some 18, .move (.t 0), some (17, false)⟩,
                  ⟨some 19, .move (.t 3), some (17, false)⟩,
                  ⟨some 20, .iaddr none 3 (.t 18) (.t 19), some (17, false)⟩,
                  ⟨some 21, .faddr (.t 20) 0, some (17, false)⟩,
                  ⟨some 22, .load none (.t 21), some (17, false)⟩,
                  ⟨some 23, .bin .gtr (.t 22) (.c (.p (.int .i64 4))), some (17, false)⟩,
                  ⟨some 24, .pick (.t 17) (.c (.p (.bool true))) (.t 23), none⟩])
              (.cond (.t 24)
                (.seq
                  (.region [2] [
                      ⟨some 2, .move (.c (.p (.bool false))), none⟩])
                  .ret)
                .skip))
            (.seq
              (.region [0, 3, 4] [
                  ⟨some 4, .move (.c (.p (.int .i64 0))), none⟩])
              (.block 2
                (.loop [0, 3, 4]
                  fc17_b0)))))
        (.region [0, 3] [
            ⟨some 9, .move (.t 3), none⟩,
            ⟨some 10, .bin .add (.t 9) (.c (.p (.int .i64 1))), none⟩,
            ⟨some 3, .move (.t 10), none⟩])))

def fc17 : FC where
  nt := 44
  np := 1
  res := [.t 2]
  body :=
    (.seq
      (.region [0] [
          ⟨some 2, .move (.c (.p (.bool false))), none⟩])
      (.seq
        (.seq
          (.region [0, 3] [
              ⟨some 3, .move (.c (.p (.int .i64 0))), none⟩])
          (.block 0
            (.loop [0, 3]
              fc17_b1)))
        (.seq
          (.region [2] [
              ⟨some 2, .move (.c (.p (.bool true))), none⟩])
          .ret)))

theorem ok17 : FOk Tryd.prog 17 fc17 := FOk.of Tryd.func17 (by kernel_rfl)

/-- armature/armaturelaw22.defines -/
def fc18_b0 : SC :=
    (.seq
      (.seq
        (.region [0, 3, 4, 8] [
            ⟨some 5, .move (.t 4), none⟩,
            ⟨some 6, .move (.t 0), none⟩,
            ⟨some 7, .len 1 (.t 6), none⟩,
            ⟨some 8, .bin .lss (.t 5) (.t 7), none⟩])
        (.cond (.t 8)
          .skip
          (.exit 0)))
      (.seq
        (.block 1
          (.seq
            (.region [0, 3, 4, 16] [
                ⟨some 11, .move (.t 0), none⟩,
                ⟨some 12, .move (.t 4), none⟩,
                ⟨some 13, .iaddr none 3 (.t 11) (.t 12), none⟩,
                ⟨some 14, .faddr (.t 13) 0, none⟩,
                ⟨some 15, .load none (.t 14), none⟩,
                ⟨some 16, .bin .eql (.t 15) (.c (.p (.int .i64 3))), none⟩])
            (.cond (.t 16)
              (.region [0, 3, 4] [
                  ⟨some 17, .move (.t 3), none⟩,
                  ⟨some 18, .bin .add (.t 17) (.c (.p (.int .i64 1))), none⟩,
                  ⟨some 3, .move (.t 18), none⟩])
              .skip)))
        (.region [0, 3, 4] [
            ⟨some 9, .move (.t 4), none⟩,
            ⟨some 10, .bin .add (.t 9) (.c (.p (.int .i64 1))), none⟩,
            ⟨some 4, .move (.t 10), none⟩])))

def fc18 : FC where
  nt := 20
  np := 1
  res := [.t 2]
  body :=
    (.seq
      (.region [0] [
          ⟨some 2, .move (.c (.p (.int .i64 0))), none⟩])
      (.seq
        (.region [0, 3] [
            ⟨some 3, .move (.c (.p (.int .i64 0))), none⟩])
        (.seq
          (.seq
            (.region [0, 3, 4] [
                ⟨some 4, .move (.c (.p (.int .i64 0))), none⟩])
            (.block 0
              (.loop [0, 3, 4]
                fc18_b0)))
          (.seq
            (.region [2] [
                ⟨some 19, .move (.t 3), none⟩,
                ⟨some 2, .move (.t 19), none⟩])
            .ret))))

theorem ok18 : FOk Tryd.prog 18 fc18 := FOk.of Tryd.func18 (by kernel_rfl)

/-- armature/proof.Shift -/
def fc19_b0 : SC :=
    (.seq
      (.region [1, 5, 6, 8, 13, 14, 15, 23, 24, 25, 26] [
          ⟨some 26, .bin .lss (.t 25) (.t 24), none⟩])
      (.seq
        (.cond (.t 26)
          .skip
          (.exit 2))
        (.seq
          (.block 3
            (.seq
              (.region [1, 5, 6, 8, 9, 10, 13, 14, 15, 23, 24, 25] [
                  ⟨some 27, .move (.t 25), none⟩,
                  ⟨some 28, .iaddr none 1 (.t 23) (.t 25), none⟩,
                  ⟨some 29, .load none (.t 28), none⟩,
                  ⟨some 9, .move (.t 27), none⟩,
                  ⟨some 10, .move (.t 29), none⟩])
              (.block 4
                (.seq
                  (.region [1, 5, 6, 8, 9, 10, 13, 14, 15, 23, 24, 25, 30] [
                      ⟨some 31, .move (.t 10), none⟩,
                      ⟨some 32, .bin .gtr (.t 31) (.c (.p (.int .i64 0))), none⟩,
                      ⟨some 30, .move (.t 32), none⟩])
                  (.cond (.t 30)
                    (.region [1, 5, 6, 8, 13, 14, 15, 23, 24, 25] [
                        ⟨some 33, .move (.t 8), none⟩,
                        ⟨some 34, .move (.t 9), none⟩,
                        ⟨some 35, .move (.t 10), none⟩,
                        ⟨some 36, .move (.t 1), none⟩,
                        ⟨some 37, .bin .add (.t 35) (.t 36), none⟩,
                        ⟨some 38, .iaddr none 1 (.t 33) (.t 34), none⟩,
                        ⟨none, .store 1 (.t 38) (.t 37), none⟩])
                    (.seq
                      (.region [1, 5, 6, 8, 9, 10, 13, 14, 15, 23, 24, 25, 39] [
                          ⟨some 40, .move (.t 10), none⟩,
                          ⟨some 41, .bin .lss (.t 40) (.c (.p (.int .i64 0))), none⟩,
                          ⟨some 39, .move (.t 41), none⟩])
                      (.cond (.t 39)
                        (.region [1, 5, 6, 8, 13, 14, 15, 23, 24, 25] [
                            ⟨some 42, .move (.t 8), none⟩,
                            ⟨some 43, .move (.t 9), none⟩,
                            ⟨some 44, .move (.t 10), none⟩,
                            ⟨some 45, .move (.t 1), none⟩,
                            ⟨some 46, .bin .sub (.t 44) (.t 45), none⟩,
                            ⟨some 47, .iaddr none 1 (.t 42) (.t 43), none⟩,
                            ⟨none, .store 1 (.t 47) (.t 46), none⟩])
                        .skip)))))))
          (.region [1, 5, 6, 8, 13, 14, 15, 23, 24, 25] [
              ⟨some 48, .bin .add (.t 25) (.c (.p (.int .i64 1))), none⟩,
              ⟨some 25, .move (.t 48), none⟩]))))

def fc19_b1 : SC :=
    (.locz
      (.seq
        (.region [1, 5, 13, 14, 15, 16] [
            ⟨some 16, .bin .lss (.t 15) (.t 14), none⟩])
        (.seq
          (.cond (.t 16)
            .skip
            (.exit 0))
          (.seq
            (.block 1
              (.seq
                (.region [1, 5, 6, 7, 13, 14, 15] [
                    ⟨some 17, .move (.t 15), none⟩,
                    ⟨some 18, .iaddr none 3 (.t 13) (.t 15), none⟩,
                    ⟨some 19, .load (some 3) (.t 18), none⟩,
                    ⟨some 7, .alloc [.int .i64 0, .nils, .int .i64 0], none⟩,
                    ⟨some 6, .move (.t 17), none⟩,
                    ⟨none, .store 3 (.t 7) (.t 19), none⟩])
                (.seq
                  (.region [1, 5, 6, 8, 13, 14, 15] [
                      ⟨some 20, .faddr (.t 7) 1, none⟩,
                      ⟨some 21, .load none (.t 20), none⟩,
                      ⟨some 22, .call (.c (.fn 32 [] [])) [(.t 21)], none⟩,
                      ⟨some 8, .move (.t 22), none⟩])
                  (.seq
                    (.seq
                      (.region [1, 5, 6, 8, 13, 14, 15, 23, 24, 25] [
                          ⟨some 23, .move (.t 8), none⟩,
                          ⟨some 24, .len 1 (.t 23), none⟩,
                          ⟨some 25, .move (.c (.p (.int .i64 0))), none⟩])
                      (.block 2
                        (.loop [1, 5, 6, 8, 13, 14, 15, 23, 24, 25]
                          fc19_b0)))
                    (.region [1, 5, 13, 14, 15] [
                        ⟨some 49, .move (.t 5), none⟩,
                        ⟨some 50, .move (.t 6), none⟩,
                        ⟨some 51, .move (.t 8), none⟩,
                        ⟨some 52, .iaddr none 3 (.t 49) (.t 50), none⟩,
                        ⟨some 53, .faddr (.t 52) 1, none⟩,
                        ⟨none, .store 1 (.t 53) (.t 51), none⟩])))))
            (.region [1, 5, 13, 14, 15] [
                ⟨some 54, .bin .add (.t 15) (.c (.p (.int .i64 1))), none⟩,
                ⟨some 15, .move (.t 54), none⟩])))))

def fc19 : FC where
  nt := 56
  np := 2
  res := [.t 4]
  body :=
    (.seq
      (.region [0, 1] [
          ⟨some 4, .move (.c (.p (.nils))), none⟩])
      (.seq
        (.region [1, 5] [
            ⟨some 11, .move (.t 0), none⟩,
            ⟨some 12, .call (.c (.fn 31 [] [])) [(.t 11)], none⟩,
            ⟨some 5, .move (.t 12), none⟩])
        (.seq
          (.seq
            (.region [1, 5, 13, 14, 15] [
                ⟨some 13, .move (.t 5), none⟩,
                ⟨some 14, .len 1 (.t 13), none⟩,
                ⟨some 15, .move (.c (.p (.int .i64 0))), none⟩])
            (.block 0
              (.loop [1, 5, 13, 14, 15]
                fc19_b1)))
          (.seq
            (.region [4] [
                ⟨some 55, .move (.t 5), none⟩,
                ⟨some 4, .move (.t 55), none⟩])
            .ret))))
  frz := true

theorem ok19 : FOk Tryd.prog 19 fc19 := FOk.of Tryd.func19 (by kernel_rfl)

/-- armature/proof.Valid$1 -/
def fc20_b0 : SC :=
    (.seq
      (.region [1, 6, 7, 8, 9] [
          ⟨some 9, .bin .lss (.t 8) (.t 7), none⟩])
      (.seq
        (.cond (.t 9)
          .skip
          (.exit 0))
        (.seq
          (.block 1
            (.seq
              (.region [1, 5, 6, 7, 8] [
                  ⟨some 10, .iaddr none 1 (.t 6) (.t 8), none⟩,
                  ⟨some 11, .load none (.t 10), none⟩,
                  ⟨some 5, .move (.t 11), none⟩])
              (.seq
                (.region [1, 6, 7, 8, 24] [
                    ⟨some 12, .move (.t 5), none⟩,
                    ⟨some 13, .bin .eql (.t 12) (.c (.p (.int .i64 0))), none⟩,
                    ⟨some 14, .move (.t 13), none⟩,
                    ⟨some 15, .move (.t 5), some (14, false)⟩,
                    ⟨some 16, .load none (.t 1), some (14, false)⟩,
                    ⟨some 17, .bin .gtr (.t 15) (.t 16), some (14, false)⟩,
                    ⟨some 18, .pick (.t 14) (.c (.p (.bool true))) (.t 17), none⟩,
                    ⟨some 19, .move (.t 18), none⟩,
                    ⟨some 20, .move (.t 5), some (19, false)⟩,
                    ⟨some 21, .load none (.t 1), some (19, false)⟩,
                    ⟨some 22, .un .neg (.t 21), some (19, false)⟩,
                    ⟨some 23, .bin .lss (.t 20) (.t 22), some (19, false)⟩,
                    ⟨some 24, .pick (.t 19) (.c (.p (.bool true))) (.t 23), none⟩])
                (.cond (.t 24)
                  (.seq
                    (.region [3] [
                        ⟨some 3, .move (.c (.p (.bool false))), none⟩])
                    .ret)
                  .skip))))
          (.region [1, 6, 7, 8] [
              ⟨some 25, .bin .add (.t 8) (.c (.p (.int .i64 1))), none⟩,
              ⟨some 8, .move (.t 25), none⟩]))))

def fc20 : FC where
  nt := 26
  np := 2
  res := [.t 3]
  body :=
    (.seq
      (.region [0, 1] [
          ⟨some 3, .move (.c (.p (.bool false))), none⟩])
      (.seq
        (.seq
          (.region [1, 6, 7, 8] [
              ⟨some 6, .move (.t 0), none⟩,
              ⟨some 7, .len 1 (.t 6), none⟩,
              ⟨some 8, .move (.c (.p (.int .i64 0))), none⟩])
          (.block 0
            (.loop [1, 6, 7, 8]
              fc20_b0)))
        (.seq
          (.region [3] [
              ⟨some 3, .move (.c (.p (.bool true))), none⟩])
          .ret)))

theorem ok20 : FOk Tryd.prog 20 fc20 := FOk.of Tryd.func20 (by kernel_rfl)

/-- armature/proof.step -/
def fc22_b0 : SC :=
    (.loc
      (.block 1
        (.seq
          (.region [2, 4, 5, 6, 9, 10] [
              ⟨some 63, .move (.t 5), none⟩,
              ⟨some 64, .call (.t 63) [], none⟩,
              ⟨some 62, .move (.t 64), none⟩,
              ⟨some 65, .extract (.t 62) 0, none⟩,
              ⟨some 66, .extract (.t 62) 1, none⟩,
              ⟨some 9, .move (.t 65), none⟩,
              ⟨some 10, .move (.t 66), none⟩])
          (.seq
            (.seq
              (.region [2, 4, 5, 6, 9, 68] [
                  ⟨some 67, .move (.t 10), none⟩,
                  ⟨some 68, .un .not (.t 67), none⟩])
              (.cond (.t 68)
                (.seq
                  (.region [2, 3] [
                      ⟨some 69, .build [.int .i64 0, .nils, .int .i64 0] [], none⟩,
                      ⟨none, .store 3 (.t 2) (.t 69), none⟩,
                      ⟨some 3, .move (.c (.p (.bool false))), none⟩])
                  .ret)
                .skip))
            (.seq
              (.seq
                (.region [2, 4, 5, 6, 9, 71] [
                    ⟨some 70, .move (.t 9), none⟩,
                    ⟨some 71, .bin .eql (.t 70) (.c (.p (.int .i64 0))), none⟩])
                (.cond (.t 71)
                  (.seq
                    (.draw [2, 3] [(0, 4), (4, 7)] [
                        ⟨some 72, .load (some 3) (.t 6), none⟩,
                        ⟨some 73, .move (.t 4), none⟩,
                        ⟨some 74, .nilCheck (.t 73), none⟩,
                        ⟨some 75, .faddr (.t 74) 0, none⟩,
                        ⟨some 76, .load none (.t 75), none⟩,
                        ⟨some 77, .len 1 (.t 76), none⟩,
                        ⟨some 78, .bin .eql (.t 77) (.c (.p (.int .i64 0))), none⟩,
                        ⟨none, .store 3 (.t 2) (.t 72), none⟩,
                        ⟨some 3, .move (.t 78), none⟩])
                    .ret)
                  .skip))
              (.region [2, 4, 5, 6] [
                  ⟨some 79, .faddr (.t 6) 1, none⟩,
                  ⟨some 80, .load none (.t 79), none⟩,
                  ⟨some 81, .move (.t 9), none⟩,
                  ⟨some 82, .bslice 3 1 1 (.int .i64 0) [(0, (.t 81))], none⟩,
                  ⟨some 83, .append 3 1 8 (.t 80) (.t 82), none⟩,
                  ⟨some 84, .faddr (.t 6) 1, none⟩,
                  ⟨none, .store 1 (.t 84) (.t 83), none⟩]))))))

def fc22 : FC where
  nt := 85
  np := 1
  res := [.cell 2 (some 3), .t 3]
  body :=
    (.seq
      (.region [0, 2] [
          ⟨some 2, .alloc [.int .i64 0, .nils, .int .i64 0], none⟩,
          ⟨some 3, .move (.c (.p (.bool false))), none⟩])
      (.seq
        (.region [2, 4] [
            ⟨some 11, .move (.t 0), none⟩,
            ⟨some 12, .call (.c (.fn 34 [] [])) [(.t 11), (.c (.p (.str [32])))], none⟩,
            ⟨some 13, .build [.nils] [(0, 1, (.t 12))], none⟩,
            ⟨some 14, .box (.t 13), none⟩,
            ⟨some 4, .move (.t 14), none⟩])
        (.seq
          (.region [2, 4, 5] [
              ⟨some 15, .move (.t 4), none⟩,
              ⟨some 16, .mkfn 35 [(.t 15)] [], none⟩,
              ⟨some 5, .move (.t 16), none⟩])
          (.seq
            (.region [2, 4, 5, 6] [
                ⟨some 17, .move (.t 4), none⟩,
                ⟨some 18, .nilCheck (.t 17), none⟩,
                ⟨some 19, .faddr (.t 18) 0, none⟩,
                ⟨some 20, .load none (.t 19), none⟩,
                ⟨some 21, .iaddr none 1 (.t 20) (.c (.p (.int .i64 0))), none⟩,
                ⟨some 22, .load none (.t 21), none⟩,
                ⟨some 23, .bin .add (.t 22) (.c (.p (.str [63]))), none⟩,
                ⟨some 24, .index none (.t 23) (.c (.p (.int .i64 0))), none⟩,
                ⟨some 25, .call (.c (.fn 36 [] [])) [(.c (.p (.str [63, 108, 100, 101, 115]))), (.t 24)], none⟩,
                ⟨some 26, .build [.int .i64 0, .nils, .int .i64 0] [(0, 1, (.t 25))], none⟩,
                ⟨some 6, .alloc [.int .i64 0, .nils, .int .i64 0], none⟩,
                ⟨none, .store 3 (.t 6) (.t 26), none⟩])
            (.seq
              (.tokb 6 1 3 1)
              (.seq
                (.seq
                  (.region [2, 4, 5, 6, 39] [
                      ⟨some 27, .move (.t 4), none⟩,
                      ⟨some 28, .nilCheck (.t 27), none⟩,
                      ⟨some 29, .faddr (.t 28) 0, none⟩,
                      ⟨some 30, .load none (.t 29), none⟩,
                      ⟨some 31, .iaddr none 1 (.t 30) (.c (.p (.int .i64 0))), none⟩,
                      ⟨some 32, .load none (.t 31), none⟩,
                      ⟨some 33, .len 0 (.t 32), none⟩,
                      ⟨some 34, .bin .neq (.t 33) (.c (.p (.int .i64 1))), none⟩,
                      ⟨some 35, .move (.t 34), none⟩,
                      ⟨some 36, .faddr (.t 6) 0, some (35, false)⟩,
                      ⟨some 37, .load none (.t 36), some (35, false)⟩,
                      ⟨some 38, .bin .lss (.t 37) (.c (.p (.int .i64 1))), some (35, false)⟩,
                      ⟨some 39, .pick (.t 35) (.c (.p (.bool true))) (.t 38), none⟩])
                  (.cond (.t 39)
                    (.seq
                      (.region [2, 3] [
                          ⟨some 40, .build [.int .i64 0, .nils, .int .i64 0] [], none⟩,
                          ⟨none, .store 3 (.t 2) (.t 40), none⟩,
                          ⟨some 3, .move (.c (.p (.bool false))), none⟩])
                      .ret)
                    .skip))
                (.seq
                  (.region [2, 4, 5, 6] [
                      ⟨some 41, .move (.t 4), none⟩,
                      ⟨some 42, .move (.t 4), none⟩,
                      ⟨some 43, .nilCheck (.t 42), none⟩,
                      ⟨some 44, .faddr (.t 43) 0, none⟩,
                      ⟨some 45, .load none (.t 44), none⟩,
                      ⟨some 46, .slice 1 (.t 45) (some (.c (.p (.int .i64 1)))) none, none⟩,
                      ⟨some 47, .nilCheck (.t 41), none⟩,
                      ⟨some 48, .faddr (.t 47) 0, none⟩,
                      ⟨none, .store 1 (.t 48) (.t 46), none⟩])
                  (.seq
                    (.seq
                      (.region [2, 4, 5, 6, 51] [
                          ⟨some 49, .faddr (.t 6) 0, none⟩,
                          ⟨some 50, .load none (.t 49), none⟩,
                          ⟨some 51, .bin .eql (.t 50) (.c (.p (.int .i64 4))), none⟩])
                      (.cond (.t 51)
                        (.seq
                          (.region [2, 4, 5, 6, 7, 8] [
                              ⟨some 53, .move (.t 5), none⟩,
                              ⟨some 54, .call (.t 53) [], none⟩,
                              ⟨some 52, .move (.t 54), none⟩,
                              ⟨some 55, .extract (.t 52) 0, none⟩,
                              ⟨some 56, .extract (.t 52) 1, none⟩,
                              ⟨some 7, .move (.t 55), none⟩,
                              ⟨some 8, .move (.t 56), none⟩])
                          (.seq
                            (.seq
                              (.region [2, 4, 5, 6, 7, 58] [
                                  ⟨some 57, .move (.t 8), none⟩,
                                  ⟨some 58, .un .not (.t 57), none⟩])
                              (.cond (.t 58)
                                (.seq
                                  (.region [2, 3] [
                                      ⟨some 59, .build [.int .i64 0, .nils, .int .i64 0] [], none⟩,
                                      ⟨none, .store 3 (.t 2) (.t 59), none⟩,
                                      ⟨some 3, .move (.c (.p (.bool false))), none⟩])
                                  .ret)
                                .skip))
                            (.region [2, 4, 5, 6] [
                                ⟨some 60, .move (.t 7), none⟩,
                                ⟨some 61, .faddr (.t 6) 2, none⟩,
                                ⟨none, .store 1 (.t 61) (.t 60), none⟩])))
                        .skip))
                    (.block 0
                      (.loop [2, 4, 5, 6]
                        fc22_b0))))))))))

theorem ok22 : FOk Tryd.prog 22 fc22 := FOk.of Tryd.func22 (by kernel_rfl)

/-- (*strings.Builder).WriteByte -/
def fc23 : FC where
  nt := 17
  np := 2
  res := [.t 4]
  body :=
    (.seq
      (.region [0, 1] [
          ⟨some 4, .move (.c (.p (.nili))), none⟩])
      (.seq
        (.region [0, 1] [
            ⟨some 5, .move (.t 0), none⟩,
            ⟨some 6, .call (.c (.fn 37 [] [])) [(.t 5)], none⟩])
        (.seq
          (.region [] [
              ⟨some 7, .move (.t 0), none⟩,
              ⟨some 8, .move (.t 0), none⟩,
              ⟨some 9, .nilCheck (.t 8), none⟩,
              ⟨some 10, .faddr (.t 9) 1, none⟩,
              ⟨some 11, .load none (.t 10), none⟩,
              ⟨some 12, .move (.t 1), none⟩,
              ⟨some 13, .bslice 5 1 1 (.int .u8 0) [(0, (.t 12))], none⟩,
              ⟨some 14, .append 5 1 1 (.t 11) (.t 13), none⟩,
              ⟨some 15, .nilCheck (.t 7), none⟩,
              ⟨some 16, .faddr (.t 15) 1, none⟩,
              ⟨none, .store 1 (.t 16) (.t 14), none⟩])
          (.seq
            (.region [4] [
                ⟨some 4, .move (.c (.p (.nili))), none⟩])
            .ret))))

theorem ok23 : FOk Tryd.prog 23 fc23 := FOk.of Tryd.func23 (by kernel_rfl)

/-- armature/proof.letter -/
def fc24 : FC where
  nt := 12
  np := 1
  res := [.t 2]
  body :=
    (.seq
      (.region [0] [
          ⟨some 2, .move (.c (.p (.int .u8 0))), none⟩])
      (.seq
        (.seq
          (.region [0, 8] [
              ⟨some 3, .move (.t 0), none⟩,
              ⟨some 4, .bin .lss (.t 3) (.c (.p (.int .i64 1))), none⟩,
              ⟨some 5, .move (.t 4), none⟩,
              ⟨some 6, .move (.t 0), some (5, false)⟩,
              ⟨some 7, .bin .geq (.t 6) (.c (.p (.int .i64 5))), some (5, false)⟩,
              ⟨some 8, .pick (.t 5) (.c (.p (.bool true))) (.t 7), none⟩])
          (.cond (.t 8)
            (.seq
              (.region [2] [
                  ⟨some 9, .index none (.c (.p (.str [63, 108, 100, 101, 115]))) (.c (.p (.int .i64 0))), none⟩,
                  ⟨some 2, .move (.t 9), none⟩])
              .ret)
            .skip))
        (.seq
          (.region [2] [
              ⟨some 10, .move (.t 0), none⟩,
              ⟨some 11, .index none (.c (.p (.str [63, 108, 100, 101, 115]))) (.t 10), none⟩,
              ⟨some 2, .move (.t 11), none⟩])
          .ret)))

theorem ok24 : FOk Tryd.prog 24 fc24 := FOk.of Tryd.func24 (by kernel_rfl)

/-- (*strings.Builder).WriteString -/
def fc25 : FC where
  nt := 19
  np := 2
  res := [.t 4, .t 5]
  body :=
    (.seq
      (.region [0, 1] [
          ⟨some 4, .move (.c (.p (.int .i64 0))), none⟩,
          ⟨some 5, .move (.c (.p (.nili))), none⟩])
      (.seq
        (.region [0, 1] [
            ⟨some 6, .move (.t 0), none⟩,
            ⟨some 7, .call (.c (.fn 37 [] [])) [(.t 6)], none⟩])
        (.seq
          (.region [1] [
              ⟨some 8, .move (.t 0), none⟩,
              ⟨some 9, .move (.t 0), none⟩,
              ⟨some 10, .nilCheck (.t 9), none⟩,
              ⟨some 11, .faddr (.t 10) 1, none⟩,
              ⟨some 12, .load none (.t 11), none⟩,
              ⟨some 13, .move (.t 1), none⟩,
              ⟨some 14, .append 5 1 1 (.t 12) (.t 13), none⟩,
              ⟨some 15, .nilCheck (.t 8), none⟩,
              ⟨some 16, .faddr (.t 15) 1, none⟩,
              ⟨none, .store 1 (.t 16) (.t 14), none⟩])
          (.seq
            (.region [4, 5] [
                ⟨some 17, .move (.t 1), none⟩,
                ⟨some 18, .len 0 (.t 17), none⟩,
                ⟨some 4, .move (.t 18), none⟩,
                ⟨some 5, .move (.c (.p (.nili))), none⟩])
            .ret))))

theorem ok25 : FOk Tryd.prog 25 fc25 := FOk.of Tryd.func25 (by kernel_rfl)

/-- (*strings.Builder).String -/
def fc27 : FC where
  nt := 14
  np := 1
  res := [.t 2]
  body :=
    (.seq
      (.region [0] [
          ⟨some 2, .move (.c (.p (.str []))), none⟩])
      (.seq
        (.draw [2] [(3, 8), (4, 8)] [
            ⟨some 3, .move (.t 0), none⟩,
            ⟨some 4, .nilCheck (.t 3), none⟩,
            ⟨some 5, .faddr (.t 4) 1, none⟩,
            ⟨some 6, .load none (.t 5), none⟩,
            ⟨some 7, .sdata (.t 6), none⟩,
            ⟨some 8, .move (.t 0), none⟩,
            ⟨some 9, .nilCheck (.t 8), none⟩,
            ⟨some 10, .faddr (.t 9) 1, none⟩,
            ⟨some 11, .load none (.t 10), none⟩,
            ⟨some 12, .len 1 (.t 11), none⟩,
            ⟨some 13, .ustr 5 (.t 7) (.t 12), none⟩,
            ⟨some 2, .move (.t 13), none⟩])
        .ret))

theorem ok27 : FOk Tryd.prog 27 fc27 := FOk.of Tryd.func27 (by kernel_rfl)

/-- slices.EqualFunc[[]armature/api.Step,[]armature/api.Step,armature/api.Step,armature/api.Step] -/
def fc28_b0 : SC :=
    (.loc
      (.seq
        (.region [1, 2, 15, 16, 17, 18] [
            ⟨some 18, .bin .lss (.t 17) (.t 16), none⟩])
        (.seq
          (.cond (.t 18)
            .skip
            (.exit 0))
          (.seq
            (.block 1
              (.seq
                (.region [1, 2, 7, 8, 15, 16, 17] [
                    ⟨some 19, .move (.t 17), none⟩,
                    ⟨some 20, .iaddr none 3 (.t 15) (.t 17), none⟩,
                    ⟨some 21, .load (some 3) (.t 20), none⟩,
                    ⟨some 8, .alloc [.int .i64 0, .nils, .int .i64 0], none⟩,
                    ⟨some 7, .move (.t 19), none⟩,
                    ⟨none, .store 3 (.t 8) (.t 21), none⟩])
                (.seq
                  (.region [1, 2, 8, 9, 15, 16, 17] [
                      ⟨some 22, .move (.t 1), none⟩,
                      ⟨some 23, .move (.t 7), none⟩,
                      ⟨some 24, .iaddr none 3 (.t 22) (.t 23), none⟩,
                      ⟨some 25, .load (some 3) (.t 24), none⟩,
                      ⟨some 9, .alloc [.int .i64 0, .nils, .int .i64 0], none⟩,
                      ⟨none, .store 3 (.t 9) (.t 25), none⟩])
                  (.seq
                    (.region [1, 2, 15, 16, 17, 30] [
                        ⟨some 26, .move (.t 2), none⟩,
                        ⟨some 27, .load (some 3) (.t 8), none⟩,
                        ⟨some 28, .load (some 3) (.t 9), none⟩,
                        ⟨some 29, .call (.t 26) [(.t 27), (.t 28)], none⟩,
                        ⟨some 30, .un .not (.t 29), none⟩])
                    (.cond (.t 30)
                      (.seq
                        (.region [6] [
                            ⟨some 6, .move (.c (.p (.bool false))), none⟩])
                        .ret)
                      .skip)))))
            (.region [1, 2, 15, 16, 17] [
                ⟨some 31, .bin .add (.t 17) (.c (.p (.int .i64 1))), none⟩,
                ⟨some 17, .move (.t 31), none⟩])))))

def fc28 : FC where
  nt := 32
  np := 3
  res := [.t 6]
  body :=
    (.seq
      (.region [0, 1, 2] [
          ⟨some 6, .move (.c (.p (.bool false))), none⟩])
      (.seq
        (.seq
          (.region [0, 1, 2, 14] [
              ⟨some 10, .move (.t 0), none⟩,
              ⟨some 11, .len 1 (.t 10), none⟩,
              ⟨some 12, .move (.t 1), none⟩,
              ⟨some 13, .len 1 (.t 12), none⟩,
              ⟨some 14, .bin .neq (.t 11) (.t 13), none⟩])
          (.cond (.t 14)
            (.seq
              (.region [6] [
                  ⟨some 6, .move (.c (.p (.bool false))), none⟩])
              .ret)
            .skip))
        (.seq
          (.seq
            (.region [1, 2, 15, 16, 17] [
                ⟨some 15, .move (.t 0), none⟩,
                ⟨some 16, .len 1 (.t 15), none⟩,
                ⟨some 17, .move (.c (.p (.int .i64 0))), none⟩])
            (.block 0
              (.loop [1, 2, 15, 16, 17]
                fc28_b0)))
          (.seq
            (.region [6] [
                ⟨some 6, .move (.c (.p (.bool true))), none⟩])
            .ret))))

theorem ok28 : FOk Tryd.prog 28 fc28 := FOk.of Tryd.func28 (by kernel_rfl)

/-- armature/proof.Equal$1 -/
def fc29 : FC where
  nt := 24
  np := 2
  res := [.t 4]
  body :=
    (.seq
      (.region [2, 3] [
          ⟨some 2, .box (.t 0), none⟩,
          ⟨some 3, .box (.t 1), none⟩,
          ⟨some 4, .move (.c (.p (.bool false))), none⟩])
      (.seq
        (.region [4] [
            ⟨some 5, .faddr (.t 2) 0, none⟩,
            ⟨some 6, .load none (.t 5), none⟩,
            ⟨some 7, .faddr (.t 3) 0, none⟩,
            ⟨some 8, .load none (.t 7), none⟩,
            ⟨some 9, .bin .eql (.t 6) (.t 8), none⟩,
            ⟨some 10, .move (.t 9), none⟩,
            ⟨some 11, .faddr (.t 2) 2, some (10, true)⟩,
            ⟨some 12, .load none (.t 11), some (10, true)⟩,
            ⟨some 13, .faddr (.t 3) 2, some (10, true)⟩,
            ⟨some 14, .load none (.t 13), some (10, true)⟩,
            ⟨some 15, .bin .eql (.t 12) (.t 14), some (10, true)⟩,
            ⟨some 16, .pick (.t 10) (.t 15) (.c (.p (.bool false))), none⟩,
            ⟨some 17, .move (.t 16), none⟩,
            ⟨some 18, .faddr (.t 2) 1, some (17, true)⟩,
            ⟨some 19, .load none (.t 18), some (17, true)⟩,
            ⟨some 20, .faddr (.t 3) 1, some (17, true)⟩,
            ⟨some 21, .load none (.t 20), some (17, true)⟩,
            ⟨some 22, .call (.c (.fn 30 [] [])) [(.t 19), (.t 21)], some (17, true)⟩,
            ⟨some 23, .pick (.t 17) (.t 22) (.c (.p (.bool false))), none⟩,
            ⟨some 4, .move (.t 23), none⟩])
        .ret))

theorem ok29 : FOk Tryd.prog 29 fc29 := FOk.of Tryd.func29 (by kernel_rfl)

/-- slices.Equal[[]int,int] -/
def fc30_b0 : SC :=
    (.seq
      (.region [0, 1, 12, 13, 14] [
          ⟨some 14, .bin .lss (.t 13) (.t 12), none⟩])
      (.seq
        (.cond (.t 14)
          .skip
          (.exit 0))
        (.seq
          (.block 1
            (.seq
              (.region [0, 1, 5, 12, 13] [
                  ⟨some 15, .move (.t 13), none⟩,
                  ⟨some 5, .move (.t 15), none⟩])
              (.seq
                (.draw [0, 1, 12, 13, 24] [(3, 7)] [
                    ⟨some 16, .move (.t 0), none⟩,
                    ⟨some 17, .move (.t 5), none⟩,
                    ⟨some 18, .iaddr none 1 (.t 16) (.t 17), none⟩,
                    ⟨some 19, .load none (.t 18), none⟩,
                    ⟨some 20, .move (.t 1), none⟩,
                    ⟨some 21, .move (.t 5), none⟩,
                    ⟨some 22, .iaddr none 1 (.t 20) (.t 21), none⟩,
                    ⟨some 23, .load none (.t 22), none⟩,
                    ⟨some 24, .bin .neq (.t 19) (.t 23), none⟩])
                (.cond (.t 24)
                  (.seq
                    (.region [4] [
                        ⟨some 4, .move (.c (.p (.bool false))), none⟩])
                    .ret)
                  .skip))))
          (.region [0, 1, 12, 13] [
              ⟨some 25, .bin .add (.t 13) (.c (.p (.int .i64 1))), none⟩,
              ⟨some 13, .move (.t 25), none⟩]))))

def fc30 : FC where
  nt := 26
  np := 2
  res := [.t 4]
  body :=
    (.seq
      (.region [0, 1] [
          ⟨some 4, .move (.c (.p (.bool false))), none⟩])
      (.seq
        (.seq
          (.region [0, 1, 10] [
              ⟨some 6, .move (.t 0), none⟩,
              ⟨some 7, .len 1 (.t 6), none⟩,
              ⟨some 8, .move (.t 1), none⟩,
              ⟨some 9, .len 1 (.t 8), none⟩,
              ⟨some 10, .bin .neq (.t 7) (.t 9), none⟩])
          (.cond (.t 10)
            (.seq
              (.region [4] [
                  ⟨some 4, .move (.c (.p (.bool false))), none⟩])
              .ret)
            .skip))
        (.seq
          (.seq
            (.region [0, 1, 12, 13] [
                ⟨some 11, .move (.t 0), none⟩,
                ⟨some 12, .len 1 (.t 11), none⟩,
                ⟨some 13, .move (.c (.p (.int .i64 0))), none⟩])
            (.block 0
              (.loop [0, 1, 12, 13]
                fc30_b0)))
          (.seq
            (.region [4] [
                ⟨some 4, .move (.c (.p (.bool true))), none⟩])
            .ret))))

theorem ok30 : FOk Tryd.prog 30 fc30 := FOk.of Tryd.func30 (by kernel_rfl)

/-- slices.Clone[[]armature/api.Step,armature/api.Step] -/
def fc31 : FC where
  nt := 8
  np := 1
  res := [.t 2]
  body :=
    (.seq
      (.region [0] [
          ⟨some 2, .move (.c (.p (.nils))), none⟩])
      (.seq
        (.seq
          (.region [0, 4] [
              ⟨some 3, .move (.t 0), none⟩,
              ⟨some 4, .eqk 2 false (.t 3) (.c (.p (.nils))), none⟩])
          (.cond (.t 4)
            (.seq
              (.region [2] [
                  ⟨some 2, .move (.c (.p (.nils))), none⟩])
              .ret)
            .skip))
        (.seq
          (.region [2] [
              ⟨some 5, .bslice 43 3 0 (.agg [.int .i64 0, .nils, .int .i64 0]) [], none⟩,
              ⟨some 6, .move (.t 0), none⟩,
              ⟨some 7, .appendm 43 3 40 (.t 5) (.t 6), none⟩,
              ⟨some 2, .move (.t 7), none⟩])
          .ret)))

theorem ok31 : FOk Tryd.prog 31 fc31 := FOk.of Tryd.func31 (by kernel_rfl)

/-- slices.Clone[[]int,int] -/
def fc32 : FC where
  nt := 8
  np := 1
  res := [.t 2]
  body :=
    (.seq
      (.region [0] [
          ⟨some 2, .move (.c (.p (.nils))), none⟩])
      (.seq
        (.seq
          (.region [0, 4] [
              ⟨some 3, .move (.t 0), none⟩,
              ⟨some 4, .eqk 2 false (.t 3) (.c (.p (.nils))), none⟩])
          (.cond (.t 4)
            (.seq
              (.region [2] [
                  ⟨some 2, .move (.c (.p (.nils))), none⟩])
              .ret)
            .skip))
        (.seq
          (.region [2] [
              ⟨some 5, .bslice 3 1 0 (.int .i64 0) [], none⟩,
              ⟨some 6, .move (.t 0), none⟩,
              ⟨some 7, .appendm 3 1 8 (.t 5) (.t 6), none⟩,
              ⟨some 2, .move (.t 7), none⟩])
          .ret)))

theorem ok32 : FOk Tryd.prog 32 fc32 := FOk.of Tryd.func32 (by kernel_rfl)

/-- (*armature/proof.scanner).number -/
def fc35 : FC where
  nt := 45
  np := 1
  res := [.t 2, .t 3]
  body :=
    (.seq
      (.region [0] [
          ⟨some 2, .move (.c (.p (.int .i64 0))), none⟩,
          ⟨some 3, .move (.c (.p (.bool false))), none⟩])
      (.seq
        (.seq
          (.region [0, 12] [
              ⟨some 7, .move (.t 0), none⟩,
              ⟨some 8, .nilCheck (.t 7), none⟩,
              ⟨some 9, .faddr (.t 8) 0, none⟩,
              ⟨some 10, .load none (.t 9), none⟩,
              ⟨some 11, .len 1 (.t 10), none⟩,
              ⟨some 12, .bin .eql (.t 11) (.c (.p (.int .i64 0))), none⟩])
          (.cond (.t 12)
            (.seq
              (.region [2, 3] [
                  ⟨some 2, .move (.c (.p (.int .i64 0))), none⟩,
                  ⟨some 3, .move (.c (.p (.bool false))), none⟩])
              .ret)
            .skip))
        (.seq
          (.region [0, 4] [
              ⟨some 13, .move (.t 0), none⟩,
              ⟨some 14, .nilCheck (.t 13), none⟩,
              ⟨some 15, .faddr (.t 14) 0, none⟩,
              ⟨some 16, .load none (.t 15), none⟩,
              ⟨some 17, .iaddr none 1 (.t 16) (.c (.p (.int .i64 0))), none⟩,
              ⟨some 18, .load none (.t 17), none⟩,
              ⟨some 4, .move (.t 18), none⟩])
          (.seq
            (.region [4] [
                ⟨some 19, .move (.t 0), none⟩,
                ⟨some 20, .move (.t 0), none⟩,
                ⟨some 21, .nilCheck (.t 20), none⟩,
                ⟨some 22, .faddr (.t 21) 0, none⟩,
                ⟨some 23, .load none (.t 22), none⟩,
                ⟨some 24, .slice 1 (.t 23) (some (.c (.p (.int .i64 1)))) none, none⟩,
                ⟨some 25, .nilCheck (.t 19), none⟩,
                ⟨some 26, .faddr (.t 25) 0, none⟩,
                ⟨none, .store 1 (.t 26) (.t 24), none⟩])
            (.seq
              (.seq
                (.region [4, 30] [
                    ⟨some 27, .move (.t 4), none⟩,
                    ⟨some 28, .call (.c (.fn 41 [] [])) [(.t 27), (.c (.p (.str [45])))], none⟩,
                    ⟨some 29, .len 0 (.t 28), none⟩,
                    ⟨some 30, .bin .gtr (.t 29) (.c (.p (.int .i64 9))), none⟩])
                (.cond (.t 30)
                  (.seq
                    (.region [2, 3] [
                        ⟨some 2, .move (.c (.p (.int .i64 0))), none⟩,
                        ⟨some 3, .move (.c (.p (.bool false))), none⟩])
                    .ret)
                  .skip))
              (.seq
                (.region [4, 5, 6] [
                    ⟨some 32, .move (.t 4), none⟩,
                    ⟨some 33, .call (.c (.fn 42 [] [])) [(.t 32)], none⟩,
                    ⟨some 31, .move (.t 33), none⟩,
                    ⟨some 34, .extract (.t 31) 0, none⟩,
                    ⟨some 35, .extract (.t 31) 1, none⟩,
                    ⟨some 5, .move (.t 34), none⟩,
                    ⟨some 6, .move (.t 35), none⟩])
                (.seq
                  (.region [2, 3] [
                      ⟨some 36, .move (.t 5), none⟩,
                      ⟨some 37, .move (.t 6), none⟩,
                      ⟨some 38, .eqk 4 false (.t 37) (.c (.p (.nili))), none⟩,
                      ⟨some 39, .move (.t 38), none⟩,
                      ⟨some 40, .move (.t 5), some (39, true)⟩,
                      ⟨some 41, .call (.c (.fn 26 [] [])) [(.t 40)], some (39, true)⟩,
                      ⟨some 42, .move (.t 4), some (39, true)⟩,
                      ⟨some 43, .bin .eql (.t 41) (.t 42), some (39, true)⟩,
                      ⟨some 44, .pick (.t 39) (.t 43) (.c (.p (.bool false))), none⟩,
                      ⟨some 2, .move (.t 36), none⟩,
                      ⟨some 3, .move (.t 44), none⟩])
                  .ret)))))))

theorem ok35 : FOk Tryd.prog 35 fc35 := FOk.of Tryd.func35 (by kernel_rfl)

/-- strings.IndexByte -/
def fc36 : FC where
  nt := 8
  np := 2
  res := [.t 4]
  body :=
    (.seq
      (.region [0, 1] [
          ⟨some 4, .move (.c (.p (.int .i64 0))), none⟩])
      (.seq
        (.region [4] [
            ⟨some 5, .move (.t 0), none⟩,
            ⟨some 6, .move (.t 1), none⟩,
            ⟨some 7, .call (.c (.fn 43 [] [])) [(.t 5), (.t 6)], none⟩,
            ⟨some 4, .move (.t 7), none⟩])
        .ret))

theorem ok36 : FOk Tryd.prog 36 fc36 := FOk.of Tryd.func36 (by kernel_rfl)

end Go.Proofs.YtneleliomipddaaDoor

/-! The evaluator's program of this cut. -/
namespace Go.Proofs.YtneleliomipddaaDoor
open Go.Vs

/-- The place of a byte. -/
def idxOf (c : UInt8) : List UInt8 → Option Nat
  | [] => none
  | b :: r => if b = c then some 0 else (idxOf c r).map (· + 1)

def idxI (s : List UInt8) (c : UInt8) : Int := match idxOf c s with | some i => i | none => -1

def atoiV (s : List UInt8) : D :=
  match Lib.atoi s with
  | some n => .tup [.p (.int .i64 n), .p .nili]
  | none => .tup [.p (.int .i64 0), .ifc 101 .dead]

def splitV (s sep : List UInt8) : List PD :=
  (Lib.splitB ⟨sep.toArray⟩ 0 (Lib.countB ⟨s.toArray⟩ ⟨sep.toArray⟩) ⟨s.toArray⟩).map fun b => .str b.data.toList

def cutV (s sep : List UInt8) : D := .tup [.p (.str (Lib.cut s sep).1), .p (.str (Lib.cut s sep).2.1), .p (.bool (Lib.cut s sep).2.2)]

/-- The library's functions. -/
def pgL : CallR := fun f args H =>
  match f, args with
  | 43, [.p (.str s), .p (.int .u8 c)] => some (.val (.p (.int .i64 (idxI s (UInt8.ofNat c.toNat)))), H)
  | 26, [.p (.int .i64 n)] => if -9223372036854775808 ≤ n ∧ n ≤ 9223372036854775807 then some (.val (.p (.str (Lib.itoa n))), H) else none
  | 41, [.p (.str s), .p (.str p)] => some (.val (.p (.str (Lib.trimPrefix s p))), H)
  | 42, [.p (.str s)] => if s.length ≤ 18 then some (.val (atoiV s), H) else none
  | 34, [.p (.str s), .p (.str sep)] => if s.length < 4294967281 ∧ 1 ≤ sep.length then some (.val (.p (.slice 1 (splitV s sep))), H) else none
  | 21, [.p (.str s), .p (.str sep)] => if s.length < 4294967281 then some (.val (cutV s sep), H) else none
  | 37, [.box 0 0] => match H.bx with
    | [.fresh 52 2 0 :: r] => some (.val .undef, { H with bx := [.box 0 0 :: r] })
    | [.box 0 0 :: _] => some (.val .undef, H)
    | _ => none
  | _, _ => none

def pgF : Nat → Option FC
  | 3 => some fc3 | 4 => some fc4 | 5 => some fc5 | 6 => some fc6 | 7 => some fc7 | 8 => some fc8 | 9 => some fc9 | 10 => some fc10
  | 11 => some fc11 | 12 => some fc12 | 13 => some fc13 | 14 => some fc14 | 15 => some fc15 | 16 => some fc16 | 17 => some fc17 | 18 => some fc18 | 19 => some fc19 | 20 => some fc20
  | 22 => some fc22 | 23 => some fc23 | 24 => some fc24 | 25 => some fc25 | 27 => some fc27 | 28 => some fc28 | 29 => some fc29 | 30 => some fc30 | 31 => some fc31 | 32 => some fc32
  | 35 => some fc35 | 36 => some fc36
  | _ => none

def pgG : Nat → Option (List PD) := fun _ => none

def pg : Pg := ⟨pgF, pgG, pgL⟩

end Go.Proofs.YtneleliomipddaaDoor

/-! From a row's condition to the evaluator, and from the evaluator's outcome to the row's promise. -/
namespace Go.Vs
open Go.RowKit Go.ChangeShapes Go.WideShapes

variable {P : Program}

/-- All that stands in memory is known for good. -/
def gh0 (W : World) : Gh := ⟨W.heap.size, fun _ => none, fun b o => W.cell? ⟨b, o, none⟩, [], []⟩

structure GlobOk (G : Nat → Option (List PD)) (W : World) : Prop where
  ok : ∀ g cs, G g = some cs → ∀ j c, cs[j]? = some c → c.one = true ∧ ∃ v, W.cell? ⟨g, j, none⟩ = some v ∧ RepP (gh0 W).mem v c

theorem inv0 {G : Nat → Option (List PD)} {W : World} (h : GlobOk G W) : Inv G (gh0 W) ⟨[], []⟩ W := by
  refine ⟨Nat.le_refl _, fun _ _ _ h => by simp [gh0] at h, fun t row n b cap h _ => by simp [gh0] at h, fun _ _ _ h => h, h.ok, rfl, List.nodup_nil, fun i b cs hb _ => ?_, fun b o hb => ?_, rfl, fun t row f hr _ => ?_, fun t row f hr _ => ?_, fun t t' b hf _ => ?_⟩
  · simp [gh0] at hb
  · simp [gh0] at hb
  · simp [gh0] at hr
  · simp [gh0] at hr
  · obtain ⟨row, f, cap, hr, _⟩ := hf
    simp [gh0] at hr

theorem owned0 {W : World} {b : Nat} (h : Owned (gh0 W) ⟨[], []⟩ b) : False := by
  rcases h with h | ⟨t, row, f, cap, hr, _⟩
  · simp [gh0] at h
  · simp [gh0] at hr

theorem invS0 {G : Nat → Option (List PD)} {W : World} (h : GlobOk G W) : InvS W G (gh0 W) ⟨[], []⟩ W :=
  ⟨inv0 h, rfl, Below.refl _ W, fun b h => (owned0 h).elim⟩

theorem below_frame {W W' : World} {γ' : Gh} {H' : Hp} (F : Frame (gh0 W) ⟨[], []⟩ W γ' H' W') : Below W.heap.size W W' :=
  ⟨F.os, F.tape, F.output, F.size, fun k hk => (F.blk k hk owned0).1 hk⟩

/-- A law that the evaluator finds true. -/
theorem law_calls {p : Pg} {W : World} (h : PgOk P W p) {f : Nat} {ds : List D} {H' : Hp} (hc : call p f ds ⟨[], []⟩ = some (.val (.p (.bool true)), H')) {args : Array Value} (hg : GlobOk p.G W) (hr : RepL (gh0 W) args ds) :
    Calls P f args W fun e W' => e = .returned (.bool true) ∧ Below W.heap.size W W' := by
  obtain ⟨_, m⟩ := call_sound h f ds ⟨[], []⟩ _ _ hc
  refine (m (gh0 W) W args (invS0 hg) hr).mono ?_
  rintro e W' ⟨γ', L, F, J, v, rfl, hv⟩
  rw [hv.p_inv.bool_inv]
  exact ⟨rfl, below_frame F⟩

section
variable {H : Type} {enc : TypeId × Value → H}

theorem trodAll_below (hl : laidOutB P = true) {W W' : World} (B : Below W.heap.size W W') : ∀ {ts : List TypeId} {vs : List Value} {ds : List (DataW H)} {ps : List MemPlace}, (∀ t ∈ ts, P.readableRec t = true ∧ t < P.types.size) →
    DataW.TrodAll enc P W 0 (fun _ => true) true ts vs ds ps → (∀ x ∈ ps, x.block < W.heap.size) → DataW.TrodAll enc P W' 0 (fun b => decide (b < W.heap.size)) true ts vs ds ps
  | [], [], [], _, _, h, _ => h
  | t :: ts, v :: vs, d :: ds, ps, ht, ⟨p, q, h1, h2, e⟩, hlt => by
    subst e
    exact ⟨p, q, Below.trod hl (ht t (by simp)).1 (ht t (by simp)).2 h1 B fun x hx => hlt x (by simp [hx]), trodAll_below hl B (fun u hu => ht u (by simp [hu])) h2 fun x hx => hlt x (by simp [hx]), rfl⟩
  | [], [], _ :: _, _, _, h, _ => h.elim
  | [], _ :: _, _, _, _, h, _ => by cases h
  | _ :: _, [], _, _, _, h, _ => by cases h
  | _ :: _, _ :: _, [], _, _, h, _ => by cases h

/-- The promise of a law's row: it returns true, and each argument reads as it did. -/
theorem post_law {fn : Func} {s : ChangeSpec} {apart fresh handsOn : Bool} {W W' : World} {args : Array Value} {ds : List (DataW H)} {before : List MemPlace} {tb : TypeId} (hl : laidOutB P = true)
    (hts : ∀ t ∈ fn.params.toList, P.readableRec t = true ∧ t < P.types.size) (hv : s.vars = []) (hW : DataW.Whole enc P fn.params.toList s.vars apart W args.toList ds [] before) (hr : fn.resultTypes = #[tb]) (hb : P.underlying tb = some .bool)
    (hs : s.fn H (ds ++ []) = { results := [.lit (.bool true)], args := ds }) (B : Below W.heap.size W W') : s.post enc P fn apart fresh handsOn false W args (.bool true) W' := by
  have hlt := hW.lt
  obtain ⟨p, q, hA, hV, he, hz, hn⟩ := hW
  have hq : q = [] := by rw [hv] at hV; exact hV
  refine ⟨ds, [], before, [], p, [], ⟨p, q, hA, hV, he, hz, hn⟩, ?_, ?_, ?_, ?_, fun h => by cases h⟩
  · rw [hs, hr]
    exact trodAll_mk1 (shut_bool hb true)
  · rw [hs]
    refine trodAll_below hl B hts hA fun x hx => by simpa using hlt x (by rw [he]; simp [hx])
  · rw [hs, hv]; rfl
  · refine World.keptBut_mono (fun x hx => ?_) (B.frame (fun _ => False))
    cases hx

end

/-! The arguments. -/
theorem rep_string (W : World) (s : ByteArray) : RepD (gh0 W) (.string s) (.p (.str s.data.toList)) := by
  refine .p _ _ ?_
  have : s = ⟨s.data.toList.toArray⟩ := by simp
  rw [this]
  exact .str _

theorem repL1 {γ : Gh} {v : Value} {d : D} (h : RepD γ v d) : RepL γ #[v] [d] := ⟨rfl, fun i x hx => by
  match i with
  | 0 => simp only [List.getElem?_cons_zero, Option.some.injEq] at hx; subst hx; exact h
  | i + 1 => simp at hx⟩

theorem repL2 {γ : Gh} {v u : Value} {d e : D} (h : RepD γ v d) (k : RepD γ u e) : RepL γ #[v, u] [d, e] := ⟨rfl, fun i x hx => by
  match i with
  | 0 => simp only [List.getElem?_cons_zero, Option.some.injEq] at hx; subst hx; exact h
  | 1 => simp only [List.getElem?_cons_succ, List.getElem?_cons_zero, Option.some.injEq] at hx; subst hx; exact k
  | i + 2 => simp at hx⟩

/-- A slice of integers, as the evaluator's datum. -/
theorem rep_ints {H : Type} {enc : TypeId × Value → H} {t e : TypeId} {k : IntKind} (ht : P.underlying t = some (.slice e)) (he : P.underlying e = some (.int k)) (hc : P.cellsOf e = 1) {W : World} {r : Reach} {b0 : Nat} {v : Value} {d : DataW H} {ps : List MemPlace}
    (hval : Value.okWide P W r b0 t v) (hd : DataW.Trod enc P W 0 (fun _ => true) true t v d ps) :
    ∃ x : PD, RepD (gh0 W) v (.p x) ∧ (x = .nils ∨ ∃ zs : List Int, x = .slice 1 (zs.map (PD.int k)) ∧ ∀ n ∈ zs, (Lit.int k n).wf = true) := by
  obtain ⟨a0, n0, c0, rfl⟩ := okWide_slice ht hval
  obtain ⟨fuel, hf⟩ := hd
  rcases open_ints ht he hc hf with ⟨h1, _⟩ | ⟨a, len, cap, zs, h1, _, hlc, _, hlen, _, hcell, hwf⟩
  · simp [Value.cells] at h1
    obtain ⟨rfl, rfl, rfl⟩ := h1
    exact ⟨.nils, .p _ _ .nils, .inl rfl⟩
  · simp [Value.cells] at h1
    obtain ⟨rfl, rfl, rfl⟩ := h1
    simp only [if_true] at hlen
    refine ⟨.slice 1 ((zs.take n0).map (PD.int k)), .p _ _ ?_, .inr ⟨zs.take n0, rfl, fun n hn => hwf n (List.mem_of_mem_take hn)⟩⟩
    by_cases hn : n0 = 0
    · subst hn
      simpa using RepP.sl0 (m := (gh0 W).mem) (some a) c0 1
    · have hl : ((zs.take n0).map (PD.int k)).length = n0 := by simp; omega
      have h0 := hcell 0 (by omega)
      obtain ⟨b, o, sp⟩ := a
      have hsp : sp = none := by
        cases sp with
        | none => rfl
        | some q =>
          exfalso
          unfold World.cell? Addr.add at h0
          split at h0
          · simp at h0
          · cases h0
      subst hsp
      have := RepP.sl (m := (gh0 W).mem) b o c0 1 ((zs.take n0).map (PD.int k)) (fun i _ => .int k (zs.getD i 0)) (by omega) (fun e he => by
        obtain ⟨n, _, rfl⟩ := List.mem_map.1 he; rfl) (fun e he c hc => by
        obtain ⟨n, _, rfl⟩ := List.mem_map.1 he
        simp only [PD.cells, List.mem_singleton] at hc; subst hc; rfl) (fun i j hi hj => by
        have hj0 : j = 0 := by omega
        subst hj0
        have := hcell i (by simp at hi; omega)
        simp only [Addr.add_lit] at this
        simpa [gh0] using this) (fun i e j c hi hj => by
        simp only [List.getElem?_map, Option.map_eq_some_iff] at hi
        obtain ⟨n, hn, rfl⟩ := hi
        obtain ⟨h1, h2⟩ := take_get hn
        match j with
        | 0 =>
          simp only [PD.cells, List.getElem?_cons_zero, Option.some.injEq] at hj
          subst hj
          have : zs.getD i 0 = n := by simp [List.getD_eq_getElem?_getD, h2]
          rw [this]; exact .int k n
        | j + 1 => simp [PD.cells] at hj)
      rw [hl] at this
      exact this

end Go.Vs

/-! The evaluator, step by step: lengths and elements of known data. -/
namespace Go.Vs

theorem lenD_str (s : List UInt8) : lenD 0 (.p (.str s)) = some s.length := rfl
theorem lenD_nils : lenD 1 (.p .nils) = some 0 := rfl
theorem lenD_sl (sz : Nat) (es : List PD) : lenD 1 (.p (.slice sz es)) = some es.length := rfl
theorem lenD_fsl (e0 sz : Nat) (es : List PD) : lenD 1 (.fsl e0 sz es) = some es.length := rfl
theorem lenD_tsl (t e sz : Nat) (es : List PD) : lenD 1 (.tsl t e sz es) = some es.length := rfl

theorem iaddr_sl {e0 sz : Nat} {es : List PD} {k : Nat} (h : k < es.length) : iaddrD none sz (.p (.slice sz es)) (k : Int) = some (.ro (es[k]).cells 0) := by
  simp [iaddrD, D.elems?, h]
theorem iaddr_fsl {e0 sz : Nat} {es : List PD} {k : Nat} (h : k < es.length) : iaddrD none sz (.fsl e0 sz es) (k : Int) = some (.ro (es[k]).cells 0) := by
  simp [iaddrD, D.elems?, h]
theorem iaddr_tsl {t e sz : Nat} {es : List PD} {k : Nat} (h : k < es.length) : iaddrD none sz (.tsl t e sz es) (k : Int) = some (.ro (es[k]).cells 0) := by
  simp [iaddrD, D.elems?, h]

theorem u8_range {n : Int} (h : (Lit.int .u8 n).wf = true) : 0 ≤ n ∧ n < 256 := by
  simp [Lit.wf, IntKind.min, IntKind.max, IntKind.bits, IntKind.signed] at h
  omega

theorem repL_nil {γ : Gh} : RepL γ #[] [] := ⟨rfl, fun i x hx => by simp at hx⟩
theorem repL_cons {γ : Gh} {v : Value} {d : D} {vs : List Value} {ds : List D} (h : RepD γ v d) (k : RepL γ ⟨vs⟩ ds) : RepL γ ⟨v :: vs⟩ (d :: ds) := by
  refine ⟨by have := k.1; simpa using this, fun i x hx => ?_⟩
  match i with
  | 0 => simp only [List.getElem?_cons_zero, Option.some.injEq] at hx; subst hx; exact h
  | i + 1 => simpa using k.2 i x (by simpa using hx)

end Go.Vs

/-! What the functions of proofs give: data; letters; literals; equality of lists of numbers and of steps. -/
namespace Go.Proofs.YtneleliomipddaaDoor
open Go.Vs

/-- A slice: nil, empty (which of the two isn't known), or of these elements. -/
inductive Sl (α : Type) where
  | nil
  | amb
  | of (l : List α)

def Sl.map {α β : Type} (f : α → β) : Sl α → Sl β
  | .nil => .nil
  | .amb => .amb
  | .of l => .of (l.map f)

def slP (sz : Nat) : Sl PD → PD
  | .nil => .nils
  | .amb => .slice sz []
  | .of [] => .emp sz
  | .of (e :: es) => .slice sz (e :: es)

def els {α : Type} : Sl α → List α
  | .of l => l
  | _ => []

theorem els_map {α β : Type} (f : α → β) (o : Sl α) : els (o.map f) = (els o).map f := by cases o <;> rfl

def intsP (o : Sl Int) : PD := slP 1 (o.map (PD.int .i64))

structure Stp where
  k : Int
  l : Sl Int
  y : Int

def Stp.lits (s : Stp) : List Int := els s.l
def Stp.cells (s : Stp) : List PD := [.int .i64 s.k, intsP s.l, .int .i64 s.y]
def Stp.pd (s : Stp) : PD := .agg s.cells
def stpsP (o : Sl Stp) : PD := slP 3 (o.map Stp.pd)

theorem len_slP (sz : Nat) (o : Sl PD) : lenD 1 (.p (slP sz o)) = some (els o).length := by
  match o with
  | .nil => rfl
  | .amb => rfl
  | .of [] => rfl
  | .of (e :: es) => rfl

theorem ia_slP {sz : Nat} {o : Sl PD} {k : Nat} (h : k < (els o).length) : iaddrD none sz (.p (slP sz o)) (k : Int) = some (.ro ((els o)[k]).cells 0) := by
  match o with
  | .nil => simp [els] at h
  | .amb => simp [els] at h
  | .of [] => simp [els] at h
  | .of (e :: es) =>
    have h' : k < (e :: es).length := h
    simp only [slP, iaddrD, D.elems?, els]
    simp [List.getElem?_eq_getElem h']

theorem len_ints (o : Sl Int) : lenD 1 (.p (intsP o)) = some (els o).length := by
  rw [intsP, len_slP, els_map, List.length_map]

theorem ia_ints {o : Sl Int} {k : Nat} (h : k < (els o).length) : iaddrD none 1 (.p (intsP o)) (k : Int) = some (.ro [.int .i64 (els o)[k]] 0) := by
  have h' : k < (els (o.map (PD.int .i64))).length := by rw [els_map, List.length_map]; exact h
  rw [intsP, ia_slP h']
  simp [els_map, PD.cells]

theorem len_stps (o : Sl Stp) : lenD 1 (.p (stpsP o)) = some (els o).length := by
  rw [stpsP, len_slP, els_map, List.length_map]

theorem ia_stps {o : Sl Stp} {k : Nat} (h : k < (els o).length) : iaddrD none 3 (.p (stpsP o)) (k : Int) = some (.ro ((els o)[k]).cells 0) := by
  have h' : k < (els (o.map Stp.pd)).length := by rw [els_map, List.length_map]; exact h
  rw [stpsP, ia_slP h']
  simp [els_map, Stp.pd, PD.cells]

theorem one_slP (sz : Nat) (o : Sl PD) : (D.p (slP sz o)).one = true := by
  match o with
  | .nil => rfl
  | .amb => rfl
  | .of [] => rfl
  | .of (_ :: _) => rfl
@[simp] theorem one_ints (o : Sl Int) : (D.p (intsP o)).one = true := one_slP ..
@[simp] theorem one_stps (o : Sl Stp) : (D.p (stpsP o)).one = true := one_slP ..
@[simp] theorem one_int (k : IntKind) (n : Int) : (D.p (.int k n)).one = true := rfl
@[simp] theorem one_bool (b : Bool) : (D.p (.bool b)).one = true := rfl
@[simp] theorem one_str (s : List UInt8) : (D.p (.str s)).one = true := rfl
@[simp] theorem one_slice (sz : Nat) (es : List PD) : (D.p (.slice sz es)).one = true := rfl
@[simp] theorem pone_slice (sz : Nat) (es : List PD) : (PD.slice sz es).one = true := rfl
@[simp] theorem one_nils : (D.p .nils).one = true := rfl
@[simp] theorem one_nilp : (D.p .nilp).one = true := rfl
@[simp] theorem one_box (i o : Nat) : (D.box i o).one = true := rfl
@[simp] theorem one_tsl (t e sz : Nat) (es : List PD) : (D.tsl t e sz es).one = true := rfl
@[simp] theorem one_fsl (e sz : Nat) (es : List PD) : (D.fsl e sz es).one = true := rfl
@[simp] theorem one_msl (i o n : Nat) (c : Option Nat) (sz : Nat) : (D.msl i o n c sz).one = true := rfl
theorem pone_slP (sz : Nat) (o : Sl PD) : (slP sz o).one = true := by
  match o with
  | .nil => rfl
  | .amb => rfl
  | .of [] => rfl
  | .of (_ :: _) => rfl
@[simp] theorem pone_ints (o : Sl Int) : (intsP o).one = true := pone_slP ..
@[simp] theorem pone_int (k : IntKind) (n : Int) : (PD.int k n).one = true := rfl
@[simp] theorem pone_nils : PD.nils.one = true := rfl

/-! Letters. -/
def letV (k : Int) : UInt8 := if k = 1 then 108 else if k = 2 then 100 else if k = 3 then 101 else if k = 4 then 115 else 63

theorem letter_eq (k : Int) (H : Hp) : callD (call pg) 24 [.p (.int .i64 k)] H = some (.val (u8 (letV k)), H) := by
  have : call pg 24 [.p (.int .i64 k)] ⟨[], []⟩ = some (.val (u8 (letV k)), ⟨[], []⟩) := by
    refine call_body (fc := fc24) rfl rfl rfl rfl ?_
    by_cases h1 : k < 1
    · have : letV k = 63 := by unfold letV; rw [if_neg (by omega), if_neg (by omega), if_neg (by omega), if_neg (by omega)]
      simp [fc24, evKC, evK, evGuard, put, Env.get, Env.keep, entry, Opd.ev, indexD, D.asInt?, u8, binD, finish, evRes, evRes1, h1, this]
    · by_cases h2 : k ≥ 5
      · have : letV k = 63 := by unfold letV; rw [if_neg (by omega), if_neg (by omega), if_neg (by omega), if_neg (by omega)]
        simp [fc24, evKC, evK, evGuard, put, Env.get, Env.keep, entry, Opd.ev, indexD, D.asInt?, u8, binD, finish, evRes, evRes1, h1, h2, this]
      · have : k = 1 ∨ k = 2 ∨ k = 3 ∨ k = 4 := by omega
        rcases this with rfl | rfl | rfl | rfl <;> simp [fc24, evKC, evK, evGuard, put, Env.get, Env.keep, entry, Opd.ev, indexD, D.asInt?, u8, binD, finish, evRes, evRes1, letV]
  exact callD_pure this rfl rfl rfl rfl

theorem wrap_u8 (c : UInt8) : UInt8.ofNat ((c.toNat : Int).toNat) = c := by simp

def letters : List UInt8 := [63, 108, 100, 101, 115]

theorem idx_eq (c : UInt8) (H : Hp) : callD (call pg) 36 [.p (.str letters), u8 c] H = some (.val (.p (.int .i64 (idxI letters c))), H) := by
  have : call pg 36 [.p (.str letters), u8 c] ⟨[], []⟩ = some (.val (.p (.int .i64 (idxI letters c))), ⟨[], []⟩) := by
    refine call_body (fc := fc36) rfl rfl rfl rfl ?_
    have h : call pg 43 [.p (.str letters), u8 c] ⟨[], []⟩ = some (.val (.p (.int .i64 (idxI letters c))), ⟨[], []⟩) := by
      refine call_lib ?_
      show some (_, _) = _
      simp []
    have h' := callD_pure (H := ⟨[], []⟩) h rfl rfl rfl rfl
    simp [fc36, evKC, evK, put, Env.get, Env.keep, entry, Opd.ev, finish, evRes, evRes1, h']
  exact callD_pure this rfl rfl rfl rfl

/-! Literals. -/
def litOk (v x : Int) : Bool := !(x == 0) && !decide (x > v) && !decide (x < -v)

theorem lits_loop {v : Int} (hv : -9223372036854775808 < v ∧ v ≤ 9223372036854775807) (o : Sl Int) (hb : (els o).length ≤ 4611686018427387904) : ∀ (n k : Nat), k ≤ (els o).length → (els o).length - k ≤ n →
    ∃ env, loopK (call pg) pg.G [1, 6, 7, 8] fc20_b0 ⟨[(1, .box 0 0), (6, .p (intsP o)), (7, .p (.int .i64 (els o).length)), (8, .p (.int .i64 k))], ⟨[[.p (.int .i64 v)]], []⟩⟩ =
      some (if ((els o).drop k).all (litOk v) then (.exit 0, ⟨env, ⟨[[.p (.int .i64 v)]], []⟩⟩) else (.ret, ⟨[(3, .p (.bool false))], ⟨[[.p (.int .i64 v)]], []⟩⟩)) := by
  intro n
  induction n with
  | zero =>
    intro k hk hn
    have : k = (els o).length := by omega
    refine ⟨[(1, .box 0 0), (6, .p (intsP o)), (7, .p (.int .i64 (els o).length)), (8, .p (.int .i64 k)), (9, .p (.bool false))], ?_⟩
    rw [List.drop_eq_nil_of_le (by omega)]
    simp only [List.all_nil, if_true]
    refine loopK_out (o := .exit 0) ?_ (by simp)
    simp [fc20_b0, evKC, evK, put, Env.get, Env.keep, Opd.ev, binD, this]
  | succ n ih =>
    intro k hk hn
    by_cases he : k = (els o).length
    · refine ⟨[(1, .box 0 0), (6, .p (intsP o)), (7, .p (.int .i64 (els o).length)), (8, .p (.int .i64 k)), (9, .p (.bool false))], ?_⟩
      rw [List.drop_eq_nil_of_le (by omega)]
      simp only [List.all_nil, if_true]
      refine loopK_out (o := .exit 0) ?_ (by simp)
      simp [fc20_b0, evKC, evK, put, Env.get, Env.keep, Opd.ev, binD, he]
    · have hlt : k < (els o).length := by omega
      have hlt' : (k : Int) < ((els o).length : Int) := by omega
      have hia := ia_ints hlt
      obtain ⟨env, he⟩ := ih (k + 1) (by omega) (by omega)
      refine ⟨env, ?_⟩
      rw [List.drop_eq_getElem_cons hlt, List.all_cons]
      generalize (els o)[k] = x at hia
      have hneg : IntKind.i64.wrap (-v) = -v := wrap64 (by omega) (by omega)
      have hk1 : IntKind.i64.wrap ((k : Int) + 1) = ((k + 1 : Nat) : Int) := by rw [wrap64 (by omega) (by omega)]; rfl
      cases hl : litOk v x with
      | true =>
        simp only [Bool.true_and]
        rw [← he]
        refine loopK_norm ?_
        simp only [litOk, Bool.and_eq_true, Bool.not_eq_true', beq_eq_false_iff_ne, decide_eq_false_iff_not] at hl
        obtain ⟨⟨h1, h2⟩, h3⟩ := hl
        have e0 : (x == 0) = false := by simpa using h1
        have h2 : ¬ v < x := h2
        simp [fc20_b0, evKC, evK, evGuard, put, Env.get, Env.keep, Opd.ev, loadD, cutAt, D.asInt?, binD, unD, hlt', hia, e0, h2, h3, hneg, hk1]
      | false =>
        simp only [Bool.false_and, Bool.false_eq_true, if_false]
        refine loopK_out (o := .ret) ?_ (by simp)
        by_cases h1 : x = 0
        · simp [fc20_b0, evKC, evK, evGuard, put, Env.get, Env.keep, Opd.ev, loadD, cutAt, D.asInt?, binD, hlt', hia, h1]
        · have e0 : (x == 0) = false := by simpa using h1
          by_cases h2 : v < x
          · simp [fc20_b0, evKC, evK, evGuard, put, Env.get, Env.keep, Opd.ev, loadD, cutAt, D.asInt?, binD, hlt', hia, e0, h2]
          · have h2 : ¬ v < x := h2
            have h3 : x < -v := by simp [litOk] at hl; omega
            simp [fc20_b0, evKC, evK, evGuard, put, Env.get, Env.keep, Opd.ev, loadD, cutAt, D.asInt?, binD, unD, hlt', hia, e0, h2, hneg, h3]

/-- The closure of Valid: all are literals. -/
theorem lits_eq {v : Int} (hv : -9223372036854775808 < v ∧ v ≤ 9223372036854775807) (o : Sl Int) (hb : (els o).length ≤ 4611686018427387904) :
    call pg 20 [.p (intsP o), .box 0 0] ⟨[[.p (.int .i64 v)]], []⟩ = some (.val (.p (.bool ((els o).all (litOk v)))), ⟨[[.p (.int .i64 v)]], []⟩) := by
  refine call_body (fc := fc20) rfl rfl rfl rfl ?_
  obtain ⟨env, he⟩ := lits_loop hv o hb (els o).length 0 (by omega) (by omega)
  rw [List.drop_zero] at he
  simp only [Int.natCast_zero] at he
  cases ha : (els o).all (litOk v) with
  | true =>
    rw [ha] at he
    simp [fc20, evKC, evK, put, Env.get, Env.keep, entry, Opd.ev, finish, evRes, evRes1, len_ints, he]
  | false =>
    rw [ha] at he
    simp [fc20, evKC, evK, put, Env.get, Env.keep, entry, Opd.ev, finish, evRes, evRes1, len_ints, he]

end Go.Proofs.YtneleliomipddaaDoor

/-! What the functions of proofs give: few, plain, the number of definitions, equality. -/
namespace Go.Proofs.YtneleliomipddaaDoor
open Go.Vs

theorem beq_nat (a b : Nat) : ((a : Int) == (b : Int)) = (a == b) := by rw [Bool.eq_iff_iff]; simp; omega
theorem bne_nat (a b : Nat) : ((a : Int) != (b : Int)) = (a != b) := by simp only [bne, beq_nat]
theorem dlt_nat (a b : Nat) : ((a : Int) < (b : Int)) = (a < b) := by simp
theorem inc64 {k : Nat} (h : k < 4611686018427387904) : IntKind.i64.wrap ((k : Int) + 1) = ((k + 1 : Nat) : Int) := by rw [wrap64 (by omega) (by omega)]; rfl

/-! slices.Equal on numbers. -/
theorem drop_beq {α : Type} [BEq α] (a b : List α) {k : Nat} (ha : k < a.length) (hb : k < b.length) : (a.drop k == b.drop k) = ((a[k] == b[k]) && (a.drop (k + 1) == b.drop (k + 1))) := by
  rw [List.drop_eq_getElem_cons ha, List.drop_eq_getElem_cons hb]; rfl

theorem ints_loop (a b : Sl Int) (hl : (els a).length = (els b).length) (hb : (els a).length ≤ 4611686018427387904) : ∀ (n k : Nat), k ≤ (els a).length → (els a).length - k ≤ n →
    ∃ env, loopK (call pg) pg.G [0, 1, 12, 13] fc30_b0 ⟨[(0, .p (intsP a)), (1, .p (intsP b)), (12, .p (.int .i64 (els a).length)), (13, .p (.int .i64 k))], ⟨[], []⟩⟩ =
      some (if (els a).drop k == (els b).drop k then (.exit 0, ⟨env, ⟨[], []⟩⟩) else (.ret, ⟨[(4, .p (.bool false))], ⟨[], []⟩⟩)) := by
  intro n
  induction n with
  | zero =>
    intro k hk hn
    have : k = (els a).length := by omega
    refine ⟨[(0, .p (intsP a)), (1, .p (intsP b)), (12, .p (.int .i64 (els a).length)), (13, .p (.int .i64 k)), (14, .p (.bool false))], ?_⟩
    rw [List.drop_eq_nil_of_le (by omega), List.drop_eq_nil_of_le (by omega)]
    refine loopK_out (o := .exit 0) ?_ (by simp)
    simp [fc30_b0, evKC, evK, put, Env.get, Env.keep, Opd.ev, binD, this]
  | succ n ih =>
    intro k hk hn
    by_cases he : k = (els a).length
    · refine ⟨[(0, .p (intsP a)), (1, .p (intsP b)), (12, .p (.int .i64 (els a).length)), (13, .p (.int .i64 k)), (14, .p (.bool false))], ?_⟩
      rw [List.drop_eq_nil_of_le (by omega), List.drop_eq_nil_of_le (by omega)]
      refine loopK_out (o := .exit 0) ?_ (by simp)
      simp [fc30_b0, evKC, evK, put, Env.get, Env.keep, Opd.ev, binD, he]
    · have hlt : k < (els a).length := by omega
      have hlt2 : k < (els b).length := by omega
      have hlt' : (k : Int) < ((els a).length : Int) := by omega
      have hia := ia_ints hlt
      have hib := ia_ints hlt2
      obtain ⟨env, he⟩ := ih (k + 1) (by omega) (by omega)
      refine ⟨env, ?_⟩
      rw [drop_beq _ _ hlt hlt2]
      generalize (els a)[k] = x at hia
      generalize (els b)[k] = y at hib
      have hk1 := inc64 (k := k) (by omega)
      by_cases hxy : x = y
      · have e1 : (x == y) = true := by simpa using hxy
        have e2 : (x != y) = false := by simpa using hxy
        rw [e1, Bool.true_and, ← he]
        refine loopK_norm ?_
        simp [fc30_b0, evKC, evK, put, Env.get, Env.keep, Opd.ev, loadD, cutAt, D.asInt?, binD, cls, isW, apartRW, clash, hlt', hia, hib, e2, hk1]
      · have e1 : (x == y) = false := by simpa using hxy
        have e2 : (x != y) = true := by simpa using hxy
        rw [e1, Bool.false_and]
        refine loopK_out (o := .ret) ?_ (by simp)
        simp [fc30_b0, evKC, evK, put, Env.get, Env.keep, Opd.ev, loadD, cutAt, D.asInt?, binD, cls, isW, apartRW, clash, hlt', hia, hib, e2]

theorem ints_eq0 (a b : Sl Int) (hb : (els a).length ≤ 4611686018427387904) : call pg 30 [.p (intsP a), .p (intsP b)] ⟨[], []⟩ = some (.val (.p (.bool (els a == els b))), ⟨[], []⟩) := by
  refine call_body (fc := fc30) rfl rfl rfl rfl ?_
  by_cases hl : (els a).length = (els b).length
  · have hn : (((els a).length : Int) != ((els b).length : Int)) = false := by rw [bne_nat]; simp [hl]
    obtain ⟨env, he⟩ := ints_loop a b hl hb (els a).length 0 (by omega) (by omega)
    rw [List.drop_zero, List.drop_zero] at he
    simp only [Int.natCast_zero] at he
    cases ha : (els a == els b) with
    | true =>
      rw [ha] at he
      simp [fc30, evKC, evK, put, Env.get, Env.keep, entry, Opd.ev, binD, finish, evRes, evRes1, len_ints, hn, he]
    | false =>
      rw [ha] at he
      simp [fc30, evKC, evK, put, Env.get, Env.keep, entry, Opd.ev, binD, finish, evRes, evRes1, len_ints, hn, he]
  · have hn : (((els a).length : Int) != ((els b).length : Int)) = true := by rw [bne_nat]; simp [hl]
    have ha : (els a == els b) = false := by
      rw [beq_eq_false_iff_ne]; intro e; rw [e] at hl; exact hl rfl
    simp [fc30, evKC, evK, put, Env.get, Env.keep, entry, Opd.ev, binD, finish, evRes, evRes1, len_ints, hn, ha]

theorem refs_slP (sz : Nat) (o : Sl PD) : (D.p (slP sz o)).refs = [] ∧ (D.p (slP sz o)).toks = [] := ⟨rfl, rfl⟩

theorem ints_eq (a b : Sl Int) (hb : (els a).length ≤ 4611686018427387904) (H : Hp) : callD (call pg) 30 [.p (intsP a), .p (intsP b)] H = some (.val (.p (.bool (els a == els b))), H) :=
  callD_pure (ints_eq0 a b hb) rfl rfl rfl rfl

/-! The closure of Equal. -/
def eqS (s t : Stp) : Bool := (s.k == t.k && s.y == t.y) && s.lits == t.lits

theorem eqs_eq0 (s t : Stp) (hb : s.lits.length ≤ 4611686018427387904) : ∃ H', call pg 29 [.p s.pd, .p t.pd] ⟨[], []⟩ = some (.val (.p (.bool (eqS s t))), H') := by
  have hq := fun H => ints_eq s.l t.l hb H
  refine ⟨_, call_body (fc := fc29) rfl rfl rfl rfl (r := (_, ⟨[s.cells.map .p, t.cells.map .p], []⟩)) ?_⟩
  cases hk : (s.k == t.k) with
  | false => simp [fc29, evKC, evK, evGuard, put, Env.get, Env.keep, entry, Opd.ev, loadD, cutAt, binD, finish, evRes, evRes1, D.cells, Stp.pd, Stp.cells, hk, eqS]
  | true =>
    cases hy : (s.y == t.y) with
    | false => simp [fc29, evKC, evK, evGuard, put, Env.get, Env.keep, entry, Opd.ev, loadD, cutAt, binD, finish, evRes, evRes1, D.cells, Stp.pd, Stp.cells, hk, hy, eqS]
    | true => simp [fc29, evKC, evK, evGuard, put, Env.get, Env.keep, entry, Opd.ev, loadD, cutAt, binD, finish, evRes, evRes1, D.cells, Stp.pd, Stp.cells, hk, hy, eqS, hq, Stp.lits]

theorem eqs_eq (s t : Stp) (hb : s.lits.length ≤ 4611686018427387904) (H : Hp) : callD (call pg) 29 [.p s.pd, .p t.pd] H = some (.val (.p (.bool (eqS s t))), H) := by
  obtain ⟨H', h⟩ := eqs_eq0 s t hb
  exact callD_pure h rfl rfl rfl rfl

end Go.Proofs.YtneleliomipddaaDoor

/-! What the functions of proofs give: equality, few, plain, the number of definitions. -/
namespace Go.Proofs.YtneleliomipddaaDoor
open Go.Vs

def i64 (n : Int) : Prop := -9223372036854775808 ≤ n ∧ n ≤ 9223372036854775807

structure OkS (s : Stp) : Prop where
  k : i64 s.k
  y : i64 s.y
  n : s.lits.length ≤ 140737488355328
  l : ∀ x ∈ s.lits, i64 x

structure OkP (o : Sl Stp) : Prop where
  n : (els o).length ≤ 140737488355328
  s : ∀ s ∈ els o, OkS s

theorem OkP.at {o : Sl Stp} (h : OkP o) {k : Nat} (hk : k < (els o).length) : OkS (els o)[k] := h.s _ (List.getElem_mem hk)

def eqL : List Stp → List Stp → Bool
  | [], [] => true
  | s :: a, t :: b => eqS s t && eqL a b
  | _, _ => false

theorem eqL_len : ∀ {a b : List Stp}, eqL a b = true → a.length = b.length
  | [], [], _ => rfl
  | _ :: _, _ :: _, h => by simp only [eqL, Bool.and_eq_true] at h; simp [eqL_len h.2]
  | [], _ :: _, h => by cases h
  | _ :: _, [], h => by cases h

theorem eqL_drop {a b : List Stp} {k : Nat} (ha : k < a.length) (hb : k < b.length) : eqL (a.drop k) (b.drop k) = (eqS a[k] b[k] && eqL (a.drop (k + 1)) (b.drop (k + 1))) := by
  rw [List.drop_eq_getElem_cons ha, List.drop_eq_getElem_cons hb]; rfl

/-! Equal. -/
theorem eqf_loop (a b : Sl Stp) (hl : (els a).length = (els b).length) (ha : OkP a) : ∀ (n k : Nat), k ≤ (els a).length → (els a).length - k ≤ n →
    ∃ env, loopK (call pg) pg.G [1, 2, 15, 16, 17] fc28_b0 ⟨[(1, .p (stpsP b)), (2, .fn 29 [] []), (15, .p (stpsP a)), (16, .p (.int .i64 (els a).length)), (17, .p (.int .i64 k))], ⟨[], []⟩⟩ =
      some (if eqL ((els a).drop k) ((els b).drop k) then (.exit 0, ⟨env, ⟨[], []⟩⟩) else (.ret, ⟨[(6, .p (.bool false))], ⟨[], []⟩⟩)) := by
  intro n
  induction n with
  | zero =>
    intro k hk hn
    have : k = (els a).length := by omega
    refine ⟨[(1, .p (stpsP b)), (2, .fn 29 [] []), (15, .p (stpsP a)), (16, .p (.int .i64 (els a).length)), (17, .p (.int .i64 k)), (18, .p (.bool false))], ?_⟩
    rw [List.drop_eq_nil_of_le (by omega), List.drop_eq_nil_of_le (by omega)]
    refine loopK_out (o := .exit 0) ?_ (by simp)
    simp [fc28_b0, evKC, evK, put, Env.get, Env.keep, Opd.ev, binD, mapO, D.renL, D.ren, locD, Out.ren, List.map, this]
  | succ n ih =>
    intro k hk hn
    by_cases he : k = (els a).length
    · refine ⟨[(1, .p (stpsP b)), (2, .fn 29 [] []), (15, .p (stpsP a)), (16, .p (.int .i64 (els a).length)), (17, .p (.int .i64 k)), (18, .p (.bool false))], ?_⟩
      rw [List.drop_eq_nil_of_le (by omega), List.drop_eq_nil_of_le (by omega)]
      refine loopK_out (o := .exit 0) ?_ (by simp)
      simp [fc28_b0, evKC, evK, put, Env.get, Env.keep, Opd.ev, binD, mapO, D.renL, D.ren, locD, Out.ren, List.map, he]
    · have hlt : k < (els a).length := by omega
      have hlt2 : k < (els b).length := by omega
      have hlt' : (k : Int) < ((els a).length : Int) := by omega
      have hia := ia_stps hlt
      have hib := ia_stps hlt2
      have hB := ha.n
      have hsl := (ha.at hlt).n
      obtain ⟨env, he⟩ := ih (k + 1) (by omega) (by omega)
      refine ⟨env, ?_⟩
      rw [eqL_drop hlt hlt2]
      generalize (els a)[k] = s at hia hsl
      generalize (els b)[k] = t at hib
      have hk1 := inc64 (k := k) (by omega)
      have hq := fun H => eqs_eq s t (by omega) H
      simp only [Stp.pd, Stp.cells] at hq hia hib
      cases hxy : eqS s t with
      | true =>
        rw [Bool.true_and, ← he]
        refine loopK_norm ?_
        simp [fc28_b0, evKC, evK, put, Env.get, Env.keep, Opd.ev, loadD, storeD, splice, cutAt, D.asInt?, binD, unD, sub, mapO, D.cells, mkAgg, pures, D.renL, D.ren, locD, Out.ren, List.map, hlt', hia, hib, hq, hxy, hk1]
      | false =>
        rw [Bool.false_and]
        refine loopK_out (o := .ret) ?_ (by simp)
        simp [fc28_b0, evKC, evK, put, Env.get, Env.keep, Opd.ev, loadD, storeD, splice, cutAt, D.asInt?, binD, unD, sub, mapO, D.cells, mkAgg, pures, D.ren, locD, Out.ren, List.map, hlt', hia, hib, hq, hxy]

theorem equal_eq (a b : Sl Stp) (ha : OkP a) (H : Hp) : callD (call pg) 16 [.p (stpsP a), .p (stpsP b)] H = some (.val (.p (.bool (eqL (els a) (els b)))), H) := by
  have h28 : call pg 28 [.p (stpsP a), .p (stpsP b), .fn 29 [] []] ⟨[], []⟩ = some (.val (.p (.bool (eqL (els a) (els b)))), ⟨[], []⟩) := by
    refine call_body (fc := fc28) rfl rfl rfl rfl ?_
    by_cases hl : (els a).length = (els b).length
    · have hn : (((els a).length : Int) != ((els b).length : Int)) = false := by rw [bne_nat]; simp [hl]
      obtain ⟨env, he⟩ := eqf_loop a b hl ha (els a).length 0 (by omega) (by omega)
      rw [List.drop_zero, List.drop_zero] at he
      simp only [Int.natCast_zero] at he
      cases hab : eqL (els a) (els b) with
      | true =>
        rw [hab] at he
        simp [fc28, evKC, evK, put, Env.get, Env.keep, entry, Opd.ev, binD, finish, evRes, evRes1, len_stps, hn, he]
      | false =>
        rw [hab] at he
        simp [fc28, evKC, evK, put, Env.get, Env.keep, entry, Opd.ev, binD, finish, evRes, evRes1, len_stps, hn, he]
    · have hn : (((els a).length : Int) != ((els b).length : Int)) = true := by rw [bne_nat]; simp [hl]
      have hab : eqL (els a) (els b) = false := by
        cases h : eqL (els a) (els b) with
        | false => rfl
        | true => exact absurd (eqL_len h) hl
      simp [fc28, evKC, evK, put, Env.get, Env.keep, entry, Opd.ev, binD, finish, evRes, evRes1, len_stps, hn, hab]
  have h16 : call pg 16 [.p (stpsP a), .p (stpsP b)] ⟨[], []⟩ = some (.val (.p (.bool (eqL (els a) (els b)))), ⟨[], []⟩) := by
    refine call_body (fc := fc16) rfl rfl rfl rfl ?_
    have h := callD_pure (H := ⟨[], []⟩) h28 rfl rfl rfl rfl
    simp [fc16, evKC, evK, put, Env.get, Env.keep, entry, Opd.ev, finish, evRes, evRes1, h]
  exact callD_pure h16 rfl rfl rfl rfl

end Go.Proofs.YtneleliomipddaaDoor

/-! What the functions of proofs give: the reference's equality, few, plain, the number of definitions. -/
namespace Go.Proofs.YtneleliomipddaaDoor
open Go.Vs

/-! The reference's Equal. -/
theorem req_inner (a b : Sl Stp) {k : Nat} (ha : k < (els a).length) (hb : k < (els b).length) (hl : (els a)[k].lits.length = (els b)[k].lits.length) (hsl : (els a)[k].lits.length ≤ 140737488355328) :
    ∀ (n j : Nat), j ≤ (els a)[k].lits.length → (els a)[k].lits.length - j ≤ n →
    ∃ env, loopK (call pg) pg.G [0, 1, 5, 6] fc15_b0 ⟨[(0, .p (stpsP a)), (1, .p (stpsP b)), (5, .p (.int .i64 k)), (6, .p (.int .i64 j))], ⟨[], []⟩⟩ =
      some (if (els a)[k].lits.drop j == (els b)[k].lits.drop j then (.exit 2, ⟨[(0, .p (stpsP a)), (1, .p (stpsP b)), (5, .p (.int .i64 k))] ++ env, ⟨[], []⟩⟩) else (.ret, ⟨[(4, .p (.bool false))], ⟨[], []⟩⟩)) := by
  have hia := ia_stps ha
  have hib := ia_stps hb
  generalize (els a)[k] = s at *
  generalize (els b)[k] = t at *
  simp only [Stp.cells] at hia hib
  have hls := len_ints s.l
  have hlt := len_ints t.l
  intro n
  induction n with
  | zero =>
    intro j hj hn
    have hjj : j = s.lits.length := by omega
    have hjj' : (j : Int) = ((els s.l).length : Int) := by rw [hjj]; rfl
    refine ⟨[(6, .p (.int .i64 j)), (64, .p (.bool false))], ?_⟩
    rw [List.drop_eq_nil_of_le (by omega), List.drop_eq_nil_of_le (by omega)]
    refine loopK_out (o := .exit 2) ?_ (by simp)
    simp [fc15_b0, evKC, evK, put, Env.get, Env.keep, Opd.ev, loadD, cutAt, D.asInt?, binD, hia, hls, hjj']
  | succ n ih =>
    intro j hj hn
    by_cases he : j = s.lits.length
    · have hjj' : (j : Int) = ((els s.l).length : Int) := by rw [he]; rfl
      refine ⟨[(6, .p (.int .i64 j)), (64, .p (.bool false))], ?_⟩
      rw [List.drop_eq_nil_of_le (by omega), List.drop_eq_nil_of_le (by omega)]
      refine loopK_out (o := .exit 2) ?_ (by simp)
      simp [fc15_b0, evKC, evK, put, Env.get, Env.keep, Opd.ev, loadD, cutAt, D.asInt?, binD, hia, hls, hjj']
    · have h1 : j < (els s.l).length := by show j < s.lits.length; omega
      have h2 : j < (els t.l).length := by show j < t.lits.length; omega
      have h1' : (j : Int) < ((els s.l).length : Int) := by omega
      have hja := ia_ints h1
      have hjb := ia_ints h2
      obtain ⟨env, he⟩ := ih (j + 1) (by omega) (by omega)
      refine ⟨env, ?_⟩
      have hd := drop_beq s.lits t.lits h1 h2
      rw [hd]
      have e1 : s.lits[j]'h1 = (els s.l)[j] := rfl
      have e2 : t.lits[j]'h2 = (els t.l)[j] := rfl
      rw [e1, e2]
      generalize (els s.l)[j] = x at hja
      generalize (els t.l)[j] = y at hjb
      have hk1 := inc64 (k := j) (by omega)
      by_cases hxy : x = y
      · have e1 : (x == y) = true := by simpa using hxy
        have e2 : (x != y) = false := by simpa using hxy
        rw [e1, Bool.true_and, ← he]
        refine loopK_norm ?_
        simp [fc15_b0, evKC, evK, put, Env.get, Env.keep, Opd.ev, loadD, cutAt, D.asInt?, binD, cls, isW, apartRW, clash, hia, hib, hls, hja, hjb, h1', e2, hk1]
      · have e1 : (x == y) = false := by simpa using hxy
        have e2 : (x != y) = true := by simpa using hxy
        rw [e1, Bool.false_and]
        refine loopK_out (o := .ret) ?_ (by simp)
        simp [fc15_b0, evKC, evK, put, Env.get, Env.keep, Opd.ev, loadD, cutAt, D.asInt?, binD, cls, isW, apartRW, clash, hia, hib, hls, hja, hjb, h1', e2]

theorem req_loop (a b : Sl Stp) (hl : (els a).length = (els b).length) (ha : OkP a) : ∀ (n k : Nat), k ≤ (els a).length → (els a).length - k ≤ n →
    ∃ env, loopK (call pg) pg.G [0, 1, 5] fc15_b1 ⟨[(0, .p (stpsP a)), (1, .p (stpsP b)), (5, .p (.int .i64 k))], ⟨[], []⟩⟩ =
      some (if eqL ((els a).drop k) ((els b).drop k) then (.exit 0, ⟨env, ⟨[], []⟩⟩) else (.ret, ⟨[(4, .p (.bool false))], ⟨[], []⟩⟩)) := by
  have hB := ha.n
  have hln := len_stps a
  intro n
  induction n with
  | zero =>
    intro k hk hn
    have : k = (els a).length := by omega
    refine ⟨[(0, .p (stpsP a)), (1, .p (stpsP b)), (5, .p (.int .i64 k)), (15, .p (.bool false))], ?_⟩
    rw [List.drop_eq_nil_of_le (by omega), List.drop_eq_nil_of_le (by omega)]
    refine loopK_out (o := .exit 0) ?_ (by simp)
    simp [fc15_b1, evKC, evK, put, Env.get, Env.keep, Opd.ev, binD, hln, this]
  | succ n ih =>
    intro k hk hn
    by_cases he : k = (els a).length
    · refine ⟨[(0, .p (stpsP a)), (1, .p (stpsP b)), (5, .p (.int .i64 k)), (15, .p (.bool false))], ?_⟩
      rw [List.drop_eq_nil_of_le (by omega), List.drop_eq_nil_of_le (by omega)]
      refine loopK_out (o := .exit 0) ?_ (by simp)
      simp [fc15_b1, evKC, evK, put, Env.get, Env.keep, Opd.ev, binD, hln, he]
    · have hlt : k < (els a).length := by omega
      have hlt2 : k < (els b).length := by omega
      have hlt' : (k : Int) < ((els a).length : Int) := by omega
      have hia := ia_stps hlt
      have hib := ia_stps hlt2
      have hsl := (ha.at hlt).n
      have hin := req_inner a b hlt hlt2
      obtain ⟨env, he⟩ := ih (k + 1) (by omega) (by omega)
      refine ⟨env, ?_⟩
      rw [eqL_drop hlt hlt2]
      generalize (els a)[k] = s at *
      generalize (els b)[k] = t at *
      have hk1 := inc64 (k := k) (by omega)
      simp only [Stp.cells] at hia hib
      have hls := len_ints s.l
      have hlt3 := len_ints t.l
      cases hkk : (s.k == t.k) with
      | false =>
        have hk2 : (s.k != t.k) = true := by simp [bne, hkk]
        have : eqS s t = false := by simp [eqS, hkk]
        rw [this, Bool.false_and]
        refine loopK_out (o := .ret) ?_ (by simp)
        simp [fc15_b1, evKC, evK, evGuard, put, Env.get, Env.keep, Opd.ev, loadD, cutAt, D.asInt?, binD, cls, isW, apartRW, clash, hln, hlt', hia, hib, hk2]
      | true =>
        have hk2 : (s.k != t.k) = false := by simp [bne, hkk]
        cases hy : (s.y == t.y) with
        | false =>
          have hy2 : (s.y != t.y) = true := by simp [bne, hy]
          have : eqS s t = false := by simp [eqS, hy]
          rw [this, Bool.false_and]
          refine loopK_out (o := .ret) ?_ (by simp)
          simp [fc15_b1, evKC, evK, evGuard, put, Env.get, Env.keep, Opd.ev, loadD, cutAt, D.asInt?, binD, cls, isW, apartRW, clash, hln, hlt', hia, hib, hk2, hy2]
        | true =>
          have hy2 : (s.y != t.y) = false := by simp [bne, hy]
          by_cases hll : s.lits.length = t.lits.length
          · have hl2 : (((els s.l).length : Int) != ((els t.l).length : Int)) = false := by
              rw [bne_nat]; show (s.lits.length != t.lits.length) = false; simp [hll]
            obtain ⟨env2, hin2⟩ := hin hll hsl s.lits.length 0 (by omega) (by omega)
            rw [List.drop_zero, List.drop_zero] at hin2
            simp only [Int.natCast_zero] at hin2
            have hq : eqS s t = (s.lits == t.lits) := by simp [eqS, hkk, hy]
            rw [hq]
            cases hlq : (s.lits == t.lits) with
            | true =>
              rw [hlq] at hin2
              rw [Bool.true_and, ← he]
              refine loopK_norm ?_
              simp [fc15_b1, evKC, evK, evGuard, put, Env.get, Env.keep, Opd.ev, loadD, cutAt, D.asInt?, binD, cls, isW, apartRW, clash, hln, hlt', hia, hib, hk2, hy2, hls, hlt3, hl2, hin2, hk1]
            | false =>
              rw [hlq] at hin2
              rw [Bool.false_and]
              refine loopK_out (o := .ret) ?_ (by simp)
              simp [fc15_b1, evKC, evK, evGuard, put, Env.get, Env.keep, Opd.ev, loadD, cutAt, D.asInt?, binD, cls, isW, apartRW, clash, hln, hlt', hia, hib, hk2, hy2, hls, hlt3, hl2, hin2]
          · have hl2 : (((els s.l).length : Int) != ((els t.l).length : Int)) = true := by
              rw [bne_nat]; show (s.lits.length != t.lits.length) = true; simp [hll]
            have : eqS s t = false := by
              have : (s.lits == t.lits) = false := by rw [beq_eq_false_iff_ne]; intro e; rw [e] at hll; exact hll rfl
              simp [eqS, this]
            rw [this, Bool.false_and]
            refine loopK_out (o := .ret) ?_ (by simp)
            simp [fc15_b1, evKC, evK, evGuard, put, Env.get, Env.keep, Opd.ev, loadD, cutAt, D.asInt?, binD, cls, isW, apartRW, clash, hln, hlt', hia, hib, hk2, hy2, hls, hlt3, hl2]

theorem requal_eq (a b : Sl Stp) (ha : OkP a) (H : Hp) : callD (call pg) 15 [.p (stpsP a), .p (stpsP b)] H = some (.val (.p (.bool (eqL (els a) (els b)))), H) := by
  have h15 : call pg 15 [.p (stpsP a), .p (stpsP b)] ⟨[], []⟩ = some (.val (.p (.bool (eqL (els a) (els b)))), ⟨[], []⟩) := by
    refine call_body (fc := fc15) rfl rfl rfl rfl ?_
    by_cases hl : (els a).length = (els b).length
    · have hn : (((els a).length : Int) != ((els b).length : Int)) = false := by rw [bne_nat]; simp [hl]
      obtain ⟨env, he⟩ := req_loop a b hl ha (els a).length 0 (by omega) (by omega)
      rw [List.drop_zero, List.drop_zero] at he
      simp only [Int.natCast_zero] at he
      cases hab : eqL (els a) (els b) with
      | true =>
        rw [hab] at he
        simp [fc15, evKC, evK, put, Env.get, Env.keep, entry, Opd.ev, binD, finish, evRes, evRes1, len_stps, hn, he]
      | false =>
        rw [hab] at he
        simp [fc15, evKC, evK, put, Env.get, Env.keep, entry, Opd.ev, binD, finish, evRes, evRes1, len_stps, hn, he]
    · have hn : (((els a).length : Int) != ((els b).length : Int)) = true := by rw [bne_nat]; simp [hl]
      have hab : eqL (els a) (els b) = false := by
        cases h : eqL (els a) (els b) with
        | false => rfl
        | true => exact absurd (eqL_len h) hl
      simp [fc15, evKC, evK, put, Env.get, Env.keep, entry, Opd.ev, binD, finish, evRes, evRes1, len_stps, hn, hab]
  exact callD_pure h15 rfl rfl rfl rfl

/-! Few. -/
def fewS (s : Stp) : Bool := decide (s.lits.length ≤ 60)

theorem few_loop (a : Sl Stp) (hB : (els a).length ≤ 1000000) : ∀ (n k : Nat), k ≤ (els a).length → (els a).length - k ≤ n →
    ∃ env, loopK (call pg) pg.G [0, 5] fc11_b0 ⟨[(0, .p (stpsP a)), (5, .p (.int .i64 k))], ⟨[], []⟩⟩ =
      some (if ((els a).drop k).all fewS then (.exit 0, ⟨env, ⟨[], []⟩⟩) else (.ret, ⟨[(4, .p (.bool false))], ⟨[], []⟩⟩)) := by
  have hln := len_stps a
  intro n
  induction n with
  | zero =>
    intro k hk hn
    have : k = (els a).length := by omega
    refine ⟨[(0, .p (stpsP a)), (5, .p (.int .i64 k)), (13, .p (.bool false))], ?_⟩
    rw [List.drop_eq_nil_of_le (by omega)]
    refine loopK_out (o := .exit 0) ?_ (by simp)
    simp [fc11_b0, evKC, evK, put, Env.get, Env.keep, Opd.ev, binD, hln, this]
  | succ n ih =>
    intro k hk hn
    by_cases he : k = (els a).length
    · refine ⟨[(0, .p (stpsP a)), (5, .p (.int .i64 k)), (13, .p (.bool false))], ?_⟩
      rw [List.drop_eq_nil_of_le (by omega)]
      refine loopK_out (o := .exit 0) ?_ (by simp)
      simp [fc11_b0, evKC, evK, put, Env.get, Env.keep, Opd.ev, binD, hln, he]
    · have hlt : k < (els a).length := by omega
      have hlt' : (k : Int) < ((els a).length : Int) := by omega
      have hia := ia_stps hlt
      obtain ⟨env, he⟩ := ih (k + 1) (by omega) (by omega)
      refine ⟨env, ?_⟩
      rw [List.drop_eq_getElem_cons hlt, List.all_cons]
      generalize (els a)[k] = s at *
      have hk1 := inc64 (k := k) (by omega)
      simp only [Stp.cells] at hia
      have hls := len_ints s.l
      by_cases h : (els s.l).length ≤ 60
      · have h1 : fewS s = true := decide_eq_true h
        have h2 : ¬ (60 : Int) < ((els s.l).length : Int) := by omega
        rw [h1, Bool.true_and, ← he]
        refine loopK_norm ?_
        simp [fc11_b0, evKC, evK, put, Env.get, Env.keep, Opd.ev, loadD, cutAt, D.asInt?, binD, hln, hlt', hia, hls, h2, hk1]
      · have h1 : fewS s = false := decide_eq_false h
        have h2 : (60 : Int) < ((els s.l).length : Int) := by omega
        rw [h1, Bool.false_and]
        refine loopK_out (o := .ret) ?_ (by simp)
        simp [fc11_b0, evKC, evK, put, Env.get, Env.keep, Opd.ev, loadD, cutAt, D.asInt?, binD, hln, hlt', hia, hls, h2]

def fewL (n : Int) (l : List Stp) : Bool := decide ((l.length : Int) ≤ n) && l.all fewS

theorem few_eq (a : Sl Stp) (m : Int) (hM : m ≤ 1000000) (H : Hp) : callD (call pg) 11 [.p (stpsP a), .p (.int .i64 m)] H = some (.val (.p (.bool (fewL m (els a)))), H) := by
  have h11 : call pg 11 [.p (stpsP a), .p (.int .i64 m)] ⟨[], []⟩ = some (.val (.p (.bool (fewL m (els a)))), ⟨[], []⟩) := by
    refine call_body (fc := fc11) rfl rfl rfl rfl ?_
    by_cases hm : m < ((els a).length : Int)
    · have : fewL m (els a) = false := by simp [fewL]; omega
      simp [fc11, evKC, evK, put, Env.get, Env.keep, entry, Opd.ev, binD, finish, evRes, evRes1, len_stps, hm, this]
    · have hm2 : ((els a).length : Int) ≤ m := by omega
      obtain ⟨env, he⟩ := few_loop a (by omega) (els a).length 0 (by omega) (by omega)
      rw [List.drop_zero] at he
      simp only [Int.natCast_zero] at he
      have hf : fewL m (els a) = (els a).all fewS := by simp [fewL, hm2]
      rw [hf]
      cases hab : (els a).all fewS with
      | true =>
        rw [hab] at he
        simp [fc11, evKC, evK, put, Env.get, Env.keep, entry, Opd.ev, binD, finish, evRes, evRes1, len_stps, hm, he]
      | false =>
        rw [hab] at he
        simp [fc11, evKC, evK, put, Env.get, Env.keep, entry, Opd.ev, binD, finish, evRes, evRes1, len_stps, hm, he]
  exact callD_pure h11 rfl rfl rfl rfl

/-! plain. -/
def plS (s : Stp) : Bool := (decide (1 ≤ s.k) && decide (s.k ≤ 4)) && s.lits.all fun x => !(x == 0)

theorem plain_inner (a : Sl Stp) {k : Nat} (ha : k < (els a).length) (hsl : (els a)[k].lits.length ≤ 140737488355328) :
    ∀ (n j : Nat), j ≤ (els a)[k].lits.length → (els a)[k].lits.length - j ≤ n →
    ∃ env, loopK (call pg) pg.G [0, 3, 4] fc17_b0 ⟨[(0, .p (stpsP a)), (3, .p (.int .i64 k)), (4, .p (.int .i64 j))], ⟨[], []⟩⟩ =
      some (if ((els a)[k].lits.drop j).all (fun x => !(x == 0)) then (.exit 2, ⟨[(0, .p (stpsP a)), (3, .p (.int .i64 k))] ++ env, ⟨[], []⟩⟩) else (.ret, ⟨[(2, .p (.bool false))], ⟨[], []⟩⟩)) := by
  have hia := ia_stps ha
  generalize (els a)[k] = s at *
  simp only [Stp.cells] at hia
  have hls := len_ints s.l
  intro n
  induction n with
  | zero =>
    intro j hj hn
    have hjj : j = s.lits.length := by omega
    have hjj' : (j : Int) = ((els s.l).length : Int) := by rw [hjj]; rfl
    refine ⟨[(4, .p (.int .i64 j)), (32, .p (.bool false))], ?_⟩
    rw [List.drop_eq_nil_of_le (by omega)]
    refine loopK_out (o := .exit 2) ?_ (by simp)
    simp [fc17_b0, evKC, evK, put, Env.get, Env.keep, Opd.ev, loadD, cutAt, D.asInt?, binD, hia, hls, hjj']
  | succ n ih =>
    intro j hj hn
    by_cases he : j = s.lits.length
    · have hjj' : (j : Int) = ((els s.l).length : Int) := by rw [he]; rfl
      refine ⟨[(4, .p (.int .i64 j)), (32, .p (.bool false))], ?_⟩
      rw [List.drop_eq_nil_of_le (by omega)]
      refine loopK_out (o := .exit 2) ?_ (by simp)
      simp [fc17_b0, evKC, evK, put, Env.get, Env.keep, Opd.ev, loadD, cutAt, D.asInt?, binD, hia, hls, hjj']
    · have h1 : j < (els s.l).length := by show j < s.lits.length; omega
      have h1' : (j : Int) < ((els s.l).length : Int) := by omega
      have hja := ia_ints h1
      obtain ⟨env, he⟩ := ih (j + 1) (by omega) (by omega)
      refine ⟨env, ?_⟩
      have hd : s.lits.drop j = (els s.l)[j] :: s.lits.drop (j + 1) := List.drop_eq_getElem_cons h1
      rw [hd, List.all_cons]
      generalize (els s.l)[j] = x at hja
      have hk1 := inc64 (k := j) (by omega)
      cases hx : (x == 0) with
      | false =>
        rw [Bool.not_false, Bool.true_and, ← he]
        refine loopK_norm ?_
        simp [fc17_b0, evKC, evK, put, Env.get, Env.keep, Opd.ev, loadD, cutAt, D.asInt?, binD, hia, hls, hja, h1', hx, hk1]
      | true =>
        rw [Bool.not_true, Bool.false_and]
        refine loopK_out (o := .ret) ?_ (by simp)
        simp [fc17_b0, evKC, evK, put, Env.get, Env.keep, Opd.ev, loadD, cutAt, D.asInt?, binD, hia, hls, hja, h1', hx]

theorem plain_loop (a : Sl Stp) (ha : OkP a) : ∀ (n k : Nat), k ≤ (els a).length → (els a).length - k ≤ n →
    ∃ env, loopK (call pg) pg.G [0, 3] fc17_b1 ⟨[(0, .p (stpsP a)), (3, .p (.int .i64 k))], ⟨[], []⟩⟩ =
      some (if ((els a).drop k).all plS then (.exit 0, ⟨env, ⟨[], []⟩⟩) else (.ret, ⟨[(2, .p (.bool false))], ⟨[], []⟩⟩)) := by
  have hB := ha.n
  have hln := len_stps a
  intro n
  induction n with
  | zero =>
    intro k hk hn
    have : k = (els a).length := by omega
    refine ⟨[(0, .p (stpsP a)), (3, .p (.int .i64 k)), (8, .p (.bool false))], ?_⟩
    rw [List.drop_eq_nil_of_le (by omega)]
    refine loopK_out (o := .exit 0) ?_ (by simp)
    simp [fc17_b1, evKC, evK, put, Env.get, Env.keep, Opd.ev, binD, hln, this]
  | succ n ih =>
    intro k hk hn
    by_cases he : k = (els a).length
    · refine ⟨[(0, .p (stpsP a)), (3, .p (.int .i64 k)), (8, .p (.bool false))], ?_⟩
      rw [List.drop_eq_nil_of_le (by omega)]
      refine loopK_out (o := .exit 0) ?_ (by simp)
      simp [fc17_b1, evKC, evK, put, Env.get, Env.keep, Opd.ev, binD, hln, he]
    · have hlt : k < (els a).length := by omega
      have hlt' : (k : Int) < ((els a).length : Int) := by omega
      have hia := ia_stps hlt
      have hsl := (ha.at hlt).n
      have hin := plain_inner a hlt
      obtain ⟨env, he⟩ := ih (k + 1) (by omega) (by omega)
      refine ⟨env, ?_⟩
      rw [List.drop_eq_getElem_cons hlt, List.all_cons]
      generalize (els a)[k] = s at *
      have hk1 := inc64 (k := k) (by omega)
      simp only [Stp.cells] at hia
      by_cases h1 : s.k < 1
      · have : plS s = false := by simp only [plS]; rw [decide_eq_false (show ¬ 1 ≤ s.k by omega)]; rfl
        rw [this, Bool.false_and]
        refine loopK_out (o := .ret) ?_ (by simp)
        simp [fc17_b1, evKC, evK, evGuard, put, Env.get, Env.keep, Opd.ev, loadD, cutAt, D.asInt?, binD, hln, hlt', hia, h1]
      · by_cases h2 : 4 < s.k
        · have : plS s = false := by simp only [plS]; rw [decide_eq_false (show ¬ s.k ≤ 4 by omega), Bool.and_false]; rfl
          rw [this, Bool.false_and]
          refine loopK_out (o := .ret) ?_ (by simp)
          simp [fc17_b1, evKC, evK, evGuard, put, Env.get, Env.keep, Opd.ev, loadD, cutAt, D.asInt?, binD, hln, hlt', hia, h1, h2]
        · have hp : plS s = s.lits.all fun x => !(x == 0) := by simp only [plS]; rw [decide_eq_true (show 1 ≤ s.k by omega), decide_eq_true (show s.k ≤ 4 by omega)]; rfl
          rw [hp]
          obtain ⟨env2, hin2⟩ := hin hsl s.lits.length 0 (by omega) (by omega)
          rw [List.drop_zero] at hin2
          simp only [Int.natCast_zero] at hin2
          cases hlq : s.lits.all fun x => !(x == 0) with
          | true =>
            rw [hlq] at hin2
            rw [Bool.true_and, ← he]
            refine loopK_norm ?_
            simp [fc17_b1, evKC, evK, evGuard, put, Env.get, Env.keep, Opd.ev, loadD, cutAt, D.asInt?, binD, hln, hlt', hia, h1, h2, hin2, hk1]
          | false =>
            rw [hlq] at hin2
            rw [Bool.false_and]
            refine loopK_out (o := .ret) ?_ (by simp)
            simp [fc17_b1, evKC, evK, evGuard, put, Env.get, Env.keep, Opd.ev, loadD, cutAt, D.asInt?, binD, hln, hlt', hia, h1, h2, hin2]

theorem plain_eq (a : Sl Stp) (ha : OkP a) (H : Hp) : callD (call pg) 17 [.p (stpsP a)] H = some (.val (.p (.bool ((els a).all plS))), H) := by
  have h17 : call pg 17 [.p (stpsP a)] ⟨[], []⟩ = some (.val (.p (.bool ((els a).all plS))), ⟨[], []⟩) := by
    refine call_body (fc := fc17) rfl rfl rfl rfl ?_
    obtain ⟨env, he⟩ := plain_loop a ha (els a).length 0 (by omega) (by omega)
    rw [List.drop_zero] at he
    simp only [Int.natCast_zero] at he
    cases hab : (els a).all plS with
    | true =>
      rw [hab] at he
      simp [fc17, evKC, evK, put, Env.get, Env.keep, entry, Opd.ev, finish, evRes, evRes1, he]
    | false =>
      rw [hab] at he
      simp [fc17, evKC, evK, put, Env.get, Env.keep, entry, Opd.ev, finish, evRes, evRes1, he]
  exact callD_pure h17 rfl rfl rfl rfl

/-! The number of definitions. -/
def defs (l : List Stp) : Nat := (l.filter fun s => s.k == 3).length

theorem defs_cons (s : Stp) (l : List Stp) : defs (s :: l) = (if s.k == 3 then 1 else 0) + defs l := by
  unfold defs
  rw [List.filter_cons]
  split <;> simp; omega

theorem defs_loop (a : Sl Stp) (ha : OkP a) : ∀ (n k d : Nat), k ≤ (els a).length → (els a).length - k ≤ n → d ≤ k →
    ∃ env, loopK (call pg) pg.G [0, 3, 4] fc18_b0 ⟨[(0, .p (stpsP a)), (3, .p (.int .i64 d)), (4, .p (.int .i64 k))], ⟨[], []⟩⟩ =
      some (.exit 0, ⟨[(0, .p (stpsP a)), (3, .p (.int .i64 (d + defs ((els a).drop k) : Nat)))] ++ env, ⟨[], []⟩⟩) := by
  have hB := ha.n
  have hln := len_stps a
  intro n
  induction n with
  | zero =>
    intro k d hk hn hd
    have : k = (els a).length := by omega
    refine ⟨[(4, .p (.int .i64 k)), (8, .p (.bool false))], ?_⟩
    rw [List.drop_eq_nil_of_le (by omega)]
    refine loopK_out (o := .exit 0) ?_ (by simp)
    simp [fc18_b0, evKC, evK, put, Env.get, Env.keep, Opd.ev, binD, hln, this, defs]
  | succ n ih =>
    intro k d hk hn hd
    by_cases he : k = (els a).length
    · refine ⟨[(4, .p (.int .i64 k)), (8, .p (.bool false))], ?_⟩
      rw [List.drop_eq_nil_of_le (by omega)]
      refine loopK_out (o := .exit 0) ?_ (by simp)
      simp [fc18_b0, evKC, evK, put, Env.get, Env.keep, Opd.ev, binD, hln, he, defs]
    · have hlt : k < (els a).length := by omega
      have hlt' : (k : Int) < ((els a).length : Int) := by omega
      have hia := ia_stps hlt
      rw [List.drop_eq_getElem_cons hlt, defs_cons]
      generalize (els a)[k] = s at *
      have hk1 := inc64 (k := k) (by omega)
      have hd1 := inc64 (k := d) (by omega)
      simp only [Stp.cells] at hia
      cases hs : (s.k == 3) with
      | true =>
        obtain ⟨env, he⟩ := ih (k + 1) (d + 1) (by omega) (by omega) (by omega)
        refine ⟨env, ?_⟩
        have e : d + ((if true = true then 1 else 0) + defs ((els a).drop (k + 1))) = d + 1 + defs ((els a).drop (k + 1)) := by simp; omega
        rw [e, ← he]
        refine loopK_norm ?_
        simp [fc18_b0, evKC, evK, put, Env.get, Env.keep, Opd.ev, loadD, cutAt, D.asInt?, binD, hln, hlt', hia, hs, hk1, hd1]
      | false =>
        obtain ⟨env, he⟩ := ih (k + 1) d (by omega) (by omega) (by omega)
        refine ⟨env, ?_⟩
        have e : d + ((if false = true then 1 else 0) + defs ((els a).drop (k + 1))) = d + defs ((els a).drop (k + 1)) := by simp
        rw [e, ← he]
        refine loopK_norm ?_
        simp [fc18_b0, evKC, evK, put, Env.get, Env.keep, Opd.ev, loadD, cutAt, D.asInt?, binD, hln, hlt', hia, hs, hk1]

theorem defs_eq (a : Sl Stp) (ha : OkP a) (H : Hp) : callD (call pg) 18 [.p (stpsP a)] H = some (.val (.p (.int .i64 (defs (els a)))), H) := by
  have h18 : call pg 18 [.p (stpsP a)] ⟨[], []⟩ = some (.val (.p (.int .i64 (defs (els a)))), ⟨[], []⟩) := by
    refine call_body (fc := fc18) rfl rfl rfl rfl ?_
    obtain ⟨env, he⟩ := defs_loop a ha (els a).length 0 0 (by omega) (by omega) (by omega)
    rw [List.drop_zero, Nat.zero_add] at he
    simp only [Int.natCast_zero] at he
    simp [fc18, evKC, evK, put, Env.get, Env.keep, entry, Opd.ev, finish, evRes, evRes1, he]
  exact callD_pure h18 rfl rfl rfl rfl

end Go.Proofs.YtneleliomipddaaDoor

/-! What Valid gives. -/
namespace Go.Proofs.YtneleliomipddaaDoor
open Go.Vs

/-- A step over the variables up to v: the variables behind it. -/
def validS (v : Int) (s : Stp) : Option Int :=
  if s.k = 1 ∨ s.k = 2 then (if s.y = 0 ∧ s.lits.all (litOk v) = true then some v else none)
  else if s.k = 4 then (if 0 ≤ s.y ∧ s.y ≤ 20000 ∧ s.lits.all (litOk v) = true then some v else none)
  else if s.k = 3 then (match s.lits with
    | x :: y :: r => if s.y = 0 ∧ x = v + 1 ∧ v < 20000 ∧ (y :: r).all (litOk v) = true then some (v + 1) else none
    | _ => none)
  else none

def validL (v : Int) : List Stp → Bool
  | [] => true
  | s :: l => match validS v s with
    | some v' => validL v' l
    | none => false

theorem validS_range {v v' : Int} {s : Stp} (h : validS v s = some v') (h0 : 0 ≤ v) (h1 : v ≤ 20000) : 0 ≤ v' ∧ v' ≤ 20000 := by
  unfold validS at h
  split at h
  · split at h <;> cases h; exact ⟨h0, h1⟩
  · split at h
    · split at h <;> cases h; exact ⟨h0, h1⟩
    · split at h
      · split at h
        · split at h
          · rename_i hc; cases h; omega
          · cases h
        · cases h
      · cases h

theorem lits_call (v : Int) (h0 : 0 ≤ v) (h1 : v ≤ 20000) (o : Sl Int) (hb : (els o).length ≤ 140737488355328) (bx : List (List D)) :
    callD (call pg) 20 [.p (intsP o), .box 0 0] ⟨[.p (.int .i64 v)] :: bx, []⟩ = some (.val (.p (.bool ((els o).all (litOk v)))), ⟨[.p (.int .i64 v)] :: bx, []⟩) := by
  have h := lits_eq (v := v) ⟨by omega, by omega⟩ o (by omega)
  have hr : ∀ n, reach ⟨[.p (.int .i64 v)] :: bx, []⟩ n [0] = [0] := by
    intro n; cases n <;> simp [reach, boxRefs, D.refsL, D.refs]
  simp [callD, boxToks, ins, nodupB, idx, D.renL, D.ren, back, firstN, putAll, Res.ren, D.refsL, D.refs, D.toksL, D.toks, mapO, hr, h]

theorem tail_ints {a b : Int} {r : List Int} : sliceD 1 (.p (intsP (.of (a :: b :: r)))) (some (.p (.int .i64 1))) none = some (.p (intsP (.of (b :: r)))) := by
  simp [intsP, slP, Sl.map, sliceD, D.elems?, boundsD, D.asNat?, sub]
  exact List.take_of_length_le (by simp)

theorem valid_loop (a : Sl Stp) (ha : OkP a) : ∀ (n k : Nat) (v : Int), 0 ≤ v → v ≤ 20000 → k ≤ (els a).length → (els a).length - k ≤ n →
    ∃ env v', loopK (call pg) pg.G [5, 6, 22, 23, 24] fc12_b0 ⟨[(5, .box 0 0), (6, .fn 20 [] [.box 0 0]), (22, .p (stpsP a)), (23, .p (.int .i64 (els a).length)), (24, .p (.int .i64 k))], ⟨[[.p (.int .i64 v)]], []⟩⟩ =
      some (if validL v ((els a).drop k) then (.exit 0, ⟨env, ⟨[[.p (.int .i64 v')]], []⟩⟩) else (.ret, ⟨[(4, .p (.bool false))], ⟨[[.p (.int .i64 v')]], []⟩⟩)) := by
  have hB := ha.n
  intro n
  induction n with
  | zero =>
    intro k v h0 h1 hk hn
    have : k = (els a).length := by omega
    refine ⟨[(5, .box 0 0), (6, .fn 20 [] [.box 0 0]), (22, .p (stpsP a)), (23, .p (.int .i64 (els a).length)), (24, .p (.int .i64 k)), (25, .p (.bool false))], v, ?_⟩
    rw [List.drop_eq_nil_of_le (by omega)]
    refine loopK_out (o := .exit 0) ?_ (by simp)
    simp [fc12_b0, evKC, evK, put, Env.get, Env.keep, Opd.ev, binD, mapO, D.renL, D.ren, locD, below, Out.ren, List.map, this]
  | succ n ih =>
    intro k v h0 h1 hk hn
    by_cases he : k = (els a).length
    · refine ⟨[(5, .box 0 0), (6, .fn 20 [] [.box 0 0]), (22, .p (stpsP a)), (23, .p (.int .i64 (els a).length)), (24, .p (.int .i64 k)), (25, .p (.bool false))], v, ?_⟩
      rw [List.drop_eq_nil_of_le (by omega)]
      refine loopK_out (o := .exit 0) ?_ (by simp)
      simp [fc12_b0, evKC, evK, put, Env.get, Env.keep, Opd.ev, binD, mapO, D.renL, D.ren, locD, below, Out.ren, List.map, he]
    · have hlt : k < (els a).length := by omega
      have hlt' : (k : Int) < ((els a).length : Int) := by omega
      have hia := ia_stps hlt
      have hsl := (ha.at hlt).n
      rw [List.drop_eq_getElem_cons hlt]
      generalize (els a)[k] = s at *
      have hk1 := inc64 (k := k) (by omega)
      simp only [Stp.cells] at hia
      have hls := len_ints s.l
      have hcall := fun bx => lits_call v h0 h1 s.l hsl bx
      have next : ∀ v', validS v s = some v' → (evS (call pg) pg.G iterX fc12_b0 ⟨Env.keep [5, 6, 22, 23, 24] [(5, .box 0 0), (6, .fn 20 [] [.box 0 0]), (22, .p (stpsP a)), (23, .p (.int .i64 (els a).length)), (24, .p (.int .i64 k))], ⟨[[.p (.int .i64 v)]], []⟩⟩ =
          some (.norm, ⟨[(5, .box 0 0), (6, .fn 20 [] [.box 0 0]), (22, .p (stpsP a)), (23, .p (.int .i64 (els a).length)), (24, .p (.int .i64 ((k + 1 : Nat) : Int)))], ⟨[[.p (.int .i64 v')]], []⟩⟩)) →
          ∃ env v', loopK (call pg) pg.G [5, 6, 22, 23, 24] fc12_b0 ⟨[(5, .box 0 0), (6, .fn 20 [] [.box 0 0]), (22, .p (stpsP a)), (23, .p (.int .i64 (els a).length)), (24, .p (.int .i64 k))], ⟨[[.p (.int .i64 v)]], []⟩⟩ =
            some (if validL v (s :: (els a).drop (k + 1)) then (.exit 0, ⟨env, ⟨[[.p (.int .i64 v')]], []⟩⟩) else (.ret, ⟨[(4, .p (.bool false))], ⟨[[.p (.int .i64 v')]], []⟩⟩)) := by
        intro v' hv hev
        obtain ⟨g0, g1⟩ := validS_range hv h0 h1
        obtain ⟨env, v2, he⟩ := ih (k + 1) v' g0 g1 (by omega) (by omega)
        refine ⟨env, v2, ?_⟩
        have : validL v (s :: (els a).drop (k + 1)) = validL v' ((els a).drop (k + 1)) := by simp only [validL, hv]
        rw [this, ← he]
        exact loopK_norm hev
      have stop : validS v s = none → (evS (call pg) pg.G iterX fc12_b0 ⟨Env.keep [5, 6, 22, 23, 24] [(5, .box 0 0), (6, .fn 20 [] [.box 0 0]), (22, .p (stpsP a)), (23, .p (.int .i64 (els a).length)), (24, .p (.int .i64 k))], ⟨[[.p (.int .i64 v)]], []⟩⟩ =
          some (.ret, ⟨[(4, .p (.bool false))], ⟨[[.p (.int .i64 v)]], []⟩⟩)) →
          ∃ env v', loopK (call pg) pg.G [5, 6, 22, 23, 24] fc12_b0 ⟨[(5, .box 0 0), (6, .fn 20 [] [.box 0 0]), (22, .p (stpsP a)), (23, .p (.int .i64 (els a).length)), (24, .p (.int .i64 k))], ⟨[[.p (.int .i64 v)]], []⟩⟩ =
            some (if validL v (s :: (els a).drop (k + 1)) then (.exit 0, ⟨env, ⟨[[.p (.int .i64 v')]], []⟩⟩) else (.ret, ⟨[(4, .p (.bool false))], ⟨[[.p (.int .i64 v')]], []⟩⟩)) := by
        intro hv hev
        refine ⟨[], v, ?_⟩
        have : validL v (s :: (els a).drop (k + 1)) = false := by simp only [validL, hv]
        rw [this]
        exact loopK_out hev (by simp)
      have hls' : s.lits.all (litOk v) = (els s.l).all (litOk v) := rfl
      by_cases k1 : s.k = 1
      · cases hy : (s.y == 0) with
        | false =>
          have hy' : s.y ≠ 0 := by simpa using hy
          have hy2 : (s.y != 0) = true := by simp [bne, hy]
          refine stop (by simp [validS, k1, hy']) ?_
          simp [fc12_b0, evKC, evK, evGuard, put, Env.get, Env.keep, Opd.ev, loadD, storeD, splice, cutAt, D.asInt?, binD, sub, mapO, D.cells, D.renL, D.ren, locD, Out.ren, List.map, hlt', hia, k1, hy2]
        | true =>
          have hy' : s.y = 0 := by simpa using hy
          have hy2 : (s.y != 0) = false := by simp [bne, hy]
          cases hq : (els s.l).all (litOk v) with
          | true =>
            refine next v (by simp [validS, k1, hy', hls', hq]) ?_
            simp [fc12_b0, evKC, evK, evGuard, put, Env.get, Env.keep, Opd.ev, loadD, storeD, splice, cutAt, D.asInt?, binD, unD, sub, mapO, D.cells, D.renL, D.ren, locD, below, Out.ren, List.map, hlt', hia, k1, hy2, hcall, hq, hk1]
          | false =>
            refine stop (by simp [validS, k1, hy', hls', hq]) ?_
            simp [fc12_b0, evKC, evK, evGuard, put, Env.get, Env.keep, Opd.ev, loadD, storeD, splice, cutAt, D.asInt?, binD, unD, sub, mapO, D.cells, D.renL, D.ren, locD, Out.ren, List.map, hlt', hia, k1, hy2, hcall, hq]
      · have e1 : (s.k == 1) = false := by simpa using k1
        by_cases k2 : s.k = 2
        · cases hy : (s.y == 0) with
          | false =>
            have hy' : s.y ≠ 0 := by simpa using hy
            have hy2 : (s.y != 0) = true := by simp [bne, hy]
            refine stop (by simp [validS, k2, hy']) ?_
            simp [fc12_b0, evKC, evK, evGuard, put, Env.get, Env.keep, Opd.ev, loadD, storeD, splice, cutAt, D.asInt?, binD, sub, mapO, D.cells, D.renL, D.ren, locD, Out.ren, List.map, hlt', hia, k2, hy2]
          | true =>
            have hy' : s.y = 0 := by simpa using hy
            have hy2 : (s.y != 0) = false := by simp [bne, hy]
            cases hq : (els s.l).all (litOk v) with
            | true =>
              refine next v (by simp [validS, k2, hy', hls', hq]) ?_
              simp [fc12_b0, evKC, evK, evGuard, put, Env.get, Env.keep, Opd.ev, loadD, storeD, splice, cutAt, D.asInt?, binD, unD, sub, mapO, D.cells, D.renL, D.ren, locD, below, Out.ren, List.map, hlt', hia, k2, hy2, hcall, hq, hk1]
            | false =>
              refine stop (by simp [validS, k2, hy', hls', hq]) ?_
              simp [fc12_b0, evKC, evK, evGuard, put, Env.get, Env.keep, Opd.ev, loadD, storeD, splice, cutAt, D.asInt?, binD, unD, sub, mapO, D.cells, D.renL, D.ren, locD, Out.ren, List.map, hlt', hia, k2, hy2, hcall, hq]
        · have e2 : (s.k == 2) = false := by simpa using k2
          by_cases k4 : s.k = 4
          · by_cases y0 : s.y < 0
            · refine stop (by simp only [validS, k4]; rw [if_neg (by omega), if_pos trivial, if_neg (by omega)]) ?_
              simp [fc12_b0, evKC, evK, evGuard, put, Env.get, Env.keep, Opd.ev, loadD, storeD, splice, cutAt, D.asInt?, binD, sub, mapO, D.cells, D.renL, D.ren, locD, Out.ren, List.map, hlt', hia, k4, y0]
            · by_cases y1 : 20000 < s.y
              · refine stop (by simp only [validS, k4]; rw [if_neg (by omega), if_pos trivial, if_neg (by omega)]) ?_
                simp [fc12_b0, evKC, evK, evGuard, put, Env.get, Env.keep, Opd.ev, loadD, storeD, splice, cutAt, D.asInt?, binD, sub, mapO, D.cells, D.renL, D.ren, locD, Out.ren, List.map, hlt', hia, k4, y0, y1]
              · cases hq : (els s.l).all (litOk v) with
                | true =>
                  refine next v (by simp only [validS, k4]; rw [if_neg (by omega), if_pos trivial, if_pos ⟨by omega, by omega, hq⟩]) ?_
                  simp [fc12_b0, evKC, evK, evGuard, put, Env.get, Env.keep, Opd.ev, loadD, storeD, splice, cutAt, D.asInt?, binD, unD, sub, mapO, D.cells, D.renL, D.ren, locD, below, Out.ren, List.map, hlt', hia, k4, y0, y1, hcall, hq, hk1]
                | false =>
                  refine stop (by simp only [validS, k4]; rw [if_neg (by omega), if_pos trivial, if_neg (fun h => by rw [hls', hq] at h; exact absurd h.2.2 (by simp))]) ?_
                  simp [fc12_b0, evKC, evK, evGuard, put, Env.get, Env.keep, Opd.ev, loadD, storeD, splice, cutAt, D.asInt?, binD, unD, sub, mapO, D.cells, D.renL, D.ren, locD, Out.ren, List.map, hlt', hia, k4, y0, y1, hcall, hq]
          · have e4 : (s.k == 4) = false := by simpa using k4
            by_cases k3 : s.k = 3
            · cases hy : (s.y == 0) with
              | false =>
                have hy' : s.y ≠ 0 := by simpa using hy
                have hy2 : (s.y != 0) = true := by simp [bne, hy]
                refine stop (by
                  simp only [validS, k3]
                  rw [if_neg (by omega), if_neg (by omega), if_pos trivial]
                  split
                  · rw [if_neg (fun h => hy' h.1)]
                  · rfl) ?_
                simp [fc12_b0, evKC, evK, evGuard, put, Env.get, Env.keep, Opd.ev, loadD, storeD, splice, cutAt, D.asInt?, binD, sub, cls, clsR, isW, apartRW, clash, mapO, D.cells, D.renL, D.ren, locD, Out.ren, List.map, hlt', hia, k3, hy2]
              | true =>
                have hy' : s.y = 0 := by simpa using hy
                have hy2 : (s.y != 0) = false := by simp [bne, hy]
                obtain ⟨sk, sl, sy⟩ := s
                simp only [Stp.lits] at *
                match sl with
                | .nil =>
                  have hle : (els (.nil : Sl Int)).length = 0 := rfl
                  refine stop (by simp only [validS, k3]; rw [if_neg (by omega), if_neg (by omega), if_pos trivial]; rfl) ?_
                  simp [fc12_b0, evKC, evK, evGuard, put, Env.get, Env.keep, Opd.ev, loadD, storeD, splice, cutAt, D.asInt?, binD, sub, cls, clsR, isW, apartRW, clash, mapO, D.cells, D.renL, D.ren, locD, Out.ren, List.map, hlt', hia, k3, hy2, hls, hle]
                | .amb =>
                  have hle : (els (.amb : Sl Int)).length = 0 := rfl
                  refine stop (by simp only [validS, k3]; rw [if_neg (by omega), if_neg (by omega), if_pos trivial]; rfl) ?_
                  simp [fc12_b0, evKC, evK, evGuard, put, Env.get, Env.keep, Opd.ev, loadD, storeD, splice, cutAt, D.asInt?, binD, sub, cls, clsR, isW, apartRW, clash, mapO, D.cells, D.renL, D.ren, locD, Out.ren, List.map, hlt', hia, k3, hy2, hls, hle]
                | .of [] =>
                  have hle : (els (.of [] : Sl Int)).length = 0 := rfl
                  refine stop (by simp only [validS, k3]; rw [if_neg (by omega), if_neg (by omega), if_pos trivial]; rfl) ?_
                  simp [fc12_b0, evKC, evK, evGuard, put, Env.get, Env.keep, Opd.ev, loadD, storeD, splice, cutAt, D.asInt?, binD, sub, cls, clsR, isW, apartRW, clash, mapO, D.cells, D.renL, D.ren, locD, Out.ren, List.map, hlt', hia, k3, hy2, hls, hle]
                | .of [x] =>
                  have hle : (els (.of [x])).length = 1 := rfl
                  refine stop (by simp only [validS, k3]; rw [if_neg (by omega), if_neg (by omega), if_pos trivial]; rfl) ?_
                  simp [fc12_b0, evKC, evK, evGuard, put, Env.get, Env.keep, Opd.ev, loadD, storeD, splice, cutAt, D.asInt?, binD, sub, cls, clsR, isW, apartRW, clash, mapO, D.cells, D.renL, D.ren, locD, Out.ren, List.map, hlt', hia, k3, hy2, hls, hle]
                | .of (x :: z :: r) =>
                  have hle : (els (.of (x :: z :: r))).length = r.length + 2 := rfl
                  have hge : ¬ ((r.length : Int) + 2 < 2) := by omega
                  have hge2 : ¬ ((r.length : Int) + 1 + 1 < 2) := by omega
                  have hx0 := ia_ints (o := .of (x :: z :: r)) (k := 0) (by simp [els])
                  simp only [Int.natCast_zero] at hx0
                  have hx1 : (els (.of (x :: z :: r)))[0]'(by simp [els]) = x := rfl
                  rw [hx1] at hx0
                  have hv1 : IntKind.i64.wrap (v + 1) = v + 1 := wrap64 (by omega) (by omega)
                  have htl := tail_ints (a := x) (b := z) (r := r)
                  have hct := fun bx => lits_call v h0 h1 (.of (z :: r)) (by simp [els] at hsl ⊢; omega) bx
                  have hee : els (.of (z :: r)) = z :: r := rfl
                  rw [hee] at hct
                  cases hx : (x == v + 1) with
                  | false =>
                    have hx' : x ≠ v + 1 := by simpa using hx
                    have hx2 : (x != v + 1) = true := by simp [bne, hx]
                    refine stop (by simp only [validS, k3]; rw [if_neg (by omega), if_neg (by omega), if_pos trivial]; exact if_neg (fun h => hx' h.2.1)) ?_
                    simp [fc12_b0, evKC, evK, evGuard, put, Env.get, Env.keep, Opd.ev, loadD, storeD, splice, cutAt, D.asInt?, binD, sub, cls, clsR, isW, apartRW, clash, mapO, D.cells, D.renL, D.ren, locD, Out.ren, List.map, hlt', hia, k3, hy2, hls, hle, hge, hx0, hv1, hx2]
                  | true =>
                    have hx' : x = v + 1 := by simpa using hx
                    have hx2 : (x != v + 1) = false := by simp [bne, hx]
                    by_cases hv : 20000 ≤ v
                    · refine stop (by simp only [validS, k3]; rw [if_neg (by omega), if_neg (by omega), if_pos trivial]; exact if_neg (fun h => by omega)) ?_
                      simp [fc12_b0, evKC, evK, evGuard, put, Env.get, Env.keep, Opd.ev, loadD, storeD, splice, cutAt, D.asInt?, binD, sub, cls, clsR, isW, apartRW, clash, mapO, D.cells, D.renL, D.ren, locD, Out.ren, List.map, hlt', hia, k3, hy2, hls, hle, hge, hx0, hv1, hx2, hv]
                    · cases hq : (z :: r).all (litOk v) with
                      | true =>
                        refine next (v + 1) (by simp only [validS, k3]; rw [if_neg (by omega), if_neg (by omega), if_pos trivial]; exact if_pos ⟨hy', hx', by omega, hq⟩) ?_
                        simp [fc12_b0, evKC, evK, evGuard, put, Env.get, Env.keep, Opd.ev, loadD, storeD, splice, cutAt, D.asInt?, binD, unD, sub, cls, clsR, isW, apartRW, clash, mapO, D.cells, D.refsL, D.refs, D.toksL, D.toks, D.renL, D.ren, locD, below, Out.ren, List.map, hlt', hia, k3, hy2, hls, hle, hge, hx0, hv1, hx2, hv, htl, hct, hq, hk1]
                      | false =>
                        refine stop (by simp only [validS, k3]; rw [if_neg (by omega), if_neg (by omega), if_pos trivial]; exact if_neg (fun h => by rw [hq] at h; exact absurd h.2.2.2 (by simp))) ?_
                        simp [fc12_b0, evKC, evK, evGuard, put, Env.get, Env.keep, Opd.ev, loadD, storeD, splice, cutAt, D.asInt?, binD, unD, sub, cls, clsR, isW, apartRW, clash, mapO, D.cells, D.refsL, D.refs, D.toksL, D.toks, D.renL, D.ren, locD, Out.ren, List.map, hlt', hia, k3, hy2, hls, hle, hge, hx0, hv1, hx2, hv, htl, hct, hq]
            · have e3 : (s.k == 3) = false := by simpa using k3
              refine stop (by simp only [validS]; rw [if_neg (by omega), if_neg (by omega), if_neg (by omega)]) ?_
              simp [fc12_b0, evKC, evK, put, Env.get, Env.keep, Opd.ev, loadD, storeD, splice, cutAt, D.asInt?, binD, sub, mapO, D.cells, D.renL, D.ren, locD, Out.ren, List.map, hlt', hia, e1, e2, e3, e4]


def valid (vars : Int) (l : List Stp) : Bool := decide (0 ≤ vars) && decide (vars ≤ 20000) && decide (l.length ≤ 20000) && validL vars l

theorem valid_eq0 (vars : Int) (a : Sl Stp) (ha : OkP a) : ∃ H', call pg 12 [.p (.int .i64 vars), .p (stpsP a)] ⟨[], []⟩ = some (.val (.p (.bool (valid vars (els a)))), H') := by
  by_cases h0 : vars < 0
  · refine ⟨⟨[], []⟩, call_body (fc := fc12) rfl rfl rfl rfl ?_⟩
    have : valid vars (els a) = false := by simp only [valid]; rw [decide_eq_false (show ¬ 0 ≤ vars by omega)]; rfl
    simp [fc12, evKC, evK, evGuard, put, Env.get, Env.keep, entry, Opd.ev, binD, finish, evRes, evRes1, h0, this]
  · by_cases h1 : 20000 < vars
    · refine ⟨⟨[], []⟩, call_body (fc := fc12) rfl rfl rfl rfl ?_⟩
      have : valid vars (els a) = false := by simp only [valid]; rw [decide_eq_false (show ¬ vars ≤ 20000 by omega), Bool.and_false]; rfl
      simp [fc12, evKC, evK, evGuard, put, Env.get, Env.keep, entry, Opd.ev, binD, finish, evRes, evRes1, h0, h1, this]
    · by_cases h2 : (20000 : Int) < ((els a).length : Int)
      · refine ⟨⟨[], []⟩, call_body (fc := fc12) rfl rfl rfl rfl ?_⟩
        have : valid vars (els a) = false := by simp only [valid]; rw [decide_eq_false (show ¬ (els a).length ≤ 20000 by omega), Bool.and_false]; rfl
        simp [fc12, evKC, evK, evGuard, put, Env.get, Env.keep, entry, Opd.ev, binD, finish, evRes, evRes1, h0, h1, h2, len_stps, this]
      · obtain ⟨env, v', he⟩ := valid_loop a ha (els a).length 0 vars (by omega) (by omega) (by omega) (by omega)
        rw [List.drop_zero] at he
        simp only [Int.natCast_zero] at he
        have hv : valid vars (els a) = validL vars (els a) := by simp only [valid]; rw [decide_eq_true (show 0 ≤ vars by omega), decide_eq_true (show vars ≤ 20000 by omega), decide_eq_true (show (els a).length ≤ 20000 by omega)]; rfl
        rw [hv]
        refine ⟨⟨[[.p (.int .i64 v')]], []⟩, call_body (fc := fc12) rfl rfl rfl rfl ?_⟩
        cases hab : validL vars (els a) with
        | true =>
          rw [hab] at he
          simp [fc12, evKC, evK, evGuard, put, Env.get, Env.keep, entry, Opd.ev, storeD, splice, binD, finish, evRes, evRes1, D.cells, D.one, PD.one, h0, h1, h2, len_stps, he]
        | false =>
          rw [hab] at he
          simp [fc12, evKC, evK, evGuard, put, Env.get, Env.keep, entry, Opd.ev, storeD, splice, binD, finish, evRes, evRes1, D.cells, D.one, PD.one, h0, h1, h2, len_stps, he]

theorem valid_eq (vars : Int) (a : Sl Stp) (ha : OkP a) (H : Hp) : callD (call pg) 12 [.p (.int .i64 vars), .p (stpsP a)] H = some (.val (.p (.bool (valid vars (els a)))), H) := by
  obtain ⟨H', h⟩ := valid_eq0 vars a ha
  exact callD_pure h rfl rfl rfl rfl

end Go.Proofs.YtneleliomipddaaDoor

/-! What the builder's functions give, and Encode. -/
namespace Go.Proofs.YtneleliomipddaaDoor
open Go.Vs

def bytesP (l : List UInt8) : List PD := l.map fun b => .int .u8 b.toNat

theorem bytesP_len (l : List UInt8) : (bytesP l).length = l.length := by simp [bytesP]
theorem bytesP_app (a b : List UInt8) : bytesP (a ++ b) = bytesP a ++ bytesP b := by simp [bytesP]

theorem bytesOf_bytesP : ∀ l : List UInt8, bytesOf (bytesP l) = some l
  | [] => rfl
  | b :: l => by
    have := bytesOf_bytesP l
    simp only [bytesP] at this
    simp [bytesP, bytesOf, this]

/-- A builder that holds these bytes: never written, or used. -/
def bldH (f : Bool) (l : List UInt8) (bx : List (List D)) : Hp := ⟨[if f then .fresh 52 2 0 else .box 0 0, .tsl 0 5 1 (bytesP l)] :: bx, [l.length]⟩

theorem reach_self {H : Hp} (h : boxRefs H [0] = [] ∨ boxRefs H [0] = [0]) : ∀ n, reach H n [0] = [0]
  | 0 => rfl
  | n + 1 => by
    rcases h with h | h
    · simp only [reach, h]
    · simp only [reach, h]
      exact reach_self (.inr h) n

theorem reach_bld (f : Bool) (l : List UInt8) (bx : List (List D)) (n : Nat) : reach (bldH f l bx) n [0] = [0] :=
  reach_self (.inr (by cases f <;> rfl)) n

theorem cc_call (f : Bool) (l : List UInt8) : callD (call pg) 37 [.box 0 0] (bldH f l []) = some (.val .undef, bldH false l []) := by
  have h : call pg 37 [.box 0 0] (bldH f l []) = some (.val .undef, bldH false l []) := by
    refine call_lib ?_
    cases f <;> rfl
  have hr := reach_bld f l []
  cases f <;> simp [bldH] at h hr ⊢ <;> simp [callD, boxToks, ins, nodupB, idx, D.renL, D.ren, back, firstN, putAll, Res.ren, D.refsL, D.refs, D.toksL, D.toks, mapO, hr, h]

theorem wbyte_eq (f : Bool) (l : List UInt8) (c : UInt8) (hb : l.length < 140737488355328) : call pg 23 [.box 0 0, u8 c] (bldH f l []) = some (.val (.p .nili), bldH false (l ++ [c]) []) := by
  refine call_body (fc := fc23) rfl rfl rfl rfl ?_
  have hc := cc_call f l
  have hr : roomy (l.length + 1) 1 = true := by simp [roomy]; omega
  cases f <;> simp [bldH] at hc ⊢ <;> simp [fc23, evKC, evK, put, Env.get, Env.keep, entry, Opd.ev, loadD, storeD, splice, cutAt, u8, finish, evRes, evRes1, D.cells, PD.cells, fillE, appendD, srcD, D.elems?, D.asPD, srcH, hc, bytesP_len, hr, bytesP_app]
  all_goals simp [bytesP]

theorem wstr_eq (f : Bool) (l s : List UInt8) (hb : l.length + s.length ≤ 140737488355328) : call pg 25 [.box 0 0, .p (.str s)] (bldH f l []) = some (.val (.tup [.p (.int .i64 s.length), .p .nili]), bldH false (l ++ s) []) := by
  refine call_body (fc := fc25) rfl rfl rfl rfl ?_
  have hc := cc_call f l
  have hr : roomy (l.length + s.length) 1 = true := by simp [roomy]; omega
  cases f <;> simp [bldH] at hc ⊢ <;> simp [fc25, evKC, evK, put, Env.get, Env.keep, entry, Opd.ev, loadD, storeD, splice, cutAt, lenD, finish, evRes, evRes1, mapO, D.cells, appendD, srcD, srcH, hc, bytesP_len, hr, bytesP_app]
  all_goals simp [bytesP]

theorem bstr_eq (f : Bool) (l : List UInt8) (hb : l.length ≤ 140737488355328) : call pg 27 [.box 0 0] (bldH f l []) = some (.val (.p (.str l)), bldH f l []) := by
  refine call_body (fc := fc27) rfl rfl rfl rfl ?_
  cases l with
  | nil => cases f <;> simp [fc27, bldH, bytesP, evKC, evK, put, Env.get, Env.keep, entry, Opd.ev, loadD, cutAt, lenD, cls, clsR, isW, apartRW, clash, finish, evRes, evRes1, D.elems?, sdataD, ustrD]
  | cons b l =>
    have h := bytesOf_bytesP (b :: l)
    simp only [bytesP, List.map_cons] at h
    have hl : l.length + 1 ≤ 140737488355328 := hb
    cases f <;> simp [fc27, bldH, bytesP, evKC, evK, put, Env.get, Env.keep, entry, Opd.ev, loadD, cutAt, lenD, cls, clsR, isW, apartRW, clash, finish, evRes, evRes1, D.elems?, sdataD, ustrD, h, hl]

end Go.Proofs.YtneleliomipddaaDoor

/-! What Encode gives. -/
namespace Go.Proofs.YtneleliomipddaaDoor
open Go.Vs

theorem binD_int (op : BinOp) (k : IntKind) (a b : Int) : binD op (.p (.int k a)) (.p (.int k b)) = (intBin op k a b).map .p := by simp [binD]

theorem wb_call (f : Bool) (l : List UInt8) (c : UInt8) (bx : List (List D)) (hb : l.length < 140737488355328) : callD (call pg) 23 [.box 0 0, u8 c] (bldH f l bx) = some (.val (.p .nili), bldH false (l ++ [c]) bx) := by
  have h := wbyte_eq f l c hb
  have hr := reach_bld f l bx
  cases f <;> simp only [bldH, u8, Bool.false_eq_true, if_false, if_true] at h hr ⊢ <;> simp [callD, boxToks, ins, nodupB, idx, D.renL, D.ren, back, firstN, putAll, Res.ren, D.refsL, D.refs, D.toksL, D.toks, mapO, hr, h]

theorem ws_call (f : Bool) (l s : List UInt8) (bx : List (List D)) (hb : l.length + s.length ≤ 140737488355328) : callD (call pg) 25 [.box 0 0, .p (.str s)] (bldH f l bx) = some (.val (.tup [.p (.int .i64 s.length), .p .nili]), bldH false (l ++ s) bx) := by
  have h := wstr_eq f l s hb
  have hr := reach_bld f l bx
  cases f <;> simp only [bldH, Bool.false_eq_true, if_false, if_true] at h hr ⊢ <;> simp [callD, boxToks, ins, nodupB, idx, D.renL, D.ren, back, firstN, putAll, Res.ren, D.refsL, D.refs, D.toksL, D.toks, mapO, hr, h]

theorem bs_call (f : Bool) (l : List UInt8) (bx : List (List D)) (hb : l.length ≤ 140737488355328) : callD (call pg) 27 [.box 0 0] (bldH f l bx) = some (.val (.p (.str l)), bldH f l bx) := by
  have h := bstr_eq f l hb
  have hr := reach_bld f l bx
  cases f <;> simp only [bldH, Bool.false_eq_true, if_false, if_true] at h hr ⊢ <;> simp [callD, boxToks, ins, nodupB, idx, D.renL, D.ren, back, firstN, putAll, Res.ren, D.refsL, D.refs, D.toksL, D.toks, mapO, hr, h]

theorem itoa_call {n : Int} (h : i64 n) (H : Hp) : callD (call pg) 26 [.p (.int .i64 n)] H = some (.val (.p (.str (Lib.itoa n))), H) := by
  have : call pg 26 [.p (.int .i64 n)] ⟨[], []⟩ = some (.val (.p (.str (Lib.itoa n))), ⟨[], []⟩) := by
    refine call_lib ?_
    show (if _ then _ else _) = _
    exact if_pos h
  exact callD_pure this rfl rfl rfl rfl

/-- The text of a number behind a space. -/
def spI (x : Int) : List UInt8 := 32 :: Lib.itoa x

theorem bin_sp (x : Int) (h : (spI x).length ≤ 140737488355328) : binD .add (.p (.str [32])) (.p (.str (Lib.itoa x))) = some (.p (.str (spI x))) := by
  simp only [spI, List.length_cons] at h
  have h' : 1 + (Lib.itoa x).length ≤ 140737488355328 := by omega
  simp [binD, strBin, spI, h']

def encS (s : Stp) : List UInt8 := letV s.k :: ((if s.k = 4 then spI s.y else []) ++ (s.lits.flatMap spI ++ [32, 48, 10]))
def encL (l : List Stp) : List UInt8 := l.flatMap encS

theorem enc_inner (a : Sl Stp) (cs : List D) (k : Int) (o : Sl Int) (hcs : D.renL (below 2) (below 1) cs = some cs) (ho : ∀ x ∈ els o, i64 x) (hlen : (els o).length ≤ 140737488355328) : ∀ (n j : Nat) (acc : List UInt8), j ≤ (els o).length → (els o).length - j ≤ n → acc.length + (((els o).drop j).flatMap spI).length ≤ 140737488355328 →
    ∃ env, loopK (call pg) pg.G [3, 8, 9, 10, 27, 28, 29] fc14_b0 ⟨[(3, .box 0 0), (8, .p (stpsP a)), (9, .p (.int .i64 (els a).length)), (10, .p (.int .i64 k)), (27, .p (intsP o)), (28, .p (.int .i64 (els o).length)), (29, .p (.int .i64 j))], bldH false acc [cs]⟩ =
      some (.exit 2, ⟨[(3, .box 0 0), (8, .p (stpsP a)), (9, .p (.int .i64 (els a).length)), (10, .p (.int .i64 k))] ++ env, bldH false (acc ++ ((els o).drop j).flatMap spI) [cs]⟩) := by
  intro n
  induction n with
  | zero =>
    intro j acc hj hn hb
    have : j = (els o).length := by omega
    refine ⟨[(27, .p (intsP o)), (28, .p (.int .i64 (els o).length)), (29, .p (.int .i64 j)), (30, .p (.bool false))], ?_⟩
    rw [List.drop_eq_nil_of_le (by omega)]
    refine loopK_out (o := .exit 2) ?_ (by simp)
    simp [fc14_b0, bldH, evKC, evK, put, Env.get, Env.keep, Opd.ev, binD, mapO, D.renL, D.ren, locD, below, Out.ren, List.map, this, hcs]
  | succ n ih =>
    intro j acc hj hn hb
    by_cases he : j = (els o).length
    · refine ⟨[(27, .p (intsP o)), (28, .p (.int .i64 (els o).length)), (29, .p (.int .i64 j)), (30, .p (.bool false))], ?_⟩
      rw [List.drop_eq_nil_of_le (by omega)]
      refine loopK_out (o := .exit 2) ?_ (by simp)
      simp [fc14_b0, bldH, evKC, evK, put, Env.get, Env.keep, Opd.ev, binD, mapO, D.renL, D.ren, locD, below, Out.ren, List.map, he, hcs]
    · have hlt : j < (els o).length := by omega
      have hlt' : (j : Int) < ((els o).length : Int) := by omega
      have hia := ia_ints hlt
      rw [List.drop_eq_getElem_cons hlt, List.flatMap_cons] at hb ⊢
      have hx := ho _ (List.getElem_mem hlt)
      generalize (els o)[j] = x at *
      have hk1 := inc64 (k := j) (by omega)
      simp only [List.length_append] at hb
      obtain ⟨a1, ha1⟩ : ∃ a1, a1 = acc ++ spI x := ⟨_, rfl⟩
      obtain ⟨env, he⟩ := ih (j + 1) a1 (by omega) (by omega) (by rw [ha1, List.length_append]; omega)
      refine ⟨env, ?_⟩
      rw [← List.append_assoc, ← ha1, ← he]
      have hw := ws_call false acc (spI x) [cs] (by omega)
      rw [← ha1] at hw
      have hi := fun H => itoa_call hx H
      have hbin := bin_sp x (by omega)
      clear ha1
      refine loopK_norm ?_
      simp only [bldH, Bool.false_eq_true, if_false] at hw ⊢
      simp [fc14_b0, evKC, evK, put, Env.get, Env.keep, Opd.ev, loadD, cutAt, D.asInt?, mapO, D.renL, D.ren, locD, below, Out.ren, List.map, binD_int, hlt', hia, hi, hbin, hw, hk1, hcs]

theorem enc_loop (a : Sl Stp) (ha : OkP a) : ∀ (n k : Nat) (f : Bool) (acc : List UInt8), k ≤ (els a).length → (els a).length - k ≤ n → acc.length + (encL ((els a).drop k)).length ≤ 140737488355328 →
    ∃ env f', loopK (call pg) pg.G [3, 8, 9, 10] fc14_b1 ⟨[(3, .box 0 0), (8, .p (stpsP a)), (9, .p (.int .i64 (els a).length)), (10, .p (.int .i64 k))], bldH f acc []⟩ =
      some (.exit 0, ⟨[(3, .box 0 0)] ++ env, bldH f' (acc ++ encL ((els a).drop k)) []⟩) := by
  have hB := ha.n
  intro n
  induction n with
  | zero =>
    intro k f acc hk hn hb
    have : k = (els a).length := by omega
    refine ⟨[(8, .p (stpsP a)), (9, .p (.int .i64 (els a).length)), (10, .p (.int .i64 k)), (11, .p (.bool false))], f, ?_⟩
    rw [List.drop_eq_nil_of_le (by omega)]
    refine loopK_out (o := .exit 0) ?_ (by simp)
    cases f <;> simp [fc14_b1, bldH, evKC, evK, put, Env.get, Env.keep, Opd.ev, binD, mapO, D.renL, D.ren, locD, below, Out.ren, List.map, this, encL]
  | succ n ih =>
    intro k f acc hk hn hb
    by_cases he : k = (els a).length
    · refine ⟨[(8, .p (stpsP a)), (9, .p (.int .i64 (els a).length)), (10, .p (.int .i64 k)), (11, .p (.bool false))], f, ?_⟩
      rw [List.drop_eq_nil_of_le (by omega)]
      refine loopK_out (o := .exit 0) ?_ (by simp)
      cases f <;> simp [fc14_b1, bldH, evKC, evK, put, Env.get, Env.keep, Opd.ev, binD, mapO, D.renL, D.ren, locD, below, Out.ren, List.map, he, encL]
    · have hlt : k < (els a).length := by omega
      have hlt' : (k : Int) < ((els a).length : Int) := by omega
      have hia := ia_stps hlt
      have hs := ha.at hlt
      have hdrop : encL ((els a).drop k) = encS (els a)[k] ++ encL ((els a).drop (k + 1)) := by rw [List.drop_eq_getElem_cons hlt]; rfl
      rw [hdrop] at hb ⊢
      generalize (els a)[k] = s at *
      have hk1 := inc64 (k := k) (by omega)
      simp only [Stp.cells] at hia
      have hls := len_ints s.l
      have hsy := hs.y
      have hsl := hs.n
      have hse : encS s = letV s.k :: ((if s.k = 4 then spI s.y else []) ++ (s.lits.flatMap spI ++ [32, 48, 10])) := rfl
      rw [List.length_append, hse] at hb
      simp only [List.length_cons, List.length_append, List.length_nil] at hb
      let cs : List D := [.p (.int .i64 s.k), .p (intsP s.l), .p (.int .i64 s.y)]
      obtain ⟨a1, ha1⟩ : ∃ a1, a1 = acc ++ [letV s.k] := ⟨_, rfl⟩
      obtain ⟨a2, ha2⟩ : ∃ a2, a2 = a1 ++ (if s.k = 4 then spI s.y else []) := ⟨_, rfl⟩
      obtain ⟨a3, ha3⟩ : ∃ a3, a3 = a2 ++ s.lits.flatMap spI := ⟨_, rfl⟩
      obtain ⟨a4, ha4⟩ : ∃ a4, a4 = a3 ++ [32, 48, 10] := ⟨_, rfl⟩
      have l1 : a1.length = acc.length + 1 := by rw [ha1]; simp
      have l2 : a2.length = a1.length + (if s.k = 4 then spI s.y else []).length := by rw [ha2]; simp
      have l3 : a3.length = a2.length + (s.lits.flatMap spI).length := by rw [ha3, List.length_append]
      have l4 : a4.length = a3.length + 3 := by rw [ha4]; simp
      have h4 : acc ++ encS s = a4 := by rw [ha4, ha3, ha2, ha1, hse]; simp [List.append_assoc]
      obtain ⟨env, f', he⟩ := ih (k + 1) false a4 (by omega) (by omega) (by omega)
      refine ⟨env, f', ?_⟩
      rw [← List.append_assoc, h4, ← he]
      have hlet := fun H => letter_eq s.k H
      have w1 := wb_call f acc (letV s.k) [cs] (by omega)
      rw [← ha1] at w1
      have w3 := ws_call false a3 [32, 48, 10] [cs] (by simp; omega)
      rw [← ha4] at w3
      obtain ⟨env3, hin⟩ := enc_inner a cs k s.l rfl hs.l hsl (els s.l).length 0 a2 (by omega) (by omega) (by rw [List.drop_zero]; show a2.length + (s.lits.flatMap spI).length ≤ _; omega)
      rw [List.drop_zero] at hin
      have e3 : a2 ++ (els s.l).flatMap spI = a3 := ha3.symm
      rw [e3] at hin
      simp only [Int.natCast_zero] at hin
      by_cases h4k : s.k = 4
      · rw [if_pos h4k] at hb ha2 l2
        have w2 := ws_call false a1 (spI s.y) [cs] (by omega)
        rw [← ha2] at w2
        have hi := fun H => itoa_call hsy H
        have hbin := bin_sp s.y (by omega)
        clear ha1 ha2 ha3 ha4 h4 he hdrop
        have hbe : intBin .eql .i64 s.k 4 = some (.bool true) := by simp [h4k]
        refine loopK_norm ?_
        cases f <;> simp only [bldH, Bool.false_eq_true, if_false, if_true, cs] at w1 w2 w3 hin ⊢ <;> simp [fc14_b1, evKC, evK, put, Env.get, Env.keep, Opd.ev, loadD, storeD, splice, cutAt, D.asInt?, sub, mapO, D.cells, D.renL, D.ren, locD, below, Out.ren, List.map, binD_int, hlt', hia, hlet, w1, hbe, hi, hbin, w2, hls, hin, w3, hk1, -intBin_eql]
      · rw [if_neg h4k] at hb ha2 l2
        rw [List.append_nil] at ha2
        rw [ha2] at hin
        clear ha1 ha2 ha3 ha4 h4 he hdrop
        have hbe : intBin .eql .i64 s.k 4 = some (.bool false) := by simp [h4k]
        refine loopK_norm ?_
        cases f <;> simp only [bldH, Bool.false_eq_true, if_false, if_true, cs] at w1 w3 hin ⊢ <;> simp [fc14_b1, evKC, evK, put, Env.get, Env.keep, Opd.ev, loadD, storeD, splice, cutAt, D.asInt?, sub, mapO, D.cells, D.renL, D.ren, locD, below, Out.ren, List.map, binD_int, hlt', hia, hlet, w1, hbe, hls, hin, w3, hk1, -intBin_eql]

theorem encode_eq0 (a : Sl Stp) (ha : OkP a) (hb : (encL (els a)).length ≤ 140737488355328) : ∃ H', call pg 14 [.p (stpsP a)] ⟨[], []⟩ = some (.val (.p (.str (encL (els a)))), H') := by
  obtain ⟨env, f', he⟩ := enc_loop a ha (els a).length 0 true [] (by omega) (by omega) (by simpa using hb)
  rw [List.drop_zero, List.nil_append] at he
  have hs := bs_call f' (encL (els a)) [] hb
  simp only [bldH, if_true, bytesP, List.map_nil, List.length_nil, Int.natCast_zero] at he
  refine ⟨bldH f' (encL (els a)) [], call_body (fc := fc14) rfl rfl rfl rfl ?_⟩
  simp only [bldH, bytesP] at hs ⊢
  simp [fc14, evKC, evK, put, Env.get, Env.keep, entry, Opd.ev, finish, evRes, evRes1, allocBD, tokbD, tokD, len_stps, he, hs]

theorem encode_eq (a : Sl Stp) (ha : OkP a) (hb : (encL (els a)).length ≤ 140737488355328) (H : Hp) : callD (call pg) 14 [.p (stpsP a)] H = some (.val (.p (.str (encL (els a)))), H) := by
  obtain ⟨H', h⟩ := encode_eq0 a ha hb
  exact callD_pure h rfl rfl rfl rfl

end Go.Proofs.YtneleliomipddaaDoor

/-! What the scanner of a line gives. -/
namespace Go.Proofs.YtneleliomipddaaDoor
open Go.Vs

def wordsP (l : List (List UInt8)) : PD := .slice 1 (l.map PD.str)

/-- A word, as a number in canonical notation. -/
def numV (w : List UInt8) : Int × Bool :=
  if 9 < (Lib.trimPrefix w [45]).length then (0, false) else
  match Lib.atoi w with
  | some n => (n, Lib.itoa n == w)
  | none => (0, false)

theorem trim_len (w : List UInt8) : w.length ≤ (Lib.trimPrefix w [45]).length + 1 := by
  unfold Lib.trimPrefix
  split
  · simp; omega
  · omega

theorem trim_call (w : List UInt8) (H : Hp) : callD (call pg) 41 [.p (.str w), .p (.str [45])] H = some (.val (.p (.str (Lib.trimPrefix w [45]))), H) := by
  have : call pg 41 [.p (.str w), .p (.str [45])] ⟨[], []⟩ = some (.val (.p (.str (Lib.trimPrefix w [45]))), ⟨[], []⟩) := call_lib rfl
  exact callD_pure this rfl rfl rfl rfl

theorem atoi_call {w : List UInt8} (hw : w.length ≤ 18) (H : Hp) : callD (call pg) 42 [.p (.str w)] H = some (.val (atoiV w), H) := by
  have : call pg 42 [.p (.str w)] ⟨[], []⟩ = some (.val (atoiV w), ⟨[], []⟩) := by
    refine call_lib ?_
    exact if_pos hw
  refine callD_pure (d' := atoiV w) this rfl rfl rfl ?_
  unfold atoiV
  cases Lib.atoi w <;> rfl

theorem number_eq (ws : List (List UInt8)) : call pg 35 [.box 0 0] ⟨[[.p (wordsP ws)]], []⟩ =
    match ws with
    | [] => some (.val (.tup [.p (.int .i64 0), .p (.bool false)]), ⟨[[.p (wordsP [])]], []⟩)
    | w :: r => some (.val (.tup [.p (.int .i64 (numV w).1), .p (.bool (numV w).2)]), ⟨[[.p (wordsP r)]], []⟩) := by
  cases ws with
  | nil =>
    refine call_body (fc := fc35) rfl rfl rfl rfl ?_
    simp [fc35, wordsP, evKC, evK, put, Env.get, Env.keep, entry, Opd.ev, loadD, cutAt, binD, lenD, finish, evRes, evRes1, mapO, D.elems?]
  | cons w r =>
    refine call_body (fc := fc35) rfl rfl rfl rfl ?_
    have htr := fun H => trim_call w H
    have hlen := trim_len w
    have hne : (((r.length : Int) + 1) == 0) = false := by rw [beq_eq_false_iff_ne]; omega
    have hsub : List.take r.length (List.map PD.str r) = List.map PD.str r := List.take_of_length_le (by simp)
    by_cases h9 : 9 < (Lib.trimPrefix w [45]).length
    · have h9' : (9 : Int) < ((Lib.trimPrefix w [45]).length : Int) := by omega
      have hv : numV w = (0, false) := by unfold numV; rw [if_pos h9]
      simp [fc35, wordsP, evKC, evK, put, Env.get, Env.keep, entry, Opd.ev, loadD, storeD, splice, cutAt, D.asInt?, D.asNat?, binD, lenD, boundsD, sliceD, iaddrD, sub, finish, evRes, evRes1, mapO, D.cells, PD.cells, D.elems?, hne, htr, h9', hv, hsub]
    · have h9' : ¬ (9 : Int) < ((Lib.trimPrefix w [45]).length : Int) := by omega
      have hat := fun H => atoi_call (w := w) (by omega) H
      cases ha : Lib.atoi w with
      | none =>
        have hv : numV w = (0, false) := by unfold numV; rw [if_neg h9, ha]
        simp only [atoiV, ha] at hat
        simp [fc35, wordsP, evKC, evK, evGuard, put, Env.get, Env.keep, entry, Opd.ev, loadD, storeD, splice, cutAt, D.asInt?, D.asNat?, binD, lenD, boundsD, sliceD, iaddrD, sub, finish, evRes, evRes1, mapO, D.cells, PD.cells, D.elems?, eqD, hne, htr, h9', hv, hat, hsub]
      | some n =>
        have hv : numV w = (n, Lib.itoa n == w) := by unfold numV; rw [if_neg h9, ha]
        simp only [atoiV, ha] at hat
        have hb := Lib.atoi_bound ha (by omega)
        have hi := fun H => itoa_call (n := n) ⟨by omega, by omega⟩ H
        simp [fc35, wordsP, evKC, evK, evGuard, put, Env.get, Env.keep, entry, Opd.ev, loadD, storeD, splice, cutAt, D.asInt?, D.asNat?, binD, strBin, lenD, boundsD, sliceD, iaddrD, sub, finish, evRes, evRes1, mapO, D.cells, PD.cells, D.elems?, eqD, hne, htr, h9', hv, hat, hi, hsub]

end Go.Proofs.YtneleliomipddaaDoor

/-! What a line decodes to. -/
namespace Go.Proofs.YtneleliomipddaaDoor
open Go.Vs

def words (line : List UInt8) : List (List UInt8) := (Lib.splitB ⟨[32].toArray⟩ 0 (Lib.countB ⟨line.toArray⟩ ⟨[32].toArray⟩) ⟨line.toArray⟩).map fun b => b.data.toList

theorem splitV_words (line : List UInt8) : PD.slice 1 (splitV line [32]) = wordsP (words line) := by
  simp [splitV, words, wordsP, List.map_map]

theorem len_words (l : List (List UInt8)) : lenD 1 (.p (wordsP l)) = some l.length := by simp [wordsP, lenD, D.elems?]
@[simp] theorem one_words (l : List (List UInt8)) : (D.p (wordsP l)).one = true := rfl

/-- Numbers up to a 0 that is the last word. -/
def numsV : List (List UInt8) → List Int → Option (List Int)
  | [], _ => none
  | w :: r, acc => if (numV w).2 then (if (numV w).1 = 0 then (if r = [] then some acc else none) else numsV r (acc ++ [(numV w).1])) else none

/-- The scanner's variable, with others about it. -/
theorem next_call (ws : List (List UInt8)) (c0 : List D) (bx : List (List D)) (tk : List Nat) : callD (call pg) 35 [.box 1 0] ⟨c0 :: [.p (wordsP ws)] :: bx, tk⟩ =
    match ws with
    | [] => some (.val (.tup [.p (.int .i64 0), .p (.bool false)]), ⟨c0 :: [.p (wordsP [])] :: bx, tk⟩)
    | w :: r => some (.val (.tup [.p (.int .i64 (numV w).1), .p (.bool (numV w).2)]), ⟨c0 :: [.p (wordsP r)] :: bx, tk⟩) := by
  have h := number_eq ws
  have hr : ∀ n, reach ⟨c0 :: [.p (wordsP ws)] :: bx, tk⟩ n [1] = [1] := by
    intro n; cases n <;> simp [reach, boxRefs, D.refsL, D.refs]
  cases ws with
  | nil => simp [callD, boxToks, ins, nodupB, idx, D.renL, D.ren, back, firstN, putAll, Res.ren, D.refsL, D.refs, D.toksL, D.toks, mapO, hr, h]
  | cons w r => simp [callD, boxToks, ins, nodupB, idx, D.renL, D.ren, back, firstN, putAll, Res.ren, D.refsL, D.refs, D.toksL, D.toks, mapO, hr, h]

def intsR (l : List Int) : List PD := l.map (PD.int .i64)

/-- What lies in the variable of the result: a step's cells. -/
def StC (c : List D) : Prop := ∃ k x y, c = [.p (.int .i64 k), x, .p (.int .i64 y)] ∧ (x = .p .nils ∨ ∃ es, x = .tsl 0 3 1 es)

theorem step_loop (k y : Int) (z : List D) (hz : z = [.p (.int .i64 0), .p .nils, .p (.int .i64 0)]) : ∀ (n : Nat) (ws : List (List UInt8)) (acc : List Int), ws.length ≤ n → acc.length + ws.length ≤ 1000000000 →
    ∃ c bx tk, loopK (call pg) pg.G [2, 4, 5, 6] fc22_b0 ⟨[(2, .box 0 0), (4, .box 1 0), (5, .fn 35 [.box 1 0] []), (6, .box 2 0)], ⟨[z, [.p (wordsP ws)], [.p (.int .i64 k), .tsl 0 3 1 (intsR acc), .p (.int .i64 y)]], [acc.length]⟩⟩ =
      some (.ret, ⟨[(2, .box 0 0), (3, .p (.bool (numsV ws acc).isSome))], ⟨c :: bx, tk⟩⟩) ∧ StC c ∧ ∀ l, numsV ws acc = some l → c = [.p (.int .i64 k), .tsl 0 3 1 (intsR l), .p (.int .i64 y)] := by
  subst hz
  intro n
  induction n with
  | zero =>
    intro ws acc hn hb
    have hw : ws = [] := List.length_eq_zero_iff.1 (by omega)
    subst hw
    have hc := next_call [] [.p (.int .i64 0), .p .nils, .p (.int .i64 0)] [[.p (.int .i64 k), .tsl 0 3 1 (intsR acc), .p (.int .i64 y)]] [acc.length]
    simp only at hc
    refine ⟨[.p (.int .i64 0), .p .nils, .p (.int .i64 0)], [[.p (wordsP [])], [.p (.int .i64 k), .tsl 0 3 1 (intsR acc), .p (.int .i64 y)]], [acc.length], loopK_out (o := .ret) ?_ (by simp), ⟨0, _, 0, rfl, .inl rfl⟩, fun l h => by simp [numsV] at h⟩
    simp [fc22_b0, evKC, evK, put, Env.get, Env.keep, Opd.ev, storeD, splice, unD, mapO, D.cells, mkAgg, pures, fillD, D.renL, D.ren, locD, below, Out.ren, List.map, hc, numsV]
  | succ n ih =>
    intro ws acc hn hb
    have hc := next_call ws [.p (.int .i64 0), .p .nils, .p (.int .i64 0)] [[.p (.int .i64 k), .tsl 0 3 1 (intsR acc), .p (.int .i64 y)]] [acc.length]
    cases ws with
    | nil =>
      simp only at hc
      refine ⟨[.p (.int .i64 0), .p .nils, .p (.int .i64 0)], [[.p (wordsP [])], [.p (.int .i64 k), .tsl 0 3 1 (intsR acc), .p (.int .i64 y)]], [acc.length], loopK_out (o := .ret) ?_ (by simp), ⟨0, _, 0, rfl, .inl rfl⟩, fun l h => by simp [numsV] at h⟩
      simp [fc22_b0, evKC, evK, put, Env.get, Env.keep, Opd.ev, storeD, splice, unD, mapO, D.cells, mkAgg, pures, fillD, D.renL, D.ren, locD, below, Out.ren, List.map, hc, numsV]
    | cons w r =>
      simp only at hc
      simp only [List.length_cons] at hn hb
      cases hok : (numV w).2 with
      | false =>
        rw [hok] at hc
        have hv : numsV (w :: r) acc = none := by simp [numsV, hok]
        rw [hv]
        refine ⟨[.p (.int .i64 0), .p .nils, .p (.int .i64 0)], [[.p (wordsP r)], [.p (.int .i64 k), .tsl 0 3 1 (intsR acc), .p (.int .i64 y)]], [acc.length], loopK_out (o := .ret) ?_ (by simp), ⟨0, _, 0, rfl, .inl rfl⟩, fun l h => by cases h⟩
        simp [fc22_b0, evKC, evK, put, Env.get, Env.keep, Opd.ev, storeD, splice, unD, mapO, D.cells, mkAgg, pures, fillD, D.renL, D.ren, locD, below, Out.ren, List.map, hc]
      | true =>
        rw [hok] at hc
        by_cases hm : (numV w).1 = 0
        · rw [hm] at hc
          have hv : numsV (w :: r) acc = if r = [] then some acc else none := by simp [numsV, hok, hm]
          rw [hv]
          refine ⟨[.p (.int .i64 k), .tsl 0 3 1 (intsR acc), .p (.int .i64 y)], [[.p (wordsP r)], [.p (.int .i64 k), .tsl 0 3 1 (intsR acc), .p (.int .i64 y)]], [acc.length], loopK_out (o := .ret) ?_ (by simp), ⟨k, _, y, rfl, .inr ⟨_, rfl⟩⟩, fun l h => by
            split at h <;> cases h; rfl⟩
          by_cases hr : r = []
          · subst hr
            simp [fc22_b0, evKC, evK, put, Env.get, Env.keep, Opd.ev, loadD, storeD, splice, cutAt, binD, unD, sub, cls, clsR, isW, apartRW, clash, mapO, D.cells, mkAgg, pures, D.renL, D.ren, locD, below, Out.ren, List.map, hc, len_words]
          · have hl : ((r.length : Int) == 0) = false := by
              rw [beq_eq_false_iff_ne]
              have : r.length ≠ 0 := fun h => hr (List.length_eq_zero_iff.1 h)
              omega
            simp [fc22_b0, evKC, evK, put, Env.get, Env.keep, Opd.ev, loadD, storeD, splice, cutAt, binD, unD, sub, cls, clsR, isW, apartRW, clash, mapO, D.cells, mkAgg, pures, D.renL, D.ren, locD, below, Out.ren, List.map, hc, len_words, hl, hr]
        · have hv : numsV (w :: r) acc = numsV r (acc ++ [(numV w).1]) := by simp [numsV, hok, hm]
          rw [hv]
          obtain ⟨c, bx, tk, he, h1, h2⟩ := ih r (acc ++ [(numV w).1]) (by omega) (by simp; omega)
          refine ⟨c, bx, tk, ?_, h1, h2⟩
          rw [← he]
          have hr : roomy (acc.length + 1) 8 = true := by simp [roomy]; omega
          have hl : (intsR acc).length = acc.length := by simp [intsR]
          have hm2 : ((numV w).1 == 0) = false := by simpa using hm
          have happ : intsR (acc ++ [(numV w).1]) = intsR acc ++ [.int .i64 (numV w).1] := by simp [intsR]
          generalize (numV w).1 = m at *
          refine loopK_norm ?_
          simp [fc22_b0, evKC, evK, put, Env.get, Env.keep, Opd.ev, loadD, storeD, splice, cutAt, binD, unD, mapO, D.cells, PD.cells, fillE, appendD, srcD, D.elems?, D.asPD, srcH, D.renL, D.ren, locD, below, Out.ren, List.map, hc, hm2, hr, hl, happ]

end Go.Proofs.YtneleliomipddaaDoor

/-! Splitting at one byte, in plain lists. -/
namespace Go.Proofs.YtneleliomipddaaDoor

/-- The words between the bytes c. -/
def spl (c : UInt8) : List UInt8 → List (List UInt8)
  | [] => [[]]
  | b :: r => if b = c then [] :: spl c r else match spl c r with
    | w :: ws => (b :: w) :: ws
    | [] => [[b]]

theorem spl_ne (c : UInt8) : ∀ s, spl c s ≠ []
  | [] => by simp [spl]
  | b :: r => by
    simp only [spl]
    split
    · simp
    · split <;> simp

theorem spl_none {c : UInt8} : ∀ {s : List UInt8}, c ∉ s → spl c s = [s]
  | [], _ => rfl
  | b :: r, h => by
    simp only [List.mem_cons, not_or] at h
    simp only [spl]
    rw [if_neg (fun e => h.1 e.symm), spl_none h.2]

theorem spl_app {c : UInt8} : ∀ {u v : List UInt8}, c ∉ u → spl c (u ++ c :: v) = u :: spl c v
  | [], v, _ => by simp [spl]
  | b :: r, v, h => by
    simp only [List.mem_cons, not_or] at h
    simp only [List.cons_append, spl]
    rw [if_neg (fun e => h.1 e.symm), spl_app h.2]

theorem index_split {s : List UInt8} {c : UInt8} {i : Nat} (h : Lib.indexByte s c = i) : s = s.take i ++ c :: s.drop (i + 1) ∧ c ∉ s.take i := by
  obtain ⟨h1, h2⟩ := Lib.indexByte_some h
  have hi := (List.getElem?_eq_some_iff.1 h1).1
  have hc : s[i] = c := (List.getElem?_eq_some_iff.1 h1).2
  refine ⟨?_, fun hm => ?_⟩
  · rw [← hc, List.getElem_cons_drop, List.take_append_drop]
  · obtain ⟨k, hk⟩ := List.getElem?_of_mem hm
    rw [List.getElem?_take] at hk
    split at hk
    · rename_i hki; exact h2 k hki hk
    · cases hk

theorem index_none' {s : List UInt8} {c : UInt8} (h : Lib.indexByte s c = -1) : c ∉ s := fun hm => by
  obtain ⟨k, hk⟩ := List.getElem?_of_mem hm
  exact Lib.indexByte_none h k hk

theorem index_cases (s : List UInt8) (c : UInt8) : Lib.indexByte s c = -1 ∨ ∃ i : Nat, Lib.indexByte s c = i := by
  have := Lib.indexByte_ge s c
  by_cases h : Lib.indexByte s c = -1
  · exact .inl h
  · exact .inr ⟨(Lib.indexByte s c).toNat, by omega⟩

theorem splitK_spl (c : UInt8) : ∀ (k : Nat) (s : List UInt8), Lib.count s [c] = k → Lib.splitK [c] 0 k s = spl c s := by
  intro k
  induction k with
  | zero =>
    intro s h
    rcases index_cases s c with q | ⟨i, q⟩
    · simp only [Lib.splitK]
      rw [spl_none (index_none' q)]
    · have := Lib.count_hit (s := s) (sub := [c]) (i := i) (by simp) (by rw [Lib.index_one]; exact q)
      omega
  | succ k ih =>
    intro s h
    rcases index_cases s c with q | ⟨i, q⟩
    · have := Lib.count_miss (s := s) (sub := [c]) (by rw [Lib.index_one]; exact q)
      omega
    · have hc := Lib.count_hit (s := s) (sub := [c]) (i := i) (by simp) (by rw [Lib.index_one]; exact q)
      have hi : Lib.index s [c] = (i : Int) := by rw [Lib.index_one]; exact q
      have hne : ¬ ((Lib.index s [c] == -1) = true) := fun e => by have := beq_iff_eq.1 e; omega
      simp only [List.length_cons, List.length_nil, Nat.zero_add] at hc
      simp only [Lib.splitK]
      rw [if_neg hne, hi]
      simp only [Int.toNat_natCast, Nat.add_zero, List.length_cons, List.length_nil, Nat.zero_add]
      rw [ih _ (by omega)]
      obtain ⟨h1, h2⟩ := index_split q
      conv => rhs; rw [h1]
      rw [spl_app h2]

theorem count_mk (s : List UInt8) (c : UInt8) : Lib.countB ⟨s.toArray⟩ ⟨[c].toArray⟩ = Lib.count s [c] := rfl

theorem splitB_spl (s : List UInt8) (c : UInt8) : (Lib.splitB ⟨[c].toArray⟩ 0 (Lib.countB ⟨s.toArray⟩ ⟨[c].toArray⟩) ⟨s.toArray⟩).map (fun b => b.data.toList) = spl c s := by
  have := Lib.splitB_data ⟨[c].toArray⟩ 0 (Lib.countB ⟨s.toArray⟩ ⟨[c].toArray⟩) ⟨s.toArray⟩
  rw [this, count_mk]
  exact splitK_spl c _ s rfl

theorem spl_len (c : UInt8) : ∀ s, (spl c s).length ≤ s.length + 1
  | [] => by simp [spl]
  | b :: r => by
    have := spl_len c r
    simp only [spl]
    split
    · simp; omega
    · split
      · rename_i w ws h; rw [h] at this; simp at this ⊢; omega
      · simp

theorem spl_word (c : UInt8) : ∀ s, ∀ w ∈ spl c s, w.length ≤ s.length
  | [], w, h => by simp [spl] at h; subst h; simp
  | b :: r, w, h => by
    have ih := spl_word c r
    simp only [spl] at h
    split at h
    · rcases List.mem_cons.1 h with rfl | h
      · simp
      · have := ih w h; simp; omega
    · split at h
      · rename_i v vs hv
        rcases List.mem_cons.1 h with rfl | h
        · have := ih v (by rw [hv]; simp); simp; omega
        · have := ih w (by rw [hv]; simp [h]); simp; omega
      · simp at h; subst h; simp

/-- Cutting at the first byte c. -/
def cutL (c : UInt8) : List UInt8 → List UInt8 × List UInt8 × Bool
  | [] => ([], [], false)
  | b :: r => if b = c then ([], r, true) else (b :: (cutL c r).1, (cutL c r).2.1, (cutL c r).2.2)

theorem cutL_none {c : UInt8} : ∀ {s : List UInt8}, c ∉ s → cutL c s = (s, [], false)
  | [], _ => rfl
  | b :: r, h => by
    simp only [List.mem_cons, not_or] at h
    simp only [cutL]
    rw [if_neg (fun e => h.1 e.symm), cutL_none h.2]

theorem cutL_app {c : UInt8} : ∀ {u v : List UInt8}, c ∉ u → cutL c (u ++ c :: v) = (u, v, true)
  | [], v, _ => by simp [cutL]
  | b :: r, v, h => by
    simp only [List.mem_cons, not_or] at h
    simp only [List.cons_append, cutL]
    rw [if_neg (fun e => h.1 e.symm), cutL_app h.2]

theorem cut_cutL (s : List UInt8) (c : UInt8) : Lib.cut s [c] = cutL c s := by
  rcases index_cases s c with q | ⟨i, q⟩
  · have h : Lib.index s [c] = -1 := by rw [Lib.index_one]; exact q
    rw [cutL_none (index_none' q)]
    simp [Lib.cut, h]
  · have h : Lib.index s [c] = (i : Int) := by rw [Lib.index_one]; exact q
    obtain ⟨h1, h2⟩ := index_split q
    have hl : Lib.cut s [c] = (s.take i, s.drop (i + 1), true) := by simp [Lib.cut, h]
    rw [hl]
    conv => rhs; rw [h1]
    rw [cutL_app h2]

end Go.Proofs.YtneleliomipddaaDoor

/-! What a line and a text decode to. -/
namespace Go.Proofs.YtneleliomipddaaDoor
open Go.Vs

theorem words_spl (line : List UInt8) : words line = spl 32 line := splitB_spl line 32

def slOf : List Int → Sl Int
  | [] => .amb
  | x :: l => .of (x :: l)

theorem ints_slOf (l : List Int) : intsP (slOf l) = .slice 1 (intsR l) := by cases l <;> rfl
theorem els_slOf (l : List Int) : els (slOf l) = l := by cases l <;> rfl

def stepV : List (List UInt8) → Option Stp
  | [] => none
  | w :: r =>
    if w.length = 1 ∧ 1 ≤ idxI letters ((w ++ [63]).headD 0) then
      if idxI letters ((w ++ [63]).headD 0) = 4 then match r with
        | [] => none
        | y :: r' => if (numV y).2 then (numsV r' []).map fun l => ⟨4, slOf l, (numV y).1⟩ else none
      else (numsV r []).map fun l => ⟨idxI letters ((w ++ [63]).headD 0), slOf l, 0⟩
    else none

theorem ia_words (w : List UInt8) (r : List (List UInt8)) : iaddrD none 1 (.p (wordsP (w :: r))) 0 = some (.ro [.str w] 0) := by simp [wordsP, iaddrD, D.elems?, PD.cells]
theorem sl_words (w : List UInt8) (r : List (List UInt8)) : sliceD 1 (.p (wordsP (w :: r))) (some (.p (.int .i64 1))) none = some (.p (wordsP r)) := by
  simp [wordsP, sliceD, D.elems?, boundsD, D.asNat?, sub]
  exact List.take_of_length_le (by simp)

theorem cells_words (l : List (List UInt8)) : (D.p (wordsP l)).cells = [.p (wordsP l)] := rfl
theorem cells_int (k : IntKind) (n : Int) : (D.p (.int k n)).cells = [.p (.int k n)] := rfl
theorem cells_pagg (cs : List PD) : (D.p (.agg cs)).cells = cs.map .p := rfl
theorem cells_agg (cs : List D) : (D.agg cs).cells = cs := rfl

theorem split_call (line : List UInt8) (hl : line.length < 4294967281) (H : Hp) : callD (call pg) 34 [.p (.str line), .p (.str [32])] H = some (.val (.p (wordsP (spl 32 line))), H) := by
  have : call pg 34 [.p (.str line), .p (.str [32])] ⟨[], []⟩ = some (.val (.p (wordsP (spl 32 line))), ⟨[], []⟩) := by
    refine call_lib ?_
    rw [← words_spl, ← splitV_words]
    exact if_pos ⟨hl, by simp⟩
  exact callD_pure this rfl rfl rfl rfl

/-- A step as a result. -/
def StD (d : D) : Prop := (∃ k y, d = .p (.agg [.int .i64 k, .nils, .int .i64 y])) ∨ ∃ k es y, d = .agg [.p (.int .i64 k), .tsl 0 3 1 es, .p (.int .i64 y)]

theorem stC_load {c : List D} (h : StC c) : ∃ d, cutAt c 0 (some 3) id mkAgg = some d ∧ StD d := by
  obtain ⟨k, x, y, rfl, rfl | ⟨es, rfl⟩⟩ := h
  · exact ⟨_, rfl, .inl ⟨k, y, rfl⟩⟩
  · exact ⟨_, rfl, .inr ⟨k, es, y, rfl⟩⟩

theorem step_eq (line : List UInt8) (hl : line.length ≤ 900000000) : ∃ d H', call pg 22 [.p (.str line)] ⟨[], []⟩ = some (.val (.tup [d, .p (.bool (stepV (spl 32 line)).isSome)]), H') ∧ StD d ∧
    ∀ s, stepV (spl 32 line) = some s → d = .agg [.p (.int .i64 s.k), .tsl 0 3 1 (intsR (els s.l)), .p (.int .i64 s.y)] ∧ intsP s.l = .slice 1 (intsR (els s.l)) := by
  have hsp := fun H => split_call line (by omega) H
  have hn := spl_len 32 line
  have hw := spl_word 32 line
  cases hW : spl 32 line with
  | nil => exact absurd hW (spl_ne 32 line)
  | cons w r =>
    rw [hW] at hsp hn hw
    have hwl := hw w (by simp)
    simp only [List.length_cons] at hn
    obtain ⟨c0, hc0, hidx0⟩ : ∃ c0, (w ++ [63])[0]? = some c0 ∧ (w ++ [63]).headD 0 = c0 := by
      cases w with
      | nil => exact ⟨63, rfl, rfl⟩
      | cons b w => exact ⟨b, rfl, rfl⟩
    have hidx := fun H => idx_eq c0 H
    have hcg : (w ++ [63])[0]'(by simp) = c0 := (List.getElem?_eq_some_iff.1 hc0).2
    have hstep : stepV (w :: r) = if w.length = 1 ∧ 1 ≤ idxI letters c0 then
      if idxI letters c0 = 4 then match r with
        | [] => none
        | y :: r' => if (numV y).2 then (numsV r' []).map fun l => ⟨4, slOf l, (numV y).1⟩ else none
      else (numsV r []).map fun l => ⟨idxI letters c0, slOf l, 0⟩
      else none := by rw [← hidx0]; rfl
    have hlet : ([63, 108, 100, 101, 115] : List UInt8) = letters := rfl
    generalize idxI letters c0 = k at *
    have hadd : strBin .add w [63] = some (.str (w ++ [63])) := by
      have : w.length + 1 ≤ 140737488355328 := by omega
      simp [strBin, this]
    by_cases h1 : w.length = 1
    · have hne : ((w.length : Int) != 1) = false := by simp [h1]
      have hz : ([.p (.int .i64 0), .p .nils, .p (.int .i64 0)] : List D) = [.p (.int .i64 0), .p .nils, .p (.int .i64 0)] := rfl
      by_cases hk : k < 1
      · have hv : stepV (w :: r) = none := by rw [hstep, if_neg (fun h => by omega)]
        rw [hv]
        refine ⟨.p (.agg [.int .i64 0, .nils, .int .i64 0]), ⟨[[.p (.int .i64 0), .p .nils, .p (.int .i64 0)], [.p (wordsP (w :: r))], [.p (.int .i64 k), .tsl 0 3 1 [], .p (.int .i64 0)]], [0]⟩, call_body (fc := fc22) rfl rfl rfl rfl ?_, .inl ⟨0, 0, rfl⟩, fun s h => by cases h⟩
        simp [fc22, evKC, evK, evGuard, put, Env.get, Env.keep, entry, Opd.ev, loadD, storeD, splice, cutAt, indexD, D.asInt?, binD, sub, finish, evRes, evRes1, mapO, mkAgg, pures, fillD, cells_words, cells_int, cells_pagg, hsp, ia_words, hadd, hcg, hlet, hidx, lenD_str, tokbD, tokD, hne, hk]
      · rw [if_pos ⟨h1, by omega⟩] at hstep
        -- behind the head
        have rest : ∀ (y : Int) (ws : List (List UInt8)), ws.length ≤ 900000000 → ∃ d H', finish pg.G fc22.res (blockK 0 (loopK (call pg) pg.G [2, 4, 5, 6] fc22_b0 ⟨[(2, .box 0 0), (4, .box 1 0), (5, .fn 35 [.box 1 0] []), (6, .box 2 0)], ⟨[[.p (.int .i64 0), .p .nils, .p (.int .i64 0)], [.p (wordsP ws)], [.p (.int .i64 k), .tsl 0 3 1 [], .p (.int .i64 y)]], [0]⟩⟩)) =
              some (.val (.tup [d, .p (.bool (numsV ws []).isSome)]), H') ∧ StD d ∧ ∀ l, numsV ws [] = some l → d = .agg [.p (.int .i64 k), .tsl 0 3 1 (intsR l), .p (.int .i64 y)] := by
          intro y ws hws
          obtain ⟨c, bx, tk, he, hC, hS⟩ := step_loop k y _ rfl ws.length ws [] (by omega) (by simp; omega)
          obtain ⟨d, hd, hD⟩ := stC_load hC
          have e0 : intsR [] = [] := rfl
          rw [e0] at he
          simp only [List.length_nil] at he
          refine ⟨d, ⟨c :: bx, tk⟩, ?_, hD, fun l hl => ?_⟩
          · rw [he]
            simp [fc22, finish, evRes, evRes1, mapO, Env.get, loadD, hd]
          · have hc := hS l hl
            subst hc
            cases hd
            rfl
        by_cases h4 : k = 4
        · rw [if_pos h4] at hstep
          have h4b : (k == 4) = true := by simpa using h4
          have hc := next_call r [.p (.int .i64 0), .p .nils, .p (.int .i64 0)] [[.p (.int .i64 k), .tsl 0 3 1 [], .p (.int .i64 0)]] [0]
          cases r with
          | nil =>
            simp only at hc hstep
            rw [hstep]
            refine ⟨.p (.agg [.int .i64 0, .nils, .int .i64 0]), ⟨[[.p (.int .i64 0), .p .nils, .p (.int .i64 0)], [.p (wordsP [])], [.p (.int .i64 k), .tsl 0 3 1 [], .p (.int .i64 0)]], [0]⟩, call_body (fc := fc22) rfl rfl rfl rfl ?_, .inl ⟨0, 0, rfl⟩, fun s h => by cases h⟩
            simp [fc22, evKC, evK, evGuard, put, Env.get, Env.keep, entry, Opd.ev, loadD, storeD, splice, cutAt, indexD, D.asInt?, binD, unD, sub, finish, evRes, evRes1, mapO, mkAgg, pures, fillD, cells_words, cells_int, cells_pagg, hsp, ia_words, sl_words, hadd, hcg, hlet, hidx, lenD_str, tokbD, tokD, hne, hk, h4b, hc]
          | cons v r =>
            simp only at hc hstep
            cases hok : (numV v).2 with
            | false =>
              rw [hok] at hc hstep
              simp only [Bool.false_eq_true, if_false] at hstep
              rw [hstep]
              refine ⟨.p (.agg [.int .i64 0, .nils, .int .i64 0]), ⟨[[.p (.int .i64 0), .p .nils, .p (.int .i64 0)], [.p (wordsP r)], [.p (.int .i64 k), .tsl 0 3 1 [], .p (.int .i64 0)]], [0]⟩, call_body (fc := fc22) rfl rfl rfl rfl ?_, .inl ⟨0, 0, rfl⟩, fun s h => by cases h⟩
              simp [fc22, evKC, evK, evGuard, put, Env.get, Env.keep, entry, Opd.ev, loadD, storeD, splice, cutAt, indexD, D.asInt?, binD, unD, sub, finish, evRes, evRes1, mapO, mkAgg, pures, fillD, cells_words, cells_int, cells_pagg, hsp, ia_words, sl_words, hadd, hcg, hlet, hidx, lenD_str, tokbD, tokD, hne, hk, h4b, hc]
            | true =>
              rw [hok] at hc hstep
              simp only [if_true] at hstep
              simp only [List.length_cons] at hn
              obtain ⟨d, H', hf, hD, hS⟩ := rest (numV v).1 r (by omega)
              have hsome : (stepV (w :: v :: r)).isSome = (numsV r []).isSome := by rw [hstep, Option.isSome_map]
              rw [hsome]
              refine ⟨d, H', call_body (fc := fc22) rfl rfl rfl rfl ?_, hD, fun s hs => ?_⟩
              · rw [← hf]
                simp [fc22, evKC, evK, evGuard, put, Env.get, Env.keep, entry, Opd.ev, loadD, storeD, splice, cutAt, indexD, D.asInt?, binD, unD, sub, finish, evRes, evRes1, mapO, mkAgg, pures, fillD, cells_words, cells_int, cells_pagg, hsp, ia_words, sl_words, hadd, hcg, hlet, hidx, lenD_str, tokbD, tokD, hne, hk, h4b, hc]
              · rw [hstep] at hs
                obtain ⟨l, hl, rfl⟩ := Option.map_eq_some_iff.1 hs
                rw [hS l hl]
                exact ⟨by simp only [els_slOf]; rw [h4], by simp only [els_slOf]; exact ints_slOf l⟩
        · rw [if_neg h4] at hstep
          have h4b : (k == 4) = false := by simpa using h4
          obtain ⟨d, H', hf, hD, hS⟩ := rest 0 r (by omega)
          have hsome : (stepV (w :: r)).isSome = (numsV r []).isSome := by rw [hstep, Option.isSome_map]
          rw [hsome]
          refine ⟨d, H', call_body (fc := fc22) rfl rfl rfl rfl ?_, hD, fun s hs => ?_⟩
          · rw [← hf]
            simp [fc22, evKC, evK, evGuard, put, Env.get, Env.keep, entry, Opd.ev, loadD, storeD, splice, cutAt, indexD, D.asInt?, binD, sub, finish, evRes, evRes1, mapO, mkAgg, pures, fillD, cells_words, cells_int, cells_pagg, hsp, ia_words, sl_words, hadd, hcg, hlet, hidx, lenD_str, tokbD, tokD, hne, hk, h4b]
          · rw [hstep] at hs
            obtain ⟨l, hl, rfl⟩ := Option.map_eq_some_iff.1 hs
            rw [hS l hl]
            exact ⟨by simp only [els_slOf], by simp only [els_slOf]; exact ints_slOf l⟩
    · have hv : stepV (w :: r) = none := by rw [hstep, if_neg (fun h => h1 h.1)]
      have hne : ((w.length : Int) != 1) = true := by simp; omega
      rw [hv]
      refine ⟨.p (.agg [.int .i64 0, .nils, .int .i64 0]), ⟨[[.p (.int .i64 0), .p .nils, .p (.int .i64 0)], [.p (wordsP (w :: r))], [.p (.int .i64 k), .tsl 0 3 1 [], .p (.int .i64 0)]], [0]⟩, call_body (fc := fc22) rfl rfl rfl rfl ?_, .inl ⟨0, 0, rfl⟩, fun s h => by cases h⟩
      simp [fc22, evKC, evK, evGuard, put, Env.get, Env.keep, entry, Opd.ev, loadD, storeD, splice, cutAt, indexD, D.asInt?, binD, sub, finish, evRes, evRes1, mapO, mkAgg, pures, fillD, cells_words, cells_int, cells_pagg, hsp, ia_words, hadd, hcg, hlet, hidx, lenD_str, hne, tokbD, tokD]
end Go.Proofs.YtneleliomipddaaDoor

/-! What Decode gives. -/
namespace Go.Proofs.YtneleliomipddaaDoor
open Go.Vs

theorem step_call (line : List UInt8) (hl : line.length ≤ 900000000) : ∃ d, (∀ H, callD (call pg) 22 [.p (.str line)] H = some (.val (.tup [d, .p (.bool (stepV (spl 32 line)).isSome)]), H)) ∧
    (∃ k x y, d.cells = [.p (.int .i64 k), .p x, .p (.int .i64 y)] ∧ (x = .nils ∨ ∃ es, x = .slice 1 es)) ∧ ∀ s, stepV (spl 32 line) = some s → d.cells = s.cells.map .p := by
  obtain ⟨d, H', h, hD, hS⟩ := step_eq line hl
  rcases hD with ⟨k, y, rfl⟩ | ⟨k, es, y, rfl⟩
  · refine ⟨_, fun H => callD_pure h rfl rfl rfl rfl, ⟨k, .nils, y, rfl, .inl rfl⟩, fun s hs => ?_⟩
    have := (hS s hs).1
    cases this
  · refine ⟨.agg [.p (.int .i64 k), .p (.slice 1 es), .p (.int .i64 y)], fun H => callD_pure h rfl rfl rfl rfl, ⟨k, .slice 1 es, y, rfl, .inr ⟨es, rfl⟩⟩, fun s hs => ?_⟩
    obtain ⟨h1, h2⟩ := hS s hs
    cases h1
    show ([.p (.int .i64 s.k), .p (.slice 1 (intsR (els s.l))), .p (.int .i64 s.y)] : List D) = s.cells.map D.p
    rw [← h2]; rfl

theorem cut_call (s : List UInt8) (hs : s.length < 4294967281) (H : Hp) : callD (call pg) 21 [.p (.str s), .p (.str [10])] H = some (.val (.tup [.p (.str (cutL 10 s).1), .p (.str (cutL 10 s).2.1), .p (.bool (cutL 10 s).2.2)]), H) := by
  have : call pg 21 [.p (.str s), .p (.str [10])] ⟨[], []⟩ = some (.val (.tup [.p (.str (cutL 10 s).1), .p (.str (cutL 10 s).2.1), .p (.bool (cutL 10 s).2.2)]), ⟨[], []⟩) := by
    refine call_lib ?_
    rw [← cut_cutL]
    exact if_pos hs
  exact callD_pure this rfl rfl rfl rfl

theorem cutL_len (c : UInt8) : ∀ s : List UInt8, (cutL c s).1.length ≤ s.length ∧ (s ≠ [] → (cutL c s).2.1.length < s.length)
  | [] => ⟨by simp [cutL], fun h => absurd rfl h⟩
  | b :: r => by
    obtain ⟨h1, h2⟩ := cutL_len c r
    simp only [cutL]
    split
    · exact ⟨by simp, fun _ => by simp⟩
    · refine ⟨by simp; omega, fun _ => ?_⟩
      by_cases hr : r = []
      · subst hr; simp [cutL]
      · have := h2 hr; simp; omega

/-- The steps of a text. -/
def decL : Nat → List UInt8 → Option (List Stp)
  | 0, _ => none
  | n + 1, s => if s = [] then some [] else
    if (cutL 10 s).2.2 then match stepV (spl 32 (cutL 10 s).1) with
      | some x => (decL n (cutL 10 s).2.1).map (x :: ·)
      | none => none
    else none

def decOut (es : List PD) (env : Env) (H' : Hp) : Option (List Stp) → Out × St
  | some l => (.exit 0, ⟨[(0, D.p (.str [])), (4, D.tsl 0 43 3 (es ++ l.map Stp.pd))] ++ env, H'⟩)
  | none => (.ret, ⟨[(2, D.p .nils), (3, D.p (.int .i64 340))], H'⟩)

theorem decOut_cons (es : List PD) (env : Env) (H' : Hp) (st : Stp) (o : Option (List Stp)) : decOut es env H' (o.map (st :: ·)) = decOut (es ++ [st.pd]) env H' o := by
  cases o with
  | none => rfl
  | some l => simp [decOut]

theorem dec_loop : ∀ (n : Nat) (s : List UInt8) (es : List PD), s.length < n → es.length + s.length ≤ 900000000 →
    ∃ env H', loopK (call pg) pg.G [0, 4] fc13_b0 ⟨[(0, .p (.str s)), (4, .tsl 0 43 3 es)], ⟨[], [es.length]⟩⟩ =
      some (decOut es env H' (decL n s)) := by
  intro n
  induction n with
  | zero => intro s es h _; omega
  | succ n ih =>
    intro s es hn hb
    by_cases h0 : s = []
    · subst h0
      refine ⟨[(14, .p (.bool false))], ⟨[], [es.length]⟩, ?_⟩
      have : decL (n + 1) [] = some [] := by simp [decL]
      rw [this]
      refine loopK_out (o := .exit 0) ?_ (by simp)
      simp [fc13_b0, evKC, evK, put, Env.get, Env.keep, Opd.ev, binD, strBin, mapO, D.ren, locD, below, Out.ren, List.map]
    · obtain ⟨c1, c2⟩ := cutL_len 10 s
      have c2 := c2 h0
      have hcut := fun H => cut_call s (by omega) H
      obtain ⟨d, hst, ⟨k, x, y, hcells, hx⟩, hS⟩ := step_call (cutL 10 s).1 (by omega)
      have hne : (s != []) = true := by simpa using h0
      have hdec : decL (n + 1) s = if (cutL 10 s).2.2 then match stepV (spl 32 (cutL 10 s).1) with
        | some x => (decL n (cutL 10 s).2.1).map (x :: ·)
        | none => none
        else none := by simp only [decL]; rw [if_neg h0]
      have hone : (D.p x).one = true := by rcases hx with rfl | ⟨es, rfl⟩ <;> rfl
      have hone2 : x.one = true := by rcases hx with rfl | ⟨es, rfl⟩ <;> rfl
      have hstr : strBin .neq s [] = some (.bool true) := by simp [strBin, h0]
      generalize hline : (cutL 10 s).1 = line at *
      generalize hrest : (cutL 10 s).2.1 = rest at *
      cases hf : (cutL 10 s).2.2 with
      | false =>
        rw [hf] at hcut hdec
        simp only [Bool.false_eq_true, if_false] at hdec
        rw [hdec]
        refine ⟨[], ⟨[], [es.length]⟩, loopK_out (o := .ret) ?_ (by simp)⟩
        simp [fc13_b0, evKC, evK, evGuard, put, Env.get, Env.keep, Opd.ev, storeD, splice, binD, unD, mapO, D.ren, locD, Out.ren, List.map, hstr, hcut, hst, hcells, hone]
      | true =>
        rw [hf] at hcut hdec
        simp only [if_true] at hdec
        cases hv : stepV (spl 32 line) with
        | none =>
          rw [hv] at hst hdec
          simp only at hdec
          rw [hdec]
          refine ⟨[], ⟨[], [es.length]⟩, loopK_out (o := .ret) ?_ (by simp)⟩
          simp [fc13_b0, evKC, evK, evGuard, put, Env.get, Env.keep, Opd.ev, storeD, splice, binD, unD, mapO, D.ren, locD, Out.ren, List.map, hstr, hcut, hst, hcells, hone]
        | some st =>
          rw [hv] at hst hdec
          simp only at hdec
          have hc := hS st hv
          have hc2 : d.cells = [.p (.int .i64 st.k), .p (intsP st.l), .p (.int .i64 st.y)] := hc
          obtain ⟨env, H', he⟩ := ih rest (es ++ [st.pd]) (by omega) (by simp; omega)
          refine ⟨env, H', ?_⟩
          rw [hdec, decOut_cons, ← he]
          have hr : roomy (es.length + 1) 40 = true := by simp [roomy]; omega
          refine loopK_norm ?_
          simp [fc13_b0, evKC, evK, evGuard, put, Env.get, Env.keep, Opd.ev, loadD, storeD, splice, cutAt, binD, unD, sub, mapO, PD.cells, mkAgg, pures, fillE, appendD, srcD, D.elems?, D.asPD, srcH, D.ren, locD, below, Out.ren, List.map, hstr, hcut, hst, hc2, hr, Stp.pd, Stp.cells]

def slS : List Stp → Sl Stp
  | [] => .amb
  | x :: l => .of (x :: l)

theorem stps_slS (l : List Stp) : stpsP (slS l) = .slice 3 (l.map Stp.pd) := by cases l <;> rfl
theorem els_slS (l : List Stp) : els (slS l) = l := by cases l <;> rfl

def dec (s : List UInt8) : Option (List Stp) := decL (s.length + 1) s

theorem decode_eq (s : List UInt8) (hs : s.length ≤ 2000000) (H : Hp) : callD (call pg) 13 [.p (.str s)] H =
    some (.val (match dec s with
      | some l => .tup [.p (stpsP (slS l)), .p (.int .i64 0)]
      | none => .tup [.p .nils, .p (.int .i64 340)]), H) := by
  obtain ⟨env, H', he⟩ := dec_loop (s.length + 1) s [] (by omega) (by simp; omega)
  have hlim : ¬ (2000000 : Int) < (s.length : Int) := by omega
  have e : decL (s.length + 1) s = dec s := rfl
  rw [e] at he
  simp only [List.length_nil] at he
  cases hd : dec s with
  | some l =>
    rw [hd] at he
    simp only [decOut, List.nil_append] at he
    have h : call pg 13 [.p (.str s)] ⟨[], []⟩ = some (.val (.tup [.tsl 0 43 3 (l.map Stp.pd), .p (.int .i64 0)]), H') := by
      refine call_body (fc := fc13) rfl rfl rfl rfl ?_
      simp [fc13, evKC, evK, put, Env.get, Env.keep, entry, Opd.ev, binD, lenD, finish, evRes, evRes1, mapO, hlim, tokD, he]
    have := callD_pure (H := H) (d' := .tup [.p (.slice 3 (l.map Stp.pd)), .p (.int .i64 0)]) h rfl rfl rfl rfl
    rw [this]
    simp only [stps_slS]
  | none =>
    rw [hd] at he
    simp only [decOut] at he
    have h : call pg 13 [.p (.str s)] ⟨[], []⟩ = some (.val (.tup [.p .nils, .p (.int .i64 340)]), H') := by
      refine call_body (fc := fc13) rfl rfl rfl rfl ?_
      simp [fc13, evKC, evK, put, Env.get, Env.keep, entry, Opd.ev, binD, lenD, finish, evRes, evRes1, mapO, hlim, tokD, he]
    exact callD_pure h rfl rfl rfl rfl

end Go.Proofs.YtneleliomipddaaDoor

/-! What Clone and Shift give. -/
namespace Go.Proofs.YtneleliomipddaaDoor
open Go.Vs

def fl (l : List Stp) : List D := (l.flatMap Stp.cells).map D.p

theorem fl_len (l : List Stp) : (fl l).length = 3 * l.length := by
  induction l with
  | nil => rfl
  | cons s l ih =>
    simp only [fl, List.flatMap_cons, List.map_append, List.length_append] at ih ⊢
    rw [ih]
    simp [Stp.cells]; omega

theorem flat_pd (l : List Stp) : (l.map Stp.pd).flatMap PD.cells = l.flatMap Stp.cells := by
  induction l with
  | nil => rfl
  | cons s l ih => simp only [List.map_cons, List.flatMap_cons, ih]; rfl

theorem flat_ints (l : List Int) : (l.map (PD.int .i64)).flatMap PD.cells = l.map (PD.int .i64) := by
  induction l with
  | nil => rfl
  | cons s l ih => simp only [List.map_cons, List.flatMap_cons, ih]; rfl

theorem pcells_int (k : IntKind) (n : Int) : (PD.int k n).cells = [.int k n] := rfl
theorem pcells_agg (cs : List PD) : (PD.agg cs).cells = cs := rfl
theorem pcells_pd (s : Stp) : s.pd.cells = s.cells := rfl

/-- A clone of numbers: what it is, and the variable it makes. -/
theorem clone_ints (o : Sl Int) (h : o ≠ .amb) (hb : (els o).length ≤ 140737488355328 / 8) : call pg 32 [.p (intsP o)] ⟨[], []⟩ =
    match o with
    | .of (x :: l) => some (.val (.msl 0 0 (l.length + 1) none 1), ⟨[(intsR (x :: l)).map D.p], []⟩)
    | .of [] => some (.val (.fsl 3 1 []), ⟨[], []⟩)
    | _ => some (.val (.p .nils), ⟨[], []⟩) := by
  match o with
  | .nil =>
    refine call_body (fc := fc32) rfl rfl rfl rfl ?_
    simp [fc32, intsP, slP, Sl.map, evKC, evK, put, Env.get, Env.keep, entry, Opd.ev, finish, evRes, evRes1, eqD, D.isNils]
  | .amb => exact absurd rfl h
  | .of [] =>
    refine call_body (fc := fc32) rfl rfl rfl rfl ?_
    simp [fc32, intsP, slP, Sl.map, evKC, evK, put, Env.get, Env.keep, entry, Opd.ev, finish, evRes, evRes1, PD.one, PD.cells, fillE, srcD, D.elems?, srcH, eqD, D.isNils, appendmD]
  | .of (x :: l) =>
    have hl : l.length + 1 ≤ 17592186044416 := hb
    have hr : roomy (l.length + 1) 8 = true := by simp [roomy]; omega
    have hf := flat_ints l
    refine call_body (fc := fc32) rfl rfl rfl rfl ?_
    simp [fc32, intsP, slP, Sl.map, evKC, evK, put, Env.get, Env.keep, entry, Opd.ev, finish, evRes, evRes1, PD.one, fillE, srcD, D.elems?, srcH, eqD, pcells_int, D.isNils, appendmD, hr, hf, intsR]

theorem clone_stps (o : Sl Stp) (h : o ≠ .amb) (hb : (els o).length ≤ 140737488355328 / 40) : call pg 31 [.p (stpsP o)] ⟨[], []⟩ =
    match o with
    | .of (x :: l) => some (.val (.msl 0 0 (l.length + 1) none 3), ⟨[fl (x :: l)], []⟩)
    | .of [] => some (.val (.fsl 43 3 []), ⟨[], []⟩)
    | _ => some (.val (.p .nils), ⟨[], []⟩) := by
  match o with
  | .nil =>
    refine call_body (fc := fc31) rfl rfl rfl rfl ?_
    simp [fc31, stpsP, slP, Sl.map, evKC, evK, put, Env.get, Env.keep, entry, Opd.ev, finish, evRes, evRes1, eqD, D.isNils]
  | .amb => exact absurd rfl h
  | .of [] =>
    refine call_body (fc := fc31) rfl rfl rfl rfl ?_
    simp [fc31, stpsP, slP, Sl.map, evKC, evK, put, Env.get, Env.keep, entry, Opd.ev, finish, evRes, evRes1, PD.one, PD.cells, fillE, srcD, D.elems?, srcH, eqD, D.isNils, appendmD]
  | .of (x :: l) =>
    have hl : l.length + 1 ≤ 3518437208883 := hb
    have hr : roomy (l.length + 1) 40 = true := by simp [roomy]; omega
    have hf := flat_pd l
    refine call_body (fc := fc31) rfl rfl rfl rfl ?_
    simp [fc31, stpsP, slP, Sl.map, evKC, evK, put, Env.get, Env.keep, entry, Opd.ev, finish, evRes, evRes1, PD.one, fillE, srcD, D.elems?, srcH, eqD, pcells_agg, pcells_pd, D.isNils, appendmD, hr, hf, fl]

end Go.Proofs.YtneleliomipddaaDoor

/-! What Shift gives. -/
namespace Go.Proofs.YtneleliomipddaaDoor
open Go.Vs

theorem getElem?_mid {α : Type} (us : List α) (x : α) (bs : List α) : (us ++ x :: bs)[us.length]? = some x := by simp

theorem splice_mid (us : List D) (x : D) (bs : List D) (y : D) : splice (us ++ x :: bs) us.length [y] = us ++ y :: bs := by
  simp [splice]

theorem cutAt_mid {α : Type} (us : List α) (x : α) (bs : List α) (one : α → D) (many : List α → D) : cutAt (us ++ x :: bs) us.length none one many = some (one x) := by
  simp [cutAt]

/-- A literal, moved. -/
def shl (m x : Int) : Int := if 0 < x then IntKind.i64.wrap (x + m) else if x < 0 then IntKind.i64.wrap (x - m) else x

theorem sh_loop (m : Int) (e5 e6 e13 e14 e15 : D) (A B : List D) (n : Nat) (hn : n ≤ 1000000000000000) : ∀ (r d : List Int), d.length + r.length = n →
    loopK (call pg) pg.G [1, 5, 6, 8, 13, 14, 15, 23, 24, 25] fc19_b0 ⟨[(1, .p (.int .i64 m)), (5, e5), (6, e6), (8, .msl 2 0 n none 1), (13, e13), (14, e14), (15, e15), (23, .msl 2 0 n none 1), (24, .p (.int .i64 n)), (25, .p (.int .i64 d.length))], ⟨[A, B, (intsR (d.map (shl m)) ++ intsR r).map D.p], []⟩⟩ =
      some (.exit 2, ⟨[(1, .p (.int .i64 m)), (5, e5), (6, e6), (8, .msl 2 0 n none 1), (13, e13), (14, e14), (15, e15), (23, .msl 2 0 n none 1), (24, .p (.int .i64 n)), (25, .p (.int .i64 n)), (26, .p (.bool false))], ⟨[A, B, (intsR ((d ++ r).map (shl m))).map D.p], []⟩⟩) := by
  intro r
  induction r with
  | nil =>
    intro d hd
    simp at hd
    subst hd
    refine loopK_out (o := .exit 2) ?_ (by simp)
    simp [fc19_b0, evKC, evK, put, Env.get, Env.keep, Opd.ev, binD, List.map, intsR]
  | cons x r ih =>
    intro d hd
    have he := ih (d ++ [x]) (by simpa using by simp at hd; omega)
    simp only [List.append_assoc, List.singleton_append, List.length_append] at he
    rw [← he]
    have hlt : (d.length : Int) < (n : Int) := by simp at hd; omega
    have hg : (List.map D.p (intsR (d.map (shl m))) ++ List.map D.p (intsR (x :: r)))[d.length]? = some (.p (.int .i64 x)) := by
      simp [intsR]
    have hs : ∀ y, splice (List.map D.p (intsR (d.map (shl m))) ++ List.map D.p (intsR (x :: r))) d.length [.p (.int .i64 y)] = List.map D.p (intsR (d.map (shl m))) ++ .p (.int .i64 y) :: List.map D.p (intsR r) := by
      intro y
      have := splice_mid (List.map D.p (intsR (d.map (shl m)))) (.p (.int .i64 x)) (List.map D.p (intsR r)) (.p (.int .i64 y))
      simpa [intsR] using this
    have hle : d.length + 1 ≤ (intsR (d.map (shl m))).length + (intsR (x :: r)).length := by simp [intsR]
    have happ : ∀ y, intsR (d.map (shl m) ++ [y]) = intsR (d.map (shl m)) ++ [.int .i64 y] := by intro y; simp [intsR]
    have hi : IntKind.i64.wrap ((d.length : Int) + 1) = (d.length : Int) + 1 := wrap64 (by omega) (by omega)
    have hc : intsR (x :: r) = .int .i64 x :: intsR r := rfl
    clear ih he
    refine loopK_norm ?_
    by_cases h0 : 0 < x
    · have e : shl m x = IntKind.i64.wrap (x + m) := by simp [shl, h0]
      simp [fc19_b0, evKC, evK, put, Env.get, Env.keep, Opd.ev, loadD, storeD, cutAt, D.asInt?, binD, iaddrD, D.cells, D.one, PD.one, Int.toNat_natCast, List.map, hlt, hg, hs, hle, happ, hi, h0, e]
    · by_cases h1 : x < 0
      · have e : shl m x = IntKind.i64.wrap (x - m) := by simp [shl, h0, h1]
        simp [fc19_b0, evKC, evK, put, Env.get, Env.keep, Opd.ev, loadD, storeD, cutAt, D.asInt?, binD, iaddrD, D.cells, D.one, PD.one, Int.toNat_natCast, List.map, hlt, hg, hs, hle, happ, hi, h0, h1, e]
      · have e : shl m x = x := by simp [shl, h0, h1]
        have hg' : (List.map D.p (intsR (d.map (shl m))) ++ D.p (.int .i64 x) :: List.map D.p (intsR r))[d.length]? = some (.p (.int .i64 x)) := by simpa [hc] using hg
        simp [fc19_b0, evKC, evK, put, Env.get, Env.keep, Opd.ev, loadD, cutAt, D.asInt?, binD, iaddrD, Int.toNat_natCast, List.map, hlt, hg', happ, hi, h0, h1, e, hc]

theorem sh_zero (m : Int) (e5 e6 e8 e13 e14 e15 e23 : D) (bx : List (List D)) :
    loopK (call pg) pg.G [1, 5, 6, 8, 13, 14, 15, 23, 24, 25] fc19_b0 ⟨[(1, .p (.int .i64 m)), (5, e5), (6, e6), (8, e8), (13, e13), (14, e14), (15, e15), (23, e23), (24, .p (.int .i64 0)), (25, .p (.int .i64 0))], ⟨bx, []⟩⟩ =
      some (.exit 2, ⟨[(1, .p (.int .i64 m)), (5, e5), (6, e6), (8, e8), (13, e13), (14, e14), (15, e15), (23, e23), (24, .p (.int .i64 0)), (25, .p (.int .i64 0)), (26, .p (.bool false))], ⟨bx, []⟩⟩) := by
  refine loopK_out (o := .exit 2) ?_ (by simp)
  simp [fc19_b0, evKC, evK, put, Env.get, Env.keep, Opd.ev, binD, List.map]

def shS (m : Int) (s : Stp) : Stp := ⟨s.k, s.l.map (shl m), s.y⟩

theorem fl_app (a b : List Stp) : fl (a ++ b) = fl a ++ fl b := by simp [fl]
theorem fl_cons (s : Stp) (b : List Stp) : fl (s :: b) = s.cells.map D.p ++ fl b := by simp [fl]

theorem renL_ps (f g : Nat → Option Nat) (ps : List PD) : D.renL f g (ps.map D.p) = some (ps.map D.p) := by
  induction ps with
  | nil => rfl
  | cons x ps ih => simp [D.renL, D.ren, ih]

theorem frz_ps (k : Nat) (H : Hp) (ps : List PD) : (ps.map D.p).map (D.frz k H 8) = ps.map D.p := by
  induction ps with
  | nil => rfl
  | cons x ps ih => rw [List.map_cons, List.map_cons, ih]; rfl

theorem locz_one (m : Int) (n i : Nat) (z : Int) (A : List D) (rest : List (List D)) (ps : List PD) (hA : A.map (D.frz 1 ⟨A :: rest, []⟩ 8) = ps.map D.p) :
    loczK 1 0 (some (.norm, ⟨[(1, .p (.int .i64 m)), (5, .msl 0 0 n none 3), (13, .msl 0 0 n none 3), (14, .p (.int .i64 n)), (15, .p (.int .i64 z))], ⟨A :: rest, []⟩⟩)) =
      some (.norm, ⟨[(1, .p (.int .i64 m)), (5, .msl 0 0 n none 3), (13, .msl 0 0 n none 3), (14, .p (.int .i64 n)), (15, .p (.int .i64 z))], ⟨[ps.map D.p], []⟩⟩) := by
  have f0 : ∀ H n, D.frz 1 H 8 (.msl 0 0 n none 3) = .msl 0 0 n none 3 := fun _ _ => rfl
  have fp : ∀ H x, D.frz 1 H 8 (.p x) = .p x := fun _ _ => rfl
  simp [loczK, locD, sealS, hA, renL_ps, mapO, Out.frz, Out.ren, f0, fp, D.ren, below]

theorem chunks_one : ∀ (l : List PD), chunks 1 l.length l = l
  | [] => rfl
  | c :: l => by simp [chunks, chunks_one l]

theorem asPDL_ps (ps : List PD) : D.asPDL (ps.map D.p) = some ps := by
  induction ps with
  | nil => rfl
  | cons x ps ih => simp [D.asPDL, D.asPD, ih]

theorem frz_msl (A B : List D) (ps : List PD) : D.frz 1 ⟨[A, B, ps.map D.p], []⟩ 8 (.msl 2 0 ps.length none 1) = .p (.slice 1 ps) := by
  have h1 : sub (ps.map D.p) 0 (0 + ps.length * 1) = ps.map D.p := by simp [sub, List.take_of_length_le]
  have h2 : (ps.map D.p).map (D.frz 1 ⟨[A, B, ps.map D.p], []⟩ 7) = ps.map D.p := by
    rw [List.map_map]; exact List.map_congr_left fun _ _ => rfl
  rw [D.frz]
  simp only [show (1 ≤ 2) = True from by simp, if_true, List.getElem?_cons_succ, List.getElem?_cons_zero, h1, h2, asPDL_ps, chunks_one]
  simp

theorem sh_step (m : Int) (n : Nat) (hn : n ≤ 1000000000000000) (d r : List Stp) (s : Stp) (hd : d.length + r.length + 1 = n) (hs : s.l ≠ .amb) (hl : (els s.l).length ≤ 1000000000000) (X : Out × St) 
    (hX : loopK (call pg) pg.G [1, 5, 13, 14, 15] fc19_b1 ⟨[(1, .p (.int .i64 m)), (5, .msl 0 0 n none 3), (13, .msl 0 0 n none 3), (14, .p (.int .i64 n)), (15, .p (.int .i64 (d.length + 1)))], ⟨[fl (d ++ [shS m s]) ++ fl r], []⟩⟩ = some X) :
    loopK (call pg) pg.G [1, 5, 13, 14, 15] fc19_b1 ⟨[(1, .p (.int .i64 m)), (5, .msl 0 0 n none 3), (13, .msl 0 0 n none 3), (14, .p (.int .i64 n)), (15, .p (.int .i64 d.length))], ⟨[fl d ++ fl (s :: r)], []⟩⟩ = some X := by
  have hlt : (d.length : Int) < (n : Int) := by omega
  have hi : IntKind.i64.wrap ((d.length : Int) + 1) = (d.length : Int) + 1 := wrap64 (by omega) (by omega)
  have hg : ∀ one many, cutAt (fl d ++ fl (s :: r)) (d.length * 3) (some 3) one many = some (many (s.cells.map D.p)) := by
    intro one many
    have h1 : d.length * 3 = (fl d).length := by rw [fl_len]; omega
    have h3 : (s.cells.map D.p).length = 3 := rfl
    rw [fl_cons, h1]
    simp [cutAt, sub, Stp.cells, List.take_length_add_append]
  have hcell : s.cells.map D.p = [.p (.int .i64 s.k), .p (intsP s.l), .p (.int .i64 s.y)] := rfl
  have hs3 : ∀ x y z x' y' z' : D, splice [x, y, z] 0 [x', y', z'] = [x', y', z'] := fun _ _ _ _ _ _ => rfl
  have hc3 : ∀ (x y z : D) (many : List D → D), cutAt [x, y, z] 1 none id many = some y := fun _ _ _ _ => rfl
  have hsp : ∀ x : D, splice (fl d ++ fl (s :: r)) (d.length * 3 + 1) [x] = fl d ++ [.p (.int .i64 s.k), x, .p (.int .i64 s.y)] ++ fl r := by
    intro x
    have h1 : fl d ++ fl (s :: r) = (fl d ++ [D.p (.int .i64 s.k)]) ++ D.p (intsP s.l) :: (.p (.int .i64 s.y) :: fl r) := by rw [fl_cons, hcell]; simp
    have h2 : d.length * 3 + 1 = (fl d ++ [D.p (.int .i64 s.k)]).length := by simp [fl_len]; omega
    rw [h1, h2, splice_mid]
    simp
  have hle : d.length * 3 + 1 + 1 ≤ 3 * d.length + 3 * (r.length + 1) := by omega
  rw [← hX]
  obtain ⟨k, l, y⟩ := s
  have hcl := clone_ints l hs (by simp only at hl; omega)
  simp only at hcell hs hl hsp
  cases l with
  | amb => exact absurd rfl hs
  | nil =>
    simp only at hcl
    have hz : ∀ rest z, _ := fun rest z => locz_one m n 0 z (fl d ++ .p (.int .i64 k) :: .p .nils :: .p (.int .i64 y) :: fl r) rest ((d.flatMap Stp.cells) ++ .int .i64 k :: .nils :: .int .i64 y :: (r.flatMap Stp.cells)) (by
      rw [show fl d ++ .p (.int .i64 k) :: .p .nils :: .p (.int .i64 y) :: fl r = ((d.flatMap Stp.cells) ++ .int .i64 k :: .nils :: .int .i64 y :: (r.flatMap Stp.cells)).map D.p from by simp [fl]]
      exact frz_ps _ _ _)
    refine loopK_norm ?_
    simp [fc19_b1, hz, -loczK_some, evKC, evK, put, Env.get, Env.keep, Opd.ev, loadD, storeD, D.asInt?, binD, lenD, iaddrD, mapO, D.cells, D.refsL, D.refs, D.toksL, D.toks, mkAgg, pures, Int.toNat_natCast, callD, reach, boxRefs, boxToks, ins, nodupB, idx, D.renL, D.ren, back, firstN, putAll, Res.ren, List.map, hlt, hi, hg, hcell, hs3, hc3, hsp, hcl, fl_len, sh_zero, hle]
    simp [fl, shS, Sl.map, Stp.cells, intsP, slP]
  | of l => cases l with
    | nil =>
      simp only at hcl
      have hz : ∀ rest z, _ := fun rest z => locz_one m n 0 z (fl d ++ .p (.int .i64 k) :: .fsl 3 1 [] :: .p (.int .i64 y) :: fl r) rest ((d.flatMap Stp.cells) ++ .int .i64 k :: .emp 1 :: .int .i64 y :: (r.flatMap Stp.cells)) (by
        have h1 : ∀ H, (fl d).map (D.frz 1 H 8) = fl d := fun H => frz_ps _ _ _
        have h2 : ∀ H, (fl r).map (D.frz 1 H 8) = fl r := fun H => frz_ps _ _ _
        rw [List.map_append, List.map_cons, List.map_cons, List.map_cons, h1, h2]
        simp [fl, D.frz])
      refine loopK_norm ?_
      simp [fc19_b1, hz, -loczK_some, evKC, evK, put, Env.get, Env.keep, Opd.ev, loadD, storeD, D.asInt?, binD, lenD, iaddrD, mapO, D.cells, D.refsL, D.refs, D.toksL, D.toks, mkAgg, pures, D.elems?, Int.toNat_natCast, callD, reach, boxRefs, boxToks, ins, nodupB, idx, D.renL, D.ren, back, firstN, putAll, Res.ren, List.map, hlt, hi, hg, hcell, hs3, hc3, hsp, hcl, fl_len, sh_zero, hle]
      simp [fl, shS, Sl.map, Stp.cells, intsP, slP]
    | cons x l =>
      simp only at hcl
      simp only [els, List.length_cons] at hl
      have hsl := fun e5 e6 e13 e14 e15 A B => sh_loop m e5 e6 e13 e14 e15 A B (l.length + 1) (by omega) (x :: l) [] (by simp)
      have hren : ∀ f g, D.renL f g (l.map (D.p ∘ PD.int .i64)) = some (l.map (D.p ∘ PD.int .i64)) := by
        intro f g
        have := renL_ps f g (l.map (PD.int .i64))
        simpa using this
      simp only [List.length_nil, List.map_nil, List.nil_append, intsR, List.map_cons, List.map_map, Int.natCast_add, Int.cast_ofNat_Int] at hsl
      refine loopK_norm ?_
      simp [fc19_b1, hsl, -loczK_some, evKC, evK, put, Env.get, Env.keep, Opd.ev, loadD, storeD, D.asInt?, binD, lenD, iaddrD, mapO, D.cells, D.refsL, D.refs, D.toksL, D.toks, mkAgg, pures, Int.toNat_natCast, callD, reach, boxRefs, boxToks, ins, nodupB, idx, D.renL, D.ren, back, firstN, putAll, Res.ren, List.map, hlt, hi, hg, hcell, hs3, hc3, hsp, hcl, fl_len, hle, intsR, hren]
      have hlen : (intsR ((x :: l).map (shl m))).length = l.length + 1 := by simp [intsR]
      have hfz := fun A B => frz_msl A B (intsR ((x :: l).map (shl m)))
      rw [hlen] at hfz
      have hz : ∀ B z, _ := fun B z => locz_one m n 0 z (fl d ++ .p (.int .i64 k) :: .msl 2 0 (l.length + 1) none 1 :: .p (.int .i64 y) :: fl r) [B, (intsR ((x :: l).map (shl m))).map D.p] ((d.flatMap Stp.cells) ++ .int .i64 k :: .slice 1 (intsR ((x :: l).map (shl m))) :: .int .i64 y :: (r.flatMap Stp.cells)) (by
        have h1 : ∀ H, (fl d).map (D.frz 1 H 8) = fl d := fun H => frz_ps _ _ _
        have h2 : ∀ H, (fl r).map (D.frz 1 H 8) = fl r := fun H => frz_ps _ _ _
        rw [List.map_append, h1, show ∀ (f : D → D) a b c (t : List D), (a :: b :: c :: t).map f = f a :: f b :: f c :: t.map f from fun _ _ _ _ _ => rfl, h2, hfz]
        simp [fl, D.frz, intsR])
      simp only [intsR, List.map_cons, List.map_map] at hz
      rw [hz]
      simp [fl, shS, Sl.map, Stp.cells, intsP, slP]

end Go.Proofs.YtneleliomipddaaDoor

/-! What Shift gives: all rounds. -/
namespace Go.Proofs.YtneleliomipddaaDoor
open Go.Vs

theorem locz_exit (m : Int) (n : Nat) (z : Int) (ps : List PD) :
    loczK 1 0 (some (.exit 0, ⟨[(1, .p (.int .i64 m)), (5, .msl 0 0 n none 3), (13, .msl 0 0 n none 3), (14, .p (.int .i64 n)), (15, .p (.int .i64 z)), (16, .p (.bool false))], ⟨[ps.map D.p], []⟩⟩)) =
      some (.exit 0, ⟨[(1, .p (.int .i64 m)), (5, .msl 0 0 n none 3), (13, .msl 0 0 n none 3), (14, .p (.int .i64 n)), (15, .p (.int .i64 z)), (16, .p (.bool false))], ⟨[ps.map D.p], []⟩⟩) := by
  have f0 : ∀ H n, D.frz 1 H 8 (.msl 0 0 n none 3) = .msl 0 0 n none 3 := fun _ _ => rfl
  have fp : ∀ H x, D.frz 1 H 8 (.p x) = .p x := fun _ _ => rfl
  have hA : ∀ H, List.map (D.frz 1 H 8 ∘ D.p) ps = ps.map D.p := fun H => by rw [← List.map_map]; exact frz_ps _ _ _
  simp [loczK, locD, sealS, hA, renL_ps, mapO, Out.frz, Out.ren, f0, fp, D.ren, below]

/-- Steps whose clones are plain. -/
structure Cl (s : Stp) : Prop where
  a : s.l ≠ .amb
  n : (els s.l).length ≤ 1000000000000

theorem shift_loop (m : Int) (n : Nat) (hn : n ≤ 1000000000000) : ∀ (r d : List Stp), d.length + r.length = n → (∀ s ∈ r, Cl s) →
    loopK (call pg) pg.G [1, 5, 13, 14, 15] fc19_b1 ⟨[(1, .p (.int .i64 m)), (5, .msl 0 0 n none 3), (13, .msl 0 0 n none 3), (14, .p (.int .i64 n)), (15, .p (.int .i64 d.length))], ⟨[fl d ++ fl r], []⟩⟩ =
      some (.exit 0, ⟨[(1, .p (.int .i64 m)), (5, .msl 0 0 n none 3), (13, .msl 0 0 n none 3), (14, .p (.int .i64 n)), (15, .p (.int .i64 n)), (16, .p (.bool false))], ⟨[fl (d ++ r.map (shS m))], []⟩⟩) := by
  intro r
  induction r with
  | nil =>
    intro d hd _
    simp only [List.length_nil, Nat.add_zero] at hd
    subst hd
    have hz := locz_exit m d.length d.length (d.flatMap Stp.cells)
    refine loopK_out (o := .exit 0) ?_ (by simp)
    simp only [fl, List.flatMap_nil, List.map_nil, List.append_nil]
    simp [fc19_b1, hz, -loczK_some, evKC, evK, put, Env.get, Env.keep, Opd.ev, binD, List.map]
  | cons s r ih =>
    intro d hd hs
    have h1 := ih (d ++ [shS m s]) (by simp at hd ⊢; omega) (fun t ht => hs t (List.mem_cons_of_mem _ ht))
    simp only [List.length_append, List.length_singleton, List.append_assoc, List.singleton_append, Int.natCast_add, Int.natCast_one] at h1
    have hc := hs s (List.mem_cons_self ..)
    exact sh_step m n (by omega) d r s (by simp at hd; omega) hc.a hc.n _ (by simpa using h1)

theorem chunks_three : ∀ (l : List Stp), chunks 3 l.length (l.flatMap Stp.cells) = l.map Stp.pd
  | [] => rfl
  | c :: l => by
    have := chunks_three l
    simp only [List.flatMap_cons, List.length_cons, chunks, List.map_cons]
    have h : List.drop 3 (c.cells ++ l.flatMap Stp.cells) = l.flatMap Stp.cells := rfl
    rw [h, this]
    rfl

theorem frz_msl3 (l : List Stp) (H : Hp) (hH : H.bx = [fl l]) : D.frz 0 H 8 (.msl 0 0 l.length none 3) = .p (.slice 3 (l.map Stp.pd)) := by
  have h1 : sub (fl l) 0 (0 + l.length * 3) = fl l := by
    have := fl_len l
    simp [sub]; rw [List.take_of_length_le]; omega
  have h2 : (fl l).map (D.frz 0 H 7) = fl l := by
    unfold fl; rw [List.map_map]; exact List.map_congr_left fun _ _ => rfl
  have h3 : D.asPDL (fl l) = some (l.flatMap Stp.cells) := asPDL_ps _
  have h4 : 0 + l.length * 3 ≤ (fl l).length := by rw [fl_len]; omega
  rw [D.frz]
  simp only [hH, Nat.zero_le, if_true, List.getElem?_cons_zero, h1, h2, h3, chunks_three, h4]
  simp

theorem sh_none (m : Int) (v v' : D) (hv : (v = .p .nils ∧ v' = .p .nils) ∨ (v = .fsl 43 3 [] ∧ v' = .p (.emp 3))) :
    loopK (call pg) pg.G [1, 5, 13, 14, 15] fc19_b1 ⟨[(1, .p (.int .i64 m)), (5, v), (13, v), (14, .p (.int .i64 0)), (15, .p (.int .i64 0))], ⟨[], []⟩⟩ =
      some (.exit 0, ⟨[(1, .p (.int .i64 m)), (5, v'), (13, v'), (14, .p (.int .i64 0)), (15, .p (.int .i64 0)), (16, .p (.bool false))], ⟨[], []⟩⟩) := by
  refine loopK_out (o := .exit 0) ?_ (by simp)
  rcases hv with ⟨rfl, rfl⟩ | ⟨rfl, rfl⟩ <;> simp [fc19_b1, evKC, evK, put, Env.get, Env.keep, Opd.ev, binD, mapO, mkAgg, D.ren, locD, Out.ren, List.map, sealS, D.frz, Out.frz]

theorem shift_eq (o : Sl Stp) (m : Int) (h : o ≠ .amb) (hc : ∀ s ∈ els o, Cl s) (hb : (els o).length ≤ 1000000000000) :
    call pg 19 [.p (stpsP o), .p (.int .i64 m)] ⟨[], []⟩ = some (.val (.p (stpsP (o.map (shS m)))), ⟨[], []⟩) := by
  cases o with
  | amb => exact absurd rfl h
  | nil =>
    have hcl := clone_stps .nil (by simp) (by simp [els])
    simp only at hcl
    refine call_frz (fc := fc19) rfl rfl rfl rfl (r := (.val (.p .nils), ⟨[], []⟩)) ?_ ?_
    · simp [fc19, evKC, evK, put, Env.get, Env.keep, entry, Opd.ev, lenD, finish, evRes, evRes1, mapO, D.refsL, D.refs, D.toksL, D.toks, callD, reach, boxToks, ins, nodupB, idx, D.renL, D.ren, back, firstN, putAll, Res.ren, List.map, hcl, sh_none m _ _ (.inl ⟨rfl, rfl⟩)]
    · rfl
  | of l => cases l with
    | nil =>
      have hcl := clone_stps (.of []) (by simp) (by simp [els])
      simp only at hcl
      refine call_frz (fc := fc19) rfl rfl rfl rfl (r := (.val (.p (.emp 3)), ⟨[], []⟩)) ?_ ?_
      · simp [fc19, evKC, evK, put, Env.get, Env.keep, entry, Opd.ev, lenD, finish, evRes, evRes1, mapO, D.refsL, D.refs, D.toksL, D.toks, D.elems?, callD, reach, boxToks, ins, nodupB, idx, D.renL, D.ren, back, firstN, putAll, Res.ren, List.map, hcl, sh_none m _ _ (.inr ⟨rfl, rfl⟩)]
      · rfl
    | cons s l =>
      simp only [els] at hb hc
      have hcl := clone_stps (.of (s :: l)) (by simp) (by simp only [els]; omega)
      simp only at hcl
      have hl := shift_loop m (l.length + 1) (by simpa using hb) (s :: l) [] (by simp) hc
      simp only [List.length_nil, Int.natCast_add, Int.cast_ofNat_Int, List.nil_append] at hl
      have hren : ∀ f g, D.renL f g (fl (s :: l)) = some (fl (s :: l)) := fun f g => renL_ps f g _
      have h0 : fl [] ++ fl (s :: l) = fl (s :: l) := rfl
      rw [h0] at hl
      refine call_frz (fc := fc19) rfl rfl rfl rfl (r := (.val (.msl 0 0 (l.length + 1) none 3), ⟨[fl ((s :: l).map (shS m))], []⟩)) ?_ ?_
      · simp [fc19, evKC, evK, put, Env.get, Env.keep, entry, Opd.ev, lenD, finish, evRes, evRes1, mapO, D.refsL, D.refs, D.toksL, D.toks, callD, reach, boxToks, ins, nodupB, idx, D.renL, D.ren, back, firstN, putAll, Res.ren, List.map, hcl, hl, hren]
      · have hf := frz_msl3 ((s :: l).map (shS m)) ⟨[fl ((s :: l).map (shS m))], []⟩ rfl
        simp only [List.length_map, List.length_cons, List.map_cons] at hf
        simp [sealF, Res.frz, hf, mapO, Res.ren, D.ren, stpsP, slP, Sl.map]

end Go.Proofs.YtneleliomipddaaDoor
