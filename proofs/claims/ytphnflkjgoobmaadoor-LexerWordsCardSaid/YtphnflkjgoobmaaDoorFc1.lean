/-
  The functions of the cut, as the evaluator's (printed by a program of ours), each checked against the program's.
-/
import Derived.Test.YtphnflkjgoobmaaDoorProg
import Derived.Test.YtphnflkjgoobmaaDoorFwT
import Derived.KernelRfl
namespace Go.Proofs.YtphnflkjgoobmaaDoor
open Go.Vs

/-- gosem.cut.init -/
def fc2 : FC where
  nt := 1
  np := 0
  res := []
  body :=
    (.region [] [
        ⟨some 0, .call (.c (.fn 1 [] [])) [], none⟩])

theorem ok2 : FOk Tryd.prog 2 fc2 := FOk.of Tryd.func2 (by kernel_rfl)

/-- armature/armaturelaw01.LexerMatchesReference -/
def fc3 : FC where
  nt := 42
  np := 1
  res := [.t 2]
  body :=
    (.seq
      (.region [0] [
          ⟨some 2, .move (.c (.p (.bool false))), none⟩])
      (.seq
        (.region [0, 3] [
            ⟨some 11, .call (.c (.fn 11 [] [])) [], none⟩,
            ⟨some 3, .move (.t 11), none⟩])
        (.seq
          (.region [3, 4] [
              ⟨some 12, .move (.t 0), none⟩,
              ⟨some 13, .call (.c (.fn 12 [] [])) [(.t 12)], none⟩,
              ⟨some 4, .move (.t 13), none⟩])
          (.seq
            (.region [3, 4, 5, 6, 7] [
                ⟨some 15, .move (.t 4), none⟩,
                ⟨some 16, .call (.c (.fn 13 [] [])) [(.t 15)], none⟩,
                ⟨some 14, .move (.t 16), none⟩,
                ⟨some 17, .extract (.t 14) 0, none⟩,
                ⟨some 18, .extract (.t 14) 1, none⟩,
                ⟨some 19, .extract (.t 14) 2, none⟩,
                ⟨some 5, .move (.t 17), none⟩,
                ⟨some 6, .move (.t 18), none⟩,
                ⟨some 7, .move (.t 19), none⟩])
            (.seq
              (.region [3, 5, 6, 7, 8, 9, 10] [
                  ⟨some 21, .move (.t 4), none⟩,
                  ⟨some 22, .call (.c (.fn 14 [] [])) [(.t 21)], none⟩,
                  ⟨some 20, .move (.t 22), none⟩,
                  ⟨some 23, .extract (.t 20) 0, none⟩,
                  ⟨some 24, .extract (.t 20) 1, none⟩,
                  ⟨some 25, .extract (.t 20) 2, none⟩,
                  ⟨some 8, .move (.t 23), none⟩,
                  ⟨some 9, .move (.t 24), none⟩,
                  ⟨some 10, .move (.t 25), none⟩])
              (.seq
                (.region [2] [
                    ⟨some 26, .move (.t 3), none⟩,
                    ⟨some 27, .move (.t 26), none⟩,
                    ⟨some 28, .move (.t 5), some (27, true)⟩,
                    ⟨some 29, .move (.t 8), some (27, true)⟩,
                    ⟨some 30, .call (.c (.fn 15 [] [])) [(.t 28), (.t 29)], some (27, true)⟩,
                    ⟨some 31, .pick (.t 27) (.t 30) (.c (.p (.bool false))), none⟩,
                    ⟨some 32, .move (.t 31), none⟩,
                    ⟨some 33, .move (.t 6), some (32, true)⟩,
                    ⟨some 34, .move (.t 9), some (32, true)⟩,
                    ⟨some 35, .bin .eql (.t 33) (.t 34), some (32, true)⟩,
                    ⟨some 36, .pick (.t 32) (.t 35) (.c (.p (.bool false))), none⟩,
                    ⟨some 37, .move (.t 36), none⟩,
                    ⟨some 38, .move (.t 7), some (37, true)⟩,
                    ⟨some 39, .move (.t 10), some (37, true)⟩,
                    ⟨some 40, .bin .eql (.t 38) (.t 39), some (37, true)⟩,
                    ⟨some 41, .pick (.t 37) (.t 40) (.c (.p (.bool false))), none⟩,
                    ⟨some 2, .move (.t 41), none⟩])
                .ret))))))

theorem ok3 : FOk Tryd.prog 3 fc3 := FOk.of Tryd.func3 (by kernel_rfl)

/-- armature/armaturelaw01.LexerOffsets -/
def fc4_b0 : SC :=
    (.loc
      (.seq
        (.seq
          (.region [3, 4, 5, 7, 8, 9, 46] [
              ⟨some 43, .move (.t 9), none⟩,
              ⟨some 44, .move (.t 5), none⟩,
              ⟨some 45, .len 1 (.t 44), none⟩,
              ⟨some 46, .bin .lss (.t 43) (.t 45), none⟩])
          (.cond (.t 46)
            .skip
            (.exit 0)))
        (.seq
          (.block 1
            (.seq
              (.region [3, 4, 5, 7, 8, 9, 10] [
                  ⟨some 49, .move (.t 5), none⟩,
                  ⟨some 50, .move (.t 9), none⟩,
                  ⟨some 51, .iaddr none 3 (.t 49) (.t 50), none⟩,
                  ⟨some 52, .load (some 3) (.t 51), none⟩,
                  ⟨some 10, .alloc [.int .i64 0, .str [], .int .i64 0], none⟩,
                  ⟨none, .store 3 (.t 10) (.t 52), none⟩])
              (.seq
                (.region [3, 4, 5, 7, 8, 9, 10, 11] [
                    ⟨some 53, .faddr (.t 10) 2, none⟩,
                    ⟨some 54, .load none (.t 53), none⟩,
                    ⟨some 55, .faddr (.t 10) 1, none⟩,
                    ⟨some 56, .load none (.t 55), none⟩,
                    ⟨some 57, .len 0 (.t 56), none⟩,
                    ⟨some 58, .bin .add (.t 54) (.t 57), none⟩,
                    ⟨some 11, .move (.t 58), none⟩])
                (.seq
                  (.seq
                    (.region [3, 4, 5, 7, 8, 9, 10, 11, 83] [
                        ⟨some 59, .faddr (.t 10) 2, none⟩,
                        ⟨some 60, .load none (.t 59), none⟩,
                        ⟨some 61, .move (.t 8), none⟩,
                        ⟨some 62, .bin .lss (.t 60) (.t 61), none⟩,
                        ⟨some 63, .move (.t 62), none⟩,
                        ⟨some 64, .faddr (.t 10) 1, some (63, false)⟩,
                        ⟨some 65, .load none (.t 64), some (63, false)⟩,
                        ⟨some 66, .bin .eql (.t 65) (.c (.p (.str []))), some (63, false)⟩,
                        ⟨some 67, .pick (.t 63) (.c (.p (.bool true))) (.t 66), none⟩,
                        ⟨some 68, .move (.t 67), none⟩,
                        ⟨some 69, .move (.t 11), some (68, false)⟩,
                        ⟨some 70, .move (.t 4), some (68, false)⟩,
                        ⟨some 71, .len 0 (.t 70), some (68, false)⟩,
                        ⟨some 72, .bin .gtr (.t 69) (.t 71), some (68, false)⟩,
                        ⟨some 73, .pick (.t 68) (.c (.p (.bool true))) (.t 72), none⟩,
                        ⟨some 74, .move (.t 73), none⟩,
                        ⟨some 75, .faddr (.t 10) 0, some (74, false)⟩,
                        ⟨some 76, .load none (.t 75), some (74, false)⟩,
                        ⟨some 77, .bin .lss (.t 76) (.c (.p (.int .i64 1))), some (74, false)⟩,
                        ⟨some 78, .pick (.t 74) (.c (.p (.bool true))) (.t 77), none⟩,
                        ⟨some 79, .move (.t 78), none⟩,
                        ⟨some 80, .faddr (.t 10) 0, some (79, false)⟩,
                        ⟨some 81, .load none (.t 80), some (79, false)⟩,
                        ⟨some 82, .bin .gtr (.t 81) (.c (.p (.int .i64 3))), some (79, false)⟩,
                        ⟨some 83, .pick (.t 79) (.c (.p (.bool true))) (.t 82), none⟩])
                    (.cond (.t 83)
                      (.seq
                        (.region [2] [
                            ⟨some 2, .move (.c (.p (.bool false))), none⟩])
                        .ret)
                      .skip))
                  (.seq
                    (.seq
                      (.draw [3, 4, 5, 7, 9, 11, 100] [(2, 6)] [
                          ⟨some 84, .move (.t 4), none⟩,
                          ⟨some 85, .faddr (.t 10) 2, none⟩,
                          ⟨some 86, .load none (.t 85), none⟩,
                          ⟨some 87, .move (.t 11), none⟩,
                          ⟨some 88, .slice 0 (.t 84) (some (.t 86)) (some (.t 87)), none⟩,
                          ⟨some 89, .faddr (.t 10) 1, none⟩,
                          ⟨some 90, .load none (.t 89), none⟩,
                          ⟨some 91, .bin .neq (.t 88) (.t 90), none⟩,
                          ⟨some 92, .move (.t 91), none⟩,
                          ⟨some 93, .move (.t 4), some (92, false)⟩,
                          ⟨some 94, .move (.t 8), some (92, false)⟩,
                          ⟨some 95, .faddr (.t 10) 2, some (92, false)⟩,
                          ⟨some 96, .load none (.t 95), some (92, false)⟩,
                          ⟨some 97, .slice 0 (.t 93) (some (.t 94)) (some (.t 96)), some (92, false)⟩,
                          ⟨some 98, .call (.c (.fn 16 [] [])) [(.t 97)], some (92, false)⟩,
                          ⟨some 99, .un .not (.t 98), some (92, false)⟩,
                          ⟨some 100, .pick (.t 92) (.c (.p (.bool true))) (.t 99), none⟩])
                      (.cond (.t 100)
                        (.seq
                          (.region [2] [
                              ⟨some 2, .move (.c (.p (.bool false))), none⟩])
                          .ret)
                        .skip))
                    (.region [3, 4, 5, 7, 8, 9] [
                        ⟨some 101, .move (.t 11), none⟩,
                        ⟨some 8, .move (.t 101), none⟩]))))))
          (.region [3, 4, 5, 7, 8, 9] [
              ⟨some 47, .move (.t 9), none⟩,
              ⟨some 48, .bin .add (.t 47) (.c (.p (.int .i64 1))), none⟩,
              ⟨some 9, .move (.t 48), none⟩]))))

def fc4 : FC where
  nt := 113
  np := 1
  res := [.t 2]
  body :=
    (.seq
      (.region [0] [
          ⟨some 2, .move (.c (.p (.bool false))), none⟩])
      (.seq
        (.region [0, 3] [
            ⟨some 12, .call (.c (.fn 11 [] [])) [], none⟩,
            ⟨some 3, .move (.t 12), none⟩])
        (.seq
          (.region [3, 4] [
              ⟨some 13, .move (.t 0), none⟩,
              ⟨some 14, .call (.c (.fn 12 [] [])) [(.t 13)], none⟩,
              ⟨some 4, .move (.t 14), none⟩])
          (.seq
            (.region [3, 4, 5, 6, 7] [
                ⟨some 16, .move (.t 4), none⟩,
                ⟨some 17, .call (.c (.fn 13 [] [])) [(.t 16)], none⟩,
                ⟨some 15, .move (.t 17), none⟩,
                ⟨some 18, .extract (.t 15) 0, none⟩,
                ⟨some 19, .extract (.t 15) 1, none⟩,
                ⟨some 20, .extract (.t 15) 2, none⟩,
                ⟨some 5, .move (.t 18), none⟩,
                ⟨some 6, .move (.t 19), none⟩,
                ⟨some 7, .move (.t 20), none⟩])
            (.seq
              (.seq
                (.region [3, 4, 5, 6, 7, 22] [
                    ⟨some 21, .move (.t 6), none⟩,
                    ⟨some 22, .bin .neq (.t 21) (.c (.p (.int .i64 0))), none⟩])
                (.cond (.t 22)
                  (.seq
                    (.region [2] [
                        ⟨some 23, .move (.t 3), none⟩,
                        ⟨some 24, .move (.t 23), none⟩,
                        ⟨some 25, .move (.t 6), some (24, true)⟩,
                        ⟨some 26, .bin .eql (.t 25) (.c (.p (.int .i64 10))), some (24, true)⟩,
                        ⟨some 27, .pick (.t 24) (.t 26) (.c (.p (.bool false))), none⟩,
                        ⟨some 28, .move (.t 27), none⟩,
                        ⟨some 29, .move (.t 5), some (28, true)⟩,
                        ⟨some 30, .len 1 (.t 29), some (28, true)⟩,
                        ⟨some 31, .bin .eql (.t 30) (.c (.p (.int .i64 0))), some (28, true)⟩,
                        ⟨some 32, .pick (.t 28) (.t 31) (.c (.p (.bool false))), none⟩,
                        ⟨some 33, .move (.t 32), none⟩,
                        ⟨some 34, .move (.t 7), some (33, true)⟩,
                        ⟨some 35, .bin .geq (.t 34) (.c (.p (.int .i64 0))), some (33, true)⟩,
                        ⟨some 36, .pick (.t 33) (.t 35) (.c (.p (.bool false))), none⟩,
                        ⟨some 37, .move (.t 36), none⟩,
                        ⟨some 38, .move (.t 7), some (37, true)⟩,
                        ⟨some 39, .move (.t 4), some (37, true)⟩,
                        ⟨some 40, .len 0 (.t 39), some (37, true)⟩,
                        ⟨some 41, .bin .lss (.t 38) (.t 40), some (37, true)⟩,
                        ⟨some 42, .pick (.t 37) (.t 41) (.c (.p (.bool false))), none⟩,
                        ⟨some 2, .move (.t 42), none⟩])
                    .ret)
                  .skip))
              (.seq
                (.region [3, 4, 5, 7, 8] [
                    ⟨some 8, .move (.c (.p (.int .i64 0))), none⟩])
                (.seq
                  (.seq
                    (.region [3, 4, 5, 7, 8, 9] [
                        ⟨some 9, .move (.c (.p (.int .i64 0))), none⟩])
                    (.block 0
                      (.loop [3, 4, 5, 7, 8, 9]
                        fc4_b0)))
                  (.seq
                    (.region [2] [
                        ⟨some 102, .move (.t 3), none⟩,
                        ⟨some 103, .move (.t 102), none⟩,
                        ⟨some 104, .move (.t 7), some (103, true)⟩,
                        ⟨some 105, .bin .eql (.t 104) (.c (.p (.int .i64 0))), some (103, true)⟩,
                        ⟨some 106, .pick (.t 103) (.t 105) (.c (.p (.bool false))), none⟩,
                        ⟨some 107, .move (.t 106), none⟩,
                        ⟨some 108, .move (.t 4), some (107, true)⟩,
                        ⟨some 109, .move (.t 8), some (107, true)⟩,
                        ⟨some 110, .slice 0 (.t 108) (some (.t 109)) none, some (107, true)⟩,
                        ⟨some 111, .call (.c (.fn 16 [] [])) [(.t 110)], some (107, true)⟩,
                        ⟨some 112, .pick (.t 107) (.t 111) (.c (.p (.bool false))), none⟩,
                        ⟨some 2, .move (.t 112), none⟩])
                    .ret))))))))

theorem ok4 : FOk Tryd.prog 4 fc4 := FOk.of Tryd.func4 (by kernel_rfl)

/-- armature/armaturelaw01.LexerStable -/
def fc5_b0 : SC :=
    (.seq
      (.seq
        (.region [1, 5, 6, 9, 10, 11, 41] [
            ⟨some 33, .move (.t 11), none⟩,
            ⟨some 34, .move (.t 6), none⟩,
            ⟨some 35, .len 1 (.t 34), none⟩,
            ⟨some 36, .bin .lss (.t 33) (.t 35), none⟩,
            ⟨some 37, .move (.t 36), none⟩,
            ⟨some 38, .move (.t 10), some (37, true)⟩,
            ⟨some 39, .len 0 (.t 38), some (37, true)⟩,
            ⟨some 40, .bin .lss (.t 39) (.c (.p (.int .i64 6000))), some (37, true)⟩,
            ⟨some 41, .pick (.t 37) (.t 40) (.c (.p (.bool false))), none⟩])
        (.cond (.t 41)
          .skip
          (.exit 0)))
      (.seq
        (.block 1
          (.seq
            (.region [1, 5, 6, 9, 10, 11, 12] [
                ⟨some 12, .move (.c (.p (.int .i64 0))), none⟩])
            (.seq
              (.seq
                (.region [1, 5, 6, 9, 10, 11, 12, 47] [
                    ⟨some 44, .move (.t 11), none⟩,
                    ⟨some 45, .move (.t 1), none⟩,
                    ⟨some 46, .len 1 (.t 45), none⟩,
                    ⟨some 47, .bin .lss (.t 44) (.t 46), none⟩])
                (.cond (.t 47)
                  (.region [1, 5, 6, 9, 10, 11, 12] [
                      ⟨some 48, .move (.t 1), none⟩,
                      ⟨some 49, .move (.t 11), none⟩,
                      ⟨some 50, .iaddr none 1 (.t 48) (.t 49), none⟩,
                      ⟨some 51, .load none (.t 50), none⟩,
                      ⟨some 52, .conv .i64 (.t 51), none⟩,
                      ⟨some 53, .bin .rem (.t 52) (.c (.p (.int .i64 5))), none⟩,
                      ⟨some 12, .move (.t 53), none⟩])
                  .skip))
              (.draw [1, 5, 6, 9, 10, 11] [(5, 10)] [
                  ⟨some 54, .move (.t 10), none⟩,
                  ⟨some 55, .move (.t 6), none⟩,
                  ⟨some 56, .move (.t 11), none⟩,
                  ⟨some 57, .iaddr none 3 (.t 55) (.t 56), none⟩,
                  ⟨some 58, .faddr (.t 57) 1, none⟩,
                  ⟨some 59, .load none (.t 58), none⟩,
                  ⟨some 60, .bin .add (.t 54) (.t 59), none⟩,
                  ⟨some 61, .move (.t 9), none⟩,
                  ⟨some 62, .move (.t 12), none⟩,
                  ⟨some 63, .iaddr none 1 (.t 61) (.t 62), none⟩,
                  ⟨some 64, .load none (.t 63), none⟩,
                  ⟨some 65, .bin .add (.t 60) (.t 64), none⟩,
                  ⟨some 10, .move (.t 65), none⟩]))))
        (.region [1, 5, 6, 9, 10, 11] [
            ⟨some 42, .move (.t 11), none⟩,
            ⟨some 43, .bin .add (.t 42) (.c (.p (.int .i64 1))), none⟩,
            ⟨some 11, .move (.t 43), none⟩])))

def fc5_b1 : SC :=
    (.seq
      (.seq
        (.region [5, 6, 13, 16, 95] [
            ⟨some 86, .move (.t 16), none⟩,
            ⟨some 87, .move (.t 13), none⟩,
            ⟨some 88, .len 1 (.t 87), none⟩,
            ⟨some 89, .bin .lss (.t 86) (.t 88), none⟩,
            ⟨some 90, .move (.t 89), none⟩,
            ⟨some 91, .move (.t 16), some (90, true)⟩,
            ⟨some 92, .move (.t 6), some (90, true)⟩,
            ⟨some 93, .len 1 (.t 92), some (90, true)⟩,
            ⟨some 94, .bin .lss (.t 91) (.t 93), some (90, true)⟩,
            ⟨some 95, .pick (.t 90) (.t 94) (.c (.p (.bool false))), none⟩])
        (.cond (.t 95)
          .skip
          (.exit 2)))
      (.seq
        (.block 3
          (.seq
            (.draw [5, 6, 13, 16, 121] [(4, 9), (16, 21)] [
                ⟨some 98, .move (.t 13), none⟩,
                ⟨some 99, .move (.t 16), none⟩,
                ⟨some 100, .iaddr none 3 (.t 98) (.t 99), none⟩,
                ⟨some 101, .faddr (.t 100) 0, none⟩,
                ⟨some 102, .load none (.t 101), none⟩,
                ⟨some 103, .move (.t 6), none⟩,
                ⟨some 104, .move (.t 16), none⟩,
                ⟨some 105, .iaddr none 3 (.t 103) (.t 104), none⟩,
                ⟨some 106, .faddr (.t 105) 0, none⟩,
                ⟨some 107, .load none (.t 106), none⟩,
                ⟨some 108, .bin .neq (.t 102) (.t 107), none⟩,
                ⟨some 109, .move (.t 108), none⟩,
                ⟨some 110, .move (.t 13), some (109, false)⟩,
                ⟨some 111, .move (.t 16), some (109, false)⟩,
                ⟨some 112, .iaddr none 3 (.t 110) (.t 111), some (109, false)⟩,
                ⟨some 113, .faddr (.t 112) 1, some (109, false)⟩,
                ⟨some 114, .load none (.t 113), some (109, false)⟩,
                ⟨some 115, .move (.t 6), some (109, false)⟩,
                ⟨some 116, .move (.t 16), some (109, false)⟩,
                ⟨some 117, .iaddr none 3 (.t 115) (.t 116), some (109, false)⟩,
                ⟨some 118, .faddr (.t 117) 1, some (109, false)⟩,
                ⟨some 119, .load none (.t 118), some (109, false)⟩,
                ⟨some 120, .bin .neq (.t 114) (.t 119), some (109, false)⟩,
                ⟨some 121, .pick (.t 109) (.c (.p (.bool true))) (.t 120), none⟩])
            (.cond (.t 121)
              (.seq
                (.region [4] [
                    ⟨some 4, .move (.c (.p (.bool false))), none⟩])
                .ret)
              .skip)))
        (.region [5, 6, 13, 16] [
            ⟨some 96, .move (.t 16), none⟩,
            ⟨some 97, .bin .add (.t 96) (.c (.p (.int .i64 1))), none⟩,
            ⟨some 16, .move (.t 97), none⟩])))

def fc5 : FC where
  nt := 123
  np := 2
  res := [.t 4]
  body :=
    (.seq
      (.region [0, 1] [
          ⟨some 4, .move (.c (.p (.bool false))), none⟩])
      (.seq
        (.region [0, 1, 5] [
            ⟨some 17, .call (.c (.fn 11 [] [])) [], none⟩,
            ⟨some 5, .move (.t 17), none⟩])
        (.seq
          (.region [1, 5, 6, 7] [
              ⟨some 19, .move (.t 0), none⟩,
              ⟨some 20, .call (.c (.fn 12 [] [])) [(.t 19)], none⟩,
              ⟨some 21, .call (.c (.fn 13 [] [])) [(.t 20)], none⟩,
              ⟨some 18, .move (.t 21), none⟩,
              ⟨some 22, .extract (.t 18) 0, none⟩,
              ⟨some 23, .extract (.t 18) 1, none⟩,
              ⟨some 24, .extract (.t 18) 2, none⟩,
              ⟨some 6, .move (.t 22), none⟩,
              ⟨some 7, .move (.t 23), none⟩,
              ⟨some 8, .move (.t 24), none⟩])
          (.seq
            (.seq
              (.region [1, 5, 6, 7, 26] [
                  ⟨some 25, .move (.t 7), none⟩,
                  ⟨some 26, .bin .neq (.t 25) (.c (.p (.int .i64 0))), none⟩])
              (.cond (.t 26)
                (.seq
                  (.region [4] [
                      ⟨some 27, .move (.t 5), none⟩,
                      ⟨some 28, .move (.t 27), none⟩,
                      ⟨some 29, .move (.t 7), some (28, true)⟩,
                      ⟨some 30, .bin .eql (.t 29) (.c (.p (.int .i64 10))), some (28, true)⟩,
                      ⟨some 31, .pick (.t 28) (.t 30) (.c (.p (.bool false))), none⟩,
                      ⟨some 4, .move (.t 31), none⟩])
                  .ret)
                .skip))
            (.seq
              (.region [1, 5, 6, 9] [
                  ⟨some 32, .bslice 1 5 (.str []) [(0, (.c (.p (.str [32])))), (1, (.c (.p (.str [10])))), (2, (.c (.p (.str [32, 9, 13, 10])))), (3, (.c (.p (.str [32, 47, 47, 120, 10])))), (4, (.c (.p (.str [10, 47, 47, 32, 97, 32, 47, 32, 98, 32, 47, 47, 32, 10, 10]))))], none⟩,
                  ⟨some 9, .move (.t 32), none⟩])
              (.seq
                (.region [1, 5, 6, 9, 10] [
                    ⟨some 10, .move (.c (.p (.str []))), none⟩])
                (.seq
                  (.seq
                    (.region [1, 5, 6, 9, 10, 11] [
                        ⟨some 11, .move (.c (.p (.int .i64 0))), none⟩])
                    (.block 0
                      (.loop [1, 5, 6, 9, 10, 11]
                        fc5_b0)))
                  (.seq
                    (.region [5, 6, 10, 13, 14] [
                        ⟨some 67, .move (.t 10), none⟩,
                        ⟨some 68, .call (.c (.fn 13 [] [])) [(.t 67)], none⟩,
                        ⟨some 66, .move (.t 68), none⟩,
                        ⟨some 69, .extract (.t 66) 0, none⟩,
                        ⟨some 70, .extract (.t 66) 1, none⟩,
                        ⟨some 71, .extract (.t 66) 2, none⟩,
                        ⟨some 13, .move (.t 69), none⟩,
                        ⟨some 14, .move (.t 70), none⟩,
                        ⟨some 15, .move (.t 71), none⟩])
                    (.seq
                      (.seq
                        (.region [5, 6, 13, 85] [
                            ⟨some 72, .move (.t 14), none⟩,
                            ⟨some 73, .bin .neq (.t 72) (.c (.p (.int .i64 0))), none⟩,
                            ⟨some 74, .move (.t 73), none⟩,
                            ⟨some 75, .move (.t 13), some (74, false)⟩,
                            ⟨some 76, .len 1 (.t 75), some (74, false)⟩,
                            ⟨some 77, .move (.t 6), some (74, false)⟩,
                            ⟨some 78, .len 1 (.t 77), some (74, false)⟩,
                            ⟨some 79, .bin .neq (.t 76) (.t 78), some (74, false)⟩,
                            ⟨some 80, .move (.t 79), some (74, false)⟩,
                            ⟨some 81, .move (.t 10), some (80, true)⟩,
                            ⟨some 82, .len 0 (.t 81), some (80, true)⟩,
                            ⟨some 83, .bin .lss (.t 82) (.c (.p (.int .i64 6000))), some (80, true)⟩,
                            ⟨some 84, .pick (.t 80) (.t 83) (.c (.p (.bool false))), some (74, false)⟩,
                            ⟨some 85, .pick (.t 74) (.c (.p (.bool true))) (.t 84), none⟩])
                        (.cond (.t 85)
                          (.seq
                            (.region [4] [
                                ⟨some 4, .move (.c (.p (.bool false))), none⟩])
                            .ret)
                          .skip))
                      (.seq
                        (.seq
                          (.region [5, 6, 13, 16] [
                              ⟨some 16, .move (.c (.p (.int .i64 0))), none⟩])
                          (.block 2
                            (.loop [5, 6, 13, 16]
                              fc5_b1)))
                        (.seq
                          (.region [4] [
                              ⟨some 122, .move (.t 5), none⟩,
                              ⟨some 4, .move (.t 122), none⟩])
                          .ret)))))))))))

theorem ok5 : FOk Tryd.prog 5 fc5 := FOk.of Tryd.func5 (by kernel_rfl)

/-- armature/armaturelaw01.LexerConcatenation -/
def fc6_b0 : SC :=
    (.loc
      (.seq
        (.seq
          (.region [5, 6, 8, 11, 14, 17, 98] [
              ⟨some 95, .move (.t 17), none⟩,
              ⟨some 96, .move (.t 11), none⟩,
              ⟨some 97, .len 1 (.t 96), none⟩,
              ⟨some 98, .bin .lss (.t 95) (.t 97), none⟩])
          (.cond (.t 98)
            .skip
            (.exit 0)))
        (.seq
          (.block 1
            (.seq
              (.region [5, 6, 8, 11, 14, 17, 18] [
                  ⟨some 101, .move (.t 11), none⟩,
                  ⟨some 102, .move (.t 17), none⟩,
                  ⟨some 103, .iaddr none 3 (.t 101) (.t 102), none⟩,
                  ⟨some 104, .load (some 3) (.t 103), none⟩,
                  ⟨some 18, .alloc [.int .i64 0, .str [], .int .i64 0], none⟩,
                  ⟨none, .store 3 (.t 18) (.t 104), none⟩])
              (.seq
                (.region [5, 6, 8, 11, 14, 17, 18] [
                    ⟨some 105, .faddr (.t 18) 2, none⟩,
                    ⟨some 106, .load none (.t 105), none⟩,
                    ⟨some 107, .move (.t 6), none⟩,
                    ⟨some 108, .len 0 (.t 107), none⟩,
                    ⟨some 109, .bin .add (.t 106) (.t 108), none⟩,
                    ⟨some 110, .bin .add (.t 109) (.c (.p (.int .i64 1))), none⟩,
                    ⟨some 111, .faddr (.t 18) 2, none⟩,
                    ⟨none, .store 1 (.t 111) (.t 110), none⟩])
                (.seq
                  (.draw [5, 6, 8, 11, 14, 17, 120] [(6, 7)] [
                      ⟨some 112, .move (.t 14), none⟩,
                      ⟨some 113, .move (.t 8), none⟩,
                      ⟨some 114, .len 1 (.t 113), none⟩,
                      ⟨some 115, .move (.t 17), none⟩,
                      ⟨some 116, .bin .add (.t 114) (.t 115), none⟩,
                      ⟨some 117, .iaddr none 3 (.t 112) (.t 116), none⟩,
                      ⟨some 118, .load (some 3) (.t 117), none⟩,
                      ⟨some 119, .load (some 3) (.t 18), none⟩,
                      ⟨some 120, .eqs true [1, 2, 1] (.t 118) (.t 119), none⟩])
                  (.cond (.t 120)
                    (.seq
                      (.region [4] [
                          ⟨some 4, .move (.c (.p (.bool false))), none⟩])
                      .ret)
                    .skip)))))
          (.region [5, 6, 8, 11, 14, 17] [
              ⟨some 99, .move (.t 17), none⟩,
              ⟨some 100, .bin .add (.t 99) (.c (.p (.int .i64 1))), none⟩,
              ⟨some 17, .move (.t 100), none⟩]))))

def fc6 : FC where
  nt := 130
  np := 2
  res := [.t 4]
  body :=
    (.seq
      (.region [0, 1] [
          ⟨some 4, .move (.c (.p (.bool false))), none⟩])
      (.seq
        (.region [0, 1, 5] [
            ⟨some 19, .call (.c (.fn 11 [] [])) [], none⟩,
            ⟨some 5, .move (.t 19), none⟩])
        (.seq
          (.region [1, 5, 6] [
              ⟨some 20, .move (.t 0), none⟩,
              ⟨some 21, .call (.c (.fn 12 [] [])) [(.t 20)], none⟩,
              ⟨some 6, .move (.t 21), none⟩])
          (.seq
            (.region [5, 6, 7] [
                ⟨some 22, .move (.t 1), none⟩,
                ⟨some 23, .call (.c (.fn 12 [] [])) [(.t 22)], none⟩,
                ⟨some 7, .move (.t 23), none⟩])
            (.seq
              (.region [5, 6, 7, 8, 9, 10] [
                  ⟨some 25, .move (.t 6), none⟩,
                  ⟨some 26, .call (.c (.fn 13 [] [])) [(.t 25)], none⟩,
                  ⟨some 24, .move (.t 26), none⟩,
                  ⟨some 27, .extract (.t 24) 0, none⟩,
                  ⟨some 28, .extract (.t 24) 1, none⟩,
                  ⟨some 29, .extract (.t 24) 2, none⟩,
                  ⟨some 8, .move (.t 27), none⟩,
                  ⟨some 9, .move (.t 28), none⟩,
                  ⟨some 10, .move (.t 29), none⟩])
              (.seq
                (.region [5, 6, 7, 8, 9, 10, 11, 12, 13] [
                    ⟨some 31, .move (.t 7), none⟩,
                    ⟨some 32, .call (.c (.fn 13 [] [])) [(.t 31)], none⟩,
                    ⟨some 30, .move (.t 32), none⟩,
                    ⟨some 33, .extract (.t 30) 0, none⟩,
                    ⟨some 34, .extract (.t 30) 1, none⟩,
                    ⟨some 35, .extract (.t 30) 2, none⟩,
                    ⟨some 11, .move (.t 33), none⟩,
                    ⟨some 12, .move (.t 34), none⟩,
                    ⟨some 13, .move (.t 35), none⟩])
                (.seq
                  (.region [5, 6, 8, 9, 10, 11, 12, 13, 14, 15, 16] [
                      ⟨some 37, .move (.t 6), none⟩,
                      ⟨some 38, .bin .add (.t 37) (.c (.p (.str [32]))), none⟩,
                      ⟨some 39, .move (.t 7), none⟩,
                      ⟨some 40, .bin .add (.t 38) (.t 39), none⟩,
                      ⟨some 41, .call (.c (.fn 13 [] [])) [(.t 40)], none⟩,
                      ⟨some 36, .move (.t 41), none⟩,
                      ⟨some 42, .extract (.t 36) 0, none⟩,
                      ⟨some 43, .extract (.t 36) 1, none⟩,
                      ⟨some 44, .extract (.t 36) 2, none⟩,
                      ⟨some 14, .move (.t 42), none⟩,
                      ⟨some 15, .move (.t 43), none⟩,
                      ⟨some 16, .move (.t 44), none⟩])
                  (.seq
                    (.seq
                      (.region [5, 6, 8, 9, 10, 11, 12, 13, 14, 15, 16, 46] [
                          ⟨some 45, .move (.t 9), none⟩,
                          ⟨some 46, .bin .neq (.t 45) (.c (.p (.int .i64 0))), none⟩])
                      (.cond (.t 46)
                        (.seq
                          (.region [4] [
                              ⟨some 47, .move (.t 5), none⟩,
                              ⟨some 48, .move (.t 47), none⟩,
                              ⟨some 49, .move (.t 15), some (48, true)⟩,
                              ⟨some 50, .move (.t 9), some (48, true)⟩,
                              ⟨some 51, .bin .eql (.t 49) (.t 50), some (48, true)⟩,
                              ⟨some 52, .pick (.t 48) (.t 51) (.c (.p (.bool false))), none⟩,
                              ⟨some 53, .move (.t 52), none⟩,
                              ⟨some 54, .move (.t 16), some (53, true)⟩,
                              ⟨some 55, .move (.t 10), some (53, true)⟩,
                              ⟨some 56, .bin .eql (.t 54) (.t 55), some (53, true)⟩,
                              ⟨some 57, .pick (.t 53) (.t 56) (.c (.p (.bool false))), none⟩,
                              ⟨some 4, .move (.t 57), none⟩])
                          .ret)
                        .skip))
                    (.seq
                      (.seq
                        (.region [5, 6, 8, 11, 12, 13, 14, 15, 16, 59] [
                            ⟨some 58, .move (.t 6), none⟩,
                            ⟨some 59, .call (.c (.fn 17 [] [])) [(.t 58)], none⟩])
                        (.cond (.t 59)
                          (.seq
                            (.region [4] [
                                ⟨some 60, .move (.t 5), none⟩,
                                ⟨some 4, .move (.t 60), none⟩])
                            .ret)
                          .skip))
                      (.seq
                        (.seq
                          (.region [5, 6, 8, 11, 12, 13, 14, 15, 16, 62] [
                              ⟨some 61, .move (.t 12), none⟩,
                              ⟨some 62, .bin .neq (.t 61) (.c (.p (.int .i64 0))), none⟩])
                          (.cond (.t 62)
                            (.seq
                              (.region [4] [
                                  ⟨some 63, .move (.t 5), none⟩,
                                  ⟨some 64, .move (.t 63), none⟩,
                                  ⟨some 65, .move (.t 15), some (64, true)⟩,
                                  ⟨some 66, .move (.t 12), some (64, true)⟩,
                                  ⟨some 67, .bin .eql (.t 65) (.t 66), some (64, true)⟩,
                                  ⟨some 68, .pick (.t 64) (.t 67) (.c (.p (.bool false))), none⟩,
                                  ⟨some 69, .move (.t 68), none⟩,
                                  ⟨some 70, .move (.t 16), some (69, true)⟩,
                                  ⟨some 71, .move (.t 6), some (69, true)⟩,
                                  ⟨some 72, .len 0 (.t 71), some (69, true)⟩,
                                  ⟨some 73, .bin .add (.t 72) (.c (.p (.int .i64 1))), some (69, true)⟩,
                                  ⟨some 74, .move (.t 13), some (69, true)⟩,
                                  ⟨some 75, .bin .add (.t 73) (.t 74), some (69, true)⟩,
                                  ⟨some 76, .bin .eql (.t 70) (.t 75), some (69, true)⟩,
                                  ⟨some 77, .pick (.t 69) (.t 76) (.c (.p (.bool false))), none⟩,
                                  ⟨some 78, .move (.t 77), none⟩,
                                  ⟨some 79, .move (.t 14), some (78, true)⟩,
                                  ⟨some 80, .len 1 (.t 79), some (78, true)⟩,
                                  ⟨some 81, .bin .eql (.t 80) (.c (.p (.int .i64 0))), some (78, true)⟩,
                                  ⟨some 82, .pick (.t 78) (.t 81) (.c (.p (.bool false))), none⟩,
                                  ⟨some 4, .move (.t 82), none⟩])
                              .ret)
                            .skip))
                        (.seq
                          (.seq
                            (.region [5, 6, 8, 11, 14, 94] [
                                ⟨some 83, .move (.t 15), none⟩,
                                ⟨some 84, .bin .neq (.t 83) (.c (.p (.int .i64 0))), none⟩,
                                ⟨some 85, .move (.t 84), none⟩,
                                ⟨some 86, .move (.t 14), some (85, false)⟩,
                                ⟨some 87, .len 1 (.t 86), some (85, false)⟩,
                                ⟨some 88, .move (.t 8), some (85, false)⟩,
                                ⟨some 89, .len 1 (.t 88), some (85, false)⟩,
                                ⟨some 90, .move (.t 11), some (85, false)⟩,
                                ⟨some 91, .len 1 (.t 90), some (85, false)⟩,
                                ⟨some 92, .bin .add (.t 89) (.t 91), some (85, false)⟩,
                                ⟨some 93, .bin .neq (.t 87) (.t 92), some (85, false)⟩,
                                ⟨some 94, .pick (.t 85) (.c (.p (.bool true))) (.t 93), none⟩])
                            (.cond (.t 94)
                              (.seq
                                (.region [4] [
                                    ⟨some 4, .move (.c (.p (.bool false))), none⟩])
                                .ret)
                              .skip))
                          (.seq
                            (.seq
                              (.region [5, 6, 8, 11, 14, 17] [
                                  ⟨some 17, .move (.c (.p (.int .i64 0))), none⟩])
                              (.block 0
                                (.loop [5, 6, 8, 11, 14, 17]
                                  fc6_b0)))
                            (.seq
                              (.region [4] [
                                  ⟨some 121, .move (.t 5), none⟩,
                                  ⟨some 122, .move (.t 121), none⟩,
                                  ⟨some 123, .move (.t 14), some (122, true)⟩,
                                  ⟨some 124, .move (.t 8), some (122, true)⟩,
                                  ⟨some 125, .len 1 (.t 124), some (122, true)⟩,
                                  ⟨some 126, .slice 3 (.t 123) none (some (.t 125)), some (122, true)⟩,
                                  ⟨some 127, .move (.t 8), some (122, true)⟩,
                                  ⟨some 128, .call (.c (.fn 15 [] [])) [(.t 126), (.t 127)], some (122, true)⟩,
                                  ⟨some 129, .pick (.t 122) (.t 128) (.c (.p (.bool false))), none⟩,
                                  ⟨some 4, .move (.t 129), none⟩])
                              .ret)))))))))))))

theorem ok6 : FOk Tryd.prog 6 fc6 := FOk.of Tryd.func6 (by kernel_rfl)

/-- armature/armaturelaw01.LexerFirstError -/
def fc7 : FC where
  nt := 123
  np := 2
  res := [.t 4]
  body :=
    (.seq
      (.region [0, 1] [
          ⟨some 4, .move (.c (.p (.bool false))), none⟩])
      (.seq
        (.region [0, 1, 5] [
            ⟨some 21, .call (.c (.fn 11 [] [])) [], none⟩,
            ⟨some 5, .move (.t 21), none⟩])
        (.seq
          (.region [1, 5, 6] [
              ⟨some 22, .move (.t 0), none⟩,
              ⟨some 23, .call (.c (.fn 12 [] [])) [(.t 22)], none⟩,
              ⟨some 6, .move (.t 23), none⟩])
          (.seq
            (.region [1, 5, 6, 7, 8, 9] [
                ⟨some 25, .move (.t 6), none⟩,
                ⟨some 26, .call (.c (.fn 13 [] [])) [(.t 25)], none⟩,
                ⟨some 24, .move (.t 26), none⟩,
                ⟨some 27, .extract (.t 24) 0, none⟩,
                ⟨some 28, .extract (.t 24) 1, none⟩,
                ⟨some 29, .extract (.t 24) 2, none⟩,
                ⟨some 7, .move (.t 27), none⟩,
                ⟨some 8, .move (.t 28), none⟩,
                ⟨some 9, .move (.t 29), none⟩])
            (.seq
              (.seq
                (.region [1, 5, 6, 7, 9, 31] [
                    ⟨some 30, .move (.t 8), none⟩,
                    ⟨some 31, .bin .neq (.t 30) (.c (.p (.int .i64 0))), none⟩])
                (.cond (.t 31)
                  (.seq
                    (.seq
                      (.region [5, 6, 9, 39] [
                          ⟨some 32, .move (.t 9), none⟩,
                          ⟨some 33, .bin .lss (.t 32) (.c (.p (.int .i64 0))), none⟩,
                          ⟨some 34, .move (.t 33), none⟩,
                          ⟨some 35, .move (.t 9), some (34, false)⟩,
                          ⟨some 36, .move (.t 6), some (34, false)⟩,
                          ⟨some 37, .len 0 (.t 36), some (34, false)⟩,
                          ⟨some 38, .bin .geq (.t 35) (.t 37), some (34, false)⟩,
                          ⟨some 39, .pick (.t 34) (.c (.p (.bool true))) (.t 38), none⟩])
                      (.cond (.t 39)
                        (.seq
                          (.region [4] [
                              ⟨some 4, .move (.c (.p (.bool false))), none⟩])
                          .ret)
                        .skip))
                    (.seq
                      (.region [5, 6, 9, 11] [
                          ⟨some 41, .move (.t 6), none⟩,
                          ⟨some 42, .move (.t 9), none⟩,
                          ⟨some 43, .slice 0 (.t 41) none (some (.t 42)), none⟩,
                          ⟨some 44, .call (.c (.fn 13 [] [])) [(.t 43)], none⟩,
                          ⟨some 40, .move (.t 44), none⟩,
                          ⟨some 45, .extract (.t 40) 0, none⟩,
                          ⟨some 46, .extract (.t 40) 1, none⟩,
                          ⟨some 47, .extract (.t 40) 2, none⟩,
                          ⟨some 10, .move (.t 45), none⟩,
                          ⟨some 11, .move (.t 46), none⟩,
                          ⟨some 12, .move (.t 47), none⟩])
                      (.seq
                        (.region [5, 11, 14, 15] [
                            ⟨some 49, .move (.t 6), none⟩,
                            ⟨some 50, .move (.t 9), none⟩,
                            ⟨some 51, .slice 0 (.t 49) (some (.t 50)) none, none⟩,
                            ⟨some 52, .call (.c (.fn 13 [] [])) [(.t 51)], none⟩,
                            ⟨some 48, .move (.t 52), none⟩,
                            ⟨some 53, .extract (.t 48) 0, none⟩,
                            ⟨some 54, .extract (.t 48) 1, none⟩,
                            ⟨some 55, .extract (.t 48) 2, none⟩,
                            ⟨some 13, .move (.t 53), none⟩,
                            ⟨some 14, .move (.t 54), none⟩,
                            ⟨some 15, .move (.t 55), none⟩])
                        (.seq
                          (.region [4] [
                              ⟨some 56, .move (.t 5), none⟩,
                              ⟨some 57, .move (.t 56), none⟩,
                              ⟨some 58, .move (.t 11), some (57, true)⟩,
                              ⟨some 59, .bin .eql (.t 58) (.c (.p (.int .i64 0))), some (57, true)⟩,
                              ⟨some 60, .pick (.t 57) (.t 59) (.c (.p (.bool false))), none⟩,
                              ⟨some 61, .move (.t 60), none⟩,
                              ⟨some 62, .move (.t 14), some (61, true)⟩,
                              ⟨some 63, .bin .eql (.t 62) (.c (.p (.int .i64 10))), some (61, true)⟩,
                              ⟨some 64, .pick (.t 61) (.t 63) (.c (.p (.bool false))), none⟩,
                              ⟨some 65, .move (.t 64), none⟩,
                              ⟨some 66, .move (.t 15), some (65, true)⟩,
                              ⟨some 67, .bin .eql (.t 66) (.c (.p (.int .i64 0))), some (65, true)⟩,
                              ⟨some 68, .pick (.t 65) (.t 67) (.c (.p (.bool false))), none⟩,
                              ⟨some 4, .move (.t 68), none⟩])
                          .ret))))
                  .skip))
              (.seq
                (.seq
                  (.region [1, 5, 6, 7, 71] [
                      ⟨some 69, .move (.t 7), none⟩,
                      ⟨some 70, .len 1 (.t 69), none⟩,
                      ⟨some 71, .bin .eql (.t 70) (.c (.p (.int .i64 0))), none⟩])
                  (.cond (.t 71)
                    (.seq
                      (.region [4] [
                          ⟨some 72, .move (.t 5), none⟩,
                          ⟨some 73, .move (.t 72), none⟩,
                          ⟨some 74, .move (.t 6), some (73, true)⟩,
                          ⟨some 75, .call (.c (.fn 16 [] [])) [(.t 74)], some (73, true)⟩,
                          ⟨some 76, .pick (.t 73) (.t 75) (.c (.p (.bool false))), none⟩,
                          ⟨some 4, .move (.t 76), none⟩])
                      .ret)
                    .skip))
                (.seq
                  (.region [5, 6, 7, 16] [
                      ⟨some 77, .move (.t 1), none⟩,
                      ⟨some 78, .conv .i64 (.t 77), none⟩,
                      ⟨some 79, .move (.t 7), none⟩,
                      ⟨some 80, .len 1 (.t 79), none⟩,
                      ⟨some 81, .bin .rem (.t 78) (.t 80), none⟩,
                      ⟨some 16, .move (.t 81), none⟩])
                  (.seq
                    (.draw [5, 6, 7, 16, 17] [(4, 9)] [
                        ⟨some 82, .move (.t 7), none⟩,
                        ⟨some 83, .move (.t 16), none⟩,
                        ⟨some 84, .iaddr none 3 (.t 82) (.t 83), none⟩,
                        ⟨some 85, .faddr (.t 84) 2, none⟩,
                        ⟨some 86, .load none (.t 85), none⟩,
                        ⟨some 87, .move (.t 7), none⟩,
                        ⟨some 88, .move (.t 16), none⟩,
                        ⟨some 89, .iaddr none 3 (.t 87) (.t 88), none⟩,
                        ⟨some 90, .faddr (.t 89) 1, none⟩,
                        ⟨some 91, .load none (.t 90), none⟩,
                        ⟨some 92, .len 0 (.t 91), none⟩,
                        ⟨some 93, .bin .add (.t 86) (.t 92), none⟩,
                        ⟨some 17, .move (.t 93), none⟩])
                    (.seq
                      (.seq
                        (.region [5, 6, 7, 16, 17, 101] [
                            ⟨some 94, .move (.t 17), none⟩,
                            ⟨some 95, .bin .lss (.t 94) (.c (.p (.int .i64 0))), none⟩,
                            ⟨some 96, .move (.t 95), none⟩,
                            ⟨some 97, .move (.t 17), some (96, false)⟩,
                            ⟨some 98, .move (.t 6), some (96, false)⟩,
                            ⟨some 99, .len 0 (.t 98), some (96, false)⟩,
                            ⟨some 100, .bin .gtr (.t 97) (.t 99), some (96, false)⟩,
                            ⟨some 101, .pick (.t 96) (.c (.p (.bool true))) (.t 100), none⟩])
                        (.cond (.t 101)
                          (.seq
                            (.region [4] [
                                ⟨some 4, .move (.c (.p (.bool false))), none⟩])
                            .ret)
                          .skip))
                      (.seq
                        (.region [5, 7, 16, 18, 19] [
                            ⟨some 103, .move (.t 6), none⟩,
                            ⟨some 104, .move (.t 17), none⟩,
                            ⟨some 105, .slice 0 (.t 103) none (some (.t 104)), none⟩,
                            ⟨some 106, .call (.c (.fn 13 [] [])) [(.t 105)], none⟩,
                            ⟨some 102, .move (.t 106), none⟩,
                            ⟨some 107, .extract (.t 102) 0, none⟩,
                            ⟨some 108, .extract (.t 102) 1, none⟩,
                            ⟨some 109, .extract (.t 102) 2, none⟩,
                            ⟨some 18, .move (.t 107), none⟩,
                            ⟨some 19, .move (.t 108), none⟩,
                            ⟨some 20, .move (.t 109), none⟩])
                        (.seq
                          (.region [4] [
                              ⟨some 110, .move (.t 5), none⟩,
                              ⟨some 111, .move (.t 110), none⟩,
                              ⟨some 112, .move (.t 19), some (111, true)⟩,
                              ⟨some 113, .bin .eql (.t 112) (.c (.p (.int .i64 0))), some (111, true)⟩,
                              ⟨some 114, .pick (.t 111) (.t 113) (.c (.p (.bool false))), none⟩,
                              ⟨some 115, .move (.t 114), none⟩,
                              ⟨some 116, .move (.t 18), some (115, true)⟩,
                              ⟨some 117, .move (.t 7), some (115, true)⟩,
                              ⟨some 118, .move (.t 16), some (115, true)⟩,
                              ⟨some 119, .bin .add (.t 118) (.c (.p (.int .i64 1))), some (115, true)⟩,
                              ⟨some 120, .slice 3 (.t 117) none (some (.t 119)), some (115, true)⟩,
                              ⟨some 121, .call (.c (.fn 15 [] [])) [(.t 116), (.t 120)], some (115, true)⟩,
                              ⟨some 122, .pick (.t 115) (.t 121) (.c (.p (.bool false))), none⟩,
                              ⟨some 4, .move (.t 122), none⟩])
                          .ret)))))))))))

theorem ok7 : FOk Tryd.prog 7 fc7 := FOk.of Tryd.func7 (by kernel_rfl)

/-- armature/armaturelaw01.LexerLongest -/
def fc8_b0 : SC :=
    (.loc
      (.seq
        (.seq
          (.region [3, 4, 7, 31] [
              ⟨some 28, .move (.t 7), none⟩,
              ⟨some 29, .move (.t 4), none⟩,
              ⟨some 30, .len 1 (.t 29), none⟩,
              ⟨some 31, .bin .lss (.t 28) (.t 30), none⟩])
          (.cond (.t 31)
            .skip
            (.exit 0)))
        (.seq
          (.block 1
            (.seq
              (.region [3, 4, 7, 8] [
                  ⟨some 34, .move (.t 4), none⟩,
                  ⟨some 35, .move (.t 7), none⟩,
                  ⟨some 36, .bin .sub (.t 35) (.c (.p (.int .i64 1))), none⟩,
                  ⟨some 37, .iaddr none 3 (.t 34) (.t 36), none⟩,
                  ⟨some 38, .load (some 3) (.t 37), none⟩,
                  ⟨some 8, .alloc [.int .i64 0, .str [], .int .i64 0], none⟩,
                  ⟨none, .store 3 (.t 8) (.t 38), none⟩])
              (.seq
                (.region [3, 4, 7, 8, 9] [
                    ⟨some 39, .move (.t 4), none⟩,
                    ⟨some 40, .move (.t 7), none⟩,
                    ⟨some 41, .iaddr none 3 (.t 39) (.t 40), none⟩,
                    ⟨some 42, .load (some 3) (.t 41), none⟩,
                    ⟨some 9, .alloc [.int .i64 0, .str [], .int .i64 0], none⟩,
                    ⟨none, .store 3 (.t 9) (.t 42), none⟩])
                (.seq
                  (.seq
                    (.region [3, 4, 7, 8, 9, 56] [
                        ⟨some 43, .faddr (.t 8) 2, none⟩,
                        ⟨some 44, .load none (.t 43), none⟩,
                        ⟨some 45, .faddr (.t 8) 1, none⟩,
                        ⟨some 46, .load none (.t 45), none⟩,
                        ⟨some 47, .len 0 (.t 46), none⟩,
                        ⟨some 48, .bin .add (.t 44) (.t 47), none⟩,
                        ⟨some 49, .faddr (.t 9) 2, none⟩,
                        ⟨some 50, .load none (.t 49), none⟩,
                        ⟨some 51, .bin .neq (.t 48) (.t 50), none⟩,
                        ⟨some 52, .move (.t 51), none⟩,
                        ⟨some 53, .faddr (.t 9) 1, some (52, false)⟩,
                        ⟨some 54, .load none (.t 53), some (52, false)⟩,
                        ⟨some 55, .bin .eql (.t 54) (.c (.p (.str []))), some (52, false)⟩,
                        ⟨some 56, .pick (.t 52) (.c (.p (.bool true))) (.t 55), none⟩])
                    (.cond (.t 56)
                      (.exit 1)
                      .skip))
                  (.seq
                    (.draw [3, 4, 7, 10, 11] [(1, 3)] [
                        ⟨some 58, .faddr (.t 8) 1, none⟩,
                        ⟨some 59, .load none (.t 58), none⟩,
                        ⟨some 60, .faddr (.t 9) 1, none⟩,
                        ⟨some 61, .load none (.t 60), none⟩,
                        ⟨some 62, .slice 0 (.t 61) none (some (.c (.p (.int .i64 1)))), none⟩,
                        ⟨some 63, .bin .add (.t 59) (.t 62), none⟩,
                        ⟨some 64, .call (.c (.fn 13 [] [])) [(.t 63)], none⟩,
                        ⟨some 57, .move (.t 64), none⟩,
                        ⟨some 65, .extract (.t 57) 0, none⟩,
                        ⟨some 66, .extract (.t 57) 1, none⟩,
                        ⟨some 67, .extract (.t 57) 2, none⟩,
                        ⟨some 10, .move (.t 65), none⟩,
                        ⟨some 11, .move (.t 66), none⟩,
                        ⟨some 12, .move (.t 67), none⟩])
                    (.seq
                      (.region [3, 4, 7, 74] [
                          ⟨some 68, .move (.t 11), none⟩,
                          ⟨some 69, .bin .eql (.t 68) (.c (.p (.int .i64 0))), none⟩,
                          ⟨some 70, .move (.t 69), none⟩,
                          ⟨some 71, .move (.t 10), some (70, true)⟩,
                          ⟨some 72, .len 1 (.t 71), some (70, true)⟩,
                          ⟨some 73, .bin .lss (.t 72) (.c (.p (.int .i64 2))), some (70, true)⟩,
                          ⟨some 74, .pick (.t 70) (.t 73) (.c (.p (.bool false))), none⟩])
                      (.cond (.t 74)
                        (.seq
                          (.region [2] [
                              ⟨some 2, .move (.c (.p (.bool false))), none⟩])
                          .ret)
                        .skip)))))))
          (.region [3, 4, 7] [
              ⟨some 32, .move (.t 7), none⟩,
              ⟨some 33, .bin .add (.t 32) (.c (.p (.int .i64 1))), none⟩,
              ⟨some 7, .move (.t 33), none⟩]))))

def fc8 : FC where
  nt := 76
  np := 1
  res := [.t 2]
  body :=
    (.seq
      (.region [0] [
          ⟨some 2, .move (.c (.p (.bool false))), none⟩])
      (.seq
        (.region [0, 3] [
            ⟨some 13, .call (.c (.fn 11 [] [])) [], none⟩,
            ⟨some 3, .move (.t 13), none⟩])
        (.seq
          (.region [3, 4, 5] [
              ⟨some 15, .move (.t 0), none⟩,
              ⟨some 16, .call (.c (.fn 12 [] [])) [(.t 15)], none⟩,
              ⟨some 17, .call (.c (.fn 13 [] [])) [(.t 16)], none⟩,
              ⟨some 14, .move (.t 17), none⟩,
              ⟨some 18, .extract (.t 14) 0, none⟩,
              ⟨some 19, .extract (.t 14) 1, none⟩,
              ⟨some 20, .extract (.t 14) 2, none⟩,
              ⟨some 4, .move (.t 18), none⟩,
              ⟨some 5, .move (.t 19), none⟩,
              ⟨some 6, .move (.t 20), none⟩])
          (.seq
            (.seq
              (.region [3, 4, 5, 22] [
                  ⟨some 21, .move (.t 5), none⟩,
                  ⟨some 22, .bin .neq (.t 21) (.c (.p (.int .i64 0))), none⟩])
              (.cond (.t 22)
                (.seq
                  (.region [2] [
                      ⟨some 23, .move (.t 3), none⟩,
                      ⟨some 24, .move (.t 23), none⟩,
                      ⟨some 25, .move (.t 5), some (24, true)⟩,
                      ⟨some 26, .bin .eql (.t 25) (.c (.p (.int .i64 10))), some (24, true)⟩,
                      ⟨some 27, .pick (.t 24) (.t 26) (.c (.p (.bool false))), none⟩,
                      ⟨some 2, .move (.t 27), none⟩])
                  .ret)
                .skip))
            (.seq
              (.seq
                (.region [3, 4, 7] [
                    ⟨some 7, .move (.c (.p (.int .i64 1))), none⟩])
                (.block 0
                  (.loop [3, 4, 7]
                    fc8_b0)))
              (.seq
                (.region [2] [
                    ⟨some 75, .move (.t 3), none⟩,
                    ⟨some 2, .move (.t 75), none⟩])
                .ret))))))

theorem ok8 : FOk Tryd.prog 8 fc8 := FOk.of Tryd.func8 (by kernel_rfl)

/-- armature/armaturelaw01.LexerWords -/
def fc9_b0 : SC :=
    (.seq
      (.seq
        (.region [1, 2, 7, 8, 9, 10, 39] [
            ⟨some 32, .move (.t 10), none⟩,
            ⟨some 33, .move (.t 1), none⟩,
            ⟨some 34, .len 1 (.t 33), none⟩,
            ⟨some 35, .bin .lss (.t 32) (.t 34), none⟩,
            ⟨some 36, .move (.t 35), none⟩,
            ⟨some 37, .move (.t 10), some (36, true)⟩,
            ⟨some 38, .bin .lss (.t 37) (.c (.p (.int .i64 40))), some (36, true)⟩,
            ⟨some 39, .pick (.t 36) (.t 38) (.c (.p (.bool false))), none⟩])
        (.cond (.t 39)
          .skip
          (.exit 0)))
      (.seq
        (.block 1
          (.seq
            (.region [1, 2, 7, 8, 9, 10, 11] [
                ⟨some 42, .move (.t 1), none⟩,
                ⟨some 43, .move (.t 10), none⟩,
                ⟨some 44, .iaddr none 1 (.t 42) (.t 43), none⟩,
                ⟨some 45, .load none (.t 44), none⟩,
                ⟨some 46, .conv .i64 (.t 45), none⟩,
                ⟨some 47, .move (.t 8), none⟩,
                ⟨some 48, .len 0 (.t 47), none⟩,
                ⟨some 49, .bin .rem (.t 46) (.t 48), none⟩,
                ⟨some 11, .move (.t 49), none⟩])
            (.region [1, 2, 7, 8, 9, 10] [
                ⟨some 50, .move (.t 9), none⟩,
                ⟨some 51, .move (.t 8), none⟩,
                ⟨some 52, .move (.t 11), none⟩,
                ⟨some 53, .move (.t 11), none⟩,
                ⟨some 54, .bin .add (.t 53) (.c (.p (.int .i64 1))), none⟩,
                ⟨some 55, .slice 0 (.t 51) (some (.t 52)) (some (.t 54)), none⟩,
                ⟨some 56, .bin .add (.t 50) (.t 55), none⟩,
                ⟨some 9, .move (.t 56), none⟩])))
        (.region [1, 2, 7, 8, 9, 10] [
            ⟨some 40, .move (.t 10), none⟩,
            ⟨some 41, .bin .add (.t 40) (.c (.p (.int .i64 1))), none⟩,
            ⟨some 10, .move (.t 41), none⟩])))

def fc9_b1 : SC :=
    (.seq
      (.seq
        (.region [7, 9, 12, 13, 64] [
            ⟨some 59, .move (.t 13), none⟩,
            ⟨some 60, .bin .gtr (.t 59) (.c (.p (.int .u32 0))), none⟩,
            ⟨some 61, .move (.t 60), none⟩,
            ⟨some 62, .move (.t 12), some (61, false)⟩,
            ⟨some 63, .bin .eql (.t 62) (.c (.p (.str []))), some (61, false)⟩,
            ⟨some 64, .pick (.t 61) (.c (.p (.bool true))) (.t 63), none⟩])
        (.cond (.t 64)
          .skip
          (.exit 2)))
      (.seq
        (.block 3
          (.region [7, 9, 12, 13] [
              ⟨some 67, .move (.t 13), none⟩,
              ⟨some 68, .bin .rem (.t 67) (.c (.p (.int .u32 10))), none⟩,
              ⟨some 69, .bin .add (.c (.p (.int .u32 48))) (.t 68), none⟩,
              ⟨some 70, .conv .u8 (.t 69), none⟩,
              ⟨some 71, .bslice 1 1 (.int .u8 0) [(0, (.t 70))], none⟩,
              ⟨some 72, .toStr (.t 71), none⟩,
              ⟨some 73, .move (.t 12), none⟩,
              ⟨some 74, .bin .add (.t 72) (.t 73), none⟩,
              ⟨some 12, .move (.t 74), none⟩]))
        (.region [7, 9, 12, 13] [
            ⟨some 65, .move (.t 13), none⟩,
            ⟨some 66, .bin .quo (.t 65) (.c (.p (.int .u32 10))), none⟩,
            ⟨some 13, .move (.t 66), none⟩])))

def fc9 : FC where
  nt := 151
  np := 3
  res := [.t 6]
  body :=
    (.seq
      (.region [0, 1, 2] [
          ⟨some 6, .move (.c (.p (.bool false))), none⟩])
      (.seq
        (.region [0, 1, 2, 7] [
            ⟨some 26, .call (.c (.fn 11 [] [])) [], none⟩,
            ⟨some 7, .move (.t 26), none⟩])
        (.seq
          (.region [0, 1, 2, 7, 8] [
              ⟨some 8, .move (.c (.p (.str [97, 98, 99, 120, 121, 122, 65, 66, 67, 88, 89, 90, 48, 49, 50, 51, 52, 53, 54, 55, 56, 57, 95]))), none⟩])
          (.seq
            (.region [1, 2, 7, 8, 9] [
                ⟨some 27, .move (.t 0), none⟩,
                ⟨some 28, .bin .rem (.t 27) (.c (.p (.int .u8 26))), none⟩,
                ⟨some 29, .bin .add (.c (.p (.int .u8 97))) (.t 28), none⟩,
                ⟨some 30, .bslice 1 1 (.int .u8 0) [(0, (.t 29))], none⟩,
                ⟨some 31, .toStr (.t 30), none⟩,
                ⟨some 9, .move (.t 31), none⟩])
            (.seq
              (.seq
                (.region [1, 2, 7, 8, 9, 10] [
                    ⟨some 10, .move (.c (.p (.int .i64 0))), none⟩])
                (.block 0
                  (.loop [1, 2, 7, 8, 9, 10]
                    fc9_b0)))
              (.seq
                (.region [2, 7, 9, 12] [
                    ⟨some 12, .move (.c (.p (.str []))), none⟩])
                (.seq
                  (.seq
                    (.region [7, 9, 12, 13] [
                        ⟨some 57, .move (.t 2), none⟩,
                        ⟨some 58, .bin .rem (.t 57) (.c (.p (.int .u32 1000000000))), none⟩,
                        ⟨some 13, .move (.t 58), none⟩])
                    (.block 2
                      (.loop [7, 9, 12, 13]
                        fc9_b1)))
                  (.seq
                    (.region [7, 9, 12, 14, 15] [
                        ⟨some 76, .move (.t 9), none⟩,
                        ⟨some 77, .call (.c (.fn 13 [] [])) [(.t 76)], none⟩,
                        ⟨some 75, .move (.t 77), none⟩,
                        ⟨some 78, .extract (.t 75) 0, none⟩,
                        ⟨some 79, .extract (.t 75) 1, none⟩,
                        ⟨some 80, .extract (.t 75) 2, none⟩,
                        ⟨some 14, .move (.t 78), none⟩,
                        ⟨some 15, .move (.t 79), none⟩,
                        ⟨some 16, .move (.t 80), none⟩])
                    (.seq
                      (.region [7, 9, 12, 14, 15, 17, 18] [
                          ⟨some 82, .move (.t 12), none⟩,
                          ⟨some 83, .call (.c (.fn 13 [] [])) [(.t 82)], none⟩,
                          ⟨some 81, .move (.t 83), none⟩,
                          ⟨some 84, .extract (.t 81) 0, none⟩,
                          ⟨some 85, .extract (.t 81) 1, none⟩,
                          ⟨some 86, .extract (.t 81) 2, none⟩,
                          ⟨some 17, .move (.t 84), none⟩,
                          ⟨some 18, .move (.t 85), none⟩,
                          ⟨some 19, .move (.t 86), none⟩])
                      (.seq
                        (.region [7, 9, 12, 14, 15, 17, 18, 21] [
                            ⟨some 88, .move (.t 12), none⟩,
                            ⟨some 89, .bin .add (.c (.p (.str [48]))) (.t 88), none⟩,
                            ⟨some 90, .call (.c (.fn 13 [] [])) [(.t 89)], none⟩,
                            ⟨some 87, .move (.t 90), none⟩,
                            ⟨some 91, .extract (.t 87) 0, none⟩,
                            ⟨some 92, .extract (.t 87) 1, none⟩,
                            ⟨some 93, .extract (.t 87) 2, none⟩,
                            ⟨some 20, .move (.t 91), none⟩,
                            ⟨some 21, .move (.t 92), none⟩,
                            ⟨some 22, .move (.t 93), none⟩])
                        (.seq
                          (.region [7, 9, 12, 14, 15, 17, 18, 21, 24] [
                              ⟨some 95, .move (.t 12), none⟩,
                              ⟨some 96, .move (.t 9), none⟩,
                              ⟨some 97, .bin .add (.t 95) (.t 96), none⟩,
                              ⟨some 98, .call (.c (.fn 13 [] [])) [(.t 97)], none⟩,
                              ⟨some 94, .move (.t 98), none⟩,
                              ⟨some 99, .extract (.t 94) 0, none⟩,
                              ⟨some 100, .extract (.t 94) 1, none⟩,
                              ⟨some 101, .extract (.t 94) 2, none⟩,
                              ⟨some 23, .move (.t 99), none⟩,
                              ⟨some 24, .move (.t 100), none⟩,
                              ⟨some 25, .move (.t 101), none⟩])
                          (.seq
                            (.seq
                              (.region [7, 12, 17, 18, 21, 24, 124] [
                                  ⟨some 102, .move (.t 15), none⟩,
                                  ⟨some 103, .bin .eql (.t 102) (.c (.p (.int .i64 0))), none⟩,
                                  ⟨some 104, .move (.t 9), none⟩,
                                  ⟨some 105, .len 0 (.t 104), none⟩,
                                  ⟨some 106, .bin .leq (.t 105) (.c (.p (.int .i64 16))), none⟩,
                                  ⟨some 107, .eqk 0 true (.t 103) (.t 106), none⟩,
                                  ⟨some 108, .move (.t 107), none⟩,
                                  ⟨some 109, .move (.t 15), some (108, false)⟩,
                                  ⟨some 110, .bin .eql (.t 109) (.c (.p (.int .i64 0))), some (108, false)⟩,
                                  ⟨some 111, .move (.t 110), some (108, false)⟩,
                                  ⟨some 112, .move (.t 14), some (111, true)⟩,
                                  ⟨some 113, .len 1 (.t 112), some (111, true)⟩,
                                  ⟨some 114, .bin .neq (.t 113) (.c (.p (.int .i64 1))), some (111, true)⟩,
                                  ⟨some 115, .move (.t 114), some (111, true)⟩,
                                  ⟨some 116, .move (.t 14), some (115, false)⟩,
                                  ⟨some 117, .iaddr none 3 (.t 116) (.c (.p (.int .i64 0))), some (115, false)⟩,
                                  ⟨some 118, .load (some 3) (.t 117), some (115, false)⟩,
                                  ⟨some 119, .move (.t 9), some (115, false)⟩,
                                  ⟨some 120, .build [.int .i64 0, .str [], .int .i64 0] [(0, 1, (.c (.p (.int .i64 1)))), (1, 1, (.t 119))], some (115, false)⟩,
                                  ⟨some 121, .eqs true [1, 2, 1] (.t 118) (.t 120), some (115, false)⟩,
                                  ⟨some 122, .pick (.t 115) (.c (.p (.bool true))) (.t 121), some (111, true)⟩,
                                  ⟨some 123, .pick (.t 111) (.t 122) (.c (.p (.bool false))), some (108, false)⟩,
                                  ⟨some 124, .pick (.t 108) (.c (.p (.bool true))) (.t 123), none⟩])
                              (.cond (.t 124)
                                (.seq
                                  (.region [6] [
                                      ⟨some 6, .move (.c (.p (.bool false))), none⟩])
                                  .ret)
                                .skip))
                            (.seq
                              (.region [6] [
                                  ⟨some 125, .move (.t 7), none⟩,
                                  ⟨some 126, .move (.t 125), none⟩,
                                  ⟨some 127, .move (.t 18), some (126, true)⟩,
                                  ⟨some 128, .bin .eql (.t 127) (.c (.p (.int .i64 0))), some (126, true)⟩,
                                  ⟨some 129, .pick (.t 126) (.t 128) (.c (.p (.bool false))), none⟩,
                                  ⟨some 130, .move (.t 129), none⟩,
                                  ⟨some 131, .move (.t 17), some (130, true)⟩,
                                  ⟨some 132, .len 1 (.t 131), some (130, true)⟩,
                                  ⟨some 133, .bin .eql (.t 132) (.c (.p (.int .i64 1))), some (130, true)⟩,
                                  ⟨some 134, .pick (.t 130) (.t 133) (.c (.p (.bool false))), none⟩,
                                  ⟨some 135, .move (.t 134), none⟩,
                                  ⟨some 136, .move (.t 17), some (135, true)⟩,
                                  ⟨some 137, .iaddr none 3 (.t 136) (.c (.p (.int .i64 0))), some (135, true)⟩,
                                  ⟨some 138, .load (some 3) (.t 137), some (135, true)⟩,
                                  ⟨some 139, .move (.t 12), some (135, true)⟩,
                                  ⟨some 140, .build [.int .i64 0, .str [], .int .i64 0] [(0, 1, (.c (.p (.int .i64 2)))), (1, 1, (.t 139))], some (135, true)⟩,
                                  ⟨some 141, .eqs false [1, 2, 1] (.t 138) (.t 140), some (135, true)⟩,
                                  ⟨some 142, .pick (.t 135) (.t 141) (.c (.p (.bool false))), none⟩,
                                  ⟨some 143, .move (.t 142), none⟩,
                                  ⟨some 144, .move (.t 21), some (143, true)⟩,
                                  ⟨some 145, .bin .eql (.t 144) (.c (.p (.int .i64 10))), some (143, true)⟩,
                                  ⟨some 146, .pick (.t 143) (.t 145) (.c (.p (.bool false))), none⟩,
                                  ⟨some 147, .move (.t 146), none⟩,
                                  ⟨some 148, .move (.t 24), some (147, true)⟩,
                                  ⟨some 149, .bin .eql (.t 148) (.c (.p (.int .i64 10))), some (147, true)⟩,
                                  ⟨some 150, .pick (.t 147) (.t 149) (.c (.p (.bool false))), none⟩,
                                  ⟨some 6, .move (.t 150), none⟩])
                              .ret)))))))))))))

theorem ok9 : FOk Tryd.prog 9 fc9 := FOk.of Tryd.func9 (by kernel_rfl)

/-- armature/armaturelaw01.LexerLimit -/
def fc10_b0 : SC :=
    (.loc
      (.seq
        (.seq
          (.region [0, 1, 5, 6, 23] [
              ⟨some 21, .move (.t 6), none⟩,
              ⟨some 22, .len 1 (.t 21), none⟩,
              ⟨some 23, .bin .lss (.t 22) (.c (.p (.int .i64 20000))), none⟩])
          (.cond (.t 23)
            .skip
            (.exit 0)))
        (.block 1
          (.region [0, 1, 5, 6] [
              ⟨some 24, .move (.t 6), none⟩,
              ⟨some 25, .bslice 1 1 (.int .u8 0) [(0, (.c (.p (.int .u8 10))))], none⟩,
              ⟨some 26, .append 5 1 1 (.t 24) (.t 25), none⟩,
              ⟨some 6, .move (.t 26), none⟩]))))

def fc10_b1 : SC :=
    (.loc
      (.seq
        (.seq
          (.region [1, 5, 6, 7, 8, 9, 10, 11, 12, 13, 42] [
              ⟨some 41, .move (.t 13), none⟩,
              ⟨some 42, .bin .lss (.t 41) (.c (.p (.int .i64 256))), none⟩])
          (.cond (.t 42)
            .skip
            (.exit 2)))
        (.seq
          (.block 3
            (.seq
              (.region [1, 5, 6, 7, 8, 9, 10, 11, 12, 13, 48] [
                  ⟨some 45, .move (.t 13), none⟩,
                  ⟨some 46, .move (.t 1), none⟩,
                  ⟨some 47, .conv .i64 (.t 46), none⟩,
                  ⟨some 48, .bin .leq (.t 45) (.t 47), none⟩])
              (.cond (.t 48)
                (.region [1, 5, 6, 7, 8, 9, 10, 11, 12, 13] [
                    ⟨some 49, .move (.t 6), none⟩,
                    ⟨some 50, .bslice 1 1 (.int .u8 0) [(0, (.c (.p (.int .u8 10))))], none⟩,
                    ⟨some 51, .append 5 1 1 (.t 49) (.t 50), none⟩,
                    ⟨some 6, .move (.t 51), none⟩])
                .skip)))
          (.region [1, 5, 6, 7, 8, 9, 10, 11, 12, 13] [
              ⟨some 43, .move (.t 13), none⟩,
              ⟨some 44, .bin .add (.t 43) (.c (.p (.int .i64 1))), none⟩,
              ⟨some 13, .move (.t 44), none⟩]))))

def fc10 : FC where
  nt := 88
  np := 2
  res := [.t 4]
  body :=
    (.seq
      (.region [0, 1] [
          ⟨some 4, .move (.c (.p (.bool false))), none⟩])
      (.seq
        (.region [0, 1, 5] [
            ⟨some 17, .call (.c (.fn 11 [] [])) [], none⟩,
            ⟨some 5, .move (.t 17), none⟩])
        (.seq
          (.region [0, 1, 5, 6] [
              ⟨some 18, .move (.t 0), none⟩,
              ⟨some 19, .call (.c (.fn 12 [] [])) [(.t 18)], none⟩,
              ⟨some 20, .toBytes 5 (.t 19), none⟩,
              ⟨some 6, .move (.t 20), none⟩])
          (.seq
            (.block 0
              (.seq
                (.tok 6 5 1)
                (.loop [0, 1, 5, 6]
                  fc10_b0)))
            (.seq
              (.region [0, 1, 5, 6, 7, 8, 9] [
                  ⟨some 28, .move (.t 6), none⟩,
                  ⟨some 29, .toStr (.t 28), none⟩,
                  ⟨some 30, .call (.c (.fn 13 [] [])) [(.t 29)], none⟩,
                  ⟨some 27, .move (.t 30), none⟩,
                  ⟨some 31, .extract (.t 27) 0, none⟩,
                  ⟨some 32, .extract (.t 27) 1, none⟩,
                  ⟨some 33, .extract (.t 27) 2, none⟩,
                  ⟨some 7, .move (.t 31), none⟩,
                  ⟨some 8, .move (.t 32), none⟩,
                  ⟨some 9, .move (.t 33), none⟩])
              (.seq
                (.region [1, 5, 6, 7, 8, 9, 10, 11, 12] [
                    ⟨some 35, .move (.t 0), none⟩,
                    ⟨some 36, .call (.c (.fn 12 [] [])) [(.t 35)], none⟩,
                    ⟨some 37, .call (.c (.fn 13 [] [])) [(.t 36)], none⟩,
                    ⟨some 34, .move (.t 37), none⟩,
                    ⟨some 38, .extract (.t 34) 0, none⟩,
                    ⟨some 39, .extract (.t 34) 1, none⟩,
                    ⟨some 40, .extract (.t 34) 2, none⟩,
                    ⟨some 10, .move (.t 38), none⟩,
                    ⟨some 11, .move (.t 39), none⟩,
                    ⟨some 12, .move (.t 40), none⟩])
                (.seq
                  (.seq
                    (.region [1, 5, 6, 7, 8, 9, 10, 11, 12, 13] [
                        ⟨some 13, .move (.c (.p (.int .i64 0))), none⟩])
                    (.block 2
                      (.seq
                        (.tok 6 5 1)
                        (.loop [1, 5, 6, 7, 8, 9, 10, 11, 12, 13]
                          fc10_b1))))
                  (.seq
                    (.region [5, 7, 8, 9, 10, 11, 12, 14, 15, 16] [
                        ⟨some 53, .move (.t 6), none⟩,
                        ⟨some 54, .toStr (.t 53), none⟩,
                        ⟨some 55, .call (.c (.fn 13 [] [])) [(.t 54)], none⟩,
                        ⟨some 52, .move (.t 55), none⟩,
                        ⟨some 56, .extract (.t 52) 0, none⟩,
                        ⟨some 57, .extract (.t 52) 1, none⟩,
                        ⟨some 58, .extract (.t 52) 2, none⟩,
                        ⟨some 14, .move (.t 56), none⟩,
                        ⟨some 15, .move (.t 57), none⟩,
                        ⟨some 16, .move (.t 58), none⟩])
                    (.seq
                      (.region [4] [
                          ⟨some 59, .move (.t 5), none⟩,
                          ⟨some 60, .move (.t 59), none⟩,
                          ⟨some 61, .move (.t 7), some (60, true)⟩,
                          ⟨some 62, .move (.t 10), some (60, true)⟩,
                          ⟨some 63, .call (.c (.fn 15 [] [])) [(.t 61), (.t 62)], some (60, true)⟩,
                          ⟨some 64, .pick (.t 60) (.t 63) (.c (.p (.bool false))), none⟩,
                          ⟨some 65, .move (.t 64), none⟩,
                          ⟨some 66, .move (.t 8), some (65, true)⟩,
                          ⟨some 67, .move (.t 11), some (65, true)⟩,
                          ⟨some 68, .bin .eql (.t 66) (.t 67), some (65, true)⟩,
                          ⟨some 69, .pick (.t 65) (.t 68) (.c (.p (.bool false))), none⟩,
                          ⟨some 70, .move (.t 69), none⟩,
                          ⟨some 71, .move (.t 9), some (70, true)⟩,
                          ⟨some 72, .move (.t 12), some (70, true)⟩,
                          ⟨some 73, .bin .eql (.t 71) (.t 72), some (70, true)⟩,
                          ⟨some 74, .pick (.t 70) (.t 73) (.c (.p (.bool false))), none⟩,
                          ⟨some 75, .move (.t 74), none⟩,
                          ⟨some 76, .move (.t 14), some (75, true)⟩,
                          ⟨some 77, .len 1 (.t 76), some (75, true)⟩,
                          ⟨some 78, .bin .eql (.t 77) (.c (.p (.int .i64 0))), some (75, true)⟩,
                          ⟨some 79, .pick (.t 75) (.t 78) (.c (.p (.bool false))), none⟩,
                          ⟨some 80, .move (.t 79), none⟩,
                          ⟨some 81, .move (.t 15), some (80, true)⟩,
                          ⟨some 82, .bin .eql (.t 81) (.c (.p (.int .i64 2))), some (80, true)⟩,
                          ⟨some 83, .pick (.t 80) (.t 82) (.c (.p (.bool false))), none⟩,
                          ⟨some 84, .move (.t 83), none⟩,
                          ⟨some 85, .move (.t 16), some (84, true)⟩,
                          ⟨some 86, .bin .eql (.t 85) (.c (.p (.int .i64 0))), some (84, true)⟩,
                          ⟨some 87, .pick (.t 84) (.t 86) (.c (.p (.bool false))), none⟩,
                          ⟨some 4, .move (.t 87), none⟩])
                      .ret)))))))))

theorem ok10 : FOk Tryd.prog 10 fc10 := FOk.of Tryd.func10 (by kernel_rfl)

/-- armature/armaturelaw01.head -/
def fc11 : FC where
  nt := 117
  np := 0
  res := [.t 0]
  body :=
    (.seq
      (.region [] [
          ⟨some 0, .move (.c (.p (.bool false))), none⟩])
      (.seq
        (.region [1, 2, 3] [
            ⟨some 14, .call (.c (.fn 13 [] [])) [(.c (.p (.str [97, 108, 108, 32, 120, 58, 32, 65, 124, 120, 32, 105, 110, 32, 102])))], none⟩,
            ⟨some 13, .move (.t 14), none⟩,
            ⟨some 15, .extract (.t 13) 0, none⟩,
            ⟨some 16, .extract (.t 13) 1, none⟩,
            ⟨some 17, .extract (.t 13) 2, none⟩,
            ⟨some 1, .move (.t 15), none⟩,
            ⟨some 2, .move (.t 16), none⟩,
            ⟨some 3, .move (.t 17), none⟩])
        (.seq
          (.region [1, 2, 3, 4, 5] [
              ⟨some 19, .call (.c (.fn 13 [] [])) [(.c (.p (.str [97, 60, 61, 62, 98, 32, 47, 47, 32, 99])))], none⟩,
              ⟨some 18, .move (.t 19), none⟩,
              ⟨some 20, .extract (.t 18) 0, none⟩,
              ⟨some 21, .extract (.t 18) 1, none⟩,
              ⟨some 22, .extract (.t 18) 2, none⟩,
              ⟨some 4, .move (.t 20), none⟩,
              ⟨some 5, .move (.t 21), none⟩,
              ⟨some 6, .move (.t 22), none⟩])
          (.seq
            (.region [1, 2, 3, 4, 5, 7, 8] [
                ⟨some 24, .call (.c (.fn 13 [] [])) [(.c (.p (.str [97, 43, 43, 43, 98])))], none⟩,
                ⟨some 23, .move (.t 24), none⟩,
                ⟨some 25, .extract (.t 23) 0, none⟩,
                ⟨some 26, .extract (.t 23) 1, none⟩,
                ⟨some 27, .extract (.t 23) 2, none⟩,
                ⟨some 7, .move (.t 25), none⟩,
                ⟨some 8, .move (.t 26), none⟩,
                ⟨some 9, .move (.t 27), none⟩])
            (.seq
              (.region [1, 2, 3, 4, 5, 7, 8, 11, 12] [
                  ⟨some 29, .call (.c (.fn 13 [] [])) [(.c (.p (.str [35, 101, 32, 60, 32, 48, 55])))], none⟩,
                  ⟨some 28, .move (.t 29), none⟩,
                  ⟨some 30, .extract (.t 28) 0, none⟩,
                  ⟨some 31, .extract (.t 28) 1, none⟩,
                  ⟨some 32, .extract (.t 28) 2, none⟩,
                  ⟨some 10, .move (.t 30), none⟩,
                  ⟨some 11, .move (.t 31), none⟩,
                  ⟨some 12, .move (.t 32), none⟩])
              (.seq
                (.seq
                  (.region [1, 2, 3, 4, 5, 7, 8, 11, 12, 45] [
                      ⟨some 33, .move (.t 1), none⟩,
                      ⟨some 34, .len 1 (.t 33), none⟩,
                      ⟨some 35, .bin .neq (.t 34) (.c (.p (.int .i64 8))), none⟩,
                      ⟨some 36, .move (.t 35), none⟩,
                      ⟨some 37, .move (.t 4), some (36, false)⟩,
                      ⟨some 38, .len 1 (.t 37), some (36, false)⟩,
                      ⟨some 39, .bin .neq (.t 38) (.c (.p (.int .i64 3))), some (36, false)⟩,
                      ⟨some 40, .pick (.t 36) (.c (.p (.bool true))) (.t 39), none⟩,
                      ⟨some 41, .move (.t 40), none⟩,
                      ⟨some 42, .move (.t 7), some (41, false)⟩,
                      ⟨some 43, .len 1 (.t 42), some (41, false)⟩,
                      ⟨some 44, .bin .neq (.t 43) (.c (.p (.int .i64 4))), some (41, false)⟩,
                      ⟨some 45, .pick (.t 41) (.c (.p (.bool true))) (.t 44), none⟩])
                  (.cond (.t 45)
                    (.seq
                      (.region [0] [
                          ⟨some 0, .move (.c (.p (.bool false))), none⟩])
                      .ret)
                    .skip))
                (.seq
                  (.region [0] [
                      ⟨some 46, .move (.t 2), none⟩,
                      ⟨some 47, .bin .eql (.t 46) (.c (.p (.int .i64 0))), none⟩,
                      ⟨some 48, .move (.t 47), none⟩,
                      ⟨some 49, .move (.t 3), some (48, true)⟩,
                      ⟨some 50, .bin .eql (.t 49) (.c (.p (.int .i64 0))), some (48, true)⟩,
                      ⟨some 51, .pick (.t 48) (.t 50) (.c (.p (.bool false))), none⟩,
                      ⟨some 52, .move (.t 51), none⟩,
                      ⟨some 53, .move (.t 5), some (52, true)⟩,
                      ⟨some 54, .bin .eql (.t 53) (.c (.p (.int .i64 0))), some (52, true)⟩,
                      ⟨some 55, .pick (.t 52) (.t 54) (.c (.p (.bool false))), none⟩,
                      ⟨some 56, .move (.t 55), none⟩,
                      ⟨some 57, .move (.t 8), some (56, true)⟩,
                      ⟨some 58, .bin .eql (.t 57) (.c (.p (.int .i64 0))), some (56, true)⟩,
                      ⟨some 59, .pick (.t 56) (.t 58) (.c (.p (.bool false))), none⟩,
                      ⟨some 60, .move (.t 59), none⟩,
                      ⟨some 61, .move (.t 1), some (60, true)⟩,
                      ⟨some 62, .iaddr none 3 (.t 61) (.c (.p (.int .i64 0))), some (60, true)⟩,
                      ⟨some 63, .load (some 3) (.t 62), some (60, true)⟩,
                      ⟨some 64, .build [.int .i64 0, .str [], .int .i64 0] [(0, 1, (.c (.p (.int .i64 1)))), (1, 1, (.c (.p (.str [97, 108, 108]))))], some (60, true)⟩,
                      ⟨some 65, .eqs false [1, 2, 1] (.t 63) (.t 64), some (60, true)⟩,
                      ⟨some 66, .pick (.t 60) (.t 65) (.c (.p (.bool false))), none⟩,
                      ⟨some 67, .move (.t 66), none⟩,
                      ⟨some 68, .move (.t 1), some (67, true)⟩,
                      ⟨some 69, .iaddr none 3 (.t 68) (.c (.p (.int .i64 2))), some (67, true)⟩,
                      ⟨some 70, .load (some 3) (.t 69), some (67, true)⟩,
                      ⟨some 71, .build [.int .i64 0, .str [], .int .i64 0] [(0, 1, (.c (.p (.int .i64 3)))), (1, 1, (.c (.p (.str [58])))), (2, 1, (.c (.p (.int .i64 5))))], some (67, true)⟩,
                      ⟨some 72, .eqs false [1, 2, 1] (.t 70) (.t 71), some (67, true)⟩,
                      ⟨some 73, .pick (.t 67) (.t 72) (.c (.p (.bool false))), none⟩,
                      ⟨some 74, .move (.t 73), none⟩,
                      ⟨some 75, .move (.t 1), some (74, true)⟩,
                      ⟨some 76, .iaddr none 3 (.t 75) (.c (.p (.int .i64 4))), some (74, true)⟩,
                      ⟨some 77, .faddr (.t 76) 1, some (74, true)⟩,
                      ⟨some 78, .load none (.t 77), some (74, true)⟩,
                      ⟨some 79, .bin .eql (.t 78) (.c (.p (.str [124]))), some (74, true)⟩,
                      ⟨some 80, .pick (.t 74) (.t 79) (.c (.p (.bool false))), none⟩,
                      ⟨some 81, .move (.t 80), none⟩,
                      ⟨some 82, .move (.t 1), some (81, true)⟩,
                      ⟨some 83, .iaddr none 3 (.t 82) (.c (.p (.int .i64 6))), some (81, true)⟩,
                      ⟨some 84, .load (some 3) (.t 83), some (81, true)⟩,
                      ⟨some 85, .build [.int .i64 0, .str [], .int .i64 0] [(0, 1, (.c (.p (.int .i64 1)))), (1, 1, (.c (.p (.str [105, 110])))), (2, 1, (.c (.p (.int .i64 11))))], some (81, true)⟩,
                      ⟨some 86, .eqs false [1, 2, 1] (.t 84) (.t 85), some (81, true)⟩,
                      ⟨some 87, .pick (.t 81) (.t 86) (.c (.p (.bool false))), none⟩,
                      ⟨some 88, .move (.t 87), none⟩,
                      ⟨some 89, .move (.t 4), some (88, true)⟩,
                      ⟨some 90, .iaddr none 3 (.t 89) (.c (.p (.int .i64 1))), some (88, true)⟩,
                      ⟨some 91, .load (some 3) (.t 90), some (88, true)⟩,
                      ⟨some 92, .build [.int .i64 0, .str [], .int .i64 0] [(0, 1, (.c (.p (.int .i64 3)))), (1, 1, (.c (.p (.str [60, 61, 62])))), (2, 1, (.c (.p (.int .i64 1))))], some (88, true)⟩,
                      ⟨some 93, .eqs false [1, 2, 1] (.t 91) (.t 92), some (88, true)⟩,
                      ⟨some 94, .pick (.t 88) (.t 93) (.c (.p (.bool false))), none⟩,
                      ⟨some 95, .move (.t 94), none⟩,
                      ⟨some 96, .move (.t 7), some (95, true)⟩,
                      ⟨some 97, .iaddr none 3 (.t 96) (.c (.p (.int .i64 1))), some (95, true)⟩,
                      ⟨some 98, .faddr (.t 97) 1, some (95, true)⟩,
                      ⟨some 99, .load none (.t 98), some (95, true)⟩,
                      ⟨some 100, .bin .eql (.t 99) (.c (.p (.str [43, 43]))), some (95, true)⟩,
                      ⟨some 101, .pick (.t 95) (.t 100) (.c (.p (.bool false))), none⟩,
                      ⟨some 102, .move (.t 101), none⟩,
                      ⟨some 103, .move (.t 7), some (102, true)⟩,
                      ⟨some 104, .iaddr none 3 (.t 103) (.c (.p (.int .i64 2))), some (102, true)⟩,
                      ⟨some 105, .faddr (.t 104) 1, some (102, true)⟩,
                      ⟨some 106, .load none (.t 105), some (102, true)⟩,
                      ⟨some 107, .bin .eql (.t 106) (.c (.p (.str [43]))), some (102, true)⟩,
                      ⟨some 108, .pick (.t 102) (.t 107) (.c (.p (.bool false))), none⟩,
                      ⟨some 109, .move (.t 108), none⟩,
                      ⟨some 110, .move (.t 11), some (109, true)⟩,
                      ⟨some 111, .bin .eql (.t 110) (.c (.p (.int .i64 10))), some (109, true)⟩,
                      ⟨some 112, .pick (.t 109) (.t 111) (.c (.p (.bool false))), none⟩,
                      ⟨some 113, .move (.t 112), none⟩,
                      ⟨some 114, .move (.t 12), some (113, true)⟩,
                      ⟨some 115, .bin .eql (.t 114) (.c (.p (.int .i64 5))), some (113, true)⟩,
                      ⟨some 116, .pick (.t 113) (.t 115) (.c (.p (.bool false))), none⟩,
                      ⟨some 0, .move (.t 116), none⟩])
                  .ret)))))))

theorem ok11 : FOk Tryd.prog 11 fc11 := FOk.of Tryd.func11 (by kernel_rfl)

/-- armature/armaturelaw01.few -/
def fc12 : FC where
  nt := 8
  np := 1
  res := [.t 2]
  body :=
    (.seq
      (.region [0] [
          ⟨some 2, .move (.c (.p (.str []))), none⟩])
      (.seq
        (.region [2] [
            ⟨some 3, .move (.t 0), none⟩,
            ⟨some 4, .move (.t 0), none⟩,
            ⟨some 5, .len 0 (.t 4), none⟩,
            ⟨some 6, .minmax false (.t 5) (.c (.p (.int .i64 2000))), none⟩,
            ⟨some 7, .slice 0 (.t 3) none (some (.t 6)), none⟩,
            ⟨some 2, .move (.t 7), none⟩])
        .ret))

theorem ok12 : FOk Tryd.prog 12 fc12 := FOk.of Tryd.func12 (by kernel_rfl)

/-- armature/lexer.Lex -/
def fc13_b0 : SC :=
    (.loc
      (.seq
        (.seq
          (.region [0, 5, 6, 23] [
              ⟨some 17, .move (.t 5), none⟩,
              ⟨some 18, .nilCheck (.t 17), none⟩,
              ⟨some 19, .faddr (.t 18) 1, none⟩,
              ⟨some 20, .load none (.t 19), none⟩,
              ⟨some 21, .move (.t 0), none⟩,
              ⟨some 22, .len 0 (.t 21), none⟩,
              ⟨some 23, .bin .lss (.t 20) (.t 22), none⟩])
          (.cond (.t 23)
            .skip
            (.exit 0)))
        (.seq
          (.block 1
            (.seq
              (.region [0, 5, 6, 7, 8] [
                  ⟨some 27, .move (.t 5), none⟩,
                  ⟨some 28, .call (.c (.fn 19 [] [])) [(.t 27)], none⟩,
                  ⟨some 26, .move (.t 28), none⟩,
                  ⟨some 29, .extract (.t 26) 0, none⟩,
                  ⟨some 30, .extract (.t 26) 1, none⟩,
                  ⟨some 7, .alloc [.int .i64 0, .str [], .int .i64 0], none⟩,
                  ⟨none, .store 3 (.t 7) (.t 29), none⟩,
                  ⟨some 8, .move (.t 30), none⟩])
              (.seq
                (.seq
                  (.region [0, 5, 6, 7, 32] [
                      ⟨some 31, .move (.t 8), none⟩,
                      ⟨some 32, .un .not (.t 31), none⟩])
                  (.cond (.t 32)
                    (.seq
                      (.draw [2, 3, 4] [] [
                          ⟨some 33, .faddr (.t 7) 2, none⟩,
                          ⟨some 34, .load none (.t 33), none⟩,
                          ⟨some 2, .move (.c (.p (.nils))), none⟩,
                          ⟨some 3, .move (.c (.p (.int .i64 10))), none⟩,
                          ⟨some 4, .move (.t 34), none⟩])
                      .ret)
                    .skip))
                (.region [0, 5, 6] [
                    ⟨some 35, .move (.t 6), none⟩,
                    ⟨some 36, .load (some 3) (.t 7), none⟩,
                    ⟨some 37, .bslice 3 1 (.agg [.int .i64 0, .str [], .int .i64 0]) [(0, (.t 36))], none⟩,
                    ⟨some 38, .append 31 3 32 (.t 35) (.t 37), none⟩,
                    ⟨some 6, .move (.t 38), none⟩]))))
          (.region [0, 5, 6] [
              ⟨some 24, .move (.t 5), none⟩,
              ⟨some 25, .call (.c (.fn 18 [] [])) [(.t 24)], none⟩]))))

def fc13 : FC where
  nt := 40
  np := 1
  res := [.t 2, .t 3, .t 4]
  body :=
    (.seq
      (.region [0] [
          ⟨some 2, .move (.c (.p (.nils))), none⟩,
          ⟨some 3, .move (.c (.p (.int .i64 0))), none⟩,
          ⟨some 4, .move (.c (.p (.int .i64 0))), none⟩])
      (.seq
        (.seq
          (.region [0, 11] [
              ⟨some 9, .move (.t 0), none⟩,
              ⟨some 10, .len 0 (.t 9), none⟩,
              ⟨some 11, .bin .gtr (.t 10) (.c (.p (.int .i64 20000))), none⟩])
          (.cond (.t 11)
            (.seq
              (.region [2, 3, 4] [
                  ⟨some 2, .move (.c (.p (.nils))), none⟩,
                  ⟨some 3, .move (.c (.p (.int .i64 2))), none⟩,
                  ⟨some 4, .move (.c (.p (.int .i64 0))), none⟩])
              .ret)
            .skip))
        (.seq
          (.region [0, 5] [
              ⟨some 12, .move (.t 0), none⟩,
              ⟨some 13, .build [.str [], .int .i64 0] [(0, 1, (.t 12))], none⟩,
              ⟨some 14, .box (.t 13), none⟩,
              ⟨some 5, .move (.t 14), none⟩])
          (.seq
            (.region [0, 5, 6] [
                ⟨some 6, .move (.c (.p (.nils))), none⟩])
            (.seq
              (.seq
                (.region [0, 5, 6] [
                    ⟨some 15, .move (.t 5), none⟩,
                    ⟨some 16, .call (.c (.fn 18 [] [])) [(.t 15)], none⟩])
                (.block 0
                  (.seq
                    (.tok 6 31 3)
                    (.loop [0, 5, 6]
                      fc13_b0))))
              (.seq
                (.region [2, 3, 4] [
                    ⟨some 39, .move (.t 6), none⟩,
                    ⟨some 2, .move (.t 39), none⟩,
                    ⟨some 3, .move (.c (.p (.int .i64 0))), none⟩,
                    ⟨some 4, .move (.c (.p (.int .i64 0))), none⟩])
                .ret))))))

theorem ok13 : FOk Tryd.prog 13 fc13 := FOk.of Tryd.func13 (by kernel_rfl)

/-- armature/armatureref01.Lex -/
def fc14_b0 : SC :=
    (.loc
      (.seq
        (.seq
          (.region [0, 5, 6, 18] [
              ⟨some 15, .move (.t 6), none⟩,
              ⟨some 16, .move (.t 0), none⟩,
              ⟨some 17, .len 0 (.t 16), none⟩,
              ⟨some 18, .bin .lss (.t 15) (.t 17), none⟩])
          (.cond (.t 18)
            .skip
            (.exit 0)))
        (.block 1
          (.seq
            (.region [0, 5, 6, 7, 8] [
                ⟨some 20, .move (.t 0), none⟩,
                ⟨some 21, .move (.t 6), none⟩,
                ⟨some 22, .call (.c (.fn 21 [] [])) [(.t 20), (.t 21)], none⟩,
                ⟨some 19, .move (.t 22), none⟩,
                ⟨some 23, .extract (.t 19) 0, none⟩,
                ⟨some 24, .extract (.t 19) 1, none⟩,
                ⟨some 7, .alloc [.int .i64 0, .str [], .int .i64 0], none⟩,
                ⟨none, .store 3 (.t 7) (.t 23), none⟩,
                ⟨some 8, .move (.t 24), none⟩])
            (.seq
              (.seq
                (.region [0, 5, 6, 7, 26] [
                    ⟨some 25, .move (.t 8), none⟩,
                    ⟨some 26, .un .not (.t 25), none⟩])
                (.cond (.t 26)
                  (.seq
                    (.region [2, 3, 4] [
                        ⟨some 27, .move (.t 6), none⟩,
                        ⟨some 2, .move (.c (.p (.nils))), none⟩,
                        ⟨some 3, .move (.c (.p (.int .i64 10))), none⟩,
                        ⟨some 4, .move (.t 27), none⟩])
                    .ret)
                  .skip))
              (.seq
                (.region [0, 5, 6, 7] [
                    ⟨some 28, .move (.t 5), none⟩,
                    ⟨some 29, .load (some 3) (.t 7), none⟩,
                    ⟨some 30, .bslice 3 1 (.agg [.int .i64 0, .str [], .int .i64 0]) [(0, (.t 29))], none⟩,
                    ⟨some 31, .append 31 3 32 (.t 28) (.t 30), none⟩,
                    ⟨some 5, .move (.t 31), none⟩])
                (.region [0, 5, 6] [
                    ⟨some 32, .move (.t 0), none⟩,
                    ⟨some 33, .move (.t 6), none⟩,
                    ⟨some 34, .faddr (.t 7) 1, none⟩,
                    ⟨some 35, .load none (.t 34), none⟩,
                    ⟨some 36, .len 0 (.t 35), none⟩,
                    ⟨some 37, .bin .add (.t 33) (.t 36), none⟩,
                    ⟨some 38, .call (.c (.fn 20 [] [])) [(.t 32), (.t 37)], none⟩,
                    ⟨some 6, .move (.t 38), none⟩])))))))

def fc14 : FC where
  nt := 40
  np := 1
  res := [.t 2, .t 3, .t 4]
  body :=
    (.seq
      (.region [0] [
          ⟨some 2, .move (.c (.p (.nils))), none⟩,
          ⟨some 3, .move (.c (.p (.int .i64 0))), none⟩,
          ⟨some 4, .move (.c (.p (.int .i64 0))), none⟩])
      (.seq
        (.seq
          (.region [0, 11] [
              ⟨some 9, .move (.t 0), none⟩,
              ⟨some 10, .len 0 (.t 9), none⟩,
              ⟨some 11, .bin .gtr (.t 10) (.c (.p (.int .i64 20000))), none⟩])
          (.cond (.t 11)
            (.seq
              (.region [2, 3, 4] [
                  ⟨some 2, .move (.c (.p (.nils))), none⟩,
                  ⟨some 3, .move (.c (.p (.int .i64 2))), none⟩,
                  ⟨some 4, .move (.c (.p (.int .i64 0))), none⟩])
              .ret)
            .skip))
        (.seq
          (.region [0, 5] [
              ⟨some 12, .bslice 3 0 (.agg [.int .i64 0, .str [], .int .i64 0]) [], none⟩,
              ⟨some 5, .move (.t 12), none⟩])
          (.seq
            (.region [0, 5, 6] [
                ⟨some 13, .move (.t 0), none⟩,
                ⟨some 14, .call (.c (.fn 20 [] [])) [(.t 13), (.c (.p (.int .i64 0)))], none⟩,
                ⟨some 6, .move (.t 14), none⟩])
            (.seq
              (.block 0
                (.seq
                  (.tok 5 31 3)
                  (.loop [0, 5, 6]
                    fc14_b0)))
              (.seq
                (.region [2, 3, 4] [
                    ⟨some 39, .move (.t 5), none⟩,
                    ⟨some 2, .move (.t 39), none⟩,
                    ⟨some 3, .move (.c (.p (.int .i64 0))), none⟩,
                    ⟨some 4, .move (.c (.p (.int .i64 0))), none⟩])
                .ret))))))

theorem ok14 : FOk Tryd.prog 14 fc14 := FOk.of Tryd.func14 (by kernel_rfl)

/-- armature/armatureref01.Same -/
def fc15_b0 : SC :=
    (.seq
      (.seq
        (.region [0, 1, 5, 14] [
            ⟨some 11, .move (.t 5), none⟩,
            ⟨some 12, .move (.t 0), none⟩,
            ⟨some 13, .len 1 (.t 12), none⟩,
            ⟨some 14, .bin .lss (.t 11) (.t 13), none⟩])
        (.cond (.t 14)
          .skip
          (.exit 0)))
      (.seq
        (.block 1
          (.seq
            (.draw [0, 1, 5, 25] [(3, 7)] [
                ⟨some 17, .move (.t 0), none⟩,
                ⟨some 18, .move (.t 5), none⟩,
                ⟨some 19, .iaddr none 3 (.t 17) (.t 18), none⟩,
                ⟨some 20, .load (some 3) (.t 19), none⟩,
                ⟨some 21, .move (.t 1), none⟩,
                ⟨some 22, .move (.t 5), none⟩,
                ⟨some 23, .iaddr none 3 (.t 21) (.t 22), none⟩,
                ⟨some 24, .load (some 3) (.t 23), none⟩,
                ⟨some 25, .eqs true [1, 2, 1] (.t 20) (.t 24), none⟩])
            (.cond (.t 25)
              (.seq
                (.region [4] [
                    ⟨some 4, .move (.c (.p (.bool false))), none⟩])
                .ret)
              .skip)))
        (.region [0, 1, 5] [
            ⟨some 15, .move (.t 5), none⟩,
            ⟨some 16, .bin .add (.t 15) (.c (.p (.int .i64 1))), none⟩,
            ⟨some 5, .move (.t 16), none⟩])))

def fc15 : FC where
  nt := 26
  np := 2
  res := [.t 4]
  body :=
    (.seq
      (.region [0, 1] [
          ⟨some 4, .move (.c (.p (.bool false))), none⟩])
      (.seq
        (.seq
          (.region [0, 1, 10] [
              ⟨some 6, .move (.t 0), none⟩,
              ⟨some 7, .len 1 (.t 6), none⟩,
              ⟨some 8, .move (.t 1), none⟩,
              ⟨some 9, .len 1 (.t 8), none⟩,
              ⟨some 10, .bin .neq (.t 7) (.t 9), none⟩])
          (.cond (.t 10)
            (.seq
              (.region [4] [
                  ⟨some 4, .move (.c (.p (.bool false))), none⟩])
              .ret)
            .skip))
        (.seq
          (.seq
            (.region [0, 1, 5] [
                ⟨some 5, .move (.c (.p (.int .i64 0))), none⟩])
            (.block 0
              (.loop [0, 1, 5]
                fc15_b0)))
          (.seq
            (.region [4] [
                ⟨some 4, .move (.c (.p (.bool true))), none⟩])
            .ret))))

theorem ok15 : FOk Tryd.prog 15 fc15 := FOk.of Tryd.func15 (by kernel_rfl)

/-- armature/armatureref01.Void -/
def fc16 : FC where
  nt := 8
  np := 1
  res := [.t 2]
  body :=
    (.seq
      (.region [0] [
          ⟨some 2, .move (.c (.p (.bool false))), none⟩])
      (.seq
        (.region [2] [
            ⟨some 3, .move (.t 0), none⟩,
            ⟨some 4, .call (.c (.fn 20 [] [])) [(.t 3), (.c (.p (.int .i64 0)))], none⟩,
            ⟨some 5, .move (.t 0), none⟩,
            ⟨some 6, .len 0 (.t 5), none⟩,
            ⟨some 7, .bin .eql (.t 4) (.t 6), none⟩,
            ⟨some 2, .move (.t 7), none⟩])
        .ret))

theorem ok16 : FOk Tryd.prog 16 fc16 := FOk.of Tryd.func16 (by kernel_rfl)

/-- armature/armatureref01.Open -/
def fc17_b0 : SC :=
    (.loc
      (.seq
        (.seq
          (.region [0, 3, 4, 8] [
              ⟨some 5, .move (.t 3), none⟩,
              ⟨some 6, .move (.t 0), none⟩,
              ⟨some 7, .len 0 (.t 6), none⟩,
              ⟨some 8, .bin .lss (.t 5) (.t 7), none⟩])
          (.cond (.t 8)
            .skip
            (.exit 0)))
        (.block 1
          (.seq
            (.seq
              (.region [0, 3, 4, 15] [
                  ⟨some 9, .move (.t 4), none⟩,
                  ⟨some 10, .un .not (.t 9), none⟩,
                  ⟨some 11, .move (.t 10), none⟩,
                  ⟨some 12, .move (.t 0), some (11, true)⟩,
                  ⟨some 13, .move (.t 3), some (11, true)⟩,
                  ⟨some 14, .call (.c (.fn 22 [] [])) [(.t 12), (.t 13)], some (11, true)⟩,
                  ⟨some 15, .pick (.t 11) (.t 14) (.c (.p (.bool false))), none⟩])
              (.cond (.t 15)
                (.region [0, 3, 4] [
                    ⟨some 4, .move (.c (.p (.bool true))), none⟩])
                .skip))
            (.seq
              (.seq
                (.region [0, 3, 4, 19] [
                    ⟨some 16, .move (.t 0), none⟩,
                    ⟨some 17, .move (.t 3), none⟩,
                    ⟨some 18, .index none (.t 16) (.t 17), none⟩,
                    ⟨some 19, .bin .eql (.t 18) (.c (.p (.int .u8 10))), none⟩])
                (.cond (.t 19)
                  (.region [0, 3, 4] [
                      ⟨some 4, .move (.c (.p (.bool false))), none⟩])
                  .skip))
              (.region [0, 3, 4] [
                  ⟨some 20, .move (.t 3), none⟩,
                  ⟨some 21, .bin .add (.t 20) (.c (.p (.int .i64 1))), none⟩,
                  ⟨some 3, .move (.t 21), none⟩]))))))

def fc17 : FC where
  nt := 23
  np := 1
  res := [.t 2]
  body :=
    (.seq
      (.region [0] [
          ⟨some 2, .move (.c (.p (.bool false))), none⟩])
      (.seq
        (.region [0, 3] [
            ⟨some 3, .move (.c (.p (.int .i64 0))), none⟩])
        (.seq
          (.region [0, 3, 4] [
              ⟨some 4, .move (.c (.p (.bool false))), none⟩])
          (.seq
            (.block 0
              (.loop [0, 3, 4]
                fc17_b0))
            (.seq
              (.region [2] [
                  ⟨some 22, .move (.t 4), none⟩,
                  ⟨some 2, .move (.t 22), none⟩])
              .ret)))))

theorem ok17 : FOk Tryd.prog 17 fc17 := FOk.of Tryd.func17 (by kernel_rfl)

/-- (*armature/lexer.scanner).skip -/
def fc18_b0 : SC :=
    (.loc
      (.seq
        (.seq
          (.draw [0, 15] [(3, 7)] [
              ⟨some 6, .move (.t 0), none⟩,
              ⟨some 7, .nilCheck (.t 6), none⟩,
              ⟨some 8, .faddr (.t 7) 0, none⟩,
              ⟨some 9, .load none (.t 8), none⟩,
              ⟨some 10, .move (.t 0), none⟩,
              ⟨some 11, .nilCheck (.t 10), none⟩,
              ⟨some 12, .faddr (.t 11) 1, none⟩,
              ⟨some 13, .load none (.t 12), none⟩,
              ⟨some 14, .slice 0 (.t 9) (some (.t 13)) none, none⟩,
              ⟨some 15, .call (.c (.fn 25 [] [])) [(.t 14), (.c (.p (.str [47, 47])))], none⟩])
          (.cond (.t 15)
            .skip
            (.exit 0)))
        (.seq
          (.block 1
            (.region [0] [
                ⟨some 20, .move (.t 0), none⟩,
                ⟨some 21, .move (.t 0), none⟩,
                ⟨some 22, .mkfn 26 [(.t 21)] [], none⟩,
                ⟨some 23, .call (.c (.fn 23 [] [])) [(.t 20), (.t 22)], none⟩]))
          (.region [0] [
              ⟨some 16, .move (.t 0), none⟩,
              ⟨some 17, .move (.t 0), none⟩,
              ⟨some 18, .mkfn 24 [(.t 17)] [], none⟩,
              ⟨some 19, .call (.c (.fn 23 [] [])) [(.t 16), (.t 18)], none⟩]))))

def fc18 : FC where
  nt := 24
  np := 1
  res := []
  body :=
    (.seq
      (.region [0] [
          ⟨some 2, .move (.t 0), none⟩,
          ⟨some 3, .move (.t 0), none⟩,
          ⟨some 4, .mkfn 24 [(.t 3)] [], none⟩,
          ⟨some 5, .call (.c (.fn 23 [] [])) [(.t 2), (.t 4)], none⟩])
      (.block 0
        (.loop [0]
          fc18_b0)))

theorem ok18 : FOk Tryd.prog 18 fc18 := FOk.of Tryd.func18 (by kernel_rfl)

/-- (*armature/lexer.scanner).next -/
def fc19 : FC where
  nt := 43
  np := 1
  res := [.cell 2 (some 3), .t 3]
  body :=
    (.seq
      (.region [0, 2] [
          ⟨some 2, .alloc [.int .i64 0, .str [], .int .i64 0], none⟩,
          ⟨some 3, .move (.c (.p (.bool false))), none⟩])
      (.seq
        (.region [0, 2, 4] [
            ⟨some 6, .move (.t 0), none⟩,
            ⟨some 7, .nilCheck (.t 6), none⟩,
            ⟨some 8, .faddr (.t 7) 1, none⟩,
            ⟨some 9, .load none (.t 8), none⟩,
            ⟨some 10, .build [.int .i64 0, .str [], .int .i64 0] [(2, 1, (.t 9))], none⟩,
            ⟨some 4, .alloc [.int .i64 0, .str [], .int .i64 0], none⟩,
            ⟨none, .store 3 (.t 4) (.t 10), none⟩])
        (.seq
          (.region [0, 2, 4] [
              ⟨some 5, .move (.c (.p (.bool true))), none⟩])
          (.seq
            (.block 0
              (.seq
                (.region [0, 2, 4, 18] [
                    ⟨some 19, .move (.t 0), none⟩,
                    ⟨some 20, .call (.c (.fn 27 [] [])) [(.t 19)], none⟩,
                    ⟨some 18, .move (.t 20), none⟩])
                (.cond (.t 18)
                  (.seq
                    (.region [0, 2, 4] [
                        ⟨some 21, .faddr (.t 4) 0, none⟩,
                        ⟨none, .store 1 (.t 21) (.c (.p (.int .i64 1))), none⟩])
                    (.seq
                      (.region [2, 4] [
                          ⟨some 22, .move (.t 0), none⟩,
                          ⟨some 23, .move (.t 0), none⟩,
                          ⟨some 24, .mkfn 28 [(.t 23)] [], none⟩,
                          ⟨some 25, .call (.c (.fn 23 [] [])) [(.t 22), (.t 24)], none⟩,
                          ⟨some 26, .faddr (.t 4) 1, none⟩,
                          ⟨none, .store 1 (.t 26) (.t 25), none⟩])
                      (.region [2, 4, 5] [
                          ⟨some 27, .faddr (.t 4) 1, none⟩,
                          ⟨some 28, .load none (.t 27), none⟩,
                          ⟨some 29, .len 0 (.t 28), none⟩,
                          ⟨some 30, .bin .leq (.t 29) (.c (.p (.int .i64 16))), none⟩,
                          ⟨some 5, .move (.t 30), none⟩])))
                  (.seq
                    (.region [0, 2, 4, 31] [
                        ⟨some 32, .move (.t 0), none⟩,
                        ⟨some 33, .call (.c (.fn 29 [] [])) [(.t 32)], none⟩,
                        ⟨some 31, .move (.t 33), none⟩])
                    (.cond (.t 31)
                      (.seq
                        (.region [0, 2, 4] [
                            ⟨some 34, .faddr (.t 4) 0, none⟩,
                            ⟨none, .store 1 (.t 34) (.c (.p (.int .i64 2))), none⟩])
                        (.region [2, 4, 5] [
                            ⟨some 36, .move (.t 0), none⟩,
                            ⟨some 37, .call (.c (.fn 30 [] [])) [(.t 36)], none⟩,
                            ⟨some 35, .move (.t 37), none⟩,
                            ⟨some 38, .extract (.t 35) 0, none⟩,
                            ⟨some 39, .extract (.t 35) 1, none⟩,
                            ⟨some 40, .faddr (.t 4) 1, none⟩,
                            ⟨none, .store 1 (.t 40) (.t 38), none⟩,
                            ⟨some 5, .move (.t 39), none⟩]))
                      (.seq
                        (.region [0, 2, 4] [
                            ⟨some 11, .faddr (.t 4) 0, none⟩,
                            ⟨none, .store 1 (.t 11) (.c (.p (.int .i64 3))), none⟩])
                        (.region [2, 4, 5] [
                            ⟨some 13, .move (.t 0), none⟩,
                            ⟨some 14, .call (.c (.fn 31 [] [])) [(.t 13)], none⟩,
                            ⟨some 12, .move (.t 14), none⟩,
                            ⟨some 15, .extract (.t 12) 0, none⟩,
                            ⟨some 16, .extract (.t 12) 1, none⟩,
                            ⟨some 17, .faddr (.t 4) 1, none⟩,
                            ⟨none, .store 1 (.t 17) (.t 15), none⟩,
                            ⟨some 5, .move (.t 16), none⟩])))))))
            (.seq
              (.region [2, 3] [
                  ⟨some 41, .load (some 3) (.t 4), none⟩,
                  ⟨some 42, .move (.t 5), none⟩,
                  ⟨none, .store 3 (.t 2) (.t 41), none⟩,
                  ⟨some 3, .move (.t 42), none⟩])
              .ret)))))

theorem ok19 : FOk Tryd.prog 19 fc19 := FOk.of Tryd.func19 (by kernel_rfl)

/-- armature/armatureref01.gap -/
def fc20_b0 : SC :=
    (.seq
      (.seq
        (.region [0, 1, 35] [
            ⟨some 26, .move (.t 1), none⟩,
            ⟨some 27, .move (.t 0), none⟩,
            ⟨some 28, .len 0 (.t 27), none⟩,
            ⟨some 29, .bin .lss (.t 26) (.t 28), none⟩,
            ⟨some 30, .move (.t 29), none⟩,
            ⟨some 31, .move (.t 0), some (30, true)⟩,
            ⟨some 32, .move (.t 1), some (30, true)⟩,
            ⟨some 33, .index none (.t 31) (.t 32), some (30, true)⟩,
            ⟨some 34, .bin .neq (.t 33) (.c (.p (.int .u8 10))), some (30, true)⟩,
            ⟨some 35, .pick (.t 30) (.t 34) (.c (.p (.bool false))), none⟩])
        (.cond (.t 35)
          .skip
          (.exit 2)))
      (.block 3
        (.region [0, 1] [
            ⟨some 36, .move (.t 1), none⟩,
            ⟨some 37, .bin .add (.t 36) (.c (.p (.int .i64 1))), none⟩,
            ⟨some 1, .move (.t 37), none⟩])))

def fc20_b1 : SC :=
    (.loc
      (.seq
        (.seq
          (.region [0, 1, 19] [
              ⟨some 5, .move (.t 1), none⟩,
              ⟨some 6, .move (.t 0), none⟩,
              ⟨some 7, .len 0 (.t 6), none⟩,
              ⟨some 8, .bin .lss (.t 5) (.t 7), none⟩,
              ⟨some 9, .move (.t 8), none⟩,
              ⟨some 10, .move (.t 0), some (9, true)⟩,
              ⟨some 11, .move (.t 1), some (9, true)⟩,
              ⟨some 12, .index none (.t 10) (.t 11), some (9, true)⟩,
              ⟨some 13, .call (.c (.fn 32 [] [])) [(.t 12)], some (9, true)⟩,
              ⟨some 14, .move (.t 13), some (9, true)⟩,
              ⟨some 15, .move (.t 0), some (14, false)⟩,
              ⟨some 16, .move (.t 1), some (14, false)⟩,
              ⟨some 17, .call (.c (.fn 22 [] [])) [(.t 15), (.t 16)], some (14, false)⟩,
              ⟨some 18, .pick (.t 14) (.c (.p (.bool true))) (.t 17), some (9, true)⟩,
              ⟨some 19, .pick (.t 9) (.t 18) (.c (.p (.bool false))), none⟩])
          (.cond (.t 19)
            .skip
            (.exit 0)))
        (.block 1
          (.seq
            (.seq
              (.region [0, 1, 23] [
                  ⟨some 20, .move (.t 0), none⟩,
                  ⟨some 21, .move (.t 1), none⟩,
                  ⟨some 22, .index none (.t 20) (.t 21), none⟩,
                  ⟨some 23, .call (.c (.fn 32 [] [])) [(.t 22)], none⟩])
              (.cond (.t 23)
                (.seq
                  (.region [0, 1] [
                      ⟨some 24, .move (.t 1), none⟩,
                      ⟨some 25, .bin .add (.t 24) (.c (.p (.int .i64 1))), none⟩,
                      ⟨some 1, .move (.t 25), none⟩])
                  (.exit 1))
                .skip))
            (.block 2
              (.loop [0, 1]
                fc20_b0))))))

def fc20 : FC where
  nt := 39
  np := 2
  res := [.t 4]
  body :=
    (.seq
      (.region [0, 1] [
          ⟨some 4, .move (.c (.p (.int .i64 0))), none⟩])
      (.seq
        (.block 0
          (.loop [0, 1]
            fc20_b1))
        (.seq
          (.region [4] [
              ⟨some 38, .move (.t 1), none⟩,
              ⟨some 4, .move (.t 38), none⟩])
          .ret)))

theorem ok20 : FOk Tryd.prog 20 fc20 := FOk.of Tryd.func20 (by kernel_rfl)

/-- armature/armatureref01.one -/
def fc21_b0 : SC :=
    (.loc
      (.seq
        (.seq
          (.region [0, 1, 4, 6, 23] [
              ⟨some 14, .move (.t 6), none⟩,
              ⟨some 15, .move (.t 0), none⟩,
              ⟨some 16, .len 0 (.t 15), none⟩,
              ⟨some 17, .bin .lss (.t 14) (.t 16), none⟩,
              ⟨some 18, .move (.t 17), none⟩,
              ⟨some 19, .move (.t 0), some (18, true)⟩,
              ⟨some 20, .move (.t 6), some (18, true)⟩,
              ⟨some 21, .index none (.t 19) (.t 20), some (18, true)⟩,
              ⟨some 22, .call (.c (.fn 34 [] [])) [(.t 21)], some (18, true)⟩,
              ⟨some 23, .pick (.t 18) (.t 22) (.c (.p (.bool false))), none⟩])
          (.cond (.t 23)
            .skip
            (.exit 0)))
        (.block 1
          (.region [0, 1, 4, 6] [
              ⟨some 24, .move (.t 6), none⟩,
              ⟨some 25, .bin .add (.t 24) (.c (.p (.int .i64 1))), none⟩,
              ⟨some 6, .move (.t 25), none⟩]))))

def fc21_b1 : SC :=
    (.loc
      (.seq
        (.seq
          (.region [0, 1, 4, 6, 49] [
              ⟨some 40, .move (.t 6), none⟩,
              ⟨some 41, .move (.t 0), none⟩,
              ⟨some 42, .len 0 (.t 41), none⟩,
              ⟨some 43, .bin .lss (.t 40) (.t 42), none⟩,
              ⟨some 44, .move (.t 43), none⟩,
              ⟨some 45, .move (.t 0), some (44, true)⟩,
              ⟨some 46, .move (.t 6), some (44, true)⟩,
              ⟨some 47, .index none (.t 45) (.t 46), some (44, true)⟩,
              ⟨some 48, .call (.c (.fn 35 [] [])) [(.t 47)], some (44, true)⟩,
              ⟨some 49, .pick (.t 44) (.t 48) (.c (.p (.bool false))), none⟩])
          (.cond (.t 49)
            .skip
            (.exit 2)))
        (.block 3
          (.region [0, 1, 4, 6] [
              ⟨some 50, .move (.t 6), none⟩,
              ⟨some 51, .bin .add (.t 50) (.c (.p (.int .i64 1))), none⟩,
              ⟨some 6, .move (.t 51), none⟩]))))

def fc21 : FC where
  nt := 96
  np := 2
  res := [.cell 4 (some 3), .t 5]
  body :=
    (.seq
      (.region [0, 1, 4] [
          ⟨some 4, .alloc [.int .i64 0, .str [], .int .i64 0], none⟩,
          ⟨some 5, .move (.c (.p (.bool false))), none⟩])
      (.seq
        (.region [0, 1, 4, 6] [
            ⟨some 9, .move (.t 1), none⟩,
            ⟨some 6, .move (.t 9), none⟩])
        (.seq
          (.seq
            (.region [0, 1, 4, 6, 13] [
                ⟨some 10, .move (.t 0), none⟩,
                ⟨some 11, .move (.t 1), none⟩,
                ⟨some 12, .index none (.t 10) (.t 11), none⟩,
                ⟨some 13, .call (.c (.fn 33 [] [])) [(.t 12)], none⟩])
            (.cond (.t 13)
              (.seq
                (.block 0
                  (.loop [0, 1, 4, 6]
                    fc21_b0))
                (.seq
                  (.region [4, 5] [
                      ⟨some 26, .move (.t 0), none⟩,
                      ⟨some 27, .move (.t 1), none⟩,
                      ⟨some 28, .move (.t 6), none⟩,
                      ⟨some 29, .slice 0 (.t 26) (some (.t 27)) (some (.t 28)), none⟩,
                      ⟨some 30, .move (.t 1), none⟩,
                      ⟨some 31, .build [.int .i64 0, .str [], .int .i64 0] [(0, 1, (.c (.p (.int .i64 1)))), (1, 1, (.t 29)), (2, 1, (.t 30))], none⟩,
                      ⟨some 32, .move (.t 6), none⟩,
                      ⟨some 33, .move (.t 1), none⟩,
                      ⟨some 34, .bin .sub (.t 32) (.t 33), none⟩,
                      ⟨some 35, .bin .leq (.t 34) (.c (.p (.int .i64 16))), none⟩,
                      ⟨none, .store 3 (.t 4) (.t 31), none⟩,
                      ⟨some 5, .move (.t 35), none⟩])
                  .ret))
              .skip))
          (.seq
            (.seq
              (.region [0, 1, 4, 6, 39] [
                  ⟨some 36, .move (.t 0), none⟩,
                  ⟨some 37, .move (.t 1), none⟩,
                  ⟨some 38, .index none (.t 36) (.t 37), none⟩,
                  ⟨some 39, .call (.c (.fn 35 [] [])) [(.t 38)], none⟩])
              (.cond (.t 39)
                (.seq
                  (.block 2
                    (.loop [0, 1, 4, 6]
                      fc21_b1))
                  (.seq
                    (.region [0, 1, 4, 6, 7] [
                        ⟨some 52, .move (.t 6), none⟩,
                        ⟨some 53, .move (.t 1), none⟩,
                        ⟨some 54, .bin .sub (.t 52) (.t 53), none⟩,
                        ⟨some 55, .bin .leq (.t 54) (.c (.p (.int .i64 9))), none⟩,
                        ⟨some 56, .move (.t 55), none⟩,
                        ⟨some 57, .move (.t 0), some (56, true)⟩,
                        ⟨some 58, .move (.t 1), some (56, true)⟩,
                        ⟨some 59, .index none (.t 57) (.t 58), some (56, true)⟩,
                        ⟨some 60, .bin .neq (.t 59) (.c (.p (.int .u8 48))), some (56, true)⟩,
                        ⟨some 61, .move (.t 60), some (56, true)⟩,
                        ⟨some 62, .move (.t 6), some (61, false)⟩,
                        ⟨some 63, .move (.t 1), some (61, false)⟩,
                        ⟨some 64, .bin .sub (.t 62) (.t 63), some (61, false)⟩,
                        ⟨some 65, .bin .eql (.t 64) (.c (.p (.int .i64 1))), some (61, false)⟩,
                        ⟨some 66, .pick (.t 61) (.c (.p (.bool true))) (.t 65), some (56, true)⟩,
                        ⟨some 67, .pick (.t 56) (.t 66) (.c (.p (.bool false))), none⟩,
                        ⟨some 68, .move (.t 67), none⟩,
                        ⟨some 69, .move (.t 6), some (68, true)⟩,
                        ⟨some 70, .move (.t 0), some (68, true)⟩,
                        ⟨some 71, .len 0 (.t 70), some (68, true)⟩,
                        ⟨some 72, .bin .eql (.t 69) (.t 71), some (68, true)⟩,
                        ⟨some 73, .move (.t 72), some (68, true)⟩,
                        ⟨some 74, .move (.t 0), some (73, false)⟩,
                        ⟨some 75, .move (.t 6), some (73, false)⟩,
                        ⟨some 76, .index none (.t 74) (.t 75), some (73, false)⟩,
                        ⟨some 77, .call (.c (.fn 34 [] [])) [(.t 76)], some (73, false)⟩,
                        ⟨some 78, .un .not (.t 77), some (73, false)⟩,
                        ⟨some 79, .pick (.t 73) (.c (.p (.bool true))) (.t 78), some (68, true)⟩,
                        ⟨some 80, .pick (.t 68) (.t 79) (.c (.p (.bool false))), none⟩,
                        ⟨some 7, .move (.t 80), none⟩])
                    (.seq
                      (.region [4, 5] [
                          ⟨some 81, .move (.t 0), none⟩,
                          ⟨some 82, .move (.t 1), none⟩,
                          ⟨some 83, .move (.t 6), none⟩,
                          ⟨some 84, .slice 0 (.t 81) (some (.t 82)) (some (.t 83)), none⟩,
                          ⟨some 85, .move (.t 1), none⟩,
                          ⟨some 86, .build [.int .i64 0, .str [], .int .i64 0] [(0, 1, (.c (.p (.int .i64 2)))), (1, 1, (.t 84)), (2, 1, (.t 85))], none⟩,
                          ⟨some 87, .move (.t 7), none⟩,
                          ⟨none, .store 3 (.t 4) (.t 86), none⟩,
                          ⟨some 5, .move (.t 87), none⟩])
                      .ret)))
                .skip))
            (.seq
              (.region [1, 4, 8] [
                  ⟨some 88, .move (.t 0), none⟩,
                  ⟨some 89, .move (.t 1), none⟩,
                  ⟨some 90, .call (.c (.fn 36 [] [])) [(.t 88), (.t 89)], none⟩,
                  ⟨some 8, .move (.t 90), none⟩])
              (.seq
                (.region [4, 5] [
                    ⟨some 91, .move (.t 8), none⟩,
                    ⟨some 92, .move (.t 1), none⟩,
                    ⟨some 93, .build [.int .i64 0, .str [], .int .i64 0] [(0, 1, (.c (.p (.int .i64 3)))), (1, 1, (.t 91)), (2, 1, (.t 92))], none⟩,
                    ⟨some 94, .move (.t 8), none⟩,
                    ⟨some 95, .bin .neq (.t 94) (.c (.p (.str []))), none⟩,
                    ⟨none, .store 3 (.t 4) (.t 93), none⟩,
                    ⟨some 5, .move (.t 95), none⟩])
                .ret))))))

theorem ok21 : FOk Tryd.prog 21 fc21 := FOk.of Tryd.func21 (by kernel_rfl)

/-- armature/armatureref01.comment -/
def fc22 : FC where
  nt := 23
  np := 2
  res := [.t 4]
  body :=
    (.seq
      (.region [0, 1] [
          ⟨some 4, .move (.c (.p (.bool false))), none⟩])
      (.seq
        (.region [4] [
            ⟨some 5, .move (.t 1), none⟩,
            ⟨some 6, .bin .add (.t 5) (.c (.p (.int .i64 1))), none⟩,
            ⟨some 7, .move (.t 0), none⟩,
            ⟨some 8, .len 0 (.t 7), none⟩,
            ⟨some 9, .bin .lss (.t 6) (.t 8), none⟩,
            ⟨some 10, .move (.t 9), none⟩,
            ⟨some 11, .move (.t 0), some (10, true)⟩,
            ⟨some 12, .move (.t 1), some (10, true)⟩,
            ⟨some 13, .index none (.t 11) (.t 12), some (10, true)⟩,
            ⟨some 14, .bin .eql (.t 13) (.c (.p (.int .u8 47))), some (10, true)⟩,
            ⟨some 15, .pick (.t 10) (.t 14) (.c (.p (.bool false))), none⟩,
            ⟨some 16, .move (.t 15), none⟩,
            ⟨some 17, .move (.t 0), some (16, true)⟩,
            ⟨some 18, .move (.t 1), some (16, true)⟩,
            ⟨some 19, .bin .add (.t 18) (.c (.p (.int .i64 1))), some (16, true)⟩,
            ⟨some 20, .index none (.t 17) (.t 19), some (16, true)⟩,
            ⟨some 21, .bin .eql (.t 20) (.c (.p (.int .u8 47))), some (16, true)⟩,
            ⟨some 22, .pick (.t 16) (.t 21) (.c (.p (.bool false))), none⟩,
            ⟨some 4, .move (.t 22), none⟩])
        .ret))

theorem ok22 : FOk Tryd.prog 22 fc22 := FOk.of Tryd.func22 (by kernel_rfl)

/-- (*armature/lexer.scanner).while -/
def fc23_b0 : SC :=
    (.loc
      (.seq
        (.seq
          (.draw [0, 1, 5, 23] [(3, 7)] [
              ⟨some 10, .move (.t 0), none⟩,
              ⟨some 11, .nilCheck (.t 10), none⟩,
              ⟨some 12, .faddr (.t 11) 1, none⟩,
              ⟨some 13, .load none (.t 12), none⟩,
              ⟨some 14, .move (.t 0), none⟩,
              ⟨some 15, .nilCheck (.t 14), none⟩,
              ⟨some 16, .faddr (.t 15) 0, none⟩,
              ⟨some 17, .load none (.t 16), none⟩,
              ⟨some 18, .len 0 (.t 17), none⟩,
              ⟨some 19, .bin .lss (.t 13) (.t 18), none⟩,
              ⟨some 20, .move (.t 19), none⟩,
              ⟨some 21, .move (.t 1), some (20, true)⟩,
              ⟨some 22, .call (.t 21) [], some (20, true)⟩,
              ⟨some 23, .pick (.t 20) (.t 22) (.c (.p (.bool false))), none⟩])
          (.cond (.t 23)
            .skip
            (.exit 0)))
        (.block 1
          (.region [0, 1, 5] [
              ⟨some 24, .move (.t 0), none⟩,
              ⟨some 25, .nilCheck (.t 24), none⟩,
              ⟨some 26, .faddr (.t 25) 1, none⟩,
              ⟨some 27, .load none (.t 26), none⟩,
              ⟨some 28, .bin .add (.t 27) (.c (.p (.int .i64 1))), none⟩,
              ⟨some 29, .nilCheck (.t 24), none⟩,
              ⟨some 30, .faddr (.t 29) 1, none⟩,
              ⟨none, .store 1 (.t 30) (.t 28), none⟩]))))

def fc23 : FC where
  nt := 41
  np := 2
  res := [.t 4]
  body :=
    (.seq
      (.region [0, 1] [
          ⟨some 4, .move (.c (.p (.str []))), none⟩])
      (.seq
        (.region [0, 1, 5] [
            ⟨some 6, .move (.t 0), none⟩,
            ⟨some 7, .nilCheck (.t 6), none⟩,
            ⟨some 8, .faddr (.t 7) 1, none⟩,
            ⟨some 9, .load none (.t 8), none⟩,
            ⟨some 5, .move (.t 9), none⟩])
        (.seq
          (.block 0
            (.loop [0, 1, 5]
              fc23_b0))
          (.seq
            (.draw [4] [(3, 8)] [
                ⟨some 31, .move (.t 0), none⟩,
                ⟨some 32, .nilCheck (.t 31), none⟩,
                ⟨some 33, .faddr (.t 32) 0, none⟩,
                ⟨some 34, .load none (.t 33), none⟩,
                ⟨some 35, .move (.t 5), none⟩,
                ⟨some 36, .move (.t 0), none⟩,
                ⟨some 37, .nilCheck (.t 36), none⟩,
                ⟨some 38, .faddr (.t 37) 1, none⟩,
                ⟨some 39, .load none (.t 38), none⟩,
                ⟨some 40, .slice 0 (.t 34) (some (.t 35)) (some (.t 39)), none⟩,
                ⟨some 4, .move (.t 40), none⟩])
            .ret))))

theorem ok23 : FOk Tryd.prog 23 fc23 := FOk.of Tryd.func23 (by kernel_rfl)

/-- (*armature/lexer.scanner).blank -/
def fc24 : FC where
  nt := 14
  np := 1
  res := [.t 2]
  body :=
    (.seq
      (.region [0] [
          ⟨some 2, .move (.c (.p (.bool false))), none⟩])
      (.seq
        (.draw [2] [(3, 7)] [
            ⟨some 3, .move (.t 0), none⟩,
            ⟨some 4, .nilCheck (.t 3), none⟩,
            ⟨some 5, .faddr (.t 4) 0, none⟩,
            ⟨some 6, .load none (.t 5), none⟩,
            ⟨some 7, .move (.t 0), none⟩,
            ⟨some 8, .nilCheck (.t 7), none⟩,
            ⟨some 9, .faddr (.t 8) 1, none⟩,
            ⟨some 10, .load none (.t 9), none⟩,
            ⟨some 11, .index none (.t 6) (.t 10), none⟩,
            ⟨some 12, .call (.c (.fn 37 [] [])) [(.c (.p (.str [32, 9, 10, 13]))), (.t 11)], none⟩,
            ⟨some 13, .bin .geq (.t 12) (.c (.p (.int .i64 0))), none⟩,
            ⟨some 2, .move (.t 13), none⟩])
        .ret))

theorem ok24 : FOk Tryd.prog 24 fc24 := FOk.of Tryd.func24 (by kernel_rfl)

/-- strings.HasPrefix -/
def fc25 : FC where
  nt := 8
  np := 2
  res := [.t 4]
  body :=
    (.seq
      (.region [0, 1] [
          ⟨some 4, .move (.c (.p (.bool false))), none⟩])
      (.seq
        (.region [4] [
            ⟨some 5, .move (.t 0), none⟩,
            ⟨some 6, .move (.t 1), none⟩,
            ⟨some 7, .call (.c (.fn 38 [] [])) [(.t 5), (.t 6)], none⟩,
            ⟨some 4, .move (.t 7), none⟩])
        .ret))

theorem ok25 : FOk Tryd.prog 25 fc25 := FOk.of Tryd.func25 (by kernel_rfl)

/-- (*armature/lexer.scanner).inLine -/
def fc26 : FC where
  nt := 13
  np := 1
  res := [.t 2]
  body :=
    (.seq
      (.region [0] [
          ⟨some 2, .move (.c (.p (.bool false))), none⟩])
      (.seq
        (.draw [2] [(3, 7)] [
            ⟨some 3, .move (.t 0), none⟩,
            ⟨some 4, .nilCheck (.t 3), none⟩,
            ⟨some 5, .faddr (.t 4) 0, none⟩,
            ⟨some 6, .load none (.t 5), none⟩,
            ⟨some 7, .move (.t 0), none⟩,
            ⟨some 8, .nilCheck (.t 7), none⟩,
            ⟨some 9, .faddr (.t 8) 1, none⟩,
            ⟨some 10, .load none (.t 9), none⟩,
            ⟨some 11, .index none (.t 6) (.t 10), none⟩,
            ⟨some 12, .bin .neq (.t 11) (.c (.p (.int .u8 10))), none⟩,
            ⟨some 2, .move (.t 12), none⟩])
        .ret))

theorem ok26 : FOk Tryd.prog 26 fc26 := FOk.of Tryd.func26 (by kernel_rfl)

/-- (*armature/lexer.scanner).letter -/
def fc27 : FC where
  nt := 20
  np := 1
  res := [.t 2]
  body :=
    (.seq
      (.region [0] [
          ⟨some 2, .move (.c (.p (.bool false))), none⟩])
      (.seq
        (.draw [3] [(3, 7)] [
            ⟨some 4, .move (.t 0), none⟩,
            ⟨some 5, .nilCheck (.t 4), none⟩,
            ⟨some 6, .faddr (.t 5) 0, none⟩,
            ⟨some 7, .load none (.t 6), none⟩,
            ⟨some 8, .move (.t 0), none⟩,
            ⟨some 9, .nilCheck (.t 8), none⟩,
            ⟨some 10, .faddr (.t 9) 1, none⟩,
            ⟨some 11, .load none (.t 10), none⟩,
            ⟨some 12, .index none (.t 7) (.t 11), none⟩,
            ⟨some 13, .bin .or (.t 12) (.c (.p (.int .u8 32))), none⟩,
            ⟨some 3, .move (.t 13), none⟩])
        (.seq
          (.region [2] [
              ⟨some 14, .move (.t 3), none⟩,
              ⟨some 15, .bin .geq (.t 14) (.c (.p (.int .u8 97))), none⟩,
              ⟨some 16, .move (.t 15), none⟩,
              ⟨some 17, .move (.t 3), some (16, true)⟩,
              ⟨some 18, .bin .leq (.t 17) (.c (.p (.int .u8 122))), some (16, true)⟩,
              ⟨some 19, .pick (.t 16) (.t 18) (.c (.p (.bool false))), none⟩,
              ⟨some 2, .move (.t 19), none⟩])
          .ret)))

theorem ok27 : FOk Tryd.prog 27 fc27 := FOk.of Tryd.func27 (by kernel_rfl)

/-- (*armature/lexer.scanner).word -/
def fc28 : FC where
  nt := 21
  np := 1
  res := [.t 2]
  body :=
    (.seq
      (.region [0] [
          ⟨some 2, .move (.c (.p (.bool false))), none⟩])
      (.seq
        (.draw [2] [(10, 14)] [
            ⟨some 3, .move (.t 0), none⟩,
            ⟨some 4, .call (.c (.fn 27 [] [])) [(.t 3)], none⟩,
            ⟨some 5, .move (.t 4), none⟩,
            ⟨some 6, .move (.t 0), some (5, false)⟩,
            ⟨some 7, .call (.c (.fn 29 [] [])) [(.t 6)], some (5, false)⟩,
            ⟨some 8, .pick (.t 5) (.c (.p (.bool true))) (.t 7), none⟩,
            ⟨some 9, .move (.t 8), none⟩,
            ⟨some 10, .move (.t 0), some (9, false)⟩,
            ⟨some 11, .nilCheck (.t 10), some (9, false)⟩,
            ⟨some 12, .faddr (.t 11) 0, some (9, false)⟩,
            ⟨some 13, .load none (.t 12), some (9, false)⟩,
            ⟨some 14, .move (.t 0), some (9, false)⟩,
            ⟨some 15, .nilCheck (.t 14), some (9, false)⟩,
            ⟨some 16, .faddr (.t 15) 1, some (9, false)⟩,
            ⟨some 17, .load none (.t 16), some (9, false)⟩,
            ⟨some 18, .index none (.t 13) (.t 17), some (9, false)⟩,
            ⟨some 19, .bin .eql (.t 18) (.c (.p (.int .u8 95))), some (9, false)⟩,
            ⟨some 20, .pick (.t 9) (.c (.p (.bool true))) (.t 19), none⟩,
            ⟨some 2, .move (.t 20), none⟩])
        .ret))

theorem ok28 : FOk Tryd.prog 28 fc28 := FOk.of Tryd.func28 (by kernel_rfl)

/-- (*armature/lexer.scanner).digit -/
def fc29 : FC where
  nt := 25
  np := 1
  res := [.t 2]
  body :=
    (.seq
      (.region [0] [
          ⟨some 2, .move (.c (.p (.bool false))), none⟩])
      (.seq
        (.draw [2] [(3, 7), (14, 18)] [
            ⟨some 3, .move (.t 0), none⟩,
            ⟨some 4, .nilCheck (.t 3), none⟩,
            ⟨some 5, .faddr (.t 4) 0, none⟩,
            ⟨some 6, .load none (.t 5), none⟩,
            ⟨some 7, .move (.t 0), none⟩,
            ⟨some 8, .nilCheck (.t 7), none⟩,
            ⟨some 9, .faddr (.t 8) 1, none⟩,
            ⟨some 10, .load none (.t 9), none⟩,
            ⟨some 11, .index none (.t 6) (.t 10), none⟩,
            ⟨some 12, .bin .geq (.t 11) (.c (.p (.int .u8 48))), none⟩,
            ⟨some 13, .move (.t 12), none⟩,
            ⟨some 14, .move (.t 0), some (13, true)⟩,
            ⟨some 15, .nilCheck (.t 14), some (13, true)⟩,
            ⟨some 16, .faddr (.t 15) 0, some (13, true)⟩,
            ⟨some 17, .load none (.t 16), some (13, true)⟩,
            ⟨some 18, .move (.t 0), some (13, true)⟩,
            ⟨some 19, .nilCheck (.t 18), some (13, true)⟩,
            ⟨some 20, .faddr (.t 19) 1, some (13, true)⟩,
            ⟨some 21, .load none (.t 20), some (13, true)⟩,
            ⟨some 22, .index none (.t 17) (.t 21), some (13, true)⟩,
            ⟨some 23, .bin .leq (.t 22) (.c (.p (.int .u8 57))), some (13, true)⟩,
            ⟨some 24, .pick (.t 13) (.t 23) (.c (.p (.bool false))), none⟩,
            ⟨some 2, .move (.t 24), none⟩])
        .ret))

theorem ok29 : FOk Tryd.prog 29 fc29 := FOk.of Tryd.func29 (by kernel_rfl)

/-- (*armature/lexer.scanner).number -/
def fc30 : FC where
  nt := 41
  np := 1
  res := [.t 2, .t 3]
  body :=
    (.seq
      (.region [0] [
          ⟨some 2, .move (.c (.p (.str []))), none⟩,
          ⟨some 3, .move (.c (.p (.bool false))), none⟩])
      (.seq
        (.region [0, 4] [
            ⟨some 6, .move (.t 0), none⟩,
            ⟨some 7, .move (.t 0), none⟩,
            ⟨some 8, .mkfn 29 [(.t 7)] [], none⟩,
            ⟨some 9, .call (.c (.fn 23 [] [])) [(.t 6), (.t 8)], none⟩,
            ⟨some 4, .move (.t 9), none⟩])
        (.seq
          (.region [0, 4, 5] [
              ⟨some 10, .move (.t 4), none⟩,
              ⟨some 11, .len 0 (.t 10), none⟩,
              ⟨some 12, .bin .leq (.t 11) (.c (.p (.int .i64 9))), none⟩,
              ⟨some 13, .move (.t 12), none⟩,
              ⟨some 14, .move (.t 4), some (13, true)⟩,
              ⟨some 15, .index none (.t 14) (.c (.p (.int .i64 0))), some (13, true)⟩,
              ⟨some 16, .bin .neq (.t 15) (.c (.p (.int .u8 48))), some (13, true)⟩,
              ⟨some 17, .move (.t 16), some (13, true)⟩,
              ⟨some 18, .move (.t 4), some (17, false)⟩,
              ⟨some 19, .bin .eql (.t 18) (.c (.p (.str [48]))), some (17, false)⟩,
              ⟨some 20, .pick (.t 17) (.c (.p (.bool true))) (.t 19), some (13, true)⟩,
              ⟨some 21, .pick (.t 13) (.t 20) (.c (.p (.bool false))), none⟩,
              ⟨some 5, .move (.t 21), none⟩])
          (.seq
            (.draw [2, 3] [(6, 10)] [
                ⟨some 22, .move (.t 4), none⟩,
                ⟨some 23, .move (.t 5), none⟩,
                ⟨some 24, .move (.t 23), none⟩,
                ⟨some 25, .move (.t 0), some (24, true)⟩,
                ⟨some 26, .nilCheck (.t 25), some (24, true)⟩,
                ⟨some 27, .faddr (.t 26) 1, some (24, true)⟩,
                ⟨some 28, .load none (.t 27), some (24, true)⟩,
                ⟨some 29, .move (.t 0), some (24, true)⟩,
                ⟨some 30, .nilCheck (.t 29), some (24, true)⟩,
                ⟨some 31, .faddr (.t 30) 0, some (24, true)⟩,
                ⟨some 32, .load none (.t 31), some (24, true)⟩,
                ⟨some 33, .len 0 (.t 32), some (24, true)⟩,
                ⟨some 34, .bin .eql (.t 28) (.t 33), some (24, true)⟩,
                ⟨some 35, .move (.t 34), some (24, true)⟩,
                ⟨some 36, .move (.t 0), some (35, false)⟩,
                ⟨some 37, .call (.c (.fn 28 [] [])) [(.t 36)], some (35, false)⟩,
                ⟨some 38, .un .not (.t 37), some (35, false)⟩,
                ⟨some 39, .pick (.t 35) (.c (.p (.bool true))) (.t 38), some (24, true)⟩,
                ⟨some 40, .pick (.t 24) (.t 39) (.c (.p (.bool false))), none⟩,
                ⟨some 2, .move (.t 22), none⟩,
                ⟨some 3, .move (.t 40), none⟩])
            .ret))))

theorem ok30 : FOk Tryd.prog 30 fc30 := FOk.of Tryd.func30 (by kernel_rfl)

/-- (*armature/lexer.scanner).symbol -/
def fc31_b0 : SC :=
    (.loc
      (.seq
        (.region [0, 4, 7, 8, 9] [
            ⟨some 9, .bin .lss (.t 8) (.c (.p (.int .i64 29))), none⟩])
        (.seq
          (.cond (.t 9)
            .skip
            (.exit 0))
          (.seq
            (.block 1
              (.seq
                (.region [0, 4, 6, 7, 8] [
                    ⟨some 10, .index (some (29, 1, false)) (.t 7) (.t 8), none⟩,
                    ⟨some 6, .move (.t 10), none⟩])
                (.seq
                  (.draw [0, 4, 6, 7, 8, 21] [(3, 7)] [
                      ⟨some 11, .move (.t 0), none⟩,
                      ⟨some 12, .nilCheck (.t 11), none⟩,
                      ⟨some 13, .faddr (.t 12) 0, none⟩,
                      ⟨some 14, .load none (.t 13), none⟩,
                      ⟨some 15, .move (.t 0), none⟩,
                      ⟨some 16, .nilCheck (.t 15), none⟩,
                      ⟨some 17, .faddr (.t 16) 1, none⟩,
                      ⟨some 18, .load none (.t 17), none⟩,
                      ⟨some 19, .slice 0 (.t 14) (some (.t 18)) none, none⟩,
                      ⟨some 20, .move (.t 6), none⟩,
                      ⟨some 21, .call (.c (.fn 25 [] [])) [(.t 19), (.t 20)], none⟩])
                  (.cond (.t 21)
                    (.seq
                      (.region [0, 4] [
                          ⟨some 22, .move (.t 6), none⟩,
                          ⟨some 4, .move (.t 22), none⟩])
                      (.exit 0))
                    .skip))))
            (.region [0, 4, 7, 8] [
                ⟨some 23, .bin .add (.t 8) (.c (.p (.int .i64 1))), none⟩,
                ⟨some 8, .move (.t 23), none⟩])))))

def fc31 : FC where
  nt := 36
  np := 1
  res := [.t 2, .t 3]
  body :=
    (.seq
      (.region [0] [
          ⟨some 2, .move (.c (.p (.str []))), none⟩,
          ⟨some 3, .move (.c (.p (.bool false))), none⟩])
      (.scope
        (.seq
          (.region [0, 4] [
              ⟨some 4, .move (.c (.p (.str []))), none⟩])
          (.seq
            .skip
            (.seq
              (.seq
                (.region [0, 4, 7, 8] [
                    ⟨some 7, .load (some 29) (.c (.glob 0 0)), none⟩,
                    ⟨some 8, .move (.c (.p (.int .i64 0))), none⟩])
                (.block 0
                  (.loop [0, 4, 7, 8]
                    fc31_b0)))
              (.seq
                (.region [4] [
                    ⟨some 24, .move (.t 0), none⟩,
                    ⟨some 25, .nilCheck (.t 24), none⟩,
                    ⟨some 26, .faddr (.t 25) 1, none⟩,
                    ⟨some 27, .load none (.t 26), none⟩,
                    ⟨some 28, .move (.t 4), none⟩,
                    ⟨some 29, .len 0 (.t 28), none⟩,
                    ⟨some 30, .bin .add (.t 27) (.t 29), none⟩,
                    ⟨some 31, .nilCheck (.t 24), none⟩,
                    ⟨some 32, .faddr (.t 31) 1, none⟩,
                    ⟨none, .store 1 (.t 32) (.t 30), none⟩])
                (.seq
                  (.region [2, 3] [
                      ⟨some 33, .move (.t 4), none⟩,
                      ⟨some 34, .move (.t 4), none⟩,
                      ⟨some 35, .bin .neq (.t 34) (.c (.p (.str []))), none⟩,
                      ⟨some 2, .move (.t 33), none⟩,
                      ⟨some 3, .move (.t 35), none⟩])
                  .ret)))))))

theorem ok31 : FOk Tryd.prog 31 fc31 := FOk.of Tryd.func31 (by kernel_rfl)

/-- armature/armatureref01.space -/
def fc32 : FC where
  nt := 17
  np := 1
  res := [.t 2]
  body :=
    (.seq
      (.region [0] [
          ⟨some 2, .move (.c (.p (.bool false))), none⟩])
      (.seq
        (.region [2] [
            ⟨some 3, .move (.t 0), none⟩,
            ⟨some 4, .bin .eql (.t 3) (.c (.p (.int .u8 32))), none⟩,
            ⟨some 5, .move (.t 4), none⟩,
            ⟨some 6, .move (.t 0), some (5, false)⟩,
            ⟨some 7, .bin .eql (.t 6) (.c (.p (.int .u8 9))), some (5, false)⟩,
            ⟨some 8, .pick (.t 5) (.c (.p (.bool true))) (.t 7), none⟩,
            ⟨some 9, .move (.t 8), none⟩,
            ⟨some 10, .move (.t 0), some (9, false)⟩,
            ⟨some 11, .bin .eql (.t 10) (.c (.p (.int .u8 10))), some (9, false)⟩,
            ⟨some 12, .pick (.t 9) (.c (.p (.bool true))) (.t 11), none⟩,
            ⟨some 13, .move (.t 12), none⟩,
            ⟨some 14, .move (.t 0), some (13, false)⟩,
            ⟨some 15, .bin .eql (.t 14) (.c (.p (.int .u8 13))), some (13, false)⟩,
            ⟨some 16, .pick (.t 13) (.c (.p (.bool true))) (.t 15), none⟩,
            ⟨some 2, .move (.t 16), none⟩])
        .ret))

theorem ok32 : FOk Tryd.prog 32 fc32 := FOk.of Tryd.func32 (by kernel_rfl)

/-- armature/armatureref01.Letter -/
def fc33 : FC where
  nt := 17
  np := 1
  res := [.t 2]
  body :=
    (.seq
      (.region [0] [
          ⟨some 2, .move (.c (.p (.bool false))), none⟩])
      (.seq
        (.region [2] [
            ⟨some 3, .move (.t 0), none⟩,
            ⟨some 4, .bin .geq (.t 3) (.c (.p (.int .u8 65))), none⟩,
            ⟨some 5, .move (.t 4), none⟩,
            ⟨some 6, .move (.t 0), some (5, true)⟩,
            ⟨some 7, .bin .leq (.t 6) (.c (.p (.int .u8 90))), some (5, true)⟩,
            ⟨some 8, .pick (.t 5) (.t 7) (.c (.p (.bool false))), none⟩,
            ⟨some 9, .move (.t 8), none⟩,
            ⟨some 10, .move (.t 0), some (9, false)⟩,
            ⟨some 11, .bin .geq (.t 10) (.c (.p (.int .u8 97))), some (9, false)⟩,
            ⟨some 12, .move (.t 11), some (9, false)⟩,
            ⟨some 13, .move (.t 0), some (12, true)⟩,
            ⟨some 14, .bin .leq (.t 13) (.c (.p (.int .u8 122))), some (12, true)⟩,
            ⟨some 15, .pick (.t 12) (.t 14) (.c (.p (.bool false))), some (9, false)⟩,
            ⟨some 16, .pick (.t 9) (.c (.p (.bool true))) (.t 15), none⟩,
            ⟨some 2, .move (.t 16), none⟩])
        .ret))

theorem ok33 : FOk Tryd.prog 33 fc33 := FOk.of Tryd.func33 (by kernel_rfl)

/-- armature/armatureref01.part -/
def fc34 : FC where
  nt := 13
  np := 1
  res := [.t 2]
  body :=
    (.seq
      (.region [0] [
          ⟨some 2, .move (.c (.p (.bool false))), none⟩])
      (.seq
        (.region [2] [
            ⟨some 3, .move (.t 0), none⟩,
            ⟨some 4, .call (.c (.fn 33 [] [])) [(.t 3)], none⟩,
            ⟨some 5, .move (.t 4), none⟩,
            ⟨some 6, .move (.t 0), some (5, false)⟩,
            ⟨some 7, .call (.c (.fn 35 [] [])) [(.t 6)], some (5, false)⟩,
            ⟨some 8, .pick (.t 5) (.c (.p (.bool true))) (.t 7), none⟩,
            ⟨some 9, .move (.t 8), none⟩,
            ⟨some 10, .move (.t 0), some (9, false)⟩,
            ⟨some 11, .bin .eql (.t 10) (.c (.p (.int .u8 95))), some (9, false)⟩,
            ⟨some 12, .pick (.t 9) (.c (.p (.bool true))) (.t 11), none⟩,
            ⟨some 2, .move (.t 12), none⟩])
        .ret))

theorem ok34 : FOk Tryd.prog 34 fc34 := FOk.of Tryd.func34 (by kernel_rfl)

/-- armature/armatureref01.Digit -/
def fc35 : FC where
  nt := 9
  np := 1
  res := [.t 2]
  body :=
    (.seq
      (.region [0] [
          ⟨some 2, .move (.c (.p (.bool false))), none⟩])
      (.seq
        (.region [2] [
            ⟨some 3, .move (.t 0), none⟩,
            ⟨some 4, .bin .geq (.t 3) (.c (.p (.int .u8 48))), none⟩,
            ⟨some 5, .move (.t 4), none⟩,
            ⟨some 6, .move (.t 0), some (5, true)⟩,
            ⟨some 7, .bin .leq (.t 6) (.c (.p (.int .u8 57))), some (5, true)⟩,
            ⟨some 8, .pick (.t 5) (.t 7) (.c (.p (.bool false))), none⟩,
            ⟨some 2, .move (.t 8), none⟩])
        .ret))

theorem ok35 : FOk Tryd.prog 35 fc35 := FOk.of Tryd.func35 (by kernel_rfl)

/-- armature/armatureref01.symbol -/
def fc36_b0 : SC :=
    (.seq
      (.seq
        (.region [0, 1, 5, 6, 7, 13] [
            ⟨some 10, .move (.t 7), none⟩,
            ⟨some 11, .move (.t 6), none⟩,
            ⟨some 12, .len 1 (.t 11), none⟩,
            ⟨some 13, .bin .lss (.t 10) (.t 12), none⟩])
        (.cond (.t 13)
          .skip
          (.exit 0)))
      (.seq
        (.block 1
          (.seq
            (.region [0, 1, 5, 6, 7, 8] [
                ⟨some 16, .move (.t 1), none⟩,
                ⟨some 17, .move (.t 6), none⟩,
                ⟨some 18, .move (.t 7), none⟩,
                ⟨some 19, .iaddr none 1 (.t 17) (.t 18), none⟩,
                ⟨some 20, .load none (.t 19), none⟩,
                ⟨some 21, .len 0 (.t 20), none⟩,
                ⟨some 22, .bin .add (.t 16) (.t 21), none⟩,
                ⟨some 8, .move (.t 22), none⟩])
            (.seq
              (.draw [0, 1, 5, 6, 7, 47] [] [
                  ⟨some 23, .move (.t 8), none⟩,
                  ⟨some 24, .move (.t 0), none⟩,
                  ⟨some 25, .len 0 (.t 24), none⟩,
                  ⟨some 26, .bin .leq (.t 23) (.t 25), none⟩,
                  ⟨some 27, .move (.t 26), none⟩,
                  ⟨some 28, .move (.t 0), some (27, true)⟩,
                  ⟨some 29, .move (.t 1), some (27, true)⟩,
                  ⟨some 30, .move (.t 8), some (27, true)⟩,
                  ⟨some 31, .slice 0 (.t 28) (some (.t 29)) (some (.t 30)), some (27, true)⟩,
                  ⟨some 32, .move (.t 6), some (27, true)⟩,
                  ⟨some 33, .move (.t 7), some (27, true)⟩,
                  ⟨some 34, .iaddr none 1 (.t 32) (.t 33), some (27, true)⟩,
                  ⟨some 35, .load none (.t 34), some (27, true)⟩,
                  ⟨some 36, .bin .eql (.t 31) (.t 35), some (27, true)⟩,
                  ⟨some 37, .pick (.t 27) (.t 36) (.c (.p (.bool false))), none⟩,
                  ⟨some 38, .move (.t 37), none⟩,
                  ⟨some 39, .move (.t 6), some (38, true)⟩,
                  ⟨some 40, .move (.t 7), some (38, true)⟩,
                  ⟨some 41, .iaddr none 1 (.t 39) (.t 40), some (38, true)⟩,
                  ⟨some 42, .load none (.t 41), some (38, true)⟩,
                  ⟨some 43, .len 0 (.t 42), some (38, true)⟩,
                  ⟨some 44, .move (.t 5), some (38, true)⟩,
                  ⟨some 45, .len 0 (.t 44), some (38, true)⟩,
                  ⟨some 46, .bin .gtr (.t 43) (.t 45), some (38, true)⟩,
                  ⟨some 47, .pick (.t 38) (.t 46) (.c (.p (.bool false))), none⟩])
              (.cond (.t 47)
                (.region [0, 1, 5, 6, 7] [
                    ⟨some 48, .move (.t 6), none⟩,
                    ⟨some 49, .move (.t 7), none⟩,
                    ⟨some 50, .iaddr none 1 (.t 48) (.t 49), none⟩,
                    ⟨some 51, .load none (.t 50), none⟩,
                    ⟨some 5, .move (.t 51), none⟩])
                .skip))))
        (.region [0, 1, 5, 6, 7] [
            ⟨some 14, .move (.t 7), none⟩,
            ⟨some 15, .bin .add (.t 14) (.c (.p (.int .i64 1))), none⟩,
            ⟨some 7, .move (.t 15), none⟩])))

def fc36 : FC where
  nt := 53
  np := 2
  res := [.t 4]
  body :=
    (.seq
      (.region [0, 1] [
          ⟨some 4, .move (.c (.p (.str []))), none⟩])
      (.seq
        (.region [0, 1, 5] [
            ⟨some 5, .move (.c (.p (.str []))), none⟩])
        (.seq
          (.region [0, 1, 5, 6] [
              ⟨some 9, .call (.c (.fn 39 [] [])) [], none⟩,
              ⟨some 6, .move (.t 9), none⟩])
          (.seq
            (.seq
              (.region [0, 1, 5, 6, 7] [
                  ⟨some 7, .move (.c (.p (.int .i64 0))), none⟩])
              (.block 0
                (.loop [0, 1, 5, 6, 7]
                  fc36_b0)))
            (.seq
              (.region [4] [
                  ⟨some 52, .move (.t 5), none⟩,
                  ⟨some 4, .move (.t 52), none⟩])
              .ret)))))

theorem ok36 : FOk Tryd.prog 36 fc36 := FOk.of Tryd.func36 (by kernel_rfl)

/-- strings.IndexByte -/
def fc37 : FC where
  nt := 8
  np := 2
  res := [.t 4]
  body :=
    (.seq
      (.region [0, 1] [
          ⟨some 4, .move (.c (.p (.int .i64 0))), none⟩])
      (.seq
        (.region [4] [
            ⟨some 5, .move (.t 0), none⟩,
            ⟨some 6, .move (.t 1), none⟩,
            ⟨some 7, .call (.c (.fn 40 [] [])) [(.t 5), (.t 6)], none⟩,
            ⟨some 4, .move (.t 7), none⟩])
        .ret))

theorem ok37 : FOk Tryd.prog 37 fc37 := FOk.of Tryd.func37 (by kernel_rfl)

/-- internal/stringslite.HasPrefix -/
def fc38 : FC where
  nt := 18
  np := 2
  res := [.t 4]
  body :=
    (.seq
      (.region [0, 1] [
          ⟨some 4, .move (.c (.p (.bool false))), none⟩])
      (.seq
        (.region [4] [
            ⟨some 5, .move (.t 0), none⟩,
            ⟨some 6, .len 0 (.t 5), none⟩,
            ⟨some 7, .move (.t 1), none⟩,
            ⟨some 8, .len 0 (.t 7), none⟩,
            ⟨some 9, .bin .geq (.t 6) (.t 8), none⟩,
            ⟨some 10, .move (.t 9), none⟩,
            ⟨some 11, .move (.t 0), some (10, true)⟩,
            ⟨some 12, .move (.t 1), some (10, true)⟩,
            ⟨some 13, .len 0 (.t 12), some (10, true)⟩,
            ⟨some 14, .slice 0 (.t 11) none (some (.t 13)), some (10, true)⟩,
            ⟨some 15, .move (.t 1), some (10, true)⟩,
            ⟨some 16, .bin .eql (.t 14) (.t 15), some (10, true)⟩,
            ⟨some 17, .pick (.t 10) (.t 16) (.c (.p (.bool false))), none⟩,
            ⟨some 4, .move (.t 17), none⟩])
        .ret))

theorem ok38 : FOk Tryd.prog 38 fc38 := FOk.of Tryd.func38 (by kernel_rfl)

/-- armature/armatureref01.Symbols -/
def fc39 : FC where
  nt := 2
  np := 0
  res := [.t 0]
  body :=
    (.seq
      (.region [] [
          ⟨some 0, .move (.c (.p (.nils))), none⟩])
      (.seq
        (.region [0] [
            ⟨some 1, .bslice 1 29 (.str []) [(0, (.c (.p (.str [40])))), (1, (.c (.p (.str [41])))), (2, (.c (.p (.str [123])))), (3, (.c (.p (.str [125])))), (4, (.c (.p (.str [91])))), (5, (.c (.p (.str [93])))), (6, (.c (.p (.str [58])))), (7, (.c (.p (.str [59])))), (8, (.c (.p (.str [44])))), (9, (.c (.p (.str [124])))), (10, (.c (.p (.str [124, 124])))), (11, (.c (.p (.str [46])))), (12, (.c (.p (.str [39])))), (13, (.c (.p (.str [126])))), (14, (.c (.p (.str [94])))), (15, (.c (.p (.str [42])))), (16, (.c (.p (.str [43])))), (17, (.c (.p (.str [43, 43])))), (18, (.c (.p (.str [45])))), (19, (.c (.p (.str [45, 62])))), (20, (.c (.p (.str [38])))), (21, (.c (.p (.str [38, 38])))), (22, (.c (.p (.str [35])))), (23, (.c (.p (.str [61])))), (24, (.c (.p (.str [61, 62])))), (25, (.c (.p (.str [33, 61])))), (26, (.c (.p (.str [60])))), (27, (.c (.p (.str [60, 61])))), (28, (.c (.p (.str [60, 61, 62]))))], none⟩,
            ⟨some 0, .move (.t 1), none⟩])
        .ret))

theorem ok39 : FOk Tryd.prog 39 fc39 := FOk.of Tryd.func39 (by kernel_rfl)

/-- internal/stringslite.IndexByte -/
def fc40 : FC where
  nt := 8
  np := 2
  res := [.t 4]
  body :=
    (.seq
      (.region [0, 1] [
          ⟨some 4, .move (.c (.p (.int .i64 0))), none⟩])
      (.seq
        (.region [4] [
            ⟨some 5, .move (.t 0), none⟩,
            ⟨some 6, .move (.t 1), none⟩,
            ⟨some 7, .call (.c (.fn 41 [] [])) [(.t 5), (.t 6)], none⟩,
            ⟨some 4, .move (.t 7), none⟩])
        .ret))

theorem ok40 : FOk Tryd.prog 40 fc40 := FOk.of Tryd.func40 (by kernel_rfl)

/-- gosem.cut.vars -/
def fc62 : FC where
  nt := 1
  np := 0
  res := []
  body :=
    (.region [] [
        ⟨some 0, .build [.str [], .str [], .str [], .str [], .str [], .str [], .str [], .str [], .str [], .str [], .str [], .str [], .str [], .str [], .str [], .str [], .str [], .str [], .str [], .str [], .str [], .str [], .str [], .str [], .str [], .str [], .str [], .str [], .str []] [(0, 1, (.c (.p (.str [60, 61, 62])))), (1, 1, (.c (.p (.str [60, 61])))), (2, 1, (.c (.p (.str [60])))), (3, 1, (.c (.p (.str [61, 62])))), (4, 1, (.c (.p (.str [61])))), (5, 1, (.c (.p (.str [33, 61])))), (6, 1, (.c (.p (.str [45, 62])))), (7, 1, (.c (.p (.str [45])))), (8, 1, (.c (.p (.str [43, 43])))), (9, 1, (.c (.p (.str [43])))), (10, 1, (.c (.p (.str [38, 38])))), (11, 1, (.c (.p (.str [38])))), (12, 1, (.c (.p (.str [124, 124])))), (13, 1, (.c (.p (.str [124])))), (14, 1, (.c (.p (.str [40])))), (15, 1, (.c (.p (.str [41])))), (16, 1, (.c (.p (.str [123])))), (17, 1, (.c (.p (.str [125])))), (18, 1, (.c (.p (.str [91])))), (19, 1, (.c (.p (.str [93])))), (20, 1, (.c (.p (.str [58])))), (21, 1, (.c (.p (.str [59])))), (22, 1, (.c (.p (.str [44])))), (23, 1, (.c (.p (.str [46])))), (24, 1, (.c (.p (.str [39])))), (25, 1, (.c (.p (.str [126])))), (26, 1, (.c (.p (.str [94])))), (27, 1, (.c (.p (.str [42])))), (28, 1, (.c (.p (.str [35]))))], none⟩,
        ⟨none, .store 29 (.c (.glob 0 0)) (.t 0), none⟩])

theorem ok62 : FOk Tryd.prog 62 fc62 := FOk.of Tryd.func62 (by kernel_rfl)

end Go.Proofs.YtphnflkjgoobmaaDoor
