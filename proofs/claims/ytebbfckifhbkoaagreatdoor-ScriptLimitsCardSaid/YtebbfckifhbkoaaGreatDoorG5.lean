/-
  A value-level evaluator for Go functions; the functions of this cut by it; plain laws. Text G5.
-/
import Derived.Lib.Split
import Derived.Lib.CountLaws
import Derived.Lib.SplitLaws
import Derived.Lib.IndexLaws
import Derived.Lib.IndexBytes
import Derived.Lib.IndexMore
import Derived.Test.YtebbfckifhbkoaaGreatDoorG4
import Derived.Test.YtebbfckifhbkoaaGreatDoorProg
import Derived.Test.YtebbfckifhbkoaaGreatDoorG3
import Derived.KernelRfl
import Derived.Lib.ItoaNum
import Derived.Lib.AtoiAll
import Derived.Lib.Strings
import Derived.Lib.Replace
import Derived.Shelf.Strings.Split
import Derived.Shelf.Strings.Replace
import Derived.Shelf.Strings.Prefix
import Derived.Shelf.Strconv.Itoa3
import Derived.Shelf.Strconv.AtoiAll
import Derived.Lib.Builder
import Derived.WalkKit
import Derived.Laws.Externs
import Derived.RangeFuncKeeps
import Derived.RangeFuncLeaves
import Derived.Shelf.Abstract
import Derived.OwnWalkIn
import Derived.TacticsInMore
import Derived.LoopNIn
import Derived.LoopIn
import Derived.Lib.AppendIntMem
import Derived.Lib.UnsafeStr
import Derived.Lib.ReplaceLaws
import Derived.Lib.AtoiAllCases

namespace Go.Proofs.YtebbfckifhbkoaaGreatDoor
def spl (c : UInt8) : List UInt8 → List (List UInt8)
  | [] => [[]]
  | b :: r => if b = c then [] :: spl c r else match spl c r with
    | w :: ws => (b :: w) :: ws
    | [] => [[b]]
theorem spl_ne (c : UInt8) : ∀ s, spl c s ≠ []
  | [] => by simp [spl]
  | b :: r => by
    simp only [spl]
    split
    · simp
    · split <;> simp
theorem spl_none {c : UInt8} : ∀ {s : List UInt8}, c ∉ s → spl c s = [s]
  | [], _ => rfl
  | b :: r, h => by
    simp only [List.mem_cons, not_or] at h
    simp only [spl]
    rw [if_neg (fun e => h.1 e.symm), spl_none h.2]
theorem spl_app {c : UInt8} : ∀ {u v : List UInt8}, c ∉ u → spl c (u ++ c :: v) = u :: spl c v
  | [], v, _ => by simp [spl]
  | b :: r, v, h => by
    simp only [List.mem_cons, not_or] at h
    simp only [List.cons_append, spl]
    rw [if_neg (fun e => h.1 e.symm), spl_app h.2]
theorem index_split {s : List UInt8} {c : UInt8} {i : Nat} (h : Lib.indexByte s c = i) : s = s.take i ++ c :: s.drop (i + 1) ∧ c ∉ s.take i := by
  obtain ⟨h1, h2⟩ := Lib.indexByte_some h
  have hi := (List.getElem?_eq_some_iff.1 h1).1
  have hc : s[i] = c := (List.getElem?_eq_some_iff.1 h1).2
  refine ⟨?_, fun hm => ?_⟩
  · rw [← hc, List.getElem_cons_drop, List.take_append_drop]
  · obtain ⟨k, hk⟩ := List.getElem?_of_mem hm
    rw [List.getElem?_take] at hk
    split at hk
    · rename_i hki; exact h2 k hki hk
    · cases hk
theorem index_none' {s : List UInt8} {c : UInt8} (h : Lib.indexByte s c = -1) : c ∉ s := fun hm => by
  obtain ⟨k, hk⟩ := List.getElem?_of_mem hm
  exact Lib.indexByte_none h k hk
theorem index_cases (s : List UInt8) (c : UInt8) : Lib.indexByte s c = -1 ∨ ∃ i : Nat, Lib.indexByte s c = i := by
  have := Lib.indexByte_ge s c
  by_cases h : Lib.indexByte s c = -1
  · exact .inl h
  · exact .inr ⟨(Lib.indexByte s c).toNat, by omega⟩
theorem splitK_spl (c : UInt8) : ∀ (k : Nat) (s : List UInt8), Lib.count s [c] = k → Lib.splitK [c] 0 k s = spl c s := by
  intro k
  induction k with
  | zero =>
    intro s h
    rcases index_cases s c with q | ⟨i, q⟩
    · simp only [Lib.splitK]
      rw [spl_none (index_none' q)]
    · have := Lib.count_hit (s := s) (sub := [c]) (i := i) (by simp) (by rw [Lib.index_one]; exact q)
      omega
  | succ k ih =>
    intro s h
    rcases index_cases s c with q | ⟨i, q⟩
    · have := Lib.count_miss (s := s) (sub := [c]) (by rw [Lib.index_one]; exact q)
      omega
    · have hc := Lib.count_hit (s := s) (sub := [c]) (i := i) (by simp) (by rw [Lib.index_one]; exact q)
      have hi : Lib.index s [c] = (i : Int) := by rw [Lib.index_one]; exact q
      have hne : ¬ ((Lib.index s [c] == -1) = true) := fun e => by have := beq_iff_eq.1 e; omega
      simp only [List.length_cons, List.length_nil, Nat.zero_add] at hc
      simp only [Lib.splitK]
      rw [if_neg hne, hi]
      simp only [Int.toNat_natCast, Nat.add_zero, List.length_cons, List.length_nil, Nat.zero_add]
      rw [ih _ (by omega)]
      obtain ⟨h1, h2⟩ := index_split q
      conv => rhs; rw [h1]
      rw [spl_app h2]
theorem count_mk (s : List UInt8) (c : UInt8) : Lib.countB ⟨s.toArray⟩ ⟨[c].toArray⟩ = Lib.count s [c] := rfl
theorem splitB_spl (s : List UInt8) (c : UInt8) : (Lib.splitB ⟨[c].toArray⟩ 0 (Lib.countB ⟨s.toArray⟩ ⟨[c].toArray⟩) ⟨s.toArray⟩).map (fun b => b.data.toList) = spl c s := by
  have := Lib.splitB_data ⟨[c].toArray⟩ 0 (Lib.countB ⟨s.toArray⟩ ⟨[c].toArray⟩) ⟨s.toArray⟩
  rw [this, count_mk]
  exact splitK_spl c _ s rfl
theorem spl_len (c : UInt8) : ∀ s, (spl c s).length ≤ s.length + 1
  | [] => by simp [spl]
  | b :: r => by
    have := spl_len c r
    simp only [spl]
    split
    · simp; omega
    · split
      · rename_i w ws h; rw [h] at this; simp at this ⊢; omega
      · simp
theorem spl_word (c : UInt8) : ∀ s, ∀ w ∈ spl c s, w.length ≤ s.length
  | [], w, h => by simp [spl] at h; subst h; simp
  | b :: r, w, h => by
    have ih := spl_word c r
    simp only [spl] at h
    split at h
    · rcases List.mem_cons.1 h with rfl | h
      · simp
      · have := ih w h; simp; omega
    · split at h
      · rename_i v vs hv
        rcases List.mem_cons.1 h with rfl | h
        · have := ih v (by rw [hv]; simp); simp; omega
        · have := ih w (by rw [hv]; simp [h]); simp; omega
      · simp at h; subst h; simp
def cutL (c : UInt8) : List UInt8 → List UInt8 × List UInt8 × Bool
  | [] => ([], [], false)
  | b :: r => if b = c then ([], r, true) else (b :: (cutL c r).1, (cutL c r).2.1, (cutL c r).2.2)
theorem cutL_none {c : UInt8} : ∀ {s : List UInt8}, c ∉ s → cutL c s = (s, [], false)
  | [], _ => rfl
  | b :: r, h => by
    simp only [List.mem_cons, not_or] at h
    simp only [cutL]
    rw [if_neg (fun e => h.1 e.symm), cutL_none h.2]
theorem cutL_app {c : UInt8} : ∀ {u v : List UInt8}, c ∉ u → cutL c (u ++ c :: v) = (u, v, true)
  | [], v, _ => by simp [cutL]
  | b :: r, v, h => by
    simp only [List.mem_cons, not_or] at h
    simp only [List.cons_append, cutL]
    rw [if_neg (fun e => h.1 e.symm), cutL_app h.2]
theorem cut_cutL (s : List UInt8) (c : UInt8) : Lib.cut s [c] = cutL c s := by
  rcases index_cases s c with q | ⟨i, q⟩
  · have h : Lib.index s [c] = -1 := by rw [Lib.index_one]; exact q
    rw [cutL_none (index_none' q)]
    simp [Lib.cut, h]
  · have h : Lib.index s [c] = (i : Int) := by rw [Lib.index_one]; exact q
    obtain ⟨h1, h2⟩ := index_split q
    have hl : Lib.cut s [c] = (s.take i, s.drop (i + 1), true) := by simp [Lib.cut, h]
    rw [hl]
    conv => rhs; rw [h1]
    rw [cutL_app h2]

end Go.Proofs.YtebbfckifhbkoaaGreatDoor

namespace Go.Proofs.YtebbfckifhbkoaaGreatDoor
open Go.Vs
def ign : List UInt8 → Bool
  | [] => true
  | b :: _ => b == 35
def lns : Nat → List (List UInt8) → List (Nat × List UInt8)
  | _, [] => []
  | k, x :: r => if ign x then lns (k + 1) r else (k + 1, x) :: lns (k + 1) r
def lnD (x : Nat × List UInt8) : List D := [.p (.int .i64 (x.1 : Int)), .p (.str x.2)]
def gen33 : List D → Hp → Option (List (List D))
  | [.box i 0], H => match H.bx[i]? with
    | some [.p (.str s)] => if s.length < 4294967281 then some ((lns 0 (spl 10 s)).map lnD) else none
    | _ => none
  | _, _ => none

end Go.Proofs.YtebbfckifhbkoaaGreatDoor

namespace Go.Proofs.YtebbfckifhbkoaaGreatDoor
open Go.Vs
def fc3 : FC where
  nt := 59
  np := 2
  res := [.t 4]
  body :=
    (.seq
      (.region [0, 1] [
          ⟨some 4, .move (.c (.p (.bool false))), none⟩])
      (.seq
        (.region [0, 1, 5] [
            ⟨some 13, .call (.c (.fn 9 [] [])) [], none⟩,
            ⟨some 5, .move (.t 13), none⟩])
        (.seq
          (.seq
            (.region [0, 1, 5, 20] [
                ⟨some 14, .move (.t 0), none⟩,
                ⟨some 15, .len 0 (.t 14), none⟩,
                ⟨some 16, .bin .gtr (.t 15) (.c (.p (.int .i64 3000))), none⟩,
                ⟨some 17, .move (.t 16), none⟩,
                ⟨some 18, .move (.t 1), some (17, false)⟩,
                ⟨some 19, .call (.c (.fn 10 [] [])) [(.t 18)], some (17, false)⟩,
                ⟨some 20, .pick (.t 17) (.c (.p (.bool true))) (.t 19), none⟩])
            (.cond (.t 20)
              (.seq
                (.region [4] [
                    ⟨some 21, .move (.t 5), none⟩,
                    ⟨some 4, .move (.t 21), none⟩])
                .ret)
              .skip))
          (.seq
            (.region [0, 1, 5, 6, 7, 8] [
                ⟨some 23, .move (.t 0), none⟩,
                ⟨some 24, .call (.c (.fn 11 [] [])) [(.t 23)], none⟩,
                ⟨some 22, .move (.t 24), none⟩,
                ⟨some 25, .extract (.t 22) 0, none⟩,
                ⟨some 26, .extract (.t 22) 1, none⟩,
                ⟨some 27, .extract (.t 22) 2, none⟩,
                ⟨some 6, .move (.t 25), none⟩,
                ⟨some 7, .move (.t 26), none⟩,
                ⟨some 8, .move (.t 27), none⟩])
            (.seq
              (.region [1, 5, 6, 7, 8, 9, 10, 11] [
                  ⟨some 29, .move (.t 0), none⟩,
                  ⟨some 30, .call (.c (.fn 12 [] [])) [(.t 29)], none⟩,
                  ⟨some 28, .move (.t 30), none⟩,
                  ⟨some 31, .extract (.t 28) 0, none⟩,
                  ⟨some 32, .extract (.t 28) 1, none⟩,
                  ⟨some 33, .extract (.t 28) 2, none⟩,
                  ⟨some 9, .move (.t 31), none⟩,
                  ⟨some 10, .move (.t 32), none⟩,
                  ⟨some 11, .move (.t 33), none⟩])
              (.seq
                (.region [5, 6, 7, 8, 9, 10, 11, 12] [
                    ⟨some 34, .move (.t 1), none⟩,
                    ⟨some 35, .call (.c (.fn 13 [] [])) [(.t 34)], none⟩,
                    ⟨some 12, .move (.t 35), none⟩])
                (.seq
                  (.region [4] [
                      ⟨some 36, .move (.t 5), none⟩,
                      ⟨some 37, .move (.t 36), none⟩,
                      ⟨some 38, .move (.t 6), some (37, true)⟩,
                      ⟨some 39, .move (.t 9), some (37, true)⟩,
                      ⟨some 40, .call (.c (.fn 14 [] [])) [(.t 38), (.t 39)], some (37, true)⟩,
                      ⟨some 41, .pick (.t 37) (.t 40) (.c (.p (.bool false))), none⟩,
                      ⟨some 42, .move (.t 41), none⟩,
                      ⟨some 43, .move (.t 7), some (42, true)⟩,
                      ⟨some 44, .move (.t 10), some (42, true)⟩,
                      ⟨some 45, .bin .eql (.t 43) (.t 44), some (42, true)⟩,
                      ⟨some 46, .pick (.t 42) (.t 45) (.c (.p (.bool false))), none⟩,
                      ⟨some 47, .move (.t 46), none⟩,
                      ⟨some 48, .move (.t 8), some (47, true)⟩,
                      ⟨some 49, .move (.t 11), some (47, true)⟩,
                      ⟨some 50, .bin .eql (.t 48) (.t 49), some (47, true)⟩,
                      ⟨some 51, .pick (.t 47) (.t 50) (.c (.p (.bool false))), none⟩,
                      ⟨some 52, .move (.t 51), none⟩,
                      ⟨some 53, .move (.t 12), some (52, true)⟩,
                      ⟨some 54, .call (.c (.fn 15 [] [])) [(.t 53)], some (52, true)⟩,
                      ⟨some 55, .move (.t 12), some (52, true)⟩,
                      ⟨some 56, .call (.c (.fn 16 [] [])) [(.t 55)], some (52, true)⟩,
                      ⟨some 57, .bin .eql (.t 54) (.t 56), some (52, true)⟩,
                      ⟨some 58, .pick (.t 52) (.t 57) (.c (.p (.bool false))), none⟩,
                      ⟨some 4, .move (.t 58), none⟩])
                  .ret)))))))
theorem ok3 : FOk Tryz.prog 3 fc3 := FOk.of Tryz.func3 (by kernel_rfl)
def fc4_b0 : SC :=
    (.loc
      (.seq
        (.seq
          (.region [5, 10, 13, 64] [
              ⟨some 61, .move (.t 13), none⟩,
              ⟨some 62, .move (.t 10), none⟩,
              ⟨some 63, .len 1 (.t 62), none⟩,
              ⟨some 64, .bin .lss (.t 61) (.t 63), none⟩])
          (.cond (.t 64)
            .skip
            (.exit 0)))
        (.seq
          (.block 1
            (.seq
              (.region [5, 10, 13, 72] [
                  ⟨some 67, .move (.t 10), none⟩,
                  ⟨some 68, .move (.t 13), none⟩,
                  ⟨some 69, .iaddr none 3 (.t 67) (.t 68), none⟩,
                  ⟨some 70, .load (some 3) (.t 69), none⟩,
                  ⟨some 71, .call (.c (.fn 17 [] [])) [(.t 70)], none⟩,
                  ⟨some 72, .un .not (.t 71), none⟩])
              (.cond (.t 72)
                (.seq
                  (.region [4] [
                      ⟨some 4, .move (.c (.p (.bool false))), none⟩])
                  .ret)
                .skip)))
          (.region [5, 10, 13] [
              ⟨some 65, .move (.t 13), none⟩,
              ⟨some 66, .bin .add (.t 65) (.c (.p (.int .i64 1))), none⟩,
              ⟨some 13, .move (.t 66), none⟩]))))
def fc4 : FC where
  nt := 90
  np := 2
  res := [.t 4]
  body :=
    (.seq
      (.region [0, 1] [
          ⟨some 4, .move (.c (.p (.bool false))), none⟩])
      (.seq
        (.region [0, 1, 5] [
            ⟨some 17, .call (.c (.fn 9 [] [])) [], none⟩,
            ⟨some 5, .move (.t 17), none⟩])
        (.seq
          (.seq
            (.region [0, 1, 5, 24] [
                ⟨some 18, .move (.t 0), none⟩,
                ⟨some 19, .len 0 (.t 18), none⟩,
                ⟨some 20, .bin .gtr (.t 19) (.c (.p (.int .i64 3000))), none⟩,
                ⟨some 21, .move (.t 20), none⟩,
                ⟨some 22, .move (.t 1), some (21, false)⟩,
                ⟨some 23, .call (.c (.fn 10 [] [])) [(.t 22)], some (21, false)⟩,
                ⟨some 24, .pick (.t 21) (.c (.p (.bool true))) (.t 23), none⟩])
            (.cond (.t 24)
              (.seq
                (.region [4] [
                    ⟨some 25, .move (.t 5), none⟩,
                    ⟨some 4, .move (.t 25), none⟩])
                .ret)
              .skip))
          (.seq
            (.region [0, 5, 6] [
                ⟨some 26, .move (.t 1), none⟩,
                ⟨some 27, .call (.c (.fn 13 [] [])) [(.t 26)], none⟩,
                ⟨some 6, .move (.t 27), none⟩])
            (.seq
              (.region [0, 5, 6, 7, 8, 9] [
                  ⟨some 29, .move (.t 6), none⟩,
                  ⟨some 30, .call (.c (.fn 15 [] [])) [(.t 29)], none⟩,
                  ⟨some 31, .call (.c (.fn 11 [] [])) [(.t 30)], none⟩,
                  ⟨some 28, .move (.t 31), none⟩,
                  ⟨some 32, .extract (.t 28) 0, none⟩,
                  ⟨some 33, .extract (.t 28) 1, none⟩,
                  ⟨some 34, .extract (.t 28) 2, none⟩,
                  ⟨some 7, .move (.t 32), none⟩,
                  ⟨some 8, .move (.t 33), none⟩,
                  ⟨some 9, .move (.t 34), none⟩])
              (.seq
                (.seq
                  (.region [0, 5, 46] [
                      ⟨some 35, .move (.t 8), none⟩,
                      ⟨some 36, .bin .neq (.t 35) (.c (.p (.int .i64 0))), none⟩,
                      ⟨some 37, .move (.t 36), none⟩,
                      ⟨some 38, .move (.t 9), some (37, false)⟩,
                      ⟨some 39, .bin .neq (.t 38) (.c (.p (.int .i64 0))), some (37, false)⟩,
                      ⟨some 40, .pick (.t 37) (.c (.p (.bool true))) (.t 39), none⟩,
                      ⟨some 41, .move (.t 40), none⟩,
                      ⟨some 42, .move (.t 7), some (41, false)⟩,
                      ⟨some 43, .move (.t 6), some (41, false)⟩,
                      ⟨some 44, .call (.c (.fn 14 [] [])) [(.t 42), (.t 43)], some (41, false)⟩,
                      ⟨some 45, .un .not (.t 44), some (41, false)⟩,
                      ⟨some 46, .pick (.t 41) (.c (.p (.bool true))) (.t 45), none⟩])
                  (.cond (.t 46)
                    (.seq
                      (.region [4] [
                          ⟨some 4, .move (.c (.p (.bool false))), none⟩])
                      .ret)
                    .skip))
                (.seq
                  (.region [5, 10, 11] [
                      ⟨some 48, .move (.t 0), none⟩,
                      ⟨some 49, .call (.c (.fn 11 [] [])) [(.t 48)], none⟩,
                      ⟨some 47, .move (.t 49), none⟩,
                      ⟨some 50, .extract (.t 47) 0, none⟩,
                      ⟨some 51, .extract (.t 47) 1, none⟩,
                      ⟨some 52, .extract (.t 47) 2, none⟩,
                      ⟨some 10, .move (.t 50), none⟩,
                      ⟨some 11, .move (.t 51), none⟩,
                      ⟨some 12, .move (.t 52), none⟩])
                  (.seq
                    (.seq
                      (.region [5, 10, 54] [
                          ⟨some 53, .move (.t 11), none⟩,
                          ⟨some 54, .bin .neq (.t 53) (.c (.p (.int .i64 0))), none⟩])
                      (.cond (.t 54)
                        (.seq
                          (.region [4] [
                              ⟨some 55, .move (.t 5), none⟩,
                              ⟨some 56, .move (.t 55), none⟩,
                              ⟨some 57, .move (.t 10), some (56, true)⟩,
                              ⟨some 58, .len 1 (.t 57), some (56, true)⟩,
                              ⟨some 59, .bin .eql (.t 58) (.c (.p (.int .i64 0))), some (56, true)⟩,
                              ⟨some 60, .pick (.t 56) (.t 59) (.c (.p (.bool false))), none⟩,
                              ⟨some 4, .move (.t 60), none⟩])
                          .ret)
                        .skip))
                    (.seq
                      (.seq
                        (.region [5, 10, 13] [
                            ⟨some 13, .move (.c (.p (.int .i64 0))), none⟩])
                        (.block 0
                          (.loop [5, 10, 13]
                            fc4_b0)))
                      (.seq
                        (.region [5, 10, 14, 15] [
                            ⟨some 74, .move (.t 10), none⟩,
                            ⟨some 75, .call (.c (.fn 15 [] [])) [(.t 74)], none⟩,
                            ⟨some 76, .call (.c (.fn 11 [] [])) [(.t 75)], none⟩,
                            ⟨some 73, .move (.t 76), none⟩,
                            ⟨some 77, .extract (.t 73) 0, none⟩,
                            ⟨some 78, .extract (.t 73) 1, none⟩,
                            ⟨some 79, .extract (.t 73) 2, none⟩,
                            ⟨some 14, .move (.t 77), none⟩,
                            ⟨some 15, .move (.t 78), none⟩,
                            ⟨some 16, .move (.t 79), none⟩])
                        (.seq
                          (.region [4] [
                              ⟨some 80, .move (.t 5), none⟩,
                              ⟨some 81, .move (.t 80), none⟩,
                              ⟨some 82, .move (.t 15), some (81, true)⟩,
                              ⟨some 83, .bin .eql (.t 82) (.c (.p (.int .i64 0))), some (81, true)⟩,
                              ⟨some 84, .pick (.t 81) (.t 83) (.c (.p (.bool false))), none⟩,
                              ⟨some 85, .move (.t 84), none⟩,
                              ⟨some 86, .move (.t 10), some (85, true)⟩,
                              ⟨some 87, .move (.t 14), some (85, true)⟩,
                              ⟨some 88, .call (.c (.fn 14 [] [])) [(.t 86), (.t 87)], some (85, true)⟩,
                              ⟨some 89, .pick (.t 85) (.t 88) (.c (.p (.bool false))), none⟩,
                              ⟨some 4, .move (.t 89), none⟩])
                          .ret)))))))))))
theorem ok4 : FOk Tryz.prog 4 fc4 := FOk.of Tryz.func4 (by kernel_rfl)
def fc5 : FC where
  nt := 121
  np := 2
  res := [.t 4]
  body :=
    (.seq
      (.region [0, 1] [
          ⟨some 4, .move (.c (.p (.bool false))), none⟩])
      (.seq
        (.region [0, 1, 5] [
            ⟨some 18, .call (.c (.fn 9 [] [])) [], none⟩,
            ⟨some 5, .move (.t 18), none⟩])
        (.seq
          (.seq
            (.region [0, 1, 5, 26] [
                ⟨some 19, .move (.t 0), none⟩,
                ⟨some 20, .len 0 (.t 19), none⟩,
                ⟨some 21, .bin .gtr (.t 20) (.c (.p (.int .i64 3000))), none⟩,
                ⟨some 22, .move (.t 21), none⟩,
                ⟨some 23, .move (.t 1), some (22, false)⟩,
                ⟨some 24, .len 0 (.t 23), some (22, false)⟩,
                ⟨some 25, .bin .gtr (.t 24) (.c (.p (.int .i64 3000))), some (22, false)⟩,
                ⟨some 26, .pick (.t 22) (.c (.p (.bool true))) (.t 25), none⟩])
            (.cond (.t 26)
              (.seq
                (.region [4] [
                    ⟨some 27, .move (.t 5), none⟩,
                    ⟨some 4, .move (.t 27), none⟩])
                .ret)
              .skip))
          (.seq
            (.region [1, 5, 6] [
                ⟨some 28, .move (.t 0), none⟩,
                ⟨some 29, .bin .add (.t 28) (.c (.p (.str [10]))), none⟩,
                ⟨some 6, .move (.t 29), none⟩])
            (.seq
              (.region [5, 6, 7] [
                  ⟨some 30, .move (.t 1), none⟩,
                  ⟨some 31, .bin .add (.c (.p (.str [115, 104, 111, 119, 10]))) (.t 30), none⟩,
                  ⟨some 7, .move (.t 31), none⟩])
              (.seq
                (.region [5, 6, 7, 8, 9, 10] [
                    ⟨some 33, .move (.t 6), none⟩,
                    ⟨some 34, .call (.c (.fn 11 [] [])) [(.t 33)], none⟩,
                    ⟨some 32, .move (.t 34), none⟩,
                    ⟨some 35, .extract (.t 32) 0, none⟩,
                    ⟨some 36, .extract (.t 32) 1, none⟩,
                    ⟨some 37, .extract (.t 32) 2, none⟩,
                    ⟨some 8, .move (.t 35), none⟩,
                    ⟨some 9, .move (.t 36), none⟩,
                    ⟨some 10, .move (.t 37), none⟩])
                (.seq
                  (.region [5, 6, 7, 8, 9, 10, 11, 12, 13] [
                      ⟨some 39, .move (.t 7), none⟩,
                      ⟨some 40, .call (.c (.fn 11 [] [])) [(.t 39)], none⟩,
                      ⟨some 38, .move (.t 40), none⟩,
                      ⟨some 41, .extract (.t 38) 0, none⟩,
                      ⟨some 42, .extract (.t 38) 1, none⟩,
                      ⟨some 43, .extract (.t 38) 2, none⟩,
                      ⟨some 11, .move (.t 41), none⟩,
                      ⟨some 12, .move (.t 42), none⟩,
                      ⟨some 13, .move (.t 43), none⟩])
                  (.seq
                    (.region [5, 6, 8, 9, 10, 11, 12, 13, 14, 15, 16] [
                        ⟨some 45, .move (.t 6), none⟩,
                        ⟨some 46, .move (.t 7), none⟩,
                        ⟨some 47, .bin .add (.t 45) (.t 46), none⟩,
                        ⟨some 48, .call (.c (.fn 11 [] [])) [(.t 47)], none⟩,
                        ⟨some 44, .move (.t 48), none⟩,
                        ⟨some 49, .extract (.t 44) 0, none⟩,
                        ⟨some 50, .extract (.t 44) 1, none⟩,
                        ⟨some 51, .extract (.t 44) 2, none⟩,
                        ⟨some 14, .move (.t 49), none⟩,
                        ⟨some 15, .move (.t 50), none⟩,
                        ⟨some 16, .move (.t 51), none⟩])
                    (.seq
                      (.seq
                        (.region [5, 6, 8, 9, 10, 11, 12, 13, 14, 15, 16, 53] [
                            ⟨some 52, .move (.t 9), none⟩,
                            ⟨some 53, .bin .neq (.t 52) (.c (.p (.int .i64 0))), none⟩])
                        (.cond (.t 53)
                          (.seq
                            (.region [4] [
                                ⟨some 54, .move (.t 5), none⟩,
                                ⟨some 55, .move (.t 54), none⟩,
                                ⟨some 56, .move (.t 15), some (55, true)⟩,
                                ⟨some 57, .move (.t 9), some (55, true)⟩,
                                ⟨some 58, .bin .eql (.t 56) (.t 57), some (55, true)⟩,
                                ⟨some 59, .pick (.t 55) (.t 58) (.c (.p (.bool false))), none⟩,
                                ⟨some 60, .move (.t 59), none⟩,
                                ⟨some 61, .move (.t 16), some (60, true)⟩,
                                ⟨some 62, .move (.t 10), some (60, true)⟩,
                                ⟨some 63, .bin .eql (.t 61) (.t 62), some (60, true)⟩,
                                ⟨some 64, .pick (.t 60) (.t 63) (.c (.p (.bool false))), none⟩,
                                ⟨some 65, .move (.t 64), none⟩,
                                ⟨some 66, .move (.t 14), some (65, true)⟩,
                                ⟨some 67, .len 1 (.t 66), some (65, true)⟩,
                                ⟨some 68, .bin .eql (.t 67) (.c (.p (.int .i64 0))), some (65, true)⟩,
                                ⟨some 69, .pick (.t 65) (.t 68) (.c (.p (.bool false))), none⟩,
                                ⟨some 4, .move (.t 69), none⟩])
                            .ret)
                          .skip))
                      (.seq
                        (.seq
                          (.region [5, 6, 8, 11, 12, 13, 14, 15, 16, 83] [
                              ⟨some 70, .move (.t 8), none⟩,
                              ⟨some 71, .len 1 (.t 70), none⟩,
                              ⟨some 72, .move (.t 11), none⟩,
                              ⟨some 73, .len 1 (.t 72), none⟩,
                              ⟨some 74, .bin .add (.t 71) (.t 73), none⟩,
                              ⟨some 75, .bin .gtr (.t 74) (.c (.p (.int .i64 200))), none⟩,
                              ⟨some 76, .move (.t 75), none⟩,
                              ⟨some 77, .move (.t 12), some (76, false)⟩,
                              ⟨some 78, .bin .eql (.t 77) (.c (.p (.int .i64 2))), some (76, false)⟩,
                              ⟨some 79, .pick (.t 76) (.c (.p (.bool true))) (.t 78), none⟩,
                              ⟨some 80, .move (.t 79), none⟩,
                              ⟨some 81, .move (.t 15), some (80, false)⟩,
                              ⟨some 82, .bin .eql (.t 81) (.c (.p (.int .i64 2))), some (80, false)⟩,
                              ⟨some 83, .pick (.t 80) (.c (.p (.bool true))) (.t 82), none⟩])
                          (.cond (.t 83)
                            (.seq
                              (.region [4] [
                                  ⟨some 84, .move (.t 5), none⟩,
                                  ⟨some 4, .move (.t 84), none⟩])
                              .ret)
                            .skip))
                        (.seq
                          (.seq
                            (.region [5, 6, 8, 11, 12, 13, 14, 15, 16, 86] [
                                ⟨some 85, .move (.t 12), none⟩,
                                ⟨some 86, .bin .neq (.t 85) (.c (.p (.int .i64 0))), none⟩])
                            (.cond (.t 86)
                              (.seq
                                (.region [4] [
                                    ⟨some 87, .move (.t 5), none⟩,
                                    ⟨some 88, .move (.t 87), none⟩,
                                    ⟨some 89, .move (.t 15), some (88, true)⟩,
                                    ⟨some 90, .move (.t 12), some (88, true)⟩,
                                    ⟨some 91, .bin .eql (.t 89) (.t 90), some (88, true)⟩,
                                    ⟨some 92, .pick (.t 88) (.t 91) (.c (.p (.bool false))), none⟩,
                                    ⟨some 93, .move (.t 92), none⟩,
                                    ⟨some 94, .move (.t 16), some (93, true)⟩,
                                    ⟨some 95, .move (.t 13), some (93, true)⟩,
                                    ⟨some 96, .move (.t 6), some (93, true)⟩,
                                    ⟨some 97, .call (.c (.fn 18 [] [])) [(.t 96)], some (93, true)⟩,
                                    ⟨some 98, .bin .add (.t 95) (.t 97), some (93, true)⟩,
                                    ⟨some 99, .bin .eql (.t 94) (.t 98), some (93, true)⟩,
                                    ⟨some 100, .pick (.t 93) (.t 99) (.c (.p (.bool false))), none⟩,
                                    ⟨some 4, .move (.t 100), none⟩])
                                .ret)
                              .skip))
                          (.seq
                            (.region [5, 11, 14, 15, 16, 17] [
                                ⟨some 101, .bslice 35 3 0 (.agg [.int .i64 0, .str [], .nils]) [], none⟩,
                                ⟨some 102, .move (.t 8), none⟩,
                                ⟨some 103, .append 35 3 48 (.t 101) (.t 102), none⟩,
                                ⟨some 17, .move (.t 103), none⟩])
                            (.seq
                              (.region [5, 14, 15, 16, 17] [
                                  ⟨some 104, .move (.t 17), none⟩,
                                  ⟨some 105, .move (.t 11), none⟩,
                                  ⟨some 106, .append 35 3 48 (.t 104) (.t 105), none⟩,
                                  ⟨some 17, .move (.t 106), none⟩])
                              (.seq
                                (.region [4] [
                                    ⟨some 107, .move (.t 5), none⟩,
                                    ⟨some 108, .move (.t 107), none⟩,
                                    ⟨some 109, .move (.t 15), some (108, true)⟩,
                                    ⟨some 110, .bin .eql (.t 109) (.c (.p (.int .i64 0))), some (108, true)⟩,
                                    ⟨some 111, .pick (.t 108) (.t 110) (.c (.p (.bool false))), none⟩,
                                    ⟨some 112, .move (.t 111), none⟩,
                                    ⟨some 113, .move (.t 16), some (112, true)⟩,
                                    ⟨some 114, .bin .eql (.t 113) (.c (.p (.int .i64 0))), some (112, true)⟩,
                                    ⟨some 115, .pick (.t 112) (.t 114) (.c (.p (.bool false))), none⟩,
                                    ⟨some 116, .move (.t 115), none⟩,
                                    ⟨some 117, .move (.t 14), some (116, true)⟩,
                                    ⟨some 118, .move (.t 17), some (116, true)⟩,
                                    ⟨some 119, .call (.c (.fn 14 [] [])) [(.t 117), (.t 118)], some (116, true)⟩,
                                    ⟨some 120, .pick (.t 116) (.t 119) (.c (.p (.bool false))), none⟩,
                                    ⟨some 4, .move (.t 120), none⟩])
                                .ret))))))))))))))
theorem ok5 : FOk Tryz.prog 5 fc5 := FOk.of Tryz.func5 (by kernel_rfl)
def fc6_b0 : SC :=
    (.seq
      (.seq
        (.region [0, 9, 10, 11, 12, 13, 14, 50] [
            ⟨some 47, .move (.t 14), none⟩,
            ⟨some 48, .move (.t 10), none⟩,
            ⟨some 49, .len 1 (.t 48), none⟩,
            ⟨some 50, .bin .lss (.t 47) (.t 49), none⟩])
        (.cond (.t 50)
          .skip
          (.exit 0)))
      (.seq
        (.block 1
          (.seq
            (.seq
              (.region [0, 9, 10, 11, 12, 13, 14, 55] [
                  ⟨some 53, .move (.t 14), none⟩,
                  ⟨some 54, .move (.t 11), none⟩,
                  ⟨some 55, .bin .eql (.t 53) (.t 54), none⟩])
              (.cond (.t 55)
                (.region [0, 9, 10, 11, 12, 13, 14] [
                    ⟨some 56, .move (.t 13), none⟩,
                    ⟨some 57, .move (.t 12), none⟩,
                    ⟨some 58, .bin .add (.t 56) (.t 57), none⟩,
                    ⟨some 59, .bin .add (.t 58) (.c (.p (.str [10]))), none⟩,
                    ⟨some 13, .move (.t 59), none⟩])
                .skip))
            (.seq
              (.region [0, 9, 10, 11, 12, 13, 14] [
                  ⟨some 60, .move (.t 13), none⟩,
                  ⟨some 61, .move (.t 10), none⟩,
                  ⟨some 62, .move (.t 14), none⟩,
                  ⟨some 63, .iaddr none 1 (.t 61) (.t 62), none⟩,
                  ⟨some 64, .load none (.t 63), none⟩,
                  ⟨some 65, .bin .add (.t 60) (.t 64), none⟩,
                  ⟨some 13, .move (.t 65), none⟩])
              (.seq
                (.region [0, 9, 10, 11, 12, 13, 14, 70] [
                    ⟨some 66, .move (.t 14), none⟩,
                    ⟨some 67, .bin .add (.t 66) (.c (.p (.int .i64 1))), none⟩,
                    ⟨some 68, .move (.t 10), none⟩,
                    ⟨some 69, .len 1 (.t 68), none⟩,
                    ⟨some 70, .bin .lss (.t 67) (.t 69), none⟩])
                (.cond (.t 70)
                  (.region [0, 9, 10, 11, 12, 13, 14] [
                      ⟨some 71, .move (.t 13), none⟩,
                      ⟨some 72, .bin .add (.t 71) (.c (.p (.str [10]))), none⟩,
                      ⟨some 13, .move (.t 72), none⟩])
                  .skip)))))
        (.region [0, 9, 10, 11, 12, 13, 14] [
            ⟨some 51, .move (.t 14), none⟩,
            ⟨some 52, .bin .add (.t 51) (.c (.p (.int .i64 1))), none⟩,
            ⟨some 14, .move (.t 52), none⟩])))
def fc6 : FC where
  nt := 107
  np := 4
  res := [.t 8]
  body :=
    (.seq
      (.region [0, 1, 2, 3] [
          ⟨some 8, .move (.c (.p (.bool false))), none⟩])
      (.seq
        (.region [0, 1, 2, 3, 9] [
            ⟨some 22, .call (.c (.fn 9 [] [])) [], none⟩,
            ⟨some 9, .move (.t 22), none⟩])
        (.seq
          (.seq
            (.region [0, 1, 2, 3, 9, 35] [
                ⟨some 23, .move (.t 0), none⟩,
                ⟨some 24, .len 0 (.t 23), none⟩,
                ⟨some 25, .bin .gtr (.t 24) (.c (.p (.int .i64 3000))), none⟩,
                ⟨some 26, .move (.t 25), none⟩,
                ⟨some 27, .move (.t 3), some (26, false)⟩,
                ⟨some 28, .len 0 (.t 27), some (26, false)⟩,
                ⟨some 29, .bin .gtr (.t 28) (.c (.p (.int .i64 100))), some (26, false)⟩,
                ⟨some 30, .pick (.t 26) (.c (.p (.bool true))) (.t 29), none⟩,
                ⟨some 31, .move (.t 30), none⟩,
                ⟨some 32, .move (.t 3), some (31, false)⟩,
                ⟨some 33, .call (.c (.fn 18 [] [])) [(.t 32)], some (31, false)⟩,
                ⟨some 34, .bin .gtr (.t 33) (.c (.p (.int .i64 0))), some (31, false)⟩,
                ⟨some 35, .pick (.t 31) (.c (.p (.bool true))) (.t 34), none⟩])
            (.cond (.t 35)
              (.seq
                (.region [8] [
                    ⟨some 36, .move (.t 9), none⟩,
                    ⟨some 8, .move (.t 36), none⟩])
                .ret)
              .skip))
          (.seq
            (.region [0, 1, 2, 3, 9, 10] [
                ⟨some 37, .move (.t 0), none⟩,
                ⟨some 38, .call (.c (.fn 19 [] [])) [(.t 37), (.c (.p (.int .u8 10)))], none⟩,
                ⟨some 10, .move (.t 38), none⟩])
            (.seq
              (.region [0, 2, 3, 9, 10, 11] [
                  ⟨some 39, .move (.t 1), none⟩,
                  ⟨some 40, .conv .i64 (.t 39), none⟩,
                  ⟨some 41, .move (.t 10), none⟩,
                  ⟨some 42, .len 1 (.t 41), none⟩,
                  ⟨some 43, .bin .rem (.t 40) (.t 42), none⟩,
                  ⟨some 11, .move (.t 43), none⟩])
              (.seq
                (.region [0, 2, 9, 10, 11, 12] [
                    ⟨some 44, .move (.t 3), none⟩,
                    ⟨some 45, .bin .add (.c (.p (.str [35]))) (.t 44), none⟩,
                    ⟨some 12, .move (.t 45), none⟩])
                (.seq
                  (.seq
                    (.region [0, 9, 10, 11, 12, 46] [
                        ⟨some 46, .move (.t 2), none⟩])
                    (.cond (.t 46)
                      (.region [0, 9, 10, 11, 12] [
                          ⟨some 12, .move (.c (.p (.str []))), none⟩])
                      .skip))
                  (.seq
                    (.region [0, 9, 10, 11, 12, 13] [
                        ⟨some 13, .move (.c (.p (.str []))), none⟩])
                    (.seq
                      (.seq
                        (.region [0, 9, 10, 11, 12, 13, 14] [
                            ⟨some 14, .move (.c (.p (.int .i64 0))), none⟩])
                        (.block 0
                          (.loop [0, 9, 10, 11, 12, 13, 14]
                            fc6_b0)))
                      (.seq
                        (.region [9, 11, 13, 15, 16, 17] [
                            ⟨some 74, .move (.t 0), none⟩,
                            ⟨some 75, .call (.c (.fn 11 [] [])) [(.t 74)], none⟩,
                            ⟨some 73, .move (.t 75), none⟩,
                            ⟨some 76, .extract (.t 73) 0, none⟩,
                            ⟨some 77, .extract (.t 73) 1, none⟩,
                            ⟨some 78, .extract (.t 73) 2, none⟩,
                            ⟨some 15, .move (.t 76), none⟩,
                            ⟨some 16, .move (.t 77), none⟩,
                            ⟨some 17, .move (.t 78), none⟩])
                        (.seq
                          (.region [9, 11, 15, 16, 17, 18, 19, 20] [
                              ⟨some 80, .move (.t 13), none⟩,
                              ⟨some 81, .call (.c (.fn 11 [] [])) [(.t 80)], none⟩,
                              ⟨some 79, .move (.t 81), none⟩,
                              ⟨some 82, .extract (.t 79) 0, none⟩,
                              ⟨some 83, .extract (.t 79) 1, none⟩,
                              ⟨some 84, .extract (.t 79) 2, none⟩,
                              ⟨some 18, .move (.t 82), none⟩,
                              ⟨some 19, .move (.t 83), none⟩,
                              ⟨some 20, .move (.t 84), none⟩])
                          (.seq
                            (.region [9, 11, 15, 16, 17, 18, 19, 20, 21] [
                                ⟨some 85, .move (.t 17), none⟩,
                                ⟨some 21, .move (.t 85), none⟩])
                            (.seq
                              (.seq
                                (.region [9, 15, 16, 17, 18, 19, 20, 21, 88] [
                                    ⟨some 86, .move (.t 17), none⟩,
                                    ⟨some 87, .move (.t 11), none⟩,
                                    ⟨some 88, .bin .gtr (.t 86) (.t 87), none⟩])
                                (.cond (.t 88)
                                  (.region [9, 15, 16, 18, 19, 20, 21] [
                                      ⟨some 89, .move (.t 17), none⟩,
                                      ⟨some 90, .bin .add (.t 89) (.c (.p (.int .i64 1))), none⟩,
                                      ⟨some 21, .move (.t 90), none⟩])
                                  .skip))
                              (.seq
                                (.region [8] [
                                    ⟨some 91, .move (.t 9), none⟩,
                                    ⟨some 92, .move (.t 91), none⟩,
                                    ⟨some 93, .move (.t 15), some (92, true)⟩,
                                    ⟨some 94, .move (.t 18), some (92, true)⟩,
                                    ⟨some 95, .call (.c (.fn 14 [] [])) [(.t 93), (.t 94)], some (92, true)⟩,
                                    ⟨some 96, .pick (.t 92) (.t 95) (.c (.p (.bool false))), none⟩,
                                    ⟨some 97, .move (.t 96), none⟩,
                                    ⟨some 98, .move (.t 16), some (97, true)⟩,
                                    ⟨some 99, .move (.t 19), some (97, true)⟩,
                                    ⟨some 100, .bin .eql (.t 98) (.t 99), some (97, true)⟩,
                                    ⟨some 101, .pick (.t 97) (.t 100) (.c (.p (.bool false))), none⟩,
                                    ⟨some 102, .move (.t 101), none⟩,
                                    ⟨some 103, .move (.t 20), some (102, true)⟩,
                                    ⟨some 104, .move (.t 21), some (102, true)⟩,
                                    ⟨some 105, .bin .eql (.t 103) (.t 104), some (102, true)⟩,
                                    ⟨some 106, .pick (.t 102) (.t 105) (.c (.p (.bool false))), none⟩,
                                    ⟨some 8, .move (.t 106), none⟩])
                                .ret))))))))))))))
theorem ok6 : FOk Tryz.prog 6 fc6 := FOk.of Tryz.func6 (by kernel_rfl)
def fc7_b0 : SC :=
    (.seq
      (.seq
        (.region [1, 5, 7, 8, 9, 10, 11, 54] [
            ⟨some 51, .move (.t 11), none⟩,
            ⟨some 52, .bin .add (.t 51) (.c (.p (.int .i64 1))), none⟩,
            ⟨some 53, .move (.t 8), none⟩,
            ⟨some 54, .bin .lss (.t 52) (.t 53), none⟩])
        (.cond (.t 54)
          .skip
          (.exit 0)))
      (.seq
        (.block 1
          (.region [1, 5, 7, 8, 9, 10, 11] [
              ⟨some 57, .move (.t 10), none⟩,
              ⟨some 58, .move (.t 9), none⟩,
              ⟨some 59, .move (.t 11), none⟩,
              ⟨some 60, .iaddr none 1 (.t 58) (.t 59), none⟩,
              ⟨some 61, .load none (.t 60), none⟩,
              ⟨some 62, .bin .add (.t 57) (.t 61), none⟩,
              ⟨some 63, .bin .add (.t 62) (.c (.p (.str [10]))), none⟩,
              ⟨some 10, .move (.t 63), none⟩]))
        (.region [1, 5, 7, 8, 9, 10, 11] [
            ⟨some 55, .move (.t 11), none⟩,
            ⟨some 56, .bin .add (.t 55) (.c (.p (.int .i64 1))), none⟩,
            ⟨some 11, .move (.t 56), none⟩])))
def fc7 : FC where
  nt := 100
  np := 2
  res := [.t 4]
  body :=
    (.seq
      (.region [0, 1] [
          ⟨some 4, .move (.c (.p (.bool false))), none⟩])
      (.seq
        (.region [0, 1, 5] [
            ⟨some 18, .call (.c (.fn 9 [] [])) [], none⟩,
            ⟨some 5, .move (.t 18), none⟩])
        (.seq
          (.seq
            (.region [0, 1, 5, 26] [
                ⟨some 19, .move (.t 0), none⟩,
                ⟨some 20, .len 0 (.t 19), none⟩,
                ⟨some 21, .bin .gtr (.t 20) (.c (.p (.int .i64 3000))), none⟩,
                ⟨some 22, .move (.t 21), none⟩,
                ⟨some 23, .move (.t 1), some (22, false)⟩,
                ⟨some 24, .len 0 (.t 23), some (22, false)⟩,
                ⟨some 25, .bin .gtr (.t 24) (.c (.p (.int .i64 3000))), some (22, false)⟩,
                ⟨some 26, .pick (.t 22) (.c (.p (.bool true))) (.t 25), none⟩])
            (.cond (.t 26)
              (.seq
                (.region [4] [
                    ⟨some 27, .move (.t 5), none⟩,
                    ⟨some 4, .move (.t 27), none⟩])
                .ret)
              .skip))
          (.seq
            (.region [0, 1, 5, 7, 8] [
                ⟨some 29, .move (.t 0), none⟩,
                ⟨some 30, .call (.c (.fn 11 [] [])) [(.t 29)], none⟩,
                ⟨some 28, .move (.t 30), none⟩,
                ⟨some 31, .extract (.t 28) 0, none⟩,
                ⟨some 32, .extract (.t 28) 1, none⟩,
                ⟨some 33, .extract (.t 28) 2, none⟩,
                ⟨some 6, .move (.t 31), none⟩,
                ⟨some 7, .move (.t 32), none⟩,
                ⟨some 8, .move (.t 33), none⟩])
            (.seq
              (.seq
                (.region [0, 1, 5, 7, 8, 35] [
                    ⟨some 34, .move (.t 7), none⟩,
                    ⟨some 35, .bin .eql (.t 34) (.c (.p (.int .i64 0))), none⟩])
                (.cond (.t 35)
                  (.seq
                    (.region [4] [
                        ⟨some 36, .move (.t 5), none⟩,
                        ⟨some 37, .move (.t 36), none⟩,
                        ⟨some 38, .move (.t 8), some (37, true)⟩,
                        ⟨some 39, .bin .eql (.t 38) (.c (.p (.int .i64 0))), some (37, true)⟩,
                        ⟨some 40, .pick (.t 37) (.t 39) (.c (.p (.bool false))), none⟩,
                        ⟨some 4, .move (.t 40), none⟩])
                    .ret)
                  .skip))
              (.seq
                (.region [1, 5, 7, 8, 9] [
                    ⟨some 41, .move (.t 0), none⟩,
                    ⟨some 42, .call (.c (.fn 19 [] [])) [(.t 41), (.c (.p (.int .u8 10)))], none⟩,
                    ⟨some 9, .move (.t 42), none⟩])
                (.seq
                  (.seq
                    (.region [1, 5, 7, 8, 9, 50] [
                        ⟨some 43, .move (.t 8), none⟩,
                        ⟨some 44, .bin .lss (.t 43) (.c (.p (.int .i64 1))), none⟩,
                        ⟨some 45, .move (.t 44), none⟩,
                        ⟨some 46, .move (.t 8), some (45, false)⟩,
                        ⟨some 47, .move (.t 9), some (45, false)⟩,
                        ⟨some 48, .len 1 (.t 47), some (45, false)⟩,
                        ⟨some 49, .bin .gtr (.t 46) (.t 48), some (45, false)⟩,
                        ⟨some 50, .pick (.t 45) (.c (.p (.bool true))) (.t 49), none⟩])
                    (.cond (.t 50)
                      (.seq
                        (.region [4] [
                            ⟨some 4, .move (.c (.p (.bool false))), none⟩])
                        .ret)
                      .skip))
                  (.seq
                    (.region [1, 5, 7, 8, 9, 10] [
                        ⟨some 10, .move (.c (.p (.str []))), none⟩])
                    (.seq
                      (.seq
                        (.region [1, 5, 7, 8, 9, 10, 11] [
                            ⟨some 11, .move (.c (.p (.int .i64 0))), none⟩])
                        (.block 0
                          (.loop [1, 5, 7, 8, 9, 10, 11]
                            fc7_b0)))
                      (.seq
                        (.region [1, 5, 7, 8, 9, 10, 13] [
                            ⟨some 65, .move (.t 10), none⟩,
                            ⟨some 66, .call (.c (.fn 11 [] [])) [(.t 65)], none⟩,
                            ⟨some 64, .move (.t 66), none⟩,
                            ⟨some 67, .extract (.t 64) 0, none⟩,
                            ⟨some 68, .extract (.t 64) 1, none⟩,
                            ⟨some 69, .extract (.t 64) 2, none⟩,
                            ⟨some 12, .move (.t 67), none⟩,
                            ⟨some 13, .move (.t 68), none⟩,
                            ⟨some 14, .move (.t 69), none⟩])
                        (.seq
                          (.region [5, 7, 8, 13, 16, 17] [
                              ⟨some 71, .move (.t 10), none⟩,
                              ⟨some 72, .move (.t 9), none⟩,
                              ⟨some 73, .move (.t 8), none⟩,
                              ⟨some 74, .bin .sub (.t 73) (.c (.p (.int .i64 1))), none⟩,
                              ⟨some 75, .iaddr none 1 (.t 72) (.t 74), none⟩,
                              ⟨some 76, .load none (.t 75), none⟩,
                              ⟨some 77, .bin .add (.t 71) (.t 76), none⟩,
                              ⟨some 78, .bin .add (.t 77) (.c (.p (.str [10]))), none⟩,
                              ⟨some 79, .move (.t 1), none⟩,
                              ⟨some 80, .bin .add (.t 78) (.t 79), none⟩,
                              ⟨some 81, .call (.c (.fn 11 [] [])) [(.t 80)], none⟩,
                              ⟨some 70, .move (.t 81), none⟩,
                              ⟨some 82, .extract (.t 70) 0, none⟩,
                              ⟨some 83, .extract (.t 70) 1, none⟩,
                              ⟨some 84, .extract (.t 70) 2, none⟩,
                              ⟨some 15, .move (.t 82), none⟩,
                              ⟨some 16, .move (.t 83), none⟩,
                              ⟨some 17, .move (.t 84), none⟩])
                          (.seq
                            (.region [4] [
                                ⟨some 85, .move (.t 5), none⟩,
                                ⟨some 86, .move (.t 85), none⟩,
                                ⟨some 87, .move (.t 13), some (86, true)⟩,
                                ⟨some 88, .bin .eql (.t 87) (.c (.p (.int .i64 0))), some (86, true)⟩,
                                ⟨some 89, .pick (.t 86) (.t 88) (.c (.p (.bool false))), none⟩,
                                ⟨some 90, .move (.t 89), none⟩,
                                ⟨some 91, .move (.t 16), some (90, true)⟩,
                                ⟨some 92, .move (.t 7), some (90, true)⟩,
                                ⟨some 93, .bin .eql (.t 91) (.t 92), some (90, true)⟩,
                                ⟨some 94, .pick (.t 90) (.t 93) (.c (.p (.bool false))), none⟩,
                                ⟨some 95, .move (.t 94), none⟩,
                                ⟨some 96, .move (.t 17), some (95, true)⟩,
                                ⟨some 97, .move (.t 8), some (95, true)⟩,
                                ⟨some 98, .bin .eql (.t 96) (.t 97), some (95, true)⟩,
                                ⟨some 99, .pick (.t 95) (.t 98) (.c (.p (.bool false))), none⟩,
                                ⟨some 4, .move (.t 99), none⟩])
                            .ret))))))))))))
theorem ok7 : FOk Tryz.prog 7 fc7 := FOk.of Tryz.func7 (by kernel_rfl)
def fc8_b0 : SC :=
    (.seq
      (.seq
        (.region [1, 5, 6, 32] [
            ⟨some 27, .move (.t 6), none⟩,
            ⟨some 28, .len 1 (.t 27), none⟩,
            ⟨some 29, .move (.t 1), none⟩,
            ⟨some 30, .conv .i64 (.t 29), none⟩,
            ⟨some 31, .bin .add (.c (.p (.int .i64 65536))) (.t 30), none⟩,
            ⟨some 32, .bin .leq (.t 28) (.t 31), none⟩])
        (.cond (.t 32)
          .skip
          (.exit 0)))
      (.block 1
        (.region [1, 5, 6] [
            ⟨some 33, .move (.t 6), none⟩,
            ⟨some 34, .bslice 5 1 1 (.int .u8 0) [(0, (.c (.p (.int .u8 10))))], none⟩,
            ⟨some 35, .appendg 5 1 1 (.t 33) (.t 34), none⟩,
            ⟨some 6, .move (.t 35), none⟩])))
def fc8_b1 : SC :=
    (.seq
      (.seq
        (.region [5, 7, 8, 9, 10, 11, 44] [
            ⟨some 43, .move (.t 11), none⟩,
            ⟨some 44, .bin .lss (.t 43) (.c (.p (.int .i64 200))), none⟩])
        (.cond (.t 44)
          .skip
          (.exit 2)))
      (.seq
        (.block 3
          (.region [5, 7, 8, 9, 10, 11] [
              ⟨some 47, .move (.t 10), none⟩,
              ⟨some 48, .bin .add (.t 47) (.c (.p (.str [110, 101, 120, 116, 10]))), none⟩,
              ⟨some 10, .move (.t 48), none⟩]))
        (.region [5, 7, 8, 9, 10, 11] [
            ⟨some 45, .move (.t 11), none⟩,
            ⟨some 46, .bin .add (.t 45) (.c (.p (.int .i64 1))), none⟩,
            ⟨some 11, .move (.t 46), none⟩])))
def fc8 : FC where
  nt := 93
  np := 2
  res := [.t 4]
  body :=
    (.seq
      (.region [0, 1] [
          ⟨some 4, .move (.c (.p (.bool false))), none⟩])
      (.seq
        (.region [0, 1, 5] [
            ⟨some 18, .call (.c (.fn 9 [] [])) [], none⟩,
            ⟨some 5, .move (.t 18), none⟩])
        (.seq
          (.seq
            (.region [0, 1, 5, 21] [
                ⟨some 19, .move (.t 0), none⟩,
                ⟨some 20, .len 0 (.t 19), none⟩,
                ⟨some 21, .bin .gtr (.t 20) (.c (.p (.int .i64 2000))), none⟩])
            (.cond (.t 21)
              (.seq
                (.region [4] [
                    ⟨some 22, .move (.t 5), none⟩,
                    ⟨some 4, .move (.t 22), none⟩])
                .ret)
              .skip))
          (.seq
            (.region [1, 5, 6] [
                ⟨some 23, .move (.t 0), none⟩,
                ⟨some 24, .bin .add (.c (.p (.str [35]))) (.t 23), none⟩,
                ⟨some 25, .bin .add (.t 24) (.c (.p (.str [10]))), none⟩,
                ⟨some 26, .toBytesG 5 (.t 25), none⟩,
                ⟨some 6, .move (.t 26), none⟩])
            (.seq
              (.block 0
                (.loop [1, 5, 6]
                  fc8_b0))
              (.seq
                (.region [5, 7, 8, 9] [
                    ⟨some 37, .move (.t 6), none⟩,
                    ⟨some 38, .toStr (.t 37), none⟩,
                    ⟨some 39, .call (.c (.fn 11 [] [])) [(.t 38)], none⟩,
                    ⟨some 36, .move (.t 39), none⟩,
                    ⟨some 40, .extract (.t 36) 0, none⟩,
                    ⟨some 41, .extract (.t 36) 1, none⟩,
                    ⟨some 42, .extract (.t 36) 2, none⟩,
                    ⟨some 7, .move (.t 40), none⟩,
                    ⟨some 8, .move (.t 41), none⟩,
                    ⟨some 9, .move (.t 42), none⟩])
                (.seq
                  (.region [5, 7, 8, 9, 10] [
                      ⟨some 10, .move (.c (.p (.str []))), none⟩])
                  (.seq
                    (.seq
                      (.region [5, 7, 8, 9, 10, 11] [
                          ⟨some 11, .move (.c (.p (.int .i64 0))), none⟩])
                      (.block 2
                        (.loop [5, 7, 8, 9, 10, 11]
                          fc8_b1)))
                    (.seq
                      (.region [5, 7, 8, 9, 10, 12, 13] [
                          ⟨some 50, .move (.t 10), none⟩,
                          ⟨some 51, .call (.c (.fn 11 [] [])) [(.t 50)], none⟩,
                          ⟨some 49, .move (.t 51), none⟩,
                          ⟨some 52, .extract (.t 49) 0, none⟩,
                          ⟨some 53, .extract (.t 49) 1, none⟩,
                          ⟨some 54, .extract (.t 49) 2, none⟩,
                          ⟨some 12, .move (.t 52), none⟩,
                          ⟨some 13, .move (.t 53), none⟩,
                          ⟨some 14, .move (.t 54), none⟩])
                      (.seq
                        (.region [5, 7, 8, 9, 12, 13, 16, 17] [
                            ⟨some 56, .move (.t 10), none⟩,
                            ⟨some 57, .bin .add (.t 56) (.c (.p (.str [10, 115, 104, 111, 119, 10]))), none⟩,
                            ⟨some 58, .call (.c (.fn 11 [] [])) [(.t 57)], none⟩,
                            ⟨some 55, .move (.t 58), none⟩,
                            ⟨some 59, .extract (.t 55) 0, none⟩,
                            ⟨some 60, .extract (.t 55) 1, none⟩,
                            ⟨some 61, .extract (.t 55) 2, none⟩,
                            ⟨some 15, .move (.t 59), none⟩,
                            ⟨some 16, .move (.t 60), none⟩,
                            ⟨some 17, .move (.t 61), none⟩])
                        (.seq
                          (.region [4] [
                              ⟨some 62, .move (.t 5), none⟩,
                              ⟨some 63, .move (.t 62), none⟩,
                              ⟨some 64, .move (.t 7), some (63, true)⟩,
                              ⟨some 65, .len 1 (.t 64), some (63, true)⟩,
                              ⟨some 66, .bin .eql (.t 65) (.c (.p (.int .i64 0))), some (63, true)⟩,
                              ⟨some 67, .pick (.t 63) (.t 66) (.c (.p (.bool false))), none⟩,
                              ⟨some 68, .move (.t 67), none⟩,
                              ⟨some 69, .move (.t 8), some (68, true)⟩,
                              ⟨some 70, .bin .eql (.t 69) (.c (.p (.int .i64 2))), some (68, true)⟩,
                              ⟨some 71, .pick (.t 68) (.t 70) (.c (.p (.bool false))), none⟩,
                              ⟨some 72, .move (.t 71), none⟩,
                              ⟨some 73, .move (.t 9), some (72, true)⟩,
                              ⟨some 74, .bin .eql (.t 73) (.c (.p (.int .i64 0))), some (72, true)⟩,
                              ⟨some 75, .pick (.t 72) (.t 74) (.c (.p (.bool false))), none⟩,
                              ⟨some 76, .move (.t 75), none⟩,
                              ⟨some 77, .move (.t 12), some (76, true)⟩,
                              ⟨some 78, .len 1 (.t 77), some (76, true)⟩,
                              ⟨some 79, .bin .eql (.t 78) (.c (.p (.int .i64 200))), some (76, true)⟩,
                              ⟨some 80, .pick (.t 76) (.t 79) (.c (.p (.bool false))), none⟩,
                              ⟨some 81, .move (.t 80), none⟩,
                              ⟨some 82, .move (.t 13), some (81, true)⟩,
                              ⟨some 83, .bin .eql (.t 82) (.c (.p (.int .i64 0))), some (81, true)⟩,
                              ⟨some 84, .pick (.t 81) (.t 83) (.c (.p (.bool false))), none⟩,
                              ⟨some 85, .move (.t 84), none⟩,
                              ⟨some 86, .move (.t 16), some (85, true)⟩,
                              ⟨some 87, .bin .eql (.t 86) (.c (.p (.int .i64 2))), some (85, true)⟩,
                              ⟨some 88, .pick (.t 85) (.t 87) (.c (.p (.bool false))), none⟩,
                              ⟨some 89, .move (.t 88), none⟩,
                              ⟨some 90, .move (.t 17), some (89, true)⟩,
                              ⟨some 91, .bin .eql (.t 90) (.c (.p (.int .i64 202))), some (89, true)⟩,
                              ⟨some 92, .pick (.t 89) (.t 91) (.c (.p (.bool false))), none⟩,
                              ⟨some 4, .move (.t 92), none⟩])
                          .ret)))))))))))
theorem ok8 : FOk Tryz.prog 8 fc8 := FOk.of Tryz.func8 (by kernel_rfl)
def fc9 : FC where
  nt := 98
  np := 0
  res := [.t 0]
  body :=
    (.seq
      (.region [] [
          ⟨some 0, .move (.c (.p (.bool false))), none⟩])
      (.seq
        (.region [1, 2] [
            ⟨some 17, .call (.c (.fn 11 [] [])) [(.c (.p (.str [115, 99, 111, 112, 101, 32, 50, 32, 49, 10])))], none⟩,
            ⟨some 16, .move (.t 17), none⟩,
            ⟨some 18, .extract (.t 16) 0, none⟩,
            ⟨some 19, .extract (.t 16) 1, none⟩,
            ⟨some 20, .extract (.t 16) 2, none⟩,
            ⟨some 1, .move (.t 18), none⟩,
            ⟨some 2, .move (.t 19), none⟩,
            ⟨some 3, .move (.t 20), none⟩])
        (.seq
          (.region [1, 2, 4, 5] [
              ⟨some 22, .call (.c (.fn 11 [] [])) [(.c (.p (.str [114, 117, 110, 10, 124, 115, 111, 109, 101, 32, 102, 10, 124, 105, 110, 32, 103, 10, 115, 104, 111, 119])))], none⟩,
              ⟨some 21, .move (.t 22), none⟩,
              ⟨some 23, .extract (.t 21) 0, none⟩,
              ⟨some 24, .extract (.t 21) 1, none⟩,
              ⟨some 25, .extract (.t 21) 2, none⟩,
              ⟨some 4, .move (.t 23), none⟩,
              ⟨some 5, .move (.t 24), none⟩,
              ⟨some 6, .move (.t 25), none⟩])
          (.seq
            (.region [1, 2, 4, 5, 8, 9] [
                ⟨some 27, .call (.c (.fn 11 [] [])) [(.c (.p (.str [110, 101, 120, 116, 32, 49])))], none⟩,
                ⟨some 26, .move (.t 27), none⟩,
                ⟨some 28, .extract (.t 26) 0, none⟩,
                ⟨some 29, .extract (.t 26) 1, none⟩,
                ⟨some 30, .extract (.t 26) 2, none⟩,
                ⟨some 7, .move (.t 28), none⟩,
                ⟨some 8, .move (.t 29), none⟩,
                ⟨some 9, .move (.t 30), none⟩])
            (.seq
              (.region [1, 2, 4, 5, 8, 9, 11, 12] [
                  ⟨some 32, .call (.c (.fn 11 [] [])) [(.c (.p (.str [35, 32, 97, 10, 103, 111])))], none⟩,
                  ⟨some 31, .move (.t 32), none⟩,
                  ⟨some 33, .extract (.t 31) 0, none⟩,
                  ⟨some 34, .extract (.t 31) 1, none⟩,
                  ⟨some 35, .extract (.t 31) 2, none⟩,
                  ⟨some 10, .move (.t 33), none⟩,
                  ⟨some 11, .move (.t 34), none⟩,
                  ⟨some 12, .move (.t 35), none⟩])
              (.seq
                (.region [1, 2, 4, 5, 8, 9, 11, 12, 14, 15] [
                    ⟨some 37, .call (.c (.fn 11 [] [])) [(.c (.p (.str [115, 104, 111, 119, 10, 124, 120])))], none⟩,
                    ⟨some 36, .move (.t 37), none⟩,
                    ⟨some 38, .extract (.t 36) 0, none⟩,
                    ⟨some 39, .extract (.t 36) 1, none⟩,
                    ⟨some 40, .extract (.t 36) 2, none⟩,
                    ⟨some 13, .move (.t 38), none⟩,
                    ⟨some 14, .move (.t 39), none⟩,
                    ⟨some 15, .move (.t 40), none⟩])
                (.seq
                  (.region [0] [
                      ⟨some 41, .move (.t 2), none⟩,
                      ⟨some 42, .bin .eql (.t 41) (.c (.p (.int .i64 0))), none⟩,
                      ⟨some 43, .move (.t 42), none⟩,
                      ⟨some 44, .move (.t 1), some (43, true)⟩,
                      ⟨some 45, .bslice 3 1 2 (.int .i64 0) [(0, (.c (.p (.int .i64 2)))), (1, (.c (.p (.int .i64 1))))], some (43, true)⟩,
                      ⟨some 46, .build [.int .i64 0, .str [], .nils] [(0, 1, (.c (.p (.int .i64 2)))), (2, 1, (.t 45))], some (43, true)⟩,
                      ⟨some 47, .bslice 35 3 1 (.agg [.int .i64 0, .str [], .nils]) [(0, (.t 46))], some (43, true)⟩,
                      ⟨some 48, .call (.c (.fn 14 [] [])) [(.t 44), (.t 47)], some (43, true)⟩,
                      ⟨some 49, .pick (.t 43) (.t 48) (.c (.p (.bool false))), none⟩,
                      ⟨some 50, .move (.t 49), none⟩,
                      ⟨some 51, .move (.t 5), some (50, true)⟩,
                      ⟨some 52, .bin .eql (.t 51) (.c (.p (.int .i64 0))), some (50, true)⟩,
                      ⟨some 53, .pick (.t 50) (.t 52) (.c (.p (.bool false))), none⟩,
                      ⟨some 54, .move (.t 53), none⟩,
                      ⟨some 55, .move (.t 4), some (54, true)⟩,
                      ⟨some 56, .build [.int .i64 0, .str [], .nils] [(0, 1, (.c (.p (.int .i64 3)))), (1, 1, (.c (.p (.str [115, 111, 109, 101, 32, 102, 10, 105, 110, 32, 103]))))], some (54, true)⟩,
                      ⟨some 57, .build [.int .i64 0, .str [], .nils] [(0, 1, (.c (.p (.int .i64 9))))], some (54, true)⟩,
                      ⟨some 58, .bslice 35 3 2 (.agg [.int .i64 0, .str [], .nils]) [(0, (.t 56)), (1, (.t 57))], some (54, true)⟩,
                      ⟨some 59, .call (.c (.fn 14 [] [])) [(.t 55), (.t 58)], some (54, true)⟩,
                      ⟨some 60, .pick (.t 54) (.t 59) (.c (.p (.bool false))), none⟩,
                      ⟨some 61, .move (.t 60), none⟩,
                      ⟨some 62, .move (.t 8), some (61, true)⟩,
                      ⟨some 63, .bin .eql (.t 62) (.c (.p (.int .i64 340))), some (61, true)⟩,
                      ⟨some 64, .pick (.t 61) (.t 63) (.c (.p (.bool false))), none⟩,
                      ⟨some 65, .move (.t 64), none⟩,
                      ⟨some 66, .move (.t 9), some (65, true)⟩,
                      ⟨some 67, .bin .eql (.t 66) (.c (.p (.int .i64 1))), some (65, true)⟩,
                      ⟨some 68, .pick (.t 65) (.t 67) (.c (.p (.bool false))), none⟩,
                      ⟨some 69, .move (.t 68), none⟩,
                      ⟨some 70, .move (.t 11), some (69, true)⟩,
                      ⟨some 71, .bin .eql (.t 70) (.c (.p (.int .i64 360))), some (69, true)⟩,
                      ⟨some 72, .pick (.t 69) (.t 71) (.c (.p (.bool false))), none⟩,
                      ⟨some 73, .move (.t 72), none⟩,
                      ⟨some 74, .move (.t 12), some (73, true)⟩,
                      ⟨some 75, .bin .eql (.t 74) (.c (.p (.int .i64 2))), some (73, true)⟩,
                      ⟨some 76, .pick (.t 73) (.t 75) (.c (.p (.bool false))), none⟩,
                      ⟨some 77, .move (.t 76), none⟩,
                      ⟨some 78, .move (.t 14), some (77, true)⟩,
                      ⟨some 79, .bin .eql (.t 78) (.c (.p (.int .i64 340))), some (77, true)⟩,
                      ⟨some 80, .pick (.t 77) (.t 79) (.c (.p (.bool false))), none⟩,
                      ⟨some 81, .move (.t 80), none⟩,
                      ⟨some 82, .move (.t 15), some (81, true)⟩,
                      ⟨some 83, .bin .eql (.t 82) (.c (.p (.int .i64 2))), some (81, true)⟩,
                      ⟨some 84, .pick (.t 81) (.t 83) (.c (.p (.bool false))), none⟩,
                      ⟨some 85, .move (.t 84), none⟩,
                      ⟨some 86, .move (.t 4), some (85, true)⟩,
                      ⟨some 87, .call (.c (.fn 15 [] [])) [(.t 86)], some (85, true)⟩,
                      ⟨some 88, .bin .eql (.t 87) (.c (.p (.str [114, 117, 110, 10, 124, 115, 111, 109, 101, 32, 102, 10, 124, 105, 110, 32, 103, 10, 115, 104, 111, 119, 10]))), some (85, true)⟩,
                      ⟨some 89, .pick (.t 85) (.t 88) (.c (.p (.bool false))), none⟩,
                      ⟨some 90, .move (.t 89), none⟩,
                      ⟨some 91, .call (.c (.fn 20 [] [])) [(.c (.p (.str [120])))], some (90, true)⟩,
                      ⟨some 92, .bin .eql (.t 91) (.c (.p (.str [101, 114, 114, 111, 114, 32, 51, 54, 48, 32, 49, 10]))), some (90, true)⟩,
                      ⟨some 93, .pick (.t 90) (.t 92) (.c (.p (.bool false))), none⟩,
                      ⟨some 94, .move (.t 93), none⟩,
                      ⟨some 95, .call (.c (.fn 20 [] [])) [(.c (.p (.str [35])))], some (94, true)⟩,
                      ⟨some 96, .bin .eql (.t 95) (.c (.p (.str []))), some (94, true)⟩,
                      ⟨some 97, .pick (.t 94) (.t 96) (.c (.p (.bool false))), none⟩,
                      ⟨some 0, .move (.t 97), none⟩])
                  .ret)))))))
theorem ok9 : FOk Tryz.prog 9 fc9 := FOk.of Tryz.func9 (by kernel_rfl)
def fc10_b0 : SC :=
    (.seq
      (.seq
        (.region [0, 3, 10] [
            ⟨some 7, .move (.t 3), none⟩,
            ⟨some 8, .move (.t 0), none⟩,
            ⟨some 9, .len 1 (.t 8), none⟩,
            ⟨some 10, .bin .lss (.t 7) (.t 9), none⟩])
        (.cond (.t 10)
          .skip
          (.exit 0)))
      (.seq
        (.block 1
          (.seq
            (.region [0, 3, 28] [
                ⟨some 13, .move (.t 0), none⟩,
                ⟨some 14, .move (.t 3), none⟩,
                ⟨some 15, .iaddr none 3 (.t 13) (.t 14), none⟩,
                ⟨some 16, .faddr (.t 15) 1, none⟩,
                ⟨some 17, .load none (.t 16), none⟩,
                ⟨some 18, .len 0 (.t 17), none⟩,
                ⟨some 19, .bin .gtr (.t 18) (.c (.p (.int .i64 300))), none⟩,
                ⟨some 20, .move (.t 19), none⟩,
                ⟨some 21, .move (.t 0), some (20, false)⟩,
                ⟨some 22, .move (.t 3), some (20, false)⟩,
                ⟨some 23, .iaddr none 3 (.t 21) (.t 22), some (20, false)⟩,
                ⟨some 24, .faddr (.t 23) 2, some (20, false)⟩,
                ⟨some 25, .load none (.t 24), some (20, false)⟩,
                ⟨some 26, .len 1 (.t 25), some (20, false)⟩,
                ⟨some 27, .bin .gtr (.t 26) (.c (.p (.int .i64 20))), some (20, false)⟩,
                ⟨some 28, .pick (.t 20) (.c (.p (.bool true))) (.t 27), none⟩])
            (.cond (.t 28)
              (.seq
                (.region [2] [
                    ⟨some 2, .move (.c (.p (.bool true))), none⟩])
                .ret)
              .skip)))
        (.region [0, 3] [
            ⟨some 11, .move (.t 3), none⟩,
            ⟨some 12, .bin .add (.t 11) (.c (.p (.int .i64 1))), none⟩,
            ⟨some 3, .move (.t 12), none⟩])))
def fc10 : FC where
  nt := 29
  np := 1
  res := [.t 2]
  body :=
    (.seq
      (.region [0] [
          ⟨some 2, .move (.c (.p (.bool false))), none⟩])
      (.seq
        (.seq
          (.region [0, 6] [
              ⟨some 4, .move (.t 0), none⟩,
              ⟨some 5, .len 1 (.t 4), none⟩,
              ⟨some 6, .bin .gtr (.t 5) (.c (.p (.int .i64 30))), none⟩])
          (.cond (.t 6)
            (.seq
              (.region [2] [
                  ⟨some 2, .move (.c (.p (.bool true))), none⟩])
              .ret)
            .skip))
        (.seq
          (.seq
            (.region [0, 3] [
                ⟨some 3, .move (.c (.p (.int .i64 0))), none⟩])
            (.block 0
              (.loop [0, 3]
                fc10_b0)))
          (.seq
            (.region [2] [
                ⟨some 2, .move (.c (.p (.bool false))), none⟩])
            .ret))))
theorem ok10 : FOk Tryz.prog 10 fc10 := FOk.of Tryz.func10 (by kernel_rfl)
def fc11_b0 : SC :=
    (.block 1
      (.seq
        (.region [2, 5, 7] [
            ⟨some 18, .move (.t 6), none⟩,
            ⟨none, .store 1 (.t 4) (.t 18), none⟩])
        (.seq
          (.seq
            (.region [2, 5, 7, 21] [
                ⟨some 19, .move (.t 7), none⟩,
                ⟨some 20, .index none (.t 19) (.c (.p (.int .i64 0))), none⟩,
                ⟨some 21, .bin .neq (.t 20) (.c (.p (.int .u8 124))), none⟩])
            (.cond (.t 21)
              (.seq
                (.region [2, 5, 8] [
                    ⟨some 22, .move (.t 7), none⟩,
                    ⟨some 23, .call (.c (.fn 23 [] [])) [(.t 22)], none⟩,
                    ⟨some 8, .alloc [.int .i64 0, .str [], .nils], none⟩,
                    ⟨none, .store 3 (.t 8) (.t 23), none⟩])
                (.seq
                  (.seq
                    (.region [2, 5, 8, 26] [
                        ⟨some 24, .load none (.t 2), none⟩,
                        ⟨some 25, .len 1 (.t 24), none⟩,
                        ⟨some 26, .bin .geq (.t 25) (.c (.p (.int .i64 200))), none⟩])
                    (.cond (.t 26)
                      (.region [2, 5, 8] [
                          ⟨some 27, .iface 25 (.c (.p (.int .i64 2))), none⟩,
                          ⟨none, .panic (.t 27), none⟩])
                      .skip))
                  (.seq
                    (.region [5] [
                        ⟨some 28, .load none (.t 2), none⟩,
                        ⟨some 29, .load (some 3) (.t 8), none⟩,
                        ⟨some 30, .bslice 35 3 1 (.agg [.int .i64 0, .str [], .nils]) [(0, (.t 29))], none⟩,
                        ⟨some 31, .appendg 35 3 48 (.t 28) (.t 30), none⟩,
                        ⟨none, .store 1 (.t 2) (.t 31), none⟩])
                    (.seq
                      (.region [] [
                          ⟨none, .store 1 (.t 5) (.c (.p (.int .i64 0))), none⟩])
                      (.exit 1)))))
              .skip))
          (.seq
            (.seq
              (.region [2, 5, 7, 47] [
                  ⟨some 32, .load none (.t 2), none⟩,
                  ⟨some 33, .len 1 (.t 32), none⟩,
                  ⟨some 34, .bin .eql (.t 33) (.c (.p (.int .i64 0))), none⟩,
                  ⟨some 35, .move (.t 34), none⟩,
                  ⟨some 36, .load none (.t 2), some (35, false)⟩,
                  ⟨some 37, .load none (.t 2), some (35, false)⟩,
                  ⟨some 38, .len 1 (.t 37), some (35, false)⟩,
                  ⟨some 39, .bin .sub (.t 38) (.c (.p (.int .i64 1))), some (35, false)⟩,
                  ⟨some 40, .iaddr none 3 (.t 36) (.t 39), some (35, false)⟩,
                  ⟨some 41, .faddr (.t 40) 0, some (35, false)⟩,
                  ⟨some 42, .load none (.t 41), some (35, false)⟩,
                  ⟨some 43, .iaddr (some 10) 4 (.c (.glob 0 0)) (.t 42), some (35, false)⟩,
                  ⟨some 44, .faddr (.t 43) 3, some (35, false)⟩,
                  ⟨some 45, .load none (.t 44), some (35, false)⟩,
                  ⟨some 46, .un .not (.t 45), some (35, false)⟩,
                  ⟨some 47, .pick (.t 35) (.c (.p (.bool true))) (.t 46), none⟩])
              (.cond (.t 47)
                (.region [2, 5, 7] [
                    ⟨some 48, .iface 25 (.c (.p (.int .i64 340))), none⟩,
                    ⟨none, .panic (.t 48), none⟩])
                .skip))
            (.seq
              (.region [5, 7, 9] [
                  ⟨some 49, .load none (.t 2), none⟩,
                  ⟨some 50, .load none (.t 2), none⟩,
                  ⟨some 51, .len 1 (.t 50), none⟩,
                  ⟨some 52, .bin .sub (.t 51) (.c (.p (.int .i64 1))), none⟩,
                  ⟨some 53, .iaddr none 3 (.t 49) (.t 52), none⟩,
                  ⟨some 9, .move (.t 53), none⟩])
              (.seq
                (.seq
                  (.region [5, 7, 9, 55] [
                      ⟨some 54, .load none (.t 5), none⟩,
                      ⟨some 55, .bin .gtr (.t 54) (.c (.p (.int .i64 0))), none⟩])
                  (.cond (.t 55)
                    (.region [5, 7, 9] [
                        ⟨some 56, .move (.t 9), none⟩,
                        ⟨some 57, .nilCheck (.t 56), none⟩,
                        ⟨some 58, .faddr (.t 57) 1, none⟩,
                        ⟨some 59, .load none (.t 58), none⟩,
                        ⟨some 60, .bin .add (.t 59) (.c (.p (.str [10]))), none⟩,
                        ⟨some 61, .nilCheck (.t 56), none⟩,
                        ⟨some 62, .faddr (.t 61) 1, none⟩,
                        ⟨none, .store 1 (.t 62) (.t 60), none⟩])
                    .skip))
                (.seq
                  (.draw [5] [] [
                      ⟨some 63, .move (.t 9), none⟩,
                      ⟨some 64, .nilCheck (.t 63), none⟩,
                      ⟨some 65, .faddr (.t 64) 1, none⟩,
                      ⟨some 66, .load none (.t 65), none⟩,
                      ⟨some 67, .move (.t 7), none⟩,
                      ⟨some 68, .slice 0 (.t 67) (some (.c (.p (.int .i64 1)))) none, none⟩,
                      ⟨some 69, .bin .add (.t 66) (.t 68), none⟩,
                      ⟨some 70, .nilCheck (.t 63), none⟩,
                      ⟨some 71, .faddr (.t 70) 1, none⟩,
                      ⟨none, .store 1 (.t 71) (.t 69), none⟩])
                  (.region [] [
                      ⟨some 72, .load none (.t 5), none⟩,
                      ⟨some 73, .bin .add (.t 72) (.c (.p (.int .i64 1))), none⟩,
                      ⟨none, .store 1 (.t 5) (.t 73), none⟩]))))))))
def fc11 : FC where
  nt := 75
  np := 1
  res := [.cell 2 none, .cell 3 none, .cell 4 none]
  body :=
    (.seq
      (.region [0, 2, 3, 4, 5] [
          ⟨some 5, .alloc [.int .i64 0], none⟩,
          ⟨none, .store 1 (.t 5) (.c (.p (.int .i64 0))), none⟩])
      (.seq
        (.region [2, 3, 4, 5, 15] [
            ⟨some 14, .move (.t 0), none⟩,
            ⟨some 15, .call (.c (.fn 22 [] [])) [(.t 14)], none⟩])
        (.seq
          (.block 0
            (.rangef 33 gen33 (.t 15) [16, 17]
              (.seq
                (.region [2, 4, 5, 6, 17] [
                    ⟨some 6, .move (.t 16), none⟩])
                (.region [2, 4, 5, 6, 7] [
                    ⟨some 7, .move (.t 17), none⟩]))
              fc11_b0))
          (.seq
            (.region [2, 3, 4] [
                ⟨some 74, .load none (.t 2), none⟩,
                ⟨none, .store 1 (.t 2) (.t 74), none⟩,
                ⟨none, .store 1 (.t 3) (.c (.p (.int .i64 0))), none⟩,
                ⟨none, .store 1 (.t 4) (.c (.p (.int .i64 0))), none⟩])
            .ret))))
  frz := true
  dfr := some ⟨[
      (.region [0, 2, 3, 4] [
          ⟨some 2, .alloc [.nils], none⟩,
          ⟨some 3, .alloc [.int .i64 0], none⟩,
          ⟨some 4, .alloc [.int .i64 0], none⟩]),
      (.region [0, 2, 3, 4, 12] [
          ⟨some 10, .move (.t 0), none⟩,
          ⟨some 11, .len 0 (.t 10), none⟩,
          ⟨some 12, .bin .gtr (.t 11) (.c (.p (.int .i64 65536))), none⟩]),
      (.cond (.t 12)
        (.seq
          (.region [2, 3, 4] [
              ⟨none, .store 1 (.t 2) (.c (.p (.nils))), none⟩,
              ⟨none, .store 1 (.t 3) (.c (.p (.int .i64 2))), none⟩,
              ⟨none, .store 1 (.t 4) (.c (.p (.int .i64 0))), none⟩])
          .ret)
        .skip)],
    [0, 2, 3, 4], [
      ⟨some 13, .mkfn 21 [] [(.t 2), (.t 3)], none⟩],
    (.t 13), []⟩
theorem ok11 : FOk0 Tryz.prog 11 fc11 := FOk0.of Tryz.func11 (by kernel_rfl)
def fc12_b0 : SC :=
    (.seq
      (.seq
        (.region [5, 6, 7, 8, 22] [
            ⟨some 19, .move (.t 8), none⟩,
            ⟨some 20, .move (.t 5), none⟩,
            ⟨some 21, .len 1 (.t 20), none⟩,
            ⟨some 22, .bin .lss (.t 19) (.t 21), none⟩])
        (.cond (.t 22)
          .skip
          (.exit 0)))
      (.seq
        (.block 1
          (.seq
            (.region [5, 6, 7, 8, 9] [
                ⟨some 25, .move (.t 5), none⟩,
                ⟨some 26, .move (.t 8), none⟩,
                ⟨some 27, .iaddr none 1 (.t 25) (.t 26), none⟩,
                ⟨some 28, .load none (.t 27), none⟩,
                ⟨some 9, .move (.t 28), none⟩])
            (.seq
              (.seq
                (.region [5, 6, 7, 8, 9, 35] [
                    ⟨some 29, .move (.t 9), none⟩,
                    ⟨some 30, .bin .eql (.t 29) (.c (.p (.str []))), none⟩,
                    ⟨some 31, .move (.t 30), none⟩,
                    ⟨some 32, .move (.t 9), some (31, false)⟩,
                    ⟨some 33, .index none (.t 32) (.c (.p (.int .i64 0))), some (31, false)⟩,
                    ⟨some 34, .bin .eql (.t 33) (.c (.p (.int .u8 35))), some (31, false)⟩,
                    ⟨some 35, .pick (.t 31) (.c (.p (.bool true))) (.t 34), none⟩])
                (.cond (.t 35)
                  (.exit 1)
                  .skip))
              (.seq
                (.seq
                  (.region [5, 6, 7, 8, 9, 38] [
                      ⟨some 36, .move (.t 9), none⟩,
                      ⟨some 37, .index none (.t 36) (.c (.p (.int .i64 0))), none⟩,
                      ⟨some 38, .bin .eql (.t 37) (.c (.p (.int .u8 124))), none⟩])
                  (.cond (.t 38)
                    (.seq
                      (.seq
                        (.draw [5, 6, 7, 8, 9, 56] [(4, 11)] [
                            ⟨some 39, .move (.t 6), none⟩,
                            ⟨some 40, .len 1 (.t 39), none⟩,
                            ⟨some 41, .bin .eql (.t 40) (.c (.p (.int .i64 0))), none⟩,
                            ⟨some 42, .move (.t 41), none⟩,
                            ⟨some 43, .call (.c (.fn 24 [] [])) [], some (42, false)⟩,
                            ⟨some 44, .move (.t 6), some (42, false)⟩,
                            ⟨some 45, .move (.t 6), some (42, false)⟩,
                            ⟨some 46, .len 1 (.t 45), some (42, false)⟩,
                            ⟨some 47, .bin .sub (.t 46) (.c (.p (.int .i64 1))), some (42, false)⟩,
                            ⟨some 48, .iaddr none 3 (.t 44) (.t 47), some (42, false)⟩,
                            ⟨some 49, .faddr (.t 48) 0, some (42, false)⟩,
                            ⟨some 50, .load none (.t 49), some (42, false)⟩,
                            ⟨some 51, .bin .sub (.t 50) (.c (.p (.int .i64 1))), some (42, false)⟩,
                            ⟨some 52, .iaddr none 4 (.t 43) (.t 51), some (42, false)⟩,
                            ⟨some 53, .faddr (.t 52) 3, some (42, false)⟩,
                            ⟨some 54, .load none (.t 53), some (42, false)⟩,
                            ⟨some 55, .un .not (.t 54), some (42, false)⟩,
                            ⟨some 56, .pick (.t 42) (.c (.p (.bool true))) (.t 55), none⟩])
                        (.cond (.t 56)
                          (.seq
                            (.region [2, 3, 4] [
                                ⟨some 57, .move (.t 8), none⟩,
                                ⟨some 58, .bin .add (.t 57) (.c (.p (.int .i64 1))), none⟩,
                                ⟨some 2, .move (.c (.p (.nils))), none⟩,
                                ⟨some 3, .move (.c (.p (.int .i64 340))), none⟩,
                                ⟨some 4, .move (.t 58), none⟩])
                            .ret)
                          .skip))
                      (.seq
                        (.region [5, 6, 7, 8, 9, 10] [
                            ⟨some 59, .move (.t 6), none⟩,
                            ⟨some 60, .move (.t 6), none⟩,
                            ⟨some 61, .len 1 (.t 60), none⟩,
                            ⟨some 62, .bin .sub (.t 61) (.c (.p (.int .i64 1))), none⟩,
                            ⟨some 63, .iaddr none 3 (.t 59) (.t 62), none⟩,
                            ⟨some 64, .load (some 3) (.t 63), none⟩,
                            ⟨some 10, .alloc [.int .i64 0, .str [], .nils], none⟩,
                            ⟨none, .store 3 (.t 10) (.t 64), none⟩])
                        (.seq
                          (.seq
                            (.region [5, 6, 7, 8, 9, 10, 66] [
                                ⟨some 65, .move (.t 7), none⟩,
                                ⟨some 66, .bin .gtr (.t 65) (.c (.p (.int .i64 0))), none⟩])
                            (.cond (.t 66)
                              (.region [5, 6, 7, 8, 9, 10] [
                                  ⟨some 67, .faddr (.t 10) 1, none⟩,
                                  ⟨some 68, .load none (.t 67), none⟩,
                                  ⟨some 69, .bin .add (.t 68) (.c (.p (.str [10]))), none⟩,
                                  ⟨some 70, .faddr (.t 10) 1, none⟩,
                                  ⟨none, .store 1 (.t 70) (.t 69), none⟩])
                              .skip))
                          (.seq
                            (.draw [5, 6, 7, 8, 10] [] [
                                ⟨some 71, .faddr (.t 10) 1, none⟩,
                                ⟨some 72, .load none (.t 71), none⟩,
                                ⟨some 73, .move (.t 9), none⟩,
                                ⟨some 74, .slice 0 (.t 73) (some (.c (.p (.int .i64 1)))) none, none⟩,
                                ⟨some 75, .bin .add (.t 72) (.t 74), none⟩,
                                ⟨some 76, .faddr (.t 10) 1, none⟩,
                                ⟨none, .store 1 (.t 76) (.t 75), none⟩])
                            (.seq
                              (.region [5, 6, 7, 8, 10] [
                                  ⟨some 77, .move (.t 7), none⟩,
                                  ⟨some 78, .bin .add (.t 77) (.c (.p (.int .i64 1))), none⟩,
                                  ⟨some 7, .move (.t 78), none⟩])
                              (.seq
                                (.region [5, 6, 7, 8] [
                                    ⟨some 79, .move (.t 6), none⟩,
                                    ⟨some 80, .move (.t 6), none⟩,
                                    ⟨some 81, .len 1 (.t 80), none⟩,
                                    ⟨some 82, .bin .sub (.t 81) (.c (.p (.int .i64 1))), none⟩,
                                    ⟨some 83, .load (some 3) (.t 10), none⟩,
                                    ⟨some 84, .iaddr none 3 (.t 79) (.t 82), none⟩,
                                    ⟨none, .store 3 (.t 84) (.t 83), none⟩])
                                (.exit 1)))))))
                    .skip))
                (.seq
                  (.region [5, 6, 8, 11, 12] [
                      ⟨some 86, .move (.t 9), none⟩,
                      ⟨some 87, .call (.c (.fn 25 [] [])) [(.t 86)], none⟩,
                      ⟨some 85, .move (.t 87), none⟩,
                      ⟨some 88, .extract (.t 85) 0, none⟩,
                      ⟨some 89, .extract (.t 85) 1, none⟩,
                      ⟨some 11, .alloc [.int .i64 0, .str [], .nils], none⟩,
                      ⟨none, .store 3 (.t 11) (.t 88), none⟩,
                      ⟨some 12, .move (.t 89), none⟩])
                  (.seq
                    (.seq
                      (.region [5, 6, 8, 11, 12, 96] [
                          ⟨some 90, .move (.t 12), none⟩,
                          ⟨some 91, .bin .eql (.t 90) (.c (.p (.int .i64 0))), none⟩,
                          ⟨some 92, .move (.t 91), none⟩,
                          ⟨some 93, .move (.t 6), some (92, true)⟩,
                          ⟨some 94, .len 1 (.t 93), some (92, true)⟩,
                          ⟨some 95, .bin .geq (.t 94) (.c (.p (.int .i64 200))), some (92, true)⟩,
                          ⟨some 96, .pick (.t 92) (.t 95) (.c (.p (.bool false))), none⟩])
                      (.cond (.t 96)
                        (.region [5, 6, 8, 11, 12] [
                            ⟨some 12, .move (.c (.p (.int .i64 2))), none⟩])
                        .skip))
                    (.seq
                      (.seq
                        (.region [5, 6, 8, 11, 12, 98] [
                            ⟨some 97, .move (.t 12), none⟩,
                            ⟨some 98, .bin .neq (.t 97) (.c (.p (.int .i64 0))), none⟩])
                        (.cond (.t 98)
                          (.seq
                            (.region [2, 3, 4] [
                                ⟨some 99, .move (.t 12), none⟩,
                                ⟨some 100, .move (.t 8), none⟩,
                                ⟨some 101, .bin .add (.t 100) (.c (.p (.int .i64 1))), none⟩,
                                ⟨some 2, .move (.c (.p (.nils))), none⟩,
                                ⟨some 3, .move (.t 99), none⟩,
                                ⟨some 4, .move (.t 101), none⟩])
                            .ret)
                          .skip))
                      (.seq
                        (.region [5, 6, 8] [
                            ⟨some 102, .move (.t 6), none⟩,
                            ⟨some 103, .load (some 3) (.t 11), none⟩,
                            ⟨some 104, .bslice 35 3 1 (.agg [.int .i64 0, .str [], .nils]) [(0, (.t 103))], none⟩,
                            ⟨some 105, .appendg 35 3 48 (.t 102) (.t 104), none⟩,
                            ⟨some 6, .move (.t 105), none⟩])
                        (.region [5, 6, 7, 8] [
                            ⟨some 7, .move (.c (.p (.int .i64 0))), none⟩])))))))))
        (.region [5, 6, 7, 8] [
            ⟨some 23, .move (.t 8), none⟩,
            ⟨some 24, .bin .add (.t 23) (.c (.p (.int .i64 1))), none⟩,
            ⟨some 8, .move (.t 24), none⟩])))
def fc12 : FC where
  nt := 107
  np := 1
  res := [.t 2, .t 3, .t 4]
  body :=
    (.seq
      (.region [0] [
          ⟨some 2, .move (.c (.p (.nils))), none⟩,
          ⟨some 3, .move (.c (.p (.int .i64 0))), none⟩,
          ⟨some 4, .move (.c (.p (.int .i64 0))), none⟩])
      (.seq
        (.seq
          (.region [0, 15] [
              ⟨some 13, .move (.t 0), none⟩,
              ⟨some 14, .len 0 (.t 13), none⟩,
              ⟨some 15, .bin .gtr (.t 14) (.c (.p (.int .i64 65536))), none⟩])
          (.cond (.t 15)
            (.seq
              (.region [2, 3, 4] [
                  ⟨some 2, .move (.c (.p (.nils))), none⟩,
                  ⟨some 3, .move (.c (.p (.int .i64 2))), none⟩,
                  ⟨some 4, .move (.c (.p (.int .i64 0))), none⟩])
              .ret)
            .skip))
        (.seq
          (.region [5] [
              ⟨some 16, .move (.t 0), none⟩,
              ⟨some 17, .call (.c (.fn 19 [] [])) [(.t 16), (.c (.p (.int .u8 10)))], none⟩,
              ⟨some 5, .move (.t 17), none⟩])
          (.seq
            (.region [5, 6] [
                ⟨some 18, .bslice 35 3 0 (.agg [.int .i64 0, .str [], .nils]) [], none⟩,
                ⟨some 6, .move (.t 18), none⟩])
            (.seq
              (.region [5, 6, 7] [
                  ⟨some 7, .move (.c (.p (.int .i64 0))), none⟩])
              (.seq
                (.seq
                  (.region [5, 6, 7, 8] [
                      ⟨some 8, .move (.c (.p (.int .i64 0))), none⟩])
                  (.block 0
                    (.loop [5, 6, 7, 8]
                      fc12_b0)))
                (.seq
                  (.region [2, 3, 4] [
                      ⟨some 106, .move (.t 6), none⟩,
                      ⟨some 2, .move (.t 106), none⟩,
                      ⟨some 3, .move (.c (.p (.int .i64 0))), none⟩,
                      ⟨some 4, .move (.c (.p (.int .i64 0))), none⟩])
                  .ret)))))))
  frz := true
theorem ok12 : FOk Tryz.prog 12 fc12 := FOk.of Tryz.func12 (by kernel_rfl)
def fc13_b0 : SC :=
    (.loc
      (.seq
        (.seq
          (.region [0, 3, 4, 9] [
              ⟨some 6, .move (.t 4), none⟩,
              ⟨some 7, .move (.t 0), none⟩,
              ⟨some 8, .len 1 (.t 7), none⟩,
              ⟨some 9, .bin .lss (.t 6) (.t 8), none⟩])
          (.cond (.t 9)
            .skip
            (.exit 0)))
        (.seq
          (.block 1
            (.seq
              (.region [0, 3, 4, 16] [
                  ⟨some 12, .move (.t 0), none⟩,
                  ⟨some 13, .move (.t 4), none⟩,
                  ⟨some 14, .iaddr none 3 (.t 12) (.t 13), none⟩,
                  ⟨some 15, .load (some 3) (.t 14), none⟩,
                  ⟨some 16, .call (.c (.fn 17 [] [])) [(.t 15)], none⟩])
              (.cond (.t 16)
                (.region [0, 3, 4] [
                    ⟨some 17, .move (.t 3), none⟩,
                    ⟨some 18, .move (.t 0), none⟩,
                    ⟨some 19, .move (.t 4), none⟩,
                    ⟨some 20, .iaddr none 3 (.t 18) (.t 19), none⟩,
                    ⟨some 21, .load (some 3) (.t 20), none⟩,
                    ⟨some 22, .bslice 35 3 1 (.agg [.int .i64 0, .str [], .nils]) [(0, (.t 21))], none⟩,
                    ⟨some 23, .append 35 3 48 (.t 17) (.t 22), none⟩,
                    ⟨some 3, .move (.t 23), none⟩])
                .skip)))
          (.region [0, 3, 4] [
              ⟨some 10, .move (.t 4), none⟩,
              ⟨some 11, .bin .add (.t 10) (.c (.p (.int .i64 1))), none⟩,
              ⟨some 4, .move (.t 11), none⟩]))))
def fc13 : FC where
  nt := 25
  np := 1
  res := [.t 2]
  body :=
    (.seq
      (.region [0] [
          ⟨some 2, .move (.c (.p (.nils))), none⟩])
      (.seq
        (.region [0, 3] [
            ⟨some 5, .bslice 35 3 0 (.agg [.int .i64 0, .str [], .nils]) [], none⟩,
            ⟨some 3, .move (.t 5), none⟩])
        (.seq
          (.seq
            (.region [0, 3, 4] [
                ⟨some 4, .move (.c (.p (.int .i64 0))), none⟩])
            (.block 0
              (.seq
                (.tok 3 35 3)
                (.loop [0, 3, 4]
                  fc13_b0))))
          (.seq
            (.region [2] [
                ⟨some 24, .move (.t 3), none⟩,
                ⟨some 2, .move (.t 24), none⟩])
            .ret))))
theorem ok13 : FOk Tryz.prog 13 fc13 := FOk.of Tryz.func13 (by kernel_rfl)
def fc14_b0 : SC :=
    (.loc
      (.seq
        (.seq
          (.region [0, 1, 5, 14] [
              ⟨some 11, .move (.t 5), none⟩,
              ⟨some 12, .move (.t 0), none⟩,
              ⟨some 13, .len 1 (.t 12), none⟩,
              ⟨some 14, .bin .lss (.t 11) (.t 13), none⟩])
          (.cond (.t 14)
            .skip
            (.exit 0)))
        (.seq
          (.block 1
            (.seq
              (.draw [0, 1, 5, 55] [(4, 9), (16, 21), (29, 35), (30, 35)] [
                  ⟨some 17, .move (.t 0), none⟩,
                  ⟨some 18, .move (.t 5), none⟩,
                  ⟨some 19, .iaddr none 3 (.t 17) (.t 18), none⟩,
                  ⟨some 20, .faddr (.t 19) 0, none⟩,
                  ⟨some 21, .load none (.t 20), none⟩,
                  ⟨some 22, .move (.t 1), none⟩,
                  ⟨some 23, .move (.t 5), none⟩,
                  ⟨some 24, .iaddr none 3 (.t 22) (.t 23), none⟩,
                  ⟨some 25, .faddr (.t 24) 0, none⟩,
                  ⟨some 26, .load none (.t 25), none⟩,
                  ⟨some 27, .bin .neq (.t 21) (.t 26), none⟩,
                  ⟨some 28, .move (.t 27), none⟩,
                  ⟨some 29, .move (.t 0), some (28, false)⟩,
                  ⟨some 30, .move (.t 5), some (28, false)⟩,
                  ⟨some 31, .iaddr none 3 (.t 29) (.t 30), some (28, false)⟩,
                  ⟨some 32, .faddr (.t 31) 1, some (28, false)⟩,
                  ⟨some 33, .load none (.t 32), some (28, false)⟩,
                  ⟨some 34, .move (.t 1), some (28, false)⟩,
                  ⟨some 35, .move (.t 5), some (28, false)⟩,
                  ⟨some 36, .iaddr none 3 (.t 34) (.t 35), some (28, false)⟩,
                  ⟨some 37, .faddr (.t 36) 1, some (28, false)⟩,
                  ⟨some 38, .load none (.t 37), some (28, false)⟩,
                  ⟨some 39, .bin .neq (.t 33) (.t 38), some (28, false)⟩,
                  ⟨some 40, .pick (.t 28) (.c (.p (.bool true))) (.t 39), none⟩,
                  ⟨some 41, .move (.t 40), none⟩,
                  ⟨some 42, .move (.t 0), some (41, false)⟩,
                  ⟨some 43, .move (.t 5), some (41, false)⟩,
                  ⟨some 44, .iaddr none 3 (.t 42) (.t 43), some (41, false)⟩,
                  ⟨some 45, .faddr (.t 44) 2, some (41, false)⟩,
                  ⟨some 46, .load none (.t 45), some (41, false)⟩,
                  ⟨some 47, .call (.c (.fn 26 [] [])) [(.t 46)], some (41, false)⟩,
                  ⟨some 48, .move (.t 1), some (41, false)⟩,
                  ⟨some 49, .move (.t 5), some (41, false)⟩,
                  ⟨some 50, .iaddr none 3 (.t 48) (.t 49), some (41, false)⟩,
                  ⟨some 51, .faddr (.t 50) 2, some (41, false)⟩,
                  ⟨some 52, .load none (.t 51), some (41, false)⟩,
                  ⟨some 53, .call (.c (.fn 26 [] [])) [(.t 52)], some (41, false)⟩,
                  ⟨some 54, .bin .neq (.t 47) (.t 53), some (41, false)⟩,
                  ⟨some 55, .pick (.t 41) (.c (.p (.bool true))) (.t 54), none⟩])
              (.cond (.t 55)
                (.seq
                  (.region [4] [
                      ⟨some 4, .move (.c (.p (.bool false))), none⟩])
                  .ret)
                .skip)))
          (.region [0, 1, 5] [
              ⟨some 15, .move (.t 5), none⟩,
              ⟨some 16, .bin .add (.t 15) (.c (.p (.int .i64 1))), none⟩,
              ⟨some 5, .move (.t 16), none⟩]))))
def fc14 : FC where
  nt := 56
  np := 2
  res := [.t 4]
  body :=
    (.seq
      (.region [0, 1] [
          ⟨some 4, .move (.c (.p (.bool false))), none⟩])
      (.seq
        (.seq
          (.region [0, 1, 10] [
              ⟨some 6, .move (.t 0), none⟩,
              ⟨some 7, .len 1 (.t 6), none⟩,
              ⟨some 8, .move (.t 1), none⟩,
              ⟨some 9, .len 1 (.t 8), none⟩,
              ⟨some 10, .bin .neq (.t 7) (.t 9), none⟩])
          (.cond (.t 10)
            (.seq
              (.region [4] [
                  ⟨some 4, .move (.c (.p (.bool false))), none⟩])
              .ret)
            .skip))
        (.seq
          (.seq
            (.region [0, 1, 5] [
                ⟨some 5, .move (.c (.p (.int .i64 0))), none⟩])
            (.block 0
              (.loop [0, 1, 5]
                fc14_b0)))
          (.seq
            (.region [4] [
                ⟨some 4, .move (.c (.p (.bool true))), none⟩])
            .ret))))
theorem ok14 : FOk Tryz.prog 14 fc14 := FOk.of Tryz.func14 (by kernel_rfl)
def fc15_b0 : SC :=
    (.loc
      (.seq
        (.region [3, 6, 7, 8, 9] [
            ⟨some 9, .bin .lss (.t 8) (.t 7), none⟩])
        (.seq
          (.cond (.t 9)
            .skip
            (.exit 0))
          (.seq
            (.block 1
              (.seq
                (.region [3, 5, 6, 7, 8] [
                    ⟨some 10, .iaddr none 3 (.t 6) (.t 8), none⟩,
                    ⟨some 11, .load (some 3) (.t 10), none⟩,
                    ⟨some 5, .alloc [.int .i64 0, .str [], .nils], none⟩,
                    ⟨none, .store 3 (.t 5) (.t 11), none⟩])
                (.draw [3, 6, 7, 8] [(1, 6), (4, 6), (1, 8), (4, 8), (6, 8)] [
                    ⟨some 12, .faddr (.t 5) 0, none⟩,
                    ⟨some 13, .load none (.t 12), none⟩,
                    ⟨some 14, .iaddr (some 10) 4 (.c (.glob 0 0)) (.t 13), none⟩,
                    ⟨some 15, .faddr (.t 14) 0, none⟩,
                    ⟨some 16, .load none (.t 15), none⟩,
                    ⟨some 17, .faddr (.t 5) 2, none⟩,
                    ⟨some 18, .load none (.t 17), none⟩,
                    ⟨some 19, .faddr (.t 5) 1, none⟩,
                    ⟨some 20, .load none (.t 19), none⟩,
                    ⟨some 21, .call (.c (.fn 27 [] [])) [(.t 3), (.t 16), (.t 18), (.t 20)], none⟩])))
            (.region [3, 6, 7, 8] [
                ⟨some 22, .bin .add (.t 8) (.c (.p (.int .i64 1))), none⟩,
                ⟨some 8, .move (.t 22), none⟩])))))
def fc15 : FC where
  nt := 24
  np := 1
  res := [.t 2]
  body :=
    (.seq
      (.region [0] [
          ⟨some 2, .move (.c (.p (.str []))), none⟩])
      (.seq
        (.region [0, 3] [
            ⟨some 3, .allocB 62 [.nilp, .nils], none⟩])
        (.seq
          (.tokb 3 1 5 1)
          (.seq
            (.seq
              (.region [3, 6, 7, 8] [
                  ⟨some 6, .move (.t 0), none⟩,
                  ⟨some 7, .len 1 (.t 6), none⟩,
                  ⟨some 8, .move (.c (.p (.int .i64 0))), none⟩])
              (.block 0
                (.loop [3, 6, 7, 8]
                  fc15_b0)))
            (.seq
              (.region [2] [
                  ⟨some 23, .call (.c (.fn 28 [] [])) [(.t 3)], none⟩,
                  ⟨some 2, .move (.t 23), none⟩])
              .ret)))))
theorem ok15 : FOk Tryz.prog 15 fc15 := FOk.of Tryz.func15 (by kernel_rfl)
def fc16_b0 : SC :=
    (.loc
      (.seq
        (.seq
          (.region [0, 3, 4, 8] [
              ⟨some 5, .move (.t 4), none⟩,
              ⟨some 6, .move (.t 0), none⟩,
              ⟨some 7, .len 1 (.t 6), none⟩,
              ⟨some 8, .bin .lss (.t 5) (.t 7), none⟩])
          (.cond (.t 8)
            .skip
            (.exit 0)))
        (.seq
          (.block 1
            (.draw [0, 3, 4] [(1, 6), (1, 16), (6, 16), (10, 16), (6, 17), (10, 17), (1, 24), (6, 24), (10, 24), (16, 24), (17, 24), (6, 25), (10, 25)] [
                ⟨some 11, .move (.t 3), none⟩,
                ⟨some 12, .call (.c (.fn 24 [] [])) [], none⟩,
                ⟨some 13, .move (.t 0), none⟩,
                ⟨some 14, .move (.t 4), none⟩,
                ⟨some 15, .iaddr none 3 (.t 13) (.t 14), none⟩,
                ⟨some 16, .faddr (.t 15) 0, none⟩,
                ⟨some 17, .load none (.t 16), none⟩,
                ⟨some 18, .bin .sub (.t 17) (.c (.p (.int .i64 1))), none⟩,
                ⟨some 19, .iaddr none 4 (.t 12) (.t 18), none⟩,
                ⟨some 20, .faddr (.t 19) 0, none⟩,
                ⟨some 21, .load none (.t 20), none⟩,
                ⟨some 22, .bin .add (.t 11) (.t 21), none⟩,
                ⟨some 23, .move (.t 0), none⟩,
                ⟨some 24, .move (.t 4), none⟩,
                ⟨some 25, .iaddr none 3 (.t 23) (.t 24), none⟩,
                ⟨some 26, .faddr (.t 25) 2, none⟩,
                ⟨some 27, .load none (.t 26), none⟩,
                ⟨some 28, .call (.c (.fn 26 [] [])) [(.t 27)], none⟩,
                ⟨some 29, .bin .add (.t 22) (.t 28), none⟩,
                ⟨some 30, .bin .add (.t 29) (.c (.p (.str [10]))), none⟩,
                ⟨some 31, .move (.t 0), none⟩,
                ⟨some 32, .move (.t 4), none⟩,
                ⟨some 33, .iaddr none 3 (.t 31) (.t 32), none⟩,
                ⟨some 34, .faddr (.t 33) 1, none⟩,
                ⟨some 35, .load none (.t 34), none⟩,
                ⟨some 36, .call (.c (.fn 29 [] [])) [(.t 35)], none⟩,
                ⟨some 37, .bin .add (.t 30) (.t 36), none⟩,
                ⟨some 3, .move (.t 37), none⟩]))
          (.region [0, 3, 4] [
              ⟨some 9, .move (.t 4), none⟩,
              ⟨some 10, .bin .add (.t 9) (.c (.p (.int .i64 1))), none⟩,
              ⟨some 4, .move (.t 10), none⟩]))))
def fc16 : FC where
  nt := 39
  np := 1
  res := [.t 2]
  body :=
    (.seq
      (.region [0] [
          ⟨some 2, .move (.c (.p (.str []))), none⟩])
      (.seq
        (.region [0, 3] [
            ⟨some 3, .move (.c (.p (.str []))), none⟩])
        (.seq
          (.seq
            (.region [0, 3, 4] [
                ⟨some 4, .move (.c (.p (.int .i64 0))), none⟩])
            (.block 0
              (.loop [0, 3, 4]
                fc16_b0)))
          (.seq
            (.region [2] [
                ⟨some 38, .move (.t 3), none⟩,
                ⟨some 2, .move (.t 38), none⟩])
            .ret))))
theorem ok16 : FOk Tryz.prog 16 fc16 := FOk.of Tryz.func16 (by kernel_rfl)
def fc17_b0 : SC :=
    (.seq
      (.seq
        (.region [1, 4, 47] [
            ⟨some 43, .move (.t 4), none⟩,
            ⟨some 44, .faddr (.t 1) 2, none⟩,
            ⟨some 45, .load none (.t 44), none⟩,
            ⟨some 46, .len 1 (.t 45), none⟩,
            ⟨some 47, .bin .lss (.t 43) (.t 46), none⟩])
        (.cond (.t 47)
          .skip
          (.exit 0)))
      (.seq
        (.block 1
          (.seq
            (.region [1, 4, 63] [
                ⟨some 50, .faddr (.t 1) 2, none⟩,
                ⟨some 51, .load none (.t 50), none⟩,
                ⟨some 52, .move (.t 4), none⟩,
                ⟨some 53, .iaddr none 1 (.t 51) (.t 52), none⟩,
                ⟨some 54, .load none (.t 53), none⟩,
                ⟨some 55, .bin .lss (.t 54) (.c (.p (.int .i64 (-999999999)))), none⟩,
                ⟨some 56, .move (.t 55), none⟩,
                ⟨some 57, .faddr (.t 1) 2, some (56, false)⟩,
                ⟨some 58, .load none (.t 57), some (56, false)⟩,
                ⟨some 59, .move (.t 4), some (56, false)⟩,
                ⟨some 60, .iaddr none 1 (.t 58) (.t 59), some (56, false)⟩,
                ⟨some 61, .load none (.t 60), some (56, false)⟩,
                ⟨some 62, .bin .gtr (.t 61) (.c (.p (.int .i64 999999999))), some (56, false)⟩,
                ⟨some 63, .pick (.t 56) (.c (.p (.bool true))) (.t 62), none⟩])
            (.cond (.t 63)
              (.seq
                (.region [2] [
                    ⟨some 2, .move (.c (.p (.bool false))), none⟩])
                .ret)
              .skip)))
        (.region [1, 4] [
            ⟨some 48, .move (.t 4), none⟩,
            ⟨some 49, .bin .add (.t 48) (.c (.p (.int .i64 1))), none⟩,
            ⟨some 4, .move (.t 49), none⟩])))
def fc17 : FC where
  nt := 64
  np := 1
  res := [.t 2]
  body :=
    (.seq
      (.region [1] [
          ⟨some 1, .box (.t 0), none⟩,
          ⟨some 2, .move (.c (.p (.bool false))), none⟩])
      (.seq
        (.seq
          (.region [1, 12] [
              ⟨some 5, .faddr (.t 1) 0, none⟩,
              ⟨some 6, .load none (.t 5), none⟩,
              ⟨some 7, .bin .lss (.t 6) (.c (.p (.int .i64 1))), none⟩,
              ⟨some 8, .move (.t 7), none⟩,
              ⟨some 9, .faddr (.t 1) 0, some (8, false)⟩,
              ⟨some 10, .load none (.t 9), some (8, false)⟩,
              ⟨some 11, .bin .gtr (.t 10) (.c (.p (.int .i64 9))), some (8, false)⟩,
              ⟨some 12, .pick (.t 8) (.c (.p (.bool true))) (.t 11), none⟩])
          (.cond (.t 12)
            (.seq
              (.region [2] [
                  ⟨some 2, .move (.c (.p (.bool false))), none⟩])
              .ret)
            .skip))
        (.seq
          (.draw [1, 3] [(0, 2), (0, 6), (2, 6), (5, 6)] [
              ⟨some 13, .call (.c (.fn 24 [] [])) [], none⟩,
              ⟨some 14, .faddr (.t 1) 0, none⟩,
              ⟨some 15, .load none (.t 14), none⟩,
              ⟨some 16, .bin .sub (.t 15) (.c (.p (.int .i64 1))), none⟩,
              ⟨some 17, .iaddr none 4 (.t 13) (.t 16), none⟩,
              ⟨some 18, .load (some 4) (.t 17), none⟩,
              ⟨some 3, .alloc [.str [], .int .i64 0, .int .i64 0, .bool false], none⟩,
              ⟨none, .store 4 (.t 3) (.t 18), none⟩])
          (.seq
            (.seq
              (.region [1, 42] [
                  ⟨some 19, .faddr (.t 1) 2, none⟩,
                  ⟨some 20, .load none (.t 19), none⟩,
                  ⟨some 21, .len 1 (.t 20), none⟩,
                  ⟨some 22, .faddr (.t 3) 1, none⟩,
                  ⟨some 23, .load none (.t 22), none⟩,
                  ⟨some 24, .bin .lss (.t 21) (.t 23), none⟩,
                  ⟨some 25, .move (.t 24), none⟩,
                  ⟨some 26, .faddr (.t 1) 2, some (25, false)⟩,
                  ⟨some 27, .load none (.t 26), some (25, false)⟩,
                  ⟨some 28, .len 1 (.t 27), some (25, false)⟩,
                  ⟨some 29, .faddr (.t 3) 2, some (25, false)⟩,
                  ⟨some 30, .load none (.t 29), some (25, false)⟩,
                  ⟨some 31, .bin .gtr (.t 28) (.t 30), some (25, false)⟩,
                  ⟨some 32, .pick (.t 25) (.c (.p (.bool true))) (.t 31), none⟩,
                  ⟨some 33, .move (.t 32), none⟩,
                  ⟨some 34, .faddr (.t 1) 1, some (33, false)⟩,
                  ⟨some 35, .load none (.t 34), some (33, false)⟩,
                  ⟨some 36, .bin .neq (.t 35) (.c (.p (.str []))), some (33, false)⟩,
                  ⟨some 37, .move (.t 36), some (33, false)⟩,
                  ⟨some 38, .faddr (.t 3) 3, some (37, true)⟩,
                  ⟨some 39, .load none (.t 38), some (37, true)⟩,
                  ⟨some 40, .un .not (.t 39), some (37, true)⟩,
                  ⟨some 41, .pick (.t 37) (.t 40) (.c (.p (.bool false))), some (33, false)⟩,
                  ⟨some 42, .pick (.t 33) (.c (.p (.bool true))) (.t 41), none⟩])
              (.cond (.t 42)
                (.seq
                  (.region [2] [
                      ⟨some 2, .move (.c (.p (.bool false))), none⟩])
                  .ret)
                .skip))
            (.seq
              (.seq
                (.region [1, 4] [
                    ⟨some 4, .move (.c (.p (.int .i64 0))), none⟩])
                (.block 0
                  (.loop [1, 4]
                    fc17_b0)))
              (.seq
                (.region [2] [
                    ⟨some 2, .move (.c (.p (.bool true))), none⟩])
                .ret))))))
theorem ok17 : FOk Tryz.prog 17 fc17 := FOk.of Tryz.func17 (by kernel_rfl)
def fc18_b0 : SC :=
    (.seq
      (.seq
        (.region [0, 3, 4, 8] [
            ⟨some 5, .move (.t 4), none⟩,
            ⟨some 6, .move (.t 0), none⟩,
            ⟨some 7, .len 0 (.t 6), none⟩,
            ⟨some 8, .bin .lss (.t 5) (.t 7), none⟩])
        (.cond (.t 8)
          .skip
          (.exit 0)))
      (.seq
        (.block 1
          (.seq
            (.region [0, 3, 4, 14] [
                ⟨some 11, .move (.t 0), none⟩,
                ⟨some 12, .move (.t 4), none⟩,
                ⟨some 13, .index none (.t 11) (.t 12), none⟩,
                ⟨some 14, .bin .eql (.t 13) (.c (.p (.int .u8 10))), none⟩])
            (.cond (.t 14)
              (.region [0, 3, 4] [
                  ⟨some 15, .move (.t 3), none⟩,
                  ⟨some 16, .bin .add (.t 15) (.c (.p (.int .i64 1))), none⟩,
                  ⟨some 3, .move (.t 16), none⟩])
              .skip)))
        (.region [0, 3, 4] [
            ⟨some 9, .move (.t 4), none⟩,
            ⟨some 10, .bin .add (.t 9) (.c (.p (.int .i64 1))), none⟩,
            ⟨some 4, .move (.t 10), none⟩])))
def fc18 : FC where
  nt := 18
  np := 1
  res := [.t 2]
  body :=
    (.seq
      (.region [0] [
          ⟨some 2, .move (.c (.p (.int .i64 0))), none⟩])
      (.seq
        (.region [0, 3] [
            ⟨some 3, .move (.c (.p (.int .i64 0))), none⟩])
        (.seq
          (.seq
            (.region [0, 3, 4] [
                ⟨some 4, .move (.c (.p (.int .i64 0))), none⟩])
            (.block 0
              (.loop [0, 3, 4]
                fc18_b0)))
          (.seq
            (.region [2] [
                ⟨some 17, .move (.t 3), none⟩,
                ⟨some 2, .move (.t 17), none⟩])
            .ret))))
theorem ok18 : FOk Tryz.prog 18 fc18 := FOk.of Tryz.func18 (by kernel_rfl)
def fc19_b0 : SC :=
    (.loc
      (.seq
        (.seq
          (.region [0, 1, 5, 6, 7, 12] [
              ⟨some 9, .move (.t 7), none⟩,
              ⟨some 10, .move (.t 0), none⟩,
              ⟨some 11, .len 0 (.t 10), none⟩,
              ⟨some 12, .bin .lss (.t 9) (.t 11), none⟩])
          (.cond (.t 12)
            .skip
            (.exit 0)))
        (.seq
          (.block 1
            (.seq
              (.region [0, 1, 5, 6, 7, 19] [
                  ⟨some 15, .move (.t 0), none⟩,
                  ⟨some 16, .move (.t 7), none⟩,
                  ⟨some 17, .index none (.t 15) (.t 16), none⟩,
                  ⟨some 18, .move (.t 1), none⟩,
                  ⟨some 19, .bin .eql (.t 17) (.t 18), none⟩])
              (.cond (.t 19)
                (.seq
                  (.region [0, 1, 5, 7] [
                      ⟨some 20, .move (.t 5), none⟩,
                      ⟨some 21, .move (.t 0), none⟩,
                      ⟨some 22, .move (.t 6), none⟩,
                      ⟨some 23, .move (.t 7), none⟩,
                      ⟨some 24, .slice 0 (.t 21) (some (.t 22)) (some (.t 23)), none⟩,
                      ⟨some 25, .bslice 9 1 1 (.str []) [(0, (.t 24))], none⟩,
                      ⟨some 26, .append 9 1 16 (.t 20) (.t 25), none⟩,
                      ⟨some 5, .move (.t 26), none⟩])
                  (.region [0, 1, 5, 6, 7] [
                      ⟨some 27, .move (.t 7), none⟩,
                      ⟨some 28, .bin .add (.t 27) (.c (.p (.int .i64 1))), none⟩,
                      ⟨some 6, .move (.t 28), none⟩]))
                .skip)))
          (.region [0, 1, 5, 6, 7] [
              ⟨some 13, .move (.t 7), none⟩,
              ⟨some 14, .bin .add (.t 13) (.c (.p (.int .i64 1))), none⟩,
              ⟨some 7, .move (.t 14), none⟩]))))
def fc19 : FC where
  nt := 36
  np := 2
  res := [.t 4]
  body :=
    (.seq
      (.region [0, 1] [
          ⟨some 4, .move (.c (.p (.nils))), none⟩])
      (.seq
        (.region [0, 1, 5] [
            ⟨some 8, .bslice 9 1 0 (.str []) [], none⟩,
            ⟨some 5, .move (.t 8), none⟩])
        (.seq
          (.region [0, 1, 5, 6] [
              ⟨some 6, .move (.c (.p (.int .i64 0))), none⟩])
          (.seq
            (.seq
              (.region [0, 1, 5, 6, 7] [
                  ⟨some 7, .move (.c (.p (.int .i64 0))), none⟩])
              (.block 0
                (.seq
                  (.tok 5 9 1)
                  (.loop [0, 1, 5, 6, 7]
                    fc19_b0))))
            (.seq
              (.region [5] [
                  ⟨some 29, .move (.t 5), none⟩,
                  ⟨some 30, .move (.t 0), none⟩,
                  ⟨some 31, .move (.t 6), none⟩,
                  ⟨some 32, .slice 0 (.t 30) (some (.t 31)) none, none⟩,
                  ⟨some 33, .bslice 9 1 1 (.str []) [(0, (.t 32))], none⟩,
                  ⟨some 34, .append 9 1 16 (.t 29) (.t 33), none⟩,
                  ⟨some 5, .move (.t 34), none⟩])
              (.seq
                (.region [4] [
                    ⟨some 35, .move (.t 5), none⟩,
                    ⟨some 4, .move (.t 35), none⟩])
                .ret))))))
theorem ok19 : FOk Tryz.prog 19 fc19 := FOk.of Tryz.func19 (by kernel_rfl)
def fc20_b0 : SC :=
    (.loc
      (.seq
        (.region [3, 7, 25, 26, 27, 28] [
            ⟨some 28, .bin .lss (.t 27) (.t 26), none⟩])
        (.seq
          (.cond (.t 28)
            .skip
            (.exit 0))
          (.seq
            (.block 1
              (.seq
                (.region [3, 7, 8, 9, 25, 26, 27] [
                    ⟨some 29, .move (.t 27), none⟩,
                    ⟨some 30, .iaddr none 3 (.t 25) (.t 27), none⟩,
                    ⟨some 31, .load (some 3) (.t 30), none⟩,
                    ⟨some 9, .alloc [.int .i64 0, .str [], .nils], none⟩,
                    ⟨some 8, .move (.t 29), none⟩,
                    ⟨none, .store 3 (.t 9) (.t 31), none⟩])
                (.seq
                  (.region [3, 7, 8, 10, 25, 26, 27] [
                      ⟨some 32, .move (.t 7), none⟩,
                      ⟨some 33, .load (some 3) (.t 9), none⟩,
                      ⟨some 34, .call (.c (.fn 31 [] [])) [(.t 32), (.t 33)], none⟩,
                      ⟨some 10, .alloc [.int .i64 0, .str [], .nils], none⟩,
                      ⟨none, .store 3 (.t 10) (.t 34), none⟩])
                  (.draw [3, 7, 25, 26, 27] [(2, 4), (2, 7), (4, 7), (2, 10), (4, 10), (7, 10), (8, 10)] [
                      ⟨some 35, .move (.t 8), none⟩,
                      ⟨some 36, .bin .add (.t 35) (.c (.p (.int .i64 1))), none⟩,
                      ⟨some 37, .call (.c (.fn 32 [] [])) [(.t 36)], none⟩,
                      ⟨some 38, .faddr (.t 10) 0, none⟩,
                      ⟨some 39, .load none (.t 38), none⟩,
                      ⟨some 40, .bslice 3 1 1 (.int .i64 0) [(0, (.t 39))], none⟩,
                      ⟨some 41, .faddr (.t 10) 2, none⟩,
                      ⟨some 42, .load none (.t 41), none⟩,
                      ⟨some 43, .append 3 1 8 (.t 40) (.t 42), none⟩,
                      ⟨some 44, .faddr (.t 10) 1, none⟩,
                      ⟨some 45, .load none (.t 44), none⟩,
                      ⟨some 46, .call (.c (.fn 27 [] [])) [(.t 3), (.t 37), (.t 43), (.t 45)], none⟩]))))
            (.region [3, 7, 25, 26, 27] [
                ⟨some 47, .bin .add (.t 27) (.c (.p (.int .i64 1))), none⟩,
                ⟨some 27, .move (.t 47), none⟩])))))
def fc20 : FC where
  nt := 49
  np := 1
  res := [.t 2]
  body :=
    (.seq
      (.region [0] [
          ⟨some 2, .move (.c (.p (.str []))), none⟩])
      (.seq
        (.region [0, 3] [
            ⟨some 3, .allocB 62 [.nilp, .nils], none⟩])
        (.seq
          (.tokb 3 1 5 1)
          (.seq
            (.region [3, 4, 5, 6] [
                ⟨some 12, .move (.t 0), none⟩,
                ⟨some 13, .call (.c (.fn 11 [] [])) [(.t 12)], none⟩,
                ⟨some 11, .move (.t 13), none⟩,
                ⟨some 14, .extract (.t 11) 0, none⟩,
                ⟨some 15, .extract (.t 11) 1, none⟩,
                ⟨some 16, .extract (.t 11) 2, none⟩,
                ⟨some 4, .move (.t 14), none⟩,
                ⟨some 5, .move (.t 15), none⟩,
                ⟨some 6, .move (.t 16), none⟩])
            (.seq
              (.seq
                (.region [3, 4, 5, 6, 18] [
                    ⟨some 17, .move (.t 5), none⟩,
                    ⟨some 18, .bin .neq (.t 17) (.c (.p (.int .i64 0))), none⟩])
                (.cond (.t 18)
                  (.seq
                    (.region [3] [
                        ⟨some 19, .move (.t 5), none⟩,
                        ⟨some 20, .move (.t 6), none⟩,
                        ⟨some 21, .bslice 3 1 2 (.int .i64 0) [(0, (.t 19)), (1, (.t 20))], none⟩,
                        ⟨some 22, .call (.c (.fn 27 [] [])) [(.t 3), (.c (.p (.str [101, 114, 114, 111, 114]))), (.t 21), (.c (.p (.str [])))], none⟩])
                    (.seq
                      (.region [2] [
                          ⟨some 23, .call (.c (.fn 28 [] [])) [(.t 3)], none⟩,
                          ⟨some 2, .move (.t 23), none⟩])
                      .ret))
                  .skip))
              (.seq
                (.region [3, 4, 7] [
                    ⟨some 24, .call (.c (.fn 30 [] [])) [], none⟩,
                    ⟨some 7, .move (.t 24), none⟩])
                (.seq
                  (.seq
                    (.region [3, 7, 25, 26, 27] [
                        ⟨some 25, .move (.t 4), none⟩,
                        ⟨some 26, .len 1 (.t 25), none⟩,
                        ⟨some 27, .move (.c (.p (.int .i64 0))), none⟩])
                    (.block 0
                      (.loop [3, 7, 25, 26, 27]
                        fc20_b0)))
                  (.seq
                    (.region [2] [
                        ⟨some 48, .call (.c (.fn 28 [] [])) [(.t 3)], none⟩,
                        ⟨some 2, .move (.t 48), none⟩])
                    .ret))))))))
theorem ok20 : FOk Tryz.prog 20 fc20 := FOk.of Tryz.func20 (by kernel_rfl)
def fc21 : FC where
  nt := 8
  np := 2
  res := []
  body :=
    (.seq
      (.region [0, 1, 2] [
          ⟨some 3, .move (.t 3), none⟩,
          ⟨some 2, .move (.t 3), none⟩])
      (.seq
        (.region [0, 1, 2, 5] [
            ⟨some 4, .move (.t 2), none⟩,
            ⟨some 5, .eqk 4 true (.t 4) (.c (.p (.nili))), none⟩])
        (.cond (.t 5)
          (.draw [] [] [
              ⟨some 6, .move (.t 2), none⟩,
              ⟨some 7, .tassert 25 (.int .i64 0) false (.t 6), none⟩,
              ⟨none, .store 1 (.t 0) (.c (.p (.nils))), none⟩,
              ⟨none, .store 1 (.t 1) (.t 7), none⟩])
          .skip)))
theorem ok21 : DOk Tryz.prog 21 3 fc21 := DOk.of Tryz.func21 (by kernel_rfl)
def fc22 : FC where
  nt := 4
  np := 1
  res := [.t 2]
  body :=
    (.seq
      (.region [1] [
          ⟨some 1, .box (.t 0), none⟩,
          ⟨some 2, .move (.c (.p (.nilf))), none⟩])
      (.seq
        (.region [2] [
            ⟨some 3, .mkfn 33 [] [(.t 1)], none⟩,
            ⟨some 2, .move (.t 3), none⟩])
        .ret))
theorem ok22 : FOk Tryz.prog 22 fc22 := FOk.of Tryz.func22 (by kernel_rfl)
def fc23_b0 : SC :=
    (.loc
      (.seq
        (.region [2, 3, 4, 13, 14, 15] [
            ⟨some 15, .bin .lss (.t 14) (.c (.p (.int .i64 10))), none⟩])
        (.seq
          (.cond (.t 15)
            .skip
            (.exit 0))
          (.seq
            (.block 1
              (.seq
                (.region [2, 3, 4, 5, 6, 13, 14] [
                    ⟨some 16, .move (.t 14), none⟩,
                    ⟨some 17, .index (some (10, 4, true)) (.t 13) (.t 14), none⟩,
                    ⟨some 6, .alloc [.str [], .int .i64 0, .int .i64 0, .bool false], none⟩,
                    ⟨some 5, .move (.t 16), none⟩,
                    ⟨none, .store 4 (.t 6) (.t 17), none⟩])
                (.seq
                  (.draw [2, 3, 4, 5, 13, 14, 27] [(4, 7)] [
                      ⟨some 18, .move (.t 5), none⟩,
                      ⟨some 19, .bin .gtr (.t 18) (.c (.p (.int .i64 0))), none⟩,
                      ⟨some 20, .move (.t 19), none⟩,
                      ⟨some 21, .faddr (.t 6) 0, some (20, true)⟩,
                      ⟨some 22, .load none (.t 21), some (20, true)⟩,
                      ⟨some 23, .move (.t 3), some (20, true)⟩,
                      ⟨some 24, .iaddr none 1 (.t 23) (.c (.p (.int .i64 0))), some (20, true)⟩,
                      ⟨some 25, .load none (.t 24), some (20, true)⟩,
                      ⟨some 26, .bin .eql (.t 22) (.t 25), some (20, true)⟩,
                      ⟨some 27, .pick (.t 20) (.t 26) (.c (.p (.bool false))), none⟩])
                  (.cond (.t 27)
                    (.region [2, 3, 4, 13, 14] [
                        ⟨some 28, .move (.t 5), none⟩,
                        ⟨some 4, .move (.t 28), none⟩])
                    .skip))))
            (.region [2, 3, 4, 13, 14] [
                ⟨some 29, .bin .add (.t 14) (.c (.p (.int .i64 1))), none⟩,
                ⟨some 14, .move (.t 29), none⟩])))))
def fc23_b1 : SC :=
    (.loc
      (.seq
        (.region [2, 7, 54, 55, 56, 57] [
            ⟨some 57, .bin .lss (.t 56) (.t 55), none⟩])
        (.seq
          (.cond (.t 57)
            .skip
            (.exit 2))
          (.seq
            (.block 3
              (.seq
                (.region [2, 7, 10, 54, 55, 56] [
                    ⟨some 58, .iaddr none 1 (.t 54) (.t 56), none⟩,
                    ⟨some 59, .load none (.t 58), none⟩,
                    ⟨some 10, .move (.t 59), none⟩])
                (.draw [2, 7, 54, 55, 56] [(1, 3)] [
                    ⟨some 60, .faddr (.t 7) 2, none⟩,
                    ⟨some 61, .load none (.t 60), none⟩,
                    ⟨some 62, .move (.t 10), none⟩,
                    ⟨some 63, .call (.c (.fn 35 [] [])) [(.t 62)], none⟩,
                    ⟨some 64, .bslice 3 1 1 (.int .i64 0) [(0, (.t 63))], none⟩,
                    ⟨some 65, .append 3 1 8 (.t 61) (.t 64), none⟩,
                    ⟨some 66, .faddr (.t 7) 2, none⟩,
                    ⟨none, .store 1 (.t 66) (.t 65), none⟩])))
            (.region [2, 7, 54, 55, 56] [
                ⟨some 67, .bin .add (.t 56) (.c (.p (.int .i64 1))), none⟩,
                ⟨some 56, .move (.t 67), none⟩])))))
def fc23 : FC where
  nt := 69
  np := 1
  res := [.cell 2 (some 3)]
  body :=
    (.seq
      (.region [0, 2] [
          ⟨some 2, .alloc [.int .i64 0, .str [], .nils], none⟩])
      (.seq
        (.region [2, 3] [
            ⟨some 11, .move (.t 0), none⟩,
            ⟨some 12, .call (.c (.fn 34 [] [])) [(.t 11), (.c (.p (.str [32])))], none⟩,
            ⟨some 3, .move (.t 12), none⟩])
        (.seq
          (.region [2, 3, 4] [
              ⟨some 4, .move (.c (.p (.int .i64 0))), none⟩])
          (.seq
            (.seq
              (.region [2, 3, 4, 13, 14] [
                  ⟨some 13, .load (some 40) (.c (.glob 0 0)), none⟩,
                  ⟨some 14, .move (.c (.p (.int .i64 0))), none⟩])
              (.block 0
                (.loop [2, 3, 4, 13, 14]
                  fc23_b0)))
            (.seq
              (.seq
                (.region [2, 3, 4, 31] [
                    ⟨some 30, .move (.t 4), none⟩,
                    ⟨some 31, .bin .eql (.t 30) (.c (.p (.int .i64 0))), none⟩])
                (.cond (.t 31)
                  (.region [2, 3, 4] [
                      ⟨some 32, .iface 25 (.c (.p (.int .i64 360))), none⟩,
                      ⟨none, .panic (.t 32), none⟩])
                  .skip))
              (.seq
                (.region [2, 3, 4, 7] [
                    ⟨some 33, .move (.t 4), none⟩,
                    ⟨some 34, .build [.int .i64 0, .str [], .nils] [(0, 1, (.t 33))], none⟩,
                    ⟨some 7, .alloc [.int .i64 0, .str [], .nils], none⟩,
                    ⟨none, .store 3 (.t 7) (.t 34), none⟩])
                (.seq
                  (.tokb 7 2 3 1)
                  (.seq
                    (.seq
                      (.region [2, 3, 4, 7, 8] [
                          ⟨some 35, .move (.t 3), none⟩,
                          ⟨some 36, .len 1 (.t 35), none⟩,
                          ⟨some 37, .bin .sub (.t 36) (.c (.p (.int .i64 1))), none⟩,
                          ⟨some 8, .move (.t 37), none⟩])
                      (.seq
                        (.region [2, 3, 7, 51] [
                            ⟨some 38, .move (.t 8), none⟩,
                            ⟨some 39, .move (.t 4), none⟩,
                            ⟨some 40, .iaddr (some 10) 4 (.c (.glob 0 0)) (.t 39), none⟩,
                            ⟨some 41, .faddr (.t 40) 1, none⟩,
                            ⟨some 42, .load none (.t 41), none⟩,
                            ⟨some 43, .bin .lss (.t 38) (.t 42), none⟩,
                            ⟨some 44, .move (.t 43), none⟩,
                            ⟨some 45, .move (.t 8), some (44, false)⟩,
                            ⟨some 46, .move (.t 4), some (44, false)⟩,
                            ⟨some 47, .iaddr (some 10) 4 (.c (.glob 0 0)) (.t 46), some (44, false)⟩,
                            ⟨some 48, .faddr (.t 47) 2, some (44, false)⟩,
                            ⟨some 49, .load none (.t 48), some (44, false)⟩,
                            ⟨some 50, .bin .gtr (.t 45) (.t 49), some (44, false)⟩,
                            ⟨some 51, .pick (.t 44) (.c (.p (.bool true))) (.t 50), none⟩])
                        (.cond (.t 51)
                          (.region [2, 3, 7] [
                              ⟨some 52, .iface 25 (.c (.p (.int .i64 340))), none⟩,
                              ⟨none, .panic (.t 52), none⟩])
                          .skip)))
                    (.seq
                      (.seq
                        (.region [2, 7, 54, 55, 56] [
                            ⟨some 53, .move (.t 3), none⟩,
                            ⟨some 54, .slice 1 (.t 53) (some (.c (.p (.int .i64 1)))) none, none⟩,
                            ⟨some 55, .len 1 (.t 54), none⟩,
                            ⟨some 56, .move (.c (.p (.int .i64 0))), none⟩])
                        (.block 2
                          (.loop [2, 7, 54, 55, 56]
                            fc23_b1)))
                      (.seq
                        (.region [2] [
                            ⟨some 68, .load (some 3) (.t 7), none⟩,
                            ⟨none, .store 3 (.t 2) (.t 68), none⟩])
                        .ret))))))))))
theorem ok23 : FOk Tryz.prog 23 fc23 := FOk.of Tryz.func23 (by kernel_rfl)
def fc24 : FC where
  nt := 11
  np := 0
  res := [.t 0]
  body :=
    (.seq
      (.region [] [
          ⟨some 0, .move (.c (.p (.nils))), none⟩])
      (.seq
        (.region [0] [
            ⟨some 1, .build [.str [], .int .i64 0, .int .i64 0, .bool false] [(0, 1, (.c (.p (.str [115, 112, 101, 99])))), (1, 1, (.c (.p (.int .i64 0)))), (2, 1, (.c (.p (.int .i64 0)))), (3, 1, (.c (.p (.bool true))))], none⟩,
            ⟨some 2, .build [.str [], .int .i64 0, .int .i64 0, .bool false] [(0, 1, (.c (.p (.str [115, 99, 111, 112, 101])))), (1, 1, (.c (.p (.int .i64 1)))), (2, 1, (.c (.p (.int .i64 8)))), (3, 1, (.c (.p (.bool false))))], none⟩,
            ⟨some 3, .build [.str [], .int .i64 0, .int .i64 0, .bool false] [(0, 1, (.c (.p (.str [114, 117, 110])))), (1, 1, (.c (.p (.int .i64 0)))), (2, 1, (.c (.p (.int .i64 0)))), (3, 1, (.c (.p (.bool true))))], none⟩,
            ⟨some 4, .build [.str [], .int .i64 0, .int .i64 0, .bool false] [(0, 1, (.c (.p (.str [99, 104, 101, 99, 107])))), (1, 1, (.c (.p (.int .i64 0)))), (2, 1, (.c (.p (.int .i64 0)))), (3, 1, (.c (.p (.bool true))))], none⟩,
            ⟨some 5, .build [.str [], .int .i64 0, .int .i64 0, .bool false] [(0, 1, (.c (.p (.str [110, 101, 120, 116])))), (1, 1, (.c (.p (.int .i64 0)))), (2, 1, (.c (.p (.int .i64 0)))), (3, 1, (.c (.p (.bool false))))], none⟩,
            ⟨some 6, .build [.str [], .int .i64 0, .int .i64 0, .bool false] [(0, 1, (.c (.p (.str [101, 100, 105, 116])))), (1, 1, (.c (.p (.int .i64 4)))), (2, 1, (.c (.p (.int .i64 4)))), (3, 1, (.c (.p (.bool false))))], none⟩,
            ⟨some 7, .build [.str [], .int .i64 0, .int .i64 0, .bool false] [(0, 1, (.c (.p (.str [114, 101, 112, 97, 105, 114])))), (1, 1, (.c (.p (.int .i64 0)))), (2, 1, (.c (.p (.int .i64 0)))), (3, 1, (.c (.p (.bool false))))], none⟩,
            ⟨some 8, .build [.str [], .int .i64 0, .int .i64 0, .bool false] [(0, 1, (.c (.p (.str [99, 111, 114, 101])))), (1, 1, (.c (.p (.int .i64 0)))), (2, 1, (.c (.p (.int .i64 0)))), (3, 1, (.c (.p (.bool false))))], none⟩,
            ⟨some 9, .build [.str [], .int .i64 0, .int .i64 0, .bool false] [(0, 1, (.c (.p (.str [115, 104, 111, 119])))), (1, 1, (.c (.p (.int .i64 0)))), (2, 1, (.c (.p (.int .i64 0)))), (3, 1, (.c (.p (.bool false))))], none⟩,
            ⟨some 10, .bslice 54 4 9 (.agg [.str [], .int .i64 0, .int .i64 0, .bool false]) [(0, (.t 1)), (1, (.t 2)), (2, (.t 3)), (3, (.t 4)), (4, (.t 5)), (5, (.t 6)), (6, (.t 7)), (7, (.t 8)), (8, (.t 9))], none⟩,
            ⟨some 0, .move (.t 10), none⟩])
        .ret))
theorem ok24 : FOk Tryz.prog 24 fc24 := FOk.of Tryz.func24 (by kernel_rfl)
def fc25_b0 : SC :=
    (.loc
      (.seq
        (.seq
          (.region [2, 4, 7, 8, 56] [
              ⟨some 53, .move (.t 8), none⟩,
              ⟨some 54, .move (.t 4), none⟩,
              ⟨some 55, .len 1 (.t 54), none⟩,
              ⟨some 56, .bin .lss (.t 53) (.t 55), none⟩])
          (.cond (.t 56)
            .skip
            (.exit 2)))
        (.seq
          (.block 3
            (.seq
              (.region [2, 4, 7, 8, 9, 10] [
                  ⟨some 60, .move (.t 4), none⟩,
                  ⟨some 61, .move (.t 8), none⟩,
                  ⟨some 62, .iaddr none 1 (.t 60) (.t 61), none⟩,
                  ⟨some 63, .load none (.t 62), none⟩,
                  ⟨some 64, .call (.c (.fn 36 [] [])) [(.t 63)], none⟩,
                  ⟨some 59, .move (.t 64), none⟩,
                  ⟨some 65, .extract (.t 59) 0, none⟩,
                  ⟨some 66, .extract (.t 59) 1, none⟩,
                  ⟨some 9, .move (.t 65), none⟩,
                  ⟨some 10, .move (.t 66), none⟩])
              (.seq
                (.seq
                  (.region [2, 4, 7, 8, 9, 68] [
                      ⟨some 67, .move (.t 10), none⟩,
                      ⟨some 68, .un .not (.t 67), none⟩])
                  (.cond (.t 68)
                    (.seq
                      (.region [2, 3] [
                          ⟨some 69, .load (some 3) (.t 7), none⟩,
                          ⟨none, .store 3 (.t 2) (.t 69), none⟩,
                          ⟨some 3, .move (.c (.p (.int .i64 340))), none⟩])
                      .ret)
                    .skip))
                (.region [2, 4, 7, 8] [
                    ⟨some 70, .faddr (.t 7) 2, none⟩,
                    ⟨some 71, .load none (.t 70), none⟩,
                    ⟨some 72, .move (.t 9), none⟩,
                    ⟨some 73, .bslice 3 1 1 (.int .i64 0) [(0, (.t 72))], none⟩,
                    ⟨some 74, .append 3 1 8 (.t 71) (.t 73), none⟩,
                    ⟨some 75, .faddr (.t 7) 2, none⟩,
                    ⟨none, .store 1 (.t 75) (.t 74), none⟩]))))
          (.region [2, 4, 7, 8] [
              ⟨some 57, .move (.t 8), none⟩,
              ⟨some 58, .bin .add (.t 57) (.c (.p (.int .i64 1))), none⟩,
              ⟨some 8, .move (.t 58), none⟩]))))
def fc25_b1 : SC :=
    (.loc
      (.seq
        (.seq
          (.region [2, 4, 5, 6, 17] [
              ⟨some 14, .move (.t 6), none⟩,
              ⟨some 15, .move (.t 5), none⟩,
              ⟨some 16, .len 1 (.t 15), none⟩,
              ⟨some 17, .bin .lss (.t 14) (.t 16), none⟩])
          (.cond (.t 17)
            .skip
            (.exit 0)))
        (.seq
          (.block 1
            (.seq
              (.seq
                (.draw [2, 4, 5, 6, 28] [(4, 7)] [
                    ⟨some 20, .move (.t 5), none⟩,
                    ⟨some 21, .move (.t 6), none⟩,
                    ⟨some 22, .iaddr none 4 (.t 20) (.t 21), none⟩,
                    ⟨some 23, .faddr (.t 22) 0, none⟩,
                    ⟨some 24, .load none (.t 23), none⟩,
                    ⟨some 25, .move (.t 4), none⟩,
                    ⟨some 26, .iaddr none 1 (.t 25) (.c (.p (.int .i64 0))), none⟩,
                    ⟨some 27, .load none (.t 26), none⟩,
                    ⟨some 28, .bin .neq (.t 24) (.t 27), none⟩])
                (.cond (.t 28)
                  (.exit 1)
                  .skip))
              (.seq
                (.region [2, 4, 5, 6, 7] [
                    ⟨some 29, .move (.t 6), none⟩,
                    ⟨some 30, .bin .add (.t 29) (.c (.p (.int .i64 1))), none⟩,
                    ⟨some 31, .build [.int .i64 0, .str [], .nils] [(0, 1, (.t 30))], none⟩,
                    ⟨some 7, .alloc [.int .i64 0, .str [], .nils], none⟩,
                    ⟨none, .store 3 (.t 7) (.t 31), none⟩])
                (.seq
                  (.tokb 7 2 3 1)
                  (.seq
                    (.seq
                      (.region [2, 4, 7, 51] [
                          ⟨some 32, .move (.t 4), none⟩,
                          ⟨some 33, .len 1 (.t 32), none⟩,
                          ⟨some 34, .bin .sub (.t 33) (.c (.p (.int .i64 1))), none⟩,
                          ⟨some 35, .move (.t 5), none⟩,
                          ⟨some 36, .move (.t 6), none⟩,
                          ⟨some 37, .iaddr none 4 (.t 35) (.t 36), none⟩,
                          ⟨some 38, .faddr (.t 37) 1, none⟩,
                          ⟨some 39, .load none (.t 38), none⟩,
                          ⟨some 40, .bin .lss (.t 34) (.t 39), none⟩,
                          ⟨some 41, .move (.t 40), none⟩,
                          ⟨some 42, .move (.t 4), some (41, false)⟩,
                          ⟨some 43, .len 1 (.t 42), some (41, false)⟩,
                          ⟨some 44, .bin .sub (.t 43) (.c (.p (.int .i64 1))), some (41, false)⟩,
                          ⟨some 45, .move (.t 5), some (41, false)⟩,
                          ⟨some 46, .move (.t 6), some (41, false)⟩,
                          ⟨some 47, .iaddr none 4 (.t 45) (.t 46), some (41, false)⟩,
                          ⟨some 48, .faddr (.t 47) 2, some (41, false)⟩,
                          ⟨some 49, .load none (.t 48), some (41, false)⟩,
                          ⟨some 50, .bin .gtr (.t 44) (.t 49), some (41, false)⟩,
                          ⟨some 51, .pick (.t 41) (.c (.p (.bool true))) (.t 50), none⟩])
                      (.cond (.t 51)
                        (.seq
                          (.region [2, 3] [
                              ⟨some 52, .load (some 3) (.t 7), none⟩,
                              ⟨none, .store 3 (.t 2) (.t 52), none⟩,
                              ⟨some 3, .move (.c (.p (.int .i64 340))), none⟩])
                          .ret)
                        .skip))
                    (.seq
                      (.seq
                        (.region [2, 4, 7, 8] [
                            ⟨some 8, .move (.c (.p (.int .i64 1))), none⟩])
                        (.block 2
                          (.loop [2, 4, 7, 8]
                            fc25_b0)))
                      (.seq
                        (.region [2, 3] [
                            ⟨some 76, .load (some 3) (.t 7), none⟩,
                            ⟨none, .store 3 (.t 2) (.t 76), none⟩,
                            ⟨some 3, .move (.c (.p (.int .i64 0))), none⟩])
                        .ret)))))))
          (.region [2, 4, 5, 6] [
              ⟨some 18, .move (.t 6), none⟩,
              ⟨some 19, .bin .add (.t 18) (.c (.p (.int .i64 1))), none⟩,
              ⟨some 6, .move (.t 19), none⟩]))))
def fc25 : FC where
  nt := 78
  np := 1
  res := [.cell 2 (some 3), .t 3]
  body :=
    (.seq
      (.region [0, 2] [
          ⟨some 2, .alloc [.int .i64 0, .str [], .nils], none⟩,
          ⟨some 3, .move (.c (.p (.int .i64 0))), none⟩])
      (.seq
        (.region [2, 4] [
            ⟨some 11, .move (.t 0), none⟩,
            ⟨some 12, .call (.c (.fn 19 [] [])) [(.t 11), (.c (.p (.int .u8 32)))], none⟩,
            ⟨some 4, .move (.t 12), none⟩])
        (.seq
          (.region [2, 4, 5] [
              ⟨some 13, .call (.c (.fn 24 [] [])) [], none⟩,
              ⟨some 5, .move (.t 13), none⟩])
          (.seq
            (.seq
              (.region [2, 4, 5, 6] [
                  ⟨some 6, .move (.c (.p (.int .i64 0))), none⟩])
              (.block 0
                (.loop [2, 4, 5, 6]
                  fc25_b1)))
            (.seq
              (.region [2, 3] [
                  ⟨some 77, .build [.int .i64 0, .str [], .nils] [], none⟩,
                  ⟨none, .store 3 (.t 2) (.t 77), none⟩,
                  ⟨some 3, .move (.c (.p (.int .i64 360))), none⟩])
              .ret)))))
theorem ok25 : FOk Tryz.prog 25 fc25 := FOk.of Tryz.func25 (by kernel_rfl)
def fc26_b0 : SC :=
    (.loc
      (.seq
        (.seq
          (.region [0, 3, 4, 8] [
              ⟨some 5, .move (.t 4), none⟩,
              ⟨some 6, .move (.t 0), none⟩,
              ⟨some 7, .len 1 (.t 6), none⟩,
              ⟨some 8, .bin .lss (.t 5) (.t 7), none⟩])
          (.cond (.t 8)
            .skip
            (.exit 0)))
        (.seq
          (.block 1
            (.region [0, 3, 4] [
                ⟨some 11, .move (.t 3), none⟩,
                ⟨some 12, .bin .add (.t 11) (.c (.p (.str [32]))), none⟩,
                ⟨some 13, .move (.t 0), none⟩,
                ⟨some 14, .move (.t 4), none⟩,
                ⟨some 15, .iaddr none 1 (.t 13) (.t 14), none⟩,
                ⟨some 16, .load none (.t 15), none⟩,
                ⟨some 17, .call (.c (.fn 37 [] [])) [(.t 16)], none⟩,
                ⟨some 18, .bin .add (.t 12) (.t 17), none⟩,
                ⟨some 3, .move (.t 18), none⟩]))
          (.region [0, 3, 4] [
              ⟨some 9, .move (.t 4), none⟩,
              ⟨some 10, .bin .add (.t 9) (.c (.p (.int .i64 1))), none⟩,
              ⟨some 4, .move (.t 10), none⟩]))))
def fc26 : FC where
  nt := 20
  np := 1
  res := [.t 2]
  body :=
    (.seq
      (.region [0] [
          ⟨some 2, .move (.c (.p (.str []))), none⟩])
      (.seq
        (.region [0, 3] [
            ⟨some 3, .move (.c (.p (.str []))), none⟩])
        (.seq
          (.seq
            (.region [0, 3, 4] [
                ⟨some 4, .move (.c (.p (.int .i64 0))), none⟩])
            (.block 0
              (.loop [0, 3, 4]
                fc26_b0)))
          (.seq
            (.region [2] [
                ⟨some 19, .move (.t 3), none⟩,
                ⟨some 2, .move (.t 19), none⟩])
            .ret))))
theorem ok26 : FOk Tryz.prog 26 fc26 := FOk.of Tryz.func26 (by kernel_rfl)
def fc27_b0 : SC :=
    (.loc
      (.seq
        (.region [0, 3, 13, 14, 15, 16] [
            ⟨some 16, .bin .lss (.t 15) (.t 14), none⟩])
        (.seq
          (.cond (.t 16)
            .skip
            (.exit 0))
          (.seq
            (.block 1
              (.seq
                (.region [0, 3, 9, 13, 14, 15] [
                    ⟨some 17, .iaddr none 1 (.t 13) (.t 15), none⟩,
                    ⟨some 18, .load none (.t 17), none⟩,
                    ⟨some 9, .move (.t 18), none⟩])
                (.region [0, 3, 13, 14, 15] [
                    ⟨some 19, .move (.t 0), none⟩,
                    ⟨some 20, .move (.t 9), none⟩,
                    ⟨some 21, .call (.c (.fn 32 [] [])) [(.t 20)], none⟩,
                    ⟨some 22, .bin .add (.c (.p (.str [32]))) (.t 21), none⟩,
                    ⟨some 23, .call (.c (.fn 38 [] [])) [(.t 19), (.t 22)], none⟩])))
            (.region [0, 3, 13, 14, 15] [
                ⟨some 24, .bin .add (.t 15) (.c (.p (.int .i64 1))), none⟩,
                ⟨some 15, .move (.t 24), none⟩])))))
def fc27 : FC where
  nt := 35
  np := 4
  res := []
  body :=
    (.seq
      (.region [0, 2, 3] [
          ⟨some 10, .move (.t 0), none⟩,
          ⟨some 11, .move (.t 1), none⟩,
          ⟨some 12, .call (.c (.fn 38 [] [])) [(.t 10), (.t 11)], none⟩])
      (.seq
        (.seq
          (.region [0, 3, 13, 14, 15] [
              ⟨some 13, .move (.t 2), none⟩,
              ⟨some 14, .len 1 (.t 13), none⟩,
              ⟨some 15, .move (.c (.p (.int .i64 0))), none⟩])
          (.block 0
            (.loop [0, 3, 13, 14, 15]
              fc27_b0)))
        (.seq
          (.region [0, 3] [
              ⟨some 25, .move (.t 0), none⟩,
              ⟨some 26, .call (.c (.fn 39 [] [])) [(.t 25), (.c (.p (.int .u8 10)))], none⟩])
          (.seq
            (.region [0, 3, 28] [
                ⟨some 27, .move (.t 3), none⟩,
                ⟨some 28, .bin .neq (.t 27) (.c (.p (.str []))), none⟩])
            (.cond (.t 28)
              (.region [] [
                  ⟨some 29, .move (.t 0), none⟩,
                  ⟨some 30, .move (.t 3), none⟩,
                  ⟨some 31, .call (.c (.fn 40 [] [])) [(.t 30), (.c (.p (.str [10]))), (.c (.p (.str [10, 124])))], none⟩,
                  ⟨some 32, .bin .add (.c (.p (.str [124]))) (.t 31), none⟩,
                  ⟨some 33, .bin .add (.t 32) (.c (.p (.str [10]))), none⟩,
                  ⟨some 34, .call (.c (.fn 38 [] [])) [(.t 29), (.t 33)], none⟩])
              .skip)))))
theorem ok27 : FOk Tryz.prog 27 fc27 := FOk.of Tryz.func27 (by kernel_rfl)
def fc28 : FC where
  nt := 14
  np := 1
  res := [.t 2]
  body :=
    (.seq
      (.region [0] [
          ⟨some 2, .move (.c (.p (.str []))), none⟩])
      (.seq
        (.draw [2] [(3, 8), (4, 8)] [
            ⟨some 3, .move (.t 0), none⟩,
            ⟨some 4, .nilCheck (.t 3), none⟩,
            ⟨some 5, .faddr (.t 4) 1, none⟩,
            ⟨some 6, .load none (.t 5), none⟩,
            ⟨some 7, .sdata (.t 6), none⟩,
            ⟨some 8, .move (.t 0), none⟩,
            ⟨some 9, .nilCheck (.t 8), none⟩,
            ⟨some 10, .faddr (.t 9) 1, none⟩,
            ⟨some 11, .load none (.t 10), none⟩,
            ⟨some 12, .len 1 (.t 11), none⟩,
            ⟨some 13, .ustr 5 (.t 7) (.t 12), none⟩,
            ⟨some 2, .move (.t 13), none⟩])
        .ret))
theorem ok28 : FOk Tryz.prog 28 fc28 := FOk.of Tryz.func28 (by kernel_rfl)
def fc29_b0 : SC :=
    (.seq
      (.seq
        (.region [3, 4, 5, 13] [
            ⟨some 10, .move (.t 5), none⟩,
            ⟨some 11, .move (.t 4), none⟩,
            ⟨some 12, .len 1 (.t 11), none⟩,
            ⟨some 13, .bin .lss (.t 10) (.t 12), none⟩])
        (.cond (.t 13)
          .skip
          (.exit 0)))
      (.seq
        (.block 1
          (.region [3, 4, 5] [
              ⟨some 16, .move (.t 3), none⟩,
              ⟨some 17, .bin .add (.t 16) (.c (.p (.str [124]))), none⟩,
              ⟨some 18, .move (.t 4), none⟩,
              ⟨some 19, .move (.t 5), none⟩,
              ⟨some 20, .iaddr none 1 (.t 18) (.t 19), none⟩,
              ⟨some 21, .load none (.t 20), none⟩,
              ⟨some 22, .bin .add (.t 17) (.t 21), none⟩,
              ⟨some 23, .bin .add (.t 22) (.c (.p (.str [10]))), none⟩,
              ⟨some 3, .move (.t 23), none⟩]))
        (.region [3, 4, 5] [
            ⟨some 14, .move (.t 5), none⟩,
            ⟨some 15, .bin .add (.t 14) (.c (.p (.int .i64 1))), none⟩,
            ⟨some 5, .move (.t 15), none⟩])))
def fc29 : FC where
  nt := 25
  np := 1
  res := [.t 2]
  body :=
    (.seq
      (.region [0] [
          ⟨some 2, .move (.c (.p (.str []))), none⟩])
      (.seq
        (.seq
          (.region [0, 7] [
              ⟨some 6, .move (.t 0), none⟩,
              ⟨some 7, .bin .eql (.t 6) (.c (.p (.str []))), none⟩])
          (.cond (.t 7)
            (.seq
              (.region [2] [
                  ⟨some 2, .move (.c (.p (.str []))), none⟩])
              .ret)
            .skip))
        (.seq
          (.region [0, 3] [
              ⟨some 3, .move (.c (.p (.str []))), none⟩])
          (.seq
            (.region [3, 4] [
                ⟨some 8, .move (.t 0), none⟩,
                ⟨some 9, .call (.c (.fn 19 [] [])) [(.t 8), (.c (.p (.int .u8 10)))], none⟩,
                ⟨some 4, .move (.t 9), none⟩])
            (.seq
              (.seq
                (.region [3, 4, 5] [
                    ⟨some 5, .move (.c (.p (.int .i64 0))), none⟩])
                (.block 0
                  (.loop [3, 4, 5]
                    fc29_b0)))
              (.seq
                (.region [2] [
                    ⟨some 24, .move (.t 3), none⟩,
                    ⟨some 2, .move (.t 24), none⟩])
                .ret))))))
theorem ok29 : FOk Tryz.prog 29 fc29 := FOk.of Tryz.func29 (by kernel_rfl)
def fc30 : FC where
  nt := 3
  np := 0
  res := [.t 0]
  body :=
    (.seq
      (.region [] [
          ⟨some 0, .move (.c (.p (.nilp))), none⟩])
      (.seq
        (.region [0] [
            ⟨some 1, .build [.nilp, .nilp, .nilp, .nilp, .int .i64 0, .str [], .int .i64 0, .nils, .int .i64 0, .int .i64 0, .bool false] [], none⟩,
            ⟨some 2, .box (.t 1), none⟩,
            ⟨some 0, .move (.t 2), none⟩])
        .ret))
theorem ok30 : FOk Tryz.prog 30 fc30 := FOk.of Tryz.func30 (by kernel_rfl)
def fc35 : FC where
  nt := 26
  np := 1
  res := [.t 2]
  body :=
    (.seq
      (.region [0] [
          ⟨some 2, .move (.c (.p (.int .i64 0))), none⟩])
      (.seq
        (.region [0, 3, 4] [
            ⟨some 6, .move (.t 0), none⟩,
            ⟨some 7, .call (.c (.fn 53 [] [])) [(.t 6)], none⟩,
            ⟨some 5, .move (.t 7), none⟩,
            ⟨some 8, .extract (.t 5) 0, none⟩,
            ⟨some 9, .extract (.t 5) 1, none⟩,
            ⟨some 3, .move (.t 8), none⟩,
            ⟨some 4, .move (.t 9), none⟩])
        (.seq
          (.seq
            (.region [3, 23] [
                ⟨some 10, .move (.t 4), none⟩,
                ⟨some 11, .eqk 4 true (.t 10) (.c (.p (.nili))), none⟩,
                ⟨some 12, .move (.t 11), none⟩,
                ⟨some 13, .move (.t 3), some (12, false)⟩,
                ⟨some 14, .call (.c (.fn 32 [] [])) [(.t 13)], some (12, false)⟩,
                ⟨some 15, .move (.t 0), some (12, false)⟩,
                ⟨some 16, .bin .neq (.t 14) (.t 15), some (12, false)⟩,
                ⟨some 17, .pick (.t 12) (.c (.p (.bool true))) (.t 16), none⟩,
                ⟨some 18, .move (.t 17), none⟩,
                ⟨some 19, .move (.t 0), some (18, false)⟩,
                ⟨some 20, .call (.c (.fn 54 [] [])) [(.t 19), (.c (.p (.str [45])))], some (18, false)⟩,
                ⟨some 21, .len 0 (.t 20), some (18, false)⟩,
                ⟨some 22, .bin .gtr (.t 21) (.c (.p (.int .i64 9))), some (18, false)⟩,
                ⟨some 23, .pick (.t 18) (.c (.p (.bool true))) (.t 22), none⟩])
            (.cond (.t 23)
              (.region [3] [
                  ⟨some 24, .iface 25 (.c (.p (.int .i64 340))), none⟩,
                  ⟨none, .panic (.t 24), none⟩])
              .skip))
          (.seq
            (.region [2] [
                ⟨some 25, .move (.t 3), none⟩,
                ⟨some 2, .move (.t 25), none⟩])
            .ret))))
theorem ok35 : FOk Tryz.prog 35 fc35 := FOk.of Tryz.func35 (by kernel_rfl)
def fc36_b0 : SC :=
    (.seq
      (.seq
        (.region [0, 4, 5, 6, 44] [
            ⟨some 41, .move (.t 6), none⟩,
            ⟨some 42, .move (.t 4), none⟩,
            ⟨some 43, .len 0 (.t 42), none⟩,
            ⟨some 44, .bin .lss (.t 41) (.t 43), none⟩])
        (.cond (.t 44)
          .skip
          (.exit 0)))
      (.seq
        (.block 1
          (.seq
            (.seq
              (.region [0, 4, 5, 6, 56] [
                  ⟨some 47, .move (.t 4), none⟩,
                  ⟨some 48, .move (.t 6), none⟩,
                  ⟨some 49, .index none (.t 47) (.t 48), none⟩,
                  ⟨some 50, .bin .lss (.t 49) (.c (.p (.int .u8 48))), none⟩,
                  ⟨some 51, .move (.t 50), none⟩,
                  ⟨some 52, .move (.t 4), some (51, false)⟩,
                  ⟨some 53, .move (.t 6), some (51, false)⟩,
                  ⟨some 54, .index none (.t 52) (.t 53), some (51, false)⟩,
                  ⟨some 55, .bin .gtr (.t 54) (.c (.p (.int .u8 57))), some (51, false)⟩,
                  ⟨some 56, .pick (.t 51) (.c (.p (.bool true))) (.t 55), none⟩])
              (.cond (.t 56)
                (.seq
                  (.region [2, 3] [
                      ⟨some 2, .move (.c (.p (.int .i64 0))), none⟩,
                      ⟨some 3, .move (.c (.p (.bool false))), none⟩])
                  .ret)
                .skip))
            (.region [0, 4, 5, 6] [
                ⟨some 57, .move (.t 5), none⟩,
                ⟨some 58, .bin .mul (.t 57) (.c (.p (.int .i64 10))), none⟩,
                ⟨some 59, .move (.t 4), none⟩,
                ⟨some 60, .move (.t 6), none⟩,
                ⟨some 61, .index none (.t 59) (.t 60), none⟩,
                ⟨some 62, .conv .i64 (.t 61), none⟩,
                ⟨some 63, .bin .add (.t 58) (.t 62), none⟩,
                ⟨some 64, .bin .sub (.t 63) (.c (.p (.int .i64 48))), none⟩,
                ⟨some 5, .move (.t 64), none⟩])))
        (.region [0, 4, 5, 6] [
            ⟨some 45, .move (.t 6), none⟩,
            ⟨some 46, .bin .add (.t 45) (.c (.p (.int .i64 1))), none⟩,
            ⟨some 6, .move (.t 46), none⟩])))
def fc36 : FC where
  nt := 73
  np := 1
  res := [.t 2, .t 3]
  body :=
    (.seq
      (.region [0] [
          ⟨some 2, .move (.c (.p (.int .i64 0))), none⟩,
          ⟨some 3, .move (.c (.p (.bool false))), none⟩])
      (.seq
        (.region [0, 4] [
            ⟨some 7, .move (.t 0), none⟩,
            ⟨some 4, .move (.t 7), none⟩])
        (.seq
          (.seq
            (.region [0, 4, 15] [
                ⟨some 8, .move (.t 0), none⟩,
                ⟨some 9, .len 0 (.t 8), none⟩,
                ⟨some 10, .bin .gtr (.t 9) (.c (.p (.int .i64 0))), none⟩,
                ⟨some 11, .move (.t 10), none⟩,
                ⟨some 12, .move (.t 0), some (11, true)⟩,
                ⟨some 13, .index none (.t 12) (.c (.p (.int .i64 0))), some (11, true)⟩,
                ⟨some 14, .bin .eql (.t 13) (.c (.p (.int .u8 45))), some (11, true)⟩,
                ⟨some 15, .pick (.t 11) (.t 14) (.c (.p (.bool false))), none⟩])
            (.cond (.t 15)
              (.region [0, 4] [
                  ⟨some 16, .move (.t 0), none⟩,
                  ⟨some 17, .slice 0 (.t 16) (some (.c (.p (.int .i64 1)))) none, none⟩,
                  ⟨some 4, .move (.t 17), none⟩])
              .skip))
          (.seq
            (.seq
              (.region [0, 4, 40] [
                  ⟨some 18, .move (.t 4), none⟩,
                  ⟨some 19, .len 0 (.t 18), none⟩,
                  ⟨some 20, .bin .eql (.t 19) (.c (.p (.int .i64 0))), none⟩,
                  ⟨some 21, .move (.t 20), none⟩,
                  ⟨some 22, .move (.t 4), some (21, false)⟩,
                  ⟨some 23, .len 0 (.t 22), some (21, false)⟩,
                  ⟨some 24, .bin .gtr (.t 23) (.c (.p (.int .i64 9))), some (21, false)⟩,
                  ⟨some 25, .pick (.t 21) (.c (.p (.bool true))) (.t 24), none⟩,
                  ⟨some 26, .move (.t 25), none⟩,
                  ⟨some 27, .move (.t 4), some (26, false)⟩,
                  ⟨some 28, .index none (.t 27) (.c (.p (.int .i64 0))), some (26, false)⟩,
                  ⟨some 29, .bin .eql (.t 28) (.c (.p (.int .u8 48))), some (26, false)⟩,
                  ⟨some 30, .move (.t 29), some (26, false)⟩,
                  ⟨some 31, .move (.t 4), some (30, true)⟩,
                  ⟨some 32, .len 0 (.t 31), some (30, true)⟩,
                  ⟨some 33, .bin .gtr (.t 32) (.c (.p (.int .i64 1))), some (30, true)⟩,
                  ⟨some 34, .move (.t 33), some (30, true)⟩,
                  ⟨some 35, .move (.t 0), some (34, false)⟩,
                  ⟨some 36, .len 0 (.t 35), some (34, false)⟩,
                  ⟨some 37, .bin .gtr (.t 36) (.c (.p (.int .i64 1))), some (34, false)⟩,
                  ⟨some 38, .pick (.t 34) (.c (.p (.bool true))) (.t 37), some (30, true)⟩,
                  ⟨some 39, .pick (.t 30) (.t 38) (.c (.p (.bool false))), some (26, false)⟩,
                  ⟨some 40, .pick (.t 26) (.c (.p (.bool true))) (.t 39), none⟩])
              (.cond (.t 40)
                (.seq
                  (.region [2, 3] [
                      ⟨some 2, .move (.c (.p (.int .i64 0))), none⟩,
                      ⟨some 3, .move (.c (.p (.bool false))), none⟩])
                  .ret)
                .skip))
            (.seq
              (.region [0, 4, 5] [
                  ⟨some 5, .move (.c (.p (.int .i64 0))), none⟩])
              (.seq
                (.seq
                  (.region [0, 4, 5, 6] [
                      ⟨some 6, .move (.c (.p (.int .i64 0))), none⟩])
                  (.block 0
                    (.loop [0, 4, 5, 6]
                      fc36_b0)))
                (.seq
                  (.seq
                    (.region [5, 69] [
                        ⟨some 65, .move (.t 4), none⟩,
                        ⟨some 66, .len 0 (.t 65), none⟩,
                        ⟨some 67, .move (.t 0), none⟩,
                        ⟨some 68, .len 0 (.t 67), none⟩,
                        ⟨some 69, .bin .lss (.t 66) (.t 68), none⟩])
                    (.cond (.t 69)
                      (.seq
                        (.region [2, 3] [
                            ⟨some 70, .move (.t 5), none⟩,
                            ⟨some 71, .un .neg (.t 70), none⟩,
                            ⟨some 2, .move (.t 71), none⟩,
                            ⟨some 3, .move (.c (.p (.bool true))), none⟩])
                        .ret)
                      .skip))
                  (.seq
                    (.region [2, 3] [
                        ⟨some 72, .move (.t 5), none⟩,
                        ⟨some 2, .move (.t 72), none⟩,
                        ⟨some 3, .move (.c (.p (.bool true))), none⟩])
                    .ret))))))))
theorem ok36 : FOk Tryz.prog 36 fc36 := FOk.of Tryz.func36 (by kernel_rfl)
def fc37_b0 : SC :=
    (.seq
      (.seq
        (.region [0, 3, 19] [
            ⟨some 18, .move (.t 0), none⟩,
            ⟨some 19, .bin .gtr (.t 18) (.c (.p (.int .i64 0))), none⟩])
        (.cond (.t 19)
          .skip
          (.exit 0)))
      (.seq
        (.block 1
          (.region [0, 3] [
              ⟨some 22, .move (.t 0), none⟩,
              ⟨some 23, .bin .rem (.t 22) (.c (.p (.int .i64 10))), none⟩,
              ⟨some 24, .bin .add (.c (.p (.int .i64 48))) (.t 23), none⟩,
              ⟨some 25, .conv .u8 (.t 24), none⟩,
              ⟨some 26, .bslice 5 1 1 (.int .u8 0) [(0, (.t 25))], none⟩,
              ⟨some 27, .toStr (.t 26), none⟩,
              ⟨some 28, .move (.t 3), none⟩,
              ⟨some 29, .bin .add (.t 27) (.t 28), none⟩,
              ⟨some 3, .move (.t 29), none⟩]))
        (.region [0, 3] [
            ⟨some 20, .move (.t 0), none⟩,
            ⟨some 21, .bin .quo (.t 20) (.c (.p (.int .i64 10))), none⟩,
            ⟨some 0, .move (.t 21), none⟩])))
def fc37 : FC where
  nt := 31
  np := 1
  res := [.t 2]
  body :=
    (.seq
      (.region [0] [
          ⟨some 2, .move (.c (.p (.str []))), none⟩])
      (.seq
        (.seq
          (.region [0, 5] [
              ⟨some 4, .move (.t 0), none⟩,
              ⟨some 5, .bin .lss (.t 4) (.c (.p (.int .i64 0))), none⟩])
          (.cond (.t 5)
            (.seq
              (.region [2] [
                  ⟨some 6, .move (.t 0), none⟩,
                  ⟨some 7, .un .neg (.t 6), none⟩,
                  ⟨some 8, .call (.c (.fn 37 [] [])) [(.t 7)], none⟩,
                  ⟨some 9, .bin .add (.c (.p (.str [45]))) (.t 8), none⟩,
                  ⟨some 2, .move (.t 9), none⟩])
              .ret)
            .skip))
        (.seq
          (.region [0, 3] [
              ⟨some 10, .move (.t 0), none⟩,
              ⟨some 11, .bin .rem (.t 10) (.c (.p (.int .i64 10))), none⟩,
              ⟨some 12, .bin .add (.c (.p (.int .i64 48))) (.t 11), none⟩,
              ⟨some 13, .conv .u8 (.t 12), none⟩,
              ⟨some 14, .bslice 5 1 1 (.int .u8 0) [(0, (.t 13))], none⟩,
              ⟨some 15, .toStr (.t 14), none⟩,
              ⟨some 3, .move (.t 15), none⟩])
          (.seq
            (.seq
              (.region [0, 3] [
                  ⟨some 16, .move (.t 0), none⟩,
                  ⟨some 17, .bin .quo (.t 16) (.c (.p (.int .i64 10))), none⟩,
                  ⟨some 0, .move (.t 17), none⟩])
              (.block 0
                (.loop [0, 3]
                  fc37_b0)))
            (.seq
              (.region [2] [
                  ⟨some 30, .move (.t 3), none⟩,
                  ⟨some 2, .move (.t 30), none⟩])
              .ret)))))
theorem ok37 : FOk Tryz.prog 37 fc37 := FOk.of Tryz.func37 (by kernel_rfl)
def fc38 : FC where
  nt := 19
  np := 2
  res := [.t 4, .t 5]
  body :=
    (.seq
      (.region [0, 1] [
          ⟨some 4, .move (.c (.p (.int .i64 0))), none⟩,
          ⟨some 5, .move (.c (.p (.nili))), none⟩])
      (.seq
        (.region [0, 1] [
            ⟨some 6, .move (.t 0), none⟩,
            ⟨some 7, .call (.c (.fn 55 [] [])) [(.t 6)], none⟩])
        (.seq
          (.region [1] [
              ⟨some 8, .move (.t 0), none⟩,
              ⟨some 9, .move (.t 0), none⟩,
              ⟨some 10, .nilCheck (.t 9), none⟩,
              ⟨some 11, .faddr (.t 10) 1, none⟩,
              ⟨some 12, .load none (.t 11), none⟩,
              ⟨some 13, .move (.t 1), none⟩,
              ⟨some 14, .append 5 1 1 (.t 12) (.t 13), none⟩,
              ⟨some 15, .nilCheck (.t 8), none⟩,
              ⟨some 16, .faddr (.t 15) 1, none⟩,
              ⟨none, .store 1 (.t 16) (.t 14), none⟩])
          (.seq
            (.region [4, 5] [
                ⟨some 17, .move (.t 1), none⟩,
                ⟨some 18, .len 0 (.t 17), none⟩,
                ⟨some 4, .move (.t 18), none⟩,
                ⟨some 5, .move (.c (.p (.nili))), none⟩])
            .ret))))
theorem ok38 : FOk Tryz.prog 38 fc38 := FOk.of Tryz.func38 (by kernel_rfl)
def fc39 : FC where
  nt := 17
  np := 2
  res := [.t 4]
  body :=
    (.seq
      (.region [0, 1] [
          ⟨some 4, .move (.c (.p (.nili))), none⟩])
      (.seq
        (.region [0, 1] [
            ⟨some 5, .move (.t 0), none⟩,
            ⟨some 6, .call (.c (.fn 55 [] [])) [(.t 5)], none⟩])
        (.seq
          (.region [] [
              ⟨some 7, .move (.t 0), none⟩,
              ⟨some 8, .move (.t 0), none⟩,
              ⟨some 9, .nilCheck (.t 8), none⟩,
              ⟨some 10, .faddr (.t 9) 1, none⟩,
              ⟨some 11, .load none (.t 10), none⟩,
              ⟨some 12, .move (.t 1), none⟩,
              ⟨some 13, .bslice 5 1 1 (.int .u8 0) [(0, (.t 12))], none⟩,
              ⟨some 14, .append 5 1 1 (.t 11) (.t 13), none⟩,
              ⟨some 15, .nilCheck (.t 7), none⟩,
              ⟨some 16, .faddr (.t 15) 1, none⟩,
              ⟨none, .store 1 (.t 16) (.t 14), none⟩])
          (.seq
            (.region [4] [
                ⟨some 4, .move (.c (.p (.nili))), none⟩])
            .ret))))
theorem ok39 : FOk Tryz.prog 39 fc39 := FOk.of Tryz.func39 (by kernel_rfl)

end Go.Proofs.YtebbfckifhbkoaaGreatDoor

namespace Go.Proofs.YtebbfckifhbkoaaGreatDoor
open Go.Vs
def cs (s : String) : List UInt8 := s.toUTF8.toList
def rowL : List (List UInt8 × Int × Int × Bool) :=
  [([], 0, 0, false), ([115, 112, 101, 99], 0, 0, true), ([115, 99, 111, 112, 101], 1, 8, false), ([114, 117, 110], 0, 0, true), ([99, 104, 101, 99, 107], 0, 0, true), ([110, 101, 120, 116], 0, 0, false), ([101, 100, 105, 116], 4, 4, false), ([114, 101, 112, 97, 105, 114], 0, 0, false), ([99, 111, 114, 101], 0, 0, false), ([115, 104, 111, 119], 0, 0, false)]
def rowP (r : List UInt8 × Int × Int × Bool) : List PD := [.str r.1, .int .i64 r.2.1, .int .i64 r.2.2.1, .bool r.2.2.2]
def rowC : List PD := rowL.flatMap rowP
structure Cmd where
  kind : Nat
  text : List UInt8
  nums : List Int
deriving DecidableEq

instance : Inhabited Cmd := ⟨⟨0, [], []⟩⟩
def numS (s : List UInt8) : Option Int :=
  match Lib.atoiAll s with
  | .ok n => if Lib.itoa n = s ∧ (Lib.trimPrefix s [45]).length ≤ 9 then some n else none
  | _ => none
def numsL : List (List UInt8) → Option (List Int)
  | [] => some []
  | x :: r => match numS x with
    | some n => (numsL r).map (n :: ·)
    | none => none
def rowAt (i : Nat) : List UInt8 × Int × Int × Bool := rowL.getD i ([], 0, 0, false)
def kstep (w : List UInt8) (k i : Nat) : Nat := if 0 < i ∧ (rowAt i).1 = w then i else k
def kindOf (w : List UInt8) : Nat := (List.range 10).foldl (kstep w) 0
def cmdS (line : List UInt8) : Except Int Cmd :=
  match spl 32 line with
  | [] => .error 360
  | w :: r =>
    if kindOf w = 0 then .error 360
    else if (r.length : Int) < (rowAt (kindOf w)).2.1 ∨ (rowAt (kindOf w)).2.2.1 < (r.length : Int) then .error 340
    else match numsL r with
      | some l => .ok ⟨kindOf w, [], l⟩
      | none => .error 340
def addT (l : List Cmd) (t : List UInt8) : List Cmd :=
  match l.getLast? with
  | some c => l.dropLast ++ [{ c with text := c.text ++ t }]
  | none => l
def parL : List (Nat × List UInt8) → List Cmd → Nat → Except (Int × Nat) (List Cmd)
  | [], out, _ => .ok out
  | (n, x) :: r, out, k =>
    match x with
    | [] => parL r out k
    | b :: t =>
      if b ≠ 124 then (match cmdS x with
        | .error e => .error (e, n)
        | .ok c => if 200 ≤ out.length then .error (2, n) else parL r (out ++ [c]) 0)
      else match out.getLast? with
        | none => .error (340, n)
        | some c => if (rowAt c.kind).2.2.2 then parL r (addT out ((if 0 < k then [10] else []) ++ t)) (k + 1) else .error (340, n)
def parse (s : List UInt8) : Except (Int × Nat) (List Cmd) :=
  if 65536 < s.length then .error (2, 0) else parL (lns 0 (spl 10 s)) [] 0
def cmdP (c : Cmd) : PD := .agg [.int .i64 (c.kind : Int), .str c.text, .slice 1 (c.nums.map fun n => .int .i64 n)]
def cmdsP (l : List Cmd) : PD := if l = [] then .nils else .slice 3 (l.map cmdP)
def parV (s : List UInt8) : D :=
  match parse s with
  | .ok l => .tup [.p (cmdsP l), .p (.int .i64 0), .p (.int .i64 0)]
  | .error (e, n) => .tup [.p .nils, .p (.int .i64 e), .p (.int .i64 (n : Int))]
def atoiV (s : List UInt8) : D :=
  match Lib.atoiAll s with
  | .ok n => .tup [.p (.int .i64 n), .p .nili]
  | Lib.NumEnd.syntax => .tup [.p (.int .i64 0), .ifc 252 .dead]
  | .range => .tup [.p (.int .i64 (Lib.atoiSat s)), .ifc 252 .dead]

end Go.Proofs.YtebbfckifhbkoaaGreatDoor

namespace Go.Proofs.YtebbfckifhbkoaaGreatDoor
open Go.Vs
def pgL0 : CallR := fun f args H =>
  match f, args with
  | 32, [.p (.int .i64 n)] => if -9223372036854775808 ≤ n ∧ n ≤ 9223372036854775807 then some (.val (.p (.str (Lib.itoa n))), H) else none
  | 34, [.p (.str s), .p (.str [c])] => if s.length < 4294967281 then some (.val (.p (.slice 1 ((spl c s).map .str))), H) else none
  | 40, [.p (.str s), .p (.str [c]), .p (.str t)] => if s.length < 4294967281 ∧ s.length + s.length * t.length ≤ 140737488355328 then some (.val (.p (.str (Lib.replaceAll s [c] t))), H) else none
  | 53, [.p (.str s)] => if s.length ≤ 281474976710656 then some (.val (atoiV s), H) else none
  | 54, [.p (.str s), .p (.str p)] => some (.val (.p (.str (Lib.trimPrefix s p))), H)
  | 55, [.box 0 0] => match H.bx with
    | (.fresh 62 2 0 :: r) :: l => some (.val .undef, { H with bx := (.box 0 0 :: r) :: l })
    | (.box 0 0 :: _) :: _ => some (.val .undef, H)
    | _ => none
  | _, _ => none
def pgL : CallR := fun f args H =>
  match f, args, H with
  | 11, [.p (.str s)], ⟨[], []⟩ => if s.length ≤ 4294967281 then some (.val (parV s), ⟨[], []⟩) else none
  | f, args, H => pgL0 f args H
def pgF : Nat → Option FC
  | 3 => some fc3 | 4 => some fc4 | 5 => some fc5 | 6 => some fc6 | 7 => some fc7 | 8 => some fc8 | 9 => some fc9 | 10 => some fc10
  | 12 => some fc12 | 13 => some fc13 | 14 => some fc14 | 15 => some fc15 | 16 => some fc16 | 17 => some fc17 | 18 => some fc18 | 19 => some fc19 | 20 => some fc20
  | 22 => some fc22 | 23 => some fc23 | 24 => some fc24 | 25 => some fc25 | 26 => some fc26 | 27 => some fc27 | 28 => some fc28 | 29 => some fc29 | 30 => some fc30
  | 35 => some fc35 | 36 => some fc36 | 37 => some fc37 | 38 => some fc38 | 39 => some fc39
  | _ => none
def pgD : Nat → Option (Nat × FC)
  | 21 => some (3, fc21)
  | _ => none
def pgG : Nat → Option (List PD)
  | 0 => some rowC
  | _ => none
def pg0 : Pg := ⟨pgF, pgG, pgL0, pgD⟩
def pg : Pg := ⟨pgF, pgG, pgL, pgD⟩
def isTrue : Option (Res × Hp) → Bool
  | some (.val (.p (.bool b)), _) => b
  | _ => false

end Go.Proofs.YtebbfckifhbkoaaGreatDoor

namespace Go.Proofs.YtebbfckifhbkoaaGreatDoor
open Go.Proofs
def ren101 : Go.Shelf.Ren where
  f := fun | 101 => 54 | 208 => 78 | 206 => 145 | n => n
  t := fun | 9 => 9 | 4 => 4 | 3 => 3 | n => n
  g := fun n => n
theorem lays101 : Go.Proofs.Lays.n101 Tryz.prog ren101 where
  mixed := by kernel_rfl
  f101 := Tryz.func54.trans (by kernel_rfl)
  f206 := Tryz.func145.trans (by kernel_rfl)
  f208 := Tryz.func78.trans (by kernel_rfl)
  t3 := Tryz.underlying3
  a3 := Tryz.isAgg3
  z3 := Tryz.sizeOf3
  v3 := Tryz.zeroValue3
  t4 := Tryz.underlying4
  a4 := Tryz.isAgg4
  z4 := Tryz.sizeOf4
  v4 := Tryz.zeroValue4
  t9 := Tryz.underlying9
  a9 := Tryz.isAgg9
  z9 := Tryz.sizeOf9
  v9 := Tryz.zeroValue9
def ren146 : Go.Shelf.Ren where
  f := fun | 146 => 34 | 221 => 52 | 268 => 73 | 138 => 74 | 143 => 75 | 195 => 137 | 197 => 81 | 218 => 138 | 219 => 139 | 260 => 147 | 217 => 232 | 225 => 233 | 224 => 234 | 267 => 235 | 266 => 309 | 314 => 310 | n => n
  t := fun | 9 => 9 | 31 => 39 | 3 => 3 | 4 => 4 | 0 => 0 | 105 => 147 | 21 => 21 | 5 => 5 | 46 => 321 | 119 => 347 | 139 => 350 | 138 => 349 | 146 => 439 | 51 => 338 | n => n
  g := fun | 1 => 2 | 3 => 5 | 4 => 6 | n => n
theorem lays146 : Go.Proofs.Lays.n146 Tryz.prog ren146 where
  mixed := by kernel_rfl
  f138 := Tryz.func74.trans (by kernel_rfl)
  f143 := Tryz.func75.trans (by kernel_rfl)
  f146 := Tryz.func34.trans (by kernel_rfl)
  f195 := Tryz.func137.trans (by kernel_rfl)
  f197 := Tryz.func81.trans (by kernel_rfl)
  f217 := Tryz.func232.trans (by kernel_rfl)
  f218 := Tryz.func138.trans (by kernel_rfl)
  f219 := Tryz.func139.trans (by kernel_rfl)
  f221 := Tryz.func52.trans (by kernel_rfl)
  f224 := Tryz.func234.trans (by kernel_rfl)
  f225 := Tryz.func233.trans (by kernel_rfl)
  f260 := Tryz.func147.trans (by kernel_rfl)
  f266 := Tryz.func309.trans (by kernel_rfl)
  f267 := Tryz.func235.trans (by kernel_rfl)
  f268 := Tryz.func73.trans (by kernel_rfl)
  f314 := Tryz.func310.trans (by kernel_rfl)
  t0 := Tryz.underlying0
  a0 := Tryz.isAgg0
  z0 := Tryz.sizeOf0
  v0 := Tryz.zeroValue0
  t3 := Tryz.underlying3
  a3 := Tryz.isAgg3
  z3 := Tryz.sizeOf3
  v3 := Tryz.zeroValue3
  t4 := Tryz.underlying4
  a4 := Tryz.isAgg4
  z4 := Tryz.sizeOf4
  v4 := Tryz.zeroValue4
  t5 := Tryz.underlying5
  a5 := Tryz.isAgg5
  z5 := Tryz.sizeOf5
  v5 := Tryz.zeroValue5
  t9 := Tryz.underlying9
  a9 := Tryz.isAgg9
  z9 := Tryz.sizeOf9
  v9 := Tryz.zeroValue9
  t21 := Tryz.underlying21
  a21 := Tryz.isAgg21
  z21 := Tryz.sizeOf21
  v21 := Tryz.zeroValue21
  t31 := Tryz.underlying39
  a31 := Tryz.isAgg39
  z31 := Tryz.sizeOf39
  v31 := Tryz.zeroValue39
  t46 := Tryz.underlying321
  a46 := Tryz.isAgg321
  z46 := Tryz.sizeOf321
  v46 := Tryz.zeroValue321
  t51 := Tryz.underlying338
  a51 := Tryz.isAgg338
  z51 := Tryz.sizeOf338
  v51 := Tryz.zeroValue338
  t105 := Tryz.underlying147
  a105 := Tryz.isAgg147
  z105 := Tryz.sizeOf147
  v105 := Tryz.zeroValue147
  t119 := Tryz.underlying347
  a119 := Tryz.isAgg347
  z119 := Tryz.sizeOf347
  t138 := Tryz.underlying349
  a138 := Tryz.isAgg349
  z138 := Tryz.sizeOf349
  v138 := Tryz.zeroValue349
  t139 := Tryz.underlying350
  a139 := Tryz.isAgg350
  z139 := Tryz.sizeOf350
  v139 := Tryz.zeroValue350
  t146 := Tryz.underlying439
  a146 := Tryz.isAgg439
  z146 := Tryz.sizeOf439
  v146 := Tryz.zeroValue439
  g1 := by kernel_rfl
  g3 := by kernel_rfl
  g4 := by kernel_rfl
def ren155 : Go.Shelf.Ren where
  f := fun | 155 => 40 | 154 => 56 | 138 => 74 | 165 => 80 | 143 => 75 | 166 => 38 | 197 => 81 | 169 => 28 | 195 => 137 | 218 => 138 | 240 => 55 | 241 => 146 | 219 => 139 | 260 => 147 | 276 => 79 | 277 => 239 | 217 => 232 | 225 => 233 | 224 => 234 | 267 => 235 | 266 => 309 | 314 => 310 | n => n
  t := fun | 9 => 9 | 3 => 3 | 4 => 4 | 72 => 62 | 0 => 0 | 76 => 77 | 105 => 147 | 21 => 21 | 5 => 5 | 70 => 60 | 20 => 20 | 37 => 42 | 75 => 76 | 127 => 81 | 164 => 144 | 46 => 321 | 119 => 347 | 139 => 350 | 138 => 349 | 146 => 439 | 51 => 338 | 80 => 64 | n => n
  g := fun | 1 => 2 | 3 => 5 | 4 => 6 | n => n
theorem lays155 : Go.Proofs.Lays.n155 Tryz.prog ren155 where
  mixed := by kernel_rfl
  f138 := Tryz.func74.trans (by kernel_rfl)
  f143 := Tryz.func75.trans (by kernel_rfl)
  f154 := Tryz.func56.trans (by kernel_rfl)
  f155 := Tryz.func40.trans (by kernel_rfl)
  f165 := Tryz.func80.trans (by kernel_rfl)
  f166 := Tryz.func38.trans (by kernel_rfl)
  f169 := Tryz.func28.trans (by kernel_rfl)
  f195 := Tryz.func137.trans (by kernel_rfl)
  f197 := Tryz.func81.trans (by kernel_rfl)
  f217 := Tryz.func232.trans (by kernel_rfl)
  f218 := Tryz.func138.trans (by kernel_rfl)
  f219 := Tryz.func139.trans (by kernel_rfl)
  f224 := Tryz.func234.trans (by kernel_rfl)
  f225 := Tryz.func233.trans (by kernel_rfl)
  f240 := Tryz.func55.trans (by kernel_rfl)
  f241 := Tryz.func146.trans (by kernel_rfl)
  f260 := Tryz.func147.trans (by kernel_rfl)
  f266 := Tryz.func309.trans (by kernel_rfl)
  f267 := Tryz.func235.trans (by kernel_rfl)
  f276 := Tryz.func79.trans (by kernel_rfl)
  f277 := Tryz.func239.trans (by kernel_rfl)
  f314 := Tryz.func310.trans (by kernel_rfl)
  t0 := Tryz.underlying0
  a0 := Tryz.isAgg0
  z0 := Tryz.sizeOf0
  v0 := Tryz.zeroValue0
  t3 := Tryz.underlying3
  a3 := Tryz.isAgg3
  z3 := Tryz.sizeOf3
  v3 := Tryz.zeroValue3
  t4 := Tryz.underlying4
  a4 := Tryz.isAgg4
  z4 := Tryz.sizeOf4
  v4 := Tryz.zeroValue4
  t5 := Tryz.underlying5
  a5 := Tryz.isAgg5
  z5 := Tryz.sizeOf5
  v5 := Tryz.zeroValue5
  t9 := Tryz.underlying9
  a9 := Tryz.isAgg9
  z9 := Tryz.sizeOf9
  v9 := Tryz.zeroValue9
  t20 := Tryz.underlying20
  a20 := Tryz.isAgg20
  z20 := Tryz.sizeOf20
  v20 := Tryz.zeroValue20
  t21 := Tryz.underlying21
  a21 := Tryz.isAgg21
  z21 := Tryz.sizeOf21
  v21 := Tryz.zeroValue21
  t37 := Tryz.underlying42
  a37 := Tryz.isAgg42
  z37 := Tryz.sizeOf42
  v37 := Tryz.zeroValue42
  t46 := Tryz.underlying321
  a46 := Tryz.isAgg321
  z46 := Tryz.sizeOf321
  v46 := Tryz.zeroValue321
  t51 := Tryz.underlying338
  a51 := Tryz.isAgg338
  z51 := Tryz.sizeOf338
  v51 := Tryz.zeroValue338
  t70 := Tryz.underlying60
  a70 := Tryz.isAgg60
  z70 := Tryz.sizeOf60
  v70 := Tryz.zeroValue60
  t72 := Tryz.underlying62
  a72 := Tryz.isAgg62
  z72 := Tryz.sizeOf62
  v72 := Tryz.zeroValue62
  t75 := Tryz.underlying76
  a75 := Tryz.isAgg76
  z75 := Tryz.sizeOf76
  v75 := Tryz.zeroValue76
  t76 := Tryz.underlying77
  a76 := Tryz.isAgg77
  z76 := Tryz.sizeOf77
  v76 := Tryz.zeroValue77
  t105 := Tryz.underlying147
  a105 := Tryz.isAgg147
  z105 := Tryz.sizeOf147
  v105 := Tryz.zeroValue147
  t119 := Tryz.underlying347
  a119 := Tryz.isAgg347
  z119 := Tryz.sizeOf347
  t127 := Tryz.underlying81
  a127 := Tryz.isAgg81
  z127 := Tryz.sizeOf81
  v127 := Tryz.zeroValue81
  t138 := Tryz.underlying349
  a138 := Tryz.isAgg349
  z138 := Tryz.sizeOf349
  v138 := Tryz.zeroValue349
  t139 := Tryz.underlying350
  a139 := Tryz.isAgg350
  z139 := Tryz.sizeOf350
  v139 := Tryz.zeroValue350
  t146 := Tryz.underlying439
  a146 := Tryz.isAgg439
  z146 := Tryz.sizeOf439
  v146 := Tryz.zeroValue439
  t164 := Tryz.underlying144
  a164 := Tryz.isAgg144
  z164 := Tryz.sizeOf144
  v164 := Tryz.zeroValue144
  g1 := by kernel_rfl
  g3 := by kernel_rfl
  g4 := by kernel_rfl
def ren171 : Go.Shelf.Ren where
  f := fun | 171 => 32 | 243 => 51 | 246 => 72 | 283 => 133 | 284 => 134 | 285 => 135 | 286 => 136 | 129 => 228 | 317 => 227 | 318 => 229 | 319 => 230 | 320 => 231 | 337 => 307 | 338 => 308 | n => n
  t := fun | 3 => 3 | 9 => 9 | 2 => 2 | 4 => 4 | 171 => 242 | 0 => 0 | 53 => 243 | 37 => 42 | 5 => 5 | 173 => 246 | 212 => 337 | 51 => 338 | 20 => 20 | 213 => 339 | 46 => 321 | 232 => 519 | 233 => 520 | n => n
  g := fun | 17 => 1 | 18 => 7 | 19 => 8 | n => n
theorem lays171 : Go.Proofs.LaysM.n171 Tryz.prog ren171 where
  mixed := by kernel_rfl
  f129 := Tryz.func228.trans (by kernel_rfl)
  f171 := Tryz.func32.trans (by kernel_rfl)
  f243 := Tryz.func51.trans (by kernel_rfl)
  f246 := Tryz.func72.trans (by kernel_rfl)
  f283 := Tryz.func133.trans (by kernel_rfl)
  f284 := Tryz.func134.trans (by kernel_rfl)
  f285 := Tryz.func135.trans (by kernel_rfl)
  f286 := Tryz.func136.trans (by kernel_rfl)
  f317 := Tryz.func227.trans (by kernel_rfl)
  f318 := Tryz.func229.trans (by kernel_rfl)
  f319 := Tryz.func230.trans (by kernel_rfl)
  f320 := Tryz.func231.trans (by kernel_rfl)
  f337 := Tryz.func307.trans (by kernel_rfl)
  f338 := Tryz.func308.trans (by kernel_rfl)
  t0 := Tryz.underlying0
  a0 := Tryz.isAgg0
  z0 := Tryz.sizeOf0
  v0 := Tryz.zeroValue0
  t2 := Tryz.underlying2
  a2 := Tryz.isAgg2
  z2 := Tryz.sizeOf2
  v2 := Tryz.zeroValue2
  t3 := Tryz.underlying3
  a3 := Tryz.isAgg3
  z3 := Tryz.sizeOf3
  v3 := Tryz.zeroValue3
  t4 := Tryz.underlying4
  a4 := Tryz.isAgg4
  z4 := Tryz.sizeOf4
  v4 := Tryz.zeroValue4
  t5 := Tryz.underlying5
  a5 := Tryz.isAgg5
  z5 := Tryz.sizeOf5
  v5 := Tryz.zeroValue5
  t9 := Tryz.underlying9
  a9 := Tryz.isAgg9
  z9 := Tryz.sizeOf9
  v9 := Tryz.zeroValue9
  t20 := Tryz.underlying20
  a20 := Tryz.isAgg20
  z20 := Tryz.sizeOf20
  v20 := Tryz.zeroValue20
  t37 := Tryz.underlying42
  a37 := Tryz.isAgg42
  z37 := Tryz.sizeOf42
  v37 := Tryz.zeroValue42
  t46 := Tryz.underlying321
  a46 := Tryz.isAgg321
  z46 := Tryz.sizeOf321
  v46 := Tryz.zeroValue321
  t51 := Tryz.underlying338
  a51 := Tryz.isAgg338
  z51 := Tryz.sizeOf338
  v51 := Tryz.zeroValue338
  t53 := Tryz.underlying243
  a53 := Tryz.isAgg243
  z53 := Tryz.sizeOf243
  v53 := Tryz.zeroValue243
  t171 := Tryz.underlying242
  a171 := Tryz.isAgg242
  z171 := Tryz.sizeOf242
  v171 := Tryz.zeroValue242
  t173 := Tryz.underlying246
  a173 := Tryz.isAgg246
  z173 := Tryz.sizeOf246
  v173 := Tryz.zeroValue246
  t212 := Tryz.underlying337
  a212 := Tryz.isAgg337
  z212 := Tryz.sizeOf337
  v212 := Tryz.zeroValue337
  t213 := Tryz.underlying339
  a213 := Tryz.isAgg339
  z213 := Tryz.sizeOf339
  t232 := Tryz.underlying519
  a232 := Tryz.isAgg519
  z232 := Tryz.sizeOf519
  v232 := Tryz.zeroValue519
  t233 := Tryz.underlying520
  a233 := Tryz.isAgg520
  z233 := Tryz.sizeOf520
  v233 := Tryz.zeroValue520
  g17 := by kernel_rfl
  g18 := by kernel_rfl
  g19 := by kernel_rfl
  i0 := by kernel_rfl
  i2 := by kernel_rfl
  i3 := by kernel_rfl
  i4 := by kernel_rfl
  i5 := by kernel_rfl
  i9 := by kernel_rfl
  i20 := by kernel_rfl
  i37 := by kernel_rfl
  i46 := by kernel_rfl
  i51 := by kernel_rfl
  i53 := by kernel_rfl
  i173 := by kernel_rfl
  m17 := by kernel_rfl
  m18 := by kernel_rfl
  m19 := by kernel_rfl
  i171 := by kernel_rfl
  i212 := by kernel_rfl
  i232 := by kernel_rfl
  i233 := by kernel_rfl
def ren172 : Go.Shelf.Ren where
  f := fun | 172 => 53 | 244 => 76 | 245 => 77 | 247 => 140 | 279 => 141 | 280 => 142 | 281 => 143 | 282 => 144 | 287 => 236 | 316 => 237 | 171 => 32 | 205 => 238 | 321 => 311 | 322 => 312 | 243 => 51 | 246 => 72 | 283 => 133 | 284 => 134 | 285 => 135 | 286 => 136 | 129 => 228 | 317 => 227 | 318 => 229 | 319 => 230 | 320 => 231 | 337 => 307 | 338 => 308 | n => n
  t := fun | 9 => 9 | 3 => 3 | 75 => 76 | 76 => 77 | 4 => 4 | 5 => 5 | 167 => 249 | 37 => 42 | 0 => 0 | 85 => 250 | 2 => 2 | 168 => 252 | 53 => 243 | 175 => 341 | 46 => 321 | 210 => 344 | 127 => 81 | 145 => 444 | 143 => 442 | 21 => 21 | 171 => 242 | 173 => 246 | 212 => 337 | 51 => 338 | 20 => 20 | 213 => 339 | 232 => 519 | 233 => 520 | 80 => 64 | n => n
  g := fun | 15 => 3 | 16 => 4 | 17 => 1 | 18 => 7 | 19 => 8 | n => n
theorem lays172 : Go.Proofs.LaysC.n172 Tryz.prog ren172 where
  mixed := by kernel_rfl
  f129 := Tryz.func228.trans (by kernel_rfl)
  f171 := Tryz.func32.trans (by kernel_rfl)
  f172 := Tryz.func53.trans (by kernel_rfl)
  f205 := Tryz.func238.trans (by kernel_rfl)
  f243 := Tryz.func51.trans (by kernel_rfl)
  f244 := Tryz.func76.trans (by kernel_rfl)
  f245 := Tryz.func77.trans (by kernel_rfl)
  f246 := Tryz.func72.trans (by kernel_rfl)
  f247 := Tryz.func140.trans (by kernel_rfl)
  f279 := Tryz.func141.trans (by kernel_rfl)
  f280 := Tryz.func142.trans (by kernel_rfl)
  f281 := Tryz.func143.trans (by kernel_rfl)
  f282 := Tryz.func144.trans (by kernel_rfl)
  f283 := Tryz.func133.trans (by kernel_rfl)
  f284 := Tryz.func134.trans (by kernel_rfl)
  f285 := Tryz.func135.trans (by kernel_rfl)
  f286 := Tryz.func136.trans (by kernel_rfl)
  f287 := Tryz.func236.trans (by kernel_rfl)
  f316 := Tryz.func237.trans (by kernel_rfl)
  f317 := Tryz.func227.trans (by kernel_rfl)
  f318 := Tryz.func229.trans (by kernel_rfl)
  f319 := Tryz.func230.trans (by kernel_rfl)
  f320 := Tryz.func231.trans (by kernel_rfl)
  f321 := Tryz.func311.trans (by kernel_rfl)
  f322 := Tryz.func312.trans (by kernel_rfl)
  f337 := Tryz.func307.trans (by kernel_rfl)
  f338 := Tryz.func308.trans (by kernel_rfl)
  t0 := Tryz.underlying0
  a0 := Tryz.isAgg0
  z0 := Tryz.sizeOf0
  v0 := Tryz.zeroValue0
  t2 := Tryz.underlying2
  a2 := Tryz.isAgg2
  z2 := Tryz.sizeOf2
  v2 := Tryz.zeroValue2
  t3 := Tryz.underlying3
  a3 := Tryz.isAgg3
  z3 := Tryz.sizeOf3
  v3 := Tryz.zeroValue3
  t4 := Tryz.underlying4
  a4 := Tryz.isAgg4
  z4 := Tryz.sizeOf4
  v4 := Tryz.zeroValue4
  t5 := Tryz.underlying5
  a5 := Tryz.isAgg5
  z5 := Tryz.sizeOf5
  v5 := Tryz.zeroValue5
  t9 := Tryz.underlying9
  a9 := Tryz.isAgg9
  z9 := Tryz.sizeOf9
  v9 := Tryz.zeroValue9
  t20 := Tryz.underlying20
  a20 := Tryz.isAgg20
  z20 := Tryz.sizeOf20
  v20 := Tryz.zeroValue20
  t21 := Tryz.underlying21
  a21 := Tryz.isAgg21
  z21 := Tryz.sizeOf21
  v21 := Tryz.zeroValue21
  t37 := Tryz.underlying42
  a37 := Tryz.isAgg42
  z37 := Tryz.sizeOf42
  v37 := Tryz.zeroValue42
  t46 := Tryz.underlying321
  a46 := Tryz.isAgg321
  z46 := Tryz.sizeOf321
  v46 := Tryz.zeroValue321
  t51 := Tryz.underlying338
  a51 := Tryz.isAgg338
  z51 := Tryz.sizeOf338
  v51 := Tryz.zeroValue338
  t53 := Tryz.underlying243
  a53 := Tryz.isAgg243
  z53 := Tryz.sizeOf243
  v53 := Tryz.zeroValue243
  t75 := Tryz.underlying76
  a75 := Tryz.isAgg76
  z75 := Tryz.sizeOf76
  v75 := Tryz.zeroValue76
  t76 := Tryz.underlying77
  a76 := Tryz.isAgg77
  z76 := Tryz.sizeOf77
  v76 := Tryz.zeroValue77
  t85 := Tryz.underlying250
  a85 := Tryz.isAgg250
  z85 := Tryz.sizeOf250
  v85 := Tryz.zeroValue250
  t127 := Tryz.underlying81
  a127 := Tryz.isAgg81
  z127 := Tryz.sizeOf81
  v127 := Tryz.zeroValue81
  t143 := Tryz.underlying442
  a143 := Tryz.isAgg442
  z143 := Tryz.sizeOf442
  v143 := Tryz.zeroValue442
  t145 := Tryz.underlying444
  a145 := Tryz.isAgg444
  z145 := Tryz.sizeOf444
  v145 := Tryz.zeroValue444
  t167 := Tryz.underlying249
  a167 := Tryz.isAgg249
  z167 := Tryz.sizeOf249
  v167 := Tryz.zeroValue249
  t168 := Tryz.underlying252
  a168 := Tryz.isAgg252
  z168 := Tryz.sizeOf252
  v168 := Tryz.zeroValue252
  t171 := Tryz.underlying242
  a171 := Tryz.isAgg242
  z171 := Tryz.sizeOf242
  v171 := Tryz.zeroValue242
  t173 := Tryz.underlying246
  a173 := Tryz.isAgg246
  z173 := Tryz.sizeOf246
  v173 := Tryz.zeroValue246
  t175 := Tryz.underlying341
  a175 := Tryz.isAgg341
  z175 := Tryz.sizeOf341
  v175 := Tryz.zeroValue341
  t210 := Tryz.underlying344
  a210 := Tryz.isAgg344
  z210 := Tryz.sizeOf344
  v210 := Tryz.zeroValue344
  t212 := Tryz.underlying337
  a212 := Tryz.isAgg337
  z212 := Tryz.sizeOf337
  v212 := Tryz.zeroValue337
  t213 := Tryz.underlying339
  a213 := Tryz.isAgg339
  z213 := Tryz.sizeOf339
  t232 := Tryz.underlying519
  a232 := Tryz.isAgg519
  z232 := Tryz.sizeOf519
  v232 := Tryz.zeroValue519
  t233 := Tryz.underlying520
  a233 := Tryz.isAgg520
  z233 := Tryz.sizeOf520
  v233 := Tryz.zeroValue520
  g15 := by kernel_rfl
  g16 := by kernel_rfl
  g17 := by kernel_rfl
  g18 := by kernel_rfl
  g19 := by kernel_rfl
  t80 := Tryz.underlying64
  a80 := Tryz.isAgg64
  z80 := Tryz.sizeOf64
  v80 := Tryz.zeroValue64
  i0 := by kernel_rfl
  i2 := by kernel_rfl
  i3 := by kernel_rfl
  i4 := by kernel_rfl
  i5 := by kernel_rfl
  i9 := by kernel_rfl
  i20 := by kernel_rfl
  i21 := by kernel_rfl
  i37 := by kernel_rfl
  i46 := by kernel_rfl
  i51 := by kernel_rfl
  i53 := by kernel_rfl
  i75 := by kernel_rfl
  i76 := by kernel_rfl
  i80 := by kernel_rfl
  i85 := by kernel_rfl
  i127 := by kernel_rfl
  i143 := by kernel_rfl
  i145 := by kernel_rfl
  i167 := by kernel_rfl
  i168 := by kernel_rfl
  i173 := by kernel_rfl
  i175 := by kernel_rfl
  m15 := by kernel_rfl
  m16 := by kernel_rfl
  m17 := by kernel_rfl
  m18 := by kernel_rfl
  m19 := by kernel_rfl
  c0 := by kernel_rfl
  c2 := by kernel_rfl
  c3 := by kernel_rfl
  c4 := by kernel_rfl
  c5 := by kernel_rfl
  c9 := by kernel_rfl
  c20 := by kernel_rfl
  c21 := by kernel_rfl
  c37 := by kernel_rfl
  c46 := by kernel_rfl
  c51 := by kernel_rfl
  c53 := by kernel_rfl
  c75 := by kernel_rfl
  c76 := by kernel_rfl
  c80 := by kernel_rfl
  c85 := by kernel_rfl
  c127 := by kernel_rfl
  c143 := by kernel_rfl
  c145 := by kernel_rfl
  c167 := by kernel_rfl
  c168 := by kernel_rfl
  c171 := by kernel_rfl
  c173 := by kernel_rfl
  c175 := by kernel_rfl
  c210 := by kernel_rfl
  c212 := by kernel_rfl
  c213 := by kernel_rfl
  c232 := by kernel_rfl
  c233 := by kernel_rfl
  i171 := by kernel_rfl
  i210 := by kernel_rfl
  i212 := by kernel_rfl
  i232 := by kernel_rfl
  i233 := by kernel_rfl
theorem xtra : Builder.Extra Tryz.prog ren155 where
  sizeBuilder := by kernel_rfl
  liesBuilder := by kernel_rfl
  t5 := Tryz.underlying5
  a5 := Tryz.isAgg5
  z5 := Tryz.sizeOf5
  v5 := Tryz.zeroValue5
  infoByte := by kernel_rfl
  cellsByte := by kernel_rfl
  sizeByte := by kernel_rfl
  neB5 := by decide
theorem sizeB : (Tryz.prog.info? 62).map (·.size) = some 2 := by kernel_rfl

set_option maxHeartbeats 1000000 in
set_option maxRecDepth 100000 in
theorem cc_used (b : Nat) (w : World) (h0 : w.cell? ⟨b, 0, none⟩ = some (.pointer (some ⟨b, 0, none⟩))) :
    Calls Tryz.prog 55 #[.pointer (some ⟨b, 0, none⟩)] w fun e w' => e = .returned (.tuple #[]) ∧ w' = w := by
  obtain ⟨j, hj, _⟩ := Option.map_eq_some_iff.1 sizeB
  have t60 := Tryz.underlying60; have a60 := Tryz.isAgg60; have z60 := Tryz.sizeOf60; have v60 := Tryz.zeroValue60; have u60 := run_underlying Tryz.underlying60
  go_enter Tryz.func55, Tryz.ntmps55
  go_wp2
  rw [Lib.run_neq_ptr_same w _ Tryz.underlying60 hj]
  go_wp2
  go_end0
  exact ⟨rfl, rfl⟩

set_option maxHeartbeats 1000000 in
set_option maxRecDepth 100000 in
theorem cc_fresh (b : Nat) (w : World) (h0 : w.cell? ⟨b, 0, none⟩ = some (.pointer none)) (hsh : w.shape? b = some (62, 2)) (hfz : w.frozen? ⟨b, 0, none⟩ = false) :
    Calls Tryz.prog 55 #[.pointer (some ⟨b, 0, none⟩)] w fun e w' => e = .returned (.tuple #[]) ∧ w' = w.setCell ⟨b, 0, none⟩ (.pointer (some ⟨b, 0, none⟩)) := by
  obtain ⟨j, hj, hjs⟩ := Option.map_eq_some_iff.1 sizeB
  have t60 := Tryz.underlying60; have a60 := Tryz.isAgg60; have z60 := Tryz.sizeOf60; have v60 := Tryz.zeroValue60; have u60 := run_underlying Tryz.underlying60
  have t144 := Tryz.underlying144; have a144 := Tryz.isAgg144; have z144 := Tryz.sizeOf144; have v144 := Tryz.zeroValue144; have u144 := run_underlying Tryz.underlying144
  go_enter Tryz.func55, Tryz.ntmps55
  go_wp2
  rw [Lib.run_to_unsafe w ⟨b, 0, none⟩ Tryz.underlying60 Tryz.underlying144 hj (by rw [hjs]; decide) hsh (Nat.zero_lt_succ 1)]
  simp only [Result.andThen]
  rw [Oper.upon_value]
  go_wp2
  rw [run_callFunc_extern Tryz.func79 (by kernel_rfl) (by kernel_rfl) (by kernel_rfl) (e := Extern.AbiNoEscape.same) (by kernel_rfl)]
  rw [Lib.run_noEscape]
  simp only [Result.andThen]
  rw [Oper.upon_value]
  go_wp2
  rw [Lib.run_from_unsafe w ⟨b, 0, none⟩ Tryz.underlying144 Tryz.underlying60 hj hsh (by kernel_rfl)]
  simp only [Result.andThen]
  rw [Oper.upon_value]
  go_wp2
  go_end0
  exact ⟨rfl, rfl⟩

end Go.Proofs.YtebbfckifhbkoaaGreatDoor

namespace Go.Proofs.YtebbfckifhbkoaaGreatDoor
open Go.Vs Go.RowKit Go.Shelf

attribute [local go_sem] Oper.semAt_some
def lnV (x : Nat × List UInt8) : Array Value := #[.int .i64 (x.1 : Int), .string ⟨x.2.toArray⟩]
theorem split_cells (s : List UInt8) (c : UInt8) : (Lib.splitB ⟨#[c]⟩ 0 (Lib.countB ⟨s.toArray⟩ ⟨#[c]⟩) ⟨s.toArray⟩).map Value.string = (spl c s).map fun x => Value.string ⟨x.toArray⟩ := by
  rw [← splitB_spl s c, List.map_map]
  rfl
theorem split_num (s : List UInt8) (c : UInt8) : Lib.countB ⟨s.toArray⟩ ⟨#[c]⟩ + 1 = (spl c s).length := by
  rw [← splitB_spl s c, List.length_map]
  exact (Lib.splitB_all ⟨#[c]⟩ (Nat.le_refl 1) 0 _ ⟨s.toArray⟩ rfl).symm
def RowAt (ws : List (List UInt8)) (b : Nat) (w : World) : Prop := ∀ (j : Nat) x, ws[j]? = some x → w.cell? ⟨b, j, none⟩ = some (.string ⟨x.toArray⟩)
theorem RowAt.step {ws : List (List UInt8)} {b : Nat} {w : World} (h : RowAt ws b w) {i : Nat} (hi : i < ws.length) : ∃ x, w.cell? ⟨b, i, none⟩ = some (.string ⟨x.toArray⟩) ∧ lns i (ws.drop i) = lns i (x :: ws.drop (i + 1)) := by
  refine ⟨ws[i], h i _ (List.getElem?_eq_getElem hi), ?_⟩
  rw [← List.drop_eq_getElem_cons hi]
def restN (n : Nat) : Value → Nat
  | .int _ i => n - i.toNat
  | _ => 0

variable {W : World} {G : Nat → Option (List PD)}

set_option maxRecDepth 100000 in
set_option maxHeartbeats 2000000 in
theorem walk33 (F : Fence) (n : Nat) (h33 : F.fn 33) (h34 : F.fn 34) (hro : F.round = none) (hn : 1 ≤ n) (ws : List (List UInt8)) (hlen : ws.length ≤ 4294967281) (s : List UInt8) (l B : Nat) (J : Nat → (Nat → Prop) → World → Prop) (X : Ending → World → Prop) (w0 : World)
    (hc : w0.cell? ⟨B, 0, none⟩ = some (.string ⟨s.toArray⟩))
    (hsp : CallsIn F (n - 1) Tryz.prog 34 #[.string ⟨s.toArray⟩, .string ⟨#[10]⟩] w0 fun e w' => e = .returned (.slice (some ⟨w0.heap.size, 0, none⟩) ws.length ws.length) ∧ w' = w0.alloc (.cells (ws.map fun x => Value.string ⟨x.toArray⟩).toArray 9))
    (hJ : ∀ k fb A B, J k fb A → RowKit.Below A.heap.size A B → J k (fun b => fb b ∨ (A.heap.size ≤ b ∧ b < B.heap.size)) B)
    (hY : ∀ k fb x A, (lns 0 ws)[k]? = some x → J k fb A → YieldAt F (n - 1) Tryz.prog l (lnV x) A fun e B => (e = .returned (.bool true) ∧ J (k + 1) fb B ∧ A.heap.size ≤ B.heap.size ∧ ∀ b, fb b → ∀ o, B.cell? ⟨b, o, none⟩ = A.cell? ⟨b, o, none⟩) ∨ (e = .returned (.bool false) ∧ X e B) ∨ ∃ ch, e = .panicked ch ∧ X e B)
    (h0 : J 0 (fun _ => False) w0) :
    CallsIn F n Tryz.prog 33 #[.func (.yield l) #[] #[], .pointer (some ⟨B, 0, none⟩)] w0 fun e B => ((∃ v, e = .returned v) ∧ ((∃ fb, J (lns 0 ws).length fb B) ∨ X (.returned (.bool false)) B)) ∨ ∃ ch, e = .panicked ch ∧ X e B := by
  refine callsIn_of_wp Tryz.func33 rfl h33 ?_ hro
  simp only [Tryz.ntmps33, List.size_toArray, List.length_cons, List.length_nil, Nat.reduceAdd, Nat.reduceSub, Array.replicate_succ, Array.replicate_zero, List.push_toArray, List.append_toArray, List.nil_append, List.cons_append]
  have t3 := Tryz.underlying3; have a3 := Tryz.isAgg3; have z3 := Tryz.sizeOf3; have v3 := Tryz.zeroValue3; have t4 := Tryz.underlying4; have a4 := Tryz.isAgg4; have z4 := Tryz.sizeOf4; have v4 := Tryz.zeroValue4; have t5 := Tryz.underlying5; have a5 := Tryz.isAgg5; have z5 := Tryz.sizeOf5; have v5 := Tryz.zeroValue5; have t9 := Tryz.underlying9; have a9 := Tryz.isAgg9; have z9 := Tryz.sizeOf9; have v9 := Tryz.zeroValue9; have t39 := Tryz.underlying39; have a39 := Tryz.isAgg39; have z39 := Tryz.sizeOf39; have v39 := Tryz.zeroValue39; have t71 := Tryz.underlying71; have a71 := Tryz.isAgg71; have z71 := Tryz.sizeOf71; have v71 := Tryz.zeroValue71
  have u3 := run_underlying Tryz.underlying3; have u4 := run_underlying Tryz.underlying4; have u5 := run_underlying Tryz.underlying5; have u9 := run_underlying Tryz.underlying9; have u39 := run_underlying Tryz.underlying39; have u71 := run_underlying Tryz.underlying71
  gi_wp2_with (gi_at_call 34; refine hsp.mono ?_; rintro e w' ⟨rfl, rfl⟩)
  have hJ1 := hJ 0 _ w0 _ h0 ((RowKit.Below.refl _ w0).alloc (Nat.le_refl _) (.cells (ws.map fun x => Value.string ⟨x.toArray⟩).toArray 9))
  have hcell : RowAt ws w0.heap.size (w0.alloc (.cells (ws.map fun x => Value.string ⟨x.toArray⟩).toArray 9)) := fun j x hx => by
    simp only [World.cell?, World.alloc_heap_new]
    simp [hx]
  gi_loopw [3, 4, 8] (fun _ _ v wr => ∃ (i k : Nat) (fb : Nat → Prop), v = .int .i64 (i : Int) ∧ i ≤ ws.length ∧ lns i (ws.drop i) = (lns 0 ws).drop k ∧ k ≤ (lns 0 ws).length ∧ J k fb wr ∧ fb w0.heap.size ∧ RowAt ws w0.heap.size wr)
    (fun _ _ v _ => restN ws.length v)
  case atStart =>
    exact ⟨0, 0, _, rfl, Nat.zero_le _, rfl, Nat.zero_le _, hJ1, .inr ⟨Nat.le_refl _, by simp⟩, hcell⟩
  case round =>
    obtain ⟨i, k, fb, rfl, hi, hk, hkle, hJk, hfb, hce⟩ := hrel
    rcases Nat.lt_or_ge i ws.length with hlt | hge
    · obtain ⟨x, hcx, hl⟩ := hce.step hlt
      rw [hl] at hk
      simp only [lns] at hk
      have hb1 : (i : Int) < (ws.length : Int) := by omega
      have hb0 : (0 : Int) ≤ (i : Int) := by omega
      clear hl
      cases x with
      | nil =>
        gi_wp2
        refine ⟨fun f h => (by cases h), ?_⟩
        gi_wp2
        go_roundw
        case rel => exact ⟨i + 1, k, fb, by simp, hlt, by simpa [ign] using hk, hkle, hJk, hfb, hce⟩
        case measure => simp only [restN]; omega
      | cons b r =>
        have hne : (⟨(b :: r).toArray⟩ : ByteArray) ≠ ⟨#[]⟩ := fun h => by simp at h
        by_cases h35 : b = 35
        · subst h35
          gi_wp2
          refine ⟨fun f h => (by cases h), ?_⟩
          gi_wp2
          go_roundw
          case rel => exact ⟨i + 1, k, fb, by simp, hlt, by simpa [ign] using hk, hkle, hJk, hfb, hce⟩
          case measure => simp only [restN]; omega
        · have hig : ign (b :: r) = false := by simp [ign, h35]
          rw [hig] at hk
          simp only [Bool.false_eq_true, if_false] at hk
          have hget : (lns 0 ws)[k]? = some (i + 1, b :: r) := by
            have := congrArg (·[0]?) hk
            simpa [List.getElem?_drop] using this.symm
          have hnext : lns (i + 1) (ws.drop (i + 1)) = (lns 0 ws).drop (k + 1) := by
            have := congrArg List.tail hk
            simpa using this
          have hq : ∀ h, ((((⟨(b :: r).toArray⟩ : ByteArray)[0]'h).toNat : Int) != 35) = true := fun h => by
            have : (⟨(b :: r).toArray⟩ : ByteArray)[0]'h = b := rfl
            rw [this]
            have : b.toNat ≠ 35 := fun e => h35 (UInt8.toNat_inj.1 e)
            simp; omega
          obtain ⟨fn, tmps, assign, body, hy, hR⟩ := hY k fb (i + 1, b :: r) wr hget hJk
          dsimp only [lnV] at hy
          rw [show ((i + 1 : Nat) : Int) = (i : Int) + 1 from by omega] at hy
          gi_wp2
          refine hR.mono ?_
          rintro e W3 (⟨rfl, hJ3, hs3, hk3⟩ | ⟨rfl, hX3⟩ | ⟨ch, rfl, hX3⟩)
          · gi_wp2
            go_roundw
            case rel => exact ⟨i + 1, k + 1, fb, by simp, hlt, hnext, (List.getElem?_eq_some_iff.1 hget).1, hJ3, hfb, fun j x hx => (hk3 _ hfb j).trans (hce j x hx)⟩
            case measure => simp only [restN]; omega
          · gi_wp2
            refine bodyPost_ret (results_none rfl _ _ _) rfl ?_
            exact .inl ⟨⟨_, rfl⟩, .inr hX3⟩
          · first
            | exact ⟨rfl, Or.inr ⟨ch, rfl, hX3⟩⟩
            | exact ⟨rfl, Or.inr ⟨⟨ch, rfl⟩, hX3⟩⟩
    · have hb1 : ¬ (i : Int) < (ws.length : Int) := by omega
      gi_wp2
      go_end0
      have hii : i = ws.length := by omega
      subst hii
      rw [List.drop_length] at hk
      have hkl : (lns 0 ws).length ≤ k := by
        have := congrArg List.length hk
        simp [lns] at this
        omega
      have hke : k = (lns 0 ws).length := by omega
      exact .inl ⟨⟨_, rfl⟩, .inl ⟨fb, hke ▸ hJk⟩⟩
theorem en_rep {γ : Gh} (x : Nat × List UInt8) : RepL γ (lnV x) (lnD x) :=
  ⟨rfl, fun i d hd => match i with
    | 0 => by simp only [lnD, List.getElem?_cons_zero, Option.some.injEq] at hd; subst hd; exact .p _ _ (.int _ _)
    | 1 => by simp only [lnD, List.getElem?_cons_succ, List.getElem?_cons_zero, Option.some.injEq] at hd; subst hd; exact .p _ _ (.str _)
    | i + 2 => by simp [lnD] at hd⟩
theorem gen_ok (m : Int) (hm : W.cell? ⟨2, 0, none⟩ = some (.int .i64 m)) : GenOk Tryz.prog W G 33 gen33 := by
  refine ⟨⟨Tryz.f33, Tryz.func33, by kernel_rfl, by kernel_rfl⟩, fun cap H xs hg γ w lb I hr => ?_⟩
  unfold gen33 at hg
  split at hg
  · rename_i i
    split at hg
    · rename_i s hbx
      split at hg
      · rename_i hs
        cases hg
        obtain ⟨v, rfl, hv⟩ := repL_one hr
        cases hv with
        | box _ _ b hb =>
          obtain ⟨vs, T, fr, q1, q2, _⟩ := I.box i b _ hb hbx
          rw [viewC_of rfl] at q1
          have q0 := q2.2 0 _ rfl
          have q0 := q0.p_inv.str_inv
          have h0 : 0 < vs.size := q2.1
          have hcw : w.cell? ⟨b, 0, none⟩ = some (.string ⟨s.toArray⟩) := by
            simp only [World.cell?, q1]
            simpa [Array.getD_eq_getD_getElem?, h0] using q0
          have hbl : b < w.heap.size := (Array.getElem?_eq_some_iff.1 q1).1
          refine ⟨fun k => match (lns 0 (spl 10 s))[k]? with | some p => lnV p | none => #[], fun k x hx => ?_, fun l J X w0 hB hJ hX hY h0 => ?_⟩
          · simp only [List.getElem?_map, Option.map_eq_some_iff] at hx
            obtain ⟨p, hp, rfl⟩ := hx
            simp only [hp]
            exact ⟨rfl, fun γ' => en_rep p⟩
          · have hc0 : w0.cell? ⟨b, 0, none⟩ = some (.string ⟨s.toArray⟩) := (hB.cell (p := ⟨b, 0, none⟩) hbl).trans hcw
            have h2l : 2 < W.heap.size := World.block_lt_of_cell? _ _ hm
            have hm0 : w0.cell? ⟨2, 0, none⟩ = some (.int .i64 m) := (hB.cell (p := ⟨2, 0, none⟩) (Nat.lt_of_lt_of_le h2l I.blw.size)).trans ((I.blw.cell (p := ⟨2, 0, none⟩) h2l).trans hm)
            have hsp := Any.strings_Split lays146 (by kernel_rfl) ⟨s.toArray⟩ ⟨#[10]⟩ m w0 (by simpa [ByteArray.size] using hs) hm0 (by decide)
            have e146 : ren146.f 146 = 34 := rfl
            have e9 : ren146.t 9 = 9 := rfl
            rw [split_cells, split_num, e146, e9] at hsp
            have := spl_len 10 s
            have h := walk33 (wr none) 1 trivial trivial rfl (Nat.le_refl _) (spl 10 s) (by omega) s l b J X w0 hc0 (callsIn_wr.2 hsp) hJ (fun k fb x A hx hj => by
              have := hY k fb _ A (by rw [List.getElem?_map, hx]; rfl) hj
              simp only [hx] at this
              exact this) h0
            rw [List.length_map]
            exact callsIn_wr.2 (callsIn_wr.1 h)
      · cases hg
    · cases hg
  · cases hg

end Go.Proofs.YtebbfckifhbkoaaGreatDoor

namespace Go.Proofs.YtebbfckifhbkoaaGreatDoor
open Go.Vs Go.RowKit
structure WOk (W : World) : Prop where
  max : ∃ m, W.cell? ⟨2, 0, none⟩ = some (.int .i64 m)
  tab : Lib.TabIs Tryz.prog W "internal/strconv.uint64pow10" .u64 Lib.pow10Tab
  err : ∃ ev, W.cell? ⟨3, 0, none⟩ = some ev ∧ (ev = .nilIface ∨ ∃ te pe, ev = .iface te pe)
  rng : ∃ ev, W.cell? ⟨4, 0, none⟩ = some ev ∧ (ev = .nilIface ∨ ∃ te pe, ev = .iface te pe)
theorem cell_later {W w : World} (B : Below W.heap.size W w) {a : Addr} {v : Value} (h : W.cell? a = some v) : w.cell? a = some v := by
  have hb := World.block_lt_of_cell? W a h
  have := B.block a.block hb
  unfold World.cell? at h ⊢
  rw [this]; exact h
theorem tab_later {W w : World} (B : Below W.heap.size W w) {name : String} {k : IntKind} {zs : List Int} (h : Lib.TabIs Tryz.prog W name k zs) : Lib.TabIs Tryz.prog w name k zs := by
  unfold Lib.TabIs World.var? at h ⊢
  obtain ⟨g, hg, h2⟩ := Option.bind_eq_some_iff.1 h
  have hlt : g < W.heap.size := by
    rcases Nat.lt_or_ge g W.heap.size with q | q
    · exact q
    · rw [Array.getElem?_eq_none q] at h2; cases h2
  rw [hg]
  simp only [Option.bind_some]
  rw [B.block g hlt]; exact h2
theorem size_mk (l : List UInt8) : (⟨l.toArray⟩ : ByteArray).size = l.length := by simp [ByteArray.size]
theorem below_drewN (B : Nat) (w : World) (n : Nat) : Below B w (w.drewN n) := ⟨rfl, rfl, rfl, Nat.le_refl _, fun _ _ => rfl⟩
theorem below_alloc (w : World) (o : Obj) : Below w.heap.size w (w.drew.alloc o) := ⟨rfl, rfl, rfl, by simp, fun k hk => by
  rw [heap_alloc, if_neg (by show ¬ k = w.heap.size; omega)]; rfl⟩
theorem below_bytes (w : World) (e : TypeId) (s : ByteArray) : Below w.heap.size w (Lib.bytesWorld w e s) :=
  Lib.below_freeze (below_alloc w _) (Nat.le_refl _) 1

variable {W : World}
theorem meets_itoa (hW : WOk W) (n : Int) (H : Hp) (h0 : -9223372036854775808 ≤ n) (h1 : n ≤ 9223372036854775807) : Meets Tryz.prog W pgG 32 [.p (.int .i64 n)] H (.val (.p (.str (Lib.itoa n)))) H :=
  lib_meets ⟨Tryz.f32, Tryz.func32, by kernel_rfl, by kernel_rfl⟩ fun γ w vs I hv => by
    obtain ⟨v, rfl, hr⟩ := repL_one hv
    rw [hr.p_inv.int_inv]
    refine (Any.strconv_Itoa lays171 n h0 h1 w (tab_later I.blw hW.tab)).mono ?_
    rintro e w' ⟨rfl, k, os, rfl⟩
    exact ⟨_, rfl, Lib.below_grow _ w (Nat.le_refl _) k os, .p _ _ (.str _)⟩
theorem meets_trim (s p : List UInt8) (H : Hp) : Meets Tryz.prog W pgG 54 [.p (.str s), .p (.str p)] H (.val (.p (.str (Lib.trimPrefix s p)))) H :=
  lib_meets ⟨Tryz.f54, Tryz.func54, by kernel_rfl, by kernel_rfl⟩ fun γ w vs I hv => by
    obtain ⟨v, u, rfl, h1, h2⟩ := repL_two hv
    rw [h1.p_inv.str_inv, h2.p_inv.str_inv]
    refine (Any.strings_TrimPrefix lays101 _ _ w).mono ?_
    rintro e w' ⟨rfl, rfl⟩
    exact ⟨_, rfl, Below.refl _ _, .p _ _ (.str _)⟩
theorem repL_three {γ : Gh} {vs : Array Value} {d e f : D} (h : RepL γ vs [d, e, f]) : ∃ v u x, vs = #[v, u, x] ∧ RepD γ v d ∧ RepD γ u e ∧ RepD γ x f := by
  obtain ⟨h1, h2⟩ := h
  obtain ⟨l⟩ := vs
  match l, h1 with
  | [a, b, c], _ => exact ⟨a, b, c, rfl, h2 0 _ rfl, h2 1 _ rfl, h2 2 _ rfl⟩
theorem repl_len (s t : List UInt8) (c : UInt8) : Lib.countB ⟨s.toArray⟩ ⟨#[c]⟩ ≤ s.length := by
  have := split_num s c
  have := spl_len c s
  omega
theorem meets_repl (hW : WOk W) (s t : List UInt8) (c : UInt8) (H : Hp) (hs : s.length < 4294967281) (hl : s.length + s.length * t.length ≤ 140737488355328) : Meets Tryz.prog W pgG 40 [.p (.str s), .p (.str [c]), .p (.str t)] H (.val (.p (.str (Lib.replaceAll s [c] t)))) H :=
  lib_meets ⟨Tryz.f40, Tryz.func40, by kernel_rfl, by kernel_rfl⟩ fun γ w vs I hv => by
    obtain ⟨v, u, x, rfl, h1, h2, h3⟩ := repL_three hv
    rw [h1.p_inv.str_inv, h2.p_inv.str_inv, h3.p_inv.str_inv]
    obtain ⟨m, hm⟩ := hW.max
    have hle := repl_len s t c
    refine (Any.strings_ReplaceAll lays155 xtra ⟨s.toArray⟩ ⟨#[c]⟩ ⟨t.toArray⟩ m w (by rw [size_mk]; exact hs) (cell_later I.blw hm) (Nat.le_refl 1) ?_).mono ?_
    · rw [size_mk, size_mk]
      have := Nat.mul_le_mul_right t.length hle
      omega
    rintro e w' ⟨rfl, B⟩
    exact ⟨_, rfl, B, .p _ _ (.str _)⟩
theorem below_alloc' (w : World) (o : Obj) : Below w.heap.size w (w.drew.alloc o) := ⟨rfl, rfl, rfl, by simp, fun k hk => by
  rw [heap_alloc, if_neg (by show ¬ k = w.heap.size; omega)]; rfl⟩
theorem below_bytes' (w : World) (e : TypeId) (s : ByteArray) : Below w.heap.size w (Lib.bytesWorld w e s) :=
  Lib.below_freeze (below_alloc' w _) (Nat.le_refl _) 1
theorem meets_atoi (hW : WOk W) (s : List UInt8) (H : Hp) (hs : s.length ≤ 281474976710656) : Meets Tryz.prog W pgG 53 [.p (.str s)] H (.val (atoiV s)) H :=
  lib_meets ⟨Tryz.f53, Tryz.func53, by kernel_rfl, by kernel_rfl⟩ fun γ w vs I hv => by
    obtain ⟨v, rfl, hr⟩ := repL_one hv
    rw [hr.p_inv.str_inv]
    unfold atoiV
    cases ha : Lib.atoiAll s with
    | ok n =>
      refine (Any.strconv_Atoi_ok lays172 ⟨s.toArray⟩ (by rw [size_mk]; omega) n ha w).mono ?_
      rintro e w' ⟨rfl, hw⟩
      refine ⟨_, rfl, ?_, rep_tup2 (.p _ _ (.int _ _)) (.p _ _ .nili)⟩
      rcases hw with rfl | ⟨t, rfl⟩
      · exact Below.refl _ _
      · exact below_bytes' w _ _
    | range =>
      obtain ⟨ev, hv1, hv2⟩ := hW.rng
      refine (Any.strconv_Atoi_range lays172 ⟨s.toArray⟩ (by rw [size_mk]; exact hs) ha ev w (cell_later I.blw hv1) hv2).mono ?_
      rintro e w' ⟨N, rfl, _, _, B⟩
      exact ⟨_, rfl, B, rep_tup2 (.p _ _ (.int _ _)) (.ifc _ _ _ (.dead _))⟩
    | _ =>
      obtain ⟨ev, hv1, hv2⟩ := hW.err
      refine (Any.strconv_Atoi_syntax lays172 ⟨s.toArray⟩ (by rw [size_mk]; exact hs) ha ev w (cell_later I.blw hv1) hv2).mono ?_
      rintro e w' ⟨N, rfl, _, _, B⟩
      exact ⟨_, rfl, B, rep_tup2 (.p _ _ (.int _ _)) (.ifc _ _ _ (.dead _))⟩
theorem row_rep {m : Mem} {b : Nat} (l : List (List UInt8)) (hm : ∀ i, m b i = (l.map fun x => Value.string ⟨x.toArray⟩).toArray[i]?) : RepP m (.slice (some ⟨b, 0, none⟩) l.length l.length) (.slice 1 (l.map .str)) := by
  have h := RepP.sl (m := m) b 0 l.length 1 (l.map PD.str) (fun i _ => (l.map fun x => Value.string ⟨x.toArray⟩).getD i undef) (by simp) (fun e he => by
    obtain ⟨x, _, rfl⟩ := List.mem_map.1 he; rfl) (fun e he c hc => by
    obtain ⟨x, _, rfl⟩ := List.mem_map.1 he
    simp only [PD.cells, List.mem_singleton] at hc; subst hc; rfl) (fun i j hi hj => by
    have hi : i < l.length := by simpa using hi
    have hj : j = 0 := by omega
    subst hj
    rw [hm]
    simp [hi]) (fun i e j c he hc => by
    simp only [List.getElem?_map, Option.map_eq_some_iff] at he
    obtain ⟨x, hx, rfl⟩ := he
    match j with
    | 0 =>
      simp only [PD.cells, List.getElem?_cons_zero, Option.some.injEq] at hc
      subst hc
      have : (l.map fun x => Value.string ⟨x.toArray⟩).getD i undef = .string ⟨x.toArray⟩ := by simp [List.getD_eq_getElem?_getD, hx]
      rw [this]
      exact RepP.str x
    | j + 1 => simp [PD.cells] at hc)
  simpa using h
theorem meets_split (hW : WOk W) (s : List UInt8) (c : UInt8) (H : Hp) (hs : s.length < 4294967281) : Meets Tryz.prog W pgG 34 [.p (.str s), .p (.str [c])] H (.val (.p (.slice 1 ((spl c s).map .str)))) H := by
  refine ⟨⟨Tryz.f34, Tryz.func34, by kernel_rfl, by kernel_rfl⟩, fun γ w vs I hv => ?_⟩
  obtain ⟨v, u, rfl, r1, r2⟩ := repL_two hv
  rw [r1.p_inv.str_inv, r2.p_inv.str_inv]
  obtain ⟨m, hm⟩ := hW.max
  have hsp := Any.strings_Split lays146 (by kernel_rfl) ⟨s.toArray⟩ ⟨#[c]⟩ m w (by rw [size_mk]; exact hs) (cell_later I.blw hm) (Nat.le_refl 1)
  have e146 : ren146.f 146 = 34 := rfl
  have e9 : ren146.t 9 = 9 := rfl
  rw [split_cells, split_num, e146, e9] at hsp
  refine hsp.mono ?_
  rintro e w' ⟨rfl, rfl⟩
  obtain ⟨L, F, J⟩ := I.toInv.newRow ((spl c s).map fun x => Value.string ⟨x.toArray⟩).toArray 9 (0, 0) ⟨Nat.zero_le _, Nat.le_refl _⟩
  refine ⟨_, L, F, I.up L F J, _, rfl, .p _ _ ?_⟩
  exact row_rep _ fun i => by simp [Gh.asPD]
theorem meets_cc (H H' : Hp) (r : Res) (h : pgL0 55 [.box 0 0] H = some (r, H')) : Meets Tryz.prog W pgG 55 [.box 0 0] H r H' := by
  refine ⟨⟨Tryz.f55, Tryz.func55, by kernel_rfl, by kernel_rfl⟩, fun γ w vs I hv => ?_⟩
  obtain ⟨v, rfl, hr⟩ := repL_one hv
  cases hr with
  | box _ _ b hb =>
    simp only [pgL0] at h
    split at h
    · rename_i q l hbx
      cases h
      obtain ⟨us, T, fr, q1, q2, q3, q4⟩ := I.box 0 b _ hb (by rw [hbx]; rfl)
      have hm : isMapC (D.fresh 62 2 0 :: q) = false := by cases q <;> rfl
      rw [viewC_of hm] at q1
      have q20 := q2.2 0 _ rfl
      generalize hu : us.getD 0 undef = u at q20
      cases q20 with
      | fresh _ _ _ b' hb' ht =>
        rw [hb] at hb'
        cases hb'
        obtain ⟨us', fr', z1, z2, _⟩ := I.tys _ _ _ ht
        rw [q1] at z1
        cases z1
        have hus : 0 < us.size := by omega
        have h0 : us[0]? = some (.pointer none) := by
          rw [Array.getElem?_eq_getElem hus]
          simpa [Array.getD_eq_getD_getElem?, hus] using hu
        have hcl := q4 (by simp)
        refine (cc_fresh b w (by simp only [World.cell?, q1]; simpa using h0) (by simp [World.shape?, q1, z2]) ?_).mono ?_
        · have := hcl 0 (Nat.le_refl _) hus
          simp only [World.frozen?, q1]
          obtain ⟨f1, f2⟩ := fr
          simp only at this ⊢
          cases hd : (decide (f1 ≤ 0) && decide (0 < f2)) with
          | false => rfl
          | true => simp at hd; exact (this ⟨by simp; omega, by simpa using hd.2⟩).elim
        · rintro e w' ⟨rfl, rfl⟩
          have hst := I.toInv.store (off := 0) hb (by rw [hbx]; rfl) (us := [.pointer (some ⟨b, 0, none⟩)]) (ds := [.box 0 0]) (repL1 (.box 0 0 b hb)) (fun d hd => by simp at hd; subst hd; rfl) (by simp) q1 hcl q2 hm (by simp)
          have hw : w.setCell ⟨b, 0, none⟩ (.pointer (some ⟨b, 0, none⟩)) = w.setRow b (us.toList.take 0 ++ [Value.pointer (some ⟨b, 0, none⟩)] ++ us.toList.drop (0 + [Value.pointer (some ⟨b, 0, none⟩)].length)).toArray := by
            rw [setCell_eq_setRow w b 0 us _ fr _ q1]
            congr 1
            apply Array.ext'
            obtain ⟨l⟩ := us
            match l, hus with
            | x :: l, _ => simp
          have hs : ∀ bx : List (List D), bx = (.fresh 62 2 0 :: q) :: l → bx.set 0 (Vs.splice (.fresh 62 2 0 :: q) 0 [.box 0 0]) = (.box 0 0 :: q) :: l := by
            intro bx hb; subst hb; simp [Vs.splice]
          rw [hs _ hbx] at hst
          obtain ⟨F, J⟩ := hst
          rw [hw]
          exact ⟨γ, .refl γ, F, I.up (.refl γ) F J, _, rfl, .undef⟩
    · rename_i q l hbx
      cases h
      obtain ⟨us, T, fr, q1, q2, q3, q4⟩ := I.box 0 b _ hb (by rw [hbx]; rfl)
      have hm : isMapC (D.box 0 0 :: q) = false := by cases q <;> rfl
      rw [viewC_of hm] at q1
      have q20 := q2.2 0 _ rfl
      have hus : 0 < us.size := by have := q2.1; simp at this; omega
      generalize hu : us.getD 0 undef = u at q20
      cases q20 with
      | box _ _ b' hb' =>
        rw [hb] at hb'
        cases hb'
        have h0 : us[0]? = some (.pointer (some ⟨b, 0, none⟩)) := by
          rw [Array.getElem?_eq_getElem hus]
          simpa [Array.getD_eq_getD_getElem?, hus] using hu
        refine (cc_used b w (by simp only [World.cell?, q1]; simpa using h0)).mono ?_
        rintro e w' ⟨rfl, rfl⟩
        exact ⟨γ, .refl γ, .refl γ H w', I, _, rfl, .undef⟩
    · cases h
theorem lib_sound0 (hW : WOk W) : Sound Tryz.prog W pg0.G pg0.lib := by
  intro f args H r H' h
  have h : pgL0 f args H = some (r, H') := h
  have h0 := h
  unfold pgL0 at h
  split at h
  · split at h
    · rename_i hc; cases h; exact meets_itoa hW _ _ hc.1 hc.2
    · cases h
  · split at h
    · rename_i hc; cases h; exact meets_split hW _ _ _ hc
    · cases h
  · split at h
    · rename_i hc; cases h; exact meets_repl hW _ _ _ _ hc.1 hc.2
    · cases h
  · split at h
    · rename_i hc; cases h; exact meets_atoi hW _ _ hc
    · cases h
  · cases h; exact meets_trim _ _ _
  · exact meets_cc _ _ _ h0
  · cases h
theorem fn_ok : ∀ f fc, pgF f = some fc → FOk Tryz.prog f fc := fun f fc h => by
  unfold pgF at h
  split at h
  · cases h; exact ok3
  · cases h; exact ok4
  · cases h; exact ok5
  · cases h; exact ok6
  · cases h; exact ok7
  · cases h; exact ok8
  · cases h; exact ok9
  · cases h; exact ok10
  · cases h; exact ok12
  · cases h; exact ok13
  · cases h; exact ok14
  · cases h; exact ok15
  · cases h; exact ok16
  · cases h; exact ok17
  · cases h; exact ok18
  · cases h; exact ok19
  · cases h; exact ok20
  · cases h; exact ok22
  · cases h; exact ok23
  · cases h; exact ok24
  · cases h; exact ok25
  · cases h; exact ok26
  · cases h; exact ok27
  · cases h; exact ok28
  · cases h; exact ok29
  · cases h; exact ok30
  · cases h; exact ok35
  · cases h; exact ok36
  · cases h; exact ok37
  · cases h; exact ok38
  · cases h; exact ok39
  · cases h
theorem dfr_ok : ∀ f x, pgD f = some x → DOk Tryz.prog f x.1 x.2 := fun f x h => by
  unfold pgD at h
  split at h
  · cases h; exact ok21
  · cases h
theorem pg0_ok (hW : WOk W) : PgOk Tryz.prog W pg0 where
  mixed := by kernel_rfl
  lib := lib_sound0 hW
  fn := fn_ok
  dfn := dfr_ok

end Go.Proofs.YtebbfckifhbkoaaGreatDoor

namespace Go.Proofs.YtebbfckifhbkoaaGreatDoor
open Go.Vs
def LibOk (p : Pg) : Prop := ∀ f a H, f ≠ 11 → p.lib f a H = pgL0 f a H
theorem libOk0 : LibOk pg0 := fun _ _ _ _ => rfl
theorem libOk : LibOk pg := fun f a H h => by
  show pgL f a H = _
  unfold pgL
  split
  · exact (h rfl).elim
  · rfl
def errD (e : Int) : D := .p (.iface 25 (.int .i64 e))
theorem trim_call (p : Pg) (hp : LibOk p) (w : List UInt8) (H : Hp) : callD (call p) 54 [.p (.str w), .p (.str [45])] H = some (.val (.p (.str (Lib.trimPrefix w [45]))), H) := by
  have : call p 54 [.p (.str w), .p (.str [45])] ⟨[], []⟩ = some (.val (.p (.str (Lib.trimPrefix w [45]))), ⟨[], []⟩) := call_lib (by rw [hp _ _ _ (by decide)]; rfl)
  exact callD_pure this rfl rfl rfl rfl
theorem atoi_call (p : Pg) (hp : LibOk p) {w : List UInt8} (hw : w.length ≤ 281474976710656) (H : Hp) : callD (call p) 53 [.p (.str w)] H = some (.val (atoiV w), H) := by
  have : call p 53 [.p (.str w)] ⟨[], []⟩ = some (.val (atoiV w), ⟨[], []⟩) := by
    refine call_lib ?_
    rw [hp _ _ _ (by decide)]
    exact if_pos hw
  refine callD_pure (d' := atoiV w) this rfl rfl rfl ?_
  unfold atoiV
  cases Lib.atoiAll w <;> rfl
theorem itoa_call (p : Pg) (hp : LibOk p) {n : Int} (hn : -9223372036854775808 ≤ n ∧ n ≤ 9223372036854775807) (H : Hp) : callD (call p) 32 [.p (.int .i64 n)] H = some (.val (.p (.str (Lib.itoa n))), H) := by
  have : call p 32 [.p (.int .i64 n)] ⟨[], []⟩ = some (.val (.p (.str (Lib.itoa n))), ⟨[], []⟩) := by
    refine call_lib ?_
    rw [hp _ _ _ (by decide)]
    exact if_pos hn
  exact callD_pure this rfl rfl rfl rfl
theorem split_call (p : Pg) (hp : LibOk p) {s : List UInt8} (hs : s.length < 4294967281) (c : UInt8) (H : Hp) : callD (call p) 34 [.p (.str s), .p (.str [c])] H = some (.val (.p (.slice 1 ((spl c s).map .str))), H) := by
  have : call p 34 [.p (.str s), .p (.str [c])] ⟨[], []⟩ = some (.val (.p (.slice 1 ((spl c s).map .str))), ⟨[], []⟩) := by
    refine call_lib ?_
    rw [hp _ _ _ (by decide)]
    exact if_pos hs
  exact callD_pure this rfl rfl rfl rfl
def numR (x : List UInt8) : Res := match numS x with | some n => .val (.p (.int .i64 n)) | none => .pan (errD 340)
theorem number_eq {x : List UInt8} (hx : x.length ≤ 281474976710656) : call pg0 35 [.p (.str x)] ⟨[], []⟩ = some (numR x, ⟨[], []⟩) := by
  refine call_body (fc := fc35) rfl rfl rfl rfl ?_
  have hat := fun H => atoi_call pg0 libOk0 hx H
  have htr := fun H => trim_call pg0 libOk0 x H
  unfold numR numS
  cases ha : Lib.atoiAll x with
  | ok n =>
    have hb := Lib.atoiAll_bounds ha
    have hit := fun H => itoa_call pg0 libOk0 hb H
    simp only [atoiV, ha] at hat
    by_cases h1 : Lib.itoa n = x
    · by_cases h2 : (Lib.trimPrefix x [45]).length ≤ 9
      · have h2' : ¬ (9 : Int) < ((Lib.trimPrefix x [45]).length : Int) := by omega
        simp [fc35, evKC, evK, evGuard, put, Env.get, Env.keep, entry, Opd.ev, binD, strBin, lenD, finish, evRes, evRes1, eqD, hat, htr, hit, h1, h2, h2']
      · have h2' : (9 : Int) < ((Lib.trimPrefix x [45]).length : Int) := by omega
        simp [fc35, evKC, evK, evGuard, put, Env.get, Env.keep, entry, Opd.ev, binD, strBin, lenD, finish, D.asPD, eqD, hat, htr, hit, h1, h2, h2', errD, panicD]
    · have h1' : (Lib.itoa n == x) = false := by simpa using h1
      simp [fc35, evKC, evK, evGuard, put, Env.get, Env.keep, entry, Opd.ev, binD, strBin, finish, D.asPD, eqD, hat, hit, h1, h1', errD, panicD]
  | range =>
    simp only [atoiV, ha] at hat
    simp [fc35, evKC, evK, evGuard, put, Env.get, Env.keep, entry, Opd.ev, finish, D.asPD, eqD, hat, errD, panicD]
  | _ =>
    simp only [atoiV, ha] at hat
    simp [fc35, evKC, evK, evGuard, put, Env.get, Env.keep, entry, Opd.ev, finish, D.asPD, eqD, hat, errD, panicD]
theorem callD_purR {c : CallR} {f : Nat} {args : List D} {H : Hp} {r : Res} {Hl : Hp} {r' : Res} (h : c f args ⟨[], []⟩ = some (r, Hl)) (hr : D.refsL args = []) (ht : D.toksL args = []) (ha : D.renL (idx []) (idx []) args = some args)
    (hd : r.ren (fun _ => none) (fun _ => none) = some r') : callD c f args H = some (r', H) := by
  have hreach : ∀ n, reach H n [] = [] := by
    intro n
    cases n <;> simp [reach, boxRefs]
  unfold callD
  simp only [hr, ht, ins, hreach, boxToks, List.append_nil, Vs.nodupB, Bool.and_self, if_true, mapO, ha, h]
  simp [back, firstN, mapO, putAll, hd]
theorem number_call {x : List UInt8} (hx : x.length ≤ 281474976710656) (H : Hp) : callD (call pg0) 35 [.p (.str x)] H = some (numR x, H) :=
  callD_purR (number_eq hx) rfl rfl rfl (by unfold numR; split <;> rfl)
theorem lines_eq (s : List UInt8) (H : Hp) : callD (call pg0) 22 [.p (.str s)] H = some (.val (.fn 33 [] [.box H.bx.length 0]), { H with bx := H.bx ++ [[.p (.str s)]] }) := by
  have h : call pg0 22 [.p (.str s)] ⟨[], []⟩ = some (.val (.fn 33 [] [.box 0 0]), ⟨[[.p (.str s)]], []⟩) := by
    refine call_body (fc := fc22) rfl rfl rfl rfl ?_
    simp [fc22, evKC, evK, put, Env.get, Env.keep, entry, Opd.ev, finish, evRes, evRes1, D.cells, D.one, PD.one]
  have hreach : ∀ n, reach H n [] = [] := by
    intro n
    cases n <;> simp [reach, boxRefs]
  unfold callD
  simp only [D.refsL, D.refs, D.toksL, D.toks, List.append_nil, ins, hreach, boxToks, Vs.nodupB, Bool.and_self, if_true, mapO, D.renL, D.ren, Option.map_some, h]
  simp [back, firstN, mapO, putAll, Res.ren, D.ren, D.renL]

end Go.Proofs.YtebbfckifhbkoaaGreatDoor

namespace Go.Proofs.YtebbfckifhbkoaaGreatDoor
open Go.Vs
def wordsD (l : List (List UInt8)) : D := .p (.slice 1 (l.map .str))
def rowsD : D := .p (.agg rowC)
def c0H : Hp := ⟨[[.p (.int .i64 0), .p (.str []), .p .nils]], []⟩
def kEnv (w : List UInt8) (r : List (List UInt8)) (i k : Nat) : Env := [(2, .box 0 0), (3, wordsD (w :: r)), (4, .p (.int .i64 (k : Int))), (13, rowsD), (14, .p (.int .i64 (i : Int)))]
theorem kr0 (w : List UInt8) (r : List (List UInt8)) (k : Nat) : evS (call pg0) pg0.G iterX fc23_b0 ⟨kEnv w r 0 k, c0H⟩ = some (.norm, ⟨kEnv w r 1 (kstep w k 0), c0H⟩) := by
  have hw : IntKind.i64.wrap 1 = 1 := rfl
  simp [fc23_b0, kEnv, wordsD, rowsD, c0H, rowC, rowL, rowP, kstep, rowAt, hw, evKC, evK, evGuard, put, Env.get, Env.keep, Opd.ev, storeD, splice, cutAt, indexD, D.asInt?, binD, sub, clsP, cls, isW, apartRW, offB, apartWW, clash, insOk, mapO, D.cells, D.one, PD.one, isMapC, D.renL, D.ren, locD, below, Out.ren, List.map]
theorem kr1 (w : List UInt8) (r : List (List UInt8)) (k : Nat) : evS (call pg0) pg0.G iterX fc23_b0 ⟨kEnv w r 1 k, c0H⟩ = some (.norm, ⟨kEnv w r 2 (kstep w k 1), c0H⟩) := by
  have hw : IntKind.i64.wrap 2 = 2 := rfl
  have e : (rowAt 1).1 = [115, 112, 101, 99] := rfl
  by_cases h : ([115, 112, 101, 99] : List UInt8) = w
  · subst h
    simp [fc23_b0, kEnv, wordsD, rowsD, c0H, rowC, rowL, rowP, kstep, e, hw, evKC, evK, evGuard, put, Env.get, Env.keep, Opd.ev, loadD, storeD, splice, cutAt, indexD, D.asInt?, binD, strBin, iaddrD, sub, clsP, cls, clsR, isCl, isW, apartRW, offB, apartWW, clash, insOk, mapO, D.cells, D.one, PD.one, PD.cells, D.elems?, isMapC, D.renL, D.ren, locD, below, Out.ren, List.map]
  · have h' : (([115, 112, 101, 99] : List UInt8) == w) = false := by simpa using h
    simp [fc23_b0, kEnv, wordsD, rowsD, c0H, rowC, rowL, rowP, kstep, e, h, h', hw, evKC, evK, evGuard, put, Env.get, Env.keep, Opd.ev, loadD, storeD, splice, cutAt, indexD, D.asInt?, binD, strBin, iaddrD, sub, clsP, cls, clsR, isCl, isW, apartRW, offB, apartWW, clash, insOk, mapO, D.cells, D.one, PD.one, PD.cells, D.elems?, isMapC, D.renL, D.ren, locD, below, Out.ren, List.map]
theorem kr2 (w : List UInt8) (r : List (List UInt8)) (k : Nat) : evS (call pg0) pg0.G iterX fc23_b0 ⟨kEnv w r 2 k, c0H⟩ = some (.norm, ⟨kEnv w r 3 (kstep w k 2), c0H⟩) := by
  have hw : IntKind.i64.wrap 3 = 3 := rfl
  have e : (rowAt 2).1 = [115, 99, 111, 112, 101] := rfl
  by_cases h : ([115, 99, 111, 112, 101] : List UInt8) = w
  · subst h
    simp [fc23_b0, kEnv, wordsD, rowsD, c0H, rowC, rowL, rowP, kstep, e, hw, evKC, evK, evGuard, put, Env.get, Env.keep, Opd.ev, loadD, storeD, splice, cutAt, indexD, D.asInt?, binD, strBin, iaddrD, sub, clsP, cls, clsR, isCl, isW, apartRW, offB, apartWW, clash, insOk, mapO, D.cells, D.one, PD.one, PD.cells, D.elems?, isMapC, D.renL, D.ren, locD, below, Out.ren, List.map]
  · have h' : (([115, 99, 111, 112, 101] : List UInt8) == w) = false := by simpa using h
    simp [fc23_b0, kEnv, wordsD, rowsD, c0H, rowC, rowL, rowP, kstep, e, h, h', hw, evKC, evK, evGuard, put, Env.get, Env.keep, Opd.ev, loadD, storeD, splice, cutAt, indexD, D.asInt?, binD, strBin, iaddrD, sub, clsP, cls, clsR, isCl, isW, apartRW, offB, apartWW, clash, insOk, mapO, D.cells, D.one, PD.one, PD.cells, D.elems?, isMapC, D.renL, D.ren, locD, below, Out.ren, List.map]
theorem kr3 (w : List UInt8) (r : List (List UInt8)) (k : Nat) : evS (call pg0) pg0.G iterX fc23_b0 ⟨kEnv w r 3 k, c0H⟩ = some (.norm, ⟨kEnv w r 4 (kstep w k 3), c0H⟩) := by
  have hw : IntKind.i64.wrap 4 = 4 := rfl
  have e : (rowAt 3).1 = [114, 117, 110] := rfl
  by_cases h : ([114, 117, 110] : List UInt8) = w
  · subst h
    simp [fc23_b0, kEnv, wordsD, rowsD, c0H, rowC, rowL, rowP, kstep, e, hw, evKC, evK, evGuard, put, Env.get, Env.keep, Opd.ev, loadD, storeD, splice, cutAt, indexD, D.asInt?, binD, strBin, iaddrD, sub, clsP, cls, clsR, isCl, isW, apartRW, offB, apartWW, clash, insOk, mapO, D.cells, D.one, PD.one, PD.cells, D.elems?, isMapC, D.renL, D.ren, locD, below, Out.ren, List.map]
  · have h' : (([114, 117, 110] : List UInt8) == w) = false := by simpa using h
    simp [fc23_b0, kEnv, wordsD, rowsD, c0H, rowC, rowL, rowP, kstep, e, h, h', hw, evKC, evK, evGuard, put, Env.get, Env.keep, Opd.ev, loadD, storeD, splice, cutAt, indexD, D.asInt?, binD, strBin, iaddrD, sub, clsP, cls, clsR, isCl, isW, apartRW, offB, apartWW, clash, insOk, mapO, D.cells, D.one, PD.one, PD.cells, D.elems?, isMapC, D.renL, D.ren, locD, below, Out.ren, List.map]
theorem kr4 (w : List UInt8) (r : List (List UInt8)) (k : Nat) : evS (call pg0) pg0.G iterX fc23_b0 ⟨kEnv w r 4 k, c0H⟩ = some (.norm, ⟨kEnv w r 5 (kstep w k 4), c0H⟩) := by
  have hw : IntKind.i64.wrap 5 = 5 := rfl
  have e : (rowAt 4).1 = [99, 104, 101, 99, 107] := rfl
  by_cases h : ([99, 104, 101, 99, 107] : List UInt8) = w
  · subst h
    simp [fc23_b0, kEnv, wordsD, rowsD, c0H, rowC, rowL, rowP, kstep, e, hw, evKC, evK, evGuard, put, Env.get, Env.keep, Opd.ev, loadD, storeD, splice, cutAt, indexD, D.asInt?, binD, strBin, iaddrD, sub, clsP, cls, clsR, isCl, isW, apartRW, offB, apartWW, clash, insOk, mapO, D.cells, D.one, PD.one, PD.cells, D.elems?, isMapC, D.renL, D.ren, locD, below, Out.ren, List.map]
  · have h' : (([99, 104, 101, 99, 107] : List UInt8) == w) = false := by simpa using h
    simp [fc23_b0, kEnv, wordsD, rowsD, c0H, rowC, rowL, rowP, kstep, e, h, h', hw, evKC, evK, evGuard, put, Env.get, Env.keep, Opd.ev, loadD, storeD, splice, cutAt, indexD, D.asInt?, binD, strBin, iaddrD, sub, clsP, cls, clsR, isCl, isW, apartRW, offB, apartWW, clash, insOk, mapO, D.cells, D.one, PD.one, PD.cells, D.elems?, isMapC, D.renL, D.ren, locD, below, Out.ren, List.map]
theorem kr5 (w : List UInt8) (r : List (List UInt8)) (k : Nat) : evS (call pg0) pg0.G iterX fc23_b0 ⟨kEnv w r 5 k, c0H⟩ = some (.norm, ⟨kEnv w r 6 (kstep w k 5), c0H⟩) := by
  have hw : IntKind.i64.wrap 6 = 6 := rfl
  have e : (rowAt 5).1 = [110, 101, 120, 116] := rfl
  by_cases h : ([110, 101, 120, 116] : List UInt8) = w
  · subst h
    simp [fc23_b0, kEnv, wordsD, rowsD, c0H, rowC, rowL, rowP, kstep, e, hw, evKC, evK, evGuard, put, Env.get, Env.keep, Opd.ev, loadD, storeD, splice, cutAt, indexD, D.asInt?, binD, strBin, iaddrD, sub, clsP, cls, clsR, isCl, isW, apartRW, offB, apartWW, clash, insOk, mapO, D.cells, D.one, PD.one, PD.cells, D.elems?, isMapC, D.renL, D.ren, locD, below, Out.ren, List.map]
  · have h' : (([110, 101, 120, 116] : List UInt8) == w) = false := by simpa using h
    simp [fc23_b0, kEnv, wordsD, rowsD, c0H, rowC, rowL, rowP, kstep, e, h, h', hw, evKC, evK, evGuard, put, Env.get, Env.keep, Opd.ev, loadD, storeD, splice, cutAt, indexD, D.asInt?, binD, strBin, iaddrD, sub, clsP, cls, clsR, isCl, isW, apartRW, offB, apartWW, clash, insOk, mapO, D.cells, D.one, PD.one, PD.cells, D.elems?, isMapC, D.renL, D.ren, locD, below, Out.ren, List.map]
theorem kr6 (w : List UInt8) (r : List (List UInt8)) (k : Nat) : evS (call pg0) pg0.G iterX fc23_b0 ⟨kEnv w r 6 k, c0H⟩ = some (.norm, ⟨kEnv w r 7 (kstep w k 6), c0H⟩) := by
  have hw : IntKind.i64.wrap 7 = 7 := rfl
  have e : (rowAt 6).1 = [101, 100, 105, 116] := rfl
  by_cases h : ([101, 100, 105, 116] : List UInt8) = w
  · subst h
    simp [fc23_b0, kEnv, wordsD, rowsD, c0H, rowC, rowL, rowP, kstep, e, hw, evKC, evK, evGuard, put, Env.get, Env.keep, Opd.ev, loadD, storeD, splice, cutAt, indexD, D.asInt?, binD, strBin, iaddrD, sub, clsP, cls, clsR, isCl, isW, apartRW, offB, apartWW, clash, insOk, mapO, D.cells, D.one, PD.one, PD.cells, D.elems?, isMapC, D.renL, D.ren, locD, below, Out.ren, List.map]
  · have h' : (([101, 100, 105, 116] : List UInt8) == w) = false := by simpa using h
    simp [fc23_b0, kEnv, wordsD, rowsD, c0H, rowC, rowL, rowP, kstep, e, h, h', hw, evKC, evK, evGuard, put, Env.get, Env.keep, Opd.ev, loadD, storeD, splice, cutAt, indexD, D.asInt?, binD, strBin, iaddrD, sub, clsP, cls, clsR, isCl, isW, apartRW, offB, apartWW, clash, insOk, mapO, D.cells, D.one, PD.one, PD.cells, D.elems?, isMapC, D.renL, D.ren, locD, below, Out.ren, List.map]
theorem kr7 (w : List UInt8) (r : List (List UInt8)) (k : Nat) : evS (call pg0) pg0.G iterX fc23_b0 ⟨kEnv w r 7 k, c0H⟩ = some (.norm, ⟨kEnv w r 8 (kstep w k 7), c0H⟩) := by
  have hw : IntKind.i64.wrap 8 = 8 := rfl
  have e : (rowAt 7).1 = [114, 101, 112, 97, 105, 114] := rfl
  by_cases h : ([114, 101, 112, 97, 105, 114] : List UInt8) = w
  · subst h
    simp [fc23_b0, kEnv, wordsD, rowsD, c0H, rowC, rowL, rowP, kstep, e, hw, evKC, evK, evGuard, put, Env.get, Env.keep, Opd.ev, loadD, storeD, splice, cutAt, indexD, D.asInt?, binD, strBin, iaddrD, sub, clsP, cls, clsR, isCl, isW, apartRW, offB, apartWW, clash, insOk, mapO, D.cells, D.one, PD.one, PD.cells, D.elems?, isMapC, D.renL, D.ren, locD, below, Out.ren, List.map]
  · have h' : (([114, 101, 112, 97, 105, 114] : List UInt8) == w) = false := by simpa using h
    simp [fc23_b0, kEnv, wordsD, rowsD, c0H, rowC, rowL, rowP, kstep, e, h, h', hw, evKC, evK, evGuard, put, Env.get, Env.keep, Opd.ev, loadD, storeD, splice, cutAt, indexD, D.asInt?, binD, strBin, iaddrD, sub, clsP, cls, clsR, isCl, isW, apartRW, offB, apartWW, clash, insOk, mapO, D.cells, D.one, PD.one, PD.cells, D.elems?, isMapC, D.renL, D.ren, locD, below, Out.ren, List.map]
theorem kr8 (w : List UInt8) (r : List (List UInt8)) (k : Nat) : evS (call pg0) pg0.G iterX fc23_b0 ⟨kEnv w r 8 k, c0H⟩ = some (.norm, ⟨kEnv w r 9 (kstep w k 8), c0H⟩) := by
  have hw : IntKind.i64.wrap 9 = 9 := rfl
  have e : (rowAt 8).1 = [99, 111, 114, 101] := rfl
  by_cases h : ([99, 111, 114, 101] : List UInt8) = w
  · subst h
    simp [fc23_b0, kEnv, wordsD, rowsD, c0H, rowC, rowL, rowP, kstep, e, hw, evKC, evK, evGuard, put, Env.get, Env.keep, Opd.ev, loadD, storeD, splice, cutAt, indexD, D.asInt?, binD, strBin, iaddrD, sub, clsP, cls, clsR, isCl, isW, apartRW, offB, apartWW, clash, insOk, mapO, D.cells, D.one, PD.one, PD.cells, D.elems?, isMapC, D.renL, D.ren, locD, below, Out.ren, List.map]
  · have h' : (([99, 111, 114, 101] : List UInt8) == w) = false := by simpa using h
    simp [fc23_b0, kEnv, wordsD, rowsD, c0H, rowC, rowL, rowP, kstep, e, h, h', hw, evKC, evK, evGuard, put, Env.get, Env.keep, Opd.ev, loadD, storeD, splice, cutAt, indexD, D.asInt?, binD, strBin, iaddrD, sub, clsP, cls, clsR, isCl, isW, apartRW, offB, apartWW, clash, insOk, mapO, D.cells, D.one, PD.one, PD.cells, D.elems?, isMapC, D.renL, D.ren, locD, below, Out.ren, List.map]
theorem kr9 (w : List UInt8) (r : List (List UInt8)) (k : Nat) : evS (call pg0) pg0.G iterX fc23_b0 ⟨kEnv w r 9 k, c0H⟩ = some (.norm, ⟨kEnv w r 10 (kstep w k 9), c0H⟩) := by
  have hw : IntKind.i64.wrap 10 = 10 := rfl
  have e : (rowAt 9).1 = [115, 104, 111, 119] := rfl
  by_cases h : ([115, 104, 111, 119] : List UInt8) = w
  · subst h
    simp [fc23_b0, kEnv, wordsD, rowsD, c0H, rowC, rowL, rowP, kstep, e, hw, evKC, evK, evGuard, put, Env.get, Env.keep, Opd.ev, loadD, storeD, splice, cutAt, indexD, D.asInt?, binD, strBin, iaddrD, sub, clsP, cls, clsR, isCl, isW, apartRW, offB, apartWW, clash, insOk, mapO, D.cells, D.one, PD.one, PD.cells, D.elems?, isMapC, D.renL, D.ren, locD, below, Out.ren, List.map]
  · have h' : (([115, 104, 111, 119] : List UInt8) == w) = false := by simpa using h
    simp [fc23_b0, kEnv, wordsD, rowsD, c0H, rowC, rowL, rowP, kstep, e, h, h', hw, evKC, evK, evGuard, put, Env.get, Env.keep, Opd.ev, loadD, storeD, splice, cutAt, indexD, D.asInt?, binD, strBin, iaddrD, sub, clsP, cls, clsR, isCl, isW, apartRW, offB, apartWW, clash, insOk, mapO, D.cells, D.one, PD.one, PD.cells, D.elems?, isMapC, D.renL, D.ren, locD, below, Out.ren, List.map]
theorem kr_end (w : List UInt8) (r : List (List UInt8)) (k : Nat) : evS (call pg0) pg0.G iterX fc23_b0 ⟨kEnv w r 10 k, c0H⟩ = some (.exit 0, ⟨[(2, .box 0 0), (3, wordsD (w :: r)), (4, .p (.int .i64 (k : Int))), (13, rowsD), (14, .p (.int .i64 10)), (15, .p (.bool false))], c0H⟩) := by
  simp [fc23_b0, kEnv, wordsD, rowsD, c0H, rowC, rowL, rowP, evKC, evK, put, Env.get, Env.keep, Opd.ev, binD, mapO, D.renL, D.ren, locD, below, Out.ren, List.map]
theorem kind_loop (w : List UInt8) (r : List (List UInt8)) : loopK (call pg0) pg0.G [2, 3, 4, 13, 14] fc23_b0 ⟨kEnv w r 0 0, c0H⟩ = some (.exit 0, ⟨[(2, .box 0 0), (3, wordsD (w :: r)), (4, .p (.int .i64 (kindOf w : Int))), (13, rowsD), (14, .p (.int .i64 10)), (15, .p (.bool false))], c0H⟩) := by
  have hk : ∀ i k, (kEnv w r i k).keep [2, 3, 4, 13, 14] = kEnv w r i k := fun _ _ => rfl
  rw [loopK_norm (by rw [hk]; exact kr0 w r 0), loopK_norm (by rw [hk]; exact kr1 w r _), loopK_norm (by rw [hk]; exact kr2 w r _), loopK_norm (by rw [hk]; exact kr3 w r _), loopK_norm (by rw [hk]; exact kr4 w r _), loopK_norm (by rw [hk]; exact kr5 w r _), loopK_norm (by rw [hk]; exact kr6 w r _), loopK_norm (by rw [hk]; exact kr7 w r _), loopK_norm (by rw [hk]; exact kr8 w r _), loopK_norm (by rw [hk]; exact kr9 w r _)]
  exact loopK_out (by rw [hk]; exact kr_end w r _) (by simp)

end Go.Proofs.YtebbfckifhbkoaaGreatDoor

namespace Go.Proofs.YtebbfckifhbkoaaGreatDoor
open Go.Vs
def intsP (l : List Int) : List PD := l.map fun n => .int .i64 n
theorem intsP_app (l : List Int) (n : Int) : intsP l ++ [PD.int .i64 n] = intsP (l ++ [n]) := by simp [intsP]
theorem intsP_len (l : List Int) : (intsP l).length = l.length := by simp [intsP]
def nEnv (r : List (List UInt8)) (i : Nat) : Env := [(2, .box 0 0), (7, .box 1 0), (54, wordsD r), (55, .p (.int .i64 (r.length : Int))), (56, .p (.int .i64 (i : Int)))]
def nH (kd : Nat) (l : List Int) : Hp := ⟨[[.p (.int .i64 0), .p (.str []), .p .nils], [.p (.int .i64 (kd : Int)), .p (.str []), .tsl 0 3 1 (intsP l)]], [l.length]⟩
theorem words_get {r : List (List UInt8)} {i : Nat} {x : List UInt8} (h : r[i]? = some x) : (r.map PD.str)[i]? = some (.str x) := by simp [h]
theorem wrapN {n : Nat} (h : n < 9223372036854775808) : IntKind.i64.wrap (n : Int) = n := by
  simp [IntKind.wrap, IntKind.bits, IntKind.signed]
  omega
theorem num_round {r : List (List UInt8)} {i : Nat} {x : List UInt8} (hi : r[i]? = some x) (hr : r.length ≤ 4294967281) (hx : x.length ≤ 281474976710656) {n : Int} (hn : numS x = some n) (kd : Nat) (l : List Int) (hl : l.length ≤ 4294967281) :
    evS (call pg0) pg0.G iterX fc23_b1 ⟨nEnv r i, nH kd l⟩ = some (.norm, ⟨nEnv r (i + 1), nH kd (l ++ [n])⟩) := by
  have hlt : i < r.length := (List.getElem?_eq_some_iff.1 hi).1
  have hlt' : (i : Int) < (r.length : Int) := by omega
  have hg := words_get hi
  have hc := fun H => number_call hx H
  have hnr : numR x = .val (.p (.int .i64 n)) := by unfold numR; rw [hn]
  rw [hnr] at hc
  have hw : IntKind.i64.wrap ((i : Int) + 1) = ((i + 1 : Nat) : Int) := by have := wrapN (n := i + 1) (by omega); simpa using this
  have hro : roomy (l.length + 1) 8 = true := by simp [roomy]; omega
  simp [fc23_b1, nEnv, nH, wordsD, evKC, evK, put, Env.get, Env.keep, Opd.ev, loadD, storeD, splice, cutAt, D.asInt?, binD, iaddrD, clsP, cls, clsR, isCl, isW, apartRW, offB, apartWW, clash, insOk, mapO, D.cells, D.one, PD.one, PD.cells, D.refsL, D.refs, D.toksL, D.toks, fillE, appendD, srcD, D.elems?, D.asPD, Int.toNat_natCast, srcH, isMapC, D.renL, D.ren, locD, below, Out.ren, List.map, hlt', hg, hc, hw, intsP_len, hro, intsP_app]
theorem num_panic {r : List (List UInt8)} {i : Nat} {x : List UInt8} (hi : r[i]? = some x) (hr : r.length ≤ 4294967281) (hx : x.length ≤ 281474976710656) (hn : numS x = none) (kd : Nat) (l : List Int) :
    ∃ e, evS (call pg0) pg0.G iterX fc23_b1 ⟨nEnv r i, nH kd l⟩ = some (.pan (errD 340), ⟨e, nH kd l⟩) := by
  have hlt : i < r.length := (List.getElem?_eq_some_iff.1 hi).1
  have hlt' : (i : Int) < (r.length : Int) := by omega
  have hg := words_get hi
  have hc := fun H => number_call hx H
  have hnr : numR x = .pan (errD 340) := by unfold numR; rw [hn]
  rw [hnr] at hc
  apply Exists.intro
  simp [fc23_b1, nEnv, nH, wordsD, evKC, evK, evGuard, put, Env.get, Env.keep, Opd.ev, loadD, cutAt, D.asInt?, binD, iaddrD, clsP, cls, clsR, isCl, isW, apartRW, offB, apartWW, clash, insOk, mapO, PD.cells, D.elems?, Int.toNat_natCast, isMapC, D.renL, D.ren, locD, below, Out.ren, List.map, hlt', hg, hc, errD, unwritten, drP, put, List.any, List.map, List.getD, evRest, pairsOk, panOk, behind, drV, SO.uses, SK.slots, SK.heapless, Opd.slots]
  rfl
theorem num_end (r : List (List UInt8)) (kd : Nat) (l : List Int) : evS (call pg0) pg0.G iterX fc23_b1 ⟨nEnv r r.length, nH kd l⟩ = some (.exit 2, ⟨nEnv r r.length ++ [(57, .p (.bool false))], nH kd l⟩) := by
  simp [fc23_b1, nEnv, nH, wordsD, evKC, evK, put, Env.get, Env.keep, Opd.ev, binD, mapO, D.renL, D.ren, locD, below, Out.ren, List.map]
theorem nEnv_keep (r : List (List UInt8)) (i : Nat) : (nEnv r i).keep [2, 7, 54, 55, 56] = nEnv r i := rfl
theorem num_loop {r : List (List UInt8)} (hr : r.length ≤ 4294967281) (hx : ∀ x ∈ r, x.length ≤ 281474976710656) (kd : Nat) : ∀ (m i : Nat) (l : List Int), i + m = r.length → l.length ≤ i →
    (match numsL (r.drop i) with
      | some l' => loopK (call pg0) pg0.G [2, 7, 54, 55, 56] fc23_b1 ⟨nEnv r i, nH kd l⟩ = some (.exit 2, ⟨nEnv r r.length ++ [(57, .p (.bool false))], nH kd (l ++ l')⟩)
      | none => ∃ e l', loopK (call pg0) pg0.G [2, 7, 54, 55, 56] fc23_b1 ⟨nEnv r i, nH kd l⟩ = some (.pan (errD 340), ⟨e, nH kd l'⟩))
  | 0, i, l, hm, hl => by
    have : i = r.length := by omega
    subst this
    rw [List.drop_length]
    simp only [numsL, List.append_nil]
    exact loopK_out (by rw [nEnv_keep]; exact num_end r kd l) (by simp)
  | m + 1, i, l, hm, hl => by
    have hlt : i < r.length := by omega
    have hd := List.drop_eq_getElem_cons hlt
    have hi : r[i]? = some r[i] := List.getElem?_eq_getElem hlt
    have hxi := hx _ (List.getElem_mem hlt)
    rw [hd]
    simp only [numsL]
    cases hn : numS r[i] with
    | none =>
      obtain ⟨e, he⟩ := num_panic hi hr hxi hn kd l
      exact ⟨e, l, loopK_out (by rw [nEnv_keep]; exact he) (by simp)⟩
    | some n =>
      have h1 := num_round hi hr hxi hn kd l (by omega)
      have ih := num_loop hr hx kd m (i + 1) (l ++ [n]) (by omega) (by simp; omega)
      dsimp only
      cases hns : numsL (r.drop (i + 1)) with
      | none =>
        rw [hns] at ih
        obtain ⟨e, l', he⟩ := ih
        exact ⟨e, l', by rw [loopK_norm (by rw [nEnv_keep]; exact h1)]; exact he⟩
      | some l' =>
        rw [hns] at ih
        simp only [Option.map_some]
        rw [loopK_norm (by rw [nEnv_keep]; exact h1), ih]
        simp

end Go.Proofs.YtebbfckifhbkoaaGreatDoor

namespace Go.Proofs.YtebbfckifhbkoaaGreatDoor
open Go.Vs
def cmdCells (c : Cmd) : List D := [.p (.int .i64 (c.kind : Int)), .p (.str c.text), .p (.slice 1 (intsP c.nums))]
def cmdD (c : Cmd) : D := .p (.agg [.int .i64 (c.kind : Int), .str c.text, .slice 1 (intsP c.nums)])
def cmdR (x : List UInt8) : Res := match cmdS x with | .ok c => .val (.agg (cmdCells c)) | .error e => .pan (errD e)
theorem kind_le (w : List UInt8) : kindOf w < 10 := by
  have h : ∀ (l : List Nat) (k : Nat), k < 10 → (∀ i ∈ l, i < 10) → l.foldl (kstep w) k < 10 := by
    intro l
    induction l with
    | nil => intro k h _; exact h
    | cons i l ih =>
      intro k h hl
      refine ih _ ?_ (fun j hj => hl j (by simp [hj]))
      unfold kstep
      split
      · exact hl i (by simp)
      · exact h
  exact h _ 0 (by omega) (fun i hi => by simpa using hi)
theorem row_low {k : Nat} (h : k < 10) : rowC[k * 4 + 1]? = some (.int .i64 (rowAt k).2.1) := by
  match k, h with
  | 0, _ | 1, _ | 2, _ | 3, _ | 4, _ | 5, _ | 6, _ | 7, _ | 8, _ | 9, _ => rfl
theorem row_high {k : Nat} (h : k < 10) : rowC[k * 4 + 2]? = some (.int .i64 (rowAt k).2.2.1) := by
  match k, h with
  | 0, _ | 1, _ | 2, _ | 3, _ | 4, _ | 5, _ | 6, _ | 7, _ | 8, _ | 9, _ => rfl
theorem row_text {k : Nat} (h : k < 10) : rowC[k * 4 + 3]? = some (.bool (rowAt k).2.2.2) := by
  match k, h with
  | 0, _ | 1, _ | 2, _ | 3, _ | 4, _ | 5, _ | 6, _ | 7, _ | 8, _ | 9, _ => rfl
theorem rowC_len : rowC.length = 40 := rfl
theorem rowC_take : List.take 40 rowC = rowC := rfl
theorem pg0_G : pg0.G 0 = some rowC := rfl
theorem command_raw {x w : List UInt8} {r : List (List UInt8)} (hx : x.length ≤ 4294967280) (hs : spl 32 x = w :: r) (hk : kindOf w ≠ 0) (hlo : ¬ (r.length : Int) < (rowAt (kindOf w)).2.1) (hhi : ¬ (rowAt (kindOf w)).2.2.1 < (r.length : Int)) {l : List Int} (hn : numsL r = some l) :
    call pg0 23 [.p (.str x)] ⟨[], []⟩ = some (.val (.agg [.p (.int .i64 (kindOf w : Int)), .p (.str []), .tsl 0 3 1 (intsP l)]), ⟨[[.p (.int .i64 (kindOf w : Int)), .p (.str []), .tsl 0 3 1 (intsP l)], [.p (.int .i64 (kindOf w : Int)), .p (.str []), .tsl 0 3 1 (intsP l)]], [l.length]⟩) := by
  refine call_body (fc := fc23) rfl rfl rfl rfl ?_
  have hsp := fun H => split_call pg0 libOk0 (s := x) (by omega) 32 H
  rw [hs] at hsp
  have hkl := kind_loop w r
  have hrl : r.length ≤ 4294967281 := by have := spl_len 32 x; rw [hs] at this; simp at this; omega
  have hnl := num_loop hrl (fun y hy => by have := spl_word 32 x y (by rw [hs]; simp [hy]); omega) (kindOf w) r.length 0 [] (by omega) (by simp)
  rw [List.drop_zero, hn] at hnl
  dsimp only at hnl
  rw [List.nil_append] at hnl
  have hkb := kind_le w
  have hk0 : ((kindOf w : Int) == 0) = false := by rw [beq_eq_false_iff_ne]; omega
  have hki : (kindOf w : Int) < 10 := by omega
  have h1 := row_low hkb
  have h2 := row_high hkb
  have hwr : IntKind.i64.wrap ((r.length : Int) + 1 - 1) = (r.length : Int) := by
    have : (r.length : Int) + 1 - 1 = r.length := by omega
    rw [this]; exact wrapN (by omega)
  have hwr2 : IntKind.i64.wrap (r.length : Int) = (r.length : Int) := wrapN (by omega)
  have htk : List.take r.length (r.map PD.str) = r.map PD.str := List.take_of_length_le (by simp)
  simp only [kEnv, c0H, wordsD, rowsD, nEnv, nH, intsP, List.map_nil, List.length_nil, Int.cast_ofNat_Int, List.map_cons] at hkl hnl
  simp [fc23, evKC, evK, evGuard, put, Env.get, Env.keep, entry, Opd.ev, loadD, storeD, splice, cutAt, D.asInt?, D.asNat?, binD, lenD, boundsD, sliceD, iaddrD, sub, finish, evRes, evRes1, D.cells, D.one, PD.one, mkAgg, pures, fillD, D.elems?, Int.toNat_natCast, isMapC, hsp, hkl, hnl, hk0, hki, h1, h2, hwr2, htk, hlo, hhi, intsP, pg0_G, rowC_len, rowC_take, tokbD, tokD]
theorem spl_cons (x : List UInt8) : ∃ w r, spl 32 x = w :: r := by
  cases h : spl 32 x with
  | nil => exact (spl_ne 32 x h).elim
  | cons w r => exact ⟨w, r, rfl⟩
theorem command_pan {x w : List UInt8} {r : List (List UInt8)} (hx : x.length ≤ 4294967280) (hs : spl 32 x = w :: r) {e : Int} (hc : cmdS x = .error e) : ∃ H', call pg0 23 [.p (.str x)] ⟨[], []⟩ = some (.pan (errD e), H') := by
  have hsp := fun H => split_call pg0 libOk0 (s := x) (by omega) 32 H
  rw [hs] at hsp
  have hkl := kind_loop w r
  have hrl : r.length ≤ 4294967281 := by have := spl_len 32 x; rw [hs] at this; simp at this; omega
  have hnl := num_loop hrl (fun y hy => by have := spl_word 32 x y (by rw [hs]; simp [hy]); omega) (kindOf w) r.length 0 [] (by omega) (by simp)
  rw [List.drop_zero] at hnl
  have hkb := kind_le w
  have hki : (kindOf w : Int) < 10 := by omega
  have h1 := row_low hkb
  have h2 := row_high hkb
  have hwr : IntKind.i64.wrap ((r.length : Int) + 1 - 1) = (r.length : Int) := by
    have : (r.length : Int) + 1 - 1 = r.length := by omega
    rw [this]; exact wrapN (by omega)
  have hwr2 : IntKind.i64.wrap (r.length : Int) = (r.length : Int) := wrapN (by omega)
  have htk : List.take r.length (r.map PD.str) = r.map PD.str := List.take_of_length_le (by simp)
  unfold cmdS at hc
  rw [hs] at hc
  dsimp only at hc
  split at hc
  · rename_i hk
    cases hc
    have hk0 : ((kindOf w : Int) == 0) = true := by rw [hk]; rfl
    simp only [kEnv, c0H, wordsD, rowsD, Int.cast_ofNat_Int, List.map_cons] at hkl
    apply Exists.intro
    refine call_body (fc := fc23) rfl rfl rfl rfl ?_
    simp [fc23, evKC, evK, put, Env.get, Env.keep, entry, Opd.ev, loadD, cutAt, binD, sub, finish, evRes, evRes1, PD.one, mkAgg, D.asPD, isMapC, hsp, hkl, hk0, pg0_G, rowC_len, rowC_take, errD]
    rfl
  · rename_i hk
    have hk0 : ((kindOf w : Int) == 0) = false := by rw [beq_eq_false_iff_ne]; omega
    split at hc
    · rename_i hb
      cases hc
      simp only [kEnv, c0H, wordsD, rowsD, Int.cast_ofNat_Int, List.map_cons] at hkl
      apply Exists.intro
      refine call_body (fc := fc23) rfl rfl rfl rfl ?_
      by_cases hlo : (r.length : Int) < (rowAt (kindOf w)).2.1
      · simp [fc23, evKC, evK, evGuard, put, Env.get, Env.keep, entry, Opd.ev, loadD, storeD, splice, cutAt, D.asInt?, binD, lenD, iaddrD, sub, finish, evRes, evRes1, D.cells, D.one, PD.one, mkAgg, pures, fillD, D.elems?, D.asPD, Int.toNat_natCast, isMapC, hsp, hkl, hk0, hki, h1, hwr2, hlo, pg0_G, rowC_len, rowC_take, tokbD, tokD, errD]
        rfl
      · have hhi : (rowAt (kindOf w)).2.2.1 < (r.length : Int) := by
          rcases hb with h | h
          · exact (hlo h).elim
          · exact h
        simp [fc23, evKC, evK, evGuard, put, Env.get, Env.keep, entry, Opd.ev, loadD, storeD, splice, cutAt, D.asInt?, binD, lenD, iaddrD, sub, finish, evRes, evRes1, D.cells, D.one, PD.one, mkAgg, pures, fillD, D.elems?, D.asPD, Int.toNat_natCast, isMapC, hsp, hkl, hk0, hki, h1, h2, hwr2, hlo, hhi, pg0_G, rowC_len, rowC_take, tokbD, tokD, errD]
        rfl
    · rename_i hb
      split at hc
      · cases hc
      · rename_i hn
        cases hc
        rw [hn] at hnl
        obtain ⟨e', l', hnl⟩ := hnl
        have hlo : ¬ (r.length : Int) < (rowAt (kindOf w)).2.1 := fun h => hb (.inl h)
        have hhi : ¬ (rowAt (kindOf w)).2.2.1 < (r.length : Int) := fun h => hb (.inr h)
        simp only [kEnv, c0H, wordsD, rowsD, nEnv, nH, intsP, List.map_nil, List.length_nil, Int.cast_ofNat_Int, List.map_cons, errD] at hkl hnl
        apply Exists.intro
        refine call_body (fc := fc23) rfl rfl rfl rfl ?_
        simp [fc23, evKC, evK, evGuard, put, Env.get, Env.keep, entry, Opd.ev, loadD, storeD, splice, cutAt, D.asInt?, D.asNat?, binD, lenD, boundsD, sliceD, iaddrD, sub, finish, D.cells, D.one, PD.one, mkAgg, pures, fillD, D.elems?, Int.toNat_natCast, isMapC, hsp, hkl, hnl, hk0, hki, h1, h2, hwr2, htk, hlo, hhi, pg0_G, rowC_len, rowC_take, tokbD, tokD, errD]
        rfl
theorem command_call {x : List UInt8} (hx : x.length ≤ 4294967280) (H : Hp) : callD (call pg0) 23 [.p (.str x)] H = some (cmdR x, H) := by
  obtain ⟨w, r, hs⟩ := spl_cons x
  cases hc : cmdS x with
  | error e =>
    obtain ⟨H', h⟩ := command_pan hx hs hc
    exact callD_purR h rfl rfl rfl (by unfold cmdR; rw [hc]; rfl)
  | ok c =>
    have hc0 := hc
    unfold cmdS at hc
    rw [hs] at hc
    dsimp only at hc
    split at hc
    · cases hc
    · rename_i hk
      split at hc
      · cases hc
      · rename_i hb
        split at hc
        · rename_i l hn
          cases hc
          have h := command_raw hx hs hk (fun h => hb (.inl h)) (fun h => hb (.inr h)) hn
          exact callD_purR h rfl rfl rfl (by unfold cmdR; rw [hc0]; rfl)
        · cases hc

end Go.Proofs.YtebbfckifhbkoaaGreatDoor

namespace Go.Proofs.YtebbfckifhbkoaaGreatDoor
open Go.Vs
def rEnv (n : Nat) (x : List UInt8) : Env := [(2, .box 0 0), (4, .box 2 0), (5, .box 3 0), (6, .p (.int .i64 (n : Int))), (7, .p (.str x))]
def rH (o : D) (a k : Nat) (s : List UInt8) (T : List (List D)) : Hp := ⟨[o] :: [.p (.int .i64 0)] :: [.p (.int .i64 (a : Int))] :: [.p (.int .i64 (k : Int))] :: [.p (.str s)] :: T, []⟩
theorem cut3 (a b c : D) : cutAt [a, b, c] 0 (some 3) id mkAgg = some (mkAgg [a, b, c]) := by simp [cutAt, sub]
theorem rnd_first {b : UInt8} {t : List UInt8} (hb : b ≠ 124) (hx : (b :: t).length ≤ 4294967280) {c : Cmd} (hc : cmdS (b :: t) = .ok c) (n a k : Nat) (s : List UInt8) :
    ∃ e, evS (call pg0) pg0.G iterX fc11_b0 ⟨rEnv n (b :: t), rH (.p .nils) a k s []⟩ = some (.norm, ⟨e, rH (.gsl 6 35 1 3) n 0 s [cmdCells c, cmdCells c]⟩) := by
  have hcc := fun H => command_call hx H
  have hcr : cmdR (b :: t) = .val (.agg (cmdCells c)) := by unfold cmdR; rw [hc]
  rw [hcr] at hcc
  have hbi : ((b.toNat : Int) != 124) = true := by
    have : b.toNat ≠ 124 := fun e => hb (UInt8.toNat_inj.1 e)
    simp; omega
  apply Exists.intro
  simp [fc11_b0, rEnv, rH, evKC, evK, put, Env.get, Env.keep, Opd.ev, loadD, storeD, splice, cutAt, indexD, D.asInt?, u8, binD, lenD, sub, D.cells, D.one, PD.one, PD.cells, mkAgg, pures, fillE, srcD, D.elems?, D.asPD, srcH, isMapC, hcc, hbi, cmdCells, appendgD, roomy]
  rfl
theorem mapc_p (x : PD) (r : List D) : isMapC (.p x :: r) = false := by cases r <;> rfl
theorem mapc_g (i e n sz : Nat) (r : List D) : isMapC (.gsl i e n sz :: r) = false := by cases r <;> rfl
theorem app_get {T X : List (List D)} {j : Nat} {C : List D} (h : T[j]? = some C) : (T ++ X)[j]? = some C := by
  rw [List.getElem?_append_left (List.getElem?_eq_some_iff.1 h).1]; exact h
theorem app_set {T X : List (List D)} {j : Nat} {C Y : List D} (h : T[j]? = some C) : (T ++ X).set j Y = T.set j Y ++ X := by
  rw [List.set_append_left _ _ (List.getElem?_eq_some_iff.1 h).1]
theorem app_setL (T : List (List D)) (X Y : List D) : (T ++ [X]).set T.length Y = T ++ [Y] := by simp
theorem rnd_cmd {b : UInt8} {t : List UInt8} (hb : b ≠ 124) (hx : (b :: t).length ≤ 4294967280) {c : Cmd} (hc : cmdS (b :: t) = .ok c) (n a k : Nat) (s : List UInt8) {T : List (List D)} {j : Nat} {C : List D} (hT : T[j]? = some C) (hm : isMapC C = false) {m : Nat} (hC : C.length = m * 3) (h0 : 0 < m) (h2 : m < 200) :
    ∃ e, evS (call pg0) pg0.G iterX fc11_b0 ⟨rEnv n (b :: t), rH (.gsl (j + 5) 35 m 3) a k s T⟩ = some (.norm, ⟨e, rH (.gsl (T.length + 6) 35 (m + 1) 3) n 0 s (T.set j [] ++ [cmdCells c, C ++ cmdCells c])⟩) := by
  have hcc := fun H => command_call hx H
  have hcr : cmdR (b :: t) = .val (.agg (cmdCells c)) := by unfold cmdR; rw [hc]
  rw [hcr] at hcc
  have hbi : ((b.toNat : Int) != 124) = true := by
    have : b.toNat ≠ 124 := fun e => hb (UInt8.toNat_inj.1 e)
    simp; omega
  have h2' : ¬ (200 : Int) ≤ (m : Int) := by omega
  have hr : roomy (m + 1) 48 = true := by simp [roomy]; omega
  have g1 := fun X => app_get (X := X) hT
  have g2 := fun X Y => app_set (X := X) (Y := Y) hT
  apply Exists.intro
  simp [fc11_b0, rEnv, rH, evKC, evK, put, Env.get, Env.keep, Opd.ev, loadD, storeD, splice, cutAt, indexD, D.asInt?, u8, binD, lenD, sub, D.cells, D.one, PD.one, PD.cells, mkAgg, pures, fillE, srcD, D.elems?, D.asPD, srcH, mapc_p, mapc_g, hcc, hbi, cmdCells, appendgD, hm, hC, h0, h2', hr, g1, g2]
  rfl

end Go.Proofs.YtebbfckifhbkoaaGreatDoor

namespace Go.Proofs.YtebbfckifhbkoaaGreatDoor
open Go.Vs
def lastC (P : List D) (kd : Nat) (t : List UInt8) (ns : List PD) : List D := P ++ [.p (.int .i64 (kd : Int)), .p (.str t), .p (.slice 1 ns)]
theorem last_0 {P : List D} {q : Nat} (h : P.length = q * 3) (kd : Nat) (t : List UInt8) (ns : List PD) : (lastC P kd t ns)[q * 3]? = some (.p (.int .i64 (kd : Int))) := by
  unfold lastC; rw [List.getElem?_append_right (by omega), h]; simp
theorem last_1 {P : List D} {q : Nat} (h : P.length = q * 3) (kd : Nat) (t : List UInt8) (ns : List PD) : (lastC P kd t ns)[q * 3 + 1]? = some (.p (.str t)) := by
  unfold lastC; rw [List.getElem?_append_right (by omega), h]; simp
theorem last_len {P : List D} {q : Nat} (h : P.length = q * 3) (kd : Nat) (t : List UInt8) (ns : List PD) : (lastC P kd t ns).length = q * 3 + 3 := by
  unfold lastC; simp [h]
theorem last_spl {P : List D} {q : Nat} (h : P.length = q * 3) (kd : Nat) (t u : List UInt8) (ns : List PD) : splice (lastC P kd t ns) (q * 3 + 1) [.p (.str u)] = lastC P kd u ns := by
  unfold lastC splice
  have e1 : List.take (q * 3 + 1) (P ++ [.p (.int .i64 (kd : Int)), .p (.str t), .p (.slice 1 ns)]) = P ++ [.p (.int .i64 (kd : Int))] := by
    rw [List.take_append, List.take_of_length_le (by omega)]
    have : q * 3 + 1 - P.length = 1 := by omega
    rw [this]; rfl
  have e2 : List.drop (q * 3 + 1 + [D.p (.str u)].length) (P ++ [.p (.int .i64 (kd : Int)), .p (.str t), .p (.slice 1 ns)]) = [.p (.slice 1 ns)] := by
    rw [List.drop_append, List.drop_eq_nil_of_le (by simp; omega)]
    have : q * 3 + 1 + [D.p (.str u)].length - P.length = 2 := by simp; omega
    rw [this]; rfl
  rw [e1, e2]; simp
theorem spl1 (a b : D) : splice [a] 0 [b] = [b] := rfl
theorem rnd_text (t : List UInt8) (n a k : Nat) (s : List UInt8) {T : List (List D)} {j : Nat} {P : List D} {q kd : Nat} {u : List UInt8} {ns : List PD} (hT : T[j]? = some (lastC P kd u ns)) (hm : ∀ v, isMapC (lastC P kd v ns) = false) (hP : P.length = q * 3) (hkd : kd < 10) (hrow : (rowAt kd).2.2.2 = true)
    (hq : q < 1000000) (hk : k < 4294967296) (hl : u.length + t.length + 1 ≤ 140737488355328) :
    ∃ e, evS (call pg0) pg0.G iterX fc11_b0 ⟨rEnv n (124 :: t), rH (.gsl (j + 5) 35 (q + 1) 3) a k s T⟩ = some (.norm, ⟨e, rH (.gsl (j + 5) 35 (q + 1) 3) n (k + 1) s (T.set j (lastC P kd (u ++ ((if 0 < k then [10] else []) ++ t)) ns))⟩) := by
  have hw : IntKind.i64.wrap ((q : Int) + 1 - 1) = (q : Int) := by
    have : (q : Int) + 1 - 1 = q := by omega
    rw [this]; exact wrapN (by omega)
  have hw2 : IntKind.i64.wrap (q : Int) = (q : Int) := wrapN (by omega)
  have hq1 : (q : Int) < (q : Int) + 1 := by omega
  have hne : (((q : Int) + 1) == 0) = false := by rw [beq_eq_false_iff_ne]; omega
  have hki : (kd : Int) < 10 := by omega
  have h3 := row_text hkd
  rw [hrow] at h3
  have hj : j < T.length := (List.getElem?_eq_some_iff.1 hT).1
  have hg : ∀ C, (T.set j C)[j]? = some C := fun C => List.getElem?_set_self hj
  have l0 := last_0 hP
  have l1 := last_1 hP
  have ll : ∀ v, q * 3 + 1 + 1 ≤ (lastC P kd v ns).length := fun v => by rw [last_len hP]; omega
  have ls := last_spl hP
  have hwk : IntKind.i64.wrap ((k : Int) + 1) = (k : Int) + 1 := by have := wrapN (n := k + 1) (by omega); simpa using this
  by_cases hk0 : 0 < k
  · have hk0' : (0 : Int) < (k : Int) := by omega
    have hl1 : u.length + 1 ≤ 140737488355328 := by omega
    have hl2 : u.length + 1 + t.length ≤ 140737488355328 := by omega
    apply Exists.intro
    simp [fc11_b0, rEnv, rH, evKC, evK, evGuard, put, Env.get, Env.keep, Opd.ev, loadD, storeD, cutAt, indexD, D.asInt?, D.asNat?, u8, binD, strBin, unD, lenD, boundsD, sliceD, iaddrD, sub, clsP, cls, clsR, isCl, isW, apartRW, offB, apartWW, clash, insOk, D.cells, D.one, PD.one, Int.toNat_natCast, mapc_p, mapc_g, hT, hm, hw2, spl1, hq1, hne, hki, h3, hg, l0, l1, ll, ls, hk0, hl1, hl2, hwk, pg0_G]
    rfl
  · have hk0' : ¬ (0 : Int) < (k : Int) := by omega
    have hl2 : u.length + t.length ≤ 140737488355328 := by omega
    apply Exists.intro
    simp [fc11_b0, rEnv, rH, evKC, evK, evGuard, put, Env.get, Env.keep, Opd.ev, loadD, storeD, cutAt, indexD, D.asInt?, D.asNat?, u8, binD, strBin, unD, lenD, boundsD, sliceD, iaddrD, sub, clsP, cls, clsR, isCl, isW, apartRW, offB, apartWW, clash, insOk, D.cells, D.one, PD.one, Int.toNat_natCast, mapc_p, mapc_g, hT, hm, hw2, spl1, hq1, hne, hki, h3, l0, l1, ll, ls, hk0, hl2, hwk, pg0_G]
    rfl

end Go.Proofs.YtebbfckifhbkoaaGreatDoor

namespace Go.Proofs.YtebbfckifhbkoaaGreatDoor
open Go.Vs
theorem not_bar {b : UInt8} (hb : b ≠ 124) : ((b.toNat : Int) != 124) = true := by
  have : b.toNat ≠ 124 := fun e => hb (UInt8.toNat_inj.1 e)
  simp; omega
theorem rnd_err {b : UInt8} {t : List UInt8} (hb : b ≠ 124) (hx : (b :: t).length ≤ 4294967280) {c : Int} (hc : cmdS (b :: t) = .error c) (n a k : Nat) (s : List UInt8) (o : D) (T : List (List D)) :
    ∃ e, evS (call pg0) pg0.G iterX fc11_b0 ⟨rEnv n (b :: t), rH o a k s T⟩ = some (.pan (errD c), ⟨e, rH o n k s T⟩) := by
  have hcc := fun H => command_call hx H
  have hcr : cmdR (b :: t) = .pan (errD c) := by unfold cmdR; rw [hc]
  rw [hcr] at hcc
  have hbi := not_bar hb
  apply Exists.intro
  simp [fc11_b0, rEnv, rH, evKC, evK, put, Env.get, Env.keep, Opd.ev, storeD, indexD, D.asInt?, u8, binD, D.cells, D.one, PD.one, mapc_p, spl1, hcc, hbi, errD]
  rfl
theorem rnd_many {b : UInt8} {t : List UInt8} (hb : b ≠ 124) (hx : (b :: t).length ≤ 4294967280) {c : Cmd} (hc : cmdS (b :: t) = .ok c) (n a k : Nat) (s : List UInt8) (T : List (List D)) (j : Nat) {m : Nat} (h2 : 200 ≤ m) :
    ∃ e, evS (call pg0) pg0.G iterX fc11_b0 ⟨rEnv n (b :: t), rH (.gsl (j + 5) 35 m 3) a k s T⟩ = some (.pan (errD 2), ⟨e, rH (.gsl (j + 5) 35 m 3) n k s (T ++ [cmdCells c])⟩) := by
  have hcc := fun H => command_call hx H
  have hcr : cmdR (b :: t) = .val (.agg (cmdCells c)) := by unfold cmdR; rw [hc]
  rw [hcr] at hcc
  have hbi := not_bar hb
  have h2' : (200 : Int) ≤ (m : Int) := by omega
  apply Exists.intro
  simp [fc11_b0, rEnv, rH, evKC, evK, put, Env.get, Env.keep, Opd.ev, loadD, storeD, splice, cutAt, indexD, D.asInt?, u8, binD, lenD, D.cells, D.one, PD.one, D.asPD, mapc_p, mapc_g, hcc, hbi, cmdCells, h2', errD, panicD]
  rfl
theorem rnd_none (t : List UInt8) (n a k : Nat) (s : List UInt8) (T : List (List D)) :
    ∃ e, evS (call pg0) pg0.G iterX fc11_b0 ⟨rEnv n (124 :: t), rH (.p .nils) a k s T⟩ = some (.pan (errD 340), ⟨e, rH (.p .nils) n k s T⟩) := by
  apply Exists.intro
  simp [fc11_b0, rEnv, rH, evKC, evK, evGuard, put, Env.get, Env.keep, Opd.ev, loadD, storeD, cutAt, indexD, D.asInt?, u8, binD, lenD, D.cells, D.one, PD.one, D.asPD, mapc_p, spl1, errD, panicD]
  rfl
theorem rnd_notext (t : List UInt8) (n a k : Nat) (s : List UInt8) {T : List (List D)} {j : Nat} {P : List D} {q kd : Nat} {u : List UInt8} {ns : List PD} (hT : T[j]? = some (lastC P kd u ns)) (hm : ∀ v, isMapC (lastC P kd v ns) = false) (hP : P.length = q * 3) (hkd : kd < 10) (hrow : (rowAt kd).2.2.2 = false) (hq : q < 1000000) :
    ∃ e, evS (call pg0) pg0.G iterX fc11_b0 ⟨rEnv n (124 :: t), rH (.gsl (j + 5) 35 (q + 1) 3) a k s T⟩ = some (.pan (errD 340), ⟨e, rH (.gsl (j + 5) 35 (q + 1) 3) n k s T⟩) := by
  have hw : IntKind.i64.wrap ((q : Int) + 1 - 1) = (q : Int) := by
    have : (q : Int) + 1 - 1 = q := by omega
    rw [this]; exact wrapN (by omega)
  have hw2 : IntKind.i64.wrap (q : Int) = (q : Int) := wrapN (by omega)
  have hq1 : (q : Int) < (q : Int) + 1 := by omega
  have hne : (((q : Int) + 1) == 0) = false := by rw [beq_eq_false_iff_ne]; omega
  have hki : (kd : Int) < 10 := by omega
  have h3 := row_text hkd
  rw [hrow] at h3
  have l0 := last_0 hP
  apply Exists.intro
  simp [fc11_b0, rEnv, rH, evKC, evK, evGuard, put, Env.get, Env.keep, Opd.ev, loadD, storeD, cutAt, indexD, D.asInt?, u8, binD, unD, lenD, iaddrD, D.cells, D.one, PD.one, D.asPD, Int.toNat_natCast, mapc_p, mapc_g, spl1, hT, hm, hw2, hq1, hne, hki, h3, l0, pg0_G, errD, panicD]
  rfl

end Go.Proofs.YtebbfckifhbkoaaGreatDoor

namespace Go.Proofs.YtebbfckifhbkoaaGreatDoor
open Go.Vs
def env0 : Env := [(2, .box 0 0), (3, .box 1 0), (4, .box 2 0), (5, .box 3 0), (15, .fn 33 [] [.box 4 0])]
def asg11 : SC := .seq (.region [2, 4, 5, 6, 17] [⟨some 6, .move (.t 16), none⟩]) (.region [2, 4, 5, 6, 7] [⟨some 7, .move (.t 17), none⟩])

noncomputable abbrev rnds (xs : List (Nat × List UInt8)) (H : Hp) : Option (Out × St) := evRounds (evS (call pg0) pg0.G iterX asg11) (evS (call pg0) pg0.G iterX fc11_b0) env0 [16, 17] (xs.map lnD) H
theorem asg_eq (n : Nat) (x : List UInt8) (H : Hp) : evS (call pg0) pg0.G iterX asg11 ⟨setPs env0 [16, 17] (lnD (n, x)), H⟩ = some (.norm, ⟨rEnv n x, H⟩) := by
  simp [asg11, env0, lnD, setPs, rEnv, evKC, evK, put, Env.get, Env.keep, Opd.ev]
theorem rnds_norm {n : Nat} {x : List UInt8} {xs : List (Nat × List UInt8)} {H H' : Hp} {e : Env} (h : evS (call pg0) pg0.G iterX fc11_b0 ⟨rEnv n x, H⟩ = some (.norm, ⟨e, H'⟩)) : rnds ((n, x) :: xs) H = rnds xs H' := by
  unfold rnds
  rw [List.map_cons, evRounds, if_neg (by simp [lnD])]
  rw [asg_eq]
  dsimp only
  rw [h]
theorem rnds_pan {n : Nat} {x : List UInt8} {xs : List (Nat × List UInt8)} {H H' : Hp} {e : Env} {d : D} (h : evS (call pg0) pg0.G iterX fc11_b0 ⟨rEnv n x, H⟩ = some (.pan d, ⟨e, H'⟩)) : rnds ((n, x) :: xs) H = some (.pan d, ⟨env0, H'⟩) := by
  unfold rnds
  rw [List.map_cons, evRounds, if_neg (by simp [lnD])]
  rw [asg_eq]
  dsimp only
  rw [h]
def StOk (l : List Cmd) (o : D) (T : List (List D)) : Prop :=
  (l = [] ∧ o = .p .nils ∧ T = []) ∨ ∃ j, l ≠ [] ∧ o = .gsl (j + 5) 35 l.length 3 ∧ T[j]? = some (l.flatMap cmdCells)
theorem cells_len : ∀ l : List Cmd, (l.flatMap cmdCells).length = l.length * 3
  | [] => rfl
  | c :: l => by simp [List.flatMap_cons, cells_len l, cmdCells]; omega
theorem mapc_3 (P : List D) (a b c : D) : isMapC (P ++ [a, b, c]) = false := by
  match P with
  | [] => exact isMapC_two a b [c]
  | [x] => exact isMapC_two x a [b, c]
  | x :: y :: r => exact isMapC_two x y (r ++ [a, b, c])
theorem mapc_cells : ∀ l : List Cmd, isMapC (l.flatMap cmdCells) = false
  | [] => rfl
  | c :: l => by simp only [List.flatMap_cons, cmdCells]; exact mapc_p _ _
theorem cells_last (l : List Cmd) (c : Cmd) : (l ++ [c]).flatMap cmdCells = lastC (l.flatMap cmdCells) c.kind c.text (intsP c.nums) := by
  simp [lastC, cmdCells]
def szL (ls : List (Nat × List UInt8)) : Nat := (ls.map fun x => x.2.length + 1).sum
theorem cmd_kind {x : List UInt8} {c : Cmd} (h : cmdS x = .ok c) : c.kind < 10 ∧ c.text = [] := by
  unfold cmdS at h
  split at h
  · cases h
  · split at h
    · cases h
    · split at h
      · cases h
      · split at h
        · cases h; exact ⟨kind_le _, rfl⟩
        · cases h
theorem rounds_eq (s : List UInt8) : ∀ (ls : List (Nat × List UInt8)) (l : List Cmd) (o : D) (T : List (List D)) (a k : Nat), StOk l o T → (∀ c ∈ l, c.kind < 10 ∧ c.text.length + szL ls ≤ 140737488355328) → (∀ x ∈ ls, x.2 ≠ [] ∧ x.2.length ≤ 4294967280) → l.length ≤ 200 → k + ls.length < 4294967296 → szL ls ≤ 140737488355328 →
    match parL ls l k with
    | .ok l' => ∃ o' T' a' k', rnds ls (rH o a k s T) = some (.norm, ⟨env0, rH o' a' k' s T'⟩) ∧ StOk l' o' T' ∧ l'.length ≤ 200
    | .error (e, n) => ∃ l' o' T' k', rnds ls (rH o a k s T) = some (.pan (errD e), ⟨env0, rH o' n k' s T'⟩) ∧ StOk l' o' T'
  | [], l, o, T, a, k, hs, _, _, h200, _, _ => ⟨o, T, a, k, rfl, hs, h200⟩
  | (n, []) :: ls, l, o, T, a, k, hs, hl, hx, h200, hk, hz => by exact ((hx (n, []) (by simp)).1 rfl).elim
  | (n, b :: t) :: ls, l, o, T, a, k, hs, hl, hx, h200, hk, hz => by
    have hxl : (b :: t).length ≤ 4294967280 := (hx (n, b :: t) (by simp)).2
    have hsz : szL ((n, b :: t) :: ls) = t.length + 2 + szL ls := by simp [szL]
    have hk' : k + ls.length + 1 < 4294967296 := by simp at hk; omega
    by_cases hb : b = 124
    · subst hb
      simp only [parL, ne_eq, not_true_eq_false, if_false]
      rcases hs with ⟨rfl, rfl, rfl⟩ | ⟨j, hne, rfl, hT⟩
      · obtain ⟨e, he⟩ := rnd_none t n a k s []
        exact ⟨[], _, _, _, rnds_pan he, .inl ⟨rfl, rfl, rfl⟩⟩
      · obtain ⟨l0, c, rfl⟩ : ∃ l0 c, l = l0 ++ [c] := ⟨l.dropLast, l.getLast hne, (List.dropLast_concat_getLast hne).symm⟩
        have hcl := hl c (by simp)
        rw [cells_last] at hT
        have hlen : (l0 ++ [c]).length = l0.length + 1 := by simp
        rw [hlen] at h200 ⊢
        simp only [List.getLast?_append, List.getLast?_singleton, Option.some_or]
        cases hr : (rowAt c.kind).2.2.2 with
        | true =>
          simp only [if_true]
          obtain ⟨e, he⟩ := rnd_text t n a k s hT (fun v => mapc_3 _ _ _ _) (cells_len l0) hcl.1 hr (by omega) (by omega) (by have := hcl.2; omega)
          have hadd : addT (l0 ++ [c]) ((if 0 < k then [10] else []) ++ t) = l0 ++ [{ c with text := c.text ++ ((if 0 < k then [10] else []) ++ t) }] := by
            simp [addT]
          rw [hadd]
          have hj : j < T.length := (List.getElem?_eq_some_iff.1 hT).1
          have ih := rounds_eq s ls (l0 ++ [{ c with text := c.text ++ ((if 0 < k then [10] else []) ++ t) }]) (.gsl (j + 5) 35 (l0.length + 1) 3) (T.set j (lastC (l0.flatMap cmdCells) c.kind (c.text ++ ((if 0 < k then [10] else []) ++ t)) (intsP c.nums))) n (k + 1)
            (.inr ⟨j, by simp, by simp, by rw [List.getElem?_set_self hj, cells_last]⟩) (fun c' hc' => by
              rcases List.mem_append.1 hc' with h | h
              · have := hl c' (by simp [h]); exact ⟨this.1, by omega⟩
              · simp only [List.mem_singleton] at h
                subst h
                refine ⟨hcl.1, ?_⟩
                have := hcl.2
                simp only [List.length_append]
                split <;> simp <;> omega) (fun x h => hx x (by simp [h])) (by simp; omega) (by omega) (by omega)
          split at ih
          · rename_i l' hp
            obtain ⟨o', T', a', k', h1, h2, h3⟩ := ih
            exact ⟨o', T', a', k', (rnds_norm he).trans h1, h2, h3⟩
          · rename_i e' n' hp
            obtain ⟨l', o', T', k', h1, h2⟩ := ih
            exact ⟨l', o', T', k', (rnds_norm he).trans h1, h2⟩
        | false =>
          simp only [Bool.false_eq_true, if_false]
          obtain ⟨e, he⟩ := rnd_notext t n a k s hT (fun v => mapc_3 _ _ _ _) (cells_len l0) hcl.1 hr (by omega)
          exact ⟨l0 ++ [c], _, _, _, rnds_pan he, .inr ⟨j, by simp, by simp, by rw [cells_last]; exact hT⟩⟩
    · simp only [parL, ne_eq, hb, not_false_eq_true, if_true]
      cases hc : cmdS (b :: t) with
      | error c =>
        obtain ⟨e, he⟩ := rnd_err hb hxl hc n a k s o T
        exact ⟨l, _, _, _, rnds_pan he, hs⟩
      | ok c =>
        dsimp only
        obtain ⟨ck, ct⟩ := cmd_kind hc
        rcases hs with ⟨rfl, rfl, rfl⟩ | ⟨j, hne, rfl, hT⟩
        · rw [if_neg (by simp)]
          obtain ⟨e, he⟩ := rnd_first hb hxl hc n a k s
          have ih := rounds_eq s ls [c] (.gsl 6 35 1 3) [cmdCells c, cmdCells c] n 0 (.inr ⟨1, by simp, rfl, by simp⟩) (fun c' hc' => by
            simp only [List.mem_singleton] at hc'
            subst hc'
            exact ⟨ck, by rw [ct]; simp; omega⟩) (fun x h => hx x (by simp [h])) (by simp) (by omega) (by omega)
          rw [List.nil_append]
          split at ih
          · rename_i l' hp
            obtain ⟨o', T', a', k', h1, h2, h3⟩ := ih
            exact ⟨o', T', a', k', (rnds_norm he).trans h1, h2, h3⟩
          · rename_i e' n' hp
            obtain ⟨l', o', T', k', h1, h2⟩ := ih
            exact ⟨l', o', T', k', (rnds_norm he).trans h1, h2⟩
        · have h0 : 0 < l.length := List.length_pos_iff.2 hne
          have hj : j < T.length := (List.getElem?_eq_some_iff.1 hT).1
          by_cases hm : 200 ≤ l.length
          · rw [if_pos hm]
            obtain ⟨e, he⟩ := rnd_many hb hxl hc n a k s T j hm
            exact ⟨l, _, _, _, rnds_pan he, .inr ⟨j, hne, rfl, app_get hT⟩⟩
          · rw [if_neg hm]
            obtain ⟨e, he⟩ := rnd_cmd hb hxl hc n a k s hT (mapc_cells l) (cells_len l) h0 (by omega)
            have ih := rounds_eq s ls (l ++ [c]) (.gsl (T.length + 6) 35 (l.length + 1) 3) (T.set j [] ++ [cmdCells c, l.flatMap cmdCells ++ cmdCells c]) n 0
              (.inr ⟨T.length + 1, by simp, by simp, by
                rw [List.getElem?_append_right (by simp)]
                simp⟩) (fun c' hc' => by
              rcases List.mem_append.1 hc' with h | h
              · have := hl c' h; exact ⟨this.1, by omega⟩
              · simp only [List.mem_singleton] at h
                subst h
                exact ⟨ck, by rw [ct]; simp; omega⟩) (fun x h => hx x (by simp [h])) (by simp; omega) (by omega) (by omega)
            split at ih
            · rename_i l' hp
              obtain ⟨o', T', a', k', h1, h2, h3⟩ := ih
              exact ⟨o', T', a', k', (rnds_norm he).trans h1, h2, h3⟩
            · rename_i e' n' hp
              obtain ⟨l', o', T', k', h1, h2⟩ := ih
              exact ⟨l', o', T', k', (rnds_norm he).trans h1, h2⟩

end Go.Proofs.YtebbfckifhbkoaaGreatDoor
