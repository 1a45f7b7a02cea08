/-
  The evaluator's program.
-/
import Derived.Test.YtphnflkjgoobmaaDoorFc1
namespace Go.Proofs.YtphnflkjgoobmaaDoor
open Go.Vs

def idxOf (c : UInt8) : List UInt8 → Option Nat
  | [] => none
  | b :: r => if b = c then some 0 else (idxOf c r).map (· + 1)

def idxI (s : List UInt8) (c : UInt8) : Int := match idxOf c s with | some n => n | none => -1

def pgF : Nat → Option FC
  | 2 => some fc2
  | 3 => some fc3
  | 4 => some fc4
  | 5 => some fc5
  | 6 => some fc6
  | 7 => some fc7
  | 8 => some fc8
  | 9 => some fc9
  | 10 => some fc10
  | 11 => some fc11
  | 12 => some fc12
  | 13 => some fc13
  | 14 => some fc14
  | 15 => some fc15
  | 16 => some fc16
  | 17 => some fc17
  | 18 => some fc18
  | 19 => some fc19
  | 20 => some fc20
  | 21 => some fc21
  | 22 => some fc22
  | 23 => some fc23
  | 24 => some fc24
  | 25 => some fc25
  | 26 => some fc26
  | 27 => some fc27
  | 28 => some fc28
  | 29 => some fc29
  | 30 => some fc30
  | 31 => some fc31
  | 32 => some fc32
  | 33 => some fc33
  | 34 => some fc34
  | 35 => some fc35
  | 36 => some fc36
  | 37 => some fc37
  | 38 => some fc38
  | 39 => some fc39
  | 62 => some fc62
  | _ => none

/-- The table of symbols. -/
def syms : List (List UInt8) := [[60, 61, 62], [60, 61], [60], [61, 62], [61], [33, 61], [45, 62], [45], [43, 43], [43], [38, 38], [38], [124, 124], [124], [40], [41], [123], [125], [91], [93], [58], [59], [44], [46], [39], [126], [94], [42], [35]]

def pgG : Nat → Option (List PD)
  | 0 => some (syms.map .str)
  | _ => none

def pgL : CallR
  | 40, [.p (.str s), .p (.int .u8 c)], H => some (.val (.p (.int .i64 (idxI s (UInt8.ofNat c.toNat)))), H)
  | _, _, _ => none

def pg : Pg := ⟨pgF, pgG, pgL⟩

/-- A scanner. -/
def sc (s : List UInt8) (at_ : Nat) : Hp := ⟨[[.p (.str s), .p (.int .i64 at_)]], []⟩

end Go.Proofs.YtphnflkjgoobmaaDoor
