/-
  What the small functions of the lexer give: letters, digits, white space.
-/
import Derived.Test.YtphnflkjgoobmaaDoorPg
import Derived.Test.YtphnflkjgoobmaaDoorFwV
namespace Go.Proofs.YtphnflkjgoobmaaDoor
open Go.Vs

def ch (s : List UInt8) (i : Nat) : UInt8 := s.getD i 0
def isL (c : UInt8) : Bool := 65 ≤ c && c ≤ 90 || 97 ≤ c && c ≤ 122
def isD (c : UInt8) : Bool := 48 ≤ c && c ≤ 57
def isW (c : UInt8) : Bool := isL c || isD c || c == 95
def isB (c : UInt8) : Bool := c == 32 || c == 9 || c == 10 || c == 13

theorem ch_get {s : List UInt8} {i : Nat} (h : i < s.length) : s[i]? = some (ch s i) := by simp [ch, List.getD_eq_getElem?_getD, h]

theorem all_bytes {p : UInt8 → Prop} [DecidablePred p] (h : ∀ n : Fin 256, p (UInt8.ofNat n.val)) (c : UInt8) : p c := by
  have := h ⟨c.toNat, c.toNat_lt⟩
  simpa using this

def low (c : UInt8) : Nat := (c ||| 32).toNat

theorem or32 (c : UInt8) : intBin .or .u8 c.toNat 32 = some (.int .u8 (low c)) := by
  have : ∀ n : Fin 256, (IntKind.u8.wrap ((BitVec.ofInt 8 ((UInt8.ofNat n.val).toNat : Int) ||| BitVec.ofInt 8 32).toNat) = (low (UInt8.ofNat n.val) : Int)) := by decide +kernel
  have h := all_bytes (p := fun c => IntKind.u8.wrap ((BitVec.ofInt 8 (c.toNat : Int) ||| BitVec.ofInt 8 32).toNat) = (low c : Int)) this c
  exact congrArg (fun z => some (PD.int .u8 z)) h

theorem isL_iff (c : UInt8) : isL c = (decide (97 ≤ low c) && decide (low c ≤ 122)) :=
  all_bytes (p := fun c => isL c = (decide (97 ≤ low c) && decide (low c ≤ 122))) (by decide +kernel) c

theorem isD_iff (c : UInt8) : isD c = (decide (48 ≤ c.toNat) && decide (c.toNat ≤ 57)) :=
  all_bytes (p := fun c => isD c = (decide (48 ≤ c.toNat) && decide (c.toNat ≤ 57))) (by decide +kernel) c

theorem letter_eq {s : List UInt8} {i : Nat} (h : i < s.length) : call pg 27 [.box 0 0] ⟨[[.p (.str s), .p (.int .i64 i)]], []⟩ = some (.val (.p (.bool (isL (ch s i)))), ⟨[[.p (.str s), .p (.int .i64 i)]], []⟩) := by
  have hs := ch_get h
  refine call_body (fc := fc27) rfl rfl rfl ?_
  have h32 := or32 (ch s i)
  rw [isL_iff]
  simp [fc27, evKC, evK, evGuard, put, Env.get, Env.keep, entry, Opd.ev, loadD, cutAt, indexD, D.asInt?, u8, binD, cls, clash, finish, evRes, evRes1, Int.toNat_natCast, hs, h32]
  by_cases h1 : (97 : Int) ≤ (low (ch s i) : Int)
  · have h2 : 97 ≤ low (ch s i) := by omega
    simp [evKC, evK, evGuard, put, Env.get, Env.keep, Opd.ev, binD, h1, h2]
    omega
  · have h2 : ¬ 97 ≤ low (ch s i) := by omega
    simp [evKC, evK, evGuard, put, Env.get, Env.keep, Opd.ev, h1, h2]

theorem digit_eq {s : List UInt8} {i : Nat} (h : i < s.length) : call pg 29 [.box 0 0] ⟨[[.p (.str s), .p (.int .i64 i)]], []⟩ = some (.val (.p (.bool (isD (ch s i)))), ⟨[[.p (.str s), .p (.int .i64 i)]], []⟩) := by
  have hs := ch_get h
  refine call_body (fc := fc29) rfl rfl rfl ?_
  rw [isD_iff]
  simp [fc29, evKC, evK, evGuard, put, Env.get, Env.keep, entry, Opd.ev, loadD, cutAt, indexD, D.asInt?, u8, binD, cls, finish, evRes, evRes1, Int.toNat_natCast, hs]
  by_cases h1 : (48 : Int) ≤ ((ch s i).toNat : Int)
  · have h2 : 48 ≤ (ch s i).toNat := by omega
    simp [evKC, evK, evGuard, put, Env.get, Env.keep, Opd.ev, loadD, cutAt, indexD, D.asInt?, u8, binD, cls, clash, Int.toNat_natCast, hs, h1, h2]
    omega
  · have h2 : ¬ 48 ≤ (ch s i).toNat := by omega
    simp [evKC, evK, evGuard, put, Env.get, Env.keep, Opd.ev, cls, clash, h1, h2]

theorem inLine_eq {s : List UInt8} {i : Nat} (h : i < s.length) : call pg 26 [.box 0 0] ⟨[[.p (.str s), .p (.int .i64 i)]], []⟩ = some (.val (.p (.bool (ch s i != 10))), ⟨[[.p (.str s), .p (.int .i64 i)]], []⟩) := by
  have hs := ch_get h
  refine call_body (fc := fc26) rfl rfl rfl ?_
  have : (((ch s i).toNat : Int) != 10) = (ch s i != 10) := all_bytes (p := fun c => ((c.toNat : Int) != 10) = (c != 10)) (by decide +kernel) _
  simp [fc26, evKC, evK, put, Env.get, Env.keep, entry, Opd.ev, loadD, cutAt, indexD, D.asInt?, u8, binD, cls, clash, finish, evRes, evRes1, Int.toNat_natCast, hs, this]

theorem word_eq {s : List UInt8} {i : Nat} (h : i < s.length) : call pg 28 [.box 0 0] ⟨[[.p (.str s), .p (.int .i64 i)]], []⟩ = some (.val (.p (.bool (isW (ch s i)))), ⟨[[.p (.str s), .p (.int .i64 i)]], []⟩) := by
  have hs := ch_get h
  refine call_body (fc := fc28) rfl rfl rfl ?_
  have h95 : (((ch s i).toNat : Int) == 95) = (ch s i == 95) := all_bytes (p := fun c => ((c.toNat : Int) == 95) = (c == 95)) (by decide +kernel) _
  simp [fc28, evKC, evK, evGuard, put, Env.get, Env.keep, entry, Opd.ev, cls, finish, evRes, evRes1, mapO, D.refsL, D.refs, D.toksL, D.toks, callD, reach, boxRefs, boxToks, ins, nodupB, idx, D.renL, D.ren, back, firstN, putAll, Res.ren, letter_eq h]
  cases hl : isL (ch s i)
  · simp [evKC, evK, evGuard, put, Env.get, Opd.ev, cls, mapO, D.refsL, D.refs, D.toksL, D.toks, callD, reach, boxRefs, boxToks, ins, nodupB, idx, D.renL, D.ren, back, firstN, putAll, Res.ren, digit_eq h]
    cases hd : isD (ch s i)
    · simp [evKC, evK, evGuard, put, Env.get, Env.keep, Opd.ev, loadD, cutAt, indexD, D.asInt?, u8, binD, cls, clash, Int.toNat_natCast, hs, h95, isW, hl, hd]
    · simp [evKC, evK, evGuard, put, Env.get, Env.keep, Opd.ev, cls, clash, isW, hl, hd]
  · simp [evKC, evK, evGuard, put, Env.get, Env.keep, Opd.ev, cls, clash, isW, hl]

/-! Functions of one byte: each byte by computation. -/
def okB (x : Option (Res × Hp)) (b : Bool) : Bool :=
  match x with
  | some (.val (.p (.bool c)), ⟨[], []⟩) => c == b
  | _ => false

theorem okB_iff {x : Option (Res × Hp)} {b : Bool} (h : okB x b = true) : x = some (.val (.p (.bool b)), ⟨[], []⟩) := by
  unfold okB at h
  split at h
  · rw [beq_iff_eq.1 h]
  · cases h

theorem byte_fn {f : Nat} {g : UInt8 → Bool} (n : Nat) (h : ∀ k : Fin 256, okB (evF pg n f [.p (.int .u8 k.val)] ⟨[], []⟩) (g (UInt8.ofNat k.val)) = true) (c : UInt8) : call pg f [.p (.int .u8 c.toNat)] ⟨[], []⟩ = some (.val (.p (.bool (g c))), ⟨[], []⟩) := by
  have := h ⟨c.toNat, c.toNat_lt⟩
  refine call_of_evF n ?_
  have e := okB_iff this
  simpa using e

theorem space_eq (c : UInt8) : call pg 32 [.p (.int .u8 c.toNat)] ⟨[], []⟩ = some (.val (.p (.bool (isB c))), ⟨[], []⟩) := byte_fn 3 (by decide +kernel) c
theorem Letter_eq (c : UInt8) : call pg 33 [.p (.int .u8 c.toNat)] ⟨[], []⟩ = some (.val (.p (.bool (isL c))), ⟨[], []⟩) := byte_fn 3 (by decide +kernel) c
theorem Digit_eq (c : UInt8) : call pg 35 [.p (.int .u8 c.toNat)] ⟨[], []⟩ = some (.val (.p (.bool (isD c))), ⟨[], []⟩) := byte_fn 3 (by decide +kernel) c
theorem part_eq (c : UInt8) : call pg 34 [.p (.int .u8 c.toNat)] ⟨[], []⟩ = some (.val (.p (.bool (isW c))), ⟨[], []⟩) := byte_fn 4 (by decide +kernel) c

end Go.Proofs.YtphnflkjgoobmaaDoor
