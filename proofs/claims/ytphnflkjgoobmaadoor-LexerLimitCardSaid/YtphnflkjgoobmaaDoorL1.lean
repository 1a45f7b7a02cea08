/-
  Tokens, on what is left of the input.
-/
import Derived.Test.YtphnflkjgoobmaaDoorL0
import Derived.Test.YtphnflkjgoobmaaDoorE5
namespace Go.Proofs.YtphnflkjgoobmaaDoor
open Go.Vs

/-- A token: kind, text, and how much is left where it starts. -/
structure T0 where
  kind : Int
  text : List UInt8
  left : Nat

def edge : List UInt8 → Bool
  | [] => true
  | c :: _ => !isW c

def tokS (r : List UInt8) : Int × List UInt8 × Bool :=
  match r with
  | [] => (3, [], false)
  | c :: _ =>
    if isL c then (1, r.takeWhile isW, decide ((r.takeWhile isW).length ≤ 16))
    else if isD c then (2, r.takeWhile isD, decide ((r.takeWhile isD).length ≤ 9) && (c != 48 || r.takeWhile isD == [48]) && edge (r.dropWhile isD))
    else (3, firstOf r syms, firstOf r syms != [])

theorem sub_adv (w : UInt8 → Bool) (s : List UInt8) (i : Nat) : sub s i (adv w s i) = (s.drop i).takeWhile w := by
  unfold sub adv
  rw [List.drop_take, Nat.add_sub_cancel_left]
  exact (List.prefix_iff_eq_take.1 (List.takeWhile_prefix w)).symm

theorem edge_eq {s : List UInt8} {j : Nat} (hj : j ≤ s.length) : (decide (j = s.length) || !isW (ch s j)) = edge (s.drop j) := by
  by_cases h : j < s.length
  · have h2 : decide (j = s.length) = false := by simp; omega
    rw [List.drop_eq_getElem_cons h, ch_get2 h, h2, Bool.false_or]
    rfl
  · have h2 : j = s.length := by omega
    subst h2
    simp [edge]

theorem tokAt_tokS {s : List UInt8} {i : Nat} (hi : i < s.length) : ((tokAt s i).1.kind, (tokAt s i).1.text, (tokAt s i).2) = tokS (s.drop i) := by
  have hd : s.drop i = ch s i :: s.drop (i + 1) := by rw [List.drop_eq_getElem_cons hi, ch_get2 hi]
  unfold tokAt numOk
  rw [sub_adv, sub_adv, edge_eq (adv_le (Nat.le_of_lt hi)), drop_adv]
  unfold symAt tokS
  rw [hd]
  dsimp only
  split
  · rfl
  · split <;> rfl

/-- The tokens of what is left, and where it ends with an error: how much is left there. -/
def lexR : Nat → List UInt8 → List T0 × Option Nat
  | 0, _ => ([], none)
  | n + 1, r => match sk false r with
    | [] => ([], none)
    | c :: t =>
      if (tokS (c :: t)).2.2 then
        let x := lexR n ((c :: t).drop (tokS (c :: t)).2.1.length)
        (⟨(tokS (c :: t)).1, (tokS (c :: t)).2.1, (c :: t).length⟩ :: x.1, x.2)
      else ([], some (c :: t).length)

def T0.tok (n : Nat) (t : T0) : Tok := ⟨t.kind, t.text, n - t.left⟩

def asLexed (n : Nat) (acc : List Tok) (x : List T0 × Option Nat) : Lexed :=
  match x.2 with
  | none => (acc ++ x.1.map (T0.tok n), 0, 0)
  | some p => ([], 10, n - p)

theorem lexLoop_lexR {s : List UInt8} : ∀ (n j : Nat) (acc : List Tok), j ≤ s.length → lexLoop s n (skipTo s j) acc = asLexed s.length acc (lexR n (s.drop j))
  | 0, j, acc, _ => by simp [lexLoop, lexR, asLexed]
  | n + 1, j, acc, hj => by
    have hle := skipTo_le hj
    have hsk := sk_skipTo hj
    simp only [lexLoop, lexR]
    generalize hi : skipTo s j = i at *
    by_cases hlt : i < s.length
    · have ht := tokAt_tokS hlt
      have hat := tok_at s i
      have hend := tok_end hle.2
      have hll : (s.drop i).length = s.length - i := by simp
      have hd : s.drop i = ch s i :: s.drop (i + 1) := by rw [List.drop_eq_getElem_cons hlt, ch_get2 hlt]
      rw [if_pos hlt, ← hsk]
      rw [hd] at hll ht ⊢
      dsimp only
      rw [← ht]
      generalize tokAt s i = T at *
      obtain ⟨⟨k, x, a⟩, ok⟩ := T
      simp only at hat hend
      subst hat
      cases ok with
      | false => simp [asLexed, hll]; omega
      | true =>
        simp only [if_true]
        rw [lexLoop_lexR n _ _ hend, ← hd, List.drop_drop]
        unfold asLexed
        dsimp only
        have hl2 : s.length - (s.drop a).length = a := by simp; omega
        cases (lexR n (s.drop (a + x.length))).2 with
        | none => simp [T0.tok]; omega
        | some p => rfl
    · rw [if_neg hlt, ← hsk, List.drop_eq_nil_of_le (by omega)]
      simp [asLexed]

theorem lex_lexR {s : List UInt8} (h : s.length ≤ 20000) : lex s = asLexed s.length [] (lexR (s.length + 1) s) := by
  unfold lex
  rw [if_neg (by omega), lexLoop_lexR _ _ _ (Nat.zero_le _), List.drop_zero]

end Go.Proofs.YtphnflkjgoobmaaDoor
