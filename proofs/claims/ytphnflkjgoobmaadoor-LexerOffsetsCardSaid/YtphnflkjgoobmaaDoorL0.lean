/-
  Lexing, on what is left of the input.
-/
import Derived.Test.YtphnflkjgoobmaaDoorE6
namespace Go.Proofs.YtphnflkjgoobmaaDoor
open Go.Vs

/-- What is left behind white space and comments; the mode says whether a comment is open. -/
def sk : Bool → List UInt8 → List UInt8
  | _, [] => []
  | false, c :: t => if isB c then sk false t else if c == 47 && t.head? == some 47 then sk true t else c :: t
  | true, c :: t => if c == 10 then sk false t else sk true t

theorem drop_adv (w : UInt8 → Bool) (s : List UInt8) (i : Nat) : s.drop (adv w s i) = (s.drop i).dropWhile w := by
  unfold adv
  rw [← List.drop_drop]
  generalize s.drop i = r
  induction r with
  | nil => rfl
  | cons c t ih =>
    rw [List.takeWhile_cons, List.dropWhile_cons]
    split
    · simpa using ih
    · rfl

theorem sk_blank : ∀ r : List UInt8, sk false r = sk false (r.dropWhile isB)
  | [] => rfl
  | c :: t => by
    rw [List.dropWhile_cons]
    by_cases h : isB c = true
    · simp only [sk, h, if_true]
      exact sk_blank t
    · simp only [h, Bool.false_eq_true, if_false]

theorem sk_comment : ∀ r : List UInt8, sk true r = sk false (r.dropWhile notNl)
  | [] => rfl
  | c :: t => by
    rw [List.dropWhile_cons]
    by_cases h : c = 10
    · subst h
      simp [sk, notNl, isB]
    · have h2 : notNl c = true := by simp [notNl, h]
      simp only [h2, if_true, sk]
      rw [if_neg (by simpa using h)]
      exact sk_comment t

theorem beq_swap (a b : UInt8) : (a == b) = (b == a) := by
  rw [Bool.eq_iff_iff, beq_iff_eq, beq_iff_eq]
  exact ⟨Eq.symm, Eq.symm⟩

theorem pre2 (c : UInt8) (t : List UInt8) : [47, 47].isPrefixOf (c :: t) = (c == 47 && t.head? == some 47) := by
  cases t with
  | nil =>
    have h1 : ((([] : List UInt8).head?) == some 47) = false := rfl
    rw [h1, Bool.and_false]
    show (47 == c && false) = false
    rw [Bool.and_false]
  | cons d t =>
    have h1 : (((d :: t).head?) == some 47) = (d == 47) := rfl
    rw [h1]
    show (47 == c && (47 == d && true)) = (c == 47 && d == 47)
    rw [Bool.and_true, beq_swap 47 c, beq_swap 47 d]

theorem dw_head {w : UInt8 → Bool} : ∀ {r : List UInt8} {c : UInt8} {t : List UInt8}, c :: t = r.dropWhile w → w c = false
  | [], c, t, h => by cases h
  | d :: r, c, t, h => by
    rw [List.dropWhile_cons] at h
    split at h
    · exact dw_head h
    · rename_i hd
      cases h
      simpa using hd

theorem sk_skipLoop {s : List UInt8} : ∀ (n i : Nat), i ≤ s.length → s.length - i < n → isB (ch s i) = false ∨ i = s.length → s.drop (skipLoop s n i) = sk false (s.drop i) := by
  intro n
  induction n with
  | zero => intro i _ h; omega
  | succ n ih =>
    intro i hi hn hB
    simp only [skipLoop]
    split
    · rename_i hp
      obtain ⟨q1, q2, q3⟩ := slash_lt hp
      have ha := adv_le (w := notNl) hi
      have hb := adv_le (w := isB) ha
      have hge := adv_ge isB s (adv notNl s i)
      rw [ih _ hb (by omega) ?_]
      · rw [drop_adv, ← sk_blank, drop_adv]
        rw [List.drop_eq_getElem_cons q1] at hp ⊢
        rw [ch_get2 q1] at hp ⊢
        rw [pre2] at hp
        have hb0 : isB (ch s i) = false := by rw [q2]; rfl
        simp only [sk, hb0, Bool.false_eq_true, if_false, hp, if_true]
        rw [sk_comment]
        congr 1
        rw [List.dropWhile_cons, if_pos (by rw [q2]; rfl)]
      · by_cases he : adv isB s (adv notNl s i) < s.length
        · left
          have hd := drop_adv isB s (adv notNl s i)
          rw [List.drop_eq_getElem_cons he, ch_get2 he] at hd
          exact dw_head hd
        · right; omega
    · rename_i hp
      by_cases hi2 : i < s.length
      · rw [List.drop_eq_getElem_cons hi2, ch_get2 hi2] at hp ⊢
        rw [pre2] at hp
        have hb0 : isB (ch s i) = false := by
          rcases hB with h | h
          · exact h
          · omega
        simp only [sk, hb0, Bool.false_eq_true, if_false, hp]
      · rw [List.drop_eq_nil_of_le (by omega)]; rfl

theorem sk_skipTo {s : List UInt8} {i : Nat} (hi : i ≤ s.length) : s.drop (skipTo s i) = sk false (s.drop i) := by
  have ha := adv_le (w := isB) hi
  unfold skipTo
  rw [sk_skipLoop _ _ ha (by omega) ?_, drop_adv, ← sk_blank]
  by_cases he : adv isB s i < s.length
  · left
    have hd := drop_adv isB s i
    rw [List.drop_eq_getElem_cons he, ch_get2 he] at hd
    exact dw_head hd
  · right; omega

end Go.Proofs.YtphnflkjgoobmaaDoor
