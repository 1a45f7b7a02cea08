/-
  Where the tokens stand: between two of them lie white space and comments alone.
-/
import Derived.Test.YtphnflkjgoobmaaDoorL4
namespace Go.Proofs.YtphnflkjgoobmaaDoor
open Go.Vs

/-- What the second law asks of the tokens, from a place on. -/
def Offs (t : List UInt8) : Nat → List Tok → Prop
  | from_, [] => from_ ≤ t.length ∧ sk false (t.drop from_) = []
  | from_, x :: l => from_ ≤ x.at_ ∧ x.text ≠ [] ∧ x.at_ + x.text.length ≤ t.length ∧ (1 ≤ x.kind ∧ x.kind ≤ 3) ∧
      sub t x.at_ (x.at_ + x.text.length) = x.text ∧ sk false (sub t from_ x.at_) = [] ∧ Offs t (x.at_ + x.text.length) l

theorem tokS_kind (r : List UInt8) : 1 ≤ (tokS r).1 ∧ (tokS r).1 ≤ 3 := by
  unfold tokS
  split
  · simp
  · split
    · simp
    · split <;> simp

theorem drop_left {t u p : List UInt8} (h : t = p ++ u) : t.drop (t.length - u.length) = u := by
  subst h
  simp

theorem offs_lexL (t : List UInt8) : ∀ (n from_ : Nat), from_ ≤ t.length → (t.drop from_).length < n → (lexL (t.drop from_)).2 = none → Offs t from_ ((lexL (t.drop from_)).1.map (T0.tok t.length)) := by
  intro n
  induction n with
  | zero => intro f _ h; omega
  | succ n ih =>
    intro f hf hn he
    generalize hr : t.drop f = r at *
    rcases lex_cases r with h | ⟨h, hb⟩ | ⟨h, hb⟩
    · rw [lexL_end h]
      exact ⟨hf, by rw [hr]; exact h⟩
    · rw [lexL_bad h hb] at he; cases he
    · rw [lexL_good hb] at he ⊢
      obtain ⟨p, hp, hp2⟩ := sk_split false r
      have hbe := behind_split (r := r)
      have hpos := tokS_pos hb
      have hk := tokS_kind (sk false r)
      have hlt := behind_len hb
      unfold nextT
      have ht : t = t.take f ++ r := by rw [← hr]; exact (List.take_append_drop f t).symm
      have hfl : (t.take f).length = f := by simp; omega
      generalize hT : tokS (sk false r) = T at *
      obtain ⟨k, x, ok⟩ := T
      simp only at hbe hpos hk he ⊢
      have hul : (sk false r).length = x.length + (behind r).length := by
        rw [congrArg List.length hbe]; simp
      have hrl : r.length = p.length + (sk false r).length := by
        conv => lhs; rw [hp]
        simp
      have htl : t.length = f + r.length := by have := congrArg List.length ht; rw [List.length_append, hfl] at this; exact this
      have hat : t.length - (sk false r).length = f + p.length := by omega
      have e1 : t.drop (f + p.length) = sk false r := by
        rw [← List.drop_drop, hr]
        conv => lhs; rw [hp]
        simp
      have e2 : t.drop (f + p.length + x.length) = behind r := by
        rw [← List.drop_drop, e1, hbe]
        simp
      simp only [List.map_cons, T0.tok, hat, Offs]
      refine ⟨by omega, ?_, by omega, hk, ?_, ?_, ?_⟩
      · intro e; rw [e] at hpos; simp at hpos
      · unfold sub
        rw [List.drop_take, Nat.add_sub_cancel_left, e1, hbe]
        simp
      · unfold sub
        rw [List.drop_take, Nat.add_sub_cancel_left, hr]
        conv => lhs; rw [hp]
        simpa using hp2
      · have := ih (f + p.length + x.length) (by omega) (by rw [e2]; omega) (by rw [e2]; exact he)
        rw [e2] at this
        exact this

end Go.Proofs.YtphnflkjgoobmaaDoor
