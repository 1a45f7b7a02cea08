/-
  Lexing two inputs with white space in between; what ends inside a comment.
-/
import Derived.Test.YtphnflkjgoobmaaDoorL6
namespace Go.Proofs.YtphnflkjgoobmaaDoor
open Go.Vs

/-- Whether a comment is open at the end, by the bytes alone. -/
def opnF : Bool → List UInt8 → Bool
  | m, [] => m
  | m, c :: t => opnF (if c == 10 then false else (m || (c == 47 && t.head? == some 47))) t

theorem isB47 {c : UInt8} (h : isB c = true) : (c == 47) = false :=
  all_bytes (p := fun c => isB c = true → (c == 47) = false) (by decide +kernel) c h

theorem opnF_sk : ∀ (m : Bool) (r : List UInt8), opnF m r = if sk m r = [] then opn m r else opnF false (sk m r)
  | m, [] => by cases m <;> simp [sk, opnF, opn]
  | true, c :: t => by
    simp only [sk, opnF, opn, Bool.true_or]
    split
    · exact opnF_sk false t
    · exact opnF_sk true t
  | false, c :: t => by
    simp only [sk, opnF, opn, Bool.false_or]
    by_cases hb : isB c = true
    · simp only [hb, if_true, isB47 hb, Bool.false_and, ite_self]
      exact opnF_sk false t
    · simp only [hb, Bool.false_eq_true, if_false]
      by_cases hc : (c == 47 && t.head? == some 47) = true
      · have h10 : (c == 10) = false := by
          rw [Bool.and_eq_true, beq_iff_eq] at hc
          rw [hc.1]; rfl
        simp only [hc, if_true, h10, Bool.false_eq_true, if_false]
        exact opnF_sk true t
      · simp [hc, opnF]

theorem opnF_text : ∀ (x v : List UInt8), (∀ c ∈ x, c ≠ 47) → opnF false (x ++ v) = opnF false v
  | [], _, _ => rfl
  | c :: x, v, h => by
    have hc : (c == 47) = false := by simpa using h c (by simp)
    rw [List.cons_append]
    simp only [opnF, hc, Bool.false_and, Bool.or_self, ite_self]
    exact opnF_text x v fun d hd => h d (by simp [hd])

theorem tw_all {w : UInt8 → Bool} {c : UInt8} : ∀ {r : List UInt8}, c ∈ r.takeWhile w → w c = true
  | [], h => by cases h
  | d :: r, h => by
    rw [List.takeWhile_cons] at h
    split at h
    · rename_i hd
      rcases List.mem_cons.1 h with rfl | h
      · exact hd
      · exact tw_all h
    · cases h

theorem syms_no47 : ∀ x ∈ syms, ∀ c ∈ x, c ≠ 47 := by decide +kernel

theorem tok_no47 (r : List UInt8) : ∀ c ∈ (tokS r).2.1, c ≠ 47 := by
  intro c hc e
  subst e
  cases r with
  | nil => cases hc
  | cons d t =>
    simp only [tokS] at hc
    split at hc
    · have := tw_all hc; cases this
    · split at hc
      · have := tw_all hc; cases this
      · rcases firstOf_mem (d :: t) syms with h | ⟨h, _⟩
        · simp only [h] at hc; cases hc
        · exact syms_no47 _ h 47 hc rfl

theorem opnF_finO : ∀ (n : Nat) (r : List UInt8), r.length < n → (lexL r).2 = none → opnF false r = finO n r := by
  intro n
  induction n with
  | zero => intro r h; omega
  | succ n ih =>
    intro r hn he
    rw [opnF_sk]
    rcases lex_cases r with h | ⟨h, hb⟩ | ⟨h, hb⟩
    · rw [if_pos h, finO_end h]
    · rw [lexL_bad h hb] at he; cases he
    · rw [if_neg h, finO_good hb]
      rw [lexL_good hb] at he
      have hlt := behind_len hb
      have hbe := behind_split (r := r)
      rw [hbe, opnF_text _ _ (tok_no47 _)]
      exact ih (behind r) (by omega) he

theorem left_le : ∀ (n : Nat) (r : List UInt8), r.length < n → ∀ x ∈ (lexL r).1, x.left ≤ r.length := by
  intro n
  induction n with
  | zero => intro r h; omega
  | succ n ih =>
    intro r hn x hx
    have hsk := sk_len false r
    rcases lex_cases r with h | ⟨h, hb⟩ | ⟨h, hb⟩
    · rw [lexL_end h] at hx; cases hx
    · rw [lexL_bad h hb] at hx; cases hx
    · rw [lexL_good hb] at hx
      have hlt := behind_len hb
      rcases List.mem_cons.1 hx with rfl | hx
      · exact hsk
      · have := ih (behind r) (by omega) x hx
        omega

def Tok.shift (k : Nat) (x : Tok) : Tok := ⟨x.kind, x.text, x.at_ + k⟩

/-- An error of the first input is preserved. -/
theorem cat_err {a b : List UInt8} {p : Nat} (h : (lexL a).2 = some p) : (lexL (a ++ 32 :: b)).2 = some (p + (b.length + 1)) := by
  rw [lexL_app (g := 32 :: b) rfl (a.length + 1) a (by omega), h]
  rfl

/-- Otherwise the tokens of the first one stand before those of the second one. -/
theorem cat_ok {a b : List UInt8} (h : (lexL a).2 = none) (ho : opnF false a = false) :
    (lexL (a ++ 32 :: b)).2 = (lexL b).2 ∧ (lexL (a ++ 32 :: b)).1.map (T0.tok (a ++ 32 :: b).length) = (lexL a).1.map (T0.tok a.length) ++ ((lexL b).1.map (T0.tok b.length)).map (Tok.shift (a.length + 1)) := by
  have hf := opnF_finO (a.length + 1) a (by omega) h
  rw [ho] at hf
  have hs : lexL (sk false (32 :: b)) = lexL b := by
    have : sk false (32 :: b) = sk false b := rfl
    rw [this, lexL_sk]
  rw [lexL_app (g := 32 :: b) rfl (a.length + 1) a (by omega), h, ← hf, hs]
  refine ⟨rfl, ?_⟩
  rw [List.map_append, List.map_map, List.map_map]
  congr 1
  · refine List.map_congr_left fun x hx => ?_
    have := left_le (a.length + 1) a (by omega) x hx
    simp only [Function.comp, T0.up, T0.tok, List.length_append, List.length_cons, Tok.mk.injEq, true_and]
    omega
  · refine List.map_congr_left fun x hx => ?_
    have := left_le (b.length + 1) b (by omega) x hx
    simp only [Function.comp, T0.tok, Tok.shift, List.length_append, List.length_cons, Tok.mk.injEq, true_and]
    omega

end Go.Proofs.YtphnflkjgoobmaaDoor
