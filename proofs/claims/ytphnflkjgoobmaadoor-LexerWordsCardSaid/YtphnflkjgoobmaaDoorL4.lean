/-
  Lexing as a whole, where the input is cut off, or goes on behind white space.
-/
import Derived.Test.YtphnflkjgoobmaaDoorL3
namespace Go.Proofs.YtphnflkjgoobmaaDoor
open Go.Vs

theorem tok_len (r : List UInt8) : (tokS r).2.1.length ≤ r.length := (tokS_prefix r).length_le

theorem lexR_fuel : ∀ (n m : Nat) (r : List UInt8), r.length < n → r.length < m → lexR n r = lexR m r := by
  intro n
  induction n with
  | zero => intro m r h; omega
  | succ n ih =>
    intro m r h1 h2
    obtain ⟨m, rfl⟩ : ∃ k, m = k + 1 := ⟨m - 1, by omega⟩
    simp only [lexR]
    have hl := sk_len false r
    cases hs : sk false r with
    | nil => rfl
    | cons c t =>
      rw [hs] at hl
      dsimp only
      by_cases hok : (tokS (c :: t)).2.2 = true
      · rw [if_pos hok, if_pos hok]
        have hp := tokS_pos hok
        have hq := tok_len (c :: t)
        rw [ih m _ (by simp only [List.length_drop]; omega) (by simp only [List.length_drop]; omega)]
      · rw [if_neg hok, if_neg hok]

/-- The tokens, and how much is left at an error. -/
def lexL (r : List UInt8) : List T0 × Option Nat := lexR (r.length + 1) r

theorem lexL_end {r : List UInt8} (h : sk false r = []) : lexL r = ([], none) := by
  unfold lexL
  simp only [lexR, h]

theorem lexL_bad {r : List UInt8} (h : sk false r ≠ []) (hb : (tokS (sk false r)).2.2 = false) : lexL r = ([], some (sk false r).length) := by
  unfold lexL
  simp only [lexR]
  cases hs : sk false r with
  | nil => exact absurd hs h
  | cons c t =>
    rw [hs] at hb
    dsimp only
    rw [if_neg (by simp [hb])]

/-- What is left behind the next token. -/
def behind (r : List UInt8) : List UInt8 := (sk false r).drop (tokS (sk false r)).2.1.length

def nextT (r : List UInt8) : T0 := ⟨(tokS (sk false r)).1, (tokS (sk false r)).2.1, (sk false r).length⟩

theorem behind_len {r : List UInt8} (hb : (tokS (sk false r)).2.2 = true) : (behind r).length < r.length := by
  have h1 := tokS_pos hb
  have h2 := tok_len (sk false r)
  have h3 := sk_len false r
  unfold behind
  rw [List.length_drop]
  omega

theorem lexL_good {r : List UInt8} (hb : (tokS (sk false r)).2.2 = true) : lexL r = (nextT r :: (lexL (behind r)).1, (lexL (behind r)).2) := by
  have hlt := behind_len hb
  have h3 := sk_len false r
  unfold lexL
  rw [lexR_fuel ((behind r).length + 1) r.length (behind r) (by omega) hlt]
  unfold behind nextT
  cases hs : sk false r with
  | nil => rw [hs] at hb; cases hb
  | cons c t =>
    rw [hs] at hb
    show lexR (r.length + 1) r = _
    simp only [lexR, hs]
    rw [if_pos hb]

theorem lexL_sk (r : List UInt8) : lexL (sk false r) = lexL r := by
  have hs := sk_of_solid (sk_solid false r)
  by_cases h : sk false r = []
  · rw [lexL_end h, lexL_end (by rw [h]; rfl)]
  · cases hb : (tokS (sk false r)).2.2 with
    | false => rw [lexL_bad h hb, lexL_bad (by rw [hs]; exact h) (by rw [hs]; exact hb), hs]
    | true =>
      rw [lexL_good hb, lexL_good (r := sk false r) (by rw [hs]; exact hb)]
      unfold behind nextT
      rw [hs]

/-- One step of lexing: an end, an error, or a token. -/
theorem lex_cases (r : List UInt8) : sk false r = [] ∨ (sk false r ≠ [] ∧ (tokS (sk false r)).2.2 = false) ∨ (sk false r ≠ [] ∧ (tokS (sk false r)).2.2 = true) := by
  by_cases h : sk false r = []
  · exact .inl h
  · cases hb : (tokS (sk false r)).2.2 with
    | false => exact .inr (.inl ⟨h, rfl⟩)
    | true => exact .inr (.inr ⟨h, rfl⟩)

/-! Whether a valid input ends inside a comment. -/
def finO : Nat → List UInt8 → Bool
  | 0, _ => false
  | n + 1, r => match sk false r with
    | [] => opn false r
    | c :: t => if (tokS (c :: t)).2.2 then finO n ((c :: t).drop (tokS (c :: t)).2.1.length) else false

theorem finO_end {n : Nat} {r : List UInt8} (h : sk false r = []) : finO (n + 1) r = opn false r := by
  simp only [finO, h]

theorem finO_good {n : Nat} {r : List UInt8} (hb : (tokS (sk false r)).2.2 = true) : finO (n + 1) r = finO n (behind r) := by
  unfold behind
  cases hs : sk false r with
  | nil => rw [hs] at hb; cases hb
  | cons c t =>
    rw [hs] at hb
    simp only [finO, hs]
    rw [if_pos hb]

def T0.up (k : Nat) (t : T0) : T0 := ⟨t.kind, t.text, t.left + k⟩

theorem blank47 {g : List UInt8} (hg : blankHead g = true) : ∀ c t, g = c :: t → c ≠ 47 := by
  intro c t e h
  subst e; subst h
  cases hg

/-- White space behind the input, and more behind that. -/
theorem lexL_app {g : List UInt8} (hg : blankHead g = true) : ∀ (n : Nat) (r : List UInt8), r.length < n →
    lexL (r ++ g) = match (lexL r).2 with
      | some p => ((lexL r).1.map (T0.up g.length), some (p + g.length))
      | none => ((lexL r).1.map (T0.up g.length) ++ (lexL (sk (finO n r) g)).1, (lexL (sk (finO n r) g)).2) := by
  intro n
  induction n with
  | zero => intro r h; omega
  | succ n ih =>
    intro r hr
    have ha := sk_app (blank47 hg) false r
    rcases lex_cases r with h | ⟨h, hb⟩ | ⟨h, hb⟩
    · rw [lexL_end h, finO_end h]
      rw [if_pos h] at ha
      rw [← lexL_sk (r ++ g), ha]
      simp
    · rw [if_neg h] at ha
      rw [lexL_bad h hb, lexL_bad (r := r ++ g) (by rw [ha]; simp [h]) (by rw [ha, tokS_app h hg]; exact hb), ha]
      simp
    · rw [if_neg h] at ha
      have hb2 : (tokS (sk false (r ++ g))).2.2 = true := by rw [ha, tokS_app h hg]; exact hb
      have hbe : behind (r ++ g) = behind r ++ g := by
        unfold behind
        rw [ha, tokS_app h hg, List.drop_append_of_le_length (tok_len _)]
      have hnx : nextT (r ++ g) = (nextT r).up g.length := by
        unfold nextT T0.up
        rw [ha, tokS_app h hg]
        simp
      have hlt := behind_len hb
      rw [lexL_good hb, lexL_good hb2, hbe, ih (behind r) (by omega), hnx, finO_good hb]
      cases (lexL (behind r)).2 with
      | some p => rfl
      | none => rfl

/-! The input cut off. -/
def T0.down (k : Nat) (t : T0) : T0 := ⟨t.kind, t.text, t.left - k⟩

/-- Lexing has come from here to there with these tokens. -/
inductive Cut : List UInt8 → List UInt8 → List T0 → Prop
  | here (r : List UInt8) : Cut r r []
  | skip (r : List UInt8) : Cut r (sk false r) []
  | step (r v : List UInt8) (l : List T0) (hb : (tokS (sk false r)).2.2 = true) (h : Cut (behind r) v l) : Cut r v (nextT r :: l)

theorem behind_split {r : List UInt8} : sk false r = (tokS (sk false r)).2.1 ++ behind r := by
  unfold behind
  have := List.prefix_iff_eq_append.1 (tokS_prefix (sk false r))
  exact this.symm

theorem cut_split {r v : List UInt8} {l : List T0} (h : Cut r v l) : ∃ u, r = u ++ v := by
  induction h with
  | here r => exact ⟨[], rfl⟩
  | skip r => exact (sk_split false r).imp fun p h => h.1
  | step r v l hb h ih =>
    obtain ⟨u, hu⟩ := ih
    obtain ⟨p, hp, _⟩ := sk_split false r
    have e := behind_split (r := r)
    rw [hu] at e
    refine ⟨p ++ ((tokS (sk false r)).2.1 ++ u), ?_⟩
    generalize (tokS (sk false r)).2.1 = x at *
    rw [List.append_assoc, List.append_assoc, ← e]
    exact hp

theorem sk_app_any : ∀ (m : Bool) (p r : List UInt8), sk m (p ++ r) = r → solid r = true → (∀ q, p = q ++ [47] → r.head? ≠ some 47) → sk m p = []
  | m, [], _, _, _, _ => by cases m <;> rfl
  | true, c :: t, r, h, hs, hb => by
    rw [List.cons_append] at h
    simp only [sk] at h ⊢
    split
    · rename_i hc
      rw [if_pos hc] at h
      exact sk_app_any false t r h hs fun q hq => hb (c :: q) (by rw [hq]; rfl)
    · rename_i hc
      rw [if_neg hc] at h
      exact sk_app_any true t r h hs fun q hq => hb (c :: q) (by rw [hq]; rfl)
  | false, c :: t, r, h, hs, hb => by
    rw [List.cons_append] at h
    simp only [sk] at h ⊢
    split
    · rename_i hc
      rw [if_pos hc] at h
      exact sk_app_any false t r h hs fun q hq => hb (c :: q) (by rw [hq]; rfl)
    · rename_i hc
      rw [if_neg hc] at h
      cases t with
      | nil =>
        exfalso
        rw [List.nil_append] at h
        split at h
        · rename_i h2
          rw [Bool.and_eq_true] at h2
          have hc47 : c = 47 := by simpa using h2.1
          have : r.head? = some 47 := by simpa using h2.2
          exact hb [] (by rw [hc47]; rfl) this
        · have := congrArg List.length h
          simp at this
      | cons d t' =>
        have hh : ((d :: t') ++ r).head? = (d :: t').head? := rfl
        rw [hh] at h
        split
        · rename_i h2
          rw [if_pos h2] at h
          exact sk_app_any true (d :: t') r h hs fun q hq => hb (c :: q) (by rw [hq]; rfl)
        · rename_i h2
          rw [if_neg h2] at h
          have := congrArg List.length h
          simp at this
          omega

end Go.Proofs.YtphnflkjgoobmaaDoor
