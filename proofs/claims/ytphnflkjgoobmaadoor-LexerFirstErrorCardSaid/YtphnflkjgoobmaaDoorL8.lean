/-
  Lexing an input that is cut off at an error or behind a token.
-/
import Derived.Test.YtphnflkjgoobmaaDoorL7
namespace Go.Proofs.YtphnflkjgoobmaaDoor
open Go.Vs

theorem sk_true_lt (w : List UInt8) (h : w ≠ []) : (sk true w).length < w.length := by
  cases w with
  | nil => exact absurd rfl h
  | cons c t =>
    simp only [sk]
    split
    · have := sk_len false t; simp only [List.length_cons]; omega
    · have := sk_len true t; simp only [List.length_cons]; omega

/-- The white space ahead is passed, whatever token text follows. -/
theorem sk_ahead {q w : List UInt8} (hq : sk false q = []) (hr : ∃ z, sk false (q ++ (w ++ z)) = w ++ z) (hw : ∃ c t, w = c :: t ∧ isB c = false ∧ c ≠ 47) : sk false (q ++ w) = w := by
  obtain ⟨z, hz⟩ := hr
  obtain ⟨c, t, rfl, hb, h47⟩ := hw
  have h1 : ∀ d u, (c :: t) ++ z = d :: u → d ≠ 47 := by
    intro d u e
    rw [List.cons_append] at e
    rw [← (List.cons.inj e).1]; exact h47
  have h2 : ∀ d u, c :: t = d :: u → d ≠ 47 := by
    intro d u e
    rw [← (List.cons.inj e).1]; exact h47
  have ho : opn false q = false := by
    cases ho : opn false q with
    | false => rfl
    | true =>
      exfalso
      rw [sk_app h1 false q, if_pos hq, ho] at hz
      have := sk_true_lt ((c :: t) ++ z) (by simp)
      rw [hz] at this
      omega
  rw [sk_app h2 false q, if_pos hq, ho]
  refine sk_of_solid ?_
  have : (c == 47) = false := by simpa using h47
  simp [solid, hb, this]

/-- One token, and what is kept of the rest. -/
theorem cut_step {r u v : List UInt8} (hb : (tokS (sk false r)).2.2 = true) (hv : behind r = u ++ v) :
    ∃ q, r = (q ++ ((nextT r).text ++ u)) ++ v ∧ lexL (q ++ ((nextT r).text ++ u)) = (⟨(nextT r).kind, (nextT r).text, ((nextT r).text ++ u).length⟩ :: (lexL u).1, (lexL u).2) ∧ (nextT r).left = (nextT r).text.length + u.length + v.length := by
  obtain ⟨q, hq, hq2⟩ := sk_split false r
  have hbe := behind_split (r := r)
  have hvt := (vtok_next hb).hd
  have hpos := tokS_pos hb
  have hx : (nextT r).text = (tokS (sk false r)).2.1 := rfl
  rw [hv] at hbe
  have hw : ∃ c t, (nextT r).text ++ u = c :: t ∧ isB c = false ∧ c ≠ 47 := by
    obtain ⟨c, t, e, h1, h2⟩ := hvt
    exact ⟨c, t ++ u, by rw [e]; rfl, h1, h2⟩
  have hsk : sk false (q ++ ((nextT r).text ++ u)) = (nextT r).text ++ u := by
    refine sk_ahead hq2 ⟨v, ?_⟩ hw
    rw [hx, List.append_assoc, ← hbe, ← hq]
  refine ⟨q, ?_, ?_, ?_⟩
  · conv => lhs; rw [hq]
    rw [hbe, hx]
    simp [List.append_assoc]
  · have hne : (nextT r).text ++ u ≠ [] := by
      obtain ⟨c, t, e, _⟩ := hw
      rw [e]; simp
    have hcut := tokS_cut (u := (nextT r).text ++ u) (r := v) hne (by rw [hx, List.append_assoc, ← hbe]; exact hb) (by rw [hx, List.append_assoc, ← hbe]; simp)
    rw [hx, List.append_assoc, ← hbe, ← hx] at hcut
    have hb' : (tokS (sk false (q ++ ((nextT r).text ++ u)))).2.2 = true := by rw [hsk, hcut]; exact hb
    rw [lexL_good hb']
    have hbu : behind (q ++ ((nextT r).text ++ u)) = u := by
      unfold behind
      rw [hsk, hcut, ← hx]
      simp
    rw [hbu]
    congr 1
    congr 1
    show (⟨(tokS (sk false (q ++ ((nextT r).text ++ u)))).1, (tokS (sk false (q ++ ((nextT r).text ++ u)))).2.1, (sk false (q ++ ((nextT r).text ++ u))).length⟩ : T0) = _
    rw [hsk, hcut]
    rfl
  · show (sk false r).length = _
    rw [hbe, ← hx]
    simp only [List.length_append]
    omega

/-- At an error: what stands before it is valid, and it stays where it is. -/
theorem err_cut : ∀ (n : Nat) (r : List UInt8) (p : Nat), r.length < n → (lexL r).2 = some p → ∃ u v, r = u ++ v ∧ v.length = p ∧ (lexL u).2 = none ∧ lexL v = ([], some v.length) := by
  intro n
  induction n with
  | zero => intro r p h; omega
  | succ n ih =>
    intro r p hn he
    rcases lex_cases r with h | ⟨h, hb⟩ | ⟨h, hb⟩
    · rw [lexL_end h] at he; cases he
    · rw [lexL_bad h hb] at he
      cases he
      obtain ⟨q, hq, hq2⟩ := sk_split false r
      refine ⟨q, sk false r, hq, rfl, by rw [lexL_end hq2], ?_⟩
      rw [lexL_sk, lexL_bad h hb]
    · rw [lexL_good hb] at he
      have hlt := behind_len hb
      obtain ⟨u, v, h1, h2, h3, h4⟩ := ih (behind r) p (by omega) he
      obtain ⟨q, g1, g2, _⟩ := cut_step hb h1
      exact ⟨_, v, g1, h2, by rw [g2]; exact h3, h4⟩

/-- Behind a token: the tokens up to it are left. -/
theorem ok_cut : ∀ (n : Nat) (r : List UInt8) (k : Nat), r.length < n → (hk : k < (lexL r).1.length) →
    ∃ u v, r = u ++ v ∧ (lexL r).1[k].left = (lexL r).1[k].text.length + v.length ∧ (lexL u).2 = none ∧ (lexL u).1.map (T0.up v.length) = (lexL r).1.take (k + 1) := by
  intro n
  induction n with
  | zero => intro r k h; omega
  | succ n ih =>
    intro r k hn hk
    rcases lex_cases r with h | ⟨h, hb⟩ | ⟨h, hb⟩
    · rw [lexL_end h] at hk; simp at hk
    · rw [lexL_bad h hb] at hk; simp at hk
    · have hg := lexL_good hb
      have hlt := behind_len hb
      cases k with
      | zero =>
        obtain ⟨q, g1, g2, g3⟩ := cut_step (u := []) (v := behind r) hb rfl
        have h0 : lexL ([] : List UInt8) = ([], none) := lexL_end rfl
        refine ⟨_, behind r, g1, ?_, by rw [g2, h0], ?_⟩
        · simp only [hg, List.getElem_cons_zero]
          rw [g3]; simp
        · rw [g2, h0, hg]
          simp only [List.map_cons, List.map_nil, T0.up, List.append_nil, Nat.zero_add, List.take_succ_cons, List.take_zero, List.cons.injEq, and_true]
          simp only [List.length_nil, Nat.add_zero] at g3
          rw [← g3]
      | succ k =>
        have hk2 : k < (lexL (behind r)).1.length := by rw [hg] at hk; simpa using hk
        obtain ⟨u, v, h1, h2, h3, h4⟩ := ih (behind r) k (by omega) hk2
        obtain ⟨q, g1, g2, g3⟩ := cut_step hb h1
        refine ⟨_, v, g1, ?_, by rw [g2]; exact h3, ?_⟩
        · simp only [hg, List.getElem_cons_succ]
          exact h2
        · rw [g2, hg]
          simp only [List.map_cons, List.take_succ_cons, h4, T0.up, List.cons.injEq, and_true]
          rw [List.length_append, ← g3]

theorem err_cut_at {t : List UInt8} {p : Nat} (he : (lexL t).2 = some p) :
    (lexL (t.take (t.length - p))).2 = none ∧ lexL (t.drop (t.length - p)) = ([], some (t.drop (t.length - p)).length) := by
  obtain ⟨u, v, h1, h2, h3, h4⟩ := err_cut (t.length + 1) t p (by omega) he
  have hl : t.length - p = u.length := by rw [h1, List.length_append]; omega
  rw [hl]
  have e1 : t.take u.length = u := by rw [h1]; simp
  have e2 : t.drop u.length = v := by rw [h1]; simp
  rw [e1, e2]
  exact ⟨h3, h4⟩

theorem ok_cut_at {t : List UInt8} {k : Nat} (hk : k < ((lexL t).1.map (T0.tok t.length)).length) :
    let x := ((lexL t).1.map (T0.tok t.length))[k]
    x.at_ + x.text.length ≤ t.length ∧ (lexL (t.take (x.at_ + x.text.length))).2 = none ∧
      (lexL (t.take (x.at_ + x.text.length))).1.map (T0.tok (t.take (x.at_ + x.text.length)).length) = ((lexL t).1.map (T0.tok t.length)).take (k + 1) := by
  intro x
  have hk2 : k < (lexL t).1.length := by simpa using hk
  obtain ⟨u, v, h1, h2, h3, h4⟩ := ok_cut (t.length + 1) t k (by omega) hk2
  have hle := left_le (t.length + 1) t (by omega) _ (List.getElem_mem hk2)
  have hx : x = T0.tok t.length (lexL t).1[k] := by simp [x]
  have htl : t.length = u.length + v.length := by rw [h1, List.length_append]
  have hend : x.at_ + x.text.length = u.length := by
    rw [hx]
    simp only [T0.tok]
    omega
  rw [hend]
  have e1 : t.take u.length = u := by rw [h1]; simp
  rw [e1]
  refine ⟨by omega, h3, ?_⟩
  rw [← List.map_take, ← h4, List.map_map]
  refine List.map_congr_left fun y hy => ?_
  simp only [Function.comp, T0.tok, T0.up, Tok.mk.injEq, true_and]
  omega

end Go.Proofs.YtphnflkjgoobmaaDoor
