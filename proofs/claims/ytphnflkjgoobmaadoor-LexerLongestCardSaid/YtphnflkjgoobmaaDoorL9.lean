/-
  Tokens are as long as they can be.
-/
import Derived.Test.YtphnflkjgoobmaaDoorL7
namespace Go.Proofs.YtphnflkjgoobmaaDoor
open Go.Vs

theorem syms_tidy : ∀ x ∈ syms, ∀ c ∈ x, isB c = false ∧ c ≠ 47 := by decide +kernel

theorem word_tidy (c : UInt8) (h : isW c = true ∨ isD c = true) : isB c = false ∧ c ≠ 47 :=
  all_bytes (p := fun c => (isW c = true ∨ isD c = true) → (isB c = false ∧ c ≠ 47)) (by decide +kernel) c h

theorem tok_tidy (r : List UInt8) : ∀ c ∈ (tokS r).2.1, isB c = false ∧ c ≠ 47 := by
  intro c hc
  cases r with
  | nil => cases hc
  | cons d t =>
    simp only [tokS] at hc
    split at hc
    · exact word_tidy c (.inl (tw_all hc))
    · split at hc
      · exact word_tidy c (.inr (tw_all hc))
      · rcases firstOf_mem (d :: t) syms with h | ⟨h, _⟩
        · simp only [h] at hc; cases hc
        · exact syms_tidy _ h c hc

theorem tidy_solid {c : UInt8} {t : List UInt8} (h : isB c = false ∧ c ≠ 47) : sk false (c :: t) = c :: t := by
  refine sk_of_solid ?_
  have : (c == 47) = false := by simpa using h.2
  simp [solid, h.1, this]

theorem tw_whole {w : UInt8 → Bool} {x v : List UInt8} (h : x.takeWhile w = x) : x.length ≤ ((x ++ v).takeWhile w).length := by
  induction x with
  | nil => simp
  | cons c x ih =>
    rw [List.takeWhile_cons] at h
    split at h
    · rename_i hc
      have := ih (List.cons.inj h).2
      rw [List.cons_append, List.takeWhile_cons, if_pos hc]
      simp only [List.length_cons]
      omega
    · cases h

/-- A text that is a whole token is no longer than the token that starts where it stands. -/
theorem tok_max {x v : List UInt8} (hx : x ≠ []) (h : (tokS x).2.1 = x) : x.length ≤ (tokS (x ++ v)).2.1.length := by
  cases x with
  | nil => exact absurd rfl hx
  | cons c t =>
    rw [List.cons_append]
    simp only [tokS] at h ⊢
    split
    · rename_i hc
      rw [if_pos hc] at h
      have := tw_whole (v := v) h
      rw [List.cons_append] at this
      exact this
    · rename_i hc
      rw [if_neg hc] at h
      split
      · rename_i hd
        rw [if_pos hd] at h
        have := tw_whole (v := v) h
        rw [List.cons_append] at this
        exact this
      · rename_i hd
        rw [if_neg hd] at h
        simp only at h ⊢
        have hm : c :: t ∈ syms := by
          rcases firstOf_mem (c :: t) syms with q | ⟨q, _⟩
          · rw [q] at h; cases h
          · rw [h] at q; exact q
        have := (firstOf_prop (r := c :: (t ++ v)) syms (by decide +kernel)).2.1 _ hm ⟨v, rfl⟩
        exact this

theorem longest_step {r : List UInt8} (hb : (tokS (sk false r)).2.2 = true) {c : UInt8} {w : List UInt8} (hw : behind r = c :: w) (hc : isB c = false ∧ c ≠ 47) (he : (lexL ((nextT r).text ++ [c])).2 = none) : 2 ≤ (lexL ((nextT r).text ++ [c])).1.length := by
  have hbe := behind_split (r := r)
  have hvt := vtok_next hb
  have hx : (nextT r).text = (tokS (sk false r)).2.1 := rfl
  have htd := tok_tidy (sk false r)
  rw [← hx] at hbe htd
  rw [hw] at hbe
  have htok : (tokS (sk false r)).2.1 = (nextT r).text := rfl
  rw [hbe] at htok
  generalize (nextT r).text = x at *
  obtain ⟨d, t, hxd, hd1, hd2⟩ := hvt.hd
  have hs : sk false (x ++ [c]) = x ++ [c] := by
    rw [hxd, List.cons_append]
    exact tidy_solid ⟨hd1, hd2⟩
  rcases lex_cases (x ++ [c]) with h | ⟨h, hq⟩ | ⟨h, hq⟩
  · rw [hs] at h; simp at h
  · rw [lexL_bad h hq] at he; cases he
  · rw [lexL_good hq] at he ⊢
    have hle := tok_len (sk false (x ++ [c]))
    have hbs := behind_split (r := x ++ [c])
    have hpre := tokS_prefix (sk false (x ++ [c]))
    rw [hs] at hle hbs hpre
    have hlt : (tokS (x ++ [c])).2.1.length < (x ++ [c]).length := by
      rcases Nat.lt_or_ge (tokS (x ++ [c])).2.1.length (x ++ [c]).length with q | q
      · exact q
      · exfalso
        have e : (tokS (x ++ [c])).2.1 = x ++ [c] := by
          obtain ⟨z, hz⟩ := hpre
          have := congrArg List.length hz
          rw [List.length_append] at this
          have hz0 : z = [] := List.length_eq_zero_iff.1 (by omega)
          rw [hz0, List.append_nil] at hz
          exact hz
        have := tok_max (v := w) (by simp) e
        rw [List.append_assoc, List.singleton_append, htok, List.length_append] at this
        simp at this
        omega
    have hne : behind (x ++ [c]) ≠ [] := by
      intro e
      have := congrArg List.length hbs
      rw [e] at this
      simp only [List.length_append, List.length_nil] at this hlt
      omega
    have hmem : ∀ y ∈ behind (x ++ [c]), isB y = false ∧ y ≠ 47 := by
      intro y hy
      have : y ∈ x ++ [c] := by rw [hbs]; simp [hy]
      rcases List.mem_append.1 this with q | q
      · exact htd y q
      · have : y = c := by simpa using q
        rw [this]; exact hc
    simp only [List.length_cons]
    rcases lex_cases (behind (x ++ [c])) with g | ⟨g, gq⟩ | ⟨g, gq⟩
    · exfalso
      cases hbb : behind (x ++ [c]) with
      | nil => exact hne hbb
      | cons y ys =>
        rw [hbb, tidy_solid (hmem y (by rw [hbb]; simp))] at g
        cases g
    · rw [lexL_bad g gq] at he; cases he
    · rw [lexL_good gq]; simp

theorem longest0 : ∀ (n : Nat) (r : List UInt8) (i : Nat), r.length < n → (hi : i + 1 < (lexL r).1.length) → (lexL r).1[i].left = (lexL r).1[i].text.length + (lexL r).1[i + 1].left →
    ∀ c t, (lexL r).1[i + 1].text = c :: t → (lexL ((lexL r).1[i].text ++ [c])).2 = none → 2 ≤ (lexL ((lexL r).1[i].text ++ [c])).1.length := by
  intro n
  induction n with
  | zero => intro r i h; omega
  | succ n ih =>
    intro r i hn hi ha c t hc he
    rcases lex_cases r with h | ⟨h, hb⟩ | ⟨h, hb⟩
    · rw [lexL_end h] at hi; simp at hi
    · rw [lexL_bad h hb] at hi; simp at hi
    · have hg := lexL_good hb
      have hlt := behind_len hb
      cases i with
      | succ i =>
        have hi2 : i + 1 < (lexL (behind r)).1.length := by rw [hg] at hi; simpa using hi
        simp only [hg, List.getElem_cons_succ] at ha hc he ⊢
        exact ih (behind r) i (by omega) hi2 ha c t hc he
      | zero =>
        have hi2 : 0 < (lexL (behind r)).1.length := by rw [hg] at hi; simpa using hi
        simp only [hg, List.getElem_cons_zero, List.getElem_cons_succ] at ha hc he ⊢
        rcases lex_cases (behind r) with g | ⟨g, gb⟩ | ⟨g, gb⟩
        · rw [lexL_end g] at hi2; simp at hi2
        · rw [lexL_bad g gb] at hi2; simp at hi2
        · have hg2 := lexL_good gb
          simp only [hg2, List.getElem_cons_zero] at ha hc
          have hsk : sk false (behind r) = behind r := by
            obtain ⟨p, hp, _⟩ := sk_split false (behind r)
            have hbe := behind_split (r := r)
            have h1 : (nextT r).left = (sk false r).length := rfl
            have h2 : (nextT (behind r)).left = (sk false (behind r)).length := rfl
            have h3 : (nextT r).text = (tokS (sk false r)).2.1 := rfl
            have h4 := congrArg List.length hbe
            rw [List.length_append] at h4
            have h5 := congrArg List.length hp
            rw [List.length_append] at h5
            have hp0 : p = [] := List.length_eq_zero_iff.1 (by rw [h1, h2, h3] at ha; omega)
            rw [hp0, List.nil_append] at hp
            exact hp.symm
          have hpre := tokS_prefix (sk false (behind r))
          have h6 : (tokS (sk false (behind r))).2.1 = c :: t := hc
          have htd := tok_tidy (sk false (behind r)) c (by rw [h6]; simp)
          rw [h6, hsk] at hpre
          obtain ⟨w, hw⟩ := hpre
          exact longest_step hb (w := t ++ w) (by rw [← hw]; rfl) htd he

end Go.Proofs.YtphnflkjgoobmaaDoor
