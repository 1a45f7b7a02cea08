/-
  Tokens where the input is cut off, or goes on behind white space.
-/
import Derived.Test.YtphnflkjgoobmaaDoorL2
namespace Go.Proofs.YtphnflkjgoobmaaDoor
open Go.Vs

/-- Begins with white space, if at all. -/
def blankHead : List UInt8 → Bool
  | [] => true
  | c :: _ => isB c

theorem blank_not (c : UInt8) (h : isB c = true) : isW c = false ∧ isD c = false ∧ isL c = false := by
  have := all_bytes (p := fun c => isB c = true → (isW c = false ∧ isD c = false ∧ isL c = false)) (by decide +kernel) c
  exact this h

theorem tw_app {w : UInt8 → Bool} {g : List UInt8} (hg : ∀ c t, g = c :: t → w c = false) : ∀ r : List UInt8, (r ++ g).takeWhile w = r.takeWhile w
  | [] => by
    cases g with
    | nil => rfl
    | cons c t => rw [List.nil_append, List.takeWhile_cons, hg c t rfl]; rfl
  | c :: r => by
    rw [List.cons_append, List.takeWhile_cons, List.takeWhile_cons, tw_app hg r]

theorem dw_app {w : UInt8 → Bool} {g : List UInt8} (hg : ∀ c t, g = c :: t → w c = false) : ∀ r : List UInt8, (r ++ g).dropWhile w = r.dropWhile w ++ g
  | [] => by
    cases g with
    | nil => rfl
    | cons c t => rw [List.nil_append, List.dropWhile_cons, hg c t rfl]; rfl
  | c :: r => by
    rw [List.cons_append, List.dropWhile_cons, List.dropWhile_cons]
    split
    · exact dw_app hg r
    · rfl

theorem pre_app {x r g : List UInt8} (hx : ∀ c ∈ x, isB c = false) (hg : blankHead g = true) : x.isPrefixOf (r ++ g) = x.isPrefixOf r := by
  induction x generalizing r with
  | nil => cases r <;> rfl
  | cons c x ih =>
    cases r with
    | nil =>
      cases g with
      | nil => rfl
      | cons d g =>
        have h1 : isB d = true := hg
        have h2 := hx c (by simp)
        have h3 : (c == d) = false := by
          rw [Bool.eq_false_iff]
          intro e
          rw [beq_iff_eq] at e
          rw [e, h1] at h2; cases h2
        show (c == d && _) = false
        rw [h3]; rfl
    | cons d r =>
      show (c == d && x.isPrefixOf (r ++ g)) = (c == d && x.isPrefixOf r)
      rw [ih fun e he => hx e (by simp [he])]

theorem firstOf_app {r g : List UInt8} (hg : blankHead g = true) : ∀ l : List (List UInt8), (∀ x ∈ l, ∀ c ∈ x, isB c = false) → firstOf (r ++ g) l = firstOf r l
  | [], _ => rfl
  | x :: l, h => by
    simp only [firstOf]
    rw [pre_app (h x (by simp)) hg, firstOf_app hg l fun y hy => h y (by simp [hy])]

theorem syms_solid : ∀ x ∈ syms, ∀ c ∈ x, isB c = false := by decide +kernel

theorem edge_app {r g : List UInt8} (hg : blankHead g = true) : edge (r ++ g) = edge r := by
  cases r with
  | cons => rfl
  | nil =>
    cases g with
    | nil => rfl
    | cons c g =>
      show (!isW c) = true
      rw [(blank_not c hg).1]; rfl

/-- White space behind it changes no token. -/
theorem tokS_app {r g : List UInt8} (hr : r ≠ []) (hg : blankHead g = true) : tokS (r ++ g) = tokS r := by
  cases r with
  | nil => exact absurd rfl hr
  | cons c t =>
    have hw : ∀ d t, g = d :: t → isW d = false := fun d t e => (blank_not d (by rw [e] at hg; exact hg)).1
    have hd : ∀ d t, g = d :: t → isD d = false := fun d t e => (blank_not d (by rw [e] at hg; exact hg)).2.1
    have h1 := tw_app hw (c :: t)
    have h2 := tw_app hd (c :: t)
    have h3 := dw_app hd (c :: t)
    have h4 := firstOf_app (r := c :: t) hg syms syms_solid
    rw [List.cons_append] at h1 h2 h3 h4 ⊢
    simp only [tokS]
    rw [h1, h2, h3, h4, edge_app hg]

/-! Where the input is cut off behind a token. -/
theorem tw_cut {w : UInt8 → Bool} : ∀ (u r : List UInt8), ((u ++ r).takeWhile w).length ≤ u.length → u.takeWhile w = (u ++ r).takeWhile w ∧ (u.dropWhile w ++ r = (u ++ r).dropWhile w)
  | [], r, h => by
    have : r.takeWhile w = [] := List.length_eq_zero_iff.1 (by simpa using h)
    refine ⟨by simp [this], ?_⟩
    cases r with
    | nil => rfl
    | cons c r =>
      rw [List.takeWhile_cons] at this
      split at this
      · cases this
      · rename_i hc; simp [hc]
  | c :: u, r, h => by
    rw [List.cons_append, List.takeWhile_cons] at h
    rw [List.cons_append, List.takeWhile_cons, List.takeWhile_cons, List.dropWhile_cons, List.dropWhile_cons]
    split
    · rename_i hc
      rw [if_pos hc] at h
      obtain ⟨h1, h2⟩ := tw_cut u r (by simpa using h)
      exact ⟨by rw [h1], h2⟩
    · exact ⟨rfl, rfl⟩

theorem pre_cut {x u r : List UInt8} (h : x.length ≤ u.length) : x.isPrefixOf (u ++ r) = x.isPrefixOf u := by
  rw [Bool.eq_iff_iff, List.isPrefixOf_iff_prefix, List.isPrefixOf_iff_prefix]
  constructor
  · intro k
    exact List.prefix_of_prefix_length_le k (List.prefix_append u r) h
  · intro k
    exact k.trans (List.prefix_append u r)

theorem firstOf_cut {u r : List UInt8} : ∀ l : List (List UInt8), (firstOf (u ++ r) l).length ≤ u.length → firstOf (u ++ r) l ≠ [] → firstOf u l = firstOf (u ++ r) l
  | [], _, h => absurd rfl h
  | x :: l, h, hn => by
    simp only [firstOf] at h hn ⊢
    by_cases hp : x.isPrefixOf (u ++ r) = true
    · rw [if_pos hp] at h ⊢
      rw [if_pos (by rw [← pre_cut h]; exact hp)]
    · rw [if_neg hp] at h hn ⊢
      rw [if_neg, firstOf_cut l h hn]
      intro q
      exact hp (List.isPrefixOf_iff_prefix.2 ((List.isPrefixOf_iff_prefix.1 q).trans (List.prefix_append u r)))

/-- A valid token remains one if the input is cut off behind it. -/
theorem tokS_cut {u r : List UInt8} (hu : u ≠ []) (h : (tokS (u ++ r)).2.2 = true) (hl : (tokS (u ++ r)).2.1.length ≤ u.length) : tokS u = tokS (u ++ r) := by
  cases u with
  | nil => exact absurd rfl hu
  | cons c t =>
    rw [List.cons_append] at h hl ⊢
    simp only [tokS] at h hl ⊢
    split
    · rename_i hc
      rw [if_pos hc] at h hl
      have := (tw_cut (w := isW) (c :: t) r hl).1
      rw [List.cons_append] at this
      rw [this]
    · rename_i hc
      rw [if_neg hc] at h hl
      split
      · rename_i hd
        rw [if_pos hd] at h hl
        obtain ⟨h1, h2⟩ := tw_cut (w := isD) (c :: t) r hl
        rw [List.cons_append] at h1 h2
        simp only [Bool.and_eq_true] at h
        have h3 := h.2
        have he : edge ((c :: t).dropWhile isD) = true := by
          cases hdw : (c :: t).dropWhile isD with
          | nil => rfl
          | cons d t' =>
            rw [← h2, hdw] at h3
            exact h3
        rw [h1, he, h3]
      · rename_i hd
        rw [if_neg hd] at h hl
        have hn : firstOf ((c :: t) ++ r) syms ≠ [] := by
          rw [List.cons_append]
          simpa using h
        have := firstOf_cut (u := c :: t) (r := r) syms hl hn
        rw [List.cons_append] at this
        rw [this]

/-- The text of a token stands where it starts. -/
theorem tokS_prefix (r : List UInt8) : (tokS r).2.1 <+: r := by
  cases r with
  | nil => exact List.nil_prefix
  | cons c t =>
    simp only [tokS]
    split
    · exact List.takeWhile_prefix _
    · split
      · exact List.takeWhile_prefix _
      · exact (firstOf_prop syms (by decide +kernel)).1

theorem tokS_pos {r : List UInt8} (h : (tokS r).2.2 = true) : 0 < (tokS r).2.1.length := by
  cases r with
  | nil => cases h
  | cons c t =>
    simp only [tokS] at h ⊢
    split
    · rename_i hc
      have : isW c = true := by simp [isW, hc]
      simp [this]
    · rename_i hc
      split
      · rename_i hd
        simp [hd]
      · rename_i hd
        rw [if_neg hc, if_neg hd] at h
        cases hf : firstOf (c :: t) syms with
        | nil => rw [hf] at h; cases h
        | cons => simp

end Go.Proofs.YtphnflkjgoobmaaDoor
