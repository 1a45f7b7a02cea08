/-
  Lexing the texts of tokens that white space and comments part.
-/
import Derived.Test.YtphnflkjgoobmaaDoorQ2
namespace Go.Proofs.YtphnflkjgoobmaaDoor
open Go.Vs

/-- A text that is a valid token by itself. -/
structure VTok (k : Int) (x : List UInt8) : Prop where
  tok : tokS x = (k, x, true)
  hd : ∃ c t, x = c :: t ∧ isB c = false ∧ c ≠ 47

theorem syms47 : ∀ x ∈ syms, x.head? ≠ some 47 := by decide +kernel

theorem firstOf_mem (r : List UInt8) : ∀ l : List (List UInt8), firstOf r l = [] ∨ (firstOf r l ∈ l ∧ firstOf r l <+: r)
  | [] => .inl rfl
  | x :: l => by
    simp only [firstOf]
    split
    · rename_i h
      exact .inr ⟨by simp, List.isPrefixOf_iff_prefix.1 h⟩
    · rcases firstOf_mem r l with h | ⟨h1, h2⟩
      · exact .inl h
      · exact .inr ⟨List.mem_cons_of_mem _ h1, h2⟩

theorem prefix_head {c : UInt8} {x t : List UInt8} (h : x <+: c :: t) (hx : x ≠ []) : ∃ u, x = c :: u := by
  obtain ⟨r, hr⟩ := h
  cases x with
  | nil => exact absurd rfl hx
  | cons d u => exact ⟨u, by rw [List.cons_append] at hr; rw [(List.cons.inj hr).1]⟩

theorem tok_not47 {c : UInt8} {t : List UInt8} (h : (tokS (c :: t)).2.2 = true) : c ≠ 47 := by
  intro e
  subst e
  have h1 : isL 47 = false := rfl
  have h2 : isD 47 = false := rfl
  simp only [tokS, h1, h2, Bool.false_eq_true, if_false] at h
  rcases firstOf_mem (47 :: t) syms with h3 | ⟨h3, h4⟩
  · rw [h3] at h; cases h
  · by_cases hx : firstOf (47 :: t) syms = []
    · rw [hx] at h; cases h
    · obtain ⟨u, hu⟩ := prefix_head h4 hx
      have := syms47 _ h3
      rw [hu] at this
      exact this rfl

theorem vtok_next {r : List UInt8} (hb : (tokS (sk false r)).2.2 = true) : VTok (nextT r).kind (nextT r).text := by
  have hs := sk_solid false r
  have hbe := behind_split (r := r)
  have hpos := tokS_pos hb
  have hpre := tokS_prefix (sk false r)
  unfold nextT
  generalize sk false r = u at *
  generalize behind r = v at *
  have hx : (tokS u).2.1 ≠ [] := by intro e; rw [e] at hpos; simp at hpos
  cases u with
  | nil => cases hb
  | cons c t =>
    obtain ⟨w, hw⟩ := prefix_head hpre hx
    have h47 := tok_not47 hb
    simp only [solid, Bool.and_eq_true, Bool.not_eq_true'] at hs
    refine ⟨?_, c, w, hw, hs.1, h47⟩
    have := tokS_cut (u := (tokS (c :: t)).2.1) (r := v) hx (by rw [← hbe]; exact hb) (by rw [← hbe]; exact Nat.le_refl _)
    rw [← hbe] at this
    show tokS (tokS (c :: t)).2.1 = _
    rw [this]
    generalize tokS (c :: t) = T at *
    obtain ⟨k, x, ok⟩ := T
    simp only at hb
    subst hb
    rfl

theorem vtok_all : ∀ (n : Nat) (r : List UInt8), r.length < n → ∀ x ∈ (lexL r).1, VTok x.kind x.text := by
  intro n
  induction n with
  | zero => intro r h; omega
  | succ n ih =>
    intro r hn x hx
    rcases lex_cases r with h | ⟨h, hb⟩ | ⟨h, hb⟩
    · rw [lexL_end h] at hx; cases hx
    · rw [lexL_bad h hb] at hx; cases hx
    · rw [lexL_good hb] at hx
      have hlt := behind_len hb
      rcases List.mem_cons.1 hx with rfl | hx
      · exact vtok_next hb
      · exact ih (behind r) (by omega) x hx

theorem lexL_vtok {k : Int} {x g : List UInt8} (h : VTok k x) (hg : blankHead g = true) : lexL (x ++ g) = (⟨k, x, (x ++ g).length⟩ :: (lexL g).1, (lexL g).2) := by
  obtain ⟨ht, c, t, rfl, hb, h47⟩ := h
  have hs : sk false ((c :: t) ++ g) = (c :: t) ++ g := by
    refine sk_of_solid ?_
    rw [List.cons_append]
    simp only [solid, hb, Bool.not_false, Bool.true_and]
    have : (c == 47) = false := by simpa using h47
    rw [this]; rfl
  have happ := tokS_app (r := c :: t) (g := g) (by simp) hg
  rw [ht] at happ
  have hgood : (tokS (sk false ((c :: t) ++ g))).2.2 = true := by rw [hs, happ]
  rw [lexL_good hgood]
  unfold nextT behind
  rw [hs, happ]
  simp

def gapsL : List (List UInt8) := [[32], [10], [32, 9, 13, 10], [32, 47, 47, 120, 10], [10, 47, 47, 32, 97, 32, 47, 32, 98, 32, 47, 47, 32, 10, 10]]

theorem gap_sk : ∀ g ∈ gapsL, ∀ r, blankHead (g ++ r) = true ∧ sk false (g ++ r) = sk false r := by
  intro g hg r
  simp only [gapsL, List.mem_cons, List.not_mem_nil, or_false] at hg
  rcases hg with rfl | rfl | rfl | rfl | rfl <;> exact ⟨rfl, rfl⟩

theorem lexL_gap {g : List UInt8} (hg : g ∈ gapsL) (r : List UInt8) : lexL (g ++ r) = lexL r := by
  rw [← lexL_sk, (gap_sk g hg r).2, lexL_sk]

def joined (ps : List (List UInt8 × List UInt8)) : List UInt8 := ps.flatMap fun p => p.1 ++ p.2

theorem lexL_joined : ∀ (ps : List (List UInt8 × List UInt8)) (ks : List (Int × List UInt8)), ks.map (·.2) = ps.map (·.1) → (∀ p ∈ ps, p.2 ∈ gapsL) → (∀ k ∈ ks, VTok k.1 k.2) →
    (lexL (joined ps)).2 = none ∧ (lexL (joined ps)).1.map (fun x => (x.kind, x.text)) = ks
  | [], [], _, _, _ => by
    have : joined [] = [] := rfl
    rw [this, lexL_end rfl]
    exact ⟨rfl, rfl⟩
  | [], _ :: _, h, _, _ => by cases h
  | _ :: _, [], h, _, _ => by cases h
  | p :: ps, k :: ks, h, hg, hv => by
    simp only [List.map_cons, List.cons.injEq] at h
    obtain ⟨h1, h2⟩ := lexL_joined ps ks h.2 (fun q hq => hg q (by simp [hq])) (fun q hq => hv q (by simp [hq]))
    have hg1 := hg p (by simp)
    have hv1 := hv k (by simp)
    have e : joined (p :: ps) = k.2 ++ (p.2 ++ joined ps) := by
      show (p.1 ++ p.2) ++ joined ps = _
      rw [List.append_assoc, h.1]
    rw [e, lexL_vtok hv1 (gap_sk _ hg1 _).1, lexL_gap hg1]
    exact ⟨h1, by simp only [List.map_cons, h2]⟩

end Go.Proofs.YtphnflkjgoobmaaDoor
