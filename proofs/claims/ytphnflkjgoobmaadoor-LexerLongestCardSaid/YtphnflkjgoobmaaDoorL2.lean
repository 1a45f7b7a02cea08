/-
  How lexing behaves where the input is cut off, or goes on behind white space.
-/
import Derived.Test.YtphnflkjgoobmaaDoorL1
import Derived.Test.YtphnflkjgoobmaaDoorE7
namespace Go.Proofs.YtphnflkjgoobmaaDoor
open Go.Vs

/-! What is passed is white space and comments. -/
theorem sk_split : ∀ (m : Bool) (r : List UInt8), ∃ p, r = p ++ sk m r ∧ sk m p = []
  | _, [] => ⟨[], by cases ‹Bool› <;> rfl, by cases ‹Bool› <;> rfl⟩
  | true, c :: t => by
    simp only [sk]
    split
    · rename_i h
      obtain ⟨p, h1, h2⟩ := sk_split false t
      exact ⟨c :: p, by rw [List.cons_append, ← h1], by simp only [sk, h, if_true, h2]⟩
    · rename_i h
      obtain ⟨p, h1, h2⟩ := sk_split true t
      exact ⟨c :: p, by rw [List.cons_append, ← h1], by simp only [sk, h, if_false, h2, Bool.false_eq_true]⟩
  | false, c :: t => by
    simp only [sk]
    split
    · rename_i h
      obtain ⟨p, h1, h2⟩ := sk_split false t
      exact ⟨c :: p, by rw [List.cons_append, ← h1], by simp only [sk, h, if_true, h2]⟩
    · rename_i h
      split
      · rename_i hc
        obtain ⟨p, h1, h2⟩ := sk_split true t
        have hp : (p.head? == some 47) = true := by
          rw [Bool.and_eq_true] at hc
          cases t with
          | nil => cases hc.2
          | cons d t' =>
            have hd : d = 47 := by simpa using hc.2
            subst hd
            cases p with
            | nil =>
              exfalso
              have e : sk true ((47 : UInt8) :: t') = sk true t' := rfl
              rw [List.nil_append, e] at h1
              obtain ⟨q, k1, _⟩ := sk_split true t'
              have l1 := congrArg List.length h1
              have l2 := congrArg List.length k1
              simp at l1 l2
              omega
            | cons e p' =>
              rw [List.cons_append] at h1
              have := (List.cons.inj h1).1
              rw [← this]; rfl
        refine ⟨c :: p, by rw [List.cons_append, ← h1], ?_⟩
        rw [Bool.and_eq_true] at hc
        simp only [sk, h, Bool.false_eq_true, if_false, hc.1, hp, Bool.and_self, if_true, h2]
      · exact ⟨[], rfl, rfl⟩
termination_by _ r => r.length

theorem sk_len (m : Bool) (r : List UInt8) : (sk m r).length ≤ r.length := by
  obtain ⟨p, h, _⟩ := sk_split m r
  have := congrArg List.length h
  simp at this
  omega

/-- What skipping leaves begins with no white space and no comment. -/
def solid : List UInt8 → Bool
  | [] => true
  | c :: t => !isB c && !(c == 47 && t.head? == some 47)

theorem sk_solid : ∀ (m : Bool) (r : List UInt8), solid (sk m r) = true
  | m, [] => by cases m <;> rfl
  | true, c :: t => by
    simp only [sk]
    split
    · exact sk_solid false t
    · exact sk_solid true t
  | false, c :: t => by
    simp only [sk]
    split
    · exact sk_solid false t
    · split
      · exact sk_solid true t
      · rename_i h1 h2
        simp only [solid]
        simp only [Bool.not_eq_true] at h1 h2
        rw [h1, h2]; rfl

theorem sk_of_solid {r : List UInt8} (h : solid r = true) : sk false r = r := by
  cases r with
  | nil => rfl
  | cons c t =>
    simp only [solid, Bool.and_eq_true, Bool.not_eq_true'] at h
    simp only [sk, h.1, h.2, Bool.false_eq_true, if_false]

/-! Where the input goes on behind white space. -/
/-- Whether what is skipped ends inside a comment. -/
def opn : Bool → List UInt8 → Bool
  | m, [] => m
  | false, c :: t => if isB c then opn false t else if c == 47 && t.head? == some 47 then opn true t else false
  | true, c :: t => if c == 10 then opn false t else opn true t

theorem head_app {t g : List UInt8} (h : t ≠ []) : (t ++ g).head? = t.head? := by
  cases t with
  | nil => exact absurd rfl h
  | cons => rfl

theorem sk_app {g : List UInt8} (hg : ∀ c t, g = c :: t → c ≠ 47) : ∀ (m : Bool) (r : List UInt8), sk m (r ++ g) = if sk m r = [] then sk (opn m r) g else sk m r ++ g
  | m, [] => by cases m <;> simp [sk, opn]
  | true, c :: t => by
    rw [List.cons_append]
    simp only [sk, opn]
    split
    · exact sk_app hg false t
    · exact sk_app hg true t
  | false, c :: t => by
    rw [List.cons_append]
    have hh : ((t ++ g).head? == some 47) = (t.head? == some 47) := by
      cases t with
      | cons => rfl
      | nil =>
        cases g with
        | nil => rfl
        | cons d g' =>
          have := hg d g' rfl
          show (d == 47) = false
          simpa using this
    simp only [sk, opn, hh]
    split
    · exact sk_app hg false t
    · split
      · exact sk_app hg true t
      · simp

end Go.Proofs.YtphnflkjgoobmaaDoor
