/-
  Regions whose order Go leaves open: the check, and that whatever the order, the outcome is the text's.
-/
import Derived.Test.YtphnflkjgoobmaaDoorFwP
namespace Go.Vs

variable {P : Program} {G : Nat → Option (List PD)}

def lastW {α : Type} (g0 : α) (wr : Nat → Bool) (d : Nat → α) (l : Nat → Bool) : Nat → α
  | 0 => g0
  | m + 1 => if l m = true ∧ wr m = true then d m else lastW g0 wr d l m

theorem lastW_congr {α : Type} {g0 : α} {wr : Nat → Bool} {d : Nat → α} {l l' : Nat → Bool} : ∀ (n : Nat), (∀ j, j < n → wr j = true → l j = l' j) → lastW g0 wr d l n = lastW g0 wr d l' n
  | 0, _ => rfl
  | n + 1, h => by
    simp only [lastW]
    rw [lastW_congr n fun j hj hw => h j (by omega) hw]
    by_cases hw : wr n = true
    · rw [h n (by omega) hw]
    · simp [hw]

theorem lastW_below {α : Type} {g0 : α} {wr : Nat → Bool} {d : Nat → α} {i : Nat} : ∀ (n : Nat), i ≤ n → lastW g0 wr d (fun j => decide (j < i)) n = lastW g0 wr d (fun _ => true) i
  | 0, h => by
    have : i = 0 := by omega
    subst this; rfl
  | n + 1, h => by
    by_cases hi : i = n + 1
    · subst hi
      exact lastW_congr (n + 1) fun j hj _ => by simp [hj]
    · simp only [lastW]
      rw [if_neg (by simp; omega), lastW_below n (by omega)]

theorem lastW_at {α : Type} {g0 : α} {wr : Nat → Bool} {d : Nat → α} {l : Nat → Bool} {i : Nat} (hl : l i = true) (hw : wr i = true) : ∀ (n : Nat), i < n → (∀ j, i < j → j < n → wr j = true → l j = false) → lastW g0 wr d l n = d i
  | 0, h, _ => by omega
  | n + 1, h, q => by
    simp only [lastW]
    by_cases hi : i = n
    · subst hi; rw [if_pos ⟨hl, hw⟩]
    · rw [if_neg (fun x => by have := q n (by omega) (by omega) x.2; rw [this] at x; exact absurd x.1 (by simp)), lastW_at hl hw n (by omega) fun j h1 h2 h3 => q j h1 (by omega) h3]

def SO.uses (o : SO) : List Nat := o.k.slots ++ (match o.g with | some (t, _) => [t] | none => [])

def slotClash (a b : SO) : Bool :=
  (match a.dst with | some t => b.uses.contains t || b.dst == some t | none => false) || (match b.dst with | some t => a.uses.contains t | none => false)

def predsOf (o : Oper) : List Nat := (o.after.toList.filter (Region.binds .any)).map (·.on)

def maskOf (ms : List Nat) : List Nat → Nat
  | [] => 0
  | j :: r => (maskOf ms r ||| (1 <<< j)) ||| ms.getD j 0

def masksOf : List Oper → List Nat → List Nat
  | [], ms => ms
  | o :: r, ms => masksOf r (ms ++ [maskOf ms (predsOf o)])

def rel (ms : List Nat) (i j : Nat) : Bool := (ms.getD i 0).testBit j

def earlierOk (ms : List Nat) (pairs : List (Nat × Nat)) (i : Nat) (ps : List Nat) (b : SO) : Nat → List SO → Bool
  | _, [] => true
  | j, a :: r => (if rel ms i j then ps.any fun p => p == j || (decide (j < p) && rel ms p j) else !slotClash a b && (a.k.heapless || b.k.heapless || pairs.contains (j, i))) && earlierOk ms pairs i ps b (j + 1) r

def drawOkAt (ms : List Nat) (pairs : List (Nat × Nat)) (sl : List SO) : Nat → List Oper → List SO → Bool
  | i, o :: os, b :: bs => (predsOf o).all (fun p => decide (p < i)) && earlierOk ms pairs i (predsOf o) b 0 (sl.take i) && drawOkAt ms pairs sl (i + 1) os bs
  | _, _, _ => true

def drawOk (pairs : List (Nat × Nat)) (ops : List Oper) (sl : List SO) : Bool := drawOkAt (masksOf ops []) pairs sl 0 ops sl

theorem earlierOk_iff {ms : List Nat} {pairs : List (Nat × Nat)} {i : Nat} {ps : List Nat} {b : SO} : ∀ {j0 : Nat} {l : List SO}, earlierOk ms pairs i ps b j0 l = true → ∀ (j : Nat) a, l[j]? = some a →
    (rel ms i (j0 + j) = true ∧ ∃ p ∈ ps, p = j0 + j ∨ (j0 + j < p ∧ rel ms p (j0 + j) = true)) ∨
    (rel ms i (j0 + j) = false ∧ slotClash a b = false ∧ (a.k.heapless = true ∨ b.k.heapless = true ∨ (j0 + j, i) ∈ pairs))
  | _, [], _, j, a, ha => by simp at ha
  | j0, x :: l, h, j, a, ha => by
    simp only [earlierOk, Bool.and_eq_true] at h
    match j with
    | 0 =>
      simp only [List.getElem?_cons_zero, Option.some.injEq] at ha
      subst ha
      have h1 := h.1
      split at h1
      · rename_i hr
        refine .inl ⟨hr, ?_⟩
        simpa [List.any_eq_true] using h1
      · rename_i hr
        refine .inr ⟨by simpa using hr, ?_⟩
        simpa [or_assoc] using h1
    | j + 1 =>
      have := earlierOk_iff h.2 j a (by simpa using ha)
      rw [show j0 + (j + 1) = j0 + 1 + j by omega]
      exact this

theorem drawOkAt_iff {ms : List Nat} {pairs : List (Nat × Nat)} {sl : List SO} : ∀ {i0 : Nat} {os : List Oper} {bs : List SO}, drawOkAt ms pairs sl i0 os bs = true → ∀ (i : Nat) o b, os[i]? = some o → bs[i]? = some b →
    (∀ p ∈ predsOf o, p < i0 + i) ∧ earlierOk ms pairs (i0 + i) (predsOf o) b 0 (sl.take (i0 + i)) = true
  | _, [], _, _, i, o, b, ho, _ => by simp at ho
  | _, _ :: _, [], _, i, o, b, _, hb => by simp at hb
  | i0, x :: os, y :: bs, h, i, o, b, ho, hb => by
    simp only [drawOkAt, Bool.and_eq_true] at h
    match i with
    | 0 =>
      simp only [List.getElem?_cons_zero, Option.some.injEq] at ho hb
      subst ho; subst hb
      exact ⟨by simpa [List.all_eq_true] using h.1.1, h.1.2⟩
    | i + 1 =>
      have := drawOkAt_iff h.2 i o b (by simpa using ho) (by simpa using hb)
      rw [show i0 + (i + 1) = i0 + 1 + i by omega]
      exact this

theorem drawOk_iff {pairs : List (Nat × Nat)} {ops : List Oper} {sl : List SO} (h : drawOk pairs ops sl = true) : ∃ R : Nat → Nat → Bool, ∀ (i : Nat) o b, ops[i]? = some o → sl[i]? = some b →
    (∀ p ∈ predsOf o, p < i) ∧ ∀ (j : Nat) a, j < i → sl[j]? = some a →
      (R i j = true ∧ ∃ p ∈ predsOf o, p = j ∨ (j < p ∧ R p j = true)) ∨ (R i j = false ∧ slotClash a b = false ∧ (a.k.heapless = true ∨ b.k.heapless = true ∨ (j, i) ∈ pairs)) := by
  refine ⟨rel (masksOf ops []), fun i o b ho hb => ?_⟩
  have := drawOkAt_iff h i o b ho hb
  simp only [Nat.zero_add] at this
  refine ⟨this.1, fun j a hj ha => ?_⟩
  have := earlierOk_iff this.2 j a (by rw [List.getElem?_take_of_lt hj]; exact ha)
  simpa using this

/-- What the operations gave, in the order of the text. -/
structure Trace (c : CallR) (G : Nat → Option (List PD)) (sl : List SO) (E : Nat → Env) (Hs : Nat → Hp) (d : Nat → D) (cs : Nat → Nat) : Prop where
  env : ∀ (j : Nat) so, sl[j]? = some so → E (j + 1) = put so.dst (d j) (E j)
  step : ∀ (j : Nat) so, sl[j]? = some so → (evGuard (E j) so.g = some false ∧ d j = .undef ∧ Hs (j + 1) = Hs j ∧ cs j = 0) ∨
    (evGuard (E j) so.g = some true ∧ evKC c G (E j) (Hs j) so.k = some (.val (d j), Hs (j + 1)) ∧ cs j = if cls (E j) so.k = 0 then (if (Hs (j + 1)).bx.length = (Hs j).bx.length then 0 else 2) else cls (E j) so.k)

theorem evDraw_trace {c : CallR} : ∀ {sl : List SO} {env : Env} {H : Hp} {e' : Env} {H' : Hp} {cs : List Nat}, evDraw c G sl env H = some (e', H', cs) →
    ∃ E Hs d, E 0 = env ∧ Hs 0 = H ∧ E sl.length = e' ∧ Hs sl.length = H' ∧ Trace c G sl E Hs d (fun j => cs.getD j 0)
  | [], env, H, e', H', cs, h => by
    simp only [evDraw] at h
    cases h
    exact ⟨fun _ => env, fun _ => H, fun _ => .undef, rfl, rfl, rfl, rfl, fun j so hs => by simp at hs, fun j so hs => by simp at hs⟩
  | o :: sl, env, H, e', H', cs, h => by
    simp only [evDraw] at h
    split at h
    · rename_i hg
      split at h
      · rename_i d0 H0 hd
        split at h
        · rename_i e1 h1 cs1 hr
          cases h
          obtain ⟨E, Hs, d, a1, a2, a3, a4, T⟩ := evDraw_trace hr
          refine ⟨fun j => match j with | 0 => env | j + 1 => E j, fun j => match j with | 0 => H | j + 1 => Hs j, fun j => match j with | 0 => d0 | j + 1 => d j, rfl, rfl, a3, a4, ⟨fun j so hs => ?_, fun j so hs => ?_⟩⟩
          · match j with
            | 0 => simp only [List.getElem?_cons_zero, Option.some.injEq] at hs; subst hs; exact a1
            | j + 1 => exact T.env j so (by simpa using hs)
          · match j with
            | 0 =>
              simp only [List.getElem?_cons_zero, Option.some.injEq] at hs; subst hs
              refine .inr ⟨hg, ?_, ?_⟩
              · simp only [a2]; exact hd
              · simp only [a2]; rfl
            | j + 1 => exact T.step j so (by simpa using hs)
        · cases h
      · cases h
    · rename_i hg
      split at h
      · rename_i e1 h1 cs1 hr
        cases h
        obtain ⟨E, Hs, d, a1, a2, a3, a4, T⟩ := evDraw_trace hr
        refine ⟨fun j => match j with | 0 => env | j + 1 => E j, fun j => match j with | 0 => H | j + 1 => Hs j, fun j => match j with | 0 => .undef | j + 1 => d j, rfl, rfl, a3, a4, ⟨fun j so hs => ?_, fun j so hs => ?_⟩⟩
        · match j with
          | 0 => simp only [List.getElem?_cons_zero, Option.some.injEq] at hs; subst hs; exact a1
          | j + 1 => exact T.env j so (by simpa using hs)
        · match j with
          | 0 =>
            simp only [List.getElem?_cons_zero, Option.some.injEq] at hs; subst hs
            exact .inl ⟨hg, rfl, a2, rfl⟩
          | j + 1 => exact T.step j so (by simpa using hs)
      · cases h
    · cases h

theorem cls_le (e : Env) (k : SK) : cls e k ≤ 2 := by
  cases k <;> simp only [cls] <;> (try split) <;> omega

theorem cls_one {c : CallR} {e : Env} {H H' : Hp} {k : SK} {d : D} (he : evKC c G e H k = some (.val d, H')) (hc : cls e k = 1) : H' = H := by
  have hlen : H'.bx.length = H.bx.length := by
    cases k <;> first | (exfalso; simp only [cls] at hc; omega) | skip
    · rename_i n x
      rw [evKC_plain rfl] at he
      split at he
      · rename_i hd
        cases he
        simp only [evK] at hd
        obtain ⟨_, _, hh⟩ := Option.map_eq_some_iff.1 hd
        cases hh
        rfl
      · cases he
    · exfalso
      simp only [cls] at hc
      split at hc <;> omega
  exact (evKC_same he (by omega) hlen).1

theorem cls_heapless {e : Env} {k : SK} (h : k.heapless = true) : cls e k = 0 := by
  cases k <;> first | rfl | cases h

section
variable {c : CallR} {sl : List SO} {E : Nat → Env} {Hs : Nat → Hp} {d : Nat → D} {cs : Nat → Nat}

theorem Trace.quiet (T : Trace c G sl E Hs d cs) {j : Nat} {so : SO} (hs : sl[j]? = some so) (h : cs j ≠ 2) : Hs (j + 1) = Hs j := by
  rcases T.step j so hs with ⟨_, _, h1, _⟩ | ⟨_, h1, h2⟩
  · exact h1
  · have := cls_le (E j) so.k
    split at h2
    · rename_i hc
      split at h2
      · rename_i hl; exact (evKC_same h1 (by omega) hl).1
      · exact absurd h2 h
    · exact cls_one h1 (by omega)

theorem Trace.le2 (T : Trace c G sl E Hs d cs) {j : Nat} {so : SO} (hs : sl[j]? = some so) : cs j ≤ 2 := by
  rcases T.step j so hs with ⟨_, _, _, h1⟩ | ⟨_, _, h2⟩
  · omega
  · have := cls_le (E j) so.k
    rw [h2]; split
    · split <;> omega
    · exact this

theorem Trace.free (T : Trace c G sl E Hs d cs) {j : Nat} {so : SO} (hs : sl[j]? = some so) (h : cs j = 0) (hg : evGuard (E j) so.g = some true) (H2 : Hp) : evKC c G (E j) H2 so.k = some (.val (d j), H2) := by
  rcases T.step j so hs with ⟨h0, _, _, _⟩ | ⟨_, h1, h2⟩
  · rw [h0] at hg; cases hg
  · rw [h] at h2
    split at h2
    · rename_i hc
      split at h2
      · rename_i hl; exact (evKC_same h1 (by omega) hl).2 hc H2
      · omega
    · omega

theorem Trace.heapless (T : Trace c G sl E Hs d cs) {j : Nat} {so : SO} (hs : sl[j]? = some so) (h : so.k.heapless = true) : cs j = 0 := by
  rcases T.step j so hs with ⟨_, _, _, h1⟩ | ⟨_, h1, h2⟩
  · exact h1
  · have hc := cls_heapless (e := E j) h
    rw [hc, if_pos rfl] at h2
    have hk : so.k.isCall = false := by cases hk : so.k <;> rw [hk] at h <;> first | rfl | cases h
    rw [evKC_plain hk, evK_heapless h] at h1
    split at h1
    · rename_i hd
      cases h1
      obtain ⟨x, hx, hh⟩ := Option.map_eq_some_iff.1 hd
      simp only [Prod.mk.injEq] at hh
      rw [← hh.2, if_pos rfl] at h2
      exact h2
    · cases h1

def wrT (sl : List SO) (t : Nat) (j : Nat) : Bool := ((sl[j]?).bind (·.dst)) == some t

theorem Trace.get (T : Trace c G sl E Hs d cs) (t : Nat) : ∀ j, j ≤ sl.length → (E j).get t = lastW ((E 0).get t) (wrT sl t) d (fun _ => true) j
  | 0, _ => rfl
  | j + 1, h => by
    have hs : sl[j]? = some sl[j] := List.getElem?_eq_getElem (by omega)
    simp only [lastW]
    rw [T.env j _ hs, ← T.get t j (by omega)]
    simp only [wrT, hs, Option.bind_some, true_and, beq_iff_eq]
    cases hd : (sl[j]).dst with
    | none => simp [put]
    | some u => simp only [put, Env.get, Option.some.injEq]

theorem Trace.heap (T : Trace c G sl E Hs d cs) : ∀ j, j ≤ sl.length → Hs j = lastW (Hs 0) (fun j => cs j == 2) (fun j => Hs (j + 1)) (fun _ => true) j
  | 0, _ => rfl
  | j + 1, h => by
    have hs : sl[j]? = some sl[j] := List.getElem?_eq_getElem (by omega)
    simp only [lastW, true_and, beq_iff_eq]
    split
    · rfl
    · rename_i hc
      rw [T.quiet hs hc, T.heap j (by omega)]

end
end Go.Vs
