/-
  Scripts put together, with a line put in, cut at their error, and too long: the plain laws.
-/
import Derived.Test.YtebbfckifhbkoaaGreatDoorG6
namespace Go.Proofs.YtebbfckifhbkoaaGreatDoor
open Go.Vs

theorem spl_two (c : UInt8) : ∀ s v : List UInt8, spl c (s ++ c :: v) = spl c s ++ spl c v
  | [], v => by simp [spl]
  | b :: r, v => by
    have ih := spl_two c r v
    simp only [List.cons_append, spl]
    by_cases h : b = c
    · rw [if_pos h, if_pos h, ih]; rfl
    · rw [if_neg h, if_neg h, ih]
      cases hs : spl c r with
      | nil => exact (spl_ne _ _ hs).elim
      | cons w ws => rfl

def preE (pre : List Cmd) : Except (Int × Nat) PS → Except (Int × Nat) PS
  | .ok st => .ok (pre ++ st.1, st.2)
  | .error e => .error e

theorem addT_pre (pre : List Cmd) {out : List Cmd} (h : out ≠ []) (t : List UInt8) : addT (pre ++ out) t = pre ++ addT out t := by
  obtain ⟨l, c, rfl⟩ : ∃ l c, out = l ++ [c] := ⟨out.dropLast, out.getLast h, (List.dropLast_concat_getLast h).symm⟩
  rw [← List.append_assoc, addT_snoc, addT_snoc, List.append_assoc]

theorem step_mono {x : List UInt8} {st st' : PS} (h : stepS x st = .ok st') (hi : ign x = false) : st.1.length ≤ st'.1.length := by
  rcases step_cases h hi with ⟨c, _, _, rfl⟩ | ⟨t, l, c, _, hl, _, rfl⟩
  · simp
  · rw [hl]; simp

theorem run_mono : ∀ (ws : List (List UInt8)) (k : Nat) (st st' : PS), run k ws st = .ok st' → st.1.length ≤ st'.1.length
  | [], k, st, st', h => by cases h; exact Nat.le_refl _
  | x :: ws, k, st, st', h => by
    simp only [run] at h
    split at h
    · exact run_mono ws (k + 1) st st' h
    · rename_i hi
      split at h
      · cases h
      · rename_i st1 h1
        have := step_mono h1 (by simpa using hi)
        have := run_mono ws (k + 1) st1 st' h
        omega

/-- Commands before. -/
theorem run_pre (pre : List Cmd) : ∀ (ws : List (List UInt8)) (j : Nat) (out : List Cmd) (k : Nat), out ≠ [] →
    run j ws (pre ++ out, k) = preE pre (run j ws (out, k)) ∨ ((∃ m, run j ws (pre ++ out, k) = .error (2, m)) ∧ ∀ st, run j ws (out, k) = .ok st → 200 < pre.length + st.1.length)
  | [], j, out, k, _ => .inl rfl
  | x :: ws, j, out, k, hne => by
    simp only [run]
    by_cases hi : ign x = true
    · rw [if_pos hi, if_pos hi]
      exact run_pre pre ws (j + 1) out k hne
    · rw [if_neg hi, if_neg hi]
      match x, hi with
      | [], hi => exact (hi rfl).elim
      | b :: t, hi =>
        simp only [stepS]
        by_cases hb : b ≠ 124
        · rw [if_pos hb, if_pos hb]
          cases hc : cmdS (b :: t) with
          | error e => exact .inl rfl
          | ok c =>
            dsimp only
            by_cases h2 : 200 ≤ out.length
            · rw [if_pos h2, if_pos (by simp; omega)]
              exact .inl rfl
            · by_cases h3 : 200 ≤ (pre ++ out).length
              · rw [if_neg h2, if_pos h3]
                refine .inr ⟨⟨_, rfl⟩, fun st hst => ?_⟩
                have := run_mono _ _ _ _ hst
                simp at h3 this
                omega
              · rw [if_neg h2, if_neg h3]
                dsimp only
                rw [List.append_assoc]
                exact run_pre pre ws (j + 1) (out ++ [c]) 0 (by simp)
        · rw [if_neg hb, if_neg hb]
          have hg : (pre ++ out).getLast? = out.getLast? := by
            rw [List.getLast?_append]
            rw [List.getLast?_eq_some_getLast hne]
            rfl
          rw [hg, List.getLast?_eq_some_getLast hne]
          dsimp only
          by_cases hr : (rowAt (out.getLast hne).kind).2.2.2 = true
          · rw [if_pos hr, if_pos hr]
            dsimp only
            rw [addT_pre pre hne]
            refine run_pre pre ws (j + 1) _ (k + 1) ?_
            obtain ⟨l, c, rfl⟩ : ∃ l c, out = l ++ [c] := ⟨out.dropLast, out.getLast hne, (List.dropLast_concat_getLast hne).symm⟩
            rw [addT_snoc]; simp
          · rw [if_neg hr, if_neg hr]
            exact .inl rfl

def shw : List UInt8 := [115, 104, 111, 119]

theorem show_step (st : PS) (h : st.1.length < 200) : stepS shw st = .ok (st.1 ++ [⟨9, [], []⟩], 0) := by
  have hc : cmdS shw = .ok ⟨9, [], []⟩ := by rfl
  unfold shw at hc ⊢
  simp only [stepS]
  rw [if_pos (by decide), hc]
  dsimp only
  rw [if_neg (by omega)]

theorem show_many (st : PS) (h : 200 ≤ st.1.length) : stepS shw st = .error 2 := by
  have hc : cmdS shw = .ok ⟨9, [], []⟩ := by rfl
  unfold shw at hc ⊢
  simp only [stepS]
  rw [if_pos (by decide), hc]
  dsimp only
  rw [if_pos h]

theorem nl_spl (s : List UInt8) : (spl 10 s).length = nl s + 1 := by
  rw [spl_cnt]
  unfold nl
  rw [List.count_eq_length_filter]

/-- **Two scripts put together.** -/
theorem two_parse {s t : List UInt8} (hs : s.length ≤ 3000) (ht : t.length ≤ 3000) :
    match parse (s ++ [10]) with
    | .error e => parse ((s ++ [10]) ++ (shw ++ 10 :: t)) = .error e ∧ e.1 ≠ 0
    | .ok a => match parse (shw ++ 10 :: t) with
      | .error (f, n) => f ≠ 0 ∧ (f = 2 ∨ (∃ m, parse ((s ++ [10]) ++ (shw ++ 10 :: t)) = .error (2, m)) ∨ parse ((s ++ [10]) ++ (shw ++ 10 :: t)) = .error (f, n + nl (s ++ [10])))
      | .ok b => (200 < a.length + b.length) ∨ (∃ m, parse ((s ++ [10]) ++ (shw ++ 10 :: t)) = .error (2, m)) ∨ parse ((s ++ [10]) ++ (shw ++ 10 :: t)) = .ok (a ++ b) := by
  have e1 : spl 10 (s ++ [10]) = spl 10 s ++ [[]] := by rw [spl_two]; rfl
  have e2 : spl 10 (shw ++ 10 :: t) = shw :: spl 10 t := spl_app (by decide)
  have e3 : spl 10 ((s ++ [10]) ++ (shw ++ 10 :: t)) = spl 10 s ++ (shw :: spl 10 t) := by
    rw [List.append_assoc, List.singleton_append, spl_two, e2]
  have hn : nl (s ++ [10]) = (spl 10 s).length := by
    have := nl_spl (s ++ [10])
    rw [e1] at this
    simp at this
    omega
  have hi : ign shw = false := rfl
  rw [parse_run' (s := s ++ [10]) (by simp; omega), parse_run' (s := shw ++ 10 :: t) (by simp [shw]; omega), parse_run' (s := (s ++ [10]) ++ (shw ++ 10 :: t)) (by simp [shw]; omega), e1, e2, e3, hn, run_app, run_app]
  cases h1 : run 0 (spl 10 s) ([], 0) with
  | error e =>
    obtain ⟨e, n⟩ := e
    dsimp only [fstE]
    refine ⟨rfl, ?_⟩
    have := (run_codes h1).1
    omega
  | ok st =>
    obtain ⟨a, ka⟩ := st
    have hnil : ∀ j, run j [[]] (a, ka) = .ok (a, ka) := fun j => rfl
    dsimp only
    rw [hnil]
    dsimp only [fstE]
    have e4 : run 0 (shw :: spl 10 t) ([], 0) = run 1 (spl 10 t) ([⟨9, [], []⟩], 0) := by
      simp only [run, hi, Bool.false_eq_true, if_false, show_step ([], 0) (by simp)]
      rfl
    rw [e4]
    have e5 : run (0 + (spl 10 s).length) (shw :: spl 10 t) (a, ka) = if 200 ≤ a.length then .error (2, 0 + (spl 10 s).length + 1) else run (0 + (spl 10 s).length + 1) (spl 10 t) (a ++ [⟨9, [], []⟩], 0) := by
      by_cases h2 : 200 ≤ a.length
      · rw [if_pos h2]
        simp only [run, hi, Bool.false_eq_true, if_false, show_many (a, ka) h2]
      · rw [if_neg h2]
        simp only [run, hi, Bool.false_eq_true, if_false, show_step (a, ka) (by simpa using h2)]
    have e6 : ∀ st, run (0 + (spl 10 s).length + 1) (spl 10 t) st = shE (spl 10 s).length (run 1 (spl 10 t) st) := fun st => by
      rw [← run_sh]
      congr 1
      omega
    rw [e5]
    have hpre := run_pre a (spl 10 t) 1 [⟨9, [], []⟩] 0 (by simp)
    cases h3 : run 1 (spl 10 t) ([⟨9, [], []⟩], 0) with
    | error e =>
      obtain ⟨f, n⟩ := e
      dsimp only
      refine ⟨by have := (run_codes h3).1; omega, ?_⟩
      by_cases h2 : 200 ≤ a.length
      · rw [if_pos h2]; exact .inr (.inl ⟨_, rfl⟩)
      · rw [if_neg h2, e6]
        rw [h3] at hpre
        rcases hpre with hpre | ⟨⟨m, hpre⟩, _⟩
        · rw [hpre]; exact .inr (.inr rfl)
        · rw [hpre]; exact .inr (.inl ⟨_, rfl⟩)
    | ok st =>
      dsimp only
      by_cases h2 : 200 ≤ a.length
      · rw [if_pos h2]; exact .inr (.inl ⟨_, rfl⟩)
      · rw [if_neg h2, e6]
        rw [h3] at hpre
        rcases hpre with hpre | ⟨⟨m, hpre⟩, _⟩
        · rw [hpre]; exact .inr (.inr rfl)
        · rw [hpre]; exact .inr (.inl ⟨_, rfl⟩)

/-- The lines behind, of which i stand before, with a line put in ahead of line k. -/
def insT (k : Nat) (more : List UInt8) : Nat → List (List UInt8) → List UInt8
  | _, [] => []
  | i, x :: r => (if i = k then more ++ [10] else []) ++ (x ++ ((if r = [] then [] else [10]) ++ insT k more (i + 1) r))

theorem insT_behind (k : Nat) (more : List UInt8) : ∀ (r : List (List UInt8)) (i : Nat), k < i → insT k more i r = jnL r
  | [], i, _ => rfl
  | [x], i, h => by simp [insT, jnL, show i ≠ k by omega]
  | x :: y :: r, i, h => by
    have ih := insT_behind k more (y :: r) (i + 1) (by omega)
    simp only [insT] at ih ⊢
    rw [ih, if_neg (by omega)]
    simp [jnL]

theorem insT_jn (k : Nat) (more : List UInt8) : ∀ (a : List (List UInt8)) (r : List (List UInt8)) (i : Nat), r ≠ [] → i + a.length = k → insT k more i (a ++ r) = jnL (a ++ more :: r)
  | [], x :: r, i, _, h => by
    have hb := insT_behind k more r (i + 1) (by simp at h; omega)
    simp only [List.nil_append, insT]
    rw [if_pos (by simpa using h), hb]
    cases r with
    | nil => simp [jnL]
    | cons y r => simp [jnL]
  | [], [], i, hr, _ => (hr rfl).elim
  | x :: a, r, i, hr, h => by
    simp only [List.length_cons] at h
    have ih := insT_jn k more a r (i + 1) hr (by omega)
    simp only [List.cons_append, insT]
    rw [ih, if_neg (by omega), if_neg (by simp [hr]), jn_cons (by simp)]
    simp

/-- **A line that is ignored, put in.** -/
theorem ins_parse {s : List UInt8} (hs : s.length ≤ 3000) {k : Nat} (hk : k < (spl 10 s).length) {more : List UInt8} (hm : ign more = true) (h10 : (10 : UInt8) ∉ more) (hl : more.length ≤ 200) :
    (insT k more 0 (spl 10 s)).length ≤ 4000 ∧
    match parse s with
    | .ok l => parse (insT k more 0 (spl 10 s)) = .ok l
    | .error (e, n) => parse (insT k more 0 (spl 10 s)) = .error (e, if k < n then n + 1 else n) := by
  have hsp : spl 10 s = (spl 10 s).take k ++ (spl 10 s).drop k := (List.take_append_drop k _).symm
  have hd : (spl 10 s).drop k ≠ [] := by
    intro e
    have := congrArg List.length e
    simp at this
    omega
  have hlk : ((spl 10 s).take k).length = k := by simp; omega
  have ht : insT k more 0 (spl 10 s) = jnL ((spl 10 s).take k ++ more :: (spl 10 s).drop k) := by
    conv => lhs; rw [hsp]
    exact insT_jn k more _ _ 0 hd (by simp; omega)
  have hfree := spl_free 10 s
  have hs2 : spl 10 (insT k more 0 (spl 10 s)) = (spl 10 s).take k ++ more :: (spl 10 s).drop k := by
    rw [ht]
    refine spl_jnL (by simp) fun x hx => ?_
    rcases List.mem_append.1 hx with hx | hx
    · exact hfree x (List.mem_of_mem_take hx)
    · rcases List.mem_cons.1 hx with rfl | hx
      · exact h10
      · exact hfree x (List.mem_of_mem_drop hx)
  have hlen : (insT k more 0 (spl 10 s)).length ≤ 4000 := by
    have h1 := spl_sum 10 (insT k more 0 (spl 10 s))
    have h2 := spl_sum 10 s
    rw [hs2] at h1
    rw [hsp] at h2
    simp only [List.map_append, List.map_cons, List.sum_append, List.sum_cons] at h1 h2
    omega
  refine ⟨hlen, ?_⟩
  rw [parse_run' (s := s) (by omega), parse_run' (s := insT k more 0 (spl 10 s)) (by omega), hs2]
  have hr0 : run 0 (spl 10 s) ([], 0) = run 0 ((spl 10 s).take k ++ (spl 10 s).drop k) ([], 0) := by rw [← hsp]
  rw [hr0, run_app, run_app, hlk]
  cases h1 : run 0 ((spl 10 s).take k) ([], 0) with
  | error e =>
    obtain ⟨e, n⟩ := e
    have := (run_codes h1).2.2
    rw [hlk] at this
    dsimp only [fstE]
    rw [if_neg (by omega)]
  | ok st =>
    dsimp only
    have e1 : run (0 + k) (more :: (spl 10 s).drop k) st = shE 1 (run (0 + k) ((spl 10 s).drop k) st) := by
      simp only [run, hm, if_true]
      exact run_sh 1 _ _ _
    rw [e1]
    cases h2 : run (0 + k) ((spl 10 s).drop k) st with
    | error e =>
      obtain ⟨e, n⟩ := e
      have := (run_codes h2).2.1
      dsimp only [fstE, shE]
      rw [if_pos (by omega)]
    | ok st' => rfl

/-- **The lines before an error.** -/
theorem cut_parse {s u : List UInt8} (hs : s.length ≤ 3000) (hu : u.length ≤ 3000) {e : Int} {n : Nat} (h : parse s = .error (e, n)) :
    e ≠ 0 ∧ ∃ i x, n = i + 1 ∧ i < (spl 10 s).length ∧ (spl 10 s)[i]? = some x ∧ (endL ((spl 10 s).take i)).length ≤ 3001 ∧ x.length ≤ 3000 ∧
      (∃ l, parse (endL ((spl 10 s).take i)) = .ok l) ∧ parse (endL ((spl 10 s).take i) ++ (x ++ 10 :: u)) = .error (e, n) := by
  rw [parse_run' (by omega)] at h
  cases h1 : run 0 (spl 10 s) ([], 0) with
  | ok st => rw [h1] at h; cases h
  | error q =>
    rw [h1] at h
    cases h
    have hc := (run_codes h1).1
    obtain ⟨a1, x, a2, st', h2, h3, h4, h5, h6⟩ := run_err _ _ _ _ _ h1
    have hsum := spl_sum 10 s
    have hfree := spl_free 10 s
    rw [h2] at hsum
    simp only [List.map_append, List.map_cons, List.sum_append, List.sum_cons] at hsum
    have hel : ∀ l : List (List UInt8), (endL l).length = (l.map fun x => x.length + 1).sum := by
      intro l
      induction l with
      | nil => rfl
      | cons y l ih => simp [endL] at ih ⊢; omega
    have htk : (spl 10 s).take a1.length = a1 := by rw [h2]; simp
    have hfa : ∀ y ∈ a1, (10 : UInt8) ∉ y := fun y hy => hfree y (by rw [h2]; simp [hy])
    have hfx : (10 : UInt8) ∉ x := hfree x (by rw [h2]; simp)
    refine ⟨by omega, a1.length, x, by omega, by rw [h2]; simp, by rw [h2]; simp, ?_, by omega, ?_, ?_⟩
    · rw [htk, hel]; omega
    · rw [htk, parse_run' (by rw [hel]; omega)]
      have e1 : spl 10 (endL a1) = a1 ++ [[]] := by
        have := spl_endL [] hfa
        rw [List.append_nil] at this
        exact this
      rw [e1, run_app, h4]
      exact ⟨_, rfl⟩
    · rw [htk, parse_run' (by rw [List.length_append, hel]; simp; omega)]
      rw [spl_endL _ hfa, spl_app hfx, run_at h4 h5 h6]
      rw [h3]
      rfl

theorem run_err0 {s : List UInt8} (hs : s.length ≤ 65536) {e : Int} {n : Nat} (h : parse s = .error (e, n)) : (e = 2 ∨ e = 340 ∨ e = 360) ∧ 0 < n ∧ n ≤ (spl 10 s).length := by
  rw [parse_run' hs] at h
  cases hr : run 0 (spl 10 s) ([], 0) with
  | ok st => rw [hr] at h; cases h
  | error x =>
    rw [hr] at h
    cases h
    have := run_codes hr
    exact ⟨this.1, by omega, by omega⟩

def nxt : List UInt8 := [110, 101, 120, 116]
def nexts (n : Nat) : List UInt8 := endL (List.replicate n nxt)
def nextC : List Cmd := List.replicate 200 ⟨5, [], []⟩

theorem nexts_succ (n : Nat) : nexts (n + 1) = nexts n ++ [110, 101, 120, 116, 10] := by
  unfold nexts
  rw [List.replicate_succ']
  simp [endL, nxt]

theorem nexts_len (n : Nat) : (nexts n).length = 5 * n := by
  induction n with
  | zero => rfl
  | succ n ih => rw [nexts_succ, List.length_append, ih]; simp; omega

theorem next_well : WellC ⟨5, [], []⟩ := ⟨by decide, by decide, by decide, by decide, .inl rfl, by simp⟩

theorem next_lines : ∀ n, (List.replicate n (⟨5, [], []⟩ : Cmd)).flatMap linesC = List.replicate n nxt
  | 0 => rfl
  | n + 1 => by
    rw [List.replicate_succ, List.flatMap_cons, next_lines n, List.replicate_succ]
    rfl

theorem nextC_len : nextC.length = 200 := List.length_replicate

theorem next_run : ∃ n, run 0 (List.replicate 200 nxt) ([], 0) = .ok (nextC, n) := by
  obtain ⟨n, h⟩ := goCs nextC (fun c hc => by rw [List.eq_of_mem_replicate hc]; exact next_well) 0 [] 0 (by rw [nextC_len]; decide)
  unfold nextC at h
  rw [next_lines] at h
  exact ⟨n, h⟩

theorem next_free : ∀ x ∈ List.replicate 200 nxt, (10 : UInt8) ∉ x := fun x hx => by
  rw [List.eq_of_mem_replicate hx]
  decide

theorem next_parse : parse (nexts 200) = .ok nextC := by
  obtain ⟨n, h⟩ := next_run
  have e1 : spl 10 (nexts 200) = List.replicate 200 nxt ++ [[]] := by
    have := spl_endL [] next_free
    rw [List.append_nil] at this
    exact this
  rw [parse_run' (by rw [nexts_len]; omega), e1, run_app, h]
  rfl

theorem next_more : parse (nexts 200 ++ [10, 115, 104, 111, 119, 10]) = .error (2, 202) := by
  obtain ⟨n, h⟩ := next_run
  have e1 : spl 10 (nexts 200 ++ [10, 115, 104, 111, 119, 10]) = List.replicate 200 nxt ++ [[], shw, []] := by
    have := spl_endL [10, 115, 104, 111, 119, 10] next_free
    exact this
  rw [parse_run' (by rw [List.length_append, nexts_len]; simp), e1, run_app, h]
  dsimp only
  have hi : ign shw = false := rfl
  have hj : ign [] = true := rfl
  have hm := show_many (nextC, n) (Nat.le_of_eq nextC_len.symm)
  simp only [run, hi, hj, Bool.false_eq_true, if_false, hm, List.length_replicate, if_true, fstE]

end Go.Proofs.YtebbfckifhbkoaaGreatDoor
