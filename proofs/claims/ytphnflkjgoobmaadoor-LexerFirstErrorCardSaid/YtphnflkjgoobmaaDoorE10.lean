/-
  Same, and the first law.
-/
import Derived.Test.YtphnflkjgoobmaaDoorE9
namespace Go.Proofs.YtphnflkjgoobmaaDoor
open Go.Vs

def Tok.eqB (a b : Tok) : Bool := a.kind == b.kind && (a.text == b.text && ((a.at_ : Int) == (b.at_ : Int)))

def sameB : List Tok → List Tok → Bool
  | [], [] => true
  | a :: x, b :: y => a.eqB b && sameB x y
  | _, _ => false

theorem sameB_self : ∀ l : List Tok, sameB l l = true
  | [] => rfl
  | a :: l => by simp [sameB, Tok.eqB, sameB_self l]

/-- A slice of tokens. -/
def Sl (x : PD) (a : List Tok) : Prop := (x = .nils ∧ a = []) ∨ x = .slice 3 (a.map Tok.pd)

theorem Sl.len {x : PD} {a : List Tok} (h : Sl x a) : lenD 1 (.p x) = some a.length := by
  rcases h with ⟨rfl, rfl⟩ | rfl
  · rfl
  · simp [lenD, D.elems?]

theorem Sl.get {x : PD} {a : List Tok} (h : Sl x a) {k : Nat} (hk : k < a.length) : iaddrD none 3 (.p x) (k : Int) = some (.ro [.int .i64 a[k].kind, .str a[k].text, .int .i64 a[k].at_] 0) := by
  rcases h with ⟨rfl, rfl⟩ | rfl
  · simp at hk
  · simp [iaddrD, D.elems?, hk, Tok.pd, PD.cells]

theorem same_loop {x y : PD} {a b : List Tok} (hx : Sl x a) (hy : Sl y b) (hl : a.length = b.length) (hb : a.length ≤ 4611686018427387904) : ∀ (n k : Nat), k ≤ a.length → n = a.length - k →
    loopK (call pg) pg.G [0, 1, 5] fc15_b0 ⟨[(0, .p x), (1, .p y), (5, .p (.int .i64 k))], ⟨[], []⟩⟩ =
      if sameB (a.drop k) (b.drop k) then some (.exit 0, ⟨[(0, .p x), (1, .p y), (5, .p (.int .i64 a.length)), (14, .p (.bool false))], ⟨[], []⟩⟩) else some (.ret, ⟨[(4, .p (.bool false))], ⟨[], []⟩⟩) := by
  have hxl := hx.len
  have hyl := hy.len
  intro n
  induction n with
  | zero =>
    intro k hk hn
    have hk' : k = a.length := by omega
    subst hk'
    rw [List.drop_eq_nil_of_le (Nat.le_refl _), List.drop_eq_nil_of_le (by omega)]
    simp only [sameB, if_true]
    refine loopK_out (o := .exit 0) ?_ (by simp)
    simp [fc15_b0, evKC, evK, put, Env.get, Env.keep, Opd.ev, binD, hxl]
  | succ n ih =>
    intro k hk hn
    have h1 : k < a.length := by omega
    have h2 : k < b.length := by omega
    have gx := hx.get h1
    have gy := hy.get h2
    rw [List.drop_eq_getElem_cons h1, List.drop_eq_getElem_cons h2]
    simp only [sameB]
    have hwr : IntKind.i64.wrap ((k : Int) + 1) = ((k + 1 : Nat) : Int) := by rw [wrap64 (by omega) (by omega)]; rfl
    by_cases he : a[k].eqB b[k] = true
    · simp only [he, Bool.true_and]
      rw [← ih (k + 1) (by omega) (by omega)]
      refine loopK_norm ?_
      unfold Tok.eqB at he
      generalize a[k] = t at *
      generalize b[k] = u at *
      obtain ⟨k1, T1, a1⟩ := t
      obtain ⟨k2, T2, a2⟩ := u
      simp only at he gx gy
      simp [fc15_b0, evKC, evK, put, Env.get, Env.keep, Opd.ev, binD, hxl, h1, gx, gy, loadD, cutAt, sub, D.asInt?, eqvL, PD.eqv, cls, clash, he, hwr]
    · have he : a[k].eqB b[k] = false := by simpa using he
      simp only [he, Bool.false_and, Bool.false_eq_true, if_false]
      refine loopK_out (o := .ret) ?_ (by simp)
      unfold Tok.eqB at he
      generalize a[k] = t at *
      generalize b[k] = u at *
      obtain ⟨k1, T1, a1⟩ := t
      obtain ⟨k2, T2, a2⟩ := u
      simp only at he gx gy
      simp [fc15_b0, evKC, evK, put, Env.get, Env.keep, Opd.ev, binD, hxl, h1, gx, gy, loadD, cutAt, sub, D.asInt?, eqvL, PD.eqv, cls, clash, he]

theorem sameB_len : ∀ a b : List Tok, sameB a b = true → a.length = b.length
  | [], [], _ => rfl
  | _ :: x, _ :: y, h => by
    simp only [sameB, Bool.and_eq_true] at h
    simp [sameB_len x y h.2]
  | [], _ :: _, h => by cases h
  | _ :: _, [], h => by cases h

theorem same_eq {x y : PD} {a b : List Tok} (hx : Sl x a) (hy : Sl y b) (hb : a.length ≤ 4611686018427387904) : call pg 15 [.p x, .p y] ⟨[], []⟩ = some (.val (.p (.bool (sameB a b))), ⟨[], []⟩) := by
  refine call_body (fc := fc15) rfl rfl rfl ?_
  have hxl := hx.len
  have hyl := hy.len
  by_cases hl : a.length = b.length
  · have h := same_loop hx hy hl hb a.length 0 (Nat.zero_le _) rfl
    have h0 : (((0 : Nat) : Int)) = 0 := rfl
    rw [h0, List.drop_zero, List.drop_zero] at h
    cases hs : sameB a b with
    | true =>
      rw [hs] at h
      simp only [if_true] at h
      simp [fc15, evKC, evK, put, Env.get, Env.keep, entry, Opd.ev, binD, finish, evRes, evRes1, hxl, hyl, hl, h]
    | false =>
      rw [hs] at h
      simp only [Bool.false_eq_true, if_false] at h
      simp [fc15, evKC, evK, put, Env.get, Env.keep, entry, Opd.ev, binD, finish, evRes, evRes1, hxl, hyl, hl, h]
  · have hs : sameB a b = false := by
      cases h : sameB a b with
      | false => rfl
      | true => exact absurd (sameB_len a b h) hl
    have hl' : (((a.length : Int)) != (b.length : Int)) = true := by simp; omega
    simp [fc15, evKC, evK, put, Env.get, Env.keep, entry, Opd.ev, binD, finish, evRes, evRes1, hxl, hyl, hs]
    rw [hl']
    simp [evKC, evK, put, Env.get, Env.keep, Opd.ev]

theorem toks_sl (r : Lexed) (h : r.2.1 = 0 ∨ r.1 = []) : Sl r.toks r.1 := by
  unfold Lexed.toks
  split
  · exact .inr rfl
  · rename_i hn
    rcases h with h | h
    · exact absurd h hn
    · exact .inl ⟨rfl, h⟩

theorem lex_ends (s : List UInt8) : (lex s).2.1 = 0 ∨ (lex s).1 = [] := by
  unfold lex
  split
  · exact .inr rfl
  · rcases lexLoop_ends s (s.length + 1) (skipTo s 0) [] with h | h
    · exact .inl h.1
    · exact .inr h.2

theorem lexLoop_len (s : List UInt8) : ∀ (n i : Nat) (acc : List Tok), i ≤ s.length → acc.length ≤ i → (lexLoop s n i acc).1.length ≤ s.length
  | 0, i, acc, h, k => by simp only [lexLoop]; omega
  | n + 1, i, acc, h, k => by
    simp only [lexLoop]
    split
    · rename_i hi
      split
      · rename_i hok
        have hpos := tok_pos hi hok
        have hend := tok_end h
        have := skipTo_le hend
        exact lexLoop_len s n _ _ this.2 (by simp; omega)
      · simp
    · simp only; omega

theorem lex_len (s : List UInt8) : (lex s).1.length ≤ s.length := by
  unfold lex
  split
  · simp
  · exact lexLoop_len s _ _ _ (skipTo_le (Nat.zero_le _)).2 (by simp)

theorem law1 (s : List UInt8) : ∃ H, call pg 3 [.p (.str s)] ⟨[], []⟩ = some (.val (.p (.bool true)), H) := by
  refine ⟨⟨[], []⟩, call_body (fc := fc3) rfl rfl rfl ?_⟩
  have hf := few_eq s
  have ht : (s.take 2000).length ≤ 140737488355328 := by simp; omega
  have hle := lex_len (s.take 2000)
  generalize s.take 2000 = t at *
  have h1 := lex_eq t ht
  have h2 := ref_eq t ht
  have hsl := toks_sl (lex t) (lex_ends t)
  have hsm := same_eq hsl hsl (by omega)
  rw [sameB_self] at hsm
  have hc := callD_pure (H := ⟨[], []⟩) hsm rfl rfl rfl rfl
  have hc11 := callD_pure (H := ⟨[], []⟩) head_eq rfl rfl rfl rfl
  have hc12 := callD_pure (H := ⟨[], []⟩) hf rfl rfl rfl rfl
  unfold Lexed.d at h1 h2
  generalize (lex t).toks = x at *
  simp [fc3, evKC, evK, evGuard, put, Env.get, Env.keep, entry, Opd.ev, binD, finish, evRes, evRes1, hc11, hc12, h1, h2, hc]

end Go.Proofs.YtphnflkjgoobmaaDoor
