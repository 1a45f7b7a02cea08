/-
  The second law: the tokens' offsets.
-/
import Derived.Test.YtphnflkjgoobmaaDoorL5
import Derived.Test.YtphnflkjgoobmaaDoorE10
namespace Go.Proofs.YtphnflkjgoobmaaDoor
open Go.Vs

theorem void_eq {s : List UInt8} (hb : s.length ≤ 4611686018427387904) : call pg 16 [.p (.str s)] ⟨[], []⟩ = some (.val (.p (.bool (decide (sk false s = [])))), ⟨[], []⟩) := by
  refine call_body (fc := fc16) rfl rfl rfl ?_
  have hg := gap_eq hb (Nat.zero_le s.length)
  have hs := sk_skipTo (s := s) (Nat.zero_le s.length)
  have hle := skipTo_le (Nat.zero_le s.length)
  rw [List.drop_zero] at hs
  have h0 : (((0 : Nat) : Int)) = 0 := rfl
  rw [h0] at hg
  have he : (((skipTo s 0 : Nat) : Int) == (s.length : Int)) = decide (sk false s = []) := by
    rw [← hs, Bool.eq_iff_iff, beq_iff_eq, decide_eq_true_iff, List.drop_eq_nil_iff]
    omega
  generalize skipTo s 0 = j at *
  simp [fc16, evKC, evK, put, Env.get, Env.keep, entry, Opd.ev, binD, lenD, finish, evRes, evRes1, mapO, D.refsL, D.refs, D.toksL, D.toks, callD, reach, boxToks, ins, nodupB, idx, D.renL, D.ren, back, firstN, putAll, Res.ren, hg, he]

theorem lex_ok {t : List UInt8} (h : t.length ≤ 20000) (he : (lexL t).2 = none) : lex t = ((lexL t).1.map (T0.tok t.length), 0, 0) := by
  rw [lex_lexR h]
  unfold asLexed
  rw [show lexR (t.length + 1) t = lexL t from rfl, he]
  simp

theorem lex_err {t : List UInt8} (h : t.length ≤ 20000) {p : Nat} (he : (lexL t).2 = some p) : lex t = ([], 10, t.length - p) := by
  rw [lex_lexR h]
  unfold asLexed
  rw [show lexR (t.length + 1) t = lexL t from rfl, he]

/-- What a call of the lexer gives for a valid input. -/
theorem lex_eq_ok {t : List UInt8} (h : t.length ≤ 20000) (he : (lexL t).2 = none) (H : Hp) :
    callD (call pg) 13 [.p (.str t)] H = some (.val (.tup [.p (.slice 3 (((lexL t).1.map (T0.tok t.length)).map Tok.pd)), .p (.int .i64 0), .p (.int .i64 0)]), H) := by
  rw [lex_eq t (by omega) H, lex_ok h he]
  rfl

theorem lex_eq_err {t : List UInt8} (h : t.length ≤ 20000) {p : Nat} (he : (lexL t).2 = some p) (H : Hp) :
    callD (call pg) 13 [.p (.str t)] H = some (.val (.tup [.p .nils, .p (.int .i64 10), .p (.int .i64 (t.length - p : Nat))]), H) := by
  rw [lex_eq t (by omega) H, lex_err h he]
  rfl

/-- Where an error is, something is left. -/
theorem lexL_err_pos : ∀ (n : Nat) (r : List UInt8) (p : Nat), r.length < n → (lexL r).2 = some p → 0 < p ∧ p ≤ r.length := by
  intro n
  induction n with
  | zero => intro r p h; omega
  | succ n ih =>
    intro r p hn he
    have hl := sk_len false r
    rcases lex_cases r with h | ⟨h, hb⟩ | ⟨h, hb⟩
    · rw [lexL_end h] at he; cases he
    · rw [lexL_bad h hb] at he
      cases he
      have : 0 < (sk false r).length := List.length_pos_iff.2 h
      omega
    · rw [lexL_good hb] at he
      have hlt := behind_len hb
      have := ih (behind r) p (by omega) he
      omega

theorem lexL_count : ∀ (n : Nat) (r : List UInt8), r.length < n → (lexL r).1.length ≤ r.length := by
  intro n
  induction n with
  | zero => intro r h; omega
  | succ n ih =>
    intro r hn
    rcases lex_cases r with h | ⟨h, hb⟩ | ⟨h, hb⟩
    · rw [lexL_end h]; simp
    · rw [lexL_bad h hb]; simp
    · rw [lexL_good hb]
      have hlt := behind_len hb
      have := ih (behind r) (by omega)
      simp only [List.length_cons]
      omega

theorem offs_step {t : List UInt8} {f : Nat} {x : Tok} {l : List Tok} (h : Offs t f (x :: l)) : f ≤ x.at_ ∧ x.text ≠ [] ∧ x.at_ + x.text.length ≤ t.length ∧ (1 ≤ x.kind ∧ x.kind ≤ 3) ∧
      sub t x.at_ (x.at_ + x.text.length) = x.text ∧ sk false (sub t f x.at_) = [] ∧ Offs t (x.at_ + x.text.length) l := h

theorem law2_loop {t : List UInt8} (hb : t.length ≤ 2000) {l : List Tok} (hl : l.length ≤ 2000) : ∀ (n k f : Nat), k + n = l.length → f ≤ t.length → Offs t f (l.drop k) →
    ∃ f', f' ≤ t.length ∧ sk false (t.drop f') = [] ∧ loopK (call pg) pg.G [3, 4, 5, 7, 8, 9] fc4_b0 ⟨[(3, .p (.bool true)), (4, .p (.str t)), (5, .p (.slice 3 (l.map Tok.pd))), (7, .p (.int .i64 0)), (8, .p (.int .i64 f)), (9, .p (.int .i64 k))], ⟨[], []⟩⟩ =
      some (.exit 0, ⟨[(3, .p (.bool true)), (4, .p (.str t)), (5, .p (.slice 3 (l.map Tok.pd))), (7, .p (.int .i64 0)), (8, .p (.int .i64 f')), (9, .p (.int .i64 l.length)), (46, .p (.bool false))], ⟨[], []⟩⟩) := by
  intro n
  induction n with
  | zero =>
    intro k f hk hf ho
    have hk' : k = l.length := by omega
    subst hk'
    rw [List.drop_eq_nil_of_le (Nat.le_refl _)] at ho
    refine ⟨f, hf, ho.2, loopK_out (o := .exit 0) ?_ (by simp)⟩
    simp [fc4_b0, evKC, evK, put, Env.get, Env.keep, Opd.ev, binD, lenD, mapO, D.elems?, D.ren, locD, Out.ren]
  | succ n ih =>
    intro k f hk hf ho
    have hkl : k < l.length := by omega
    rw [List.drop_eq_getElem_cons hkl] at ho
    obtain ⟨q1, q2, q3, q4, q5, q6, q7⟩ := offs_step ho
    obtain ⟨f', g1, g2, g3⟩ := ih (k + 1) _ (by omega) q3 q7
    refine ⟨f', g1, g2, ?_⟩
    rw [← g3]
    clear g3 ih ho q7
    have hget : iaddrD none 3 (.p (.slice 3 (l.map Tok.pd))) (k : Int) = some (.ro [.int .i64 l[k].kind, .str l[k].text, .int .i64 l[k].at_] 0) := by simp [iaddrD, D.elems?, hkl, Tok.pd, PD.cells]
    generalize l[k] = x at *
    obtain ⟨kd, tx, a⟩ := x
    simp only at q1 q2 q3 q4 q5 q6 ⊢
    have hwe : IntKind.i64.wrap ((a : Int) + (tx.length : Int)) = ((a + tx.length : Nat) : Int) := by rw [wrap64 (by omega) (by omega)]; rfl
    have hwk : IntKind.i64.wrap ((k : Int) + 1) = ((k + 1 : Nat) : Int) := by rw [wrap64 (by omega) (by omega)]; rfl
    have c1 : ¬ (a : Int) < (f : Int) := by omega
    have c2 : (tx == ([] : List UInt8)) = false := by simpa using q2
    have hll : (l.map Tok.pd).length = l.length := by simp
    have c3 : ¬ (t.length : Int) < ((a + tx.length : Nat) : Int) := by omega
    have c4 : ¬ kd < 1 := by omega
    have c5 : ¬ 3 < kd := by omega
    have c6 : (a : Int) ≤ ((a + tx.length : Nat) : Int) := by omega
    have c7 : ((a + tx.length : Nat) : Int) ≤ (t.length : Int) := by omega
    have c8 : (f : Int) ≤ (a : Int) := by omega
    have c9 : a ≤ t.length := by omega
    have hv := void_eq (s := sub t f a) (by simp only [sub, List.length_drop, List.length_take]; omega)
    rw [q6] at hv
    unfold sub at q5 hv
    have hki : (k : Int) < (l.length : Int) := by omega
    refine loopK_norm ?_
    generalize hE : ((a + tx.length : Nat) : Int) = E at *
    have hEn : E.toNat = a + tx.length := by omega
    have hE0 : 0 ≤ E := by omega
    generalize l.map Tok.pd = S at *
    simp [fc4_b0, evKC, evK, evGuard, put, Env.get, Env.keep, Opd.ev, loadD, storeD, splice, cutAt, D.asInt?, D.asNat?, binD, strBin, unD, lenD, boundsD, sliceD, sub, cls, clash, mapO, D.cells, D.one, PD.one, D.refsL, D.refs, D.toksL, D.toks, D.elems?, Int.toNat_natCast, callD, reach, boxRefs, boxToks, ins, nodupB, idx, D.renL, D.ren, back, firstN, putAll, Res.ren, locD, Out.ren, hll, hki, hget, hwe, hwk, c1, c2, c3, c4, c5, c9, hEn, hE0, q1, q3, q5, hv]

theorem law2 (s : List UInt8) : ∃ H, call pg 4 [.p (.str s)] ⟨[], []⟩ = some (.val (.p (.bool true)), H) := by
  refine ⟨⟨[], []⟩, call_body (fc := fc4) rfl rfl rfl ?_⟩
  have hf := few_eq s
  have ht : (s.take 2000).length ≤ 2000 := by simp; omega
  generalize s.take 2000 = t at *
  have hc11 := callD_pure (H := ⟨[], []⟩) head_eq rfl rfl rfl rfl
  have hc12 := callD_pure (H := ⟨[], []⟩) hf rfl rfl rfl rfl
  cases he : (lexL t).2 with
  | some p =>
    have h1 := lex_eq_err (by omega) he ⟨[], []⟩
    obtain ⟨p1, p2⟩ := lexL_err_pos (t.length + 1) t p (by omega) he
    have c1 : t.length - p < t.length := by omega
    simp [fc4, evKC, evK, evGuard, put, Env.get, Env.keep, entry, Opd.ev, binD, lenD, finish, evRes, evRes1, hc11, hc12, h1, c1]
  | none =>
    have h1 := lex_eq_ok (by omega) he ⟨[], []⟩
    have ho := offs_lexL t (t.length + 1) 0 (Nat.zero_le _) (by simp) (by rw [List.drop_zero]; exact he)
    have hcn := lexL_count (t.length + 1) t (by omega)
    rw [List.drop_zero] at ho
    have hl : ((lexL t).1.map (T0.tok t.length)).length ≤ 2000 := by simp; omega
    generalize (lexL t).1.map (T0.tok t.length) = l at *
    obtain ⟨f', g1, g2, g3⟩ := law2_loop ht hl l.length 0 0 (by omega) (Nat.zero_le _) (by rw [List.drop_zero]; exact ho)
    have h0 : (((0 : Nat) : Int)) = 0 := rfl
    rw [h0] at g3
    have hv := void_eq (s := sub t f' t.length) (by simp only [sub, List.length_drop, List.length_take]; omega)
    have hsv : sub t f' t.length = t.drop f' := by unfold sub; rw [List.take_length]
    rw [hsv, g2] at hv
    have hcv := callD_pure (H := ⟨[], []⟩) hv rfl rfl rfl rfl
    simp [fc4, evKC, evK, evGuard, put, Env.get, Env.keep, entry, Opd.ev, D.asNat?, binD, boundsD, sliceD, sub, finish, evRes, evRes1, Int.toNat_natCast, hc11, hc12, h1, g3, g1, hcv]

end Go.Proofs.YtphnflkjgoobmaaDoor
