/-
  What the lexer gives.
-/
import Derived.Test.YtphnflkjgoobmaaDoorE4
namespace Go.Proofs.YtphnflkjgoobmaaDoor
open Go.Vs

/-- Tokens, error, place. -/
abbrev Lexed := List Tok × Nat × Nat

def lexLoop (s : List UInt8) : Nat → Nat → List Tok → Lexed
  | 0, _, acc => (acc, 0, 0)
  | n + 1, i, acc => if i < s.length then (if (tokAt s i).2 then lexLoop s n (skipTo s (i + (tokAt s i).1.text.length)) (acc ++ [(tokAt s i).1]) else ([], 10, i)) else (acc, 0, 0)

def lex (s : List UInt8) : Lexed := if s.length > 20000 then ([], 2, 0) else lexLoop s (s.length + 1) (skipTo s 0) []

theorem skipLoop_le {s : List UInt8} : ∀ (n i : Nat), i ≤ s.length → i ≤ skipLoop s n i ∧ skipLoop s n i ≤ s.length
  | 0, i, h => ⟨Nat.le_refl _, h⟩
  | n + 1, i, h => by
    simp only [skipLoop]
    split
    · have h1 := adv_le (w := notNl) h
      have h2 := adv_le (w := isB) h1
      have h3 := adv_ge notNl s i
      have h4 := adv_ge isB s (adv notNl s i)
      have := skipLoop_le n _ h2
      exact ⟨by omega, this.2⟩
    · exact ⟨Nat.le_refl _, h⟩

theorem skipTo_le {s : List UInt8} {i : Nat} (h : i ≤ s.length) : i ≤ skipTo s i ∧ skipTo s i ≤ s.length := by
  have h1 := adv_le (w := isB) h
  have h2 := adv_ge isB s i
  have := skipLoop_le (s.length + 1) (adv isB s i) h1
  exact ⟨by unfold skipTo; omega, this.2⟩

theorem tok_pos {s : List UInt8} {i : Nat} (hi : i < s.length) (h : (tokAt s i).2 = true) : 0 < (tokAt s i).1.text.length := by
  unfold tokAt at h ⊢
  split
  · rename_i hl
    have hs := adv_sub (w := isW) (Nat.le_of_lt hi)
    have : i < adv isW s i := by
      rw [adv_step hi (by simp [isW, hl])]
      have := adv_ge isW s (i + 1)
      omega
    simp only
    omega
  · split
    · rename_i hl hd
      have hs := adv_sub (w := isD) (Nat.le_of_lt hi)
      have : i < adv isD s i := by
        rw [adv_step hi hd]
        have := adv_ge isD s (i + 1)
        omega
      simp only
      omega
    · rename_i hl hd
      simp only [hl, hd, Bool.false_eq_true, if_false] at h
      cases hsy : symAt s i with
      | nil => rw [hsy] at h; cases h
      | cons => simp

theorem tok_at (s : List UInt8) (i : Nat) : (tokAt s i).1.at_ = i := by
  unfold tokAt
  split
  · rfl
  · split <;> rfl

/-- What the loop ends with. -/
def LoopEnds (s : List UInt8) (r : Lexed) (x : Option (Out × St)) : Prop :=
  (r.2.1 = 0 ∧ ∃ env i, x = some (.exit 0, ⟨env, ⟨[[.p (.str s), .p (.int .i64 i)]], [r.1.length]⟩⟩) ∧ Env.get env 6 = .tsl 0 31 3 (r.1.map Tok.pd)) ∨
  (r.2.1 = 10 ∧ r.1 = [] ∧ ∃ env h, x = some (.ret, ⟨env, h⟩) ∧ Env.get env 2 = .p .nils ∧ Env.get env 3 = .p (.int .i64 10) ∧ Env.get env 4 = .p (.int .i64 r.2.2))

theorem lex_loop {s : List UInt8} (hb : s.length ≤ 20000) : ∀ (n i : Nat) (acc : List Tok), i ≤ s.length → s.length - i < n → acc.length ≤ i →
    LoopEnds s (lexLoop s n i acc) (loopK (call pg) pg.G [0, 5, 6] fc13_b0 ⟨[(0, .p (.str s)), (5, .box 0 0), (6, .tsl 0 31 3 (acc.map Tok.pd))], ⟨[[.p (.str s), .p (.int .i64 i)]], [acc.length]⟩⟩) := by
  intro n
  induction n with
  | zero => intro i acc hi hn; omega
  | succ n ih =>
    intro i acc hi hn hacc
    have hb' : s.length ≤ 4611686018427387904 := by omega
    by_cases hlt : i < s.length
    · obtain ⟨g, hnx⟩ := next_eq hb' hlt
      have hend := tok_end hi
      simp only [lexLoop, if_pos hlt]
      cases hok : (tokAt s i).2 with
      | false =>
        rw [hok] at hnx
        simp only [Bool.false_eq_true, if_false]
        have hat := tok_at s i
        generalize (tokAt s i).1 = t at *
        obtain ⟨k, T, a⟩ := t
        simp only at hat
        subst hat
        refine .inr ⟨rfl, rfl, [(2, .p .nils), (3, .p (.int .i64 10)), (4, .p (.int .i64 a))], ⟨[[.p (.str s), .p (.int .i64 ((a + T.length : Nat) : Int))]], [acc.length]⟩, loopK_out (o := .ret) ?_ (by simp), rfl, rfl, rfl⟩
        simp only [Tok.pd] at hnx
        simp [fc13_b0, evKC, evK, put, Env.get, Env.keep, Opd.ev, loadD, storeD, splice, cutAt, binD, unD, lenD, cls, clash, mapO, D.cells, D.one, PD.one, D.refsL, D.refs, D.toksL, D.toks, callD, reach, boxRefs, boxToks, ins, nodupB, idx, D.renL, D.ren, back, firstN, putAll, Res.ren, locD, Out.ren, hlt, hnx]
      | true =>
        rw [hok] at hnx
        simp only [if_true]
        have hpos := tok_pos hlt hok
        generalize (tokAt s i).1 = t at *
        have hsk := skip_eq hb' hend
        have hle := skipTo_le hend
        have := ih (skipTo s (i + t.text.length)) (acc ++ [t]) hle.2 (by omega) (by simp; omega)
        rw [loopK_norm (s' := ⟨[(0, .p (.str s)), (5, .box 0 0), (6, .tsl 0 31 3 ((acc ++ [t]).map Tok.pd))], ⟨[[.p (.str s), .p (.int .i64 (skipTo s (i + t.text.length)))]], [(acc ++ [t]).length]⟩⟩) ?_]
        · exact this
        · have hroom : roomy (acc.length + 1) 32 = true := by simp only [roomy, Bool.and_eq_true, decide_eq_true_eq]; omega
          obtain ⟨k, T, a⟩ := t
          simp only [Tok.pd] at hnx
          simp only [Int.natCast_add] at hsk hle
          simp [fc13_b0, evKC, evK, put, Env.get, Env.keep, Opd.ev, loadD, storeD, splice, cutAt, binD, unD, lenD, sub, mapO, D.cells, D.one, PD.one, PD.cells, D.refsL, D.refs, D.toksL, D.toks, mkAgg, pures, fillE, appendD, srcD, D.elems?, D.asPD, callD, reach, boxRefs, boxToks, ins, nodupB, idx, D.renL, D.ren, back, firstN, putAll, Res.ren, locD, below, Out.ren, hlt, hnx, hsk, hroom, Tok.pd]
    · simp only [lexLoop, if_neg hlt]
      refine .inl ⟨rfl, [(0, .p (.str s)), (5, .box 0 0), (6, .tsl 0 31 3 (acc.map Tok.pd)), (23, .p (.bool false))], (i : Int), loopK_out (o := .exit 0) ?_ (by simp), rfl⟩
      simp [fc13_b0, evKC, evK, put, Env.get, Env.keep, Opd.ev, loadD, cutAt, binD, lenD, mapO, D.renL, D.ren, locD, below, Out.ren, hlt]

/-- The tokens, as data. -/
def Lexed.toks (r : Lexed) : PD := if r.2.1 = 0 then .slice 3 (r.1.map Tok.pd) else .nils
def Lexed.d (r : Lexed) : D := .tup [.p r.toks, .p (.int .i64 (r.2.1 : Nat)), .p (.int .i64 (r.2.2 : Nat))]

theorem lexLoop_ends (s : List UInt8) : ∀ (n i : Nat) (acc : List Tok), ((lexLoop s n i acc).2.1 = 0 ∧ (lexLoop s n i acc).2.2 = 0) ∨ ((lexLoop s n i acc).2.1 = 10 ∧ (lexLoop s n i acc).1 = [])
  | 0, _, _ => .inl ⟨rfl, rfl⟩
  | n + 1, i, acc => by
    simp only [lexLoop]
    split
    · split
      · exact lexLoop_ends s n _ _
      · exact .inr ⟨rfl, rfl⟩
    · exact .inl ⟨rfl, rfl⟩

theorem lex_body (s : List UInt8) (hmax : s.length ≤ 140737488355328) : ∃ d h, call pg 13 [.p (.str s)] ⟨[], []⟩ = some (.val d, h) ∧ d.ren (fun _ => none) (fun _ => none) = some (lex s).d := by
  by_cases hb : s.length > 20000
  · refine ⟨.tup [.p .nils, .p (.int .i64 2), .p (.int .i64 0)], ⟨[], []⟩, call_body (fc := fc13) rfl rfl rfl ?_, ?_⟩
    · have h : (20000 : Int) < s.length := by omega
      simp [fc13, evKC, evK, put, Env.get, Env.keep, entry, Opd.ev, binD, lenD, finish, evRes, evRes1, mapO, h]
    · simp [lex, hb, Lexed.d, Lexed.toks, D.renL, D.ren]
  · have hb' : s.length ≤ 20000 := by omega
    have hb2 : s.length ≤ 4611686018427387904 := by omega
    have hn : ¬ (20000 : Int) < s.length := by omega
    have hsk := skip_eq hb2 (Nat.zero_le s.length)
    have hle := skipTo_le (Nat.zero_le s.length)
    have h0 : (((0 : Nat) : Int)) = 0 := rfl
    rw [h0] at hsk
    have hx : lex s = lexLoop s (s.length + 1) (skipTo s 0) [] := by unfold lex; rw [if_neg hb]
    rcases lex_loop hb' (s.length + 1) (skipTo s 0) [] hle.2 (by omega) (by simp) with ⟨he, env, i, h1, h2⟩ | ⟨he, hnil, env, h, h1, h2, h3, h4⟩
    · have hpos : (lex s).2.2 = 0 := by
        rw [hx]
        rcases lexLoop_ends s (s.length + 1) (skipTo s 0) [] with q | q
        · exact q.2
        · rw [q.1] at he; cases he
      rw [← hx] at he h1 h2
      refine ⟨.tup [.tsl 0 31 3 ((lex s).1.map Tok.pd), .p (.int .i64 0), .p (.int .i64 0)], ⟨[[.p (.str s), .p (.int .i64 i)]], [(lex s).1.length]⟩, call_body (fc := fc13) rfl rfl rfl ?_, ?_⟩
      · simp only [List.map_nil, List.length_nil] at h1
        simp [fc13, evKC, evK, put, Env.get, Env.keep, entry, Opd.ev, splice, binD, lenD, finish, evRes, evRes1, mapO, D.cells, D.one, PD.one, D.refsL, D.refs, D.toksL, D.toks, mkAgg, pures, fillD, callD, reach, boxRefs, boxToks, ins, nodupB, idx, D.renL, D.ren, back, firstN, putAll, Res.ren, hn, hsk, tokD, h1, h2]
      · simp [he, hpos, Lexed.d, Lexed.toks, D.renL, D.ren]
    · rw [← hx] at he h4 hnil
      refine ⟨.tup [.p .nils, .p (.int .i64 10), .p (.int .i64 ((lex s).2.2 : Nat))], h, call_body (fc := fc13) rfl rfl rfl ?_, ?_⟩
      · simp only [List.map_nil, List.length_nil] at h1
        simp [fc13, evKC, evK, put, Env.get, Env.keep, entry, Opd.ev, splice, binD, lenD, finish, evRes, evRes1, mapO, D.cells, D.one, PD.one, D.refsL, D.refs, D.toksL, D.toks, mkAgg, pures, fillD, callD, reach, boxRefs, boxToks, ins, nodupB, idx, D.renL, D.ren, back, firstN, putAll, Res.ren, hn, hsk, tokD, h1, h2, h3, h4]
      · simp [he, Lexed.d, Lexed.toks, D.renL, D.ren]

/-- What a call of the lexer gives, wherever. -/
theorem lex_eq (s : List UInt8) (hmax : s.length ≤ 140737488355328) (H : Hp) : callD (call pg) 13 [.p (.str s)] H = some (.val (lex s).d, H) := by
  obtain ⟨d, h, h1, h2⟩ := lex_body s hmax
  exact callD_pure h1 rfl rfl rfl h2

end Go.Proofs.YtphnflkjgoobmaaDoor
