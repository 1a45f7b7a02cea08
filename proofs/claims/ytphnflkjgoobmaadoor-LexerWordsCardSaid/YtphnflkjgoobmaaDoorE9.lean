/-
  What the reference's Lex gives: what the lexer gives. Void, few, head, Same.
-/
import Derived.Test.YtphnflkjgoobmaaDoorE8
namespace Go.Proofs.YtphnflkjgoobmaaDoor
open Go.Vs

def LoopEnds2 (r : Lexed) (x : Option (Out × St)) : Prop :=
  (r.2.1 = 0 ∧ ∃ env h, x = some (.exit 0, ⟨env, h⟩) ∧ Env.get env 5 = .tsl 0 31 3 (r.1.map Tok.pd)) ∨
  (r.2.1 = 10 ∧ r.1 = [] ∧ ∃ env h, x = some (.ret, ⟨env, h⟩) ∧ Env.get env 2 = .p .nils ∧ Env.get env 3 = .p (.int .i64 10) ∧ Env.get env 4 = .p (.int .i64 r.2.2))

theorem ref_loop {s : List UInt8} (hb : s.length ≤ 20000) : ∀ (n i : Nat) (acc : List Tok), i ≤ s.length → s.length - i < n → acc.length ≤ i →
    LoopEnds2 (lexLoop s n i acc) (loopK (call pg) pg.G [0, 5, 6] fc14_b0 ⟨[(0, .p (.str s)), (5, .tsl 0 31 3 (acc.map Tok.pd)), (6, .p (.int .i64 i))], ⟨[], [acc.length]⟩⟩) := by
  intro n
  induction n with
  | zero => intro i acc hi hn; omega
  | succ n ih =>
    intro i acc hi hn hacc
    have hb' : s.length ≤ 4611686018427387904 := by omega
    by_cases hlt : i < s.length
    · obtain ⟨g, hnx⟩ := one_eq hb' hlt
      have hend := tok_end hi
      simp only [lexLoop, if_pos hlt]
      cases hok : (tokAt s i).2 with
      | false =>
        rw [hok] at hnx
        simp only [Bool.false_eq_true, if_false]
        generalize (tokAt s i).1 = t at *
        obtain ⟨k, T, a⟩ := t
        refine .inr ⟨rfl, rfl, [(2, .p .nils), (3, .p (.int .i64 10)), (4, .p (.int .i64 i))], ⟨[], [acc.length]⟩, loopK_out (o := .ret) ?_ (by simp), rfl, rfl, rfl⟩
        simp only [Tok.pd] at hnx
        simp [fc14_b0, evKC, evK, put, Env.get, Env.keep, Opd.ev, storeD, splice, binD, unD, lenD, mapO, D.cells, D.one, PD.one, D.refsL, D.refs, D.toksL, D.toks, callD, reach, boxToks, ins, nodupB, idx, D.renL, D.ren, back, firstN, putAll, Res.ren, locD, Out.ren, hlt, hnx]
      | true =>
        rw [hok] at hnx
        simp only [if_true]
        have hpos := tok_pos hlt hok
        generalize (tokAt s i).1 = t at *
        have hgp := gap_eq hb' hend
        have hle := skipTo_le hend
        have := ih (skipTo s (i + t.text.length)) (acc ++ [t]) hle.2 (by omega) (by simp; omega)
        rw [loopK_norm (s' := ⟨[(0, .p (.str s)), (5, .tsl 0 31 3 ((acc ++ [t]).map Tok.pd)), (6, .p (.int .i64 (skipTo s (i + t.text.length))))], ⟨[], [(acc ++ [t]).length]⟩⟩) ?_]
        · exact this
        · have hroom : roomy (acc.length + 1) 32 = true := by simp only [roomy, Bool.and_eq_true, decide_eq_true_eq]; omega
          have hwr : IntKind.i64.wrap ((i : Int) + (t.text.length : Int)) = ((i + t.text.length : Nat) : Int) := by rw [wrap64 (by omega) (by omega)]; rfl
          obtain ⟨k, T, a⟩ := t
          simp only [Tok.pd] at hnx
          simp only [Int.natCast_add] at hgp hle hwr
          simp [fc14_b0, evKC, evK, put, Env.get, Env.keep, Opd.ev, loadD, storeD, splice, cutAt, binD, unD, lenD, sub, mapO, D.cells, D.one, PD.one, PD.cells, D.refsL, D.refs, D.toksL, D.toks, mkAgg, pures, fillE, appendD, srcD, D.elems?, D.asPD, callD, reach, boxRefs, boxToks, ins, nodupB, idx, D.renL, D.ren, back, firstN, putAll, Res.ren, locD, below, Out.ren, hlt, hnx, hgp, hroom, Tok.pd, hwr]
    · simp only [lexLoop, if_neg hlt]
      refine .inl ⟨rfl, [(0, .p (.str s)), (5, .tsl 0 31 3 (acc.map Tok.pd)), (6, .p (.int .i64 i)), (18, .p (.bool false))], ⟨[], [acc.length]⟩, loopK_out (o := .exit 0) ?_ (by simp), rfl⟩
      simp [fc14_b0, evKC, evK, put, Env.get, Env.keep, Opd.ev, binD, lenD, mapO, D.ren, locD, below, Out.ren, hlt]

theorem ref_body (s : List UInt8) (hmax : s.length ≤ 140737488355328) : ∃ d h, call pg 14 [.p (.str s)] ⟨[], []⟩ = some (.val d, h) ∧ d.ren (fun _ => none) (fun _ => none) = some (lex s).d := by
  by_cases hb : s.length > 20000
  · refine ⟨.tup [.p .nils, .p (.int .i64 2), .p (.int .i64 0)], ⟨[], []⟩, call_body (fc := fc14) rfl rfl rfl ?_, ?_⟩
    · have h : (20000 : Int) < s.length := by omega
      simp [fc14, evKC, evK, put, Env.get, Env.keep, entry, Opd.ev, binD, lenD, finish, evRes, evRes1, mapO, h]
    · simp [lex, hb, Lexed.d, Lexed.toks, D.renL, D.ren]
  · have hb' : s.length ≤ 20000 := by omega
    have hb2 : s.length ≤ 4611686018427387904 := by omega
    have hn : ¬ (20000 : Int) < s.length := by omega
    have hsk := gap_eq hb2 (Nat.zero_le s.length)
    have hle := skipTo_le (Nat.zero_le s.length)
    have h0 : (((0 : Nat) : Int)) = 0 := rfl
    rw [h0] at hsk
    have hx : lex s = lexLoop s (s.length + 1) (skipTo s 0) [] := by unfold lex; rw [if_neg hb]
    rcases ref_loop hb' (s.length + 1) (skipTo s 0) [] hle.2 (by omega) (by simp) with ⟨he, env, h, h1, h2⟩ | ⟨he, hnil, env, h, h1, h2, h3, h4⟩
    · have hpos : (lex s).2.2 = 0 := by
        rw [hx]
        rcases lexLoop_ends s (s.length + 1) (skipTo s 0) [] with q | q
        · exact q.2
        · rw [q.1] at he; cases he
      rw [← hx] at he h2
      refine ⟨.tup [.tsl 0 31 3 ((lex s).1.map Tok.pd), .p (.int .i64 0), .p (.int .i64 0)], h, call_body (fc := fc14) rfl rfl rfl ?_, ?_⟩
      · simp only [List.map_nil, List.length_nil] at h1
        simp [fc14, evKC, evK, put, Env.get, Env.keep, entry, Opd.ev, binD, lenD, finish, evRes, evRes1, mapO, PD.one, PD.cells, D.refsL, D.refs, D.toksL, D.toks, fillE, callD, reach, boxToks, ins, nodupB, idx, D.renL, D.ren, back, firstN, putAll, Res.ren, hn, hsk, tokD, h1, h2]
      · simp [he, hpos, Lexed.d, Lexed.toks, D.renL, D.ren]
    · rw [← hx] at he h4 hnil
      refine ⟨.tup [.p .nils, .p (.int .i64 10), .p (.int .i64 ((lex s).2.2 : Nat))], h, call_body (fc := fc14) rfl rfl rfl ?_, ?_⟩
      · simp only [List.map_nil, List.length_nil] at h1
        simp [fc14, evKC, evK, put, Env.get, Env.keep, entry, Opd.ev, binD, lenD, finish, evRes, evRes1, mapO, PD.one, PD.cells, D.refsL, D.refs, D.toksL, D.toks, fillE, callD, reach, boxToks, ins, nodupB, idx, D.renL, D.ren, back, firstN, putAll, Res.ren, hn, hsk, tokD, h1, h2, h3, h4]
      · simp [he, Lexed.d, Lexed.toks, D.renL, D.ren]

theorem ref_eq (s : List UInt8) (hmax : s.length ≤ 140737488355328) (H : Hp) : callD (call pg) 14 [.p (.str s)] H = some (.val (lex s).d, H) := by
  obtain ⟨d, h, h1, h2⟩ := ref_body s hmax
  exact callD_pure h1 rfl rfl rfl h2

theorem few_eq (s : List UInt8) : call pg 12 [.p (.str s)] ⟨[], []⟩ = some (.val (.p (.str (s.take 2000))), ⟨[], []⟩) := by
  refine call_body (fc := fc12) rfl rfl rfl ?_
  by_cases h : (2000 : Int) < s.length
  · have h2 : 2000 ≤ s.length := by omega
    simp [fc12, evKC, evK, put, Env.get, Env.keep, entry, Opd.ev, D.asNat?, lenD, boundsD, sliceD, sub, minmaxD, finish, evRes, evRes1, h, h2]
  · have h2 : s.take 2000 = s := List.take_of_length_le (by omega)
    simp [fc12, evKC, evK, put, Env.get, Env.keep, entry, Opd.ev, D.asNat?, lenD, boundsD, sliceD, sub, minmaxD, finish, evRes, evRes1, Int.toNat_natCast, h, h2]

theorem head_eq : call pg 11 [] ⟨[], []⟩ = some (.val (.p (.bool true)), ⟨[], []⟩) := call_of_evF 40 (okB_iff (by decide +kernel))

end Go.Proofs.YtphnflkjgoobmaaDoor
