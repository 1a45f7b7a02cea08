/-
  The sixth law: no symbol extends the token before it.
-/
import Derived.Test.YtphnflkjgoobmaaDoorL9
import Derived.Test.YtphnflkjgoobmaaDoorQ3
import Derived.Test.YtphnflkjgoobmaaDoorFwW
namespace Go.Proofs.YtphnflkjgoobmaaDoor
open Go.Vs

/-- What the sixth law asks of two neighbours. -/
def Apart (l : List Tok) : Prop := ∀ (i : Nat) (h : i + 1 < l.length), l[i].at_ + l[i].text.length = l[i + 1].at_ → ∀ c t, l[i + 1].text = c :: t → (lexL (l[i].text ++ [c])).2 = none → 2 ≤ (lexL (l[i].text ++ [c])).1.length

theorem apart_lexL (t : List UInt8) : Apart ((lexL t).1.map (T0.tok t.length)) := by
  intro i h ha c u hc he
  have h' : i + 1 < (lexL t).1.length := by simpa using h
  have l1 := left_le (t.length + 1) t (by omega) _ (List.getElem_mem (show i < (lexL t).1.length by omega))
  have l2 := left_le (t.length + 1) t (by omega) _ (List.getElem_mem h')
  simp only [List.getElem_map, T0.tok] at ha hc he ⊢
  exact longest0 (t.length + 1) t i (by omega) h' (by omega) c u hc he

theorem law6_loop {l : List Tok} (hl : l.length ≤ 2000) (hap : Apart l) (htx : ∀ x ∈ l, x.text.length ≤ 2000 ∧ x.at_ ≤ 2000) : ∀ (n k : Nat), 1 ≤ k → n = l.length - k → k ≤ 4000 →
    ∃ env, env.get 3 = .p (.bool true) ∧ loopK (call pg) pg.G [3, 4, 7] fc8_b0 ⟨[(3, .p (.bool true)), (4, .p (.slice 3 (l.map Tok.pd))), (7, .p (.int .i64 k))], ⟨[], []⟩⟩ = some (.exit 0, ⟨env, ⟨[], []⟩⟩) := by
  have hll : (l.map Tok.pd).length = l.length := by simp
  intro n
  induction n with
  | zero =>
    intro k hk1 hk hk2
    have c1 : ¬ (k : Int) < (l.length : Int) := by omega
    refine ⟨[(3, .p (.bool true)), (4, .p (.slice 3 (l.map Tok.pd))), (7, .p (.int .i64 k)), (31, .p (.bool false))], rfl, loopK_out (o := .exit 0) ?_ (by simp)⟩
    generalize l.map Tok.pd = L at *
    simp [fc8_b0, evKC, evK, put, Env.get, Env.keep, Opd.ev, binD, mapO, D.ren, locD, Out.ren, lenD_sl, hll, c1]
  | succ n ih =>
    intro k hk1 hk hk2
    have hkl : k < l.length := by omega
    have c1 : (k : Int) < (l.length : Int) := by omega
    obtain ⟨env, g1, g2⟩ := ih (k + 1) (by omega) (by omega) (by omega)
    refine ⟨env, g1, ?_⟩
    rw [← g2]
    clear g1 g2 ih
    refine loopK_norm ?_
    obtain ⟨j, rfl⟩ : ∃ j, k = j + 1 := ⟨k - 1, by omega⟩
    have hj := hap j hkl
    have hjl : j < l.length := by omega
    obtain ⟨t1, t2⟩ := htx _ (List.getElem_mem hjl)
    obtain ⟨t3, t4⟩ := htx _ (List.getElem_mem hkl)
    have gj : iaddrD none 3 (.p (.slice 3 (l.map Tok.pd))) (j : Int) = some (.ro [.int .i64 l[j].kind, .str l[j].text, .int .i64 l[j].at_] 0) := by simp [iaddrD, D.elems?, hjl, Tok.pd, PD.cells]
    have gk : iaddrD none 3 (.p (.slice 3 (l.map Tok.pd))) ((j + 1 : Nat) : Int) = some (.ro [.int .i64 l[j + 1].kind, .str l[j + 1].text, .int .i64 l[j + 1].at_] 0) := by
      rw [iaddr_sl (by simpa using hkl)]
      simp only [List.getElem_map, Tok.pd, PD.cells]
    have hw1 : IntKind.i64.wrap (((j + 1 : Nat) : Int) - 1) = (j : Int) := by rw [wrap64 (by omega) (by omega)]; omega
    have hw2 : IntKind.i64.wrap (((j + 1 : Nat) : Int) + 1) = ((j + 1 + 1 : Nat) : Int) := by rw [wrap64 (by omega) (by omega)]; omega
    have hw3 : IntKind.i64.wrap ((l[j].at_ : Int) + (l[j].text.length : Int)) = ((l[j].at_ + l[j].text.length : Nat) : Int) := by rw [wrap64 (by omega) (by omega)]; rfl
    generalize l[j] = x at *
    generalize l[j + 1] = y at *
    obtain ⟨kx, tx, ax⟩ := x
    obtain ⟨ky, ty, ay⟩ := y
    simp only at hj gj gk hw3 t1 t2 t3 t4
    generalize ((j + 1 + 1 : Nat) : Int) = z2 at *
    generalize ((j + 1 : Nat) : Int) = z1 at *
    by_cases he : ax + tx.length = ay
    · have e1 : ((((ax + tx.length : Nat) : Int)) != (ay : Int)) = false := by simp; omega
      cases ty with
      | nil =>
        generalize ((ax + tx.length : Nat) : Int) = z3 at *
        generalize l.map Tok.pd = L at *
        simp [fc8_b0, evKC, evK, evGuard, put, Env.get, Env.keep, Opd.ev, loadD, storeD, splice, cutAt, D.asInt?, binD, strBin, sub, mapO, D.cells, D.one, PD.one, D.ren, locD, Out.ren, lenD_sl, lenD_str, hll, c1, hw1, hw2, hw3, gj, gk, e1]
      | cons c t =>
        have e2 : ((c :: t) == ([] : List UInt8)) = false := rfl
        have hL := hj he c t rfl
        have e3 : (1 : Int) ≤ ((c :: t).length : Int) := by simp only [List.length_cons]; omega
        have r1 : tx.length + 1 ≤ 140737488355328 := by omega
        generalize ((ax + tx.length : Nat) : Int) = z3 at *
        generalize l.map Tok.pd = L at *
        cases hq : (lexL (tx ++ [c])).2 with
        | some p =>
          have h1 := lex_eq_err (t := tx ++ [c]) (by simp; omega) hq ⟨[[.p (.int .i64 kx), .p (.str tx), .p (.int .i64 ax)], [.p (.int .i64 ky), .p (.str (c :: t)), .p (.int .i64 ay)]], []⟩
          simp [fc8_b0, evKC, evK, evGuard, put, Env.get, Env.keep, Opd.ev, loadD, storeD, splice, cutAt, D.asInt?, D.asNat?, binD, strBin, boundsD, sliceD, sub, cls, clash, mapO, D.cells, D.one, PD.one, D.refsL, D.refs, D.toksL, D.toks, D.ren, locD, Out.ren, lenD_sl, lenD_str, hll, c1, hw1, hw2, hw3, gj, gk, e1, r1, h1]
        | none =>
          have h1 := lex_eq_ok (t := tx ++ [c]) (by simp; omega) hq ⟨[[.p (.int .i64 kx), .p (.str tx), .p (.int .i64 ax)], [.p (.int .i64 ky), .p (.str (c :: t)), .p (.int .i64 ay)]], []⟩
          have h2 := hL hq
          have h3 : (((lexL (tx ++ [c])).1.map (T0.tok (tx ++ [c]).length)).map Tok.pd).length = (lexL (tx ++ [c])).1.length := by simp
          have h4 : ¬ ((((lexL (tx ++ [c])).1.map (T0.tok (tx ++ [c]).length)).map Tok.pd).length : Int) < 2 := by rw [h3]; omega
          generalize ((lexL (tx ++ [c])).1.map (T0.tok (tx ++ [c]).length)).map Tok.pd = M at *
          simp [fc8_b0, evKC, evK, evGuard, put, Env.get, Env.keep, Opd.ev, loadD, storeD, splice, cutAt, D.asInt?, D.asNat?, binD, strBin, boundsD, sliceD, sub, cls, clash, mapO, D.cells, D.one, PD.one, D.refsL, D.refs, D.toksL, D.toks, D.ren, locD, Out.ren, lenD_sl, lenD_str, hll, c1, hw1, hw2, hw3, gj, gk, e1, r1, h1, h4]
    · have e1 : ((((ax + tx.length : Nat) : Int)) != (ay : Int)) = true := by simp; omega
      generalize ((ax + tx.length : Nat) : Int) = z3 at *
      generalize l.map Tok.pd = L at *
      simp [fc8_b0, evKC, evK, evGuard, put, Env.get, Env.keep, Opd.ev, loadD, storeD, splice, cutAt, D.asInt?, binD, sub, mapO, D.cells, D.one, PD.one, D.ren, locD, Out.ren, lenD_sl, lenD_str, hll, c1, hw1, hw2, hw3, gj, gk, e1]

theorem law6 (s : List UInt8) : ∃ H, call pg 8 [.p (.str s)] ⟨[], []⟩ = some (.val (.p (.bool true)), H) := by
  refine ⟨⟨[], []⟩, call_body (fc := fc8) rfl rfl rfl ?_⟩
  have hf := few_eq s
  have ht : (s.take 2000).length ≤ 2000 := by simp; omega
  generalize s.take 2000 = t at *
  have hc11 := callD_pure (H := ⟨[], []⟩) head_eq rfl rfl rfl rfl
  have hc12 := callD_pure (H := ⟨[], []⟩) hf rfl rfl rfl rfl
  cases he : (lexL t).2 with
  | some p =>
    have h1 := lex_eq_err (by omega) he ⟨[], []⟩
    simp [fc8, evKC, evK, evGuard, put, Env.get, Env.keep, entry, Opd.ev, binD, finish, evRes, evRes1, hc11, hc12, h1]
  | none =>
    have h1 := lex_eq_ok (by omega) he ⟨[], []⟩
    have hcn := lexL_count (t.length + 1) t (by omega)
    have hap := apart_lexL t
    have htx : ∀ x ∈ (lexL t).1.map (T0.tok t.length), x.text.length ≤ 2000 ∧ x.at_ ≤ 2000 := by
      intro x hx
      obtain ⟨y, hy, rfl⟩ := List.mem_map.1 hx
      have := text_le (t.length + 1) t (by omega) y hy
      show y.text.length ≤ 2000 ∧ t.length - y.left ≤ 2000
      omega
    have hl : ((lexL t).1.map (T0.tok t.length)).length ≤ 2000 := by simp; omega
    generalize (lexL t).1.map (T0.tok t.length) = l at *
    obtain ⟨env, g1, g2⟩ := law6_loop hl hap htx (l.length - 1) 1 (by omega) rfl (by omega)
    have h0 : (((1 : Nat) : Int)) = 1 := rfl
    rw [h0] at g2
    simp [fc8, evKC, evK, put, Env.get, Env.keep, entry, Opd.ev, binD, finish, evRes, evRes1, hc11, hc12, h1, g1, g2]

end Go.Proofs.YtphnflkjgoobmaaDoor
