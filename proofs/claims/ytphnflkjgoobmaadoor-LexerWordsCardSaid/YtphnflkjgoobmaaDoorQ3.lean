/-
  The third law: the tokens' texts, parted anew.
-/
import Derived.Test.YtphnflkjgoobmaaDoorL6
import Derived.Test.YtphnflkjgoobmaaDoorFwW
namespace Go.Proofs.YtphnflkjgoobmaaDoor
open Go.Vs

/-- A slice of bytes, as the evaluator reads it. -/
structure HowS (x : PD) (n : Nat) (f : Nat → Int) : Prop where
  len : lenD 1 (.p x) = some n
  get : ∀ k, k < n → iaddrD none 1 (.p x) (k : Int) = some (.ro [.int .u8 (f k)] 0) ∧ 0 ≤ f k ∧ f k < 256

theorem howS {x : PD} (h : x = .nils ∨ ∃ zs : List Int, x = .slice 1 (zs.map (PD.int .u8)) ∧ ∀ n ∈ zs, (Lit.int .u8 n).wf = true) : ∃ n f, HowS x n f := by
  rcases h with rfl | ⟨zs, rfl, hw⟩
  · exact ⟨0, fun _ => 0, rfl, fun k hk => by omega⟩
  · refine ⟨zs.length, fun k => zs.getD k 0, by simp [lenD, D.elems?], fun k hk => ?_⟩
    have hm := hw zs[k] (List.getElem_mem hk)
    have hg : zs.getD k 0 = zs[k] := by simp [List.getD_eq_getElem?_getD, hk]
    simp only [hg]
    exact ⟨by simp [iaddrD, D.elems?, hk, PD.cells], u8_range hm⟩

def gapsD : D := .fsl 1 (gapsL.map .str)

theorem gapsD_get {j : Nat} (h : j < 5) : iaddrD none 1 gapsD (j : Int) = some (.ro [.str (gapsL.getD j [])] 0) := by
  have : ∀ j : Fin 5, iaddrD none 1 gapsD ((j.val : Nat) : Int) = some (.ro [.str (gapsL.getD j.val [])] 0) := by
    intro j
    match j with
    | ⟨0, _⟩ => rfl
    | ⟨1, _⟩ => rfl
    | ⟨2, _⟩ => rfl
    | ⟨3, _⟩ => rfl
    | ⟨4, _⟩ => rfl
  exact this ⟨j, h⟩

theorem gapsL_get {j : Nat} (h : j < 5) : gapsL.getD j [] ∈ gapsL ∧ (gapsL.getD j []).length ≤ 15 := by
  have : ∀ j : Fin 5, gapsL.getD j.val [] ∈ gapsL ∧ (gapsL.getD j.val []).length ≤ 15 := by decide +kernel
  exact this ⟨j, h⟩

theorem joined_snoc (ps : List (List UInt8 × List UInt8)) (x g : List UInt8) : joined (ps ++ [(x, g)]) = joined ps ++ x ++ g := by
  simp [joined]

theorem law3_build {how : PD} {hn : Nat} {hv : Nat → Int} (hh : HowS how hn hv) {l : List Tok} (hl : l.length ≤ 2000) (hx : ∀ x ∈ l, x.text.length ≤ 2000) : ∀ (n k : Nat) (ps : List (List UInt8 × List UInt8)), k + n = l.length → ps.length = k →
    ps.map (·.1) = (l.take k).map Tok.text → (∀ p ∈ ps, p.2 ∈ gapsL) → (joined ps).length ≤ 8100 →
    ∃ ps' : List (List UInt8 × List UInt8), ps'.length ≤ l.length ∧ ps'.map (·.1) = (l.take ps'.length).map Tok.text ∧ (∀ p ∈ ps', p.2 ∈ gapsL) ∧ (joined ps').length ≤ 8100 ∧ (ps'.length = l.length ∨ 6000 ≤ (joined ps').length) ∧
      loopK (call pg) pg.G [1, 5, 6, 9, 10, 11] fc5_b0 ⟨[(1, .p how), (5, .p (.bool true)), (6, .p (.slice 3 (l.map Tok.pd))), (9, gapsD), (10, .p (.str (joined ps))), (11, .p (.int .i64 k))], ⟨[], []⟩⟩ =
        some (.exit 0, ⟨[(1, .p how), (5, .p (.bool true)), (6, .p (.slice 3 (l.map Tok.pd))), (9, gapsD), (10, .p (.str (joined ps'))), (11, .p (.int .i64 ps'.length)), (41, .p (.bool false))], ⟨[], []⟩⟩) := by
  have hlen := hh.len
  have hll : (l.map Tok.pd).length = l.length := by simp
  intro n
  induction n with
  | zero =>
    intro k ps hk hp h1 h2 h3
    have hk' : k = l.length := by omega
    subst hk'
    refine ⟨ps, by omega, by rw [hp]; exact h1, h2, h3, .inl hp, loopK_out (o := .exit 0) ?_ (by simp)⟩
    simp [fc5_b0, evKC, evK, evGuard, put, Env.get, Env.keep, Opd.ev, binD, lenD_sl, hp]
  | succ n ih =>
    intro k ps hk hp h1 h2 h3
    have hkl : k < l.length := by omega
    have hki : (k : Int) < (l.length : Int) := by omega
    by_cases h6 : (joined ps).length < 6000
    · have hj : ∃ j : Nat, j < 5 ∧ (if k < hn then (hv k).tmod 5 else 0) = (j : Int) := by
        split
        · rename_i h
          have := (hh.get k h).2
          refine ⟨((hv k).tmod 5).toNat, ?_, ?_⟩ <;> rw [Int.tmod_eq_emod_of_nonneg this.1] <;> omega
        · exact ⟨0, by omega, rfl⟩
      obtain ⟨j, hj5, hje⟩ := hj
      obtain ⟨hgm, hgl⟩ := gapsL_get hj5
      have hgg := gapsD_get hj5
      have hxk := hx l[k] (List.getElem_mem hkl)
      have hget : iaddrD none 3 (.p (.slice 3 (l.map Tok.pd))) (k : Int) = some (.ro [.int .i64 l[k].kind, .str l[k].text, .int .i64 l[k].at_] 0) := by simp [iaddrD, D.elems?, hkl, Tok.pd, PD.cells]
      have htk : (l.take (k + 1)).map Tok.text = (l.take k).map Tok.text ++ [l[k].text] := by
        rw [List.take_succ_eq_append_getElem hkl, List.map_append]; rfl
      obtain ⟨ps', g1, g2, g3, g4, g5, g6⟩ := ih (k + 1) (ps ++ [(l[k].text, gapsL.getD j [])]) (by omega) (by simp [hp]) (by rw [List.map_append, h1, htk]; rfl) (fun p hp => by
          rcases List.mem_append.1 hp with h | h
          · exact h2 p h
          · have : p = (l[k].text, gapsL.getD j []) := by simpa using h
            rw [this]; exact hgm) (by rw [joined_snoc]; simp only [List.length_append]; omega)
      refine ⟨ps', g1, g2, g3, g4, g5, ?_⟩
      rw [← g6, joined_snoc]
      clear g6 ih g1 g2 g3 g4 g5
      refine loopK_norm ?_
      generalize gapsL.getD j [] = g at *
      generalize l[k] = x at *
      obtain ⟨kd, tx, a⟩ := x
      simp only at hxk hget ⊢
      generalize joined ps = T at *
      have hwk : IntKind.i64.wrap ((k : Int) + 1) = ((k + 1 : Nat) : Int) := by rw [wrap64 (by omega) (by omega)]; rfl
      have c6 : (T.length : Int) < 6000 := by omega
      have r1 : T.length + tx.length ≤ 140737488355328 := by omega
      have r2 : (T ++ tx).length + g.length ≤ 140737488355328 := by simp; omega
      have r3 : T.length + tx.length + g.length ≤ 140737488355328 := by omega
      generalize l.map Tok.pd = S at *
      generalize gapsD = GD at *
      by_cases hc : k < hn
      · obtain ⟨q1, q2, q3⟩ := hh.get k hc
        rw [if_pos hc] at hje
        have hwz : IntKind.i64.wrap (hv k) = hv k := wrap64 (by omega) (by omega)
        generalize hv k = z at *
        have hci : (k : Int) < (hn : Int) := by omega
        simp [fc5_b0, evKC, evK, evGuard, put, Env.get, Env.keep, Opd.ev, loadD, cutAt, D.asInt?, binD, strBin, cls, clash, lenD_str, lenD_sl, hlen, hll, hki, hget, hwk, c6, hci, q1, hwz, hje, hgg, r1, r3]
      · rw [if_neg hc] at hje
        have hci : ¬ (k : Int) < (hn : Int) := by omega
        have hj0 : j = 0 := by omega
        subst hj0
        simp only [Int.natCast_zero] at hgg
        simp [fc5_b0, evKC, evK, evGuard, put, Env.get, Env.keep, Opd.ev, loadD, cutAt, D.asInt?, binD, strBin, cls, clash, lenD_str, lenD_sl, hlen, hll, hki, hget, hwk, c6, hci, hgg, r1, r3]
    · refine ⟨ps, by omega, by rw [hp]; exact h1, h2, h3, .inr (by omega), loopK_out (o := .exit 0) ?_ (by simp)⟩
      have c6 : ¬ ((joined ps).length : Int) < 6000 := by omega
      generalize joined ps = T at *
      generalize l.map Tok.pd = S at *
      simp [fc5_b0, evKC, evK, evGuard, put, Env.get, Env.keep, Opd.ev, binD, lenD_str, lenD_sl, hll, hki, c6, hp]

theorem law3_same {l m : List Tok} (hl : l.length ≤ 100000) (hm : ∀ k (h1 : k < m.length) (h2 : k < l.length), m[k].kind = l[k].kind ∧ m[k].text = l[k].text) : ∀ (n k : Nat), k ≤ m.length → k ≤ l.length → n = l.length - k →
    ∃ env, env.get 5 = .p (.bool true) ∧ loopK (call pg) pg.G [5, 6, 13, 16] fc5_b1 ⟨[(5, .p (.bool true)), (6, .p (.slice 3 (l.map Tok.pd))), (13, .p (.slice 3 (m.map Tok.pd))), (16, .p (.int .i64 k))], ⟨[], []⟩⟩ =
      some (.exit 2, ⟨env, ⟨[], []⟩⟩) := by
  have hll : (l.map Tok.pd).length = l.length := by simp
  have hml : (m.map Tok.pd).length = m.length := by simp
  intro n
  induction n with
  | zero =>
    intro k h1 h2 h3
    have c2 : ¬ (k : Int) < (l.length : Int) := by omega
    refine ⟨[(5, .p (.bool true)), (6, .p (.slice 3 (l.map Tok.pd))), (13, .p (.slice 3 (m.map Tok.pd))), (16, .p (.int .i64 k)), (95, .p (.bool false))], rfl, loopK_out (o := .exit 2) ?_ (by simp)⟩
    generalize l.map Tok.pd = S at *
    generalize m.map Tok.pd = M at *
    by_cases c1 : (k : Int) < (m.length : Int)
    · simp [fc5_b1, evKC, evK, evGuard, put, Env.get, Env.keep, Opd.ev, binD, lenD_sl, hll, hml, c1, c2]
    · simp [fc5_b1, evKC, evK, evGuard, put, Env.get, Env.keep, Opd.ev, binD, lenD_sl, hml, c1]
  | succ n ih =>
    intro k h1 h2 h3
    have c2 : (k : Int) < (l.length : Int) := by omega
    by_cases c1 : (k : Int) < (m.length : Int)
    · obtain ⟨env, g1, g2⟩ := ih (k + 1) (by omega) (by omega) (by omega)
      refine ⟨env, g1, ?_⟩
      rw [← g2]
      clear g2 ih g1
      refine loopK_norm ?_
      obtain ⟨q1, q2⟩ := hm k (by omega) (by omega)
      have kl : k < l.length := by omega
      have km : k < m.length := by omega
      have gl : iaddrD none 3 (.p (.slice 3 (l.map Tok.pd))) (k : Int) = some (.ro [.int .i64 l[k].kind, .str l[k].text, .int .i64 l[k].at_] 0) := by simp [iaddrD, D.elems?, kl, Tok.pd, PD.cells]
      have gm : iaddrD none 3 (.p (.slice 3 (m.map Tok.pd))) (k : Int) = some (.ro [.int .i64 m[k].kind, .str m[k].text, .int .i64 m[k].at_] 0) := by simp [iaddrD, D.elems?, km, Tok.pd, PD.cells]
      rw [q1, q2] at gm
      have hwk : IntKind.i64.wrap ((k : Int) + 1) = ((k + 1 : Nat) : Int) := by rw [wrap64 (by omega) (by omega)]; rfl
      generalize l[k] = x at *
      obtain ⟨kd, tx, a⟩ := x
      simp only at gl gm
      generalize l.map Tok.pd = S at *
      generalize m.map Tok.pd = M at *
      have e1 : (kd != kd) = false := by simp
      have e2 : (tx == tx) = true := by simp
      simp [fc5_b1, evKC, evK, evGuard, put, Env.get, Env.keep, Opd.ev, loadD, cutAt, D.asInt?, binD, strBin, cls, clash, lenD_sl, hll, hml, c1, c2, gl, gm, hwk]
    · refine ⟨[(5, .p (.bool true)), (6, .p (.slice 3 (l.map Tok.pd))), (13, .p (.slice 3 (m.map Tok.pd))), (16, .p (.int .i64 k)), (95, .p (.bool false))], rfl, loopK_out (o := .exit 2) ?_ (by simp)⟩
      generalize l.map Tok.pd = S at *
      generalize m.map Tok.pd = M at *
      simp [fc5_b1, evKC, evK, evGuard, put, Env.get, Env.keep, Opd.ev, binD, lenD_sl, hml, c1]

theorem lexL_texts (t : List UInt8) : ∀ x ∈ (lexL t).1.map (T0.tok t.length), VTok x.kind x.text := by
  intro x hx
  obtain ⟨y, hy, rfl⟩ := List.mem_map.1 hx
  exact vtok_all (t.length + 1) t (by omega) y hy

theorem text_le : ∀ (n : Nat) (r : List UInt8), r.length < n → ∀ x ∈ (lexL r).1, x.text.length ≤ r.length := by
  intro n
  induction n with
  | zero => intro r h; omega
  | succ n ih =>
    intro r hn x hx
    have hsk := sk_len false r
    rcases lex_cases r with h | ⟨h, hb⟩ | ⟨h, hb⟩
    · rw [lexL_end h] at hx; cases hx
    · rw [lexL_bad h hb] at hx; cases hx
    · rw [lexL_good hb] at hx
      have hlt := behind_len hb
      rcases List.mem_cons.1 hx with rfl | hx
      · have := tok_len (sk false r)
        show (tokS (sk false r)).2.1.length ≤ _
        omega
      · have := ih (behind r) (by omega) x hx
        omega

theorem law3 (s : List UInt8) (how : PD) (hw : how = .nils ∨ ∃ zs : List Int, how = .slice 1 (zs.map (PD.int .u8)) ∧ ∀ n ∈ zs, (Lit.int .u8 n).wf = true) : ∃ H, call pg 5 [.p (.str s), .p how] ⟨[], []⟩ = some (.val (.p (.bool true)), H) := by
  refine ⟨⟨[], []⟩, call_body (fc := fc5) rfl rfl rfl ?_⟩
  obtain ⟨hn, hv, hh⟩ := howS hw
  have hf := few_eq s
  have ht : (s.take 2000).length ≤ 2000 := by simp; omega
  generalize s.take 2000 = t at *
  have hc11 := callD_pure (H := ⟨[], []⟩) head_eq rfl rfl rfl rfl
  have hc12 := callD_pure (H := ⟨[], []⟩) hf rfl rfl rfl rfl
  cases he : (lexL t).2 with
  | some p =>
    have h1 := lex_eq_err (by omega) he ⟨[], []⟩
    simp [fc5, evKC, evK, evGuard, put, Env.get, Env.keep, entry, Opd.ev, binD, finish, evRes, evRes1, hc11, hc12, h1]
  | none =>
    have h1 := lex_eq_ok (by omega) he ⟨[], []⟩
    have hcn := lexL_count (t.length + 1) t (by omega)
    have hvt := lexL_texts t
    have htx : ∀ x ∈ (lexL t).1.map (T0.tok t.length), x.text.length ≤ 2000 := by
      intro x hx
      obtain ⟨y, hy, rfl⟩ := List.mem_map.1 hx
      have := text_le (t.length + 1) t (by omega) y hy
      show y.text.length ≤ 2000
      omega
    have hl : ((lexL t).1.map (T0.tok t.length)).length ≤ 2000 := by simp; omega
    generalize (lexL t).1.map (T0.tok t.length) = l at *
    obtain ⟨ps, g1, g2, g3, g4, g5, g6⟩ := law3_build hh hl htx l.length 0 [] (by omega) rfl rfl (fun p hp => by cases hp) (by simp [joined])
    have h0 : (((0 : Nat) : Int)) = 0 := rfl
    have hj0 : joined [] = [] := rfl
    rw [h0, hj0] at g6
    have hkt : ((l.take ps.length).map fun x => (x.kind, x.text)).map (·.2) = ps.map (·.1) := by rw [g2, List.map_map]; rfl
    obtain ⟨k1, k2⟩ := lexL_joined ps ((l.take ps.length).map fun x => (x.kind, x.text)) hkt g3 (fun k hk => by
      obtain ⟨x, hx, rfl⟩ := List.mem_map.1 hk
      exact hvt x (List.mem_of_mem_take hx))
    have h2 := lex_eq_ok (by omega) k1 ⟨[], []⟩
    have hmk : ((lexL (joined ps)).1.map (T0.tok (joined ps).length)).map (fun x => (x.kind, x.text)) = (l.take ps.length).map fun x => (x.kind, x.text) := by
      rw [← k2, List.map_map]; rfl
    generalize (lexL (joined ps)).1.map (T0.tok (joined ps).length) = m at *
    have hml : m.length = ps.length := by
      have := congrArg List.length hmk
      simp at this
      omega
    obtain ⟨env, e1, e2⟩ := law3_same (l := l) (m := m) (by omega) (fun k q1 q2 => by
      have := congrArg (fun z => z[k]?) hmk
      simp only [List.getElem?_map, List.getElem?_take] at this
      rw [if_pos (by omega), List.getElem?_eq_getElem q1, List.getElem?_eq_getElem q2] at this
      simp only [Option.map_some, Option.some.injEq, Prod.mk.injEq] at this
      exact this) l.length 0 (Nat.zero_le _) (Nat.zero_le _) (by omega)
    rw [h0] at e2
    generalize joined ps = T at *
    have hll : (l.map Tok.pd).length = l.length := by simp
    have hmm : (m.map Tok.pd).length = m.length := by simp
    generalize l.map Tok.pd = S at *
    generalize m.map Tok.pd = M at *
    have hgd : gapsD = .fsl 1 [.str [32], .str [10], .str [32, 9, 13, 10], .str [32, 47, 47, 120, 10], .str [10, 47, 47, 32, 97, 32, 47, 32, 98, 32, 47, 47, 32, 10, 10]] := rfl
    rw [hgd] at g6
    by_cases hlen : ps.length = l.length
    · have c1 : ((m.length : Int) != (l.length : Int)) = false := by simp; omega
      simp [fc5, evKC, evK, evGuard, put, Env.get, Env.keep, entry, Opd.ev, binD, finish, evRes, evRes1, PD.one, PD.cells, fillE, D.asPD, lenD_sl, hll, hmm, hc11, hc12, h1, g6, h2, c1, e1, e2]
    · have c1 : ((m.length : Int) != (l.length : Int)) = true := by simp; omega
      have c2 : ¬ (T.length : Int) < 6000 := by omega
      simp [fc5, evKC, evK, evGuard, put, Env.get, Env.keep, entry, Opd.ev, binD, finish, evRes, evRes1, PD.one, PD.cells, fillE, D.asPD, lenD_str, lenD_sl, hll, hmm, hc11, hc12, h1, g6, h2, c1, c2, e1, e2]

end Go.Proofs.YtphnflkjgoobmaaDoor
