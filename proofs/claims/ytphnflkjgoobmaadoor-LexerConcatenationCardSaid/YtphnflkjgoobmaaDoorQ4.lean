/-
  The fourth law: two inputs with a blank in between.
-/
import Derived.Test.YtphnflkjgoobmaaDoorL7
import Derived.Test.YtphnflkjgoobmaaDoorFwW
namespace Go.Proofs.YtphnflkjgoobmaaDoor
open Go.Vs

theorem open_loop {s : List UInt8} (hb : s.length ≤ 2000) : ∀ (n k : Nat) (m : Bool), k + n = s.length →
    loopK (call pg) pg.G [0, 3, 4] fc17_b0 ⟨[(0, .p (.str s)), (3, .p (.int .i64 k)), (4, .p (.bool m))], ⟨[], []⟩⟩ =
      some (.exit 0, ⟨[(0, .p (.str s)), (3, .p (.int .i64 s.length)), (4, .p (.bool (opnF m (s.drop k)))), (8, .p (.bool false))], ⟨[], []⟩⟩) := by
  intro n
  induction n with
  | zero =>
    intro k m hk
    have hk' : k = s.length := by omega
    subst hk'
    rw [List.drop_eq_nil_of_le (Nat.le_refl _)]
    refine loopK_out (o := .exit 0) ?_ (by simp)
    simp [fc17_b0, evKC, evK, put, Env.get, Env.keep, Opd.ev, binD, lenD, mapO, D.ren, locD, Out.ren, opnF]
  | succ n ih =>
    intro k m hk
    have hkl : k < s.length := by omega
    have hs := ch_get2 hkl
    have hc := comment_eq (s := s) (by omega) (Nat.le_of_lt hkl)
    have hd : s.drop k = ch s k :: s.drop (k + 1) := by rw [List.drop_eq_getElem_cons hkl, hs]
    have hwk : IntKind.i64.wrap ((k : Int) + 1) = ((k + 1 : Nat) : Int) := by rw [wrap64 (by omega) (by omega)]; rfl
    rw [hd, pre2] at hc
    rw [hd]
    simp only [opnF]
    rw [← ih (k + 1) _ (by omega)]
    refine loopK_norm ?_
    have h10 : (((ch s k).toNat : Int) == 10) = (ch s k == 10) := all_bytes (p := fun c => ((c.toNat : Int) == 10) = (c == 10)) (by decide +kernel) _
    generalize (ch s k == 47 && (s.drop (k + 1)).head? == some 47) = q at *
    generalize ch s k = c at *
    cases m with
    | true =>
      cases h : (c == 10)
      · simp [fc17_b0, evKC, evK, evGuard, put, Env.get, Env.keep, Opd.ev, indexD, D.asInt?, u8, binD, unD, lenD, mapO, Int.toNat_natCast, D.ren, locD, Out.ren, hkl, hs, h10, h, hwk]
      · simp [fc17_b0, evKC, evK, evGuard, put, Env.get, Env.keep, Opd.ev, indexD, D.asInt?, u8, binD, unD, lenD, mapO, Int.toNat_natCast, D.ren, locD, Out.ren, hkl, hs, h10, h, hwk]
    | false =>
      cases q <;> cases h : (c == 10) <;> simp [fc17_b0, evKC, evK, evGuard, put, Env.get, Env.keep, Opd.ev, indexD, D.asInt?, u8, binD, unD, lenD, mapO, D.refsL, D.refs, D.toksL, D.toks, Int.toNat_natCast, callD, reach, boxToks, ins, nodupB, idx, D.renL, D.ren, back, firstN, putAll, Res.ren, locD, Out.ren, hkl, hs, h10, h, hwk, hc]

theorem open_eq {s : List UInt8} (hb : s.length ≤ 2000) : call pg 17 [.p (.str s)] ⟨[], []⟩ = some (.val (.p (.bool (opnF false s))), ⟨[], []⟩) := by
  refine call_body (fc := fc17) rfl rfl rfl ?_
  have h := open_loop hb s.length 0 false (by omega)
  rw [List.drop_zero] at h
  have h0 : (((0 : Nat) : Int)) = 0 := rfl
  rw [h0] at h
  simp [fc17, evKC, evK, put, Env.get, Env.keep, entry, Opd.ev, finish, evRes, evRes1, h]

theorem law4_loop {a : List UInt8} (ha : a.length ≤ 2000) {l m nn : List Tok} (hl : l.length ≤ 2000) (hm : m.length ≤ 2000) (hn : nn = l ++ m.map (Tok.shift (a.length + 1))) (hat : ∀ x ∈ m, x.at_ ≤ 2000) : ∀ (n k : Nat), k + n = m.length →
    ∃ env, env.get 5 = .p (.bool true) ∧ env.get 14 = .p (.slice 3 (nn.map Tok.pd)) ∧ env.get 8 = .p (.slice 3 (l.map Tok.pd)) ∧
      loopK (call pg) pg.G [5, 6, 8, 11, 14, 17] fc6_b0 ⟨[(5, .p (.bool true)), (6, .p (.str a)), (8, .p (.slice 3 (l.map Tok.pd))), (11, .p (.slice 3 (m.map Tok.pd))), (14, .p (.slice 3 (nn.map Tok.pd))), (17, .p (.int .i64 k))], ⟨[], []⟩⟩ =
        some (.exit 0, ⟨env, ⟨[], []⟩⟩) := by
  have hll : (l.map Tok.pd).length = l.length := by simp
  have hml : (m.map Tok.pd).length = m.length := by simp
  intro n
  induction n with
  | zero =>
    intro k hk
    have hk' : k = m.length := by omega
    subst hk'
    refine ⟨[(5, .p (.bool true)), (6, .p (.str a)), (8, .p (.slice 3 (l.map Tok.pd))), (11, .p (.slice 3 (m.map Tok.pd))), (14, .p (.slice 3 (nn.map Tok.pd))), (17, .p (.int .i64 m.length)), (98, .p (.bool false))], rfl, rfl, rfl, loopK_out (o := .exit 0) ?_ (by simp)⟩
    generalize l.map Tok.pd = L at *
    generalize m.map Tok.pd = M at *
    generalize nn.map Tok.pd = N at *
    simp [fc6_b0, evKC, evK, put, Env.get, Env.keep, Opd.ev, binD, mapO, D.ren, locD, Out.ren, lenD_sl, hml]
  | succ n ih =>
    intro k hk
    obtain ⟨env, g1, g2, g3, g4⟩ := ih (k + 1) (by omega)
    refine ⟨env, g1, g2, g3, ?_⟩
    rw [← g4]
    clear g1 g2 g3 g4 ih
    refine loopK_norm ?_
    have km : k < m.length := by omega
    have kn : l.length + k < nn.length := by rw [hn]; simp; omega
    have hnk : nn[l.length + k] = Tok.shift (a.length + 1) m[k] := by
      subst hn
      rw [List.getElem_append_right (by omega)]
      simp
    have gm : iaddrD none 3 (.p (.slice 3 (m.map Tok.pd))) (k : Int) = some (.ro [.int .i64 m[k].kind, .str m[k].text, .int .i64 m[k].at_] 0) := by simp [iaddrD, D.elems?, km, Tok.pd, PD.cells]
    have gn : iaddrD none 3 (.p (.slice 3 (nn.map Tok.pd))) ((l.length + k : Nat) : Int) = some (.ro [.int .i64 m[k].kind, .str m[k].text, .int .i64 (m[k].at_ + (a.length + 1) : Nat)] 0) := by
      rw [iaddr_sl (by simpa using kn)]
      simp only [List.getElem_map, hnk, Tok.shift, Tok.pd, PD.cells]
    have hak := hat m[k] (List.getElem_mem km)
    have ki : (k : Int) < (m.length : Int) := by omega
    generalize m[k] = x at *
    obtain ⟨kd, tx, t0⟩ := x
    simp only at gm gn hak
    have hwk : IntKind.i64.wrap ((k : Int) + 1) = ((k + 1 : Nat) : Int) := by rw [wrap64 (by omega) (by omega)]; rfl
    have hw1 : IntKind.i64.wrap ((t0 : Int) + (a.length : Int)) = ((t0 + a.length : Nat) : Int) := by rw [wrap64 (by omega) (by omega)]; rfl
    have hw2 : IntKind.i64.wrap (((t0 + a.length : Nat) : Int) + 1) = ((t0 + (a.length + 1) : Nat) : Int) := by rw [wrap64 (by omega) (by omega)]; omega
    have hw3 : IntKind.i64.wrap ((l.length : Int) + (k : Int)) = ((l.length + k : Nat) : Int) := by rw [wrap64 (by omega) (by omega)]; rfl
    generalize ((t0 + (a.length + 1) : Nat) : Int) = z1 at *
    generalize ((t0 + a.length : Nat) : Int) = z2 at *
    generalize ((l.length + k : Nat) : Int) = z3 at *
    generalize l.map Tok.pd = L at *
    generalize m.map Tok.pd = M at *
    generalize nn.map Tok.pd = N at *
    simp [fc6_b0, evKC, evK, put, Env.get, Env.keep, Opd.ev, loadD, storeD, splice, cutAt, D.asInt?, binD, sub, eqvL, PD.eqv, cls, clash, mapO, D.cells, D.one, PD.one, mkAgg, pures, D.ren, locD, Out.ren, lenD_sl, lenD_str, hml, hll, ki, gm, gn, hwk, hw1, hw2, hw3]

theorem sl_toks (l : List Tok) : Sl (.slice 3 (l.map Tok.pd)) l := .inr rfl

theorem law4 (s o : List UInt8) : ∃ H, call pg 6 [.p (.str s), .p (.str o)] ⟨[], []⟩ = some (.val (.p (.bool true)), H) := by
  refine ⟨⟨[], []⟩, call_body (fc := fc6) rfl rfl rfl ?_⟩
  have hf := few_eq s
  have ho := few_eq o
  have ha : (s.take 2000).length ≤ 2000 := by simp; omega
  have hb : (o.take 2000).length ≤ 2000 := by simp; omega
  generalize s.take 2000 = a at *
  generalize o.take 2000 = b at *
  have hc11 := callD_pure (H := ⟨[], []⟩) head_eq rfl rfl rfl rfl
  have hc12 := callD_pure (H := ⟨[], []⟩) hf rfl rfl rfl rfl
  have hc13 := callD_pure (H := ⟨[], []⟩) ho rfl rfl rfl rfl
  have hc17 := callD_pure (H := ⟨[], []⟩) (open_eq ha) rfl rfl rfl rfl
  have hcl : (a ++ 32 :: b).length ≤ 20000 := by simp; omega
  have r1 : a.length + 1 ≤ 140737488355328 := by omega
  have r2 : a.length + 1 + b.length ≤ 140737488355328 := by omega
  cases he : (lexL a).2 with
  | some p =>
    have h1 := lex_eq_err (by omega) he ⟨[], []⟩
    have hce := cat_err (b := b) he
    have h3 := lex_eq_err hcl hce ⟨[], []⟩
    obtain ⟨p1, p2⟩ := lexL_err_pos (a.length + 1) a p (by omega) he
    have hz : ((((a ++ 32 :: b).length - (p + (b.length + 1)) : Nat) : Int) == ((a.length - p : Nat) : Int)) = true := by
      rw [beq_iff_eq]
      simp only [List.length_append, List.length_cons]
      omega
    generalize (((a ++ 32 :: b).length - (p + (b.length + 1)) : Nat) : Int) = z at *
    cases hb2 : (lexL b).2 with
    | some q =>
      have h2 := lex_eq_err (by omega) hb2 ⟨[], []⟩
      simp [fc6, evKC, evK, evGuard, put, Env.get, Env.keep, entry, Opd.ev, binD, strBin, finish, evRes, evRes1, hc11, hc12, hc13, h1, h2, h3, r1, r2, hz]
    | none =>
      have h2 := lex_eq_ok (by omega) hb2 ⟨[], []⟩
      simp [fc6, evKC, evK, evGuard, put, Env.get, Env.keep, entry, Opd.ev, binD, strBin, finish, evRes, evRes1, hc11, hc12, hc13, h1, h2, h3, r1, r2, hz]
  | none =>
    have h1 := lex_eq_ok (by omega) he ⟨[], []⟩
    have hcn := lexL_count (a.length + 1) a (by omega)
    have hcm := lexL_count (b.length + 1) b (by omega)
    cases hop : opnF false a with
    | true =>
      rw [hop] at hc17
      have h3 := lex_eq (a ++ 32 :: b) (by omega) ⟨[], []⟩
      unfold Lexed.d at h3
      generalize (lex (a ++ 32 :: b)).toks = d3 at *
      have h2 := lex_eq b (by omega) ⟨[], []⟩
      unfold Lexed.d at h2
      generalize (lex b).toks = d2 at *
      simp [fc6, evKC, evK, put, Env.get, Env.keep, entry, Opd.ev, binD, strBin, finish, evRes, evRes1, hc11, hc12, hc13, hc17, h1, h2, h3, r1, r2]
    | false =>
      rw [hop] at hc17
      obtain ⟨hce, hct⟩ := cat_ok (b := b) he hop
      have hll : ((lexL a).1.map (T0.tok a.length)).length ≤ 2000 := by simp; omega
      have hmm : ((lexL b).1.map (T0.tok b.length)).length ≤ 2000 := by simp; omega
      have hat : ∀ x ∈ (lexL b).1.map (T0.tok b.length), x.at_ ≤ 2000 := by
        intro x hx
        obtain ⟨y, hy, rfl⟩ := List.mem_map.1 hx
        show b.length - y.left ≤ 2000
        omega
      cases hb2 : (lexL b).2 with
      | some q =>
        have h2 := lex_eq_err (by omega) hb2 ⟨[], []⟩
        rw [hb2] at hce
        have h3 := lex_eq_err hcl hce ⟨[], []⟩
        obtain ⟨p1, p2⟩ := lexL_err_pos (b.length + 1) b q (by omega) hb2
        have hw1 : IntKind.i64.wrap ((a.length : Int) + 1) = ((a.length + 1 : Nat) : Int) := by rw [wrap64 (by omega) (by omega)]; rfl
        have hw2 : IntKind.i64.wrap (((a.length + 1 : Nat) : Int) + ((b.length - q : Nat) : Int)) = ((a.length + 1 + (b.length - q) : Nat) : Int) := by rw [wrap64 (by omega) (by omega)]; rfl
        have hz : ((((a ++ 32 :: b).length - q : Nat) : Int) == ((a.length + 1 + (b.length - q) : Nat) : Int)) = true := by
          rw [beq_iff_eq]
          simp only [List.length_append, List.length_cons]
          omega
        generalize (((a ++ 32 :: b).length - q : Nat) : Int) = z at *
        generalize ((a.length + 1 + (b.length - q) : Nat) : Int) = z2 at *
        generalize ((a.length + 1 : Nat) : Int) = z3 at *
        simp [fc6, evKC, evK, evGuard, put, Env.get, Env.keep, entry, Opd.ev, binD, strBin, finish, evRes, evRes1, lenD_str, lenD_nils, hc11, hc12, hc13, hc17, h1, h2, h3, r1, r2, hw1, hw2, hz]
      | none =>
        have h2 := lex_eq_ok (by omega) hb2 ⟨[], []⟩
        rw [hb2] at hce
        have h3 := lex_eq_ok hcl hce ⟨[], []⟩
        rw [hct] at h3
        generalize (lexL a).1.map (T0.tok a.length) = l at *
        generalize (lexL b).1.map (T0.tok b.length) = m at *
        obtain ⟨nn, hnn⟩ : ∃ nn, nn = l ++ m.map (Tok.shift (a.length + 1)) := ⟨_, rfl⟩
        obtain ⟨env, g1, g2, g3, g4⟩ := law4_loop ha hll hmm hnn hat m.length 0 (by omega)
        have h0 : (((0 : Nat) : Int)) = 0 := rfl
        rw [h0] at g4
        rw [← hnn] at h3
        have hnl : nn.length = l.length + m.length := by rw [hnn]; simp
        have hsame := same_eq (sl_toks l) (sl_toks l) (by omega)
        rw [sameB_self] at hsame
        have hcs := callD_pure (H := ⟨[], []⟩) hsame rfl rfl rfl rfl
        have hll2 : (l.map Tok.pd).length = l.length := by simp
        have hml2 : (m.map Tok.pd).length = m.length := by simp
        have hnl2 : (nn.map Tok.pd).length = nn.length := by simp
        have htk : (nn.map Tok.pd).take l.length = l.map Tok.pd := by rw [hnn]; simp []
        have hw1 : IntKind.i64.wrap ((l.length : Int) + (m.length : Int)) = ((l.length + m.length : Nat) : Int) := by rw [wrap64 (by omega) (by omega)]; rfl
        have hz : (((nn.length : Int)) != ((l.length + m.length : Nat) : Int)) = false := by simp; omega
        have hle : l.length ≤ nn.length := by omega
        generalize ((l.length + m.length : Nat) : Int) = z3 at *
        generalize l.map Tok.pd = L at *
        generalize m.map Tok.pd = M at *
        generalize nn.map Tok.pd = NN at *
        simp [fc6, evKC, evK, evGuard, put, Env.get, Env.keep, entry, Opd.ev, D.asNat?, binD, strBin, boundsD, sliceD, sub, finish, evRes, evRes1, D.elems?, Int.toNat_natCast, lenD_sl, hc11, hc12, hc13, hc17, h1, h2, h3, r1, r2, hw1, hz, hll2, hml2, hnl2, g1, g2, g3, g4, htk, hle, hcs]

end Go.Proofs.YtphnflkjgoobmaaDoor
