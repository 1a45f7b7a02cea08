/-
  The reference's comparison, when the second row is one that has grown.
-/
import Derived.Test.YtebbfckifhbkoaaGreatDoorG6
namespace Go.Proofs.YtebbfckifhbkoaaGreatDoor
open Go.Vs

theorem esT_len (t : Nat) {es : List PD} {l : List Cmd} (h : esOk es l) : lenD 1 (.tsl t 35 3 es) = some l.length := by
  simp [lenD, D.elems?, h.1]

theorem esT_ia (t : Nat) {es : List PD} {l : List Cmd} (h : esOk es l) {j : Nat} (hj : j < l.length) : ∃ v, slP v l[j].nums ∧ iaddrD none 3 (.tsl t 35 3 es) (j : Int) = some (.ro [.int .i64 (l[j].kind : Int), .str l[j].text, v] 0) := by
  have hj' : j < es.length := by rw [h.1]; exact hj
  obtain ⟨v, h1, h2⟩ := h.2 j es[j] l[j] (List.getElem?_eq_getElem hj') (List.getElem?_eq_getElem hj)
  refine ⟨v, h2, ?_⟩
  simp [iaddrD, D.elems?, hj', h1, PD.cells]

theorem sameT_loop {p : PD} {es : List PD} {a b : List Cmd} (hp : cmsP p a) (hq : esOk es b) (ha : okNums a) (hb : okNums b) (hl : a.length = b.length) (hlen : a.length ≤ 4294967296) : ∀ (n j : Nat), j ≤ a.length → a.length - j ≤ n →
    ∃ env, loopK (call pg) pg.G [0, 1, 5] fc14_b0 ⟨[(0, .p p), (1, .tsl 0 35 3 es), (5, .p (.int .i64 j))], ⟨[], [es.length]⟩⟩ =
      if allEq (a.drop j) (b.drop j) then some (.exit 0, ⟨env, ⟨[], [es.length]⟩⟩) else some (.ret, ⟨[(4, .p (.bool false))], ⟨[], [es.length]⟩⟩) := by
  have hll := cms_len hp
  intro n
  induction n with
  | zero =>
    intro j hj hn
    have : j = a.length := by omega
    refine ⟨[(0, .p p), (1, .tsl 0 35 3 es), (5, .p (.int .i64 j)), (14, .p (.bool false))], ?_⟩
    rw [List.drop_eq_nil_of_le (by omega), List.drop_eq_nil_of_le (by omega), allEq_nil, if_pos rfl]
    refine loopK_out (o := .exit 0) ?_ (by simp)
    simp [fc14_b0, evKC, evK, put, Env.get, Env.keep, Opd.ev, binD, mapO, D.ren, locD, below, Out.ren, List.map, this, hll]
  | succ n ih =>
    intro j hj hn
    by_cases he : j = a.length
    · refine ⟨[(0, .p p), (1, .tsl 0 35 3 es), (5, .p (.int .i64 j)), (14, .p (.bool false))], ?_⟩
      rw [List.drop_eq_nil_of_le (by omega), List.drop_eq_nil_of_le (by omega), allEq_nil, if_pos rfl]
      refine loopK_out (o := .exit 0) ?_ (by simp)
      simp [fc14_b0, evKC, evK, put, Env.get, Env.keep, Opd.ev, binD, mapO, D.ren, locD, below, Out.ren, List.map, he, hll]
    · have hlt : j < a.length := by omega
      have hltb : j < b.length := by omega
      have hlt' : (j : Int) < (a.length : Int) := by omega
      obtain ⟨v, hv, hia⟩ := cms_ia hp hlt
      obtain ⟨u, hu, hib⟩ := esT_ia 0 hq hltb
      obtain ⟨k1, k2, k3⟩ := ha _ (List.getElem_mem hlt)
      obtain ⟨m1, m2, m3⟩ := hb _ (List.getElem_mem hltb)
      rw [List.drop_eq_getElem_cons hlt, List.drop_eq_getElem_cons hltb, allEq]
      generalize a[j] = c at *
      generalize b[j] = d at *
      have hk1 := inc64 (k := j) (by omega)
      obtain ⟨env, he⟩ := ih (j + 1) (by omega) (by omega)
      have hn1 := fun H => numbers_call hv k3 (by omega) k2 H
      have hn2 := fun H => numbers_call hu m3 (by omega) m2 H
      unfold eqC
      generalize c.nums.flatMap spI = n1 at *
      generalize d.nums.flatMap spI = n2 at *
      by_cases c1 : c.kind = d.kind
      · by_cases c2 : c.text = d.text
        · by_cases c3 : n1 = n2
          · refine ⟨env, ?_⟩
            simp only [c1, c2, c3, decide_true, Bool.true_and]
            rw [← he]
            refine loopK_norm ?_
            subst c3
            simp [fc14_b0, evKC, evK, evGuard, put, Env.get, Env.keep, Opd.ev, loadD, cutAt, D.asInt?, binD, strBin, clsP, cls, isW, apartRW, offB, apartWW, clash, insOk, mapO, D.refsL, D.refs, D.toksL, D.toks, D.ren, locD, below, Out.ren, List.map, hlt', hll, hia, hib, hn1, hn2, hk1, c1, c2]
          · refine ⟨[], ?_⟩
            have c3' : (n1 == n2) = false := by simpa using c3
            simp only [c1, c2, c3, decide_true, decide_false, Bool.true_and, Bool.false_and, Bool.false_eq_true, if_false]
            refine loopK_out (o := .ret) ?_ (by simp)
            simp [fc14_b0, evKC, evK, evGuard, put, Env.get, Env.keep, Opd.ev, loadD, cutAt, D.asInt?, binD, strBin, clsP, cls, isW, apartRW, offB, apartWW, clash, insOk, mapO, D.refsL, D.refs, D.toksL, D.toks, D.ren, locD, Out.ren, List.map, hlt', hll, hia, hib, hn1, hn2, c1, c2, c3']
        · refine ⟨[], ?_⟩
          have c2' : (c.text == d.text) = false := by simpa using c2
          simp only [c1, c2, decide_true, decide_false, Bool.true_and, Bool.false_and, Bool.false_eq_true, if_false]
          refine loopK_out (o := .ret) ?_ (by simp)
          simp [fc14_b0, evKC, evK, evGuard, put, Env.get, Env.keep, Opd.ev, loadD, cutAt, D.asInt?, binD, strBin, clsP, cls, isW, apartRW, offB, apartWW, clash, insOk, mapO, D.ren, locD, Out.ren, List.map, hlt', hll, hia, hib, c1, c2']
      · refine ⟨[], ?_⟩
        have c1' : ((c.kind : Int) != (d.kind : Int)) = true := by simp; omega
        simp only [c1, decide_false, Bool.false_and, Bool.false_eq_true, if_false]
        refine loopK_out (o := .ret) ?_ (by simp)
        simp [fc14_b0, evKC, evK, evGuard, put, Env.get, Env.keep, Opd.ev, loadD, cutAt, D.asInt?, binD, clsP, cls, isW, apartRW, offB, apartWW, clash, insOk, mapO, D.ren, locD, Out.ren, List.map, hlt', hll, hia, hib, c1']

theorem sameT_call {p : PD} {es : List PD} {a b : List Cmd} (hp : cmsP p a) (hq : esOk es b) (ha : okNums a) (hb : okNums b) (hlen : a.length ≤ 4294967296) : callD (call pg) 14 [.p p, .tsl 0 35 3 es] ⟨[], [es.length]⟩ = some (.val (.p (.bool (sameB a b))), ⟨[], [es.length]⟩) := by
  have h1 := cms_len hp
  have h2 := esT_len 0 hq
  have h : call pg 14 [.p p, .tsl 0 35 3 es] ⟨[], [es.length]⟩ = some (.val (.p (.bool (sameB a b))), ⟨[], [es.length]⟩) := by
    refine call_body (fc := fc14) rfl rfl rfl rfl ?_
    unfold sameB
    by_cases hl : a.length = b.length
    · obtain ⟨env, h3⟩ := sameT_loop hp hq ha hb hl hlen a.length 0 (by omega) (by omega)
      simp only [List.drop_zero, Int.cast_ofNat_Int] at h3
      cases hs : allEq a b with
      | true => rw [hs, if_pos rfl] at h3; simp [fc14, evKC, evK, put, Env.get, Env.keep, entry, Opd.ev, binD, finish, evRes, evRes1, h1, h2, h3, hl]
      | false => rw [hs, if_neg (by simp)] at h3; simp [fc14, evKC, evK, put, Env.get, Env.keep, entry, Opd.ev, binD, finish, evRes, evRes1, h1, h2, h3, hl]
    · have hl' : ((a.length : Int) != (b.length : Int)) = true := by simp; omega
      simp [fc14, evKC, evK, put, Env.get, Env.keep, entry, Opd.ev, binD, finish, evRes, evRes1, h1, h2, hl, hl']
  simp [callD, reach, boxToks, ins, Vs.nodupB, idx, D.renL, D.ren, back, firstN, putAll, Res.ren, D.refsL, D.refs, D.toksL, D.toks, mapO, D.ren, D.renL, h]

theorem cmds_es (l : List Cmd) : esOk (l.map cmdP) l := by
  refine ⟨by simp, fun i e c he hc => ?_⟩
  rw [List.getElem?_map, hc] at he
  cases he
  exact ⟨_, rfl, .inr (.inr rfl)⟩

theorem cmds_len (l : List Cmd) : lenD 1 (.p (cmdsP l)) = some l.length := cms_len (cmds_cms l)

theorem cmds_elems (l : List Cmd) : D.elems? (.p (cmdsP l)) = some (3, l.map cmdP) ∨ l = [] ∧ cmdsP l = .nils := by
  unfold cmdsP
  by_cases h : l = []
  · rw [if_pos h]; exact .inr ⟨h, rfl⟩
  · rw [if_neg h]; exact .inl rfl

end Go.Proofs.YtebbfckifhbkoaaGreatDoor
