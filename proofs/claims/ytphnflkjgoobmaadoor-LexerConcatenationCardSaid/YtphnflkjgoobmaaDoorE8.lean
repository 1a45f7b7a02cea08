/-
  What the reference's one and Lex give: what the lexer gives.
-/
import Derived.Test.YtphnflkjgoobmaaDoorE7
namespace Go.Proofs.YtphnflkjgoobmaaDoor
open Go.Vs

theorem one_word {s : List UInt8} (hb : s.length ≤ 4611686018427387904) (i : Nat) : ∀ (n j : Nat), j ≤ s.length → n = s.length - j →
    loopK (call pg) pg.G [0, 1, 4, 6] fc21_b0 ⟨[(0, .p (.str s)), (1, .p (.int .i64 i)), (4, .box 0 0), (6, .p (.int .i64 j))], ⟨[[.p (.int .i64 0), .p (.str []), .p (.int .i64 0)]], []⟩⟩ =
      some (.exit 0, ⟨[(0, .p (.str s)), (1, .p (.int .i64 i)), (4, .box 0 0), (6, .p (.int .i64 (adv isW s j))), (23, .p (.bool false))], ⟨[[.p (.int .i64 0), .p (.str []), .p (.int .i64 0)]], []⟩⟩) := by
  intro n
  induction n with
  | zero =>
    intro j hj hn
    rw [adv_end (by omega)]
    refine loopK_out (o := .exit 0) ?_ (by simp)
    have h1 : ¬ (j < s.length) := by omega
    simp [fc21_b0, evKC, evK, evGuard, put, Env.get, Env.keep, Opd.ev, binD, lenD, mapO, D.renL, D.ren, locD, below, Out.ren, h1]
  | succ n ih =>
    intro j hj hn
    have h1 : j < s.length := by omega
    have hs := ch_get2 h1
    have hp := part_eq (ch s j)
    cases hw : isW (ch s j) with
    | false =>
      rw [hw] at hp
      rw [adv_stop h1 hw]
      refine loopK_out (o := .exit 0) ?_ (by simp)
      simp [fc21_b0, evKC, evK, evGuard, put, Env.get, Env.keep, Opd.ev, indexD, D.asInt?, u8, binD, lenD, mapO, D.refsL, D.refs, D.toksL, D.toks, Int.toNat_natCast, callD, reach, boxRefs, boxToks, ins, nodupB, idx, D.renL, D.ren, back, firstN, putAll, Res.ren, locD, below, Out.ren, h1, hs, hp]
    | true =>
      rw [hw] at hp
      rw [adv_step h1 hw]
      have hwr : IntKind.i64.wrap ((j : Int) + 1) = ((j + 1 : Nat) : Int) := by rw [wrap64 (by omega) (by omega)]; rfl
      rw [← ih (j + 1) (by omega) (by omega)]
      refine loopK_norm ?_
      simp [fc21_b0, evKC, evK, evGuard, put, Env.get, Env.keep, Opd.ev, indexD, D.asInt?, u8, binD, lenD, mapO, D.refsL, D.refs, D.toksL, D.toks, Int.toNat_natCast, callD, reach, boxRefs, boxToks, ins, nodupB, idx, D.renL, D.ren, back, firstN, putAll, Res.ren, locD, below, Out.ren, h1, hs, hp, hwr]

theorem one_num {s : List UInt8} (hb : s.length ≤ 4611686018427387904) (i : Nat) : ∀ (n j : Nat), j ≤ s.length → n = s.length - j →
    loopK (call pg) pg.G [0, 1, 4, 6] fc21_b1 ⟨[(0, .p (.str s)), (1, .p (.int .i64 i)), (4, .box 0 0), (6, .p (.int .i64 j))], ⟨[[.p (.int .i64 0), .p (.str []), .p (.int .i64 0)]], []⟩⟩ =
      some (.exit 2, ⟨[(0, .p (.str s)), (1, .p (.int .i64 i)), (4, .box 0 0), (6, .p (.int .i64 (adv isD s j))), (49, .p (.bool false))], ⟨[[.p (.int .i64 0), .p (.str []), .p (.int .i64 0)]], []⟩⟩) := by
  intro n
  induction n with
  | zero =>
    intro j hj hn
    rw [adv_end (by omega)]
    refine loopK_out (o := .exit 2) ?_ (by simp)
    have h1 : ¬ (j < s.length) := by omega
    simp [fc21_b1, evKC, evK, evGuard, put, Env.get, Env.keep, Opd.ev, binD, lenD, mapO, D.renL, D.ren, locD, below, Out.ren, h1]
  | succ n ih =>
    intro j hj hn
    have h1 : j < s.length := by omega
    have hs := ch_get2 h1
    have hp := Digit_eq (ch s j)
    cases hw : isD (ch s j) with
    | false =>
      rw [hw] at hp
      rw [adv_stop h1 hw]
      refine loopK_out (o := .exit 2) ?_ (by simp)
      simp [fc21_b1, evKC, evK, evGuard, put, Env.get, Env.keep, Opd.ev, indexD, D.asInt?, u8, binD, lenD, mapO, D.refsL, D.refs, D.toksL, D.toks, Int.toNat_natCast, callD, reach, boxRefs, boxToks, ins, nodupB, idx, D.renL, D.ren, back, firstN, putAll, Res.ren, locD, below, Out.ren, h1, hs, hp]
    | true =>
      rw [hw] at hp
      rw [adv_step h1 hw]
      have hwr : IntKind.i64.wrap ((j : Int) + 1) = ((j + 1 : Nat) : Int) := by rw [wrap64 (by omega) (by omega)]; rfl
      rw [← ih (j + 1) (by omega) (by omega)]
      refine loopK_norm ?_
      simp [fc21_b1, evKC, evK, evGuard, put, Env.get, Env.keep, Opd.ev, indexD, D.asInt?, u8, binD, lenD, mapO, D.refsL, D.refs, D.toksL, D.toks, Int.toNat_natCast, callD, reach, boxRefs, boxToks, ins, nodupB, idx, D.renL, D.ren, back, firstN, putAll, Res.ren, locD, below, Out.ren, h1, hs, hp, hwr]

theorem one_eq {s : List UInt8} (hb : s.length ≤ 4611686018427387904) {i : Nat} (hi : i < s.length) :
    ∃ g, call pg 21 [.p (.str s), .p (.int .i64 i)] ⟨[], []⟩ = some (.val (.tup [.p (tokAt s i).1.pd, .p (.bool (tokAt s i).2)]), ⟨g, []⟩) := by
  have hi' := Nat.le_of_lt hi
  have hs := ch_get2 hi
  have hL := Letter_eq (ch s i)
  have hD := Digit_eq (ch s i)
  have hS := refsym_eq hb hi'
  unfold tokAt Tok.pd
  cases hl : isL (ch s i) with
  | true =>
    rw [hl] at hL
    simp only [if_true]
    have hlp := one_word hb i (s.length - i) i hi' rfl
    have ha := adv_le (w := isW) hi'
    have hge := adv_ge isW s i
    generalize adv isW s i = j at *
    have hsl : sub s i j = (s.take j).drop i := rfl
    have hle := sub_len s (a := i) ha
    have hwr : IntKind.i64.wrap ((j : Int) - (i : Int)) = ((j - i : Nat) : Int) := by rw [wrap64 (by omega) (by omega)]; omega
    have h16 : (((j - i : Nat) : Int) ≤ 16) ↔ (sub s i j).length ≤ 16 := by rw [hle]; omega
    generalize ((j - i : Nat) : Int) = z at *
    refine ⟨[[.p (.int .i64 1), .p (.str (sub s i j)), .p (.int .i64 i)]], call_body (fc := fc21) rfl rfl rfl ?_⟩
    rw [hsl] at h16 ⊢
    simp only [decide_eq_decide.2 h16.symm]
    generalize (s.take j).drop i = T at *
    simp [fc21, evKC, evK, put, Env.get, Env.keep, entry, Opd.ev, loadD, storeD, splice, cutAt, indexD, D.asInt?, D.asNat?, u8, binD, boundsD, sliceD, sub, finish, evRes, evRes1, mapO, D.cells, D.one, PD.one, D.refsL, D.refs, D.toksL, D.toks, mkAgg, pures, fillD, Int.toNat_natCast, callD, reach, boxRefs, boxToks, ins, nodupB, idx, D.renL, D.ren, back, firstN, putAll, Res.ren, hi, hs, hL, hlp, ha, hge, hwr]
    exact hsl
  | false =>
    rw [hl] at hL
    simp only [Bool.false_eq_true, if_false]
    cases hd : isD (ch s i) with
    | true =>
      rw [hd] at hD
      simp only [if_true]
      have hlp := one_num hb i (s.length - i) i hi' rfl
      have ha := adv_le (w := isD) hi'
      have hge := adv_ge isD s i
      have hlt : i < adv isD s i := by
        rw [adv_step hi hd]
        have := adv_ge isD s (i + 1)
        omega
      unfold numOk
      generalize adv isD s i = j at *
      have hsl : sub s i j = (s.take j).drop i := rfl
      have hle := sub_len s (a := i) ha
      have h1 := sub_one ha hlt 48
      have hwr : IntKind.i64.wrap ((j : Int) - (i : Int)) = ((j - i : Nat) : Int) := by rw [wrap64 (by omega) (by omega)]; omega
      have h9 : (sub s i j).length ≤ 9 ↔ (((j - i : Nat) : Int) ≤ 9) := by rw [hle]; omega
      have hz1 : (((j - i : Nat) : Int) == 1) = decide (j - i = 1) := by rw [Bool.eq_iff_iff]; simp; omega
      have hjl : ((j : Int) == (s.length : Int)) = decide (j = s.length) := by rw [Bool.eq_iff_iff]; simp; omega
      have h48 : (((ch s i).toNat : Int) != 48) = (ch s i != 48) := all_bytes (p := fun c => ((c.toNat : Int) != 48) = (c != 48)) (by decide +kernel) _
      have hm : (ch s i != 48 || sub s i j == [48]) = (ch s i != 48 || decide (j - i = 1)) := by
        rw [h1]
        cases hc : ch s i == 48 <;> simp [bne, hc]
      obtain ⟨z, hz⟩ : ∃ z : Int, z = ((j - i : Nat) : Int) := ⟨_, rfl⟩
      rw [← hz] at hwr h9 hz1
      have hdec : decide ((sub s i j).length ≤ 9) = decide (z ≤ 9) := by rw [Bool.eq_iff_iff, decide_eq_true_iff, decide_eq_true_iff]; exact h9
      rw [hm, ← hz1, hdec]
      clear hz hdec
      refine ⟨[[.p (.int .i64 2), .p (.str (sub s i j)), .p (.int .i64 i)]], call_body (fc := fc21) rfl rfl rfl ?_⟩
      by_cases c1 : z ≤ 9
      · cases c2 : (ch s i != 48)
        · cases c3 : (z == 1)
          · simp [fc21, evKC, evK, evGuard, put, Env.get, Env.keep, entry, Opd.ev, loadD, storeD, splice, cutAt, indexD, D.asInt?, D.asNat?, u8, binD, boundsD, sliceD, sub, finish, evRes, evRes1, mapO, D.cells, D.one, PD.one, D.refsL, D.refs, D.toksL, D.toks, mkAgg, pures, fillD, Int.toNat_natCast, callD, reach, boxRefs, boxToks, ins, nodupB, idx, D.renL, D.ren, back, firstN, putAll, Res.ren, hi, hs, hL, hD, hlp, ha, hge, hwr, c1, h48, c2, c3]
          · by_cases c4 : j = s.length
            · subst c4
              simp [fc21, evKC, evK, evGuard, put, Env.get, Env.keep, entry, Opd.ev, loadD, storeD, splice, cutAt, indexD, D.asInt?, D.asNat?, u8, binD, lenD, boundsD, sliceD, sub, finish, evRes, evRes1, mapO, D.cells, D.one, PD.one, D.refsL, D.refs, D.toksL, D.toks, mkAgg, pures, fillD, Int.toNat_natCast, callD, reach, boxRefs, boxToks, ins, nodupB, idx, D.renL, D.ren, back, firstN, putAll, Res.ren, hi, hi', hs, hL, hD, hlp, hwr, c1, h48, c2, c3]
            · have hjs : j < s.length := by omega
              simp [fc21, evKC, evK, evGuard, put, Env.get, Env.keep, entry, Opd.ev, loadD, storeD, splice, cutAt, indexD, D.asInt?, D.asNat?, u8, binD, unD, lenD, boundsD, sliceD, sub, finish, evRes, evRes1, mapO, D.cells, D.one, PD.one, D.refsL, D.refs, D.toksL, D.toks, mkAgg, pures, fillD, Int.toNat_natCast, callD, reach, boxRefs, boxToks, ins, nodupB, idx, D.renL, D.ren, back, firstN, putAll, Res.ren, hi, hs, hL, hD, hlp, ha, hge, hwr, c1, h48, c2, c3, hjl, c4, hjs, ch_get2 hjs, part_eq]
        · by_cases c4 : j = s.length
          · subst c4
            simp [fc21, evKC, evK, evGuard, put, Env.get, Env.keep, entry, Opd.ev, loadD, storeD, splice, cutAt, indexD, D.asInt?, D.asNat?, u8, binD, lenD, boundsD, sliceD, sub, finish, evRes, evRes1, mapO, D.cells, D.one, PD.one, D.refsL, D.refs, D.toksL, D.toks, mkAgg, pures, fillD, Int.toNat_natCast, callD, reach, boxRefs, boxToks, ins, nodupB, idx, D.renL, D.ren, back, firstN, putAll, Res.ren, hi, hi', hs, hL, hD, hlp, hwr, c1, h48, c2]
          · have hjs : j < s.length := by omega
            simp [fc21, evKC, evK, evGuard, put, Env.get, Env.keep, entry, Opd.ev, loadD, storeD, splice, cutAt, indexD, D.asInt?, D.asNat?, u8, binD, unD, lenD, boundsD, sliceD, sub, finish, evRes, evRes1, mapO, D.cells, D.one, PD.one, D.refsL, D.refs, D.toksL, D.toks, mkAgg, pures, fillD, Int.toNat_natCast, callD, reach, boxRefs, boxToks, ins, nodupB, idx, D.renL, D.ren, back, firstN, putAll, Res.ren, hi, hs, hL, hD, hlp, ha, hge, hwr, c1, h48, c2, hjl, c4, hjs, ch_get2 hjs, part_eq]
      · simp [fc21, evKC, evK, evGuard, put, Env.get, Env.keep, entry, Opd.ev, loadD, storeD, splice, cutAt, indexD, D.asInt?, D.asNat?, u8, binD, boundsD, sliceD, sub, finish, evRes, evRes1, mapO, D.cells, D.one, PD.one, D.refsL, D.refs, D.toksL, D.toks, mkAgg, pures, fillD, Int.toNat_natCast, callD, reach, boxRefs, boxToks, ins, nodupB, idx, D.renL, D.ren, back, firstN, putAll, Res.ren, hi, hs, hL, hD, hlp, ha, hge, hwr, c1]
    | false =>
      rw [hd] at hD
      simp only [Bool.false_eq_true, if_false]
      generalize symAt s i = T at *
      refine ⟨[[.p (.int .i64 3), .p (.str T), .p (.int .i64 i)]], call_body (fc := fc21) rfl rfl rfl ?_⟩
      simp [fc21, evKC, evK, put, Env.get, Env.keep, entry, Opd.ev, loadD, storeD, splice, cutAt, indexD, D.asInt?, u8, binD, strBin, sub, finish, evRes, evRes1, mapO, D.cells, D.one, PD.one, D.refsL, D.refs, D.toksL, D.toks, mkAgg, pures, fillD, Int.toNat_natCast, callD, reach, boxRefs, boxToks, ins, nodupB, idx, D.renL, D.ren, back, firstN, putAll, Res.ren, hi, hs, hL, hD, hS]
      cases T <;> rfl

end Go.Proofs.YtphnflkjgoobmaaDoor
