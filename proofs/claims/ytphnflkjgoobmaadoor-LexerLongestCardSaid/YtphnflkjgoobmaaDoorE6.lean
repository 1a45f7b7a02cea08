/-
  What the reference's gap gives: the place where the lexer's skip ends.
-/
import Derived.Test.YtphnflkjgoobmaaDoorE5
namespace Go.Proofs.YtphnflkjgoobmaaDoor
open Go.Vs

theorem loopK_keep {c : CallR} {G : Nat → Option (List PD)} {keep : List Nat} {b : SC} {env : Env} {H : Hp} : loopK c G keep b ⟨env, H⟩ = loopK c G keep b ⟨env.keep keep, H⟩ :=
  iterX_same (by dsimp only; rw [keep_keep])

theorem ch_get2 {s : List UInt8} {i : Nat} (h : i < s.length) : s[i] = ch s i := by simp [ch, List.getD_eq_getElem?_getD, h]

theorem pre_slash (s : List UInt8) (i : Nat) : [47, 47].isPrefixOf (s.drop i) = (decide (i + 1 < s.length) && (ch s i == 47 && ch s (i + 1) == 47)) := by
  by_cases h : i + 1 < s.length
  · have e1 : s.drop i = ch s i :: ch s (i + 1) :: s.drop (i + 2) := by
      rw [List.drop_eq_getElem_cons (by omega), List.drop_eq_getElem_cons h]
      simp [ch, List.getD_eq_getElem?_getD, h, show i < s.length by omega]
    rw [e1]
    simp [List.isPrefixOf, h, eq_comm, Bool.beq_eq_decide_eq]
  · have : [47, 47].isPrefixOf (s.drop i) = false := by
      rw [Bool.eq_false_iff]
      intro e
      have := (List.isPrefixOf_iff_prefix.1 e).length_le
      simp at this
      omega
    rw [this]; simp [h]

theorem comment_eq {s : List UInt8} (hb : s.length ≤ 4611686018427387904) {i : Nat} (hi : i ≤ s.length) : call pg 22 [.p (.str s), .p (.int .i64 i)] ⟨[], []⟩ = some (.val (.p (.bool ([47, 47].isPrefixOf (s.drop i)))), ⟨[], []⟩) := by
  refine call_body (fc := fc22) rfl rfl rfl ?_
  have hwr : IntKind.i64.wrap ((i : Int) + 1) = ((i + 1 : Nat) : Int) := by rw [wrap64 (by omega) (by omega)]; rfl
  have hlt : (((i + 1 : Nat) : Int) < (s.length : Int)) ↔ i + 1 < s.length := by omega
  rw [pre_slash]
  generalize hk : ((i + 1 : Nat) : Int) = k at *
  have hkn : k.toNat = i + 1 := by omega
  have hk0 : 0 ≤ k := by omega
  have h47 : ∀ c : UInt8, ((c.toNat : Int) == 47) = (c == 47) := fun c => all_bytes (p := fun c => ((c.toNat : Int) == 47) = (c == 47)) (by decide +kernel) c
  by_cases h : i + 1 < s.length
  · have h1 := ch_get h
    have h0 := ch_get (show i < s.length by omega)
    have hl : k < (s.length : Int) := hlt.2 h
    simp [fc22, evKC, evK, evGuard, put, Env.get, Env.keep, entry, Opd.ev, indexD, D.asInt?, u8, binD, lenD, finish, evRes, evRes1, Int.toNat_natCast, hwr, hl, h0, h47, h]
    cases c1 : (ch s i == 47)
    · simp [evKC, evK, evGuard, put, Env.get, Env.keep, Opd.ev]
    · simp [evKC, evK, evGuard, put, Env.get, Env.keep, Opd.ev, indexD, D.asInt?, u8, binD, hwr, hk0, hkn, h1, h47]
  · have hl : ¬ k < (s.length : Int) := fun q => h (hlt.1 q)
    simp [fc22, evKC, evK, evGuard, put, Env.get, Env.keep, entry, Opd.ev, binD, lenD, finish, evRes, evRes1, hwr, hl, h]

theorem gap_inner {s : List UInt8} (hb : s.length ≤ 4611686018427387904) : ∀ (n i : Nat), i ≤ s.length → n = s.length - i →
    loopK (call pg) pg.G [0, 1] fc20_b0 ⟨[(0, .p (.str s)), (1, .p (.int .i64 i))], ⟨[], []⟩⟩ = some (.exit 2, ⟨[(0, .p (.str s)), (1, .p (.int .i64 (adv notNl s i))), (35, .p (.bool false))], ⟨[], []⟩⟩) := by
  intro n
  induction n with
  | zero =>
    intro i hi hn
    rw [adv_end (by omega)]
    refine loopK_out (o := .exit 2) ?_ (by simp)
    have h1 : ¬ (i < s.length) := by omega
    simp [fc20_b0, evKC, evK, evGuard, put, Env.get, Env.keep, Opd.ev, binD, lenD, h1]
  | succ n ih =>
    intro i hi hn
    have h1 : i < s.length := by omega
    have hs := ch_get2 h1
    have h10 : (((ch s i).toNat : Int) != 10) = notNl (ch s i) := all_bytes (p := fun c => ((c.toNat : Int) != 10) = notNl c) (by decide +kernel) _
    cases hw : notNl (ch s i) with
    | false =>
      rw [adv_stop h1 hw]
      refine loopK_out (o := .exit 2) ?_ (by simp)
      simp [fc20_b0, evKC, evK, evGuard, put, Env.get, Env.keep, Opd.ev, indexD, D.asInt?, u8, binD, lenD, Int.toNat_natCast, h1, hs, h10, hw]
    | true =>
      rw [adv_step h1 hw]
      have hwr : IntKind.i64.wrap ((i : Int) + 1) = ((i + 1 : Nat) : Int) := by rw [wrap64 (by omega) (by omega)]; rfl
      rw [← ih (i + 1) (by omega) (by omega)]
      refine loopK_norm ?_
      simp [fc20_b0, evKC, evK, evGuard, put, Env.get, Env.keep, Opd.ev, indexD, D.asInt?, u8, binD, lenD, Int.toNat_natCast, h1, hs, h10, hw, hwr]

/-- The fuel of skipLoop does not matter where it is enough. -/
theorem skipLoop_fuel {s : List UInt8} : ∀ (n m i : Nat), i ≤ s.length → s.length - i < n → s.length - i < m → skipLoop s n i = skipLoop s m i := by
  intro n
  induction n with
  | zero => intro m i _ h; omega
  | succ n ih =>
    intro m i hi h1 h2
    obtain ⟨m, rfl⟩ : ∃ k, m = k + 1 := ⟨m - 1, by omega⟩
    simp only [skipLoop]
    split
    · rename_i hp
      obtain ⟨q1, q2, q3⟩ := slash_lt hp
      have ha := adv_le (w := notNl) hi
      have hb := adv_le (w := isB) ha
      have hge := adv_ge isB s (adv notNl s i)
      exact ih m _ hb (by omega) (by omega)
    · rfl

theorem skipTo_blank {s : List UInt8} {i : Nat} (hi : i < s.length) (h : isB (ch s i) = true) : skipTo s i = skipTo s (i + 1) := by
  unfold skipTo
  rw [adv_step hi h]

theorem not_blank_slash {s : List UInt8} {i : Nat} (h : [47, 47].isPrefixOf (s.drop i) = true) : isB (ch s i) = false := by
  rw [(slash_lt h).2.1]; rfl

theorem skipTo_comment {s : List UInt8} {i : Nat} (hi : i < s.length) (h : [47, 47].isPrefixOf (s.drop i) = true) : skipTo s i = skipTo s (adv notNl s i) := by
  obtain ⟨q1, q2, q3⟩ := slash_lt h
  have ha := adv_le (w := notNl) (Nat.le_of_lt hi)
  have hb := adv_le (w := isB) ha
  have hge := adv_ge isB s (adv notNl s i)
  unfold skipTo
  rw [adv_stop hi (not_blank_slash h)]
  rw [show skipLoop s (s.length + 1) i = skipLoop s s.length (adv isB s (adv notNl s i)) by simp only [skipLoop, h, if_true]]
  exact skipLoop_fuel _ _ _ hb (by omega) (by omega)

theorem skipTo_stop {s : List UInt8} {i : Nat} (hi : i ≤ s.length) (h1 : i < s.length → isB (ch s i) = false) (h2 : [47, 47].isPrefixOf (s.drop i) = false) : skipTo s i = i := by
  have ha : adv isB s i = i := by
    by_cases h : i < s.length
    · exact adv_stop h (h1 h)
    · exact adv_end (by omega)
  unfold skipTo
  rw [ha]
  simp only [skipLoop, h2, Bool.false_eq_true, if_false]

theorem gap_loop {s : List UInt8} (hb : s.length ≤ 4611686018427387904) : ∀ (n i : Nat), i ≤ s.length → s.length - i < n →
    ∃ env, loopK (call pg) pg.G [0, 1] fc20_b1 ⟨[(0, .p (.str s)), (1, .p (.int .i64 i))], ⟨[], []⟩⟩ = some (.exit 0, ⟨env, ⟨[], []⟩⟩) ∧ Env.get env 1 = .p (.int .i64 (skipTo s i)) := by
  intro n
  induction n with
  | zero => intro i hi hn; omega
  | succ n ih =>
    intro i hi hn
    by_cases h1 : i < s.length
    · have hs := ch_get2 h1
      have hsp := space_eq (ch s i)
      have hco := comment_eq hb hi
      cases hB : isB (ch s i) with
      | true =>
        rw [hB] at hsp
        rw [skipTo_blank h1 hB]
        have hwr : IntKind.i64.wrap ((i : Int) + 1) = ((i + 1 : Nat) : Int) := by rw [wrap64 (by omega) (by omega)]; rfl
        obtain ⟨env, e1, e2⟩ := ih (i + 1) (by omega) (by omega)
        refine ⟨env, ?_, e2⟩
        rw [← e1]
        refine loopK_norm ?_
        simp [fc20_b1, evKC, evK, evGuard, put, Env.get, Env.keep, Opd.ev, indexD, D.asInt?, u8, binD, lenD, mapO, D.refsL, D.refs, D.toksL, D.toks, Int.toNat_natCast, callD, reach, boxToks, ins, nodupB, idx, D.renL, D.ren, back, firstN, putAll, Res.ren, locD, Out.ren, h1, hs, hsp, hwr]
      | false =>
        rw [hB] at hsp
        cases hC : [47, 47].isPrefixOf (s.drop i) with
        | true =>
          rw [hC] at hco
          rw [skipTo_comment h1 hC]
          obtain ⟨q1, q2, q3⟩ := slash_lt hC
          have ha := adv_le (w := notNl) hi
          have f1 := gap_inner hb (s.length - i) i hi rfl
          obtain ⟨env, e1, e2⟩ := ih (adv notNl s i) ha (by omega)
          refine ⟨env, ?_, e2⟩
          rw [loopK_norm (s' := ⟨[(0, .p (.str s)), (1, .p (.int .i64 (adv notNl s i))), (35, .p (.bool false))], ⟨[], []⟩⟩) ?_, loopK_keep]
          · exact e1
          · simp [fc20_b1, evKC, evK, evGuard, put, Env.get, Env.keep, Opd.ev, indexD, D.asInt?, u8, binD, lenD, mapO, D.refsL, D.refs, D.toksL, D.toks, Int.toNat_natCast, callD, reach, boxToks, ins, nodupB, idx, D.renL, D.ren, back, firstN, putAll, Res.ren, locD, Out.ren, h1, hs, hsp, hco, f1]
        | false =>
          rw [hC] at hco
          rw [skipTo_stop hi (fun _ => hB) hC]
          refine ⟨[(0, .p (.str s)), (1, .p (.int .i64 i)), (19, .p (.bool false))], loopK_out (o := .exit 0) ?_ (by simp), rfl⟩
          simp [fc20_b1, evKC, evK, evGuard, put, Env.get, Env.keep, Opd.ev, indexD, D.asInt?, u8, binD, lenD, mapO, D.refsL, D.refs, D.toksL, D.toks, Int.toNat_natCast, callD, reach, boxToks, ins, nodupB, idx, D.renL, D.ren, back, firstN, putAll, Res.ren, locD, Out.ren, h1, hs, hsp, hco]
    · have hC : [47, 47].isPrefixOf (s.drop i) = false := by
        rw [pre_slash]; simp; omega
      rw [skipTo_stop hi (fun q => absurd q h1) hC]
      refine ⟨[(0, .p (.str s)), (1, .p (.int .i64 i)), (19, .p (.bool false))], loopK_out (o := .exit 0) ?_ (by simp), rfl⟩
      simp [fc20_b1, evKC, evK, evGuard, put, Env.get, Env.keep, Opd.ev, binD, lenD, mapO, D.ren, locD, Out.ren, h1]

theorem gap_eq {s : List UInt8} (hb : s.length ≤ 4611686018427387904) {i : Nat} (hi : i ≤ s.length) : call pg 20 [.p (.str s), .p (.int .i64 i)] ⟨[], []⟩ = some (.val (.p (.int .i64 (skipTo s i))), ⟨[], []⟩) := by
  refine call_body (fc := fc20) rfl rfl rfl ?_
  obtain ⟨env, h1, h2⟩ := gap_loop hb (s.length + 1) i hi (by omega)
  simp [fc20, evKC, evK, put, Env.get, Env.keep, entry, Opd.ev, finish, evRes, evRes1, h1, h2]

end Go.Proofs.YtphnflkjgoobmaaDoor
