/-
  What the scanner's functions give: symbol, next.
-/
import Derived.Test.YtphnflkjgoobmaaDoorE3
namespace Go.Proofs.YtphnflkjgoobmaaDoor
open Go.Vs

/-- The first of these symbols that stands here. -/
def firstOf (r : List UInt8) : List (List UInt8) → List UInt8
  | [] => []
  | x :: l => if x.isPrefixOf r then x else firstOf r l

def symAt (s : List UInt8) (i : Nat) : List UInt8 := firstOf (s.drop i) syms

theorem syms_len : syms.length = 29 := rfl

theorem symbol_loop {s : List UInt8} {i : Nat} (hi : i ≤ s.length) : ∀ (n k : Nat), n + k = 29 →
    ∃ env, loopK (call pg) pg.G [0, 4, 7, 8] fc31_b0 ⟨[(0, .box 0 0), (4, .p (.str [])), (7, .p (.agg (syms.map .str))), (8, .p (.int .i64 k))], ⟨[[.p (.str s), .p (.int .i64 i)]], []⟩⟩ =
        some (.exit 0, ⟨env, ⟨[[.p (.str s), .p (.int .i64 i)]], []⟩⟩) ∧ Env.get env 0 = .box 0 0 ∧ Env.get env 4 = .p (.str (firstOf (s.drop i) (syms.drop k))) := by
  intro n
  induction n with
  | zero =>
    intro k hk
    have hk' : k = 29 := by omega
    subst hk'
    refine ⟨[(0, .box 0 0), (4, .p (.str [])), (7, .p (.agg (syms.map .str))), (8, .p (.int .i64 29)), (9, .p (.bool false))], loopK_out (o := .exit 0) ?_ (by simp), rfl, ?_⟩
    · simp [fc31_b0, evKC, evK, put, Env.get, Env.keep, Opd.ev, binD, mapO, D.renL, D.ren, locD, below, Out.ren]
    · rfl
  | succ n ih =>
    intro k hk
    have hk' : k < syms.length := by rw [syms_len]; omega
    have hklt : (k : Int) < 29 := by omega
    have hget : (syms.map PD.str)[k]? = some (.str syms[k]) := by simp [hk']
    have hdrop := List.drop_eq_getElem_cons hk'
    have hpre := hasPrefix_eq (s.drop i) syms[k]
    generalize hx : syms[k] = x at *
    generalize hS : syms.map PD.str = S at *
    have hlen : k + 1 ≤ S.length := by rw [← hS]; simp; omega
    cases hp : x.isPrefixOf (s.drop i) with
    | true =>
      rw [hp] at hpre
      refine ⟨[(0, .box 0 0), (4, .p (.str x))], loopK_out (o := .exit 0) ?_ (by simp), rfl, ?_⟩
      · simp [fc31_b0, evKC, evK, put, Env.get, Env.keep, Opd.ev, loadD, cutAt, indexD, D.asInt?, D.asNat?, binD, boundsD, sliceD, sub, cls, clash, mapO, D.refsL, D.refs, D.toksL, D.toks, Int.toNat_natCast, callD, reach, boxRefs, boxToks, ins, nodupB, idx, D.renL, D.ren, back, firstN, putAll, Res.ren, locD, below, Out.ren, hklt, hget, hi, hpre]
      · rw [hdrop]; simp [Env.get, firstOf, hp]
    | false =>
      rw [hp] at hpre
      obtain ⟨env, h1, h2, h3⟩ := ih (k + 1) (by omega)
      refine ⟨env, ?_, h2, ?_⟩
      · rw [← h1]
        have hwr : IntKind.i64.wrap ((k : Int) + 1) = ((k + 1 : Nat) : Int) := by rw [wrap64 (by omega) (by omega)]; rfl
        refine loopK_norm ?_
        simp [fc31_b0, evKC, evK, put, Env.get, Env.keep, Opd.ev, loadD, cutAt, indexD, D.asInt?, D.asNat?, binD, boundsD, sliceD, sub, cls, clash, mapO, D.refsL, D.refs, D.toksL, D.toks, Int.toNat_natCast, callD, reach, boxRefs, boxToks, ins, nodupB, idx, D.renL, D.ren, back, firstN, putAll, Res.ren, locD, below, Out.ren, hklt, hget, hi, hpre, hwr]
      · rw [h3, hdrop]
        simp [firstOf, hp]

theorem firstOf_len (r : List UInt8) : ∀ l : List (List UInt8), (firstOf r l).length ≤ r.length
  | [] => by simp [firstOf]
  | x :: l => by
    simp only [firstOf]
    split
    · rename_i h; exact (List.isPrefixOf_iff_prefix.1 h).length_le
    · exact firstOf_len r l

theorem symAt_len {s : List UInt8} {i : Nat} (hi : i ≤ s.length) : i + (symAt s i).length ≤ s.length := by
  have := firstOf_len (s.drop i) syms
  simp only [List.length_drop] at this
  unfold symAt
  omega

theorem symbol_eq {s : List UInt8} (hb : s.length ≤ 4611686018427387904) {i : Nat} (hi : i ≤ s.length) :
    call pg 31 [.box 0 0] ⟨[[.p (.str s), .p (.int .i64 i)]], []⟩ = some (.val (.tup [.p (.str (symAt s i)), .p (.bool (symAt s i != []))]), ⟨[[.p (.str s), .p (.int .i64 ((i + (symAt s i).length : Nat) : Int))]], []⟩) := by
  refine call_body (fc := fc31) rfl rfl rfl ?_
  obtain ⟨env, h1, h2, h3⟩ := symbol_loop hi 29 0 rfl
  have hl := symAt_len hi
  have hT : firstOf (s.drop i) (syms.drop 0) = symAt s i := rfl
  rw [hT] at h3
  generalize symAt s i = T at *
  have hG : pg.G 0 = some (syms.map .str) := rfl
  have hlen : (syms.map PD.str).length = 29 := by simp [syms_len]
  generalize syms.map PD.str = S at *
  have htake : (S.take 29).drop 0 = S := by rw [List.drop_zero, List.take_of_length_le (by omega)]
  have hwr : IntKind.i64.wrap ((i : Int) + (T.length : Int)) = ((i + T.length : Nat) : Int) := by rw [wrap64 (by omega) (by omega)]; rfl
  have h0 : (((0 : Nat) : Int)) = 0 := rfl
  rw [h0] at h1
  simp [fc31, evKC, evK, put, Env.get, Env.keep, entry, Opd.ev, loadD, storeD, splice, cutAt, binD, strBin, lenD, sub, finish, evRes, evRes1, mapO, D.cells, D.one, PD.one, hG, hlen, htake, h1, h2, h3, hwr]
  cases T <;> rfl

/-! Tokens. -/
structure Tok where
  kind : Int
  text : List UInt8
  at_ : Nat

def Tok.pd (t : Tok) : PD := .agg [.int .i64 t.kind, .str t.text, .int .i64 t.at_]

/-- The token that starts here, and whether it is valid. -/
def tokAt (s : List UInt8) (i : Nat) : Tok × Bool :=
  if isL (ch s i) then (⟨1, sub s i (adv isW s i), i⟩, decide ((sub s i (adv isW s i)).length ≤ 16))
  else if isD (ch s i) then (⟨2, sub s i (adv isD s i), i⟩, numOk s i)
  else (⟨3, symAt s i, i⟩, symAt s i != [])

theorem adv_sub {w : UInt8 → Bool} {s : List UInt8} {i : Nat} (hi : i ≤ s.length) : i + (sub s i (adv w s i)).length = adv w s i := by
  rw [sub_len s (adv_le hi)]
  have := adv_ge w s i
  omega

theorem tok_end {s : List UInt8} {i : Nat} (hi : i ≤ s.length) : i + (tokAt s i).1.text.length ≤ s.length := by
  unfold tokAt
  split
  · rw [adv_sub hi]; exact adv_le hi
  · split
    · rw [adv_sub hi]; exact adv_le hi
    · exact symAt_len hi

theorem next_eq {s : List UInt8} (hb : s.length ≤ 4611686018427387904) {i : Nat} (hi : i < s.length) :
    ∃ g, call pg 19 [.box 0 0] ⟨[[.p (.str s), .p (.int .i64 i)]], []⟩ = some (.val (.tup [.p (tokAt s i).1.pd, .p (.bool (tokAt s i).2)]), ⟨[.p (.str s), .p (.int .i64 ((i + (tokAt s i).1.text.length : Nat) : Int))] :: g, []⟩) := by
  have hi' := Nat.le_of_lt hi
  have hw := while_eq (g := 28) (w := isW) (fun i hi => word_eq hi) hb hi'
  have hle := letter_eq hi
  have hdi := digit_eq hi
  have hsy := symbol_eq hb hi'
  have ea := adv_sub (w := isW) hi'
  have ed := adv_sub (w := isD) hi'
  unfold tokAt Tok.pd
  cases hl : isL (ch s i) with
  | true =>
    rw [hl] at hle
    simp only [if_true]
    rw [ea]
    have hd : (decide (((sub s i (adv isW s i)).length : Int) ≤ 16)) = decide ((sub s i (adv isW s i)).length ≤ 16) := by rw [Bool.eq_iff_iff]; simp; omega
    generalize sub s i (adv isW s i) = T at *
    generalize adv isW s i = j at *
    refine ⟨[[.p (.int .i64 1), .p (.str T), .p (.int .i64 i)], [.p (.int .i64 1), .p (.str T), .p (.int .i64 i)]], ?_⟩
    refine call_body (fc := fc19) rfl rfl rfl ?_
    simp [fc19, evKC, evK, put, Env.get, Env.keep, entry, Opd.ev, loadD, storeD, splice, cutAt, binD, lenD, sub, finish, evRes, evRes1, mapO, D.cells, D.one, PD.one, D.refsL, D.refs, D.toksL, D.toks, mkAgg, pures, fillD, callD, reach, boxRefs, boxToks, ins, nodupB, idx, D.renL, D.ren, back, firstN, putAll, Res.ren, hle, hw, hd]
  | false =>
    rw [hl] at hle
    simp only [Bool.false_eq_true, if_false]
    cases hd : isD (ch s i) with
    | true =>
      rw [hd] at hdi
      simp only [if_true]
      rw [ed]
      have hnu := number_eq hb hi hd
      generalize sub s i (adv isD s i) = T at *
      generalize adv isD s i = j at *
      refine ⟨[[.p (.int .i64 2), .p (.str T), .p (.int .i64 i)], [.p (.int .i64 2), .p (.str T), .p (.int .i64 i)]], ?_⟩
      refine call_body (fc := fc19) rfl rfl rfl ?_
      simp [fc19, evKC, evK, put, Env.get, Env.keep, entry, Opd.ev, loadD, storeD, splice, cutAt, sub, finish, evRes, evRes1, mapO, D.cells, D.one, PD.one, D.refsL, D.refs, D.toksL, D.toks, mkAgg, pures, fillD, callD, reach, boxRefs, boxToks, ins, nodupB, idx, D.renL, D.ren, back, firstN, putAll, Res.ren, hle, hdi, hnu]
    | false =>
      rw [hd] at hdi
      simp only [Bool.false_eq_true, if_false]
      generalize symAt s i = T at *
      refine ⟨[[.p (.int .i64 3), .p (.str T), .p (.int .i64 i)], [.p (.int .i64 3), .p (.str T), .p (.int .i64 i)]], ?_⟩
      refine call_body (fc := fc19) rfl rfl rfl ?_
      simp [fc19, evKC, evK, put, Env.get, Env.keep, entry, Opd.ev, loadD, storeD, splice, cutAt, sub, finish, evRes, evRes1, mapO, D.cells, D.one, PD.one, D.refsL, D.refs, D.toksL, D.toks, mkAgg, pures, fillD, callD, reach, boxRefs, boxToks, ins, nodupB, idx, D.renL, D.ren, back, firstN, putAll, Res.ren, hle, hdi, hsy]

end Go.Proofs.YtphnflkjgoobmaaDoor
