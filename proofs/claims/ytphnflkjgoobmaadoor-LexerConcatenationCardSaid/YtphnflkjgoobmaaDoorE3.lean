/-
  What the scanner's functions give: skip, number, symbol, next.
-/
import Derived.Test.YtphnflkjgoobmaaDoorE2
namespace Go.Proofs.YtphnflkjgoobmaaDoor
open Go.Vs

def notNl (c : UInt8) : Bool := c != 10

theorem adv_ge (w : UInt8 → Bool) (s : List UInt8) (i : Nat) : i ≤ adv w s i := by unfold adv; omega

def skipLoop (s : List UInt8) : Nat → Nat → Nat
  | 0, i => i
  | n + 1, i => if [47, 47].isPrefixOf (s.drop i) then skipLoop s n (adv isB s (adv notNl s i)) else i

def skipTo (s : List UInt8) (i : Nat) : Nat := skipLoop s (s.length + 1) (adv isB s i)

theorem slash_lt {s : List UInt8} {i : Nat} (h : [47, 47].isPrefixOf (s.drop i) = true) : i < s.length ∧ ch s i = 47 ∧ i < adv notNl s i := by
  have h1 := List.isPrefixOf_iff_prefix.1 h
  have hl := h1.length_le
  simp only [List.length_cons, List.length_nil, List.length_drop] at hl
  have hi : i < s.length := by omega
  obtain ⟨t, ht⟩ := h1
  have hc : ch s i = 47 := by
    have : (s.drop i)[0]? = some 47 := by rw [← ht]; rfl
    rw [List.getElem?_drop] at this
    simp only [ch, List.getD_eq_getElem?_getD]
    simp at this
    simp [this]
  refine ⟨hi, hc, ?_⟩
  rw [adv_step hi (by rw [hc]; rfl)]
  have := adv_ge notNl s (i + 1)
  omega

theorem skip_loop {s : List UInt8} (hb : s.length ≤ 4611686018427387904) : ∀ (n i : Nat), i ≤ s.length → s.length - i < n →
    ∃ env, loopK (call pg) pg.G [0] fc18_b0 ⟨[(0, .box 0 0)], ⟨[[.p (.str s), .p (.int .i64 i)]], []⟩⟩ = some (.exit 0, ⟨env, ⟨[[.p (.str s), .p (.int .i64 (skipLoop s n i))]], []⟩⟩) := by
  intro n
  induction n with
  | zero => intro i hi hn; omega
  | succ n ih =>
    intro i hi hn
    have hpre := hasPrefix_eq (s.drop i) [47, 47]
    cases hp : [47, 47].isPrefixOf (s.drop i) with
    | false =>
      rw [hp] at hpre
      refine ⟨[(0, .box 0 0), (15, .p (.bool false))], loopK_out (o := .exit 0) ?_ (by simp)⟩
      simp [fc18_b0, evKC, evK, put, Env.get, Env.keep, Opd.ev, loadD, cutAt, D.asNat?, boundsD, sliceD, sub, cls, clash, mapO, D.refsL, D.refs, D.toksL, D.toks, Int.toNat_natCast, callD, reach, boxRefs, boxToks, ins, nodupB, idx, D.renL, D.ren, back, firstN, putAll, Res.ren, locD, below, Out.ren, hi, hpre]
      simp [skipLoop, hp]
    | true =>
      rw [hp] at hpre
      obtain ⟨h1, h2, h3⟩ := slash_lt hp
      have ha := adv_le (w := notNl) hi
      have hb2 := adv_le (w := isB) ha
      have hw1 := while_eq (g := 26) (w := notNl) (fun i hi => inLine_eq hi) hb hi
      have hw2 := while_eq (g := 24) (w := isB) (fun i hi => blank_eq hi) hb ha
      have hge := adv_ge isB s (adv notNl s i)
      obtain ⟨env, he⟩ := ih (adv isB s (adv notNl s i)) hb2 (by omega)
      refine ⟨env, ?_⟩
      simp only [skipLoop, hp, if_true]
      rw [← he]
      refine loopK_norm ?_
      simp [fc18_b0, evKC, evK, put, Env.get, Env.keep, Opd.ev, loadD, cutAt, D.asNat?, boundsD, sliceD, sub, cls, clash, mapO, D.refsL, D.refs, D.toksL, D.toks, Int.toNat_natCast, callD, reach, boxRefs, boxToks, ins, nodupB, idx, D.renL, D.ren, back, firstN, putAll, Res.ren, locD, below, Out.ren, hi, hpre, hw1, hw2]

theorem skip_eq {s : List UInt8} (hb : s.length ≤ 4611686018427387904) {i : Nat} (hi : i ≤ s.length) :
    call pg 18 [.box 0 0] ⟨[[.p (.str s), .p (.int .i64 i)]], []⟩ = some (.val .undef, ⟨[[.p (.str s), .p (.int .i64 (skipTo s i))]], []⟩) := by
  refine call_body (fc := fc18) rfl rfl rfl ?_
  have hw := while_eq (g := 24) (w := isB) (fun i hi => blank_eq hi) hb hi
  have ha := adv_le (w := isB) hi
  obtain ⟨env, he⟩ := skip_loop hb (s.length + 1) (adv isB s i) ha (by omega)
  simp [fc18, evKC, evK, put, Env.get, Env.keep, entry, Opd.ev, sub, finish, evRes, mapO, D.refsL, D.refs, D.toksL, D.toks, callD, reach, boxRefs, boxToks, ins, nodupB, idx, D.renL, D.ren, back, firstN, putAll, Res.ren, hw, he, skipTo]

/-! Numbers. -/
def numOk (s : List UInt8) (i : Nat) : Bool :=
  decide ((sub s i (adv isD s i)).length ≤ 9) && (ch s i != 48 || sub s i (adv isD s i) == [48]) && (decide (adv isD s i = s.length) || !isW (ch s (adv isD s i)))

theorem sub_len {α : Type} (l : List α) {a b : Nat} (h : b ≤ l.length) : (sub l a b).length = b - a := by
  simp only [sub, List.length_drop, List.length_take]; omega

theorem sub_get0 {s : List UInt8} {a b : Nat} (h : b ≤ s.length) (hab : a < b) : (sub s a b)[0]? = some (ch s a) := by
  simp only [sub, List.getElem?_drop, Nat.add_zero]
  rw [List.getElem?_take_of_lt hab]
  exact ch_get (by omega)

theorem sub_one {s : List UInt8} {a b : Nat} (h : b ≤ s.length) (hab : a < b) (c : UInt8) : (sub s a b == [c]) = (ch s a == c && decide (b - a = 1)) := by
  have hl := sub_len s (a := a) h
  have h0 := sub_get0 h hab
  rw [Bool.eq_iff_iff]
  simp only [beq_iff_eq, Bool.and_eq_true, decide_eq_true_eq]
  constructor
  · intro e
    rw [e] at hl h0
    simp at hl h0
    exact ⟨h0.symm, by omega⟩
  · rintro ⟨e1, e2⟩
    obtain ⟨x, hx⟩ := List.length_eq_one_iff.1 (hl.trans e2)
    rw [hx] at h0 ⊢
    simp at h0
    rw [h0, e1]

theorem number_eq {s : List UInt8} (hb : s.length ≤ 4611686018427387904) {i : Nat} (hi : i < s.length) (hd : isD (ch s i) = true) :
    call pg 30 [.box 0 0] ⟨[[.p (.str s), .p (.int .i64 i)]], []⟩ = some (.val (.tup [.p (.str (sub s i (adv isD s i))), .p (.bool (numOk s i))]), ⟨[[.p (.str s), .p (.int .i64 (adv isD s i))]], []⟩) := by
  refine call_body (fc := fc30) rfl rfl rfl ?_
  have hw := while_eq (g := 29) (w := isD) (fun i hi => digit_eq hi) hb (Nat.le_of_lt hi)
  have ha := adv_le (w := isD) (Nat.le_of_lt hi)
  have hlt : i < adv isD s i := by
    rw [adv_step hi hd]
    have := adv_ge isD s (i + 1)
    omega
  have hn : numOk s i = (decide ((sub s i (adv isD s i)).length ≤ 9) && (ch s i != 48 || sub s i (adv isD s i) == [48]) && (decide (adv isD s i = s.length) || !isW (ch s (adv isD s i)))) := rfl
  rw [hn]
  clear hn
  generalize adv isD s i = j at *
  have h0 := sub_get0 ha hlt
  have h48 : (((ch s i).toNat : Int) != 48) = (ch s i != 48) := all_bytes (p := fun c => ((c.toNat : Int) != 48) = (c != 48)) (by decide +kernel) _
  generalize sub s i j = T at *
  have hjl : (((j : Nat) : Int) == (s.length : Int)) = decide (j = s.length) := by rw [Bool.eq_iff_iff]; simp; omega
  by_cases c1 : (T.length : Int) ≤ 9
  · have c1' : T.length ≤ 9 := by omega
    simp [fc30, evKC, evK, evGuard, put, Env.get, Env.keep, entry, Opd.ev, indexD, D.asInt?, u8, binD, lenD, finish, evRes, evRes1, mapO, D.refsL, D.refs, D.toksL, D.toks, callD, reach, boxRefs, boxToks, ins, nodupB, idx, D.renL, D.ren, back, firstN, putAll, Res.ren, hw, c1, c1', h0, h48]
    cases c2 : (ch s i != 48)
    · simp [evKC, evK, evGuard, put, Env.get, Env.keep, Opd.ev, binD, strBin, cls]
      cases c3 : (T == [48])
      · simp [evKC, evK, evGuard, put, Env.get, Env.keep, Opd.ev, cls, clash]
      · by_cases c4 : j = s.length
        · simp [evKC, evK, evGuard, put, Env.get, Env.keep, Opd.ev, loadD, cutAt, binD, lenD, cls, clash, c4]
        · simp [evKC, evK, evGuard, put, Env.get, Env.keep, Opd.ev, loadD, cutAt, binD, unD, lenD, cls, clash, mapO, D.refsL, D.refs, D.toksL, D.toks, callD, reach, boxRefs, boxToks, ins, nodupB, idx, D.renL, D.ren, back, firstN, putAll, Res.ren, hjl, c4, word_eq (show j < s.length by omega)]
    · simp [evKC, evK, evGuard, put, Env.get, Env.keep, Opd.ev, loadD, cutAt, binD, lenD, cls, hjl]
      by_cases c4 : j = s.length
      · simp [evKC, evK, evGuard, put, Env.get, Env.keep, Opd.ev, cls, clash, c4]
      · simp [evKC, evK, evGuard, put, Env.get, Env.keep, Opd.ev, unD, cls, clash, mapO, D.refsL, D.refs, D.toksL, D.toks, callD, reach, boxRefs, boxToks, ins, nodupB, idx, D.renL, D.ren, back, firstN, putAll, Res.ren, c4, word_eq (show j < s.length by omega)]
  · have c1' : ¬ T.length ≤ 9 := by omega
    simp [fc30, evKC, evK, evGuard, put, Env.get, Env.keep, entry, Opd.ev, binD, lenD, cls, clash, finish, evRes, evRes1, mapO, D.refsL, D.refs, D.toksL, D.toks, callD, reach, boxRefs, boxToks, ins, nodupB, idx, D.renL, D.ren, back, firstN, putAll, Res.ren, hw, c1, c1']

end Go.Proofs.YtphnflkjgoobmaaDoor
