/-
  What the scanner's functions give: while, blank, HasPrefix.
-/
import Derived.Test.YtphnflkjgoobmaaDoorE1
namespace Go.Proofs.YtphnflkjgoobmaaDoor
open Go.Vs

theorem lib40 (s : List UInt8) (c : UInt8) : call pg 40 [.p (.str s), .p (.int .u8 c.toNat)] ⟨[], []⟩ = some (.val (.p (.int .i64 (idxI s c))), ⟨[], []⟩) := by
  refine call_lib ?_
  show some (Res.val (.p (.int .i64 (idxI s (UInt8.ofNat ((c.toNat : Int)).toNat)))), (⟨[], []⟩ : Hp)) = _
  simp

theorem indexByte_eq (s : List UInt8) (c : UInt8) : call pg 37 [.p (.str s), .p (.int .u8 c.toNat)] ⟨[], []⟩ = some (.val (.p (.int .i64 (idxI s c))), ⟨[], []⟩) := by
  refine call_body (fc := fc37) rfl rfl rfl ?_
  simp [fc37, evKC, evK, put, Env.get, Env.keep, entry, Opd.ev, finish, evRes, evRes1, mapO, D.refsL, D.refs, D.toksL, D.toks, callD, reach, boxToks, ins, nodupB, idx, D.renL, D.ren, back, firstN, putAll, Res.ren, lib40]

theorem isB_idx (c : UInt8) : decide (0 ≤ idxI [32, 9, 10, 13] c) = isB c := all_bytes (p := fun c => decide (0 ≤ idxI [32, 9, 10, 13] c) = isB c) (by decide +kernel) c

theorem blank_eq {s : List UInt8} {i : Nat} (h : i < s.length) : call pg 24 [.box 0 0] ⟨[[.p (.str s), .p (.int .i64 i)]], []⟩ = some (.val (.p (.bool (isB (ch s i)))), ⟨[[.p (.str s), .p (.int .i64 i)]], []⟩) := by
  have hs := ch_get h
  refine call_body (fc := fc24) rfl rfl rfl ?_
  simp [fc24, evKC, evK, put, Env.get, Env.keep, entry, Opd.ev, loadD, cutAt, indexD, D.asInt?, u8, binD, cls, clash, finish, evRes, evRes1, mapO, D.refsL, D.refs, D.toksL, D.toks, Int.toNat_natCast, callD, reach, boxRefs, boxToks, ins, nodupB, idx, D.renL, D.ren, back, firstN, putAll, Res.ren, hs, indexByte_eq, ← isB_idx]

theorem hasPrefix38 (s p : List UInt8) : call pg 38 [.p (.str s), .p (.str p)] ⟨[], []⟩ = some (.val (.p (.bool (p.isPrefixOf s))), ⟨[], []⟩) := by
  refine call_body (fc := fc38) rfl rfl rfl ?_
  simp [fc38, evKC, evK, evGuard, put, Env.get, Env.keep, entry, Opd.ev, binD, lenD, finish, evRes, evRes1]
  by_cases h : p.length ≤ s.length
  · have h2 : (s.take p.length == p) = p.isPrefixOf s := by
      rw [Bool.eq_iff_iff]
      simp only [beq_iff_eq, List.isPrefixOf_iff_prefix]
      constructor
      · intro e; rw [← e]; exact List.take_prefix _ _
      · intro e; exact (List.prefix_iff_eq_take.1 e).symm
    simp [evKC, evK, evGuard, put, Env.get, Env.keep, Opd.ev, D.asNat?, binD, strBin, lenD, boundsD, sliceD, sub, Int.toNat_natCast, h, h2]
  · have h2 : p.isPrefixOf s = false := by
      rw [Bool.eq_false_iff]
      intro e
      exact h (List.isPrefixOf_iff_prefix.1 e).length_le
    simp [evKC, evK, evGuard, put, Env.get, Env.keep, Opd.ev, h, h2]

theorem hasPrefix_eq (s p : List UInt8) : call pg 25 [.p (.str s), .p (.str p)] ⟨[], []⟩ = some (.val (.p (.bool (p.isPrefixOf s))), ⟨[], []⟩) := by
  refine call_body (fc := fc25) rfl rfl rfl ?_
  simp [fc25, evKC, evK, put, Env.get, Env.keep, entry, Opd.ev, finish, evRes, evRes1, mapO, D.refsL, D.refs, D.toksL, D.toks, callD, reach, boxToks, ins, nodupB, idx, D.renL, D.ren, back, firstN, putAll, Res.ren, hasPrefix38]

/-- Where a run of such bytes ends. -/
def adv (w : UInt8 → Bool) (s : List UInt8) (i : Nat) : Nat := i + ((s.drop i).takeWhile w).length

theorem adv_le {w : UInt8 → Bool} {s : List UInt8} {i : Nat} (h : i ≤ s.length) : adv w s i ≤ s.length := by
  have := (List.takeWhile_prefix w (l := s.drop i)).length_le
  simp only [List.length_drop] at this
  unfold adv
  omega

theorem adv_step {w : UInt8 → Bool} {s : List UInt8} {i : Nat} (h : i < s.length) (hw : w (ch s i) = true) : adv w s i = adv w s (i + 1) := by
  unfold adv
  rw [List.drop_eq_getElem_cons h]
  have : s[i] = ch s i := by simp [ch, List.getD_eq_getElem?_getD, h]
  rw [this, List.takeWhile_cons, if_pos hw]
  simp; omega

theorem adv_stop {w : UInt8 → Bool} {s : List UInt8} {i : Nat} (h : i < s.length) (hw : w (ch s i) = false) : adv w s i = i := by
  unfold adv
  rw [List.drop_eq_getElem_cons h]
  have : s[i] = ch s i := by simp [ch, List.getD_eq_getElem?_getD, h]
  rw [this, List.takeWhile_cons, if_neg (by simp [hw])]
  simp

theorem adv_end {w : UInt8 → Bool} {s : List UInt8} {i : Nat} (h : s.length ≤ i) : adv w s i = i := by
  unfold adv
  rw [List.drop_eq_nil_of_le h]
  simp

def Want (g : Nat) (s : List UInt8) (w : UInt8 → Bool) : Prop :=
  ∀ i, i < s.length → call pg g [.box 0 0] ⟨[[.p (.str s), .p (.int .i64 i)]], []⟩ = some (.val (.p (.bool (w (ch s i)))), ⟨[[.p (.str s), .p (.int .i64 i)]], []⟩)

theorem while_loop {g : Nat} {s : List UInt8} {w : UInt8 → Bool} (hw : Want g s w) (hb : s.length ≤ 4611686018427387904) (d : D) (hd : d.ren (below 1) (below 0) = some d) : ∀ (n i : Nat), i ≤ s.length → n = s.length - i →
    loopK (call pg) pg.G [0, 1, 5] fc23_b0 ⟨[(0, .box 0 0), (1, .fn g [.box 0 0] []), (5, d)], ⟨[[.p (.str s), .p (.int .i64 i)]], []⟩⟩ =
      some (.exit 0, ⟨[(0, .box 0 0), (1, .fn g [.box 0 0] []), (5, d), (23, .p (.bool false))], ⟨[[.p (.str s), .p (.int .i64 (adv w s i))]], []⟩⟩) := by
  intro n
  induction n with
  | zero =>
    intro i hi hn
    have hi' : s.length ≤ i := by omega
    rw [adv_end hi']
    refine loopK_out ?_ (by simp)
    have h1 : ¬ (i < s.length) := by omega
    simp [fc23_b0, evKC, evK, evGuard, put, Env.get, Env.keep, Opd.ev, loadD, cutAt, binD, lenD, cls, clash, mapO, D.renL, D.ren, locD, below, Out.ren, h1, hd]
  | succ n ih =>
    intro i hi hn
    have h1 : i < s.length := by omega
    have hwi := hw i h1
    cases hb2 : w (ch s i) with
    | false =>
      rw [hb2] at hwi
      rw [adv_stop h1 hb2]
      refine loopK_out ?_ (by simp)
      simp [fc23_b0, evKC, evK, evGuard, put, Env.get, Env.keep, Opd.ev, loadD, cutAt, binD, lenD, cls, clash, mapO, D.refsL, D.refs, D.toksL, D.toks, callD, reach, boxRefs, boxToks, ins, nodupB, idx, D.renL, D.ren, back, firstN, putAll, Res.ren, locD, below, Out.ren, h1, hd, hwi]
    | true =>
      rw [hb2] at hwi
      rw [adv_step h1 hb2]
      have hwr : IntKind.i64.wrap ((i : Int) + 1) = ((i + 1 : Nat) : Int) := by rw [wrap64 (by omega) (by omega)]; rfl
      rw [← ih (i + 1) (by omega) (by omega)]
      refine loopK_norm ?_
      simp [fc23_b0, evKC, evK, evGuard, put, Env.get, Env.keep, Opd.ev, loadD, storeD, splice, cutAt, binD, lenD, cls, clash, mapO, D.cells, D.one, PD.one, D.refsL, D.refs, D.toksL, D.toks, callD, reach, boxRefs, boxToks, ins, nodupB, idx, D.renL, D.ren, back, firstN, putAll, Res.ren, locD, below, Out.ren, h1, hd, hwi, hwr]

theorem while_eq {g : Nat} {s : List UInt8} {w : UInt8 → Bool} (hw : Want g s w) (hb : s.length ≤ 4611686018427387904) {i : Nat} (hi : i ≤ s.length) :
    call pg 23 [.box 0 0, .fn g [.box 0 0] []] ⟨[[.p (.str s), .p (.int .i64 i)]], []⟩ = some (.val (.p (.str (sub s i (adv w s i)))), ⟨[[.p (.str s), .p (.int .i64 (adv w s i))]], []⟩) := by
  refine call_body (fc := fc23) rfl rfl rfl ?_
  have hl := while_loop hw hb (.p (.int .i64 i)) rfl (s.length - i) i hi rfl
  have h1 := adv_le (w := w) hi
  have h2 : i ≤ adv w s i := by unfold adv; omega
  simp [fc23, evKC, evK, put, Env.get, Env.keep, entry, Opd.ev, loadD, cutAt, D.asNat?, boundsD, sliceD, sub, cls, clash, finish, evRes, evRes1, Int.toNat_natCast, hl, h1, h2]

end Go.Proofs.YtphnflkjgoobmaaDoor
