/-
  What the reference's symbol gives: the symbol that the lexer finds.
-/
import Derived.Test.YtphnflkjgoobmaaDoorE6
namespace Go.Proofs.YtphnflkjgoobmaaDoor
open Go.Vs

/-- The reference's list. -/
def refSyms : List (List UInt8) := [[40], [41], [123], [125], [91], [93], [58], [59], [44], [124], [124, 124], [46], [39], [126], [94], [42], [43], [43, 43], [45], [45, 62], [38], [38, 38], [35], [61], [61, 62], [33, 61], [60], [60, 61], [60, 61, 62]]

def bestOf (r : List UInt8) : List (List UInt8) → List UInt8 → List UInt8
  | [], b => b
  | x :: l, b => bestOf r l (if x.isPrefixOf r && decide (b.length < x.length) then x else b)

theorem symbols_eq : call pg 39 [] ⟨[], []⟩ = some (.val (.fsl 1 (refSyms.map .str)), ⟨[], []⟩) := by
  refine call_body (fc := fc39) rfl rfl rfl ?_
  simp [fc39, evKC, evK, put, Env.get, Env.keep, entry, Opd.ev, finish, evRes, evRes1, PD.one, PD.cells, fillE, D.asPD, refSyms]

theorem bestOf_prop {r : List UInt8} : ∀ (l : List (List UInt8)) (b : List UInt8), b <+: r →
    bestOf r l b <+: r ∧ b.length ≤ (bestOf r l b).length ∧ (∀ x ∈ l, x <+: r → x.length ≤ (bestOf r l b).length) ∧ (bestOf r l b = b ∨ bestOf r l b ∈ l)
  | [], b, h => ⟨h, Nat.le_refl _, fun _ hx => (by cases hx), .inl rfl⟩
  | x :: l, b, h => by
    simp only [bestOf]
    split
    · rename_i hc
      simp only [Bool.and_eq_true, decide_eq_true_eq, List.isPrefixOf_iff_prefix] at hc
      obtain ⟨q1, q2, q3, q4⟩ := bestOf_prop l x hc.1
      refine ⟨q1, by omega, fun y hy hp => ?_, .inr ?_⟩
      · rcases List.mem_cons.1 hy with rfl | hy
        · exact q2
        · exact q3 y hy hp
      · rcases q4 with q4 | q4
        · rw [q4]; simp
        · exact List.mem_cons_of_mem _ q4
    · rename_i hc
      simp only [Bool.and_eq_true, decide_eq_true_eq, List.isPrefixOf_iff_prefix] at hc
      obtain ⟨q1, q2, q3, q4⟩ := bestOf_prop l b h
      refine ⟨q1, q2, fun y hy hp => ?_, ?_⟩
      · rcases List.mem_cons.1 hy with rfl | hy
        · have : ¬ b.length < y.length := fun hl => hc ⟨hp, hl⟩
          omega
        · exact q3 y hy hp
      · rcases q4 with q4 | q4
        · exact .inl q4
        · exact .inr (List.mem_cons_of_mem _ q4)

def orderedB : List (List UInt8) → Bool
  | [] => true
  | x :: l => l.all (fun y => !x.isPrefixOf y || decide (y.length ≤ x.length)) && orderedB l

theorem firstOf_prop {r : List UInt8} : ∀ (l : List (List UInt8)), orderedB l = true → firstOf r l <+: r ∧ (∀ x ∈ l, x <+: r → x.length ≤ (firstOf r l).length) ∧ (firstOf r l = [] ∨ firstOf r l ∈ l)
  | [], _ => ⟨List.nil_prefix, fun _ hx => (by cases hx), .inl rfl⟩
  | x :: l, h => by
    simp only [orderedB, Bool.and_eq_true, List.all_eq_true] at h
    simp only [firstOf]
    split
    · rename_i hx
      have hx := List.isPrefixOf_iff_prefix.1 hx
      refine ⟨hx, fun y hy hp => ?_, .inr (by simp)⟩
      rcases List.mem_cons.1 hy with rfl | hy
      · exact Nat.le_refl _
      · have := h.1 y hy
        by_cases hl : y.length ≤ x.length
        · exact hl
        · have hxy : x <+: y := List.prefix_of_prefix_length_le hx hp (by omega)
          simp [List.isPrefixOf_iff_prefix.2 hxy] at this
          exact absurd this hl
    · rename_i hx
      obtain ⟨q1, q2, q3⟩ := firstOf_prop l h.2
      refine ⟨q1, fun y hy hp => ?_, ?_⟩
      · rcases List.mem_cons.1 hy with rfl | hy
        · exact absurd (List.isPrefixOf_iff_prefix.2 hp) hx
        · exact q2 y hy hp
      · rcases q3 with q3 | q3
        · exact .inl q3
        · exact .inr (List.mem_cons_of_mem _ q3)

theorem best_first (r : List UInt8) : bestOf r refSyms [] = firstOf r syms := by
  obtain ⟨a1, _, a3, a4⟩ := bestOf_prop (r := r) refSyms [] List.nil_prefix
  obtain ⟨b1, b2, b3⟩ := firstOf_prop (r := r) syms (by decide +kernel)
  have s1 : ∀ x ∈ syms, x ∈ refSyms := by decide +kernel
  have s2 : ∀ x ∈ refSyms, x ∈ syms := by decide +kernel
  generalize bestOf r refSyms [] = A at *
  generalize firstOf r syms = B at *
  have l1 : A.length ≤ B.length := by
    rcases a4 with rfl | h
    · simp
    · exact b2 A (s2 A h) a1
  have l2 : B.length ≤ A.length := by
    rcases b3 with rfl | h
    · simp
    · exact a3 B (s1 B h) b1
  have e : A.length = B.length := by omega
  rw [List.prefix_iff_eq_take.1 a1, List.prefix_iff_eq_take.1 b1, e]

theorem slice_eq (s x : List UInt8) (i : Nat) : (sub s i (i + x.length) == x) = x.isPrefixOf (s.drop i) := by
  have e : sub s i (i + x.length) = (s.drop i).take x.length := by
    unfold sub
    rw [List.drop_take]
    congr 1
    omega
  rw [e, Bool.eq_iff_iff]
  simp only [beq_iff_eq, List.isPrefixOf_iff_prefix]
  constructor
  · intro q; rw [← q]; exact List.take_prefix _ _
  · intro q; exact (List.prefix_iff_eq_take.1 q).symm

theorem refsym_loop {s : List UInt8} (hb : s.length ≤ 4611686018427387904) {i : Nat} (hi : i ≤ s.length) : ∀ (n k : Nat) (b : List UInt8), n + k = 29 → b.length ≤ s.length →
    loopK (call pg) pg.G [0, 1, 5, 6, 7] fc36_b0 ⟨[(0, .p (.str s)), (1, .p (.int .i64 i)), (5, .p (.str b)), (6, .fsl 1 (refSyms.map .str)), (7, .p (.int .i64 k))], ⟨[], []⟩⟩ =
        some (.exit 0, ⟨[(0, .p (.str s)), (1, .p (.int .i64 i)), (5, .p (.str (bestOf (s.drop i) (refSyms.drop k) b))), (6, .fsl 1 (refSyms.map .str)), (7, .p (.int .i64 29)), (13, .p (.bool false))], ⟨[], []⟩⟩) := by
  intro n
  induction n with
  | zero =>
    intro k b hk hbl
    have hk' : k = 29 := by omega
    subst hk'
    refine loopK_out (o := .exit 0) ?_ (by simp)
    have hl : (refSyms.map PD.str).length = 29 := rfl
    have hd : refSyms.drop 29 = [] := rfl
    rw [hd]
    generalize refSyms.map PD.str = S at *
    simp [fc36_b0, evKC, evK, put, Env.get, Env.keep, Opd.ev, binD, lenD, D.elems?, hl, bestOf]
  | succ n ih =>
    intro k b hk hbl
    have hk' : k < refSyms.length := by show k < 29; omega
    have hx3 : ∀ x ∈ refSyms, x.length ≤ 3 := by decide +kernel
    have hxl := hx3 _ (List.getElem_mem hk')
    have hget : (refSyms.map PD.str)[k]? = some (.str refSyms[k]) := by simp [hk']
    have hdrop := List.drop_eq_getElem_cons hk'
    have hl : (refSyms.map PD.str).length = 29 := rfl
    generalize hx : refSyms[k] = x at *
    rw [hdrop]
    simp only [bestOf]
    have hnext := ih (k + 1) (if x.isPrefixOf (s.drop i) && decide (b.length < x.length) then x else b) (by omega) (by
      split
      · rename_i h
        simp only [Bool.and_eq_true, List.isPrefixOf_iff_prefix] at h
        have := h.1.length_le
        simp at this
        omega
      · exact hbl)
    rw [← hnext]
    generalize refSyms.map PD.str = S at *
    have hklt : (k : Int) < 29 := by omega
    have hwr : IntKind.i64.wrap ((k : Int) + 1) = ((k + 1 : Nat) : Int) := by rw [wrap64 (by omega) (by omega)]; rfl
    have hwe : IntKind.i64.wrap ((i : Int) + (x.length : Int)) = ((i + x.length : Nat) : Int) := by rw [wrap64 (by omega) (by omega)]; rfl
    refine loopK_norm ?_
    have hkS : k < S.length := by omega
    have hgS : S[k] = .str x := by
      have := hget
      rw [List.getElem?_eq_getElem hkS] at this
      exact Option.some.inj this
    by_cases hfit : i + x.length ≤ s.length
    · have hse := slice_eq s x i
      simp only [sub] at hse
      have h1 : ((i + x.length : Nat) : Int) ≤ (s.length : Int) := by omega
      generalize hE : ((i + x.length : Nat) : Int) = E at *
      have hE0 : 0 ≤ E := by omega
      have hEn : E.toNat = i + x.length := by omega
      cases hp : x.isPrefixOf (s.drop i) with
      | false =>
        rw [hp] at hse
        simp [fc36_b0, evKC, evK, evGuard, put, Env.get, Env.keep, Opd.ev, loadD, cutAt, D.asInt?, D.asNat?, binD, strBin, lenD, boundsD, sliceD, iaddrD, sub, cls, clash, PD.cells, D.elems?, Int.toNat_natCast, hl, hklt, hget, hwe, h1, hE0, hEn, hfit, hse, hwr]
      | true =>
        rw [hp] at hse
        by_cases hlen : b.length < x.length
        · simp [fc36_b0, evKC, evK, evGuard, put, Env.get, Env.keep, Opd.ev, loadD, cutAt, D.asInt?, D.asNat?, binD, strBin, lenD, boundsD, sliceD, iaddrD, sub, cls, clash, PD.cells, D.elems?, Int.toNat_natCast, hl, hklt, hget, hwe, h1, hE0, hEn, hfit, hse, hwr, hlen]
        · simp [fc36_b0, evKC, evK, evGuard, put, Env.get, Env.keep, Opd.ev, loadD, cutAt, D.asInt?, D.asNat?, binD, strBin, lenD, boundsD, sliceD, iaddrD, sub, cls, clash, PD.cells, D.elems?, Int.toNat_natCast, hl, hklt, hget, hwe, h1, hE0, hEn, hfit, hse, hwr, hlen]
    · have hp : x.isPrefixOf (s.drop i) = false := by
        rw [Bool.eq_false_iff]
        intro e
        have := (List.isPrefixOf_iff_prefix.1 e).length_le
        simp at this
        omega
      have h1 : ¬ ((i + x.length : Nat) : Int) ≤ (s.length : Int) := by omega
      generalize hE : ((i + x.length : Nat) : Int) = E at *
      simp [fc36_b0, evKC, evK, evGuard, put, Env.get, Env.keep, Opd.ev, loadD, cutAt, D.asInt?, binD, lenD, iaddrD, cls, clash, PD.cells, D.elems?, Int.toNat_natCast, hl, hklt, hget, hwe, h1, hp, hwr]

theorem refsym_eq {s : List UInt8} (hb : s.length ≤ 4611686018427387904) {i : Nat} (hi : i ≤ s.length) : call pg 36 [.p (.str s), .p (.int .i64 i)] ⟨[], []⟩ = some (.val (.p (.str (symAt s i))), ⟨[], []⟩) := by
  refine call_body (fc := fc36) rfl rfl rfl ?_
  have h := refsym_loop hb hi 29 0 [] rfl (by simp)
  have h0 : (((0 : Nat) : Int)) = 0 := rfl
  rw [h0, List.drop_zero, best_first] at h
  have hs := symbols_eq
  rw [show firstOf (s.drop i) syms = symAt s i from rfl] at h
  generalize refSyms.map PD.str = S at *
  simp [fc36, evKC, evK, put, Env.get, Env.keep, entry, Opd.ev, finish, evRes, evRes1, mapO, D.refsL, D.toksL, callD, reach, boxToks, ins, nodupB, idx, D.renL, D.ren, back, firstN, putAll, Res.ren, hs, h]

end Go.Proofs.YtphnflkjgoobmaaDoor
