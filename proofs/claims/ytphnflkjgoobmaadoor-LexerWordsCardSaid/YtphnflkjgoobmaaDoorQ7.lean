/-
  The seventh law: words and numbers.
-/
import Derived.Test.YtphnflkjgoobmaaDoorQ3
namespace Go.Proofs.YtphnflkjgoobmaaDoor
open Go.Vs

def setL : List UInt8 := [97, 98, 99, 120, 121, 122, 65, 66, 67, 88, 89, 90, 48, 49, 50, 51, 52, 53, 54, 55, 56, 57, 95]

theorem set_slice {j : Nat} (h : j < 23) : sliceD 0 (.p (.str setL)) (some (.p (.int .i64 (j : Int)))) (some (.p (.int .i64 ((j + 1 : Nat) : Int)))) = some (.p (.str [setL.getD j 0])) ∧ isW (setL.getD j 0) = true := by
  have h1 : ∀ j : Fin 23, isW (setL.getD j.val 0) = true := by decide +kernel
  refine ⟨?_, h1 ⟨j, h⟩⟩
  have h2 : ∀ j : Fin 23, sub setL j.val (j.val + 1) = [setL.getD j.val 0] := by decide +kernel
  have h3 := h2 ⟨j, h⟩
  have hl : setL.length = 23 := rfl
  simp only [sliceD, boundsD, D.asNat?, Int.toNat_natCast, hl]
  rw [if_pos (by omega), if_pos (by omega)]
  simp only []
  rw [if_pos (by omega)]
  simp only [Option.map_some]
  rw [h3]

theorem tw_all_of {w : UInt8 → Bool} : ∀ {r : List UInt8}, (∀ c ∈ r, w c = true) → r.takeWhile w = r
  | [], _ => rfl
  | c :: r, h => by rw [List.takeWhile_cons, if_pos (h c (by simp)), tw_all_of fun d hd => h d (by simp [hd])]

theorem letter_tidy (c : UInt8) (h : isL c = true) : isB c = false ∧ c ≠ 47 ∧ isW c = true ∧ isD c = false :=
  all_bytes (p := fun c => isL c = true → (isB c = false ∧ c ≠ 47 ∧ isW c = true ∧ isD c = false)) (by decide +kernel) c h

theorem digit_tidy (c : UInt8) (h : isD c = true) : isB c = false ∧ c ≠ 47 ∧ isL c = false :=
  all_bytes (p := fun c => isD c = true → (isB c = false ∧ c ≠ 47 ∧ isL c = false)) (by decide +kernel) c h

/-- A word. -/
theorem lexL_word {c : UInt8} {t : List UInt8} (hc : isL c = true) (ht : ∀ d ∈ t, isW d = true) :
    lexL (c :: t) = if t.length + 1 ≤ 16 then ([⟨1, c :: t, t.length + 1⟩], none) else ([], some (t.length + 1)) := by
  obtain ⟨h1, h2, h3, _⟩ := letter_tidy c hc
  have hs : sk false (c :: t) = c :: t := by
    refine sk_of_solid ?_
    have : (c == 47) = false := by simpa using h2
    simp [solid, h1, this]
  have htw : (c :: t).takeWhile isW = c :: t := tw_all_of fun d hd => by
    rcases List.mem_cons.1 hd with rfl | hd
    · exact h3
    · exact ht d hd
  have htok : tokS (c :: t) = (1, c :: t, decide (t.length + 1 ≤ 16)) := by
    simp only [tokS, hc, if_true, htw]
    rfl
  split
  · rename_i h
    have hb : (tokS (sk false (c :: t))).2.2 = true := by rw [hs, htok]; simpa using h
    rw [lexL_good hb]
    have hbe : behind (c :: t) = [] := by
      unfold behind
      rw [hs, htok]
      simp
    rw [hbe, lexL_end rfl]
    unfold nextT
    rw [hs, htok]
    rfl
  · rename_i h
    rw [lexL_bad (by rw [hs]; simp) (by rw [hs, htok]; simpa using h), hs]
    rfl

/-- A number. -/
theorem lexL_num {c : UInt8} {t : List UInt8} (hc : ∀ d ∈ c :: t, isD d = true) (hl : t.length + 1 ≤ 9) (h0 : c ≠ 48 ∨ t = []) : lexL (c :: t) = ([⟨2, c :: t, t.length + 1⟩], none) := by
  obtain ⟨h1, h2, h3⟩ := digit_tidy c (hc c (by simp))
  have hcd := hc c (by simp)
  have hs : sk false (c :: t) = c :: t := by
    refine sk_of_solid ?_
    have : (c == 47) = false := by simpa using h2
    simp [solid, h1, this]
  have htw : (c :: t).takeWhile isD = c :: t := tw_all_of hc
  have hdw : (c :: t).dropWhile isD = [] := by
    have := List.takeWhile_append_dropWhile (p := isD) (l := c :: t)
    rw [htw] at this
    exact List.append_cancel_left (this.trans (List.append_nil _).symm)
  have htok : tokS (c :: t) = (2, c :: t, true) := by
    simp only [tokS, h3, Bool.false_eq_true, if_false, hcd, if_true, htw, hdw, edge, Bool.and_true, List.length_cons]
    congr 2
    have e1 : decide (t.length + 1 ≤ 9) = true := by simpa using hl
    rw [e1, Bool.true_and]
    rcases h0 with h0 | rfl
    · have : (c != 48) = true := by simpa using h0
      rw [this]; rfl
    · by_cases h : c = 48
      · subst h; rfl
      · have : (c != 48) = true := by simpa using h
        rw [this]; rfl
  have hb : (tokS (sk false (c :: t))).2.2 = true := by rw [hs, htok]
  rw [lexL_good hb]
  have hbe : behind (c :: t) = [] := by
    unfold behind
    rw [hs, htok]
    simp
  rw [hbe, lexL_end rfl]
  unfold nextT
  rw [hs, htok]
  rfl

/-- A leading zero. -/
theorem lexL_zero {c : UInt8} {t : List UInt8} (hc : ∀ d ∈ c :: t, isD d = true) : ∃ p, (lexL (48 :: c :: t)).2 = some p := by
  have hs : sk false (48 :: c :: t) = 48 :: c :: t := sk_of_solid rfl
  have htw : ((48 : UInt8) :: c :: t).takeWhile isD = 48 :: c :: t := tw_all_of fun d hd => by
    rcases List.mem_cons.1 hd with rfl | hd
    · rfl
    · exact hc d hd
  have hb : (tokS (sk false (48 :: c :: t))).2.2 = false := by
    rw [hs]
    have h1 : isL 48 = false := rfl
    have h2 : isD 48 = true := rfl
    have h3 : (((48 : UInt8) :: c :: t) == [48]) = false := rfl
    have h4 : ((48 : UInt8) != 48) = false := rfl
    simp only [tokS, h1, h2, Bool.false_eq_true, if_false, if_true, htw, h3, h4, Bool.or_self, Bool.and_false, Bool.false_and]
  exact ⟨_, by rw [lexL_bad (by rw [hs]; simp) hb]⟩

/-- A number directly before a letter. -/
theorem lexL_numword {c d : UInt8} {t u : List UInt8} (hc : ∀ x ∈ c :: t, isD x = true) (hd : isL d = true) : ∃ p, (lexL ((c :: t) ++ d :: u)).2 = some p := by
  obtain ⟨h1, h2, h3⟩ := digit_tidy c (hc c (by simp))
  obtain ⟨_, _, k3, k4⟩ := letter_tidy d hd
  have hcd := hc c (by simp)
  have hs : sk false ((c :: t) ++ d :: u) = (c :: t) ++ d :: u := by
    refine sk_of_solid ?_
    have : (c == 47) = false := by simpa using h2
    simp [solid, h1, this]
  have hdw : ((c :: t) ++ d :: u).dropWhile isD = d :: u := by
    have : ∀ l : List UInt8, (∀ x ∈ l, isD x = true) → (l ++ d :: u).dropWhile isD = d :: u := by
      intro l
      induction l with
      | nil => intro _; rw [List.nil_append, List.dropWhile_cons, k4]; rfl
      | cons x l ih => intro h; rw [List.cons_append, List.dropWhile_cons, if_pos (h x (by simp)), ih fun y hy => h y (by simp [hy])]
    exact this _ hc
  have hb : (tokS (sk false ((c :: t) ++ d :: u))).2.2 = false := by
    rw [hs]
    rw [List.cons_append] at hdw ⊢
    simp only [tokS, h3, Bool.false_eq_true, if_false, hcd, if_true, hdw, edge, k3, Bool.not_true, Bool.and_false]
  exact ⟨_, by rw [lexL_bad (by rw [hs]; simp) hb]⟩

/-- Decimal digits of a number, ahead of others. -/
def digs : Nat → Nat → List UInt8 → List UInt8
  | 0, _, acc => acc
  | n + 1, m, acc => if 0 < m ∨ acc = [] then digs n (m / 10) (UInt8.ofNat (48 + m % 10) :: acc) else acc

def DigOk (l : List UInt8) : Prop := ∃ c t, l = c :: t ∧ (∀ d ∈ c :: t, isD d = true) ∧ (c ≠ 48 ∨ t = [])

theorem dig_is (m : Nat) : isD (UInt8.ofNat (48 + m % 10)) = true ∧ (m % 10 ≠ 0 → UInt8.ofNat (48 + m % 10) ≠ 48) := by
  have : ∀ k : Fin 10, isD (UInt8.ofNat (48 + k.val)) = true ∧ (k.val ≠ 0 → UInt8.ofNat (48 + k.val) ≠ 48) := by decide +kernel
  exact this ⟨m % 10, Nat.mod_lt _ (by omega)⟩

theorem law7_digits {w : PD} : ∀ (n m : Nat) (acc : List UInt8), m < 10 ^ n → (acc = [] → 0 < n) → (acc ≠ [] → (∀ d ∈ acc, isD d = true) ∧ (m = 0 → DigOk acc)) → m < 4294967296 → acc.length + n ≤ 9 →
    ∃ l env, DigOk l ∧ l.length ≤ 9 ∧ env.get 7 = .p (.bool true) ∧ env.get 9 = .p w ∧ env.get 12 = .p (.str l) ∧
      loopK (call pg) pg.G [7, 9, 12, 13] fc9_b1 ⟨[(7, .p (.bool true)), (9, .p w), (12, .p (.str acc)), (13, .p (.int .u32 m))], ⟨[], []⟩⟩ = some (.exit 2, ⟨env, ⟨[], []⟩⟩) := by
  intro n
  induction n with
  | zero =>
    intro m acc hm hne hac hm2 hlen
    have hm0 : m = 0 := by simpa using hm
    subst hm0
    have hnn : acc ≠ [] := fun e => by have := hne e; omega
    have hok := (hac hnn).2 rfl
    refine ⟨acc, [(7, .p (.bool true)), (9, .p w), (12, .p (.str acc)), (13, .p (.int .u32 0)), (64, .p (.bool false))], hok, by omega, rfl, rfl, rfl, loopK_out (o := .exit 2) ?_ (by simp)⟩
    have e2 : (acc == ([] : List UInt8)) = false := by simpa using hnn
    simp [fc9_b1, evKC, evK, evGuard, put, Env.get, Env.keep, Opd.ev, binD, strBin, e2]
  | succ n ih =>
    intro m acc hm hne hac hm2 hlen
    by_cases hstop : m = 0 ∧ acc ≠ []
    · obtain ⟨rfl, hnn⟩ := hstop
      refine ⟨acc, [(7, .p (.bool true)), (9, .p w), (12, .p (.str acc)), (13, .p (.int .u32 0)), (64, .p (.bool false))], (hac hnn).2 rfl, by omega, rfl, rfl, rfl, loopK_out (o := .exit 2) ?_ (by simp)⟩
      have e2 : (acc == ([] : List UInt8)) = false := by simpa using hnn
      simp [fc9_b1, evKC, evK, evGuard, put, Env.get, Env.keep, Opd.ev, binD, strBin, e2]
    · obtain ⟨g1, g2⟩ := dig_is m
      have hmd : m / 10 < 10 ^ n := by
        rw [Nat.pow_succ] at hm
        omega
      obtain ⟨l, env, q1, q2, q3, q4, q5, q6⟩ := ih (m / 10) (UInt8.ofNat (48 + m % 10) :: acc) hmd (fun e => by cases e) (fun _ => ⟨fun d hd => by
          rcases List.mem_cons.1 hd with rfl | hd
          · exact g1
          · by_cases ha : acc = []
            · rw [ha] at hd; cases hd
            · exact (hac ha).1 d hd, fun h0 => by
          refine ⟨_, acc, rfl, fun d hd => ?_, ?_⟩
          · rcases List.mem_cons.1 hd with rfl | hd
            · exact g1
            · by_cases ha : acc = []
              · rw [ha] at hd; cases hd
              · exact (hac ha).1 d hd
          · by_cases ha : acc = []
            · exact .inr ha
            · left
              refine g2 ?_
              have : m ≠ 0 := fun e => hstop ⟨e, ha⟩
              omega⟩) (by omega) (by simp only [List.length_cons]; omega)
      refine ⟨l, env, q1, q2, q3, q4, q5, ?_⟩
      rw [← q6]
      clear q1 q2 q3 q4 q5 q6 ih
      refine loopK_norm ?_
      have ht1 : (m : Int).tmod 10 = ((m % 10 : Nat) : Int) := by rw [Int.tmod_eq_emod_of_nonneg (by omega)]; rfl
      have ht2 : (m : Int).tdiv 10 = ((m / 10 : Nat) : Int) := by rw [Int.tdiv_eq_ediv_of_nonneg (by omega)]; rfl
      have hw1 : IntKind.u32.wrap (48 + ((m % 10 : Nat) : Int)) = ((48 + m % 10 : Nat) : Int) := by
        simp [IntKind.wrap, IntKind.bits, IntKind.signed]; omega
      have hw2 : IntKind.u8.wrap ((48 + m % 10 : Nat) : Int) = ((48 + m % 10 : Nat) : Int) := by
        simp [IntKind.wrap, IntKind.bits, IntKind.signed]; omega
      have hw3 : IntKind.u32.wrap ((m / 10 : Nat) : Int) = ((m / 10 : Nat) : Int) := by
        simp [IntKind.wrap, IntKind.bits, IntKind.signed]; omega
      have hr : 1 + acc.length ≤ 140737488355328 := by omega
      generalize hc : UInt8.ofNat (48 + m % 10) = c at *
      generalize hz : ((48 + m % 10 : Nat) : Int) = z at *
      have hzn : UInt8.ofNat z.toNat = c := by rw [← hz, Int.toNat_natCast, hc]
      by_cases hm0 : m = 0
      · subst hm0
        have ha : acc = [] := by
          by_cases ha : acc = []
          · exact ha
          · exact absurd ⟨rfl, ha⟩ hstop
        subst ha
        simp at ht1 ht2 hw1 hw3
        simp [fc9_b1, evKC, evK, evGuard, put, Env.get, Env.keep, Opd.ev, D.asInt?, binD, strBin, PD.one, PD.cells, fillE, D.elems?, D.asPD, hw1, hw2, hw3, srcB, bytesOf, hzn]
      · have hmp : 0 < m := by omega
        generalize ((m / 10 : Nat) : Int) = zq at *
        generalize ((m % 10 : Nat) : Int) = zr at *
        simp [fc9_b1, evKC, evK, evGuard, put, Env.get, Env.keep, Opd.ev, D.asInt?, binD, strBin, PD.one, PD.cells, fillE, D.elems?, D.asPD, hmp, ht1, ht2, hw1, hw2, hw3, srcB, bytesOf, hzn, hr]

theorem law7_word {raw : PD} {hn : Nat} {hv : Nat → Int} (hh : HowS raw hn hv) {z2 : PD} {c0 : UInt8} : ∀ (n k : Nat) (t : List UInt8), k + n = 40 → t.length = k → (∀ d ∈ t, isW d = true) →
    ∃ t' env, t'.length ≤ 40 ∧ (∀ d ∈ t', isW d = true) ∧ env.get 2 = .p z2 ∧ env.get 7 = .p (.bool true) ∧ env.get 9 = .p (.str (c0 :: t')) ∧
      loopK (call pg) pg.G [1, 2, 7, 8, 9, 10] fc9_b0 ⟨[(1, .p raw), (2, .p z2), (7, .p (.bool true)), (8, .p (.str setL)), (9, .p (.str (c0 :: t))), (10, .p (.int .i64 k))], ⟨[], []⟩⟩ = some (.exit 0, ⟨env, ⟨[], []⟩⟩) := by
  have hlen := hh.len
  have hset : lenD 0 (.p (.str setL)) = some 23 := rfl
  have hss := @set_slice
  generalize D.p (PD.str setL) = SETD at *
  intro n
  induction n with
  | zero =>
    intro k t hk ht hw
    have hk' : k = 40 := by omega
    subst hk'
    refine ⟨t, [(1, .p raw), (2, .p z2), (7, .p (.bool true)), (8, SETD), (9, .p (.str (c0 :: t))), (10, .p (.int .i64 40)), (39, .p (.bool false))], by omega, hw, rfl, rfl, rfl, loopK_out (o := .exit 0) ?_ (by simp)⟩
    by_cases hc : 40 < hn
    · have hci : (40 : Int) < (hn : Int) := by omega
      simp [fc9_b0, evKC, evK, evGuard, put, Env.get, Env.keep, Opd.ev, binD, hlen, hci]
    · have hci : ¬ (40 : Int) < (hn : Int) := by omega
      simp [fc9_b0, evKC, evK, evGuard, put, Env.get, Env.keep, Opd.ev, binD, hlen, hci]
  | succ n ih =>
    intro k t hk ht hw
    by_cases hc : k < hn
    · obtain ⟨q1, q2, q3⟩ := hh.get k hc
      have hj : ∃ j : Nat, j < 23 ∧ (hv k).tmod 23 = (j : Int) := by
        refine ⟨((hv k).tmod 23).toNat, ?_, ?_⟩ <;> rw [Int.tmod_eq_emod_of_nonneg q2] <;> omega
      obtain ⟨j, hj1, hj2⟩ := hj
      obtain ⟨s1, s2⟩ := hss hj1
      obtain ⟨t', env, g1, g2, g3, g4, g5, g6⟩ := ih (k + 1) (t ++ [setL.getD j 0]) (by omega) (by simp [ht]) (fun d hd => by
        rcases List.mem_append.1 hd with hd | hd
        · exact hw d hd
        · have : d = setL.getD j 0 := by simpa using hd
          rw [this]; exact s2)
      refine ⟨t', env, g1, g2, g3, g4, g5, ?_⟩
      rw [← g6]
      clear g1 g2 g3 g4 g5 g6 ih
      refine loopK_norm ?_
      have hwz : IntKind.i64.wrap (hv k) = hv k := wrap64 (by omega) (by omega)
      have hwk : IntKind.i64.wrap ((k : Int) + 1) = ((k + 1 : Nat) : Int) := by rw [wrap64 (by omega) (by omega)]; rfl
      have hwj : IntKind.i64.wrap ((j : Int) + 1) = ((j + 1 : Nat) : Int) := by rw [wrap64 (by omega) (by omega)]; rfl
      have hci : (k : Int) < (hn : Int) := by omega
      have hk40 : (k : Int) < 40 := by omega
      have hr : (c0 :: t).length + 1 ≤ 140737488355328 := by simp; omega
      have hr2 : t.length + 1 + 1 ≤ 140737488355328 := by omega
      generalize setL.getD j 0 = d at *
      generalize ((j + 1 : Nat) : Int) = zj at *
      generalize hv k = z at *
      simp [fc9_b0, evKC, evK, evGuard, put, Env.get, Env.keep, Opd.ev, loadD, cutAt, D.asInt?, binD, strBin, hlen, hset, hc, hk40, q1, hwz, hj2, hwj, hwk, s1, hr2]
    · have hci : ¬ (k : Int) < (hn : Int) := by omega
      refine ⟨t, [(1, .p raw), (2, .p z2), (7, .p (.bool true)), (8, SETD), (9, .p (.str (c0 :: t))), (10, .p (.int .i64 k)), (39, .p (.bool false))], by omega, hw, rfl, rfl, rfl, loopK_out (o := .exit 0) ?_ (by simp)⟩
      simp [fc9_b0, evKC, evK, evGuard, put, Env.get, Env.keep, Opd.ev, binD, hlen, hci]

theorem first_letter {z : Int} (z0 : 0 ≤ z) (z1 : z < 256) : ∃ v : Nat, IntKind.u8.wrap (97 + z.tmod 26) = (v : Int) ∧ isL (UInt8.ofNat v) = true := by
  have h1 : z.tmod 26 = ((z.toNat % 26 : Nat) : Int) := by rw [Int.tmod_eq_emod_of_nonneg z0]; omega
  have h2 : ∀ k : Fin 26, isL (UInt8.ofNat (97 + k.val)) = true := by decide +kernel
  refine ⟨97 + z.toNat % 26, ?_, h2 ⟨z.toNat % 26, Nat.mod_lt _ (by omega)⟩⟩
  rw [h1]
  simp [IntKind.wrap, IntKind.bits, IntKind.signed]
  omega

theorem u32_range {n : Int} (h : (Lit.int .u32 n).wf = true) : 0 ≤ n ∧ n < 4294967296 := by
  simp [Lit.wf, IntKind.min, IntKind.max, IntKind.bits, IntKind.signed] at h
  omega

set_option maxRecDepth 20000 in
theorem law7 (z : Int) (hz : (Lit.int .u8 z).wf = true) (raw : PD) (hw : raw = .nils ∨ ∃ zs : List Int, raw = .slice 1 (zs.map (PD.int .u8)) ∧ ∀ n ∈ zs, (Lit.int .u8 n).wf = true) (n : Int) (hn : (Lit.int .u32 n).wf = true) :
    ∃ H, call pg 9 [.p (.int .u8 z), .p raw, .p (.int .u32 n)] ⟨[], []⟩ = some (.val (.p (.bool true)), H) := by
  refine ⟨⟨[], []⟩, call_body (fc := fc9) rfl rfl rfl ?_⟩
  obtain ⟨z0, z1⟩ := u8_range hz
  obtain ⟨n0, n1⟩ := u32_range hn
  obtain ⟨rn, rv, hh⟩ := howS hw
  have hc11 := callD_pure (H := ⟨[], []⟩) head_eq rfl rfl rfl rfl
  obtain ⟨v, hv1, hv2⟩ := first_letter z0 z1
  obtain ⟨t, env1, a1, a2, a3, a4, a5, a6⟩ := law7_word hh (z2 := .int .u32 n) (c0 := UInt8.ofNat v) 40 0 [] rfl rfl (fun d hd => by cases hd)
  have h0 : (((0 : Nat) : Int)) = 0 := rfl
  rw [h0] at a6
  have hm : n.tmod 1000000000 = ((n.toNat % 1000000000 : Nat) : Int) := by rw [Int.tmod_eq_emod_of_nonneg n0]; omega
  obtain ⟨ds, env2, b1, b2, b3, b4, b5, b6⟩ := law7_digits (w := .str (UInt8.ofNat v :: t)) 9 (n.toNat % 1000000000) [] (Nat.mod_lt _ (by omega)) (fun _ => by omega) (fun h => absurd rfl h) (by omega) (by simp)
  obtain ⟨e, u, hds, c1, c2⟩ := b1
  have hul : u.length + 1 ≤ 9 := by rw [hds] at b2; simpa using b2
  have k1 := lexL_word hv2 a2
  have k2 := lexL_num c1 hul c2
  obtain ⟨p3, k3⟩ := lexL_zero c1
  obtain ⟨p4, k4⟩ := lexL_numword (u := t) c1 hv2
  rw [← hds] at k2 k3 k4
  have l2 := lex_eq_ok (t := ds) (by omega) (by rw [k2]) ⟨[], []⟩
  have l3 := lex_eq_err (t := 48 :: ds) (by simp; omega) k3 ⟨[], []⟩
  have l4 := lex_eq_err (t := ds ++ UInt8.ofNat v :: t) (by simp; omega) k4 ⟨[], []⟩
  rw [k2] at l2
  have hdl : ds.length - (u.length + 1) = 0 := by rw [hds]; simp
  simp only [List.map_cons, List.map_nil, T0.tok, Tok.pd, hdl] at l2
  have r1 : 1 + ds.length ≤ 140737488355328 := by omega
  have r2 : ds.length + (t.length + 1) ≤ 140737488355328 := by omega
  generalize hcv : UInt8.ofNat v = c0 at *
  have hvn : ((v : Int)).toNat = v := by omega
  generalize ((n.toNat % 1000000000 : Nat) : Int) = m at *
  have hsl : (setL : List UInt8) = [97, 98, 99, 120, 121, 122, 65, 66, 67, 88, 89, 90, 48, 49, 50, 51, 52, 53, 54, 55, 56, 57, 95] := rfl
  rw [hsl] at a6
  have hlen16 : (c0 :: t).length = t.length + 1 := rfl
  by_cases h16 : t.length + 1 ≤ 16
  · rw [if_pos h16] at k1
    have l1 := lex_eq_ok (t := c0 :: t) (by simp; omega) (by rw [k1]) ⟨[], []⟩
    rw [k1] at l1
    have hdl1 : (c0 :: t).length - (t.length + 1) = 0 := by simp
    simp only [List.map_cons, List.map_nil, T0.tok, Tok.pd, hdl1] at l1
    have h16i : ((t.length : Int) + 1 ≤ 16) := by omega
    simp [fc9, evKC, evK, evGuard, put, Env.get, Env.keep, entry, Opd.ev, loadD, splice, cutAt, D.asInt?, binD, strBin, iaddrD, sub, eqvL, PD.eqv, finish, evRes, evRes1, D.cells, D.one, PD.one, PD.cells, mkAgg, pures, fillD, fillE, D.elems?, D.asPD, Int.toNat_natCast, eqD, lenD_str, lenD_sl, srcB, bytesOf, hc11, hv1, hcv, a3, a4, a5, a6, hm, b3, b4, b5, b6, r1, r2, l2, l3, l4, l1, h16i]
  · rw [if_neg h16] at k1
    have l1 := lex_eq_err (t := c0 :: t) (by simp; omega) (by rw [k1]) ⟨[], []⟩
    have h16i : ¬ ((t.length : Int) + 1 ≤ 16) := by omega
    simp [fc9, evKC, evK, evGuard, put, Env.get, Env.keep, entry, Opd.ev, loadD, splice, cutAt, D.asInt?, binD, strBin, iaddrD, sub, eqvL, PD.eqv, finish, evRes, evRes1, D.cells, D.one, PD.one, PD.cells, mkAgg, pures, fillD, fillE, D.elems?, D.asPD, Int.toNat_natCast, eqD, lenD_str, lenD_sl, srcB, bytesOf, hc11, hv1, hcv, a3, a4, a5, a6, hm, b3, b4, b5, b6, r1, r2, l2, l3, l4, l1, h16i]

end Go.Proofs.YtphnflkjgoobmaaDoor
