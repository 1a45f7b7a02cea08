/-
  A line that is ignored, put in: the walk of the law.
-/
import Derived.Test.YtebbfckifhbkoaaGreatDoorG7
import Derived.Test.YtebbfckifhbkoaaGreatDoorN6
namespace Go.Proofs.YtebbfckifhbkoaaGreatDoor
open Go.Vs

theorem addS {a b : List UInt8} (h : a.length + b.length ≤ 140737488355328) : binD .add (.p (.str a)) (.p (.str b)) = some (.p (.str (a ++ b))) := by
  simp only [binD, strBin]
  rw [if_pos h]
  rfl

theorem ws_ia {ws : List (List UInt8)} {i : Nat} {x : List UInt8} (h : ws[i]? = some x) : iaddrD none 1 (.p (.slice 1 (ws.map .str))) (i : Int) = some (.ro [.str x] 0) := by
  simp [iaddrD, D.elems?, PD.cells, h]

theorem ws_len (ws : List (List UInt8)) : lenD 1 (.p (.slice 1 (ws.map .str))) = some ws.length := by simp [lenD, D.elems?]

def iPre (s : List UInt8) (ws : List (List UInt8)) (k : Nat) (more t : List UInt8) : Env := [(0, .p (.str s)), (9, .p (.bool true)), (10, .p (.slice 1 (ws.map .str))), (11, .p (.int .i64 (k : Int))), (12, .p (.str more)), (13, .p (.str t))]

theorem ins_loop (s : List UInt8) (ws : List (List UInt8)) (k : Nat) (more : List UInt8) (hlen : ws.length ≤ 100000) : ∀ (r : List (List UInt8)) (i : Nat) (t : List UInt8), ws.drop i = r → i + r.length = ws.length → t.length + (insT k more i r).length ≤ 100000 →
    ∃ env, loopK (call pg) pg.G [0, 9, 10, 11, 12, 13, 14] fc6_b0 ⟨iPre s ws k more t ++ [(14, .p (.int .i64 (i : Int)))], ⟨[], []⟩⟩ =
      some (.exit 0, ⟨iPre s ws k more (t ++ insT k more i r) ++ env, ⟨[], []⟩⟩) := by
  have hll := ws_len ws
  intro r
  induction r with
  | nil =>
    intro i t hd hi hb
    have hi : i = ws.length := by simpa using hi
    refine ⟨[(14, .p (.int .i64 (i : Int))), (50, .p (.bool false))], ?_⟩
    refine loopK_out (o := .exit 0) ?_ (by simp)
    have e : ∀ i, insT k more i [] = [] := fun _ => rfl
    simp [fc6_b0, iPre, e, evKC, evK, put, Env.get, Env.keep, Opd.ev, binD, hll, hi]
  | cons x r ih =>
    intro i t hd hi hb
    simp only [List.length_cons] at hi
    have hlt : i < ws.length := by omega
    have hlt' : (i : Int) < (ws.length : Int) := by omega
    have hg : ws[i]? = some x := by
      have := congrArg (·[0]?) hd
      simpa [List.getElem?_drop] using this
    have hd' : ws.drop (i + 1) = r := by
      have := congrArg List.tail hd
      simpa using this
    have hk1 := inc64 (k := i) (by omega)
    have hia := ws_ia hg
    have hins : insT k more i (x :: r) = (if i = k then more ++ [10] else []) ++ (x ++ ((if r = [] then [] else [10]) ++ insT k more (i + 1) r)) := rfl
    rw [hins] at hb ⊢
    simp only [List.length_append] at hb
    by_cases hik : i = k
    · have hik' : ((i : Int) == (k : Int)) = true := by simp; omega
      rw [if_pos hik] at hb ⊢
      simp only [List.length_append, List.length_cons, List.length_nil] at hb
      by_cases hr : r = []
      · rw [if_pos hr] at hb ⊢
        simp only [List.length_nil] at hb
        have hlast : ¬ (i : Int) + 1 < (ws.length : Int) := by rw [hr] at hi; simp at hi; omega
        have b1 := addS (a := t) (b := more) (by omega)
        have b2 := addS (a := t ++ more) (b := [10]) (by simp; omega)
        have b3 := addS (a := t ++ more ++ [10]) (b := x) (by simp; omega)
        obtain ⟨env, he⟩ := ih (i + 1) (t ++ more ++ [10] ++ x) hd' (by omega) (by simp; omega)
        refine ⟨env, ?_⟩
        have e : t ++ (more ++ [10] ++ (x ++ ([] ++ insT k more (i + 1) r))) = (t ++ more ++ [10] ++ x) ++ insT k more (i + 1) r := by simp
        rw [e, ← he]
        generalize t ++ more ++ [10] ++ x = t4 at *
        generalize t ++ more ++ [10] = t2 at *
        generalize t ++ more = t1 at *
        refine loopK_norm ?_
        simp [fc6_b0, iPre, evKC, evK, put, Env.get, Env.keep, Opd.ev, loadD, cutAt, D.asInt?, binD_int, intBin, hll, hlt', hik', hia, b1, b2, b3, hk1, hlast]
      · rw [if_neg hr] at hb ⊢
        simp only [List.length_cons, List.length_nil] at hb
        have hrl : 0 < r.length := List.length_pos_iff.2 hr
        have hlast : (i : Int) + 1 < (ws.length : Int) := by omega
        have b1 := addS (a := t) (b := more) (by omega)
        have b2 := addS (a := t ++ more) (b := [10]) (by simp; omega)
        have b3 := addS (a := t ++ more ++ [10]) (b := x) (by simp; omega)
        have b4 := addS (a := t ++ more ++ [10] ++ x) (b := [10]) (by simp; omega)
        obtain ⟨env, he⟩ := ih (i + 1) (t ++ more ++ [10] ++ x ++ [10]) hd' (by omega) (by simp; omega)
        refine ⟨env, ?_⟩
        have e : t ++ (more ++ [10] ++ (x ++ ([10] ++ insT k more (i + 1) r))) = (t ++ more ++ [10] ++ x ++ [10]) ++ insT k more (i + 1) r := by simp
        rw [e, ← he]
        generalize t ++ more ++ [10] ++ x ++ [10] = t5 at *
        generalize t ++ more ++ [10] ++ x = t4 at *
        generalize t ++ more ++ [10] = t2 at *
        generalize t ++ more = t1 at *
        refine loopK_norm ?_
        simp [fc6_b0, iPre, evKC, evK, put, Env.get, Env.keep, Opd.ev, loadD, cutAt, D.asInt?, binD_int, intBin, hll, hlt', hik', hia, b1, b2, b3, b4, hk1, hlast]
    · have hik' : ((i : Int) == (k : Int)) = false := by simp; omega
      rw [if_neg hik] at hb ⊢
      simp only [List.length_nil, Nat.zero_add] at hb
      by_cases hr : r = []
      · rw [if_pos hr] at hb ⊢
        simp only [List.length_nil] at hb
        have hlast : ¬ (i : Int) + 1 < (ws.length : Int) := by rw [hr] at hi; simp at hi; omega
        have b3 := addS (a := t) (b := x) (by omega)
        obtain ⟨env, he⟩ := ih (i + 1) (t ++ x) hd' (by omega) (by simp; omega)
        refine ⟨env, ?_⟩
        have e : t ++ ([] ++ (x ++ ([] ++ insT k more (i + 1) r))) = (t ++ x) ++ insT k more (i + 1) r := by simp
        rw [e, ← he]
        generalize t ++ x = t4 at *
        refine loopK_norm ?_
        simp [fc6_b0, iPre, evKC, evK, put, Env.get, Env.keep, Opd.ev, loadD, cutAt, D.asInt?, binD_int, intBin, hll, hlt', hik', hia, b3, hk1, hlast]
      · rw [if_neg hr] at hb ⊢
        simp only [List.length_cons, List.length_nil] at hb
        have hrl : 0 < r.length := List.length_pos_iff.2 hr
        have hlast : (i : Int) + 1 < (ws.length : Int) := by omega
        have b3 := addS (a := t) (b := x) (by omega)
        have b4 := addS (a := t ++ x) (b := [10]) (by simp; omega)
        obtain ⟨env, he⟩ := ih (i + 1) (t ++ x ++ [10]) hd' (by omega) (by simp; omega)
        refine ⟨env, ?_⟩
        have e : t ++ ([] ++ (x ++ ([10] ++ insT k more (i + 1) r))) = (t ++ x ++ [10]) ++ insT k more (i + 1) r := by simp
        rw [e, ← he]
        generalize t ++ x ++ [10] = t5 at *
        generalize t ++ x = t4 at *
        refine loopK_norm ?_
        simp [fc6_b0, iPre, evKC, evK, put, Env.get, Env.keep, Opd.ev, loadD, cutAt, D.asInt?, binD_int, intBin, hll, hlt', hik', hia, b3, b4, hk1, hlast]

theorem nl_zero {s : List UInt8} (h : nl s = 0) : (10 : UInt8) ∉ s := by
  intro hm
  unfold nl at h
  have : s.filter (· == 10) = [] := List.length_eq_zero_iff.1 h
  have h2 := List.filter_eq_nil_iff.1 this 10 hm
  simp at h2

theorem law6n (s : List UInt8) (a : Nat) (ha : a < 65536) (em : Bool) (note : List UInt8) : ∃ H', call pg 6 [.p (.str s), .p (.int .u16 (a : Int)), .p (.bool em), .p (.str note)] ⟨[], []⟩ = some (.val (.p (.bool true)), H') := by
  have hh := head_call
  have hls : lenD 0 (.p (.str s)) = some s.length := rfl
  have hln : lenD 0 (.p (.str note)) = some note.length := rfl
  by_cases h1 : 3000 < s.length
  · have h1' : (3000 : Int) < (s.length : Int) := by omega
    refine ⟨⟨[], []⟩, call_body (fc := fc6) rfl rfl rfl rfl ?_⟩
    simp [fc6, evKC, evK, evGuard, put, Env.get, Env.keep, entry, Opd.ev, binD, lenD, finish, evRes, evRes1, hh, h1']
  have h1' : ¬ (3000 : Int) < (s.length : Int) := by omega
  by_cases h2 : 100 < note.length
  · have h2' : (100 : Int) < (note.length : Int) := by omega
    refine ⟨⟨[], []⟩, call_body (fc := fc6) rfl rfl rfl rfl ?_⟩
    simp [fc6, evKC, evK, evGuard, put, Env.get, Env.keep, entry, Opd.ev, binD, lenD, finish, evRes, evRes1, hh, h1', h2']
  have h2' : ¬ (100 : Int) < (note.length : Int) := by omega
  have hnl := fun H => lines_call (s := note) (by omega) H
  by_cases h3 : 0 < nl note
  · have h3' : (0 : Int) < (nl note : Int) := by omega
    refine ⟨⟨[], []⟩, call_body (fc := fc6) rfl rfl rfl rfl ?_⟩
    simp [fc6, evKC, evK, evGuard, put, Env.get, Env.keep, entry, Opd.ev, binD, lenD, finish, evRes, evRes1, hh, h1', h2', hnl, h3]
  have h3' : ¬ (0 : Int) < (nl note : Int) := by omega
  have h10 := nl_zero (s := note) (by omega)
  have hsp : ∀ H, callD (call pg) 19 [.p (.str s), .p (.int .u8 10)] H = some (.val (.p (.slice 1 ((spl 10 s).map .str))), H) := fun H => rsplit_call (by omega) 10 H
  have hsl := spl_len 10 s
  have hpos : 0 < (spl 10 s).length := List.length_pos_iff.2 (spl_ne 10 s)
  have hll := ws_len (spl 10 s)
  have hwa : IntKind.i64.wrap (a : Int) = (a : Int) := wrap64 (by omega) (by omega)
  have hmod : Int.tmod (a : Int) ((spl 10 s).length : Int) = ((a % (spl 10 s).length : Nat) : Int) := by
    rw [Int.ofNat_tmod]
  have hml := Nat.mod_lt a hpos
  have hne : ((spl 10 s).length : Int) ≠ 0 := by omega
  have hne' : (((spl 10 s).length : Int) == 0) = false := beq_eq_false_iff_ne.2 hne
  have hadd := addS (a := [35]) (b := note) (by simp; omega)
  have ha := fun H => parse_call (s := s) (by omega) H
  unfold parV at ha
  have key : ∀ more : List UInt8, more = (if em then [] else [35] ++ note) → ign more = true ∧ (10 : UInt8) ∉ more ∧ more.length ≤ 200 := by
    intro more hm
    subst hm
    cases em with
    | true => exact ⟨rfl, by simp, by simp⟩
    | false =>
      refine ⟨rfl, ?_, by simp; omega⟩
      simp only [Bool.false_eq_true, if_false, List.singleton_append, List.mem_cons, not_or]
      exact ⟨by decide, h10⟩
  obtain ⟨more, hmore⟩ : ∃ more : List UInt8, more = (if em then [] else [35] ++ note) := ⟨_, rfl⟩
  obtain ⟨k1, k2, k3⟩ := key more hmore
  obtain ⟨p1, p2⟩ := ins_parse (s := s) (by omega) hml k1 k2 k3
  obtain ⟨env, hlp⟩ := ins_loop s (spl 10 s) (a % (spl 10 s).length) more (by omega) (spl 10 s) 0 [] rfl (by simp) (by simp; omega)
  rw [List.nil_append] at hlp
  have hb := fun H => parse_call (s := insT (a % (spl 10 s).length) more 0 (spl 10 s)) (by omega) H
  unfold parV at hb
  have hwr := fun e n => run_err0 (s := s) (e := e) (n := n) (by omega)
  generalize insT (a % (spl 10 s).length) more 0 (spl 10 s) = w at *
  simp only [iPre, Int.cast_ofNat_Int, List.cons_append, List.nil_append] at hlp
  generalize a % (spl 10 s).length = k at *
  generalize hws : (spl 10 s).length = m at *
  generalize spl 10 s = ws at *
  have hm0 : m ≠ 0 := by omega
  cases q1 : parse s with
  | ok l =>
    rw [q1] at p2 ha
    dsimp only at p2 ha
    rw [p2] at hb
    dsimp only at hb
    obtain ⟨m1, m2, m3⟩ := parse_well (by omega) q1
    have hs := same_call (cmds_cms l) (cmds_cms l) (okNums_well m1) (okNums_well m1) (by omega)
    rw [same_self] at hs
    have hk0 : ¬ (k : Int) < 0 := by omega
    refine ⟨⟨[], []⟩, call_body (fc := fc6) rfl rfl rfl rfl ?_⟩
    generalize cmdsP l = x at *
    cases em with
    | true =>
      simp only [if_true] at hmore
      subst hmore
      simp [fc6, evKC, evK, evGuard, put, Env.get, Env.keep, entry, Opd.ev, D.asInt?, finish, evRes, evRes1, binD_int, intBin, hh, hls, hln, h1', h2', hnl, h3, hsp, hll, hwa, hmod, hm0, hadd, hlp, ha, hb, hs, hk0]
    | false =>
      simp only [Bool.false_eq_true, if_false] at hmore
      rw [← hmore] at hadd
      simp [fc6, evKC, evK, evGuard, put, Env.get, Env.keep, entry, Opd.ev, D.asInt?, finish, evRes, evRes1, binD_int, intBin, hh, hls, hln, h1', h2', hnl, h3, hsp, hll, hwa, hmod, hm0, hadd, hlp, ha, hb, hs, hk0]
  | error e =>
    obtain ⟨e, n⟩ := e
    have hn := (hwr e n q1).2
    rw [q1] at p2 ha
    dsimp only at p2 ha
    rw [p2] at hb
    dsimp only at hb
    have hs := same_call nil_cms nil_cms (by intro c hc; cases hc) (by intro c hc; cases hc) (by simp)
    have e0 : sameB [] [] = true := rfl
    rw [e0] at hs
    refine ⟨⟨[], []⟩, call_body (fc := fc6) rfl rfl rfl rfl ?_⟩
    have hn1 := inc64 (k := n) (by omega)
    by_cases hkn : k < n
    · have hkn' : (k : Int) < (n : Int) := by omega
      rw [if_pos hkn] at hb
      cases em with
      | true =>
        simp only [if_true] at hmore
        subst hmore
        simp [fc6, evKC, evK, evGuard, put, Env.get, Env.keep, entry, Opd.ev, D.asInt?, finish, evRes, evRes1, binD_int, intBin, hh, hls, hln, h1', h2', hnl, h3, hsp, hll, hwa, hmod, hm0, hadd, hlp, ha, hb, hs, hkn', hn1]
      | false =>
        simp only [Bool.false_eq_true, if_false] at hmore
        rw [← hmore] at hadd
        simp [fc6, evKC, evK, evGuard, put, Env.get, Env.keep, entry, Opd.ev, D.asInt?, finish, evRes, evRes1, binD_int, intBin, hh, hls, hln, h1', h2', hnl, h3, hsp, hll, hwa, hmod, hm0, hadd, hlp, ha, hb, hs, hkn', hn1]
    · have hkn' : ¬ (k : Int) < (n : Int) := by omega
      rw [if_neg hkn] at hb
      cases em with
      | true =>
        simp only [if_true] at hmore
        subst hmore
        simp [fc6, evKC, evK, evGuard, put, Env.get, Env.keep, entry, Opd.ev, D.asInt?, finish, evRes, evRes1, binD_int, intBin, hh, hls, hln, h1', h2', hnl, h3, hsp, hll, hwa, hmod, hm0, hadd, hlp, ha, hb, hs, hkn']
      | false =>
        simp only [Bool.false_eq_true, if_false] at hmore
        rw [← hmore] at hadd
        simp [fc6, evKC, evK, evGuard, put, Env.get, Env.keep, entry, Opd.ev, D.asInt?, finish, evRes, evRes1, binD_int, intBin, hh, hls, hln, h1', h2', hnl, h3, hsp, hll, hwa, hmod, hm0, hadd, hlp, ha, hb, hs, hkn']

theorem u16_nat {n : Int} (w : (Lit.int .u16 n).wf = true) : ∃ k : Nat, n = (k : Int) ∧ k < 65536 := by
  have h : 0 ≤ n ∧ n ≤ 65535 := by
    simp [Lit.wf, IntKind.min, IntKind.max, IntKind.bits, IntKind.signed] at w
    omega
  obtain ⟨k, rfl⟩ := Int.eq_ofNat_of_zero_le h.1
  exact ⟨k, rfl, by omega⟩

theorem law6 (s : List UInt8) (n : Int) (w : (Lit.int .u16 n).wf = true) (em : Bool) (note : List UInt8) : ∃ H', call pg 6 [.p (.str s), .p (.int .u16 n), .p (.bool em), .p (.str note)] ⟨[], []⟩ = some (.val (.p (.bool true)), H') := by
  obtain ⟨k, rfl, hk⟩ := u16_nat w
  exact law6n s k hk em note

end Go.Proofs.YtebbfckifhbkoaaGreatDoor
