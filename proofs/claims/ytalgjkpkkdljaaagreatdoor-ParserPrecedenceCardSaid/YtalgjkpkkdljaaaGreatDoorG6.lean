/-
  A value-level evaluator for Go functions; the functions of this cut by it; plain laws. Part 6 of 6.
-/
import Derived.Test.YtalgjkpkkdljaaaGreatDoorG5
import Derived.Test.YtalgjkpkkdljaaaGreatDoorG3

namespace Go.Proofs.YtalgjkpkkdljaaaGreatDoor
open Go.Vs
theorem cls_rdV {c : Rd} (h : c.Ok) (a o a' o' : Nat) (bx : List (List D)) (g i j : Nat) (y : PD) : ∃ k : Nat × Nat, (k = (1, 0) ∨ k = (4000000012, 0)) ∧ ∀ env : Env, env.get i = .box 0 0 → env.get j = .p y →
    clsP env ⟨rC c a o :: tabB :: tabU :: tabS :: bx, c.tk⟩ ⟨rC c a' o' :: tabB :: tabU :: tabS :: bx, c.tk⟩ (.call (.c (.fn g [] [])) [.t i, .t j]) = k := by
  have hr := reach_rH h a o bx []
  simp only [rH, List.append_nil] at hr
  refine ⟨if hpEq ⟨rC c a o :: tabB :: tabU :: tabS :: bx, c.tk⟩ ⟨rC c a' o' :: tabB :: tabU :: tabS :: bx, c.tk⟩ then (1, 0) else (4000000012, 0), ?_, fun env he hj => ?_⟩
  · cases hpEq ⟨rC c a o :: tabB :: tabU :: tabS :: bx, c.tk⟩ ⟨rC c a' o' :: tabB :: tabU :: tabS :: bx, c.tk⟩ <;> simp
  · have e1 : cls env (.call (.c (.fn g [] [])) [.t i, .t j]) = 2 := by simp [cls, Opd.ev, he, hj, D.refsL, D.refs]
    have e2 : callIds env ⟨rC c a o :: tabB :: tabU :: tabS :: bx, c.tk⟩ (.call (.c (.fn g [] [])) [.t i, .t j]) = [0, 1, 2, 3] := by
      simp only [callIds, Opd.ev, List.nil_append, List.append_nil, List.map_cons, List.map_nil, he, hj]
      exact hr
    unfold clsP
    rw [e1, e2]
    simp [isCl, bnd]
theorem uget {b0 b1 b3 : List D} {bx : List (List D)} {tk : List Nat} (s : List UInt8) : mapgetD 2 (.agg [.int .i64 0, .int .i64 0]) true (.mapr 2) (.p (.str s)) ⟨b0 :: b1 :: tabU :: b3 :: bx, tk⟩ = some (getT Pre.pd (.agg [.int .i64 0, .int .i64 0]) preT s) := get_mapT rfl s
theorem preT_lv {s : List UInt8} {o : Pre} (h : lookT preT s = some o) : o.lv ≤ 20 := by
  have : ∀ (t : List (List UInt8 × Pre)), (∀ e ∈ t, e.2.lv ≤ 20) → lookT t s = some o → o.lv ≤ 20 := by
    intro t
    induction t with
    | nil => intro _ h; cases h
    | cons e t ih =>
      intro hall h
      unfold lookT at h
      split at h
      · cases h; exact hall e (by simp)
      · exact ih (fun x hx => hall x (by simp [hx])) h
  exact this preT (by decide) h
theorem op_all {c : Rd} (h : c.Sz) {o : Nat} {prs : Nat → Nat → PR Nd} (hp : PrsOk c o prs) (a : Nat) (ha : a ≤ c.ts.length) (hb : a + 1 ≤ c.ts.length) (h1 : ((c.tok a).k == 0) = false) (h2 : (c.tok a).t = [97, 108, 108]) :
    Ans 127 [] c a o (fun x : Nd => .p x.pd) (quantP c prs 45 (c.tok a).p (a + 1)) := by
  have hn := h.n
  have lk := fun bx => look_at h.toOk a o (by omega) bx []
  have lk1 := fun bx => look_eq h.toOk a o 1 (by omega) bx []
  have lk2 := fun bx => look_eq h.toOk a o 2 (by omega) bx []
  have nm := named_eq (c.tok (a + 1)) (tok_t h (a + 1))
  have hw1 := addw1 (a := a) (by omega)
  have hlv : ((1 : Nat) : Int) = 1 := rfl
  have hlv2 : ((2 : Nat) : Int) = 2 := rfl
  simp only [rH, List.append_nil, hlv, hlv2, Tok.pd] at lk lk1 lk2
  have s1 : Ans 141 [.int .i64 45, .int .i64 (c.tok a).p] c (a + 1) o (fun x : Nd => .p x.pd) (quantP c prs 45 (c.tok a).p (a + 1)) := quant_eq h hp 45 (c.tok a).p (a + 1) hb
  cases r1 : quantP c prs 45 (c.tok a).p (a + 1) with
  | bad e q a1 =>
    obtain ⟨o', s1⟩ := s1.badT r1
    have s1 := fun bx => s1 bx []
    simp only [List.map_cons, List.map_nil, List.append_nil] at s1
    generalize c.tok a = x at *
    refine ans_frzBE h.toOk (fc := fc127) rfl rfl rfl rfl ⟨o', ?_⟩
    apply Exists.intro
    conv => lhs; simp [fc127, evKC, evK, evGuard, put, Env.get, Env.keep, entry, Opd.ev, splice, cutAt, indexD, D.asInt?, D.asNat?, u8, binD, strBin, unD, boundsD, sliceD, iaddrD, sub, minmaxD, eqvL, PD.eqv, clsP, cls, clsR, isCl, isW, apartRW, offB, apartWW, clash, insOk, finish, evRes, evRes1, mapO, D.cells, PD.cells, D.refsL, D.refs, D.toksL, D.toks, mkAgg, pures, fillD, fillE, appendD, srcD, D.elems?, D.asPD, Int.toNat_natCast, srcH, srcBH, eqD, D.asPDL, isMapC, ld_succ, ld_zero, st_succ, st_zero, oI, oS, oN, oP, oB, oL, oT, oF, oE, ldr0, ldr1, ldr2, ldr3, ldr4, ldr5, ldr6, str1', str3', lk, s1, hw1, h1, h2, bne]
  | ok x b1 =>
    have s1 := fun bx => s1.okT r1 bx []
    have hkx := pone_kids x
    simp only [List.map_cons, List.map_nil, List.append_nil, pd_cells x, Nd.cells] at s1
    generalize c.tok a = y at *
    refine ans_frzE h.toOk (fc := fc127) rfl rfl rfl rfl ?_
    apply Exists.intro
    simp only [pd_cells x, Nd.cells]
    conv => lhs; simp [fc127, evKC, evK, evGuard, put, Env.get, Env.keep, entry, Opd.ev, splice, cutAt, indexD, D.asInt?, D.asNat?, u8, binD, strBin, unD, boundsD, sliceD, iaddrD, sub, minmaxD, eqvL, PD.eqv, clsP, cls, clsR, isCl, isW, apartRW, offB, apartWW, clash, insOk, finish, evRes, evRes1, mapO, D.cells, PD.cells, D.refsL, D.refs, D.toksL, D.toks, mkAgg, pures, fillD, fillE, appendD, srcD, D.elems?, D.asPD, Int.toNat_natCast, srcH, srcBH, eqD, D.asPDL, isMapC, ld_succ, ld_zero, st_succ, st_zero, oI, oS, oN, oP, oB, oL, oT, oF, oE, ldr0, ldr1, ldr2, ldr3, ldr4, ldr5, ldr6, str1', str3', lk, s1, hw1, hkx, h1, h2, bne]
theorem op_some {c : Rd} (h : c.Sz) {o : Nat} {prs : Nat → Nat → PR Nd} (hp : PrsOk c o prs) (a : Nat) (ha : a ≤ c.ts.length) (hb : a + 1 ≤ c.ts.length) (h2 : (c.tok a).t = [115, 111, 109, 101]) (h3 : namedB (c.tok (a + 1)) = true) (h4 : (c.tok (a + 2)).t = [58]) :
    Ans 127 [] c a o (fun x : Nd => .p x.pd) (quantP c prs 46 (c.tok a).p (a + 1)) := by
  have hn := h.n
  have lk := fun bx => look_at h.toOk a o (by omega) bx []
  have lk1 := fun bx => look_eq h.toOk a o 1 (by omega) bx []
  have lk2 := fun bx => look_eq h.toOk a o 2 (by omega) bx []
  have nm := named_eq (c.tok (a + 1)) (tok_t h (a + 1))
  have hw1 := addw1 (a := a) (by omega)
  have hlv : ((1 : Nat) : Int) = 1 := rfl
  have hlv2 : ((2 : Nat) : Int) = 2 := rfl
  simp only [rH, List.append_nil, hlv, hlv2, Tok.pd] at lk lk1 lk2
  have s1 : Ans 141 [.int .i64 46, .int .i64 (c.tok a).p] c (a + 1) o (fun x : Nd => .p x.pd) (quantP c prs 46 (c.tok a).p (a + 1)) := quant_eq h hp 46 (c.tok a).p (a + 1) hb
  cases r1 : quantP c prs 46 (c.tok a).p (a + 1) with
  | bad e q a1 =>
    obtain ⟨o', s1⟩ := s1.badT r1
    have s1 := fun bx => s1 bx []
    simp only [List.map_cons, List.map_nil, List.append_nil] at s1
    generalize c.tok a = x at *
    cases hk : (x.k != 0)
    all_goals
      refine ans_frzBE h.toOk (fc := fc127) rfl rfl rfl rfl ⟨o', ?_⟩
      apply Exists.intro
      conv => lhs; simp [fc127, evKC, evK, evGuard, put, Env.get, Env.keep, entry, Opd.ev, splice, cutAt, indexD, D.asInt?, D.asNat?, u8, binD, strBin, unD, boundsD, sliceD, iaddrD, sub, minmaxD, eqvL, PD.eqv, clsP, cls, clsR, isCl, isW, apartRW, offB, apartWW, clash, insOk, finish, evRes, evRes1, mapO, D.cells, PD.cells, D.refsL, D.refs, D.toksL, D.toks, mkAgg, pures, fillD, fillE, appendD, srcD, D.elems?, D.asPD, Int.toNat_natCast, srcH, srcBH, eqD, D.asPDL, isMapC, ld_succ, ld_zero, st_succ, st_zero, oI, oS, oN, oP, oB, oL, oT, oF, oE, ldr0, ldr1, ldr2, ldr3, ldr4, ldr5, ldr6, str1', str3', lk, s1, hw1, hk, h2, h3, h4, lk1, lk2, nm]
  | ok x b1 =>
    have s1 := fun bx => s1.okT r1 bx []
    have hkx := pone_kids x
    simp only [List.map_cons, List.map_nil, List.append_nil, pd_cells x, Nd.cells] at s1
    generalize c.tok a = y at *
    cases hk : (y.k != 0)
    all_goals
      refine ans_frzE h.toOk (fc := fc127) rfl rfl rfl rfl ?_
      apply Exists.intro
      simp only [pd_cells x, Nd.cells]
      conv => lhs; simp [fc127, evKC, evK, evGuard, put, Env.get, Env.keep, entry, Opd.ev, splice, cutAt, indexD, D.asInt?, D.asNat?, u8, binD, strBin, unD, boundsD, sliceD, iaddrD, sub, minmaxD, eqvL, PD.eqv, clsP, cls, clsR, isCl, isW, apartRW, offB, apartWW, clash, insOk, finish, evRes, evRes1, mapO, D.cells, PD.cells, D.refsL, D.refs, D.toksL, D.toks, mkAgg, pures, fillD, fillE, appendD, srcD, D.elems?, D.asPD, Int.toNat_natCast, srcH, srcBH, eqD, D.asPDL, isMapC, ld_succ, ld_zero, st_succ, st_zero, oI, oS, oN, oP, oB, oL, oT, oF, oE, ldr0, ldr1, ldr2, ldr3, ldr4, ldr5, ldr6, str1', str3', lk, s1, hw1, hkx, hk, h2, h3, h4, lk1, lk2, nm]
def NotQ (c : Rd) (a : Nat) : Prop := ((((c.tok a).k == 0) = false ∧ ((c.tok a).t == [97, 108, 108]) = false) ∨ ((c.tok a).k == 0) = true) ∧ ((((c.tok a).t == [115, 111, 109, 101]) = true ∧ namedB (c.tok (a + 1)) = false) ∨ (((c.tok a).t == [115, 111, 109, 101]) = true ∧ namedB (c.tok (a + 1)) = true ∧ ((c.tok (a + 2)).t == [58]) = false) ∨ ((c.tok a).t == [115, 111, 109, 101]) = false)
theorem not_q {c : Rd} {a : Nat} (h1 : ¬ ((c.tok a).k ≠ 0 ∧ (c.tok a).t = [97, 108, 108])) (h2 : ¬ ((c.tok a).t = [115, 111, 109, 101] ∧ namedB (c.tok (a + 1)) = true ∧ (c.tok (a + 2)).t = [58])) : NotQ c a := by
  refine ⟨?_, ?_⟩
  · by_cases k : (c.tok a).k = 0
    · exact .inr (by simp [k])
    · exact .inl ⟨by simp [k], by simp; exact fun q => h1 ⟨k, q⟩⟩
  · by_cases s : (c.tok a).t = [115, 111, 109, 101]
    · cases q : namedB (c.tok (a + 1)) with
      | false => exact .inl ⟨by simp [s], rfl⟩
      | true => exact .inr (.inl ⟨by simp [s], rfl, by simp; exact fun r => h2 ⟨s, q, r⟩⟩)
    · exact .inr (.inr (by simp [s]))
def opE (c : Rd) (a : Nat) (u : D) (b : Bool) (pr : List D) : Env × List (List D) := ([(0, .box 0 0), (2, .box 4 0), (3, .box 5 0), (4, .box 6 0), (5, .p (.bool b))], [[.p (.int .i64 0), .p (.str []), .p (.int .i64 0), .p .nils, .p (.int .i64 0)], [.p (.int .i64 (c.tok a).k), .p (.str (c.tok a).t), .p (.int .i64 (c.tok a).p)], pr])

set_option maxHeartbeats 1000000 in
theorem op_pre {c : Rd} (h : c.Sz) {o : Nat} {prs : Nat → Nat → PR Nd} (hp : PrsOk c o prs) (a : Nat) (ha : a ≤ c.ts.length) (hq : NotQ c a) {p : Pre} (hl : lookT preT (c.tok a).t = some p) (h0 : ((c.tok a).k == 0) = false) (hb : a + 1 ≤ c.ts.length) :
    Ans 127 [] c a o (fun x : Nd => .p x.pd) ((prs p.lv (a + 1)).bind fun x a' => nodeP (kidsN p.op [] [x] (c.tok a).p) (c.tok a).p a') := by
  have hn := h.n
  have lk := fun bx => look_at h.toOk a o (by omega) bx []
  have lk1 := fun bx => look_eq h.toOk a o 1 (by omega) bx []
  have lk2 := fun bx => look_eq h.toOk a o 2 (by omega) bx []
  have nm := named_eq (c.tok (a + 1)) (tok_t h (a + 1))
  have hw1 := addw1 (a := a) (by omega)
  have hlv : ((1 : Nat) : Int) = 1 := rfl
  have hlv2 : ((2 : Nat) : Int) = 2 := rfl
  simp only [rH, List.append_nil, hlv, hlv2, Tok.pd] at lk lk1 lk2
  have hlv := preT_lv hl
  have s1 := hp.ans p.lv (a + 1) hb hlv
  have hk0 : ((c.tok a).k != 0) = true := by simp [bne, h0]
  obtain ⟨h1, h2⟩ := hq
  have hall : ((c.tok a).t == [97, 108, 108]) = false := by
    rcases h1 with ⟨_, q⟩ | q
    · exact q
    · rw [q] at h0; cases h0
  cases r1 : prs p.lv (a + 1) with
  | bad e q a1 =>
    obtain ⟨o', s1⟩ := s1.badT r1
    have s1 := fun bx => s1 bx []
    simp only [List.map_cons, List.map_nil, List.append_nil] at s1
    change Ans 127 [] c a o (fun x : Nd => .p x.pd) (.bad e q a1)
    refine ans_frzBE h.toOk (fc := fc127) rfl rfl rfl rfl ?_
    generalize c.tok a = t at *
    rcases h2 with ⟨h2, h2'⟩ | ⟨h2, h2', h2''⟩ | h2
    all_goals
      refine ⟨o', ?_⟩
      apply Exists.intro
      first
        | (conv => lhs; simp [fc127, evKC, evK, evGuard, put, Env.get, Env.keep, entry, Opd.ev, splice, cutAt, indexD, D.asInt?, D.asNat?, u8, binD, strBin, unD, boundsD, sliceD, iaddrD, sub, minmaxD, eqvL, PD.eqv, clsP, cls, clsR, isCl, isW, apartRW, offB, apartWW, clash, insOk, finish, evRes, evRes1, mapO, D.cells, PD.cells, D.refsL, D.refs, D.toksL, D.toks, mkAgg, pures, fillD, fillE, appendD, srcD, D.elems?, D.asPD, Int.toNat_natCast, srcH, srcBH, eqD, D.asPDL, isMapC, ld_succ, ld_zero, st_succ, st_zero, oI, oS, oN, oP, oB, oL, oT, oF, oE, ldr0, ldr1, ldr2, ldr3, ldr4, ldr5, ldr6, str1', str3', lk, s1, hw1, hk0, hall, h2, h2', h2'', lk1, lk2, nm, uget, getT, Pre.pd, hl, drP, evRest, behind, pairsOk, panOk, SO.uses, SK.slots, Opd.slots, SK.heapless])
        | (conv => lhs; simp [fc127, evKC, evK, evGuard, put, Env.get, Env.keep, entry, Opd.ev, splice, cutAt, indexD, D.asInt?, D.asNat?, u8, binD, strBin, unD, boundsD, sliceD, iaddrD, sub, minmaxD, eqvL, PD.eqv, clsP, cls, clsR, isCl, isW, apartRW, offB, apartWW, clash, insOk, finish, evRes, evRes1, mapO, D.cells, PD.cells, D.refsL, D.refs, D.toksL, D.toks, mkAgg, pures, fillD, fillE, appendD, srcD, D.elems?, D.asPD, Int.toNat_natCast, srcH, srcBH, eqD, D.asPDL, isMapC, ld_succ, ld_zero, st_succ, st_zero, oI, oS, oN, oP, oB, oL, oT, oF, oE, ldr0, ldr1, ldr2, ldr3, ldr4, ldr5, ldr6, str1', str3', lk, s1, hw1, hk0, hall, h2, h2', lk1, lk2, nm, uget, getT, Pre.pd, hl, drP, evRest, behind, pairsOk, panOk, SO.uses, SK.slots, Opd.slots, SK.heapless])
        | (conv => lhs; simp [fc127, evKC, evK, evGuard, put, Env.get, Env.keep, entry, Opd.ev, splice, cutAt, indexD, D.asInt?, D.asNat?, u8, binD, strBin, unD, boundsD, sliceD, iaddrD, sub, minmaxD, eqvL, PD.eqv, clsP, cls, clsR, isCl, isW, apartRW, offB, apartWW, clash, insOk, finish, evRes, evRes1, mapO, D.cells, PD.cells, D.refsL, D.refs, D.toksL, D.toks, mkAgg, pures, fillD, fillE, appendD, srcD, D.elems?, D.asPD, Int.toNat_natCast, srcH, srcBH, eqD, D.asPDL, isMapC, ld_succ, ld_zero, st_succ, st_zero, oI, oS, oN, oP, oB, oL, oT, oF, oE, ldr0, ldr1, ldr2, ldr3, ldr4, ldr5, ldr6, str1', str3', lk, s1, hw1, hk0, hall, h2, lk1, lk2, nm, uget, getT, Pre.pd, hl, drP, evRest, behind, pairsOk, panOk, SO.uses, SK.slots, Opd.slots, SK.heapless])
  | ok x b1 =>
    have s1 := fun bx => s1.okT r1 bx []
    have hkx := pone_kids x
    simp only [List.map_cons, List.map_nil, List.append_nil, pd_cells x, Nd.cells] at s1
    simp only [bind_ok]
    have nd := fun bx => node_eqF h.toOk b1 o p.op [] [x] (c.tok a).p (by simp) (by simp) bx []
    simp only [rH, List.append_nil, litN, List.map_nil, List.map_cons, pd_cells x, Nd.cells] at nd
    obtain ⟨kc, hkc, hcl⟩ := cls_rdV h.toOk (a + 1) o b1 o [[.p (.int .i64 0), .p (.str []), .p (.int .i64 0), .p .nils, .p (.int .i64 0)], [.p (.int .i64 (c.tok a).k), .p (.str (c.tok a).t), .p (.int .i64 (c.tok a).p)], [.p (.int .i64 p.lv), .p (.int .i64 p.op)]] 80 80 82 (.int .i64 p.lv)
    unfold nodeP
    have kk : fitsB (kidsN p.op [] [x] (c.tok a).p).op (kidsN p.op [] [x] (c.tok a).p).ks = fitsB p.op [x] := rfl
    rw [kk]
    have kp := kids_pd p.op [] [x] (c.tok a).p (by simp)
    simp only [List.map_nil, List.map_cons, pd_cells x, Nd.cells] at kp
    cases hf : fitsB p.op [x] with
    | true =>
      simp only [hf, if_true, kp] at nd
      refine ans_frzE h.toOk (fc := fc127) rfl rfl rfl rfl ?_
      rw [kp]
      generalize c.tok a = t at *
      rcases hkc with rfl | rfl <;> rcases h2 with ⟨h2, h2'⟩ | ⟨h2, h2', h2''⟩ | h2
      all_goals
        apply Exists.intro
        first
          | (conv => lhs; simp [fc127, evKC, evK, evGuard, put, Env.get, Env.keep, entry, Opd.ev, splice, cutAt, indexD, D.asInt?, D.asNat?, u8, binD, strBin, unD, boundsD, sliceD, iaddrD, sub, minmaxD, eqvL, PD.eqv, clsP, cls, clsR, isCl, isW, apartRW, offB, apartWW, clash, insOk, finish, evRes, evRes1, mapO, D.cells, PD.cells, D.refsL, D.refs, D.toksL, D.toks, mkAgg, pures, fillD, fillE, appendD, srcD, D.elems?, D.asPD, Int.toNat_natCast, srcH, srcBH, eqD, D.asPDL, isMapC, ld_succ, ld_zero, st_succ, st_zero, oI, oS, oN, oP, oB, oL, oT, oF, oE, ldr0, ldr1, ldr2, ldr3, ldr4, ldr5, ldr6, str1', str3', lk, ↓hcl, s1, hw1, hk0, hall, h2, h2', h2'', lk1, lk2, nm, uget, getT, Pre.pd, hl, hkx, nd])
          | (conv => lhs; simp [fc127, evKC, evK, evGuard, put, Env.get, Env.keep, entry, Opd.ev, splice, cutAt, indexD, D.asInt?, D.asNat?, u8, binD, strBin, unD, boundsD, sliceD, iaddrD, sub, minmaxD, eqvL, PD.eqv, clsP, cls, clsR, isCl, isW, apartRW, offB, apartWW, clash, insOk, finish, evRes, evRes1, mapO, D.cells, PD.cells, D.refsL, D.refs, D.toksL, D.toks, mkAgg, pures, fillD, fillE, appendD, srcD, D.elems?, D.asPD, Int.toNat_natCast, srcH, srcBH, eqD, D.asPDL, isMapC, ld_succ, ld_zero, st_succ, st_zero, oI, oS, oN, oP, oB, oL, oT, oF, oE, ldr0, ldr1, ldr2, ldr3, ldr4, ldr5, ldr6, str1', str3', lk, ↓hcl, s1, hw1, hk0, hall, h2, h2', lk1, lk2, nm, uget, getT, Pre.pd, hl, hkx, nd])
          | (conv => lhs; simp [fc127, evKC, evK, evGuard, put, Env.get, Env.keep, entry, Opd.ev, splice, cutAt, indexD, D.asInt?, D.asNat?, u8, binD, strBin, unD, boundsD, sliceD, iaddrD, sub, minmaxD, eqvL, PD.eqv, clsP, cls, clsR, isCl, isW, apartRW, offB, apartWW, clash, insOk, finish, evRes, evRes1, mapO, D.cells, PD.cells, D.refsL, D.refs, D.toksL, D.toks, mkAgg, pures, fillD, fillE, appendD, srcD, D.elems?, D.asPD, Int.toNat_natCast, srcH, srcBH, eqD, D.asPDL, isMapC, ld_succ, ld_zero, st_succ, st_zero, oI, oS, oN, oP, oB, oL, oT, oF, oE, ldr0, ldr1, ldr2, ldr3, ldr4, ldr5, ldr6, str1', str3', lk, ↓hcl, s1, hw1, hk0, hall, h2, lk1, lk2, nm, uget, getT, Pre.pd, hl, hkx, nd])
    | false =>
      simp only [hf, if_false, Bool.false_eq_true] at nd
      refine ans_frzBE h.toOk (fc := fc127) rfl rfl rfl rfl ⟨o, ?_⟩
      generalize c.tok a = t at *
      rcases hkc with rfl | rfl <;> rcases h2 with ⟨h2, h2'⟩ | ⟨h2, h2', h2''⟩ | h2
      all_goals
        apply Exists.intro
        first
          | (conv => lhs; simp [fc127, evKC, evK, evGuard, put, Env.get, Env.keep, entry, Opd.ev, splice, cutAt, indexD, D.asInt?, D.asNat?, u8, binD, strBin, unD, boundsD, sliceD, iaddrD, sub, minmaxD, eqvL, PD.eqv, clsP, cls, clsR, isCl, isW, apartRW, offB, apartWW, clash, insOk, finish, evRes, evRes1, mapO, D.cells, PD.cells, D.refsL, D.refs, D.toksL, D.toks, mkAgg, pures, fillD, fillE, appendD, srcD, D.elems?, D.asPD, Int.toNat_natCast, srcH, srcBH, eqD, D.asPDL, isMapC, ld_succ, ld_zero, st_succ, st_zero, oI, oS, oN, oP, oB, oL, oT, oF, oE, ldr0, ldr1, ldr2, ldr3, ldr4, ldr5, ldr6, str1', str3', lk, ↓hcl, s1, hw1, hk0, hall, h2, h2', h2'', lk1, lk2, nm, uget, getT, Pre.pd, hl, hkx, nd, drP, evRest, behind, pairsOk, panOk, SO.uses, SK.slots, Opd.slots, SK.heapless])
          | (conv => lhs; simp [fc127, evKC, evK, evGuard, put, Env.get, Env.keep, entry, Opd.ev, splice, cutAt, indexD, D.asInt?, D.asNat?, u8, binD, strBin, unD, boundsD, sliceD, iaddrD, sub, minmaxD, eqvL, PD.eqv, clsP, cls, clsR, isCl, isW, apartRW, offB, apartWW, clash, insOk, finish, evRes, evRes1, mapO, D.cells, PD.cells, D.refsL, D.refs, D.toksL, D.toks, mkAgg, pures, fillD, fillE, appendD, srcD, D.elems?, D.asPD, Int.toNat_natCast, srcH, srcBH, eqD, D.asPDL, isMapC, ld_succ, ld_zero, st_succ, st_zero, oI, oS, oN, oP, oB, oL, oT, oF, oE, ldr0, ldr1, ldr2, ldr3, ldr4, ldr5, ldr6, str1', str3', lk, ↓hcl, s1, hw1, hk0, hall, h2, h2', lk1, lk2, nm, uget, getT, Pre.pd, hl, hkx, nd, drP, evRest, behind, pairsOk, panOk, SO.uses, SK.slots, Opd.slots, SK.heapless])
          | (conv => lhs; simp [fc127, evKC, evK, evGuard, put, Env.get, Env.keep, entry, Opd.ev, splice, cutAt, indexD, D.asInt?, D.asNat?, u8, binD, strBin, unD, boundsD, sliceD, iaddrD, sub, minmaxD, eqvL, PD.eqv, clsP, cls, clsR, isCl, isW, apartRW, offB, apartWW, clash, insOk, finish, evRes, evRes1, mapO, D.cells, PD.cells, D.refsL, D.refs, D.toksL, D.toks, mkAgg, pures, fillD, fillE, appendD, srcD, D.elems?, D.asPD, Int.toNat_natCast, srcH, srcBH, eqD, D.asPDL, isMapC, ld_succ, ld_zero, st_succ, st_zero, oI, oS, oN, oP, oB, oL, oT, oF, oE, ldr0, ldr1, ldr2, ldr3, ldr4, ldr5, ldr6, str1', str3', lk, ↓hcl, s1, hw1, hk0, hall, h2, lk1, lk2, nm, uget, getT, Pre.pd, hl, hkx, nd, drP, evRest, behind, pairsOk, panOk, SO.uses, SK.slots, Opd.slots, SK.heapless])
def opEnd : SC := (.seq (.region [2] [ ⟨some 112, .load (some 5) (.t 6), none⟩, ⟨none, .store 5 (.t 2) (.t 112), none⟩]) .ret)
def zN0 : List PD := [.int .i64 0, .str [], .int .i64 0, .nils, .int .i64 0]
def tkN (t : Tok) : List PD := [.int .i64 t.k, .str t.t, .int .i64 t.p]

set_option maxHeartbeats 2000000 in
theorem op_start {c : Rd} (h : c.Sz) {o : Nat} {prs : Nat → Nat → PR Nd} (hp : PrsOk c o prs) (a : Nat) (ha : a ≤ c.ts.length) (hq : NotQ c a) (hu : ((c.tok a).k = 0) ∨ lookT preT (c.tok a).t = none) {n : Nd} {b1 : Nat} (r1 : primaryP c prs (c.tok a) a = .ok n b1) :
    ∃ p : List PD, evS (call pg) pg.G iterX fc127.body ⟨entry 0 [.box 0 0], ⟨rC c a o :: tabB :: tabU :: tabS :: [], c.tk⟩⟩ = seqK (call pg) pg.G (blockK 0 (loopK (call pg) pg.G [0, 2, 6] fc127_b0 (prS c b1 o zN0 (tkN (c.tok a)) p n))) opEnd := by
  have hn := h.n
  have lk := fun bx => look_at h.toOk a o (by omega) bx []
  have lk1 := fun bx => look_eq h.toOk a o 1 (by omega) bx []
  have lk2 := fun bx => look_eq h.toOk a o 2 (by omega) bx []
  have nm := named_eq (c.tok (a + 1)) (tok_t h (a + 1))
  have hw1 := addw1 (a := a) (by omega)
  have hlv : ((1 : Nat) : Int) = 1 := rfl
  have hlv2 : ((2 : Nat) : Int) = 2 := rfl
  simp only [rH, List.append_nil, hlv, hlv2, Tok.pd] at lk lk1 lk2
  have s1 := fun bx => (primary_eq h hp (c.tok a) a ha).okT r1 bx []
  have hkx := pone_kids n
  simp only [List.map_cons, List.map_nil, List.append_nil, Tok.pd, pd_cells n, Nd.cells] at s1
  obtain ⟨h1, h2⟩ := hq
  simp only [prS, prB, zN0, tkN, List.map_cons, List.map_nil, Nd.cells]
  cases hl : lookT preT (c.tok a).t with
  | none =>
    clear hu
    refine ⟨[.int .i64 0, .int .i64 0], ?_⟩
    generalize c.tok a = t at *
    rcases h1 with ⟨h1, h1'⟩ | h1 <;> rcases h2 with ⟨h2, h2'⟩ | ⟨h2, h2', h2''⟩ | h2
    all_goals
      simp only [List.map_cons, List.map_nil]
      conv => lhs; simp [fc127, evKC, evK, evGuard, put, Env.get, Env.keep, entry, Opd.ev, splice, cutAt, indexD, D.asInt?, D.asNat?, u8, binD, strBin, unD, boundsD, sliceD, iaddrD, sub, minmaxD, eqvL, PD.eqv, clsP, cls, clsR, isCl, isW, apartRW, offB, apartWW, clash, insOk, finish, evRes, evRes1, mapO, D.cells, PD.cells, D.refsL, D.refs, D.toksL, D.toks, mkAgg, pures, fillD, fillE, appendD, srcD, D.elems?, D.asPD, Int.toNat_natCast, srcH, srcBH, eqD, D.asPDL, isMapC, ld_succ, ld_zero, st_succ, st_zero, oI, oS, oN, oP, oB, oL, oT, oF, oE, ldr0, ldr1, ldr2, ldr3, ldr4, ldr5, ldr6, str1', str3', lk, bne, *, uget, getT]
      try rfl
  | some p =>
    have hk : ((c.tok a).k == 0) = true := by
      rcases hu with q | q
      · simp [q]
      · rw [hl] at q; cases q
    clear hu h1
    refine ⟨[.int .i64 p.lv, .int .i64 p.op], ?_⟩
    generalize c.tok a = t at *
    rcases h2 with ⟨h2, h2'⟩ | ⟨h2, h2', h2''⟩ | h2
    all_goals
      simp only [List.map_cons, List.map_nil]
      conv => lhs; simp [fc127, evKC, evK, evGuard, put, Env.get, Env.keep, entry, Opd.ev, splice, cutAt, indexD, D.asInt?, D.asNat?, u8, binD, strBin, unD, boundsD, sliceD, iaddrD, sub, minmaxD, eqvL, PD.eqv, clsP, cls, clsR, isCl, isW, apartRW, offB, apartWW, clash, insOk, finish, evRes, evRes1, mapO, D.cells, PD.cells, D.refsL, D.refs, D.toksL, D.toks, mkAgg, pures, fillD, fillE, appendD, srcD, D.elems?, D.asPD, Int.toNat_natCast, srcH, srcBH, eqD, D.asPDL, isMapC, ld_succ, ld_zero, st_succ, st_zero, oI, oS, oN, oP, oB, oL, oT, oF, oE, ldr0, ldr1, ldr2, ldr3, ldr4, ldr5, ldr6, str1', str3', lk, bne, *, uget, getT, Pre.pd]
      try rfl

end Go.Proofs.YtalgjkpkkdljaaaGreatDoor

namespace Go.Proofs.YtalgjkpkkdljaaaGreatDoor
open Go.Vs

set_option maxHeartbeats 2000000 in
theorem op_startB {c : Rd} (h : c.Sz) {o : Nat} (a : Nat) (ha : a ≤ c.ts.length) (hq : NotQ c a) (hu : ((c.tok a).k = 0) ∨ lookT preT (c.tok a).t = none) {e : Int} {q b1 : Nat} (r1 : Ans 143 [(c.tok a).pd] c a o (fun x : Nd => .p x.pd) (.bad e q b1)) :
    Ans 127 [] c a o (fun x : Nd => .p x.pd) (.bad e q b1) := by
  have hn := h.n
  have lk := fun bx => look_at h.toOk a o (by omega) bx []
  have lk1 := fun bx => look_eq h.toOk a o 1 (by omega) bx []
  have lk2 := fun bx => look_eq h.toOk a o 2 (by omega) bx []
  have nm := named_eq (c.tok (a + 1)) (tok_t h (a + 1))
  have hw1 := addw1 (a := a) (by omega)
  have hlv : ((1 : Nat) : Int) = 1 := rfl
  have hlv2 : ((2 : Nat) : Int) = 2 := rfl
  simp only [rH, List.append_nil, hlv, hlv2, Tok.pd] at lk lk1 lk2
  obtain ⟨o', s1⟩ := r1.badT rfl
  have s1 := fun bx => s1 bx []
  simp only [List.map_cons, List.map_nil, List.append_nil, Tok.pd] at s1
  obtain ⟨h1, h2⟩ := hq
  cases hl : lookT preT (c.tok a).t with
  | none =>
    clear hu
    refine ans_frzBE h.toOk (fc := fc127) rfl rfl rfl rfl ⟨o', ?_⟩
    generalize c.tok a = t at *
    rcases h1 with ⟨h1, h1'⟩ | h1 <;> rcases h2 with ⟨h2, h2'⟩ | ⟨h2, h2', h2''⟩ | h2
    all_goals
      apply Exists.intro
      conv => lhs; simp [fc127, evKC, evK, evGuard, put, Env.get, Env.keep, entry, Opd.ev, splice, cutAt, indexD, D.asInt?, D.asNat?, u8, binD, strBin, unD, boundsD, sliceD, iaddrD, sub, minmaxD, eqvL, PD.eqv, clsP, cls, clsR, isCl, isW, apartRW, offB, apartWW, clash, insOk, finish, evRes, evRes1, mapO, D.cells, PD.cells, D.refsL, D.refs, D.toksL, D.toks, mkAgg, pures, fillD, fillE, appendD, srcD, D.elems?, D.asPD, Int.toNat_natCast, srcH, srcBH, eqD, D.asPDL, isMapC, ld_succ, ld_zero, st_succ, st_zero, oI, oS, oN, oP, oB, oL, oT, oF, oE, ldr0, ldr1, ldr2, ldr3, ldr4, ldr5, ldr6, str1', str3', lk, bne, *, uget, getT]
  | some p =>
    have hk : ((c.tok a).k == 0) = true := by
      rcases hu with q | q
      · simp [q]
      · rw [hl] at q; cases q
    clear hu h1
    refine ans_frzBE h.toOk (fc := fc127) rfl rfl rfl rfl ⟨o', ?_⟩
    generalize c.tok a = t at *
    rcases h2 with ⟨h2, h2'⟩ | ⟨h2, h2', h2''⟩ | h2
    all_goals
      apply Exists.intro
      conv => lhs; simp [fc127, evKC, evK, evGuard, put, Env.get, Env.keep, entry, Opd.ev, splice, cutAt, indexD, D.asInt?, D.asNat?, u8, binD, strBin, unD, boundsD, sliceD, iaddrD, sub, minmaxD, eqvL, PD.eqv, clsP, cls, clsR, isCl, isW, apartRW, offB, apartWW, clash, insOk, finish, evRes, evRes1, mapO, D.cells, PD.cells, D.refsL, D.refs, D.toksL, D.toks, mkAgg, pures, fillD, fillE, appendD, srcD, D.elems?, D.asPD, Int.toNat_natCast, srcH, srcBH, eqD, D.asPDL, isMapC, ld_succ, ld_zero, st_succ, st_zero, oI, oS, oN, oP, oB, oL, oT, oF, oE, ldr0, ldr1, ldr2, ldr3, ldr4, ldr5, ldr6, str1', str3', lk, bne, *, uget, getT, Pre.pd]
theorem op_prim {c : Rd} (h : c.Sz) {o : Nat} {prs : Nat → Nat → PR Nd} (hp : PrsOk c o prs) (a : Nat) (ha : a ≤ c.ts.length) (hq : NotQ c a) (hu : ((c.tok a).k = 0) ∨ lookT preT (c.tok a).t = none)
    (hb : ∀ n b, primaryP c prs (c.tok a) a = .ok n b → b ≤ c.ts.length) :
    Ans 127 [] c a o (fun x : Nd => .p x.pd) ((primaryP c prs (c.tok a) a).bind fun n a' => primesP c (c.ts.length + 1) n a') := by
  have hn := h.n
  cases r1 : primaryP c prs (c.tok a) a with
  | bad e q b1 =>
    have := primary_eq h hp (c.tok a) a ha
    rw [r1] at this
    exact op_startB h a ha hq hu this
  | ok n b1 =>
    simp only [bind_ok]
    have hb1 := hb n b1 r1
    obtain ⟨p, hs⟩ := op_start h hp a ha hq hu r1
    have hl := primes_loop h o zN0 (tkN (c.tok a)) p (c.ts.length + 1) b1 n hb1 (by omega)
    cases r2 : primesP c (c.ts.length + 1) n b1 with
    | bad e q b2 =>
      rw [r2] at hl
      obtain ⟨env, n', hl⟩ := hl
      refine ans_frzBE h.toOk (fc := fc127) rfl rfl rfl rfl ⟨o, ?_⟩
      rw [List.map_nil, hs, hl]
      exact ⟨_, rfl⟩
    | ok n' b2 =>
      rw [r2] at hl
      obtain ⟨hb2, env, hl, g0, g2, g6⟩ := hl
      have hkx := pone_kids n'
      refine ans_frzE h.toOk (fc := fc127) rfl rfl rfl rfl ?_
      rw [List.map_nil, hs, hl, pd_cells n']
      apply Exists.intro
      simp only [prS, prB, zN0, tkN, List.map_cons, List.map_nil, Nd.cells]
      conv => lhs; simp [opEnd, fc127, evKC, evK, evGuard, put, Env.get, Env.keep, entry, Opd.ev, splice, cutAt, indexD, D.asInt?, D.asNat?, u8, binD, strBin, unD, boundsD, sliceD, iaddrD, sub, minmaxD, eqvL, PD.eqv, clsP, cls, clsR, isCl, isW, apartRW, offB, apartWW, clash, insOk, finish, evRes, evRes1, mapO, D.cells, PD.cells, D.refsL, D.refs, D.toksL, D.toks, mkAgg, pures, fillD, fillE, appendD, srcD, D.elems?, D.asPD, Int.toNat_natCast, srcH, srcBH, eqD, D.asPDL, isMapC, ld_succ, ld_zero, st_succ, st_zero, oI, oS, oN, oP, oB, oL, oT, oF, oE, ldr0, ldr1, ldr2, ldr3, ldr4, ldr5, ldr6, str1', str3', g0, g2, g6, hkx]
theorem node_ok_le {n : Nd} {p a : Nat} {x : Nd} {a' : Nat} (h : nodeP n p a = .ok x a') : a' = a := (node_inv h).2.1
theorem number_bd {c : Rd} {most a n a' : Nat} (h : numberP c most a = .ok n a') : a < c.ts.length ∧ a' = a + 1 := by
  unfold numberP at h
  split at h
  · rename_i hk
    split at h
    · cases h
    · cases h
      refine ⟨?_, rfl⟩
      rcases Nat.lt_or_ge a c.ts.length with q | q
      · exact q
      · rw [tok_out q] at hk; simp at hk
  · cases h
theorem none_bd {c : Rd} {p a : Nat} {x : Nd} {a' : Nat} (ha : a ≤ c.ts.length) (h : noneP c p a = .ok x a') : a ≤ a' ∧ a' ≤ c.ts.length := by
  unfold noneP at h
  split at h
  · split at h
    · obtain ⟨n, b, h1, h⟩ := bind_inv h
      obtain ⟨u, b2, h2, h⟩ := bind_inv h
      obtain ⟨h3, rfl⟩ := number_bd h1
      obtain ⟨rfl, h4⟩ := expect_inv h2
      cases h
      have := accept_lt h4
      omega
    · cases h
  · cases h; omega
theorem argsL_bd {c : Rd} {o : Nat} {prs : Nat → Nat → PR Nd} (hp : PrsOk c o prs) : ∀ (n a : Nat) (ks ks' : List Nd) (a' : Nat), a ≤ c.ts.length → argsL c prs n ks a = .ok ks' a' → a ≤ a' ∧ a' ≤ c.ts.length
  | 0, a, ks, ks', a', ha, h => by cases h; omega
  | n + 1, a, ks, ks', a', ha, h => by
    unfold argsL at h
    split at h
    · rename_i hb
      cases h
      have := accept_lt hb
      omega
    · obtain ⟨u, b, h1, h⟩ := bind_inv h
      obtain ⟨x, b2, h2, h⟩ := bind_inv h
      have g1 := sep_bd h1 ha
      have g2 := hp.adv 8 b x b2 g1 h2
      have g3 := hp.bd 8 b g1 x b2 h2
      have g4 := argsL_bd hp n b2 _ _ _ g3 h
      have g5 : a ≤ b := by
        rcases sep_ok h1 ha with ⟨_, rfl⟩ | ⟨_, q⟩
        · exact Nat.le_refl _
        · have := (expect_inv q).1; omega
      omega
theorem quant_adv {c : Rd} {o : Nat} {prs : Nat → Nat → PR Nd} (hp : PrsOk c o prs) {op : Int} {p a : Nat} {x : Nd} {a' : Nat} (h : quantP c prs op p a = .ok x a') : a < a' ∧ a' ≤ c.ts.length := by
  obtain ⟨e, a3, f, n1, n2, h3, n4, h5, _⟩ := quant_inv h
  have g1 := accept_lt n2
  have g2 := hp.adv 8 (a + 2) e a3 (by omega) h3
  have g3 := accept_lt n4
  have g4 := hp.adv 1 (a3 + 1) f a' (by omega) h5
  have g5 := hp.bd 1 (a3 + 1) (by omega) f a' h5
  omega
theorem primary_bd {c : Rd} {o : Nat} {prs : Nat → Nat → PR Nd} (hp : PrsOk c o prs) {a : Nat} (ha : a ≤ c.ts.length) {n : Nd} {a' : Nat} (h : primaryP c prs (c.tok a) a = .ok n a') : a < a' ∧ a' ≤ c.ts.length := by
  unfold primaryP at h
  split at h
  · rename_i op hw
    cases h
    rcases Nat.lt_or_ge a c.ts.length with q | q
    · omega
    · rw [tok_out q] at hw; cases hw
  · split at h
    · obtain ⟨m, b, h1, h⟩ := bind_inv h
      obtain ⟨h3, rfl⟩ := number_bd h1
      cases h; omega
    · split at h
      · obtain ⟨m, b, h1, h⟩ := bind_inv h
        obtain ⟨h3, rfl⟩ := number_bd h1
        cases h; omega
      · split at h
        · cases h
        · split at h
          · rename_i q
            have g := accept_lt q
            have := none_bd (by omega) h
            omega
          · split at h
            · rename_i q
              obtain ⟨m, b, h1, h⟩ := bind_inv h
              obtain ⟨u, b2, h2, h⟩ := bind_inv h
              have g := quant_adv hp h1
              obtain ⟨rfl, h4⟩ := expect_inv h2
              have := accept_lt h4
              cases h; omega
            · split at h
              · rename_i q
                have g0 := accept_lt q
                obtain ⟨m, b, h1, h⟩ := bind_inv h
                obtain ⟨u, b2, h2, h⟩ := bind_inv h
                have g := hp.adv 1 _ _ _ (by omega) h1
                obtain ⟨rfl, h4⟩ := expect_inv h2
                have := accept_lt h4
                cases h; omega
              · obtain ⟨m, b, h1, h⟩ := bind_inv h
                obtain ⟨rfl, h5, h6⟩ := name_inv h1
                have g0 := named_lt h6
                split at h
                · rename_i q
                  have g1 := accept_lt q
                  rw [argsP_argsL] at h
                  obtain ⟨ks, b, h2, h⟩ := bind_inv h
                  have g2 := argsL_bd hp _ _ _ _ _ (by omega) h2
                  have := node_ok_le h
                  omega
                · cases h; omega
theorem primes_bd {c : Rd} : ∀ (m : Nat) (n : Nd) (a : Nat) (n' : Nd) (a' : Nat), a ≤ c.ts.length → primesP c m n a = .ok n' a' → a ≤ a' ∧ a' ≤ c.ts.length
  | 0, n, a, n', a', ha, h => by cases h; omega
  | m + 1, n, a, n', a', ha, h => by
    unfold primesP at h
    split at h
    · rename_i hq
      have hlt : a < c.ts.length := by
        rcases Nat.lt_or_ge a c.ts.length with q | q
        · exact q
        · rw [tok_out q] at hq; simp at hq
      obtain ⟨x, b, h1, h⟩ := bind_inv h
      have := node_ok_le h1
      have := primes_bd m x b n' a' (by omega) h
      omega
    · cases h; omega
theorem operand_bd {c : Rd} {o : Nat} {prs : Nat → Nat → PR Nd} (hp : PrsOk c o prs) {a : Nat} (ha : a ≤ c.ts.length) {n : Nd} {a' : Nat} (h : operandP c prs a = .ok n a') : a < a' ∧ a' ≤ c.ts.length := by
  have key : ∀ {n : Nd} {a' : Nat}, ((primaryP c prs (c.tok a) a).bind fun n a => primesP c (c.ts.length + 1) n a) = .ok n a' → a < a' ∧ a' ≤ c.ts.length := by
    intro n a' h
    obtain ⟨x, b, h1, h⟩ := bind_inv h
    have g1 := primary_bd hp ha h1
    have g2 := primes_bd _ _ _ _ _ g1.2 h
    omega
  unfold operandP at h
  dsimp only at h
  split at h
  · have := quant_adv hp h; omega
  · split at h
    · have := quant_adv hp h; omega
    · split at h
      · rename_i p hl
        split at h
        · rename_i hk
          have hlt : a < c.ts.length := by
            rcases Nat.lt_or_ge a c.ts.length with q | q
            · exact q
            · rw [tok_out q] at hk; simp at hk
          obtain ⟨x, b, h1, h⟩ := bind_inv h
          have g1 := hp.adv _ _ _ _ (by omega) h1
          have g2 := hp.bd _ _ (by omega) _ _ h1
          have := node_ok_le h
          omega
        · exact key h
      · exact key h
theorem operand_eq {c : Rd} (h : c.Sz) {o : Nat} {prs : Nat → Nat → PR Nd} (hp : PrsOk c o prs) (a : Nat) (ha : a ≤ c.ts.length) :
    Ans 127 [] c a o (fun x : Nd => .p x.pd) (operandP c prs a) := by
  have hpb := fun n b hr => (primary_bd hp ha (n := n) (a' := b) hr).2
  have inn : (c.tok a).k ≠ 0 ∨ (c.tok a).t ≠ [] → a + 1 ≤ c.ts.length := by
    intro hk
    rcases Nat.lt_or_ge a c.ts.length with q | q
    · exact q
    · rw [tok_out q] at hk; simp at hk
  unfold operandP
  dsimp only
  by_cases h1 : (c.tok a).k ≠ 0 ∧ (c.tok a).t = [97, 108, 108]
  · rw [if_pos h1]
    exact op_all h hp a ha (inn (.inl h1.1)) (by simp [h1.1]) h1.2
  rw [if_neg h1]
  by_cases h2 : (c.tok a).t = [115, 111, 109, 101] ∧ namedB (c.tok (a + 1)) = true ∧ (c.tok (a + 2)).t = [58]
  · rw [if_pos h2]
    exact op_some h hp a ha (inn (.inr (by rw [h2.1]; simp))) h2.1 h2.2.1 h2.2.2
  rw [if_neg h2]
  have hq := not_q h1 h2
  cases hl : lookT preT (c.tok a).t with
  | none => exact op_prim h hp a ha hq (.inr hl) hpb
  | some p =>
    dsimp only
    by_cases hk : (c.tok a).k ≠ 0
    · rw [if_pos hk]
      exact op_pre h hp a ha hq hl (by simp [hk]) (inn (.inl hk))
    · rw [if_neg hk]
      have hk : (c.tok a).k = 0 := Decidable.of_not_not hk
      exact op_prim h hp a ha hq (.inl hk) hpb

end Go.Proofs.YtalgjkpkkdljaaaGreatDoor

namespace Go.Proofs.YtalgjkpkkdljaaaGreatDoor
open Go.Vs
theorem bget {b0 b2 b3 : List D} {bx : List (List D)} {tk : List Nat} (s : List UInt8) : mapgetD 2 (.agg [.int .i64 0, .bool false, .int .i64 0, .int .i64 0]) true (.mapr 1) (.p (.str s)) ⟨b0 :: tabB :: b2 :: b3 :: bx, tk⟩ = some (getT Bin.pd (.agg [.int .i64 0, .bool false, .int .i64 0, .int .i64 0]) binT s) := get_mapT rfl s
def paB (z : List PD) (x : Nd) : List (List D) := [z, x.cells].map fun b => b.map D.p
def paS (c : Rd) (a o lev : Nat) (cmp : Bool) (z : List PD) (x : Nd) : St := ⟨[(0, .box 0 0), (1, .p (.int .i64 lev)), (4, .box 4 0), (5, .box 5 0), (6, .p (.bool cmp))], ⟨rC c a o :: tabB :: tabU :: tabS :: paB z x, c.tk⟩⟩
theorem pa_loc {c : Rd} (h : c.Ok) (a o : Nat) (z : List PD) (x : Nd) (ex : List (List D)) (out : Out) (env : Env) (ho : out.ren (below 6) (below c.tk.length) = some out) :
    locD 6 c.tk.length (out, ⟨env, ⟨rC c a o :: tabB :: tabU :: tabS :: (paB z x ++ ex), c.tk⟩⟩) = (out, ⟨env.map fun y => (y.1, (y.2.ren (below 6) (below c.tk.length)).getD .dead), ⟨rC c a o :: tabB :: tabU :: tabS :: paB z x, c.tk⟩⟩) :=
  loc_rd h a o [z, x.cells] ex out env 6 rfl ho
theorem pa_out1 {c : Rd} (h : c.Sz) {o : Nat} (lev a : Nat) (cmp : Bool) (z : List PD) (x : Nd) (ha : a ≤ c.ts.length) (hb : lookT binT (c.tok a).t = none) :
    ∃ env, evS (call pg) pg.G iterX fc80_b0 (paS c a o lev cmp z x) = some (.exit 0, ⟨env, (paS c a o lev cmp z x).hp⟩) ∧ env.get 0 = .box 0 0 ∧ env.get 4 = .box 4 0 ∧ env.get 5 = .box 5 0 := by
  have hn := h.n
  have lk := fun bx => look_at h.toOk a o (by omega) bx []
  have hw1 := addw1 (a := a) (by omega)
  have hkx := pone_kids x
  simp only [rH, List.append_nil] at lk
  have hl := fun env ex => pa_loc h.toOk a o z x ex (.exit 0) env rfl
  simp only [paS]
  simp only [paB, List.map_cons, List.map_nil, Nd.cells, List.cons_append, List.nil_append] at hl ⊢
  generalize c.tok a = t at *
  cases hk : (t.k == 0)
  all_goals
    apply Exists.intro
    refine ⟨?_, ?_, ?_, ?_⟩
    · conv => lhs; simp [fc80_b0, evKC, evK, evGuard, put, Env.get, Env.keep, entry, Opd.ev, splice, cutAt, indexD, D.asInt?, D.asNat?, u8, binD, strBin, unD, boundsD, sliceD, iaddrD, sub, minmaxD, eqvL, PD.eqv, clsP, cls, clsR, isCl, isW, apartRW, offB, apartWW, clash, insOk, finish, evRes, evRes1, mapO, D.cells, PD.cells, D.refsL, D.refs, D.toksL, D.toks, mkAgg, pures, fillD, fillE, appendD, srcD, D.elems?, D.asPD, Int.toNat_natCast, srcH, srcBH, eqD, D.asPDL, isMapC, ld_succ, ld_zero, st_succ, st_zero, oI, oS, oN, oP, oB, oL, oT, oF, oE, ldr0, ldr1, ldr2, ldr3, ldr4, ldr5, ldr6, str1', str3', lk, hl, bget, getT, hb, hk, D.ren, below]
    all_goals rfl
theorem pa_out2 {c : Rd} (h : c.Sz) {o : Nat} (lev a : Nat) (cmp : Bool) (z : List PD) (x : Nd) (ha : a ≤ c.ts.length) {b : Bin} (hb : lookT binT (c.tok a).t = some b) (hx : (c.tok a).k = 0 ∨ b.lv < lev ∨ (b.lv = 7 ∧ cmp = true)) :
    ∃ env, evS (call pg) pg.G iterX fc80_b0 (paS c a o lev cmp z x) = some (.exit 0, ⟨env, (paS c a o lev cmp z x).hp⟩) ∧ env.get 0 = .box 0 0 ∧ env.get 4 = .box 4 0 ∧ env.get 5 = .box 5 0 := by
  have hn := h.n
  have lk := fun bx => look_at h.toOk a o (by omega) bx []
  have hw1 := addw1 (a := a) (by omega)
  have hkx := pone_kids x
  simp only [rH, List.append_nil] at lk
  have hl := fun env ex => pa_loc h.toOk a o z x ex (.exit 0) env rfl
  simp only [paS]
  simp only [paB, List.map_cons, List.map_nil, Nd.cells, List.cons_append, List.nil_append] at hl ⊢
  generalize c.tok a = t at *
  cases hk : (t.k == 0) with
  | true =>
    apply Exists.intro
    refine ⟨?_, ?_, ?_, ?_⟩
    · conv => lhs; simp [fc80_b0, evKC, evK, evGuard, put, Env.get, Env.keep, entry, Opd.ev, splice, cutAt, indexD, D.asInt?, D.asNat?, u8, binD, strBin, unD, boundsD, sliceD, iaddrD, sub, minmaxD, eqvL, PD.eqv, clsP, cls, clsR, isCl, isW, apartRW, offB, apartWW, clash, insOk, finish, evRes, evRes1, mapO, D.cells, PD.cells, D.refsL, D.refs, D.toksL, D.toks, mkAgg, pures, fillD, fillE, appendD, srcD, D.elems?, D.asPD, Int.toNat_natCast, srcH, srcBH, eqD, D.asPDL, isMapC, ld_succ, ld_zero, st_succ, st_zero, oI, oS, oN, oP, oB, oL, oT, oF, oE, ldr0, ldr1, ldr2, ldr3, ldr4, ldr5, ldr6, str1', str3', lk, hl, bget, getT, Bin.pd, hb, hk, D.ren, below]
    all_goals rfl
  | false =>
    by_cases h1 : b.lv < lev
    · apply Exists.intro
      refine ⟨?_, ?_, ?_, ?_⟩
      · conv => lhs; simp [fc80_b0, evKC, evK, evGuard, put, Env.get, Env.keep, entry, Opd.ev, splice, cutAt, indexD, D.asInt?, D.asNat?, u8, binD, strBin, unD, boundsD, sliceD, iaddrD, sub, minmaxD, eqvL, PD.eqv, clsP, cls, clsR, isCl, isW, apartRW, offB, apartWW, clash, insOk, finish, evRes, evRes1, mapO, D.cells, PD.cells, D.refsL, D.refs, D.toksL, D.toks, mkAgg, pures, fillD, fillE, appendD, srcD, D.elems?, D.asPD, Int.toNat_natCast, srcH, srcBH, eqD, D.asPDL, isMapC, ld_succ, ld_zero, st_succ, st_zero, oI, oS, oN, oP, oB, oL, oT, oF, oE, ldr0, ldr1, ldr2, ldr3, ldr4, ldr5, ldr6, str1', str3', lk, hl, bget, getT, Bin.pd, hb, hk, h1, D.ren, below]
      all_goals rfl
    · have h2 : b.lv = 7 ∧ cmp = true := by
        rcases hx with q | q | q
        · simp [q] at hk
        · exact absurd q h1
        · exact q
      obtain ⟨h2, rfl⟩ := h2
      rw [h2] at h1
      have h1' : ¬ ((7 : Int) < (lev : Int)) := by omega
      apply Exists.intro
      refine ⟨?_, ?_, ?_, ?_⟩
      · conv => lhs; simp [fc80_b0, evKC, evK, evGuard, put, Env.get, Env.keep, entry, Opd.ev, splice, cutAt, indexD, D.asInt?, D.asNat?, u8, binD, strBin, unD, boundsD, sliceD, iaddrD, sub, minmaxD, eqvL, PD.eqv, clsP, cls, clsR, isCl, isW, apartRW, offB, apartWW, clash, insOk, finish, evRes, evRes1, mapO, D.cells, PD.cells, D.refsL, D.refs, D.toksL, D.toks, mkAgg, pures, fillD, fillE, appendD, srcD, D.elems?, D.asPD, Int.toNat_natCast, srcH, srcBH, eqD, D.asPDL, isMapC, ld_succ, ld_zero, st_succ, st_zero, oI, oS, oN, oP, oB, oL, oT, oF, oE, ldr0, ldr1, ldr2, ldr3, ldr4, ldr5, ldr6, str1', str3', lk, hl, bget, getT, Bin.pd, hb, hk, h1', h2, D.ren, below]
      all_goals rfl
theorem joined_le {t : Tok} {b : Bin} {x y : Nd} {a : Nat} {n : Nd} {a' : Nat} (h : joinedP t b x y a = .ok n a') : a' = a := by
  unfold joinedP at h
  split at h
  · cases h
  · obtain ⟨m, b2, h1, h2⟩ := bind_inv h
    cases h2
    exact node_ok_le h1
def Bin.nx (b : Bin) : Nat := if b.r then b.lv else b.lv + 1
structure Go (c : Rd) (a lev : Nat) (cmp : Bool) (b : Bin) : Prop where
  l : lookT binT (c.tok a).t = some b
  k : ((c.tok a).k == 0) = false
  v : ¬ b.lv < lev
  s : ((b.lv : Int) == 7) = false ∨ (((b.lv : Int) == 7) = true ∧ cmp = false)
theorem binT_lv {s : List UInt8} {o : Bin} (h : lookT binT s = some o) : o.lv ≤ 12 := by
  have : ∀ (t : List (List UInt8 × Bin)), (∀ e ∈ t, e.2.lv ≤ 12) → lookT t s = some o → o.lv ≤ 12 := by
    intro t
    induction t with
    | nil => intro _ h; cases h
    | cons e t ih =>
      intro hall h
      unfold lookT at h
      split at h
      · cases h; exact hall e (by simp)
      · exact ih (fun x hx => hall x (by simp [hx])) h
  exact this binT (by decide) h
theorem nx_le {b : Bin} (h : b.lv ≤ 12) : b.nx ≤ 20 := by unfold Bin.nx; split <;> omega

set_option maxHeartbeats 1000000 in
theorem pa_bad1 {c : Rd} (h : c.Sz) {o : Nat} (lev a : Nat) (cmp : Bool) (z : List PD) (x : Nd) (ha : a ≤ c.ts.length) {prs : Nat → Nat → PR Nd} (hp : PrsOk c o prs) {b : Bin} (g : Go c a lev cmp b) (hb1 : a + 1 ≤ c.ts.length) {e : Int} {q a2 : Nat} (hy : prs b.nx (a + 1) = .bad e q a2) :
    ∃ env o', evS (call pg) pg.G iterX fc80_b0 (paS c a o lev cmp z x) = some (.pan (faultD e q), ⟨env, (paS c a2 o' lev cmp z x).hp⟩) := by
  have hn := h.n
  have lk := fun bx => look_at h.toOk a o (by omega) bx []
  have hw1 := addw1 (a := a) (by omega)
  have hkx := pone_kids x
  simp only [rH, List.append_nil] at lk
  have hlv := binT_lv g.l
  have hw2 := addw1 (a := b.lv) (by omega)
  have s1 := hp.ans b.nx (a + 1) hb1 (nx_le hlv)
  obtain ⟨o', s1⟩ := s1.badT hy
  have s1 := fun bx => s1 bx []
  simp only [List.map_cons, List.map_nil, List.append_nil] at s1
  have hl := fun env ex => pa_loc h.toOk a2 o' z x ex (.pan (faultD e q)) env rfl
  obtain ⟨hgl, hgk, hgv, hgs⟩ := g
  simp only [paS]
  simp only [paB, List.map_cons, List.map_nil, Nd.cells, List.cons_append, List.nil_append] at hl ⊢
  generalize c.tok a = t at *
  have e1 : ((b.lv + 1 : Nat) : Int) = (b.lv : Int) + 1 := rfl
  cases hr : b.r <;> rcases hgs with hg1 | ⟨hg1, hg2⟩
  all_goals
    simp only [Bin.nx, hr, Bool.false_eq_true, if_false, if_true, e1] at s1
    apply Exists.intro
    refine ⟨o', ?_⟩
    first
      | (conv => lhs; simp [fc80_b0, evKC, evK, evGuard, put, Env.get, Env.keep, entry, Opd.ev, splice, cutAt, indexD, D.asInt?, D.asNat?, u8, binD, strBin, unD, boundsD, sliceD, iaddrD, sub, minmaxD, eqvL, PD.eqv, clsP, cls, clsR, isCl, isW, apartRW, offB, apartWW, clash, insOk, finish, evRes, evRes1, mapO, D.cells, PD.cells, D.refsL, D.refs, D.toksL, D.toks, mkAgg, pures, fillD, fillE, appendD, srcD, D.elems?, D.asPD, Int.toNat_natCast, srcH, srcBH, eqD, D.asPDL, isMapC, ld_succ, ld_zero, st_succ, st_zero, oI, oS, oN, oP, oB, oL, oT, oF, oE, ldr0, ldr1, ldr2, ldr3, ldr4, ldr5, ldr6, str1', str3', lk, hl, bget, getT, Bin.pd, hgl, hgk, hgv, hg1, hg2, hr, hw1, hw2, s1, hkx, D.ren, below, drP, evRest, behind, pairsOk, panOk, SO.uses, SK.slots, Opd.slots, SK.heapless])
      | (conv => lhs; simp [fc80_b0, evKC, evK, evGuard, put, Env.get, Env.keep, entry, Opd.ev, splice, cutAt, indexD, D.asInt?, D.asNat?, u8, binD, strBin, unD, boundsD, sliceD, iaddrD, sub, minmaxD, eqvL, PD.eqv, clsP, cls, clsR, isCl, isW, apartRW, offB, apartWW, clash, insOk, finish, evRes, evRes1, mapO, D.cells, PD.cells, D.refsL, D.refs, D.toksL, D.toks, mkAgg, pures, fillD, fillE, appendD, srcD, D.elems?, D.asPD, Int.toNat_natCast, srcH, srcBH, eqD, D.asPDL, isMapC, ld_succ, ld_zero, st_succ, st_zero, oI, oS, oN, oP, oB, oL, oT, oF, oE, ldr0, ldr1, ldr2, ldr3, ldr4, ldr5, ldr6, str1', str3', lk, hl, bget, getT, Bin.pd, hgl, hgk, hgv, hg1, hr, hw1, hw2, s1, hkx, D.ren, below, drP, evRest, behind, pairsOk, panOk, SO.uses, SK.slots, Opd.slots, SK.heapless])

set_option maxHeartbeats 1000000 in
theorem pa_bad2 {c : Rd} (h : c.Sz) {o : Nat} (lev a : Nat) (cmp : Bool) (z : List PD) (x : Nd) (ha : a ≤ c.ts.length) {prs : Nat → Nat → PR Nd} (hp : PrsOk c o prs) {b : Bin} (g : Go c a lev cmp b) (hb1 : a + 1 ≤ c.ts.length) {y : Nd} {a2 : Nat} (hy : prs b.nx (a + 1) = .ok y a2) {e : Int} {q a3 : Nat} (hj : joinedP (c.tok a) b x y a2 = .bad e q a3) :
    ∃ env o', evS (call pg) pg.G iterX fc80_b0 (paS c a o lev cmp z x) = some (.pan (faultD e q), ⟨env, (paS c a3 o' lev cmp z x).hp⟩) := by
  have hn := h.n
  have lk := fun bx => look_at h.toOk a o (by omega) bx []
  have hw1 := addw1 (a := a) (by omega)
  have hkx := pone_kids x
  simp only [rH, List.append_nil] at lk
  have hlv := binT_lv g.l
  have hw2 := addw1 (a := b.lv) (by omega)
  have s1 := hp.ans b.nx (a + 1) hb1 (nx_le hlv)
  have s1 := fun bx => s1.okT hy bx []
  have hky := pone_kids y
  have j1 := joined_eq h.toOk a2 o (c.tok a) b x y
  simp only [List.map_cons, List.map_nil, List.append_nil, pd_cells y, Nd.cells] at s1
  have kcl := cls_rdV h.toOk (a + 1) o a2 o [z.map .p, x.cells.map .p, [.p (.int .i64 (c.tok a).k), .p (.str (c.tok a).t), .p (.int .i64 (c.tok a).p)], [.p (.int .i64 b.lv), .p (.bool b.r), .p (.int .i64 b.rel), .p (.int .i64 b.alt)]] 80 86 87 (.int .i64 b.nx)
  obtain ⟨kc, hkc, hcl⟩ := kcl
  obtain ⟨o', j1⟩ := j1.badT hj
  have j1 := fun bx => j1 bx []
  simp only [List.map_cons, List.map_nil, List.append_nil, pd_cells y, pd_cells x, Nd.cells, Tok.pd, Bin.pd] at j1
  have hl := fun env ex => pa_loc h.toOk a3 o' z x ex (.pan (faultD e q)) env rfl
  obtain ⟨hgl, hgk, hgv, hgs⟩ := g
  simp only [paS]
  simp only [paB, List.map_cons, List.map_nil, Nd.cells, List.cons_append, List.nil_append] at hl hcl ⊢
  generalize c.tok a = t at *
  have e1 : ((b.lv + 1 : Nat) : Int) = (b.lv : Int) + 1 := rfl
  cases hr : b.r <;> rcases hgs with hg1 | ⟨hg1, hg2⟩ <;> rcases hkc with rfl | rfl
  all_goals
    simp only [Bin.nx, hr, Bool.false_eq_true, if_false, if_true, e1] at s1 hcl
    simp only [hr] at j1
    apply Exists.intro
    refine ⟨o', ?_⟩
    first
      | (conv => lhs; simp [fc80_b0, evKC, evK, evGuard, put, Env.get, Env.keep, entry, Opd.ev, splice, cutAt, indexD, D.asInt?, D.asNat?, u8, binD, strBin, unD, boundsD, sliceD, iaddrD, sub, minmaxD, eqvL, PD.eqv, clsP, cls, clsR, isCl, isW, apartRW, offB, apartWW, clash, insOk, finish, evRes, evRes1, mapO, D.cells, PD.cells, D.refsL, D.refs, D.toksL, D.toks, mkAgg, pures, fillD, fillE, appendD, srcD, D.elems?, D.asPD, Int.toNat_natCast, srcH, srcBH, eqD, D.asPDL, isMapC, ld_succ, ld_zero, st_succ, st_zero, oI, oS, oN, oP, oB, oL, oT, oF, oE, ldr0, ldr1, ldr2, ldr3, ldr4, ldr5, ldr6, str1', str3', lk, hl, ↓hcl, bget, getT, Bin.pd, hgl, hgk, hgv, hg1, hg2, hr, hw1, hw2, s1, j1, hkx, hky, D.ren, below, drP, evRest, behind, pairsOk, panOk, SO.uses, SK.slots, Opd.slots, SK.heapless])
      | (conv => lhs; simp [fc80_b0, evKC, evK, evGuard, put, Env.get, Env.keep, entry, Opd.ev, splice, cutAt, indexD, D.asInt?, D.asNat?, u8, binD, strBin, unD, boundsD, sliceD, iaddrD, sub, minmaxD, eqvL, PD.eqv, clsP, cls, clsR, isCl, isW, apartRW, offB, apartWW, clash, insOk, finish, evRes, evRes1, mapO, D.cells, PD.cells, D.refsL, D.refs, D.toksL, D.toks, mkAgg, pures, fillD, fillE, appendD, srcD, D.elems?, D.asPD, Int.toNat_natCast, srcH, srcBH, eqD, D.asPDL, isMapC, ld_succ, ld_zero, st_succ, st_zero, oI, oS, oN, oP, oB, oL, oT, oF, oE, ldr0, ldr1, ldr2, ldr3, ldr4, ldr5, ldr6, str1', str3', lk, hl, ↓hcl, bget, getT, Bin.pd, hgl, hgk, hgv, hg1, hr, hw1, hw2, s1, j1, hkx, hky, D.ren, below, drP, evRest, behind, pairsOk, panOk, SO.uses, SK.slots, Opd.slots, SK.heapless])

set_option maxHeartbeats 1000000 in
theorem pa_step {c : Rd} (h : c.Sz) {o : Nat} (lev a : Nat) (cmp : Bool) (z : List PD) (x : Nd) (ha : a ≤ c.ts.length) {prs : Nat → Nat → PR Nd} (hp : PrsOk c o prs) {b : Bin} (g : Go c a lev cmp b) (hb1 : a + 1 ≤ c.ts.length) {y : Nd} {a2 : Nat} (hy : prs b.nx (a + 1) = .ok y a2) {n : Nd} {a3 : Nat} (hj : joinedP (c.tok a) b x y a2 = .ok n a3) :
    evS (call pg) pg.G iterX fc80_b0 (paS c a o lev cmp z x) = some (.norm, paS c a3 o lev (b.lv == 7) z n) := by
  have hn := h.n
  have lk := fun bx => look_at h.toOk a o (by omega) bx []
  have hw1 := addw1 (a := a) (by omega)
  have hkx := pone_kids x
  simp only [rH, List.append_nil] at lk
  have hlv := binT_lv g.l
  have hw2 := addw1 (a := b.lv) (by omega)
  have s1 := hp.ans b.nx (a + 1) hb1 (nx_le hlv)
  have s1 := fun bx => s1.okT hy bx []
  have hky := pone_kids y
  have j1 := joined_eq h.toOk a2 o (c.tok a) b x y
  simp only [List.map_cons, List.map_nil, List.append_nil, pd_cells y, Nd.cells] at s1
  have kcl := cls_rdV h.toOk (a + 1) o a2 o [z.map .p, x.cells.map .p, [.p (.int .i64 (c.tok a).k), .p (.str (c.tok a).t), .p (.int .i64 (c.tok a).p)], [.p (.int .i64 b.lv), .p (.bool b.r), .p (.int .i64 b.rel), .p (.int .i64 b.alt)]] 80 86 87 (.int .i64 b.nx)
  obtain ⟨kc, hkc, hcl⟩ := kcl
  have j1 := fun bx => j1.okT hj bx []
  have hle := joined_le hj
  subst hle
  have hkn := pone_kids n
  simp only [List.map_cons, List.map_nil, List.append_nil, pd_cells y, pd_cells x, pd_cells n, Nd.cells, Tok.pd, Bin.pd] at j1
  have hl := fun env ex => pa_loc h.toOk a3 o z n ex .norm env rfl
  have hE : (b.lv == 7) = ((b.lv : Int) == 7) := by rw [Bool.eq_iff_iff]; simp; omega
  rw [hE]
  obtain ⟨hgl, hgk, hgv, hgs⟩ := g
  simp only [paS]
  simp only [paB, List.map_cons, List.map_nil, Nd.cells, List.cons_append, List.nil_append] at hl hcl ⊢
  generalize c.tok a = t at *
  have e1 : ((b.lv + 1 : Nat) : Int) = (b.lv : Int) + 1 := rfl
  cases hr : b.r <;> rcases hgs with hg1 | ⟨hg1, hg2⟩ <;> rcases hkc with rfl | rfl
  all_goals
    simp only [Bin.nx, hr, Bool.false_eq_true, if_false, if_true, e1] at s1 hcl
    simp only [hr] at j1
    first
      | simp [fc80_b0, evKC, evK, evGuard, put, Env.get, Env.keep, Opd.ev, splice, cutAt, binD, unD, sub, clsP, cls, clsR, isCl, isW, apartRW, offB, apartWW, clash, insOk, D.cells, D.refsL, D.refs, D.toksL, D.toks, mkAgg, pures, ld_succ, ld_zero, st_succ, st_zero, oP, ldr1, ldr4, str1', lk, hl, ↓hcl, bget, getT, Bin.pd, hgl, hgk, hgv, hg1, hg2, hr, hw1, hw2, s1, j1, hkn, D.ren, below]
      | simp [fc80_b0, evKC, evK, evGuard, put, Env.get, Env.keep, Opd.ev, splice, cutAt, binD, unD, sub, clsP, cls, clsR, isCl, isW, apartRW, offB, apartWW, clash, insOk, D.cells, D.refsL, D.refs, D.toksL, D.toks, mkAgg, pures, ld_succ, ld_zero, st_succ, st_zero, oP, ldr1, ldr4, str1', lk, hl, ↓hcl, bget, getT, Bin.pd, hgl, hgk, hgv, hg1, hr, hw1, hw2, s1, j1, hkn, D.ren, below]
theorem go_or {c : Rd} {a lev : Nat} {cmp : Bool} {b : Bin} (hl : lookT binT (c.tok a).t = some b) (hx : ¬ ((c.tok a).k = 0 ∨ b.lv < lev ∨ (b.lv = 7 ∧ cmp = true))) : Go c a lev cmp b := by
  refine ⟨hl, ?_, fun q => hx (.inr (.inl q)), ?_⟩
  · cases hk : ((c.tok a).k == 0) with
    | false => rfl
    | true => exact absurd (.inl (by simpa using hk)) hx
  · cases h7 : ((b.lv : Int) == 7) with
    | false => exact .inl rfl
    | true =>
      refine .inr ⟨rfl, ?_⟩
      cases cmp with
      | false => rfl
      | true =>
        have : b.lv = 7 := by
          have := beq_iff_eq.1 h7
          omega
        exact absurd (.inr (.inr ⟨this, rfl⟩)) hx
theorem ops_loop {c : Rd} (h : c.Sz) {o : Nat} {prs : Nat → Nat → PR Nd} (hp : PrsOk c o prs) (lev : Nat) (z : List PD) : ∀ (m a : Nat) (cmp : Bool) (x : Nd), a ≤ c.ts.length → c.ts.length - a < m → match opsP c prs lev m cmp x a with
    | .ok n a' => a ≤ a' ∧ a' ≤ c.ts.length ∧ ∃ env cmp', loopK (call pg) pg.G [0, 1, 4, 5, 6] fc80_b0 (paS c a o lev cmp z x) = some (.exit 0, ⟨env, (paS c a' o lev cmp' z n).hp⟩) ∧ env.get 0 = .box 0 0 ∧ env.get 4 = .box 4 0 ∧ env.get 5 = .box 5 0
    | .bad e q a' => ∃ env o' cmp' x', loopK (call pg) pg.G [0, 1, 4, 5, 6] fc80_b0 (paS c a o lev cmp z x) = some (.pan (faultD e q), ⟨env, (paS c a' o' lev cmp' z x').hp⟩) := by
  intro m
  induction m with
  | zero => intro a cmp x _ h2; omega
  | succ m ih =>
    intro a cmp x ha hm
    unfold opsP
    dsimp only
    cases hl : lookT binT (c.tok a).t with
    | none =>
      obtain ⟨env, hs, h1, h2, h3⟩ := pa_out1 h lev a cmp z x ha hl
      exact ⟨Nat.le_refl _, ha, env, cmp, loopK_out hs (by simp), h1, h2, h3⟩
    | some b =>
      dsimp only
      by_cases hx : (c.tok a).k = 0 ∨ b.lv < lev ∨ (b.lv = 7 ∧ cmp = true)
      · rw [if_pos hx]
        obtain ⟨env, hs, h1, h2, h3⟩ := pa_out2 h lev a cmp z x ha hl hx
        exact ⟨Nat.le_refl _, ha, env, cmp, loopK_out hs (by simp), h1, h2, h3⟩
      · rw [if_neg hx]
        have g := go_or hl hx
        have hlt : a < c.ts.length := by
          rcases Nat.lt_or_ge a c.ts.length with q | q
          · exact q
          · rw [tok_out q] at hl; cases hl
        have hnx : (if b.r = true then b.lv else b.lv + 1) = b.nx := rfl
        rw [hnx]
        cases hy : prs b.nx (a + 1) with
        | bad e q a2 =>
          obtain ⟨env, o', hs⟩ := pa_bad1 h lev a cmp z x ha hp g hlt hy
          exact ⟨env, o', cmp, x, loopK_out hs (by simp)⟩
        | ok y a2 =>
          simp only [bind_ok]
          have g2 := hp.adv _ _ _ _ hlt hy
          have g3 := hp.bd _ _ hlt _ _ hy
          cases hj : joinedP (c.tok a) b x y a2 with
          | bad e q a3 =>
            obtain ⟨env, o', hs⟩ := pa_bad2 h lev a cmp z x ha hp g hlt hy hj
            exact ⟨env, o', cmp, x, loopK_out hs (by simp)⟩
          | ok n a3 =>
            simp only [bind_ok]
            have hs := pa_step h lev a cmp z x ha hp g hlt hy hj
            have hle := joined_le hj
            subst hle
            have := ih a3 (b.lv == 7) n g3 (by omega)
            have hlp : loopK (call pg) pg.G [0, 1, 4, 5, 6] fc80_b0 (paS c a o lev cmp z x) = loopK (call pg) pg.G [0, 1, 4, 5, 6] fc80_b0 (paS c a3 o lev (b.lv == 7) z n) := loopK_norm hs
            rw [hlp]
            cases hr : opsP c prs lev m (b.lv == 7) n a3 with
            | ok n' a' =>
              rw [hr] at this
              obtain ⟨k1, k2, k3⟩ := this
              exact ⟨by omega, k2, k3⟩
            | bad e q a' =>
              rw [hr] at this
              exact this

end Go.Proofs.YtalgjkpkkdljaaaGreatDoor

namespace Go.Proofs.YtalgjkpkkdljaaaGreatDoor
open Go.Vs
theorem tok_end {c : Rd} (h : c.Sz) {a : Nat} (h0 : (c.tok a).k = 0) : c.tok a = ⟨0, [], c.e⟩ := by
  rcases Nat.lt_or_ge a c.ts.length with q | q
  · rw [tok_in q] at h0; exact absurd h0 (h.k _ (List.getElem_mem q))
  · exact tok_out q
theorem op_end {c : Rd} (h : c.Sz) {o : Nat} (a : Nat) (ha : a ≤ c.ts.length) (h0 : (c.tok a).k = 0) : Ans 127 [] c a o (fun x : Nd => .p x.pd) (wrongP c a) := by
  have ht := tok_end h h0
  have hq : NotQ c a := not_q (fun q => q.1 h0) (fun q => by rw [ht] at q; simp at q)
  refine op_startB h a ha hq (.inl h0) (pr_end h (c.tok a) a ha ?_ h0 ?_ ?_) <;> rw [ht] <;> rfl
theorem operandP_end {c : Rd} (h : c.Sz) (prs : Nat → Nat → PR Nd) {a : Nat} (h0 : (c.tok a).k = 0) : operandP c prs a = wrongP c a := by
  have ht := tok_end h h0
  have q := fun s => acc_end (s := s) h0
  have hn : nameP c a = wrongP c a := by simp [nameP, namedB, h0]
  have hp : primaryP c prs (c.tok a) a = wrongP c a := by
    unfold primaryP
    simp only [q, hn, Bool.false_eq_true, if_false]
    rw [ht]
    rfl
  unfold operandP
  simp only [h0, hp]
  rw [ht]
  rfl

section
variable {c : Rd} (h : c.Sz) {o : Nat} (lev a : Nat) (ha : a ≤ c.ts.length)
include h ha
theorem parse_lim (ho : 100 ≤ o) (h0 : (c.tok a).k ≠ 0) : Ans 80 [.int .i64 lev] c a o (fun x : Nd => .p x.pd) (.bad 2 (c.tok a).p a) := by
  have hn := h.n
  have lk := fun bx => look_at h.toOk a o (by omega) bx []
  simp only [rH, List.append_nil] at lk
  have ho' : (100 : Int) ≤ (o : Int) := by omega
  have h0' : ((c.tok a).k != 0) = true := by simp [h0]
  refine ans_frzBE h.toOk (fc := fc80) rfl rfl rfl rfl ⟨o, ?_⟩
  generalize c.tok a = t at *
  apply Exists.intro
  conv => lhs; simp [fc80, evKC, evK, evGuard, put, Env.get, Env.keep, entry, Opd.ev, splice, cutAt, indexD, D.asInt?, D.asNat?, u8, binD, strBin, unD, boundsD, sliceD, iaddrD, sub, minmaxD, eqvL, PD.eqv, clsP, cls, clsR, isCl, isW, apartRW, offB, apartWW, clash, insOk, finish, evRes, evRes1, mapO, D.cells, PD.cells, D.refsL, D.refs, D.toksL, D.toks, mkAgg, pures, fillD, fillE, appendD, srcD, D.elems?, D.asPD, Int.toNat_natCast, srcH, srcBH, eqD, D.asPDL, isMapC, ld_succ, ld_zero, st_succ, st_zero, oI, oS, oN, oP, oB, oL, oT, oF, oE, ldr0, ldr1, ldr2, ldr3, ldr4, ldr5, ldr6, str1', str3', lk, ho', h0', fail_eq]
theorem parse_end (ho : o ≤ 1000) (h0 : (c.tok a).k = 0) : Ans 80 [.int .i64 lev] c a o (fun x : Nd => .p x.pd) (wrongP c a) := by
  have hn := h.n
  have lk := fun bx => look_at h.toOk a o (by omega) bx []
  simp only [rH, List.append_nil] at lk
  have hw := addw1 (a := o) (by omega)
  have h0' : ((c.tok a).k != 0) = false := by simp [h0]
  have s1 := op_end h (o := o + 1) a ha h0
  unfold wrongP at s1 ⊢
  obtain ⟨o', s1⟩ := s1.badT rfl
  have s1 := fun bx => s1 bx []
  simp only [List.map_nil, List.append_nil] at s1
  refine ans_frzBE h.toOk (fc := fc80) rfl rfl rfl rfl ⟨o', ?_⟩
  generalize c.tok a = t at *
  by_cases ho' : (100 : Int) ≤ (o : Int)
  · apply Exists.intro
    conv => lhs; simp [fc80, evKC, evK, evGuard, put, Env.get, Env.keep, entry, Opd.ev, splice, cutAt, indexD, D.asInt?, D.asNat?, u8, binD, strBin, unD, boundsD, sliceD, iaddrD, sub, minmaxD, eqvL, PD.eqv, clsP, cls, clsR, isCl, isW, apartRW, offB, apartWW, clash, insOk, finish, evRes, evRes1, mapO, D.cells, PD.cells, D.refsL, D.refs, D.toksL, D.toks, mkAgg, pures, fillD, fillE, appendD, srcD, D.elems?, D.asPD, Int.toNat_natCast, srcH, srcBH, eqD, D.asPDL, isMapC, ld_succ, ld_zero, st_succ, st_zero, oI, oS, oN, oP, oB, oL, oT, oF, oE, ldr0, ldr1, ldr2, ldr3, ldr4, ldr5, ldr6, str1', str3', lk, ho', h0', hw, s1]
  · apply Exists.intro
    conv => lhs; simp [fc80, evKC, evK, evGuard, put, Env.get, Env.keep, entry, Opd.ev, splice, cutAt, indexD, D.asInt?, D.asNat?, u8, binD, strBin, unD, boundsD, sliceD, iaddrD, sub, minmaxD, eqvL, PD.eqv, clsP, cls, clsR, isCl, isW, apartRW, offB, apartWW, clash, insOk, finish, evRes, evRes1, mapO, D.cells, PD.cells, D.refsL, D.refs, D.toksL, D.toks, mkAgg, pures, fillD, fillE, appendD, srcD, D.elems?, D.asPD, Int.toNat_natCast, srcH, srcBH, eqD, D.asPDL, isMapC, ld_succ, ld_zero, st_succ, st_zero, oI, oS, oN, oP, oB, oL, oT, oF, oE, ldr0, ldr1, ldr2, ldr3, ldr4, ldr5, ldr6, str1', str3', lk, ho', h0', hw, s1]
theorem parse_eq {prs : Nat → Nat → PR Nd} (ho : o < 100) (hp : PrsOk c (o + 1) prs) : Ans 80 [.int .i64 lev] c a o (fun x : Nd => .p x.pd) ((operandP c prs a).bind fun x a => opsP c prs lev (c.ts.length + 1) false x a) := by
  have hn := h.n
  have lk := fun bx => look_at h.toOk a o (by omega) bx []
  simp only [rH, List.append_nil] at lk
  have hw := addw1 (a := o) (by omega)
  have hwo : IntKind.i64.wrap (o : Int) = (o : Int) := wrap64 (by omega) (by omega)
  have ho' : ¬ (100 : Int) ≤ (o : Int) := by omega
  have s1 := operand_eq h hp a ha
  cases r1 : operandP c prs a with
  | bad e q a1 =>
    obtain ⟨o', s1⟩ := s1.badT r1
    have s1 := fun bx => s1 bx []
    simp only [List.map_nil, List.append_nil] at s1
    refine ans_frzBE h.toOk (fc := fc80) rfl rfl rfl rfl ⟨o', ?_⟩
    apply Exists.intro
    conv => lhs; simp [fc80, evKC, evK, evGuard, put, Env.get, Env.keep, entry, Opd.ev, splice, cutAt, indexD, D.asInt?, D.asNat?, u8, binD, strBin, unD, boundsD, sliceD, iaddrD, sub, minmaxD, eqvL, PD.eqv, clsP, cls, clsR, isCl, isW, apartRW, offB, apartWW, clash, insOk, finish, evRes, evRes1, mapO, D.cells, PD.cells, D.refsL, D.refs, D.toksL, D.toks, mkAgg, pures, fillD, fillE, appendD, srcD, D.elems?, D.asPD, Int.toNat_natCast, srcH, srcBH, eqD, D.asPDL, isMapC, ld_succ, ld_zero, st_succ, st_zero, oI, oS, oN, oP, oB, oL, oT, oF, oE, ldr0, ldr1, ldr2, ldr3, ldr4, ldr5, ldr6, str1', str3', lk, ho', hw, s1]
  | ok x a1 =>
    have s1 := fun bx => s1.okT r1 bx []
    have hkx := pone_kids x
    have hb1 := operand_bd hp ha r1
    simp only [List.map_nil, List.append_nil, pd_cells x, Nd.cells] at s1
    simp only [bind_ok]
    have hL := ops_loop h hp lev zN0 (c.ts.length + 1) a1 false x hb1.2 (by omega)
    cases r2 : opsP c prs lev (c.ts.length + 1) false x a1 with
    | bad e q a2 =>
      rw [r2] at hL
      obtain ⟨env, o', cmp, x', hL⟩ := hL
      simp only [paS, paB, zN0, List.map_cons, List.map_nil, Nd.cells] at hL
      refine ans_frzBE h.toOk (fc := fc80) rfl rfl rfl rfl ⟨o', ?_⟩
      apply Exists.intro
      conv => lhs; simp [fc80, evKC, evK, evGuard, put, Env.get, Env.keep, entry, Opd.ev, splice, cutAt, indexD, D.asInt?, D.asNat?, u8, binD, strBin, unD, boundsD, sliceD, iaddrD, sub, minmaxD, eqvL, PD.eqv, clsP, cls, clsR, isCl, isW, apartRW, offB, apartWW, clash, insOk, finish, evRes, evRes1, mapO, D.cells, PD.cells, D.refsL, D.refs, D.toksL, D.toks, mkAgg, pures, fillD, fillE, appendD, srcD, D.elems?, D.asPD, Int.toNat_natCast, srcH, srcBH, eqD, D.asPDL, isMapC, ld_succ, ld_zero, st_succ, st_zero, oI, oS, oN, oP, oB, oL, oT, oF, oE, ldr0, ldr1, ldr2, ldr3, ldr4, ldr5, ldr6, str1', str3', lk, ho', hw, s1, hkx, hL]
    | ok n a2 =>
      rw [r2] at hL
      obtain ⟨_, hb2, env, cmp, hL, g0, g4, g5⟩ := hL
      have hkn := pone_kids n
      simp only [paS, paB, zN0, List.map_cons, List.map_nil, Nd.cells] at hL
      refine ans_frzE h.toOk (fc := fc80) rfl rfl rfl rfl ?_
      apply Exists.intro
      rw [pd_cells n, Nd.cells]
      conv => lhs; simp [fc80, evKC, evK, evGuard, put, Env.get, Env.keep, entry, Opd.ev, splice, cutAt, indexD, D.asInt?, D.asNat?, u8, binD, strBin, unD, boundsD, sliceD, iaddrD, sub, minmaxD, eqvL, PD.eqv, clsP, cls, clsR, isCl, isW, apartRW, offB, apartWW, clash, insOk, finish, evRes, evRes1, mapO, D.cells, PD.cells, D.refsL, D.refs, D.toksL, D.toks, mkAgg, pures, fillD, fillE, appendD, srcD, D.elems?, D.asPD, Int.toNat_natCast, srcH, srcBH, eqD, D.asPDL, isMapC, ld_succ, ld_zero, st_succ, st_zero, oI, oS, oN, oP, oB, oL, oT, oF, oE, ldr0, ldr1, ldr2, ldr3, ldr4, ldr5, ldr6, str1', str3', lk, ho', hw, hwo, s1, hkx, hkn, hL, g0, g4, g5, str3]
end
theorem parse_bd {c : Rd} {o : Nat} {prs : Nat → Nat → PR Nd} (h : c.Sz) (hp : PrsOk c o prs) (lev : Nat) {a : Nat} (ha : a ≤ c.ts.length) {n : Nd} {a' : Nat} (r : ((operandP c prs a).bind fun x a => opsP c prs lev (c.ts.length + 1) false x a) = .ok n a') : a < a' ∧ a' ≤ c.ts.length := by
  obtain ⟨x, b, h1, h2⟩ := bind_inv r
  have g1 := operand_bd hp ha h1
  have hL := ops_loop h hp lev [] (c.ts.length + 1) b false x g1.2 (by omega)
  rw [h2] at hL
  obtain ⟨k1, k2, _⟩ := hL
  omega
theorem wrongP_bad {α : Type} {c : Rd} {a : Nat} {x : α} {a' : Nat} : (wrongP c a : PR α) ≠ .ok x a' := by
  unfold wrongP
  intro h
  cases h
theorem parseP_one {c : Rd} (h : c.Sz) (lev a : Nat) : parseP c 1 lev a = if (c.tok a).k ≠ 0 then .bad 2 (c.tok a).p a else wrongP c a := by
  unfold parseP
  by_cases h0 : (c.tok a).k = 0
  · rw [if_neg (fun q => q.2 h0), if_neg (fun q => q h0), operandP_end h _ h0]
    rfl
  · rw [if_pos ⟨rfl, h0⟩, if_pos h0]
theorem parseP_succ (c : Rd) (d lev a : Nat) : parseP c (d + 2) lev a = (operandP c (parseP c (d + 1)) a).bind fun x a => opsP c (parseP c (d + 1)) lev (c.ts.length + 1) false x a := by
  show (if d + 1 = 0 ∧ _ then _ else _) = _
  rw [if_neg (fun q => by omega)]
theorem prs_ok {c : Rd} (h : c.Sz) : ∀ d, d ≤ 100 → PrsOk c (100 - d) (parseP c (d + 1)) := by
  intro d
  induction d with
  | zero =>
    intro _
    refine ⟨fun lev a ha _ => ?_, fun lev a ha x a' hr => ?_, fun lev a x a' ha hr => ?_⟩
    · rw [parseP_one h]
      by_cases h0 : (c.tok a).k = 0
      · rw [if_neg (fun q => q h0)]
        exact parse_end h lev a ha (by omega) h0
      · rw [if_pos h0]
        exact parse_lim h lev a ha (by omega) h0
    all_goals
      rw [parseP_one h] at hr
      split at hr
      · cases hr
      · exact absurd hr wrongP_bad
  | succ d ih =>
    intro hd
    have hp := ih (by omega)
    have e : 100 - d = 100 - (d + 1) + 1 := by omega
    rw [e] at hp
    refine ⟨fun lev a ha _ => ?_, fun lev a ha x a' hr => ?_, fun lev a x a' ha hr => ?_⟩
    · rw [parseP_succ]
      exact parse_eq h lev a ha (by omega) hp
    · rw [parseP_succ] at hr
      exact (parse_bd h hp lev ha hr).2
    · rw [parseP_succ] at hr
      exact (parse_bd h hp lev ha hr).1

end Go.Proofs.YtalgjkpkkdljaaaGreatDoor

namespace Go.Proofs.YtalgjkpkkdljaaaGreatDoor
open Go.Vs
def SzP (prs : Nat → Nat → PR Nd) : Prop := ∀ lev a x a', prs lev a = .ok x a' → x.size + 2 * a ≤ 2 * a'
theorem size_kids (op : Int) (nm : List UInt8) (ks : List Nd) (p : Nat) : (kidsN op nm ks p).size = 1 + Nd.sizeL ks := by simp [kidsN, Nd.size]
theorem size_leaf (op : Int) (nm : List UInt8) (n : Int) (p : Nat) : (leafN op nm n p).size = 1 := rfl
theorem size_call (nm : List UInt8) (ks : List Nd) (p : Nat) : (callN nm ks p).size = 1 + Nd.sizeL ks := by simp [callN, Nd.size]
theorem sizeL_two (x y : Nd) : Nd.sizeL [x, y] = x.size + y.size := by simp [Nd.sizeL]
theorem sizeL_one (x : Nd) : Nd.sizeL [x] = x.size := by simp [Nd.sizeL]
theorem sizeL_app : ∀ (ks : List Nd) (x : Nd), Nd.sizeL (ks ++ [x]) = Nd.sizeL ks + x.size
  | [], x => by simp [Nd.sizeL]
  | k :: ks, x => by
    have := sizeL_app ks x
    simp only [List.cons_append, Nd.sizeL, this]; omega

section
variable {c : Rd} {prs : Nat → Nat → PR Nd} (hs : SzP prs)
include hs
theorem quant_sz {op : Int} {p a : Nat} {x : Nd} {a' : Nat} (h : quantP c prs op p a = .ok x a') : x.size + 2 * a ≤ 2 * a' := by
  obtain ⟨e, a3, f, n1, n2, h3, n4, h5, rfl, _⟩ := quant_inv h
  have g1 := hs _ _ _ _ h3
  have g2 := hs _ _ _ _ h5
  rw [size_kids, sizeL_two]
  omega
theorem argsL_sz : ∀ (n a : Nat) (ks ks' : List Nd) (a' : Nat), argsL c prs n ks a = .ok ks' a' → Nd.sizeL ks' + 2 * a ≤ Nd.sizeL ks + 2 * a'
  | 0, a, ks, ks', a', h => by cases h; omega
  | n + 1, a, ks, ks', a', h => by
    unfold argsL at h
    split at h
    · cases h; omega
    · obtain ⟨u, b, h1, h⟩ := bind_inv h
      obtain ⟨x, b2, h2, h⟩ := bind_inv h
      have g2 := hs _ _ _ _ h2
      have g4 := argsL_sz n b2 _ _ _ h
      have g5 : a ≤ b := by
        unfold sepP at h1
        split at h1
        · cases h1; omega
        · have := (expect_inv h1).1; omega
      rw [sizeL_app] at g4
      omega
theorem primary_sz {t : Tok} {a : Nat} {n : Nd} {a' : Nat} (h : primaryP c prs t a = .ok n a') : n.size + 2 * a ≤ 2 * a' := by
  unfold primaryP at h
  split at h
  · cases h; rw [size_leaf]; omega
  · split at h
    · obtain ⟨m, b, h1, h⟩ := bind_inv h
      obtain ⟨h3, rfl⟩ := number_bd h1
      cases h; rw [size_leaf]; omega
    · split at h
      · obtain ⟨m, b, h1, h⟩ := bind_inv h
        obtain ⟨h3, rfl⟩ := number_bd h1
        cases h; rw [size_leaf]; omega
      · split at h
        · cases h
        · split at h
          · unfold noneP at h
            split at h
            · split at h
              · obtain ⟨n, b, h1, h⟩ := bind_inv h
                obtain ⟨u, b2, h2, h⟩ := bind_inv h
                obtain ⟨h3, rfl⟩ := number_bd h1
                obtain ⟨rfl, h4⟩ := expect_inv h2
                cases h; rw [size_leaf]; omega
              · cases h
            · cases h; rw [size_leaf]; omega
          · split at h
            · obtain ⟨m, b, h1, h⟩ := bind_inv h
              obtain ⟨u, b2, h2, h⟩ := bind_inv h
              have g := quant_sz hs h1
              obtain ⟨rfl, h4⟩ := expect_inv h2
              cases h; omega
            · split at h
              · obtain ⟨m, b, h1, h⟩ := bind_inv h
                obtain ⟨u, b2, h2, h⟩ := bind_inv h
                have g := hs _ _ _ _ h1
                obtain ⟨rfl, h4⟩ := expect_inv h2
                cases h; omega
              · obtain ⟨m, b, h1, h⟩ := bind_inv h
                obtain ⟨rfl, h5, h6⟩ := name_inv h1
                split at h
                · rw [argsP_argsL] at h
                  obtain ⟨ks, b, h2, h⟩ := bind_inv h
                  have g2 := argsL_sz hs _ _ _ _ _ h2
                  obtain ⟨rfl, rfl, _⟩ := node_inv h
                  rw [size_call]
                  simp only [Nd.sizeL] at g2
                  omega
                · cases h; rw [size_leaf]; omega

omit hs in
theorem primes_sz : ∀ (m : Nat) (n : Nd) (a : Nat) (n' : Nd) (a' : Nat), primesP c m n a = .ok n' a' → n'.size + 2 * a ≤ n.size + 2 * a'
  | 0, n, a, n', a', h => by cases h; omega
  | m + 1, n, a, n', a', h => by
    unfold primesP at h
    split at h
    · obtain ⟨x, b, h1, h⟩ := bind_inv h
      obtain ⟨rfl, rfl, _⟩ := node_inv h1
      have := primes_sz m _ _ n' a' h
      rw [size_kids, sizeL_one] at this
      omega
    · cases h; omega
theorem operand_sz {a : Nat} {n : Nd} {a' : Nat} (h : operandP c prs a = .ok n a') : n.size + 2 * a ≤ 2 * a' := by
  have key : ∀ {n : Nd} {a' : Nat}, ((primaryP c prs (c.tok a) a).bind fun n a => primesP c (c.ts.length + 1) n a) = .ok n a' → n.size + 2 * a ≤ 2 * a' := by
    intro n a' h
    obtain ⟨x, b, h1, h⟩ := bind_inv h
    have g1 := primary_sz hs h1
    have g2 := primes_sz _ _ _ _ _ h
    omega
  unfold operandP at h
  dsimp only at h
  split at h
  · have := quant_sz hs h; omega
  · split at h
    · have := quant_sz hs h; omega
    · split at h
      · split at h
        · obtain ⟨x, b, h1, h⟩ := bind_inv h
          have g1 := hs _ _ _ _ h1
          obtain ⟨rfl, rfl, _⟩ := node_inv h
          rw [size_kids, sizeL_one]
          omega
        · exact key h
      · exact key h

omit hs in
theorem joined_sz {t : Tok} {b : Bin} {x y : Nd} {a : Nat} {n : Nd} {a' : Nat} (h : joinedP t b x y a = .ok n a') : n.size ≤ x.size + y.size + 2 ∧ a' = a := by
  unfold joinedP at h
  split at h
  · cases h
  · obtain ⟨m, b2, h1, h2⟩ := bind_inv h
    cases h2
    obtain ⟨rfl, rfl, _⟩ := node_inv h1
    refine ⟨?_, rfl⟩
    have e : Nd.sizeL (if t.t = [60, 61] then [y, x] else [x, y]) = x.size + y.size := by
      split
      · rw [sizeL_two]; omega
      · rw [sizeL_two]
    split
    · rw [size_kids, sizeL_one, size_kids, e]; omega
    · rw [size_kids, e]; omega
theorem ops_sz {lev : Nat} : ∀ (m : Nat) (cmp : Bool) (x : Nd) (a : Nat) (n : Nd) (a' : Nat), opsP c prs lev m cmp x a = .ok n a' → n.size + 2 * a ≤ x.size + 2 * a'
  | 0, cmp, x, a, n, a', h => by cases h; omega
  | m + 1, cmp, x, a, n, a', h => by
    unfold opsP at h
    dsimp only at h
    split at h
    · cases h; omega
    · split at h
      · cases h; omega
      · obtain ⟨y, b, h1, h3⟩ := bind_inv h
        obtain ⟨z, b2, h2, h4⟩ := bind_inv h3
        have g1 := hs _ _ _ _ h1
        have g2 := joined_sz h2
        have g3 := ops_sz m _ _ _ _ _ h4
        omega
end
theorem parseP_sz (c : Rd) : ∀ d, SzP (parseP c d)
  | 0 => fun lev a x a' h => absurd h wrongP_bad
  | d + 1 => fun lev a x a' h => by
    unfold parseP at h
    split at h
    · cases h
    · obtain ⟨y, b, h1, h2⟩ := bind_inv h
      have g1 := operand_sz (parseP_sz c d) h1
      have g2 := ops_sz (parseP_sz c d) _ _ _ _ _ _ h2
      omega
def AnsC {α : Type} (g : Nat) (args : List PD) (c : Rd) (a o : Nat) (f : α → D) : PR α → Prop
  | .ok x a' => ∃ ex et, call pg g (.box 0 0 :: args.map .p) (rH c a o [] []) = some (.val (f x), rH c a' o ex et)
  | .bad e p a' => ∃ o' ex et, call pg g (.box 0 0 :: args.map .p) (rH c a o [] []) = some (.pan (faultD e p), rH c a' o' ex et)
theorem AnsC.ans {α : Type} {g : Nat} {args : List PD} {c : Rd} (hc : c.Ok) {a o : Nat} {f : α → D} (hf : ∀ x bi ti, (f x).ren bi ti = some (f x)) {r : PR α} (h : AnsC g args c a o f r) : Ans g args c a o f r := by
  cases r with
  | ok x a' => exact ans_ok hc (hf x) h
  | bad e p a' => exact ans_bad hc h
theorem ansC_ok {g : Nat} {args : List PD} {c : Rd} (hc : c.Ok) {a o : Nat} {fc : FC} (hl : pgL g (.box 0 0 :: args.map .p) (rH c a o [] []) = none) (hf : pgF g = some fc) (hn : args.length + 1 = fc.np) (hz : fc.frozen = true)
    {x : Nd} {a' : Nat}
    (e : ∃ ex, finish pg.G fc.res (evS (call pg) pg.G iterX fc.body ⟨entry 0 (.box 0 0 :: args.map .p), ⟨rC c a o :: tabB :: tabU :: tabS :: [], c.tk⟩⟩) = some (.val (.p x.pd), ⟨rC c a' o :: tabB :: tabU :: tabS :: ex, c.tk⟩)) :
    AnsC g args c a o (fun x : Nd => .p x.pd) (.ok x a') := by
  obtain ⟨ex, e⟩ := e
  have e' : finish pg.G fc.res (evS (call pg) pg.G iterX fc.body ⟨entry 0 (.box 0 0 :: args.map .p), rH c a o [] []⟩) = some (.val (.p x.pd), rH c a' o ex []) := by simpa only [rH, List.append_nil] using e
  exact ⟨[], [], call_frz hl hf (by simpa using hn) hz e' (seal_rd hc rfl)⟩
theorem ansC_bad {g : Nat} {args : List PD} {c : Rd} (hc : c.Ok) {a o : Nat} {fc : FC} (hl : pgL g (.box 0 0 :: args.map .p) (rH c a o [] []) = none) (hf : pgF g = some fc) (hn : args.length + 1 = fc.np) (hz : fc.frozen = true)
    {α : Type} {f : α → D} {er : Int} {p a' : Nat}
    (e : ∃ o' ex, finish pg.G fc.res (evS (call pg) pg.G iterX fc.body ⟨entry 0 (.box 0 0 :: args.map .p), ⟨rC c a o :: tabB :: tabU :: tabS :: [], c.tk⟩⟩) = some (.pan (faultD er p), ⟨rC c a' o' :: tabB :: tabU :: tabS :: ex, c.tk⟩)) :
    AnsC g args c a o f (.bad er p a') := by
  obtain ⟨o', ex, e⟩ := e
  have e' : finish pg.G fc.res (evS (call pg) pg.G iterX fc.body ⟨entry 0 (.box 0 0 :: args.map .p), rH c a o [] []⟩) = some (.pan (faultD er p), rH c a' o' ex []) := by simpa only [rH, List.append_nil] using e
  exact ⟨o', [], [], call_frz hl hf (by simpa using hn) hz e' (seal_bad hc)⟩
theorem whole_eq {c : Rd} (h : c.Sz) (a : Nat) (ha : a ≤ c.ts.length) : AnsC 48 [] c a 0 (fun x : Nd => .p x.pd) (wholeP c a) := by
  have hn := h.n
  have lk := fun bx => look_at h.toOk a 0 (by omega) bx []
  simp only [rH, List.append_nil] at lk
  have hp : PrsOk c 0 (parseP c 101) := prs_ok h 100 (by omega)
  have s1 := hp.ans 1 a ha (by omega)
  have e1 : ((1 : Nat) : Int) = 1 := rfl
  unfold wholeP
  cases r1 : parseP c 101 1 a with
  | bad e q a1 =>
    obtain ⟨o', s1⟩ := s1.badT r1
    have s1 := fun bx => s1 bx []
    simp only [List.map_cons, List.map_nil, List.append_nil, e1] at s1
    refine ansC_bad h.toOk (fc := fc48) rfl rfl rfl rfl ⟨o', ?_⟩
    apply Exists.intro
    conv => lhs; simp [fc48, evKC, evK, evGuard, put, Env.get, Env.keep, entry, Opd.ev, splice, cutAt, indexD, D.asInt?, D.asNat?, u8, binD, strBin, unD, boundsD, sliceD, iaddrD, sub, minmaxD, eqvL, PD.eqv, clsP, cls, clsR, isCl, isW, apartRW, offB, apartWW, clash, insOk, finish, evRes, evRes1, mapO, D.cells, PD.cells, D.refsL, D.refs, D.toksL, D.toks, mkAgg, pures, fillD, fillE, appendD, srcD, D.elems?, D.asPD, Int.toNat_natCast, srcH, srcBH, eqD, D.asPDL, isMapC, ld_succ, ld_zero, st_succ, st_zero, oI, oS, oN, oP, oB, oL, oT, oF, oE, ldr0, ldr1, ldr2, ldr3, ldr4, ldr5, ldr6, str1', str3', lk, s1]
  | ok x a1 =>
    have s1 := fun bx => s1.okT r1 bx []
    have hkx := pone_kids x
    have hb1 := hp.bd 1 a ha x a1 r1
    have hsz := parseP_sz c 101 1 a x a1 r1
    have hv := valid_eq (a := x) (by omega)
    have ki := kind_eq x.op
    simp only [List.map_cons, List.map_nil, List.append_nil, pd_cells x, Nd.cells, e1] at s1 hv
    simp only [bind_ok]
    generalize c.tok a = t at *
    by_cases hk : knd x.op = 3
    · have hk' : (knd x.op != 3) = false := by simp [hk]
      rw [if_neg (by simp [hk])]
      cases hvx : validN x with
      | true =>
        rw [hvx] at hv
        rw [if_neg (by simp)]
        refine ansC_ok h.toOk (fc := fc48) rfl rfl rfl rfl ?_
        apply Exists.intro
        rw [pd_cells x, Nd.cells]
        conv => lhs; simp [fc48, evKC, evK, evGuard, put, Env.get, Env.keep, entry, Opd.ev, splice, cutAt, indexD, D.asInt?, D.asNat?, u8, binD, strBin, unD, boundsD, sliceD, iaddrD, sub, minmaxD, eqvL, PD.eqv, clsP, cls, clsR, isCl, isW, apartRW, offB, apartWW, clash, insOk, finish, evRes, evRes1, mapO, D.cells, PD.cells, D.refsL, D.refs, D.toksL, D.toks, mkAgg, pures, fillD, fillE, appendD, srcD, D.elems?, D.asPD, Int.toNat_natCast, srcH, srcBH, eqD, D.asPDL, isMapC, ld_succ, ld_zero, st_succ, st_zero, oI, oS, oN, oP, oB, oL, oT, oF, oE, ldr0, ldr1, ldr2, ldr3, ldr4, ldr5, ldr6, str1', str3', lk, s1, ki, hk', hv, hkx]
      | false =>
        rw [hvx] at hv
        rw [if_pos rfl]
        refine ansC_bad h.toOk (fc := fc48) rfl rfl rfl rfl ⟨0, ?_⟩
        apply Exists.intro
        conv => lhs; simp [fc48, evKC, evK, evGuard, put, Env.get, Env.keep, entry, Opd.ev, splice, cutAt, indexD, D.asInt?, D.asNat?, u8, binD, strBin, unD, boundsD, sliceD, iaddrD, sub, minmaxD, eqvL, PD.eqv, clsP, cls, clsR, isCl, isW, apartRW, offB, apartWW, clash, insOk, finish, evRes, evRes1, mapO, D.cells, PD.cells, D.refsL, D.refs, D.toksL, D.toks, mkAgg, pures, fillD, fillE, appendD, srcD, D.elems?, D.asPD, Int.toNat_natCast, srcH, srcBH, eqD, D.asPDL, isMapC, ld_succ, ld_zero, st_succ, st_zero, oI, oS, oN, oP, oB, oL, oT, oF, oE, ldr0, ldr1, ldr2, ldr3, ldr4, ldr5, ldr6, str1', str3', lk, s1, ki, hk', hv, hkx, fail_eq]
    · have hk' : (knd x.op != 3) = true := by simp [hk]
      rw [if_pos hk]
      refine ansC_bad h.toOk (fc := fc48) rfl rfl rfl rfl ⟨0, ?_⟩
      apply Exists.intro
      conv => lhs; simp [fc48, evKC, evK, evGuard, put, Env.get, Env.keep, entry, Opd.ev, splice, cutAt, indexD, D.asInt?, D.asNat?, u8, binD, strBin, unD, boundsD, sliceD, iaddrD, sub, minmaxD, eqvL, PD.eqv, clsP, cls, clsR, isCl, isW, apartRW, offB, apartWW, clash, insOk, finish, evRes, evRes1, mapO, D.cells, PD.cells, D.refsL, D.refs, D.toksL, D.toks, mkAgg, pures, fillD, fillE, appendD, srcD, D.elems?, D.asPD, Int.toNat_natCast, srcH, srcBH, eqD, D.asPDL, isMapC, ld_succ, ld_zero, st_succ, st_zero, oI, oS, oN, oP, oB, oL, oT, oF, oE, ldr0, ldr1, ldr2, ldr3, ldr4, ldr5, ldr6, str1', str3', lk, s1, ki, hk', hkx, fail_eq]

end Go.Proofs.YtalgjkpkkdljaaaGreatDoor

namespace Go.Proofs.YtalgjkpkkdljaaaGreatDoor
open Go.Vs
def rM (c : Rd) (a o m1 m2 m3 : Nat) : List D := .p (slP 3 (c.l.map Tok.pd)) :: .p (.int .i64 a) :: .p (.int .i64 c.e) :: .p (.int .i64 o) :: .mapr m1 :: .mapr m2 :: .mapr m3 :: c.X
theorem rM_rC (c : Rd) (a o : Nat) : rM c a o 1 2 3 = rC c a o := rfl
theorem ren_rM {c : Rd} {bi ti : Nat → Option Nat} {m1 m2 m3 n1 n2 n3 : Nat} (h1 : bi m1 = some n1) (h2 : bi m2 = some n2) (h3 : bi m3 = some n3) (h : D.renL bi ti c.X = some c.X) (a o : Nat) : D.renL bi ti (rM c a o m1 m2 m3) = some (rM c a o n1 n2 n3) := by
  simp [rM, D.renL, D.ren, h1, h2, h3, h]
theorem refs_rM {c : Rd} (h : c.Ok) (a o m1 m2 m3 : Nat) : D.refsL (rM c a o m1 m2 m3) = [m1, m2, m3] := by
  simp [rM, D.refsL, D.refs, h.refs]
theorem toks_rM (c : Rd) (a o m1 m2 m3 : Nat) : D.toksL (rM c a o m1 m2 m3) = D.toksL c.X := by
  simp [rM, D.toksL, D.toks]
theorem set_noop {α : Type} {l : List α} {i : Nat} {x : α} (h : l[i]? = some x) : l.set i x = l := by
  apply List.ext_getElem?
  intro j
  by_cases hj : i = j
  · subst hj
    rw [List.getElem?_set_self (List.getElem?_eq_some_iff.1 h).1, h]
  · rw [List.getElem?_set_ne hj]
theorem nd4 {i m1 m2 m3 : Nat} (h : Vs.nodupB [i, m1, m2, m3] = true) : i ≠ m1 ∧ i ≠ m2 ∧ i ≠ m3 ∧ m1 ≠ m2 ∧ m1 ≠ m3 ∧ m2 ≠ m3 := by
  simp [Vs.nodupB] at h
  omega
theorem callD_rM {g : Nat} {args : List PD} {c c' : Rd} (hc : c.Ok) (hc' : c'.Ok) (ht : c'.tk.length = c.tk.length) {a o a' o' i m1 m2 m3 : Nat} {H : Hp} {t : List Nat}
    (hn : Vs.nodupB [i, m1, m2, m3] = true) (hi : H.bx[i]? = some (rM c a o m1 m2 m3)) (g1 : H.bx[m1]? = some tabB) (g2 : H.bx[m2]? = some tabU) (g3 : H.bx[m3]? = some tabS) (hT : H.tk = c.tk ++ t)
    {r : Res} {ex : List (List D)} {et : List Nat} (hd : ∀ bi ti, r.ren bi ti = some r) (h : call pg g (.box 0 0 :: args.map .p) (rH c a o [] []) = some (r, rH c' a' o' ex et)) :
    callD (call pg) g (.box i 0 :: args.map .p) H = some (r, ⟨H.bx.set i (rM c' a' o' m1 m2 m3), c'.tk ++ t⟩) := by
  obtain ⟨n1, n2, n3, n4, n5, n6⟩ := nd4 hn
  have z0 : D.refsL (D.box i 0 :: args.map .p) = [i] := by simp [D.refsL, D.refs]
  have z1 : D.toksL (D.box i 0 :: args.map .p) = [] := by
    have : ∀ l : List PD, D.toksL (l.map .p) = [] := fun l => by induction l with | nil => rfl | cons x l ih => simp [D.toksL, D.toks, ih]
    simp [D.toksL, D.toks, this]
  have i1 : ins [] (D.refsL (D.box i 0 :: args.map .p)) = [i] := by rw [z0]; rfl
  have r0 : boxRefs H [i] = [m1, m2, m3] := by simp only [boxRefs, hi, refs_rM hc, List.append_nil]
  have rt : ∀ {m : Nat} {T : List D}, H.bx[m]? = some T → D.refsL T = [] → boxRefs H [m] = [] := fun {m T} h1 h2 => by simp only [boxRefs, h1, h2, List.append_nil]
  have r1 : boxRefs H [i, m1, m2, m3] = [m1, m2, m3] := by
    simp only [boxRefs, hi, g1, g2, g3, refs_rM hc, List.append_nil]
    rfl
  have q1 : ins [i] [m1, m2, m3] = [i, m1, m2, m3] := by
    simp [ins, Ne.symm n1, Ne.symm n2, Ne.symm n3, Ne.symm n4, Ne.symm n5, Ne.symm n6]
  have q2 : ins [i, m1, m2, m3] [m1, m2, m3] = [i, m1, m2, m3] := by simp [ins]
  have fx : ∀ n, reach H n [i, m1, m2, m3] = [i, m1, m2, m3] := fun n => by
    induction n with
    | zero => rfl
    | succ n ih => simp only [reach, r1, q2, ih]
  have l1 := (List.getElem?_eq_some_iff.1 hi).1
  have l2 := (List.getElem?_eq_some_iff.1 g1).1
  have e7 : reach H H.bx.length [i] = [i, m1, m2, m3] := by
    obtain ⟨n, hn'⟩ : ∃ n, H.bx.length = n + 1 := ⟨H.bx.length - 1, by omega⟩
    rw [hn']
    simp only [reach, r0, q1, fx]
  have e3 : boxToks H [i, m1, m2, m3] = D.toksL c.X := by
    simp only [boxToks, hi, g1, g2, g3, toks_rM, List.append_nil]
    exact List.append_nil _
  have x1 : idx [i, m1, m2, m3] i = some 0 := by simp [idx]
  have x2 : idx [i, m1, m2, m3] m1 = some 1 := by simp [idx, n1]
  have x3 : idx [i, m1, m2, m3] m2 = some 2 := by simp [idx, n2, n4]
  have x4 : idx [i, m1, m2, m3] m3 = some 3 := by simp [idx, n3, n5, n6]
  have e4 : D.renL (idx [i, m1, m2, m3]) (idx (List.range c.tk.length)) (D.box i 0 :: args.map .p) = some (.box 0 0 :: args.map .p) := by
    have : ∀ (f g : Nat → Option Nat) (l : List PD), D.renL f g (l.map .p) = some (l.map .p) := fun f g l => by induction l with | nil => rfl | cons x l ih => simp [D.renL, D.ren, ih]
    simp only [D.renL, D.ren, x1, this, Option.map_some]
  have e5 : mapO (fun j => match H.bx[j]? with | some cs => D.renL (idx [i, m1, m2, m3]) (idx (List.range c.tk.length)) cs | none => none) [i, m1, m2, m3] = some [rC c a o, tabB, tabU, tabS] := by
    simp only [mapO, hi, g1, g2, g3, ren_rM (c := c) (bi := idx [i, m1, m2, m3]) x2 x3 x4 (hc.ren _)]
    rfl
  have e6 : mapO (fun j => H.tk[j]?) (List.range c.tk.length) = some c.tk := by rw [hT]; exact mapO_range
  have n1' : (Vs.nodupB [i, m1, m2, m3] && Vs.nodupB (List.range c.tk.length)) = true := by rw [nodup_range, hn]; rfl
  have h' : call pg g (.box 0 0 :: args.map .p) ⟨[rC c a o, tabB, tabU, tabS], c.tk⟩ = some (r, rH c' a' o' ex et) := by
    have : rH c a o [] [] = ⟨[rC c a o, tabB, tabU, tabS], c.tk⟩ := by simp [rH]
    rw [← this]; exact h
  have e8 : back [i, m1, m2, m3] (List.range c.tk.length) H r (rH c' a' o' ex et) = some (r, ⟨H.bx.set i (rM c' a' o' m1 m2 m3), c'.tk ++ t⟩) := by
    have k1 : firstN (rH c' a' o' ex et).bx 4 = some [rC c' a' o', tabB, tabU, tabS] := by simp [firstN, rH]
    have k2 : firstN (rH c' a' o' ex et).tk (List.range c.tk.length).length = some c'.tk := by
      simp only [firstN, rH, List.length_range, List.length_append, ht, Nat.le_add_right, if_true]
      rw [← ht, List.take_left]
    have hb := hc'.back (fun j => [i, m1, m2, m3][j]?)
    rw [ht] at hb
    have k3 : mapO (D.renL (fun j => [i, m1, m2, m3][j]?) (fun t => (List.range c.tk.length)[t]?)) [rC c' a' o', tabB, tabU, tabS] = some [rM c' a' o' m1 m2 m3, tabB, tabU, tabS] := by
      have kk : D.renL (fun j => [i, m1, m2, m3][j]?) (fun t => (List.range c.tk.length)[t]?) (rC c' a' o') = some (rM c' a' o' m1 m2 m3) := by
        rw [← rM_rC]
        exact ren_rM (c := c') (bi := fun j => [i, m1, m2, m3][j]?) (ti := fun t => (List.range c.tk.length)[t]?) (m1 := 1) (m2 := 2) (m3 := 3) (n1 := m1) (n2 := m2) (n3 := m3) rfl rfl rfl hb a' o'
      simp only [mapO, kk]
      rfl
    simp only [back, List.length_cons, List.length_nil, k1, k2, k3, hd]
    have p1 : putAll H.bx [i, m1, m2, m3] [rM c' a' o' m1 m2 m3, tabB, tabU, tabS] = H.bx.set i (rM c' a' o' m1 m2 m3) := by
      simp only [putAll]
      have w1 : (H.bx.set i (rM c' a' o' m1 m2 m3))[m1]? = some tabB := by rw [List.getElem?_set_ne n1]; exact g1
      have w2 : (H.bx.set i (rM c' a' o' m1 m2 m3))[m2]? = some tabU := by rw [List.getElem?_set_ne n2]; exact g2
      have w3 : (H.bx.set i (rM c' a' o' m1 m2 m3))[m3]? = some tabS := by rw [List.getElem?_set_ne n3]; exact g3
      rw [set_noop w1, set_noop w2, set_noop w3]
    have p2 : putAll H.tk (List.range c.tk.length) c'.tk = c'.tk ++ t := by rw [hT]; exact putAll_range c'.tk t c.tk ht.symm
    rw [p1, p2]
  have i2 : ins [] (D.toksL c.X) = List.range c.tk.length := hc.toks
  simp only [callD, i1, e7, z1, List.nil_append, e3, i2, n1', if_true, e4, e6]
  erw [e5]
  simp only [h', e8]
theorem AnsC.ok_at {α : Type} {g : Nat} {args : List PD} {c : Rd} (hc : c.Ok) {a o : Nat} {f : α → D} (hf : ∀ x bi ti, (f x).ren bi ti = some (f x)) {r : PR α} {x : α} {a' : Nat} (h : AnsC g args c a o f r) (e : r = .ok x a') {i m1 m2 m3 : Nat} {H : Hp} {t : List Nat}
    (hn : Vs.nodupB [i, m1, m2, m3] = true) (hi : H.bx[i]? = some (rM c a o m1 m2 m3)) (g1 : H.bx[m1]? = some tabB) (g2 : H.bx[m2]? = some tabU) (g3 : H.bx[m3]? = some tabS) (hT : H.tk = c.tk ++ t) :
    callD (call pg) g (.box i 0 :: args.map .p) H = some (.val (f x), ⟨H.bx.set i (rM c a' o m1 m2 m3), H.tk⟩) := by
  subst e
  obtain ⟨ex, et, h⟩ := h
  rw [hT]
  exact callD_rM hc hc rfl hn hi g1 g2 g3 hT (fun bi ti => by simp [Res.ren, hf]) h
theorem AnsC.bad_at {α : Type} {g : Nat} {args : List PD} {c : Rd} (hc : c.Ok) {a o : Nat} {f : α → D} {r : PR α} {er : Int} {p a' : Nat} (h : AnsC g args c a o f r) (e : r = .bad er p a') :
    ∃ o', ∀ {i m1 m2 m3 : Nat} {H : Hp} {t : List Nat}, Vs.nodupB [i, m1, m2, m3] = true → H.bx[i]? = some (rM c a o m1 m2 m3) → H.bx[m1]? = some tabB → H.bx[m2]? = some tabU → H.bx[m3]? = some tabS → H.tk = c.tk ++ t →
    callD (call pg) g (.box i 0 :: args.map .p) H = some (.pan (faultD er p), ⟨H.bx.set i (rM c a' o' m1 m2 m3), H.tk⟩) := by
  subst e
  obtain ⟨o', ex, et, h⟩ := h
  refine ⟨o', fun {i m1 m2 m3 H t} hn hi g1 g2 g3 hT => ?_⟩
  rw [hT]
  exact callD_rM hc hc rfl hn hi g1 g2 g3 hT (fun bi ti => rfl) h
theorem wrong_ansC {c : Rd} (h : c.Sz) (a o : Nat) (hs : a ≤ 4000000) : AnsC 49 [] c a o (fun _ : Unit => .undef) (wrongP c a) := by
  have lk := fun bx => look_at h.toOk a o hs bx []
  have h0 := tok_k0 h (a := a)
  refine ⟨o, [[.p (.int .i64 (c.tok a).k), .p (.str (c.tok a).t), .p (.int .i64 (c.tok a).p)]], [], call_body (fc := fc49) rfl rfl rfl rfl ?_⟩
  simp only [rH, List.append_nil, List.map_nil] at lk ⊢
  generalize c.tok a = x at *
  by_cases hk : x.k = 0
  · simp [fc49, evKC, evK, put, Env.get, Env.keep, entry, Opd.ev, storeD, splice, binD, finish, D.cells, D.one, PD.one, isMapC, lk, hk, ldr2, ld40, fail_eq, h0 hk]
  · have hk' : (x.k == 0) = false := by simp [hk]
    simp [fc49, evKC, evK, put, Env.get, Env.keep, entry, Opd.ev, storeD, splice, binD, finish, D.cells, D.one, PD.one, isMapC, lk, hk, hk', ld40, ld42, fail_eq]

end Go.Proofs.YtalgjkpkkdljaaaGreatDoor

namespace Go.Proofs.YtalgjkpkkdljaaaGreatDoor.Lx
open Go.Vs
theorem lexLoop_len (s : List UInt8) : ∀ (n i : Nat) (acc : List Tok), i ≤ s.length → acc.length ≤ i → (lexLoop s n i acc).1.length ≤ s.length
  | 0, i, acc, h, k => by simp only [lexLoop]; omega
  | n + 1, i, acc, h, k => by
    simp only [lexLoop]
    split
    · rename_i hi
      split
      · rename_i hok
        have hpos := tok_pos hi hok
        have hend := tok_end h
        have := skipTo_le hend
        exact lexLoop_len s n _ _ this.2 (by simp; omega)
      · simp
    · simp only; omega
theorem lex_len (s : List UInt8) : (lex s).1.length ≤ s.length := by
  unfold lex
  split
  · simp
  · exact lexLoop_len s _ _ _ (skipTo_le (Nat.zero_le _)).2 (by simp)
theorem lexLoop_mem (s : List UInt8) : ∀ (n i : Nat) (acc : List Tok) (t : Tok), t ∈ (lexLoop s n i acc).1 → t ∈ acc ∨ ∃ j, j < s.length ∧ t = (tokAt s j).1 ∧ (tokAt s j).2 = true
  | 0, i, acc, t, h => by simp only [lexLoop] at h; exact .inl h
  | n + 1, i, acc, t, h => by
    simp only [lexLoop] at h
    split at h
    · rename_i hi
      split at h
      · rename_i hok
        rcases lexLoop_mem s n _ _ t h with q | q
        · rcases List.mem_append.1 q with q | q
          · exact .inl q
          · rw [List.mem_singleton.1 q]; exact .inr ⟨i, hi, rfl, hok⟩
        · exact .inr q
      · simp at h
    · exact .inl h
theorem lex_mem {s : List UInt8} {t : Tok} (h : t ∈ (lex s).1) : ∃ j, j < s.length ∧ t = (tokAt s j).1 ∧ (tokAt s j).2 = true := by
  unfold lex at h
  split at h
  · simp at h
  · rcases lexLoop_mem s _ _ _ t h with q | q
    · simp at q
    · exact q
theorem dec_digits : ∀ (l : List UInt8) (acc : Nat), (∀ b ∈ l, diB b = true) → ∃ n, Lib.decFrom acc l = some n
  | [], acc, _ => ⟨acc, rfl⟩
  | b :: l, acc, h => by
    have hb := h b (by simp)
    rw [isD_iff, Bool.and_eq_true] at hb
    have h1 := of_decide_eq_true hb.1
    have h2 := of_decide_eq_true hb.2
    obtain ⟨n, hn⟩ := dec_digits l (acc * 10 + (b.toNat - 48)) (fun x hx => h x (by simp [hx]))
    refine ⟨n, ?_⟩
    simp only [Lib.decFrom, Lib.digitVal]
    rw [if_pos ⟨h1, h2⟩]
    exact hn
theorem tw_mem {w : UInt8 → Bool} : ∀ {l : List UInt8} {b : UInt8}, b ∈ l.takeWhile w → w b = true
  | [], b, h => by simp at h
  | c :: l, b, h => by
    rw [List.takeWhile_cons] at h
    split at h
    · rename_i hc
      rcases List.mem_cons.1 h with q | q
      · rw [q]; exact hc
      · exact tw_mem q
    · simp at h
theorem sub_tw (w : UInt8 → Bool) (s : List UInt8) (i : Nat) : sub s i (adv w s i) = (s.drop i).takeWhile w := sub_adv w s i
theorem num_tok {s : List UInt8} {j : Nat} (hj : j < s.length) (hd : diB (ch s j) = true) (hk : numOk s j = true) : ∃ n : Nat, Lib.atoi (sub s j (adv diB s j)) = some (n : Int) ∧ n ≤ 999999999 ∧ (sub s j (adv diB s j)).length ≤ 9 := by
  unfold numOk at hk
  rw [Bool.and_eq_true, Bool.and_eq_true] at hk
  have h9 := of_decide_eq_true hk.1.1
  rw [sub_tw] at h9 ⊢
  have hne : (s.drop j).takeWhile diB = ch s j :: (s.drop (j + 1)).takeWhile diB := by
    rw [List.drop_eq_getElem_cons hj, ch_get2 hj, List.takeWhile_cons, if_pos hd]
  obtain ⟨n, hn⟩ := dec_digits ((s.drop j).takeWhile diB) 0 (fun b hb => tw_mem hb)
  have hlt := Lib.decFrom_lt _ _ _ hn
  have hp : 10 ^ ((s.drop j).takeWhile diB).length ≤ 10 ^ 9 := Nat.pow_le_pow_right (by omega) h9
  refine ⟨n, ?_, by omega, h9⟩
  rw [hne] at hn ⊢
  rw [isD_iff, Bool.and_eq_true] at hd
  have h1 := of_decide_eq_true hd.1
  have h2 := of_decide_eq_true hd.2
  have a1 : (ch s j == 45) = false := by
    cases hq : (ch s j == 45) with
    | false => rfl
    | true => rw [beq_iff_eq] at hq; rw [hq] at h1; revert h1; decide
  have a2 : (ch s j == 43) = false := by
    cases hq : (ch s j == 43) with
    | false => rfl
    | true => rw [beq_iff_eq] at hq; rw [hq] at h1; revert h1; decide
  simp only [Lib.atoi, a1, a2, Bool.false_eq_true, if_false, Lib.decNat, List.isEmpty_cons, hn, Option.map_some]

end Go.Proofs.YtalgjkpkkdljaaaGreatDoor.Lx
namespace Go.Proofs.YtalgjkpkkdljaaaGreatDoor
open Go.Vs
def toSl (l : List Tok) : Sl Tok := match l with
  | [] => .amb
  | x :: r => .of (x :: r)
theorem els_toSl (l : List Tok) : els (toSl l) = l := by cases l <;> rfl
theorem slP_toSl (l : List Tok) : slP 3 ((toSl l).map Tok.pd) = .slice 3 (l.map Tok.pd) := by cases l <;> rfl
def rdF (s : List UInt8) (f : List PD) : Rd := ⟨toSl (Lx.lex s).1, s.length, [.tsl 0 34 2 f, .p .nils, .p .nils, .p .nils, .p .nils], [f.length]⟩
theorem rdF_ts (s : List UInt8) (f : List PD) : (rdF s f).ts = (Lx.lex s).1 := els_toSl _
theorem rdF_ok (s : List UInt8) (f : List PD) : (rdF s f).Ok := by
  refine ⟨rfl, rfl, rfl, fun bi ti h => ?_, fun H => rfl⟩
  have := h 0 (by simp [rdF])
  simp [rdF, D.renL, D.ren, this]
theorem rdF_sz (s : List UInt8) (f : List PD) (hs : s.length ≤ 20000) : (rdF s f).Sz := by
  have hmem : ∀ x ∈ (rdF s f).ts, ∃ j, j < s.length ∧ x = (Lx.tokAt s j).1 ∧ (Lx.tokAt s j).2 = true := fun x hx => by
    rw [rdF_ts] at hx; exact Lx.lex_mem hx
  refine ⟨rdF_ok s f, ?_, ?_, fun x hx => ?_, fun x hx => ?_, fun x hx => ?_, fun x hx hk => ?_⟩
  · rw [rdF_ts]; have := Lx.lex_len s; omega
  · show s.length ≤ _; omega
  · obtain ⟨j, hj, rfl, hok⟩ := hmem x hx
    rw [Lx.tok_at]; omega
  · obtain ⟨j, hj, rfl, hok⟩ := hmem x hx
    unfold Lx.tokAt
    split
    · simp
    · split <;> simp
  · obtain ⟨j, hj, rfl, hok⟩ := hmem x hx
    have := Lx.tok_end (Nat.le_of_lt hj)
    omega
  · obtain ⟨j, hj, rfl, hok⟩ := hmem x hx
    revert hk hok
    unfold Lx.tokAt
    split
    · intro _ hk; simp at hk
    · split
      · rename_i hd
        intro hok hk
        exact Lx.num_tok hj hd hok
      · intro _ hk; simp at hk

end Go.Proofs.YtalgjkpkkdljaaaGreatDoor

namespace Go.Proofs.YtalgjkpkkdljaaaGreatDoor
open Go.Vs

section
variable {G : Nat → Option (List PD)} {bx : List (List D)} {tk : List Nat} {c : Rd} {a o m1 m2 m3 i n : Nat} {x y : PD}
theorem ld_ptr : loadD G ⟨[.box i n] :: bx, tk⟩ none (.box 0 0) = some (.box i n) := rfl
theorem ld_one : loadD G ⟨[.p x] :: bx, tk⟩ none (.box 0 0) = some (.p x) := rfl
theorem st_one (h : y.one = true) : storeD ⟨[.p x] :: bx, tk⟩ 1 (.box 0 0) (.p y) = some ⟨[.p y] :: bx, tk⟩ := by
  have h1 : (D.p y).one = true := h
  have h2 : (D.p y).cells = [.p y] := by cases y <;> first | rfl | cases h
  simp [storeD, isMapC, h2, h1, splice]
theorem ldM0 : loadD G ⟨rM c a o m1 m2 m3 :: bx, tk⟩ none (.box 0 0) = some (.p (slP 3 (c.l.map Tok.pd))) := rfl
theorem ldM1 : loadD G ⟨rM c a o m1 m2 m3 :: bx, tk⟩ none (.box 0 1) = some (.p (.int .i64 a)) := rfl
theorem ldM3 : loadD G ⟨rM c a o m1 m2 m3 :: bx, tk⟩ none (.box 0 3) = some (.p (.int .i64 o)) := rfl
theorem stM3 (k : Nat) : storeD ⟨rM c a o m1 m2 m3 :: bx, tk⟩ 1 (.box 0 3) (.p (.int .i64 k)) = some ⟨rM c a k m1 m2 m3 :: bx, tk⟩ := by
  simp [storeD, rM, isMapC, D.cells, D.one, PD.one, splice]
end
theorem callD_of {c : CallR} {f : Nat} {args : List D} {H : Hp} (ids tks : List Nat) {as1 : List D} {bx : List (List D)} {tk : List Nat} {r : Res} {H' : Hp}
    (h1 : reach H H.bx.length (ins [] (D.refsL args)) = ids) (h2 : ins [] (D.toksL args ++ boxToks H ids) = tks) (h3 : (Vs.nodupB ids && Vs.nodupB tks) = true)
    (h4 : D.renL (idx ids) (idx tks) args = some as1) (h5 : mapO (fun i => match H.bx[i]? with | some cs => D.renL (idx ids) (idx tks) cs | none => none) ids = some bx)
    (h6 : mapO (fun t => H.tk[t]?) tks = some tk) (h7 : c f as1 ⟨bx, tk⟩ = some (r, H')) : callD c f args H = back ids tks H r H' := by
  simp only [callD, h1, h2, h3, h4, h6, if_true]
  erw [h5]
  simp only [h7]
def H47 (c : Rd) (a o : Nat) (z : List PD) : Hp := ⟨[[.box 2 0], z.map .p, rM c a o 3 4 5, tabB, tabU, tabS], c.tk⟩
theorem f47 {c : Rd} (h : c.Sz) : match formulaP c with
    | .ok n a' => call pg 47 [.box 0 0, .box 1 0] (H47 c 0 0 zN0) = some (.val .undef, H47 c a' 0 n.cells)
    | .bad e p a' => ∃ o' z, (z = zN0 ∨ ∃ n : Nd, z = n.cells) ∧ call pg 47 [.box 0 0, .box 1 0] (H47 c 0 0 zN0) = some (.pan (faultD e p), H47 c a' o' z) := by
  have hw := whole_eq h 0 (Nat.zero_le _)
  have hfp : ∀ (x : Nd) (bi ti : Nat → Option Nat), (D.p x.pd).ren bi ti = some (.p x.pd) := fun _ _ _ => rfl
  unfold formulaP
  cases r1 : wholeP c 0 with
  | bad e p a1 =>
    obtain ⟨o', s1⟩ := hw.bad_at h.toOk r1
    have s1 := s1 (i := 2) (m1 := 3) (m2 := 4) (m3 := 5) (H := H47 c 0 0 zN0) (t := []) rfl rfl rfl rfl rfl (by simp [H47])
    refine ⟨o', zN0, .inl rfl, call_body (fc := fc47) rfl rfl rfl rfl ?_⟩
    simp only [H47, List.map_nil, zN0, List.map_cons, List.set_cons_zero, List.set_cons_succ] at s1 ⊢
    simp [fc47, evKC, evK, put, Env.get, entry, Opd.ev, finish, ld_ptr, s1]
  | ok n a1 =>
    have hkn := pone_kids n
    have s1 := hw.ok_at h.toOk hfp r1 (i := 2) (m1 := 3) (m2 := 4) (m3 := 5) (H := H47 c 0 0 zN0) (t := []) rfl rfl rfl rfl rfl (by simp [H47])
    simp only [bind_ok]
    by_cases hlt : a1 < c.ts.length
    · rw [if_pos hlt]
      have hn := h.n
      have hlt' : (a1 : Int) < (c.ts.length : Int) := by omega
      have hwr := wrong_ansC h a1 0 (by omega)
      have hwe : (wrongP c a1 : PR Unit) = .bad (if (c.tok a1).k = 0 then 21 else 20) (c.tok a1).p a1 := rfl
      obtain ⟨o', s2⟩ := hwr.bad_at h.toOk hwe
      have s2 := s2 (i := 2) (m1 := 3) (m2 := 4) (m3 := 5) (H := H47 c a1 0 n.cells) (t := []) rfl rfl rfl rfl rfl (by simp [H47])
      refine ⟨o', n.cells, .inr ⟨n, rfl⟩, call_body (fc := fc47) rfl rfl rfl rfl ?_⟩
      simp only [H47, List.map_nil, zN0, List.map_cons, List.set_cons_zero, List.set_cons_succ, pd_cells n, Nd.cells] at s1 s2 ⊢
      simp [fc47, evKC, evK, put, Env.get, Env.keep, entry, Opd.ev, splice, binD, clsP, cls, clsR, isCl, isW, apartRW, offB, apartWW, clash, insOk, finish, D.cells, ld_succ, st_succ, st_zero, oP, ld_ptr, ldM0, ldM1, lenr, s1, s2, hlt, hkn]
    · rw [if_neg hlt]
      have hlt' : ¬ (a1 : Int) < (c.ts.length : Int) := by omega
      refine call_body (fc := fc47) rfl rfl rfl rfl ?_
      simp only [H47, List.map_nil, zN0, List.map_cons, List.set_cons_zero, List.set_cons_succ, pd_cells n, Nd.cells] at s1 ⊢
      simp [fc47, evKC, evK, put, Env.get, Env.keep, entry, Opd.ev, splice, binD, clsP, cls, clsR, isCl, isW, apartRW, offB, apartWW, clash, insOk, finish, evRes, D.cells, ld_succ, st_succ, st_zero, oP, ld_ptr, ldM0, ldM1, lenr, s1, hlt, hkn]

end Go.Proofs.YtalgjkpkkdljaaaGreatDoor

namespace Go.Proofs.YtalgjkpkkdljaaaGreatDoor
open Go.Vs
def Rd.flt (c : Rd) (f : List PD) (Y : List D) (t : List Nat) : Rd := ⟨c.l, c.e, .tsl 0 34 2 f :: Y, f.length :: t⟩
def dg (e : Int) (p : Nat) : PD := .agg [.int .i64 e, .int .i64 p]
def H77 (c : Rd) (a o : Nat) (b : Bool) (ex : List (List D)) : Hp := ⟨[.box 2 0] :: [.p (.bool b)] :: rM c a o 3 4 5 :: tabB :: tabU :: tabS :: ex, c.tk⟩
theorem ev77 (rv : D) (H : Hp) : evDef (call pg) pg.D pg.G iterX 77 [rv, .box 0 0, .box 1 0] H = (match finish pg.G fc77.res (evS (call pg) pg.G iterX fc77.body ⟨[(5, rv), (0, .box 0 0), (1, .box 1 0)], H⟩) with | some (.val d, H') => some (.val d, H') | _ => none) := rfl
theorem d77_ok (c : Rd) (a o : Nat) (b : Bool) : evDef (call pg) pg.D pg.G iterX 77 [.p .nili, .box 0 0, .box 1 0] (H77 c a o b []) = some (.val .undef, H77 c a o b []) := by
  rw [ev77]
  simp [fc77, evKC, evK, put, Env.get, Env.keep, Opd.ev, finish, evRes, eqD]

section
variable {G : Nat → Option (List PD)} {bx : List (List D)} {tk : List Nat} {c : Rd} {a o m1 m2 m3 : Nat} {f g : List PD} {Y : List D} {t : List Nat}
theorem ldM7 : loadD G ⟨rM (c.flt f Y t) a o m1 m2 m3 :: bx, tk⟩ none (.box 0 7) = some (.tsl 0 34 2 f) := rfl
theorem stM7 : storeD ⟨rM (c.flt f Y t) a o m1 m2 m3 :: bx, tk⟩ 1 (.box 0 7) (.tsl 0 34 2 g) = some ⟨rM (c.flt g Y t) a o m1 m2 m3 :: bx, tk⟩ := by
  simp [storeD, rM, Rd.flt, isMapC, D.cells, D.one, splice]
theorem append_f {x : PD} (hf : f.length ≤ 1000) : appendD 34 2 16 (.tsl 0 34 2 f) [x] ⟨bx, f.length :: t⟩ = some (.tsl 0 34 2 (f ++ [x]), ⟨bx, (f.length + 1) :: t⟩) := by
  have hr : roomy (f.length + 1) 16 = true := by simp only [roomy, Bool.and_eq_true, decide_eq_true_eq]; omega
  simp [appendD, hr]
theorem flt_tk : (c.flt f Y t).tk = f.length :: t := rfl
end
theorem d77_bad (c : Rd) (f : List PD) (Y : List D) (t : List Nat) (hf : f.length ≤ 1000) (a o : Nat) (b : Bool) (e : Int) (p : Nat) :
    evDef (call pg) pg.D pg.G iterX 77 [faultD e p, .box 0 0, .box 1 0] (H77 (c.flt f Y t) a o b []) = some (.val .undef, H77 (c.flt (f ++ [dg e p]) Y t) a 0 false [[.p (.int .i64 e), .p (.int .i64 p)]]) := by
  have ha := fun bx x => append_f (bx := bx) (t := t) (x := x) hf
  have hs := fun bx tk n => stM3 (bx := bx) (tk := tk) (c := c.flt (f ++ [dg e p]) Y t) (a := a) (o := o) (m1 := 3) (m2 := 4) (m3 := 5) n
  have h0 := fun bx tk => hs bx tk 0
  have e0 : ((0 : Nat) : Int) = 0 := rfl
  rw [e0] at h0
  rw [ev77]
  simp only [H77, flt_tk, List.length_append, List.length_cons, List.length_nil, Nat.zero_add, faultD, dg] at h0 ⊢
  simp [fc77, evKC, evK, put, Env.get, Env.keep, Opd.ev, splice, cutAt, unD, sub, clsP, cls, clsR, isCl, isW, apartRW, offB, apartWW, clash, insOk, finish, evRes, D.cells, PD.cells, mkAgg, pures, fillE, srcD, D.elems?, D.asPD, srcH, eqD, ld_succ, ld_zero, st_succ, st_zero, oP, ld_ptr, st_one (oB _), ldM7, stM7, ha, tassertD, h0]
def H43 (c : Rd) (a o : Nat) (z : List PD) (ex : List (List D)) : Hp := ⟨rM c a o 3 4 5 :: [.box 0 0] :: z.map .p :: tabB :: tabU :: tabS :: ex, c.tk⟩
theorem rdF_flt (s : List UInt8) (f : List PD) : rdF s f = (rdF s []).flt f [.p .nils, .p .nils, .p .nils, .p .nils] [] := rfl
def Five (z : List PD) : Prop := ∃ x1 x2 x3 x4 x5, z = [x1, x2, x3, x4, x5]
theorem five_nd (n : Nd) : Five n.cells := ⟨_, _, _, _, _, rfl⟩
theorem five_z : Five zN0 := ⟨_, _, _, _, _, rfl⟩
theorem refsB : D.refsL tabB = [] := rfl
theorem refsU : D.refsL tabU = [] := rfl
theorem refsS : D.refsL tabS = [] := rfl
theorem toksB : D.toksL tabB = [] := rfl
theorem toksU : D.toksL tabU = [] := rfl
theorem toksS : D.toksL tabS = [] := rfl
theorem renB (bi ti : Nat → Option Nat) : D.renL bi ti tabB = some tabB := rfl
theorem renU (bi ti : Nat → Option Nat) : D.renL bi ti tabU = some tabU := rfl
theorem renS (bi ti : Nat → Option Nat) : D.renL bi ti tabS = some tabS := rfl
theorem toks_p (l : List PD) : D.toksL (l.map .p) = [] := by induction l with | nil => rfl | cons x l ih => simp [D.toksL, D.toks, ih]
theorem ren_rdF (s : List UInt8) (f : List PD) (a o : Nat) {m1 m2 m3 n1 n2 n3 : Nat} {bi ti : Nat → Option Nat} (h1 : bi m1 = some n1) (h2 : bi m2 = some n2) (h3 : bi m3 = some n3) (h0 : ti 0 = some 0) : D.renL bi ti (rM (rdF s f) a o m1 m2 m3) = some (rM (rdF s f) a o n1 n2 n3) :=
  ren_rM h1 h2 h3 ((rdF_ok s f).id bi ti fun t ht => by have : t = 0 := by simp [rdF] at ht; exact ht
                                                        rw [this]; exact h0) a o
theorem toks_rdF (s : List UInt8) (f : List PD) (a o m1 m2 m3 : Nat) : D.toksL (rM (rdF s f) a o m1 m2 m3) = [0] := by rw [toks_rM]; rfl
theorem tk_rdF (s : List UInt8) (f : List PD) : (rdF s f).tk = [f.length] := rfl
theorem call47_ok {s : List UInt8} {f f' : List PD} {a o a' o' : Nat} {z z' : List PD} (b : Bool) {r : Res} (hr : r = .val .undef ∨ ∃ e p, r = .pan (faultD e p))
    (h : call pg 47 [.box 0 0, .box 1 0] (H47 (rdF s f) a o z) = some (r, H47 (rdF s f') a' o' z')) :
    callD (call pg) 47 [.box 1 0, .box 2 0] (H43 (rdF s f) a o z [[.box 0 0], [.p (.bool b)]]) = some (r, H43 (rdF s f') a' o' z' [[.box 0 0], [.p (.bool b)]]) := by
  have q1 : reach (H43 (rdF s f) a o z [[.box 0 0], [.p (.bool b)]]) 8 [1, 2] = [1, 2, 0, 3, 4, 5] := by
    simp [reach, boxRefs, ins, H43, refs_rM (rdF_ok s f), refsB, refsU, refsS, D.refsL, D.refs]
  have q5 : mapO (fun i => match (H43 (rdF s f) a o z [[.box 0 0], [.p (.bool b)]]).bx[i]? with | some cs => D.renL (idx [1, 2, 0, 3, 4, 5]) (idx [0]) cs | none => none) [1, 2, 0, 3, 4, 5] = some (H47 (rdF s f) a o z).bx := by
    have k1 := ren_rdF s f a o (m1 := 3) (m2 := 4) (m3 := 5) (n1 := 3) (n2 := 4) (n3 := 5) (bi := idx [1, 2, 0, 3, 4, 5]) (ti := idx [0]) rfl rfl rfl rfl
    have k0 : idx [1, 2, 0, 3, 4, 5] 0 = some 2 := rfl
    simp [mapO, H43, H47, renB, renU, renS, k1, D.renL, D.ren, k0]
  refine (callD_of [1, 2, 0, 3, 4, 5] [0] q1 ?_ rfl rfl q5 rfl h).trans ?_
  · simp [boxToks, ins, H43, toks_rdF, toksB, toksU, toksS, D.toksL, D.toks]
  · have k2 := ren_rdF s f' a' o' (m1 := 3) (m2 := 4) (m3 := 5) (n1 := 3) (n2 := 4) (n3 := 5) (bi := fun i => [1, 2, 0, 3, 4, 5][i]?) (ti := fun t => [0][t]?) rfl rfl rfl rfl
    rcases hr with rfl | ⟨e, p, rfl⟩ <;> simp [back, firstN, mapO, H43, H47, renB, renU, renS, k2, D.renL, D.ren, Res.ren, faultD, putAll, tk_rdF]
theorem call77 {s : List UInt8} {f f' : List PD} {ex : List (List D)} {a o a' o' : Nat} {z : List PD} (b b' : Bool) {rv : D} (hrv : rv = .p .nili ∨ ∃ e p, rv = faultD e p)
    (h : evDef (call pg) pg.D pg.G iterX 77 [rv, .box 0 0, .box 1 0] (H77 (rdF s f) a o b []) = some (.val .undef, H77 (rdF s f') a' o' b' ex)) :
    callD (evDef (call pg) pg.D pg.G iterX) 77 [rv, .box 6 0, .box 7 0] (H43 (rdF s f) a o z [[.box 0 0], [.p (.bool b)]]) = some (.val .undef, H43 (rdF s f') a' o' z [[.box 0 0], [.p (.bool b')]]) := by
  have q0 : ins [] (D.refsL [rv, .box 6 0, .box 7 0]) = [6, 7] := by rcases hrv with rfl | ⟨e, p, rfl⟩ <;> rfl
  have q1 : reach (H43 (rdF s f) a o z [[.box 0 0], [.p (.bool b)]]) (H43 (rdF s f) a o z [[.box 0 0], [.p (.bool b)]]).bx.length (ins [] (D.refsL [rv, .box 6 0, .box 7 0])) = [6, 7, 0, 3, 4, 5] := by
    rw [q0]
    simp [reach, boxRefs, ins, H43, refs_rM (rdF_ok s f), refsB, refsU, refsS, D.refsL, D.refs]
  have q5 : mapO (fun i => match (H43 (rdF s f) a o z [[.box 0 0], [.p (.bool b)]]).bx[i]? with | some cs => D.renL (idx [6, 7, 0, 3, 4, 5]) (idx [0]) cs | none => none) [6, 7, 0, 3, 4, 5] = some (H77 (rdF s f) a o b []).bx := by
    have k1 := ren_rdF s f a o (m1 := 3) (m2 := 4) (m3 := 5) (n1 := 3) (n2 := 4) (n3 := 5) (bi := idx [6, 7, 0, 3, 4, 5]) (ti := idx [0]) rfl rfl rfl rfl
    have k0 : idx [6, 7, 0, 3, 4, 5] 0 = some 2 := rfl
    simp [mapO, H43, H77, renB, renU, renS, k1, D.renL, D.ren, k0]
  refine (callD_of (as1 := [rv, .box 0 0, .box 1 0]) [6, 7, 0, 3, 4, 5] [0] q1 ?_ rfl ?_ q5 rfl h).trans ?_
  · rcases hrv with rfl | ⟨e, p, rfl⟩ <;> simp [boxToks, ins, H43, toks_rdF, toksB, toksU, toksS, D.toksL, D.toks, faultD]
  · rcases hrv with rfl | ⟨e, p, rfl⟩ <;> rfl
  · have k2 := ren_rdF s f' a' o' (m1 := 3) (m2 := 4) (m3 := 5) (n1 := 3) (n2 := 4) (n3 := 5) (bi := fun i => [6, 7, 0, 3, 4, 5][i]?) (ti := fun t => [0][t]?) rfl rfl rfl rfl
    simp [back, firstN, mapO, H43, H77, renB, renU, renS, k2, D.renL, D.ren, Res.ren, putAll, tk_rdF]
theorem tryF {s : List UInt8} (hs : s.length ≤ 20000) : match formulaP (rdF s []) with
    | .ok n a' => ∃ ex, call pg 43 [.box 0 0, .fn 47 [] [.box 1 0, .box 2 0]] (H43 (rdF s []) 0 0 zN0 []) = some (.val (.p (.bool true)), H43 (rdF s []) a' 0 n.cells ex)
    | .bad e p a' => ∃ z ex, Five z ∧ call pg 43 [.box 0 0, .fn 47 [] [.box 1 0, .box 2 0]] (H43 (rdF s []) 0 0 zN0 []) = some (.val (.p (.bool false)), H43 (rdF s [dg e p]) a' 0 z ex) := by
  have h := rdF_sz s [] hs
  have h47 := f47 h
  cases r : formulaP (rdF s []) with
  | ok n a' =>
    rw [r] at h47
    have c1 := call47_ok false (.inl rfl) h47
    have c2 := call77 (s := s) (f := []) (z := n.cells) true true (.inl rfl) (d77_ok (rdF s []) a' 0 true)
    refine ⟨[[.box 0 0], [.p (.bool true)]], call_dfr (fc := fc43) rfl rfl rfl rfl ?_⟩
    simp only [H43, zN0, List.map_cons, List.map_nil, Nd.cells] at c1 c2 ⊢
    simp [fc43, runF, evSeqL, endDfr, evOps, evKC, evK, evGuard, put, Env.get, Env.keep, entry, Opd.ev, finish, evRes, evRes1, D.cells, ld_succ, st_succ, c1, c2, st_one (oB _), ld_one]
  | bad e p a' =>
    rw [r] at h47
    obtain ⟨o', z, hz, h47⟩ := h47
    have hz5 : Five z := by
      rcases hz with rfl | ⟨n, rfl⟩
      · exact five_z
      · exact five_nd n
    have c1 := call47_ok false (.inr ⟨e, p, rfl⟩) h47
    have c2 := call77 (s := s) (f := []) (f' := [dg e p]) (z := z) false false (.inr ⟨e, p, rfl⟩) (d77_bad (rdF s []) [] _ _ (by simp) a' o' false e p)
    refine ⟨z, [[.box 0 0], [.p (.bool false)]], hz5, call_dfr (fc := fc43) rfl rfl rfl rfl ?_⟩
    simp only [H43, zN0, List.map_cons, List.map_nil] at c1 c2 ⊢
    simp [fc43, runF, evSeqL, endDfr, evOps, evKC, evK, evGuard, put, Env.get, Env.keep, entry, Opd.ev, finish, evRes, evRes1, D.cells, ld_succ, c1, c2, ld_one]

end Go.Proofs.YtalgjkpkkdljaaaGreatDoor

namespace Go.Proofs.YtalgjkpkkdljaaaGreatDoor
open Go.Vs
theorem callD_new {g : Nat} {T : List D} (h : call pg g [] ⟨[], []⟩ = some (.val (.mapr 0), ⟨[T], []⟩)) (hT : ∀ bi ti, D.renL bi ti T = some T) (bx : List (List D)) (tk : List Nat) : callD (call pg) g [] ⟨bx, tk⟩ = some (.val (.mapr bx.length), ⟨bx ++ [T], tk⟩) := by
  have hr : ∀ n, reach ⟨bx, tk⟩ n [] = [] := fun n => by cases n <;> simp [reach, boxRefs]
  refine (callD_of [] [] (hr _) rfl rfl rfl rfl rfl h).trans ?_
  simp [back, firstN, mapO, Res.ren, D.ren, hT, putAll]
theorem shapesC : call pg 46 [] ⟨[], []⟩ = some (.val (.mapr 0), ⟨[tabS], []⟩) := call_of_evF 10 (isTab_eq (by kernel_rfl))
def rd0 (s : List UInt8) : Rd := ⟨toSl (Lx.lex s).1, s.length, [.p .nils, .p .nils, .p .nils, .p .nils, .p .nils], []⟩
theorem open_ok {s : List UInt8} (hs : s.length ≤ 140737488355328) (he : (Lx.lex s).2.1 = 0) : call pg 41 [.p (.str s)] ⟨[], []⟩ = some (.val (.tup [.box 3 0, .p .nils]), ⟨[tabB, tabU, tabS, rM (rd0 s) 0 0 0 1 2], []⟩) := by
  have hl := Lx.lex_eq s hs
  have n1 := callD_new ops0 renB
  have n2 := callD_new pre0 renU
  have n3 := callD_new shapesC renS
  have hts : (Lx.lex s).toks = .slice 3 ((Lx.lex s).1.map Tok.pd) := by simp [Lx.Lexed.toks, he]
  refine call_body (fc := fc41) rfl rfl rfl rfl ?_
  simp only [Lx.Lexed.d, hts, he, rM, rd0, slP_toSl] at hl ⊢
  simp [fc41, evKC, evK, put, Env.get, Env.keep, entry, Opd.ev, splice, binD, lenD, finish, evRes, evRes1, mapO, D.cells, D.one, PD.one, mkAgg, pures, fillD, hl, n1, n2, n3]
theorem open_bad {s : List UInt8} (hs : s.length ≤ 140737488355328) (he : (Lx.lex s).2.1 ≠ 0) : call pg 41 [.p (.str s)] ⟨[], []⟩ = some (.val (.tup [.p .nilp, .fsl 34 2 [dg (Lx.lex s).2.1 (Lx.lex s).2.2]]), ⟨[], []⟩) := by
  have hl := Lx.lex_eq s hs
  have he' : (((Lx.lex s).2.1 : Int) != 0) = true := by simp [bne]; exact he
  refine call_body (fc := fc41) rfl rfl rfl rfl ?_
  simp only [Lx.Lexed.d, dg] at hl ⊢
  simp [fc41, evKC, evK, put, Env.get, Env.keep, entry, Opd.ev, splice, binD, finish, evRes, evRes1, mapO, D.cells, D.one, PD.one, PD.cells, mkAgg, pures, fillD, fillE, D.asPD, hl, he']
def zeroN : Nd := .mk 0 [] 0 0 [] 0
def pf (s : List UInt8) : Nd × PD :=
  if (Lx.lex s).2.1 ≠ 0 then (zeroN, .slice 2 [dg (Lx.lex s).2.1 (Lx.lex s).2.2])
  else match formulaP (rdF s []) with
    | .ok n _ => (n, .nils)
    | .bad e p _ => (zeroN, .slice 2 [dg e p])
theorem lex_small {s : List UInt8} (he : (Lx.lex s).2.1 = 0) : s.length ≤ 20000 := by
  rcases Nat.lt_or_ge 20000 s.length with h | h
  · unfold Lx.lex at he
    rw [if_pos h] at he
    cases he
  · exact h

end Go.Proofs.YtalgjkpkkdljaaaGreatDoor

namespace Go.Proofs.YtalgjkpkkdljaaaGreatDoor
open Go.Vs
theorem open_at {s : List UInt8} (hs : s.length ≤ 140737488355328) (he : (Lx.lex s).2.1 = 0) (b0 : List D) : callD (call pg) 41 [.p (.str s)] ⟨[b0], []⟩ = some (.val (.tup [.box 4 0, .p .nils]), ⟨[b0, tabB, tabU, tabS, rM (rd0 s) 0 0 1 2 3], []⟩) := by
  refine (callD_of (as1 := [.p (.str s)]) [] [] rfl rfl rfl rfl rfl rfl (open_ok hs he)).trans ?_
  have k1 : D.renL (fun i => some (1 + i)) (fun _ => none) (rM (rd0 s) 0 0 0 1 2) = some (rM (rd0 s) 0 0 1 2 3) := ren_rM (c := rd0 s) (bi := fun i => some (1 + i)) (ti := fun _ => none) rfl rfl rfl rfl 0 0
  simp [back, firstN, mapO, Res.ren, D.ren, D.renL, renB, renU, renS, putAll, k1]
theorem open_bad_at {s : List UInt8} (hs : s.length ≤ 140737488355328) (he : (Lx.lex s).2.1 ≠ 0) (b0 : List D) : callD (call pg) 41 [.p (.str s)] ⟨[b0], []⟩ = some (.val (.tup [.p .nilp, .fsl 34 2 [dg (Lx.lex s).2.1 (Lx.lex s).2.2]]), ⟨[b0], []⟩) := by
  refine (callD_of (as1 := [.p (.str s)]) [] [] rfl rfl rfl rfl rfl rfl (open_bad hs he)).trans ?_
  simp [back, firstN, mapO, Res.ren, D.ren, D.renL, putAll]
theorem tokb_rd {s : List UInt8} {env : Env} (he : env.get 10 = .box 4 0) (b0 b5 : List D) : tokbD 10 7 34 2 ⟨env, ⟨[b0, tabB, tabU, tabS, rM (rd0 s) 0 0 1 2 3, b5], []⟩⟩ = some ⟨env, ⟨[b0, tabB, tabU, tabS, rM (rdF s []) 0 0 1 2 3, b5], [0]⟩⟩ := by
  simp [tokbD, he, rM, rd0, rdF, isMapC, tokD]
def HPF (s : List UInt8) (f : List PD) (a : Nat) (z : List PD) : Hp := ⟨[zN0.map .p, tabB, tabU, tabS, rM (rdF s f) a 0 1 2 3, [.box 4 0], z.map .p], [f.length]⟩
theorem call43 {s : List UInt8} {f : List PD} {a : Nat} {z : List PD} {ex : List (List D)} {b : Bool} (h : call pg 43 [.box 0 0, .fn 47 [] [.box 1 0, .box 2 0]] (H43 (rdF s []) 0 0 zN0 []) = some (.val (.p (.bool b)), H43 (rdF s f) a 0 z ex)) :
    callD (call pg) 43 [.box 4 0, .fn 47 [] [.box 5 0, .box 6 0]] (HPF s [] 0 zN0) = some (.val (.p (.bool b)), HPF s f a z) := by
  have q0 : ins [] (D.refsL [.box 4 0, .fn 47 [] [.box 5 0, .box 6 0]]) = [4, 5, 6] := rfl
  have q1 : reach (HPF s [] 0 zN0) (HPF s [] 0 zN0).bx.length (ins [] (D.refsL [.box 4 0, .fn 47 [] [.box 5 0, .box 6 0]])) = [4, 5, 6, 1, 2, 3] := by
    rw [q0]
    simp [reach, boxRefs, ins, HPF, refs_rM (rdF_ok s []), refsB, refsU, refsS, D.refsL, D.refs]
  have q5 : mapO (fun i => match (HPF s [] 0 zN0).bx[i]? with | some cs => D.renL (idx [4, 5, 6, 1, 2, 3]) (idx [0]) cs | none => none) [4, 5, 6, 1, 2, 3] = some (H43 (rdF s []) 0 0 zN0 []).bx := by
    have k1 := ren_rdF s [] 0 0 (m1 := 1) (m2 := 2) (m3 := 3) (n1 := 3) (n2 := 4) (n3 := 5) (bi := idx [4, 5, 6, 1, 2, 3]) (ti := idx [0]) rfl rfl rfl rfl
    have k0 : idx [4, 5, 6, 1, 2, 3] 4 = some 0 := rfl
    simp [mapO, H43, HPF, renB, renU, renS, k1, D.renL, D.ren, k0]
  refine (callD_of (as1 := [.box 0 0, .fn 47 [] [.box 1 0, .box 2 0]]) (tk := [0]) [4, 5, 6, 1, 2, 3] [0] q1 ?_ rfl rfl q5 rfl h).trans ?_
  · simp [boxToks, ins, HPF, toks_rdF, toksB, toksU, toksS, D.toksL, D.toks]
  · have k2 := ren_rdF s f a 0 (m1 := 3) (m2 := 4) (m3 := 5) (n1 := 1) (n2 := 2) (n3 := 3) (bi := fun i => [4, 5, 6, 1, 2, 3][i]?) (ti := fun t => [0][t]?) rfl rfl rfl rfl
    simp [back, firstN, mapO, H43, HPF, renB, renU, renS, k2, D.renL, D.ren, Res.ren, putAll, tk_rdF]
theorem zero_cells : zeroN.pd = .agg zN0 := rfl
theorem seal0 {r r' : Res} {H : Hp} (hr : (r.frz 0 H).ren (below 0) some = some r') : sealF 0 (r, H) = (r', ⟨[], H.tk⟩) := by
  unfold sealF
  simp only [List.take_zero, mapO, hr]
  rw [if_pos (Nat.zero_le _)]

section
variable {G : Nat → Option (List PD)} {bx : List (List D)} {tk : List Nat} {a o m1 m2 m3 i n : Nat} {x : PD} {s : List UInt8} {f : List PD}
theorem oNp : PD.nilp.one = true := rfl
theorem st_ptr : storeD ⟨[.p x] :: bx, tk⟩ 1 (.box 0 0) (.box i n) = some ⟨[.box i n] :: bx, tk⟩ := by
  simp [storeD, isMapC, D.cells, D.one, splice]
theorem ldF7 : loadD G ⟨rM (rdF s f) a o m1 m2 m3 :: bx, tk⟩ none (.box 0 7) = some (.tsl 0 34 2 f) := rfl
end
theorem pf_body (s : List UInt8) (hs : s.length ≤ 140737488355328) : ∃ d h, call pg 17 [.p (.str s)] ⟨[], []⟩ = some (.val d, h) ∧ d.ren (fun _ => none) (fun _ => none) = some (.tup [.p (pf s).1.pd, .p (pf s).2]) := by
  unfold pf
  by_cases he : (Lx.lex s).2.1 = 0
  · rw [if_neg (fun q => q he)]
    have h1 := open_at hs he (zN0.map .p)
    have h2 := tryF (lex_small he)
    cases r : formulaP (rdF s []) with
    | ok n a =>
      rw [r] at h2
      obtain ⟨ex, h2⟩ := h2
      have h3 := call43 h2
      have hkn := pone_kids n
      refine ⟨.tup [.p n.pd, .p .nils], _, call_frz (fc := fc17) rfl rfl rfl rfl (r := (.val (.tup [.p n.pd, .p .nils]), ⟨[n.cells.map .p, tabB, tabU, tabS, rM (rdF s []) a 0 1 2 3, [.box 4 0], n.cells.map .p], [0]⟩)) ?_ (seal0 rfl), rfl⟩
      simp only [HPF, zN0, List.map_cons, List.map_nil, pd_cells n, Nd.cells, List.length_nil] at h1 h3 ⊢
      simp [fc17, evKC, evK, put, Env.get, Env.keep, entry, Opd.ev, splice, cutAt, binD, unD, sub, finish, evRes, evRes1, mapO, D.cells, mkAgg, pures, ld_succ, ld_zero, st_succ, st_zero, oP, h1, h3, tokb_rd, ld_ptr, hkn, oNp, st_ptr, lenD_nils]
    | bad e p a =>
      rw [r] at h2
      obtain ⟨z, ex, hz, h2⟩ := h2
      have h3 := call43 h2
      obtain ⟨x1, x2, x3, x4, x5, rfl⟩ := hz
      refine ⟨.tup [.p zeroN.pd, .tsl 0 34 2 [dg e p]], _, call_frz (fc := fc17) rfl rfl rfl rfl (r := (.val (.tup [.p zeroN.pd, .tsl 0 34 2 [dg e p]]), ⟨[zN0.map .p, tabB, tabU, tabS, rM (rdF s [dg e p]) a 0 1 2 3, [.box 4 0], [.p x1, .p x2, .p x3, .p x4, .p x5]], [1]⟩)) ?_ (seal0 rfl), rfl⟩
      simp only [HPF, zero_cells, zN0, List.map_cons, List.map_nil, List.length_nil, List.length_cons] at h1 h3 ⊢
      simp [fc17, evKC, evK, put, Env.get, Env.keep, entry, Opd.ev, splice, cutAt, binD, unD, sub, clsP, cls, clsR, isCl, isW, apartRW, offB, apartWW, clash, insOk, finish, evRes, evRes1, mapO, D.cells, mkAgg, pures, fillD, ld_succ, ld_zero, st_succ, st_zero, oP, h1, h3, tokb_rd, ld_ptr, ldF7, oNp, st_ptr, lenD_nils]
  · rw [if_pos he]
    have h1 := open_bad_at hs he (zN0.map .p)
    refine ⟨.tup [.p zeroN.pd, .p (.slice 2 [dg (Lx.lex s).2.1 (Lx.lex s).2.2])], _, call_frz (fc := fc17) rfl rfl rfl rfl (r := (.val (.tup [.p zeroN.pd, .fsl 34 2 [dg (Lx.lex s).2.1 (Lx.lex s).2.2]]), ⟨[zN0.map .p, [.p .nilp]], []⟩)) ?_ (seal0 rfl), rfl⟩
    simp only [zero_cells, zN0, List.map_cons, List.map_nil] at h1 ⊢
    simp [fc17, evKC, evK, put, Env.get, Env.keep, entry, Opd.ev, splice, cutAt, binD, sub, finish, evRes, evRes1, mapO, D.cells, mkAgg, pures, fillD, ld_zero, st_succ, st_zero, oP, h1, oNp, st_one oNp, lenD_fsl, tokbD]
theorem pf_eq (s : List UInt8) (hs : s.length ≤ 140737488355328) (H : Hp) : callD (call pg) 17 [.p (.str s)] H = some (.val (.tup [.p (pf s).1.pd, .p (pf s).2]), H) := by
  obtain ⟨d, h, h1, h2⟩ := pf_body s hs
  exact callD_pure h1 rfl rfl rfl h2

end Go.Proofs.YtalgjkpkkdljaaaGreatDoor

namespace Go.Proofs.YtalgjkpkkdljaaaGreatDoor
open Go.Vs
def fc5R : SC := (.seq (.draw [2, 7, 9, 10, 11, 12, 13, 14, 15, 16, 17, 18] [(2, 7), (3, 7), (4, 7)] [ ⟨some 50, .move (.t 15), none⟩, ⟨some 51, .faddr (.t 12) 0, none⟩, ⟨some 52, .load none (.t 51), none⟩, ⟨some 53, .call (.c (.fn 16 [] [])) [(.t 52)], none⟩, ⟨some 54, .call (.c (.fn 23 [] [])) [(.t 50), (.t 53)], none⟩, ⟨some 55, .move (.t 16), none⟩, ⟨some 56, .faddr (.t 12) 0, none⟩, ⟨some 57, .load none (.t 56), none⟩, ⟨some 58, .call (.c (.fn 16 [] [])) [(.t 57)], none⟩, ⟨some 59, .call (.c (.fn 23 [] [])) [(.t 55), (.t 58)], none⟩, ⟨some 17, .move (.t 54), none⟩, ⟨some 18, .move (.t 59), none⟩]) (.seq (.region [2, 7, 9, 10, 11, 12, 13, 14, 15, 16, 17, 18, 19] [ ⟨some 60, .move (.t 15), none⟩, ⟨some 61, .call (.c (.fn 24 [] [])) [(.t 60)], none⟩, ⟨some 62, .move (.t 16), none⟩, ⟨some 63, .call (.c (.fn 24 [] [])) [(.t 62)], none⟩, ⟨some 64, .bin .gtr (.t 61) (.t 63), none⟩, ⟨some 65, .move (.t 64), none⟩, ⟨some 66, .move (.t 15), some (65, false)⟩, ⟨some 67, .call (.c (.fn 24 [] [])) [(.t 66)], some (65, false)⟩, ⟨some 68, .move (.t 16), some (65, false)⟩, ⟨some 69, .call (.c (.fn 24 [] [])) [(.t 68)], some (65, false)⟩, ⟨some 70, .bin .eql (.t 67) (.t 69), some (65, false)⟩, ⟨some 71, .move (.t 70), some (65, false)⟩, ⟨some 72, .move (.t 15), some (71, true)⟩, ⟨some 73, .bin .neq (.t 72) (.c (.p (.str [61, 62]))), some (71, true)⟩, ⟨some 74, .pick (.t 71) (.t 73) (.c (.p (.bool false))), some (65, false)⟩, ⟨some 75, .move (.t 74), some (65, false)⟩, ⟨some 76, .move (.t 15), some (75, true)⟩, ⟨some 77, .bin .neq (.t 76) (.c (.p (.str [117, 110, 116, 105, 108]))), some (75, true)⟩, ⟨some 78, .pick (.t 75) (.t 77) (.c (.p (.bool false))), some (65, false)⟩, ⟨some 79, .pick (.t 65) (.c (.p (.bool true))) (.t 78), none⟩, ⟨some 19, .move (.t 79), none⟩]) (.seq (.draw [2, 7, 9, 10, 11, 12, 13, 14, 15, 16, 17, 18, 19, 20] [(1, 3), (1, 4), (3, 4), (1, 5), (1, 7), (3, 7), (4, 7), (5, 7), (6, 7)] [ ⟨some 80, .move (.t 17), none⟩, ⟨some 81, .load (some 5) (.t 12), none⟩, ⟨some 82, .move (.t 18), none⟩, ⟨some 83, .load (some 5) (.t 13), none⟩, ⟨some 84, .load (some 5) (.t 14), none⟩, ⟨some 85, .call (.c (.fn 25 [] [])) [(.t 82), (.t 83), (.t 84)], none⟩, ⟨some 86, .call (.c (.fn 25 [] [])) [(.t 80), (.t 81), (.t 85)], none⟩, ⟨some 20, .alloc [.int .i64 0, .str [], .int .i64 0, .nils, .int .i64 0], none⟩, ⟨none, .store 5 (.t 20) (.t 86), none⟩]) (.seq (.seq (.region [2, 7, 9, 10, 11, 12, 13, 14, 15, 16, 17, 18, 20, 87] [ ⟨some 87, .move (.t 19), none⟩]) (.cond (.t 87) (.draw [2, 7, 9, 10, 11, 12, 13, 15, 16, 17, 20] [(2, 3), (2, 5), (3, 5), (4, 5)] [ ⟨some 88, .move (.t 18), none⟩, ⟨some 89, .move (.t 17), none⟩, ⟨some 90, .load (some 5) (.t 12), none⟩, ⟨some 91, .load (some 5) (.t 13), none⟩, ⟨some 92, .call (.c (.fn 25 [] [])) [(.t 89), (.t 90), (.t 91)], none⟩, ⟨some 93, .load (some 5) (.t 14), none⟩, ⟨some 94, .call (.c (.fn 25 [] [])) [(.t 88), (.t 92), (.t 93)], none⟩, ⟨none, .store 5 (.t 20) (.t 94), none⟩]) .skip)) (.seq (.region [2, 7, 9, 10, 12, 13, 15, 17, 20, 21] [ ⟨some 95, .move (.t 9), none⟩, ⟨some 96, .bin .add (.t 95) (.c (.p (.str [32]))), none⟩, ⟨some 97, .move (.t 15), none⟩, ⟨some 98, .bin .add (.t 96) (.t 97), none⟩, ⟨some 99, .bin .add (.t 98) (.c (.p (.str [32]))), none⟩, ⟨some 100, .move (.t 10), none⟩, ⟨some 101, .bin .add (.t 99) (.t 100), none⟩, ⟨some 102, .bin .add (.t 101) (.c (.p (.str [32]))), none⟩, ⟨some 103, .move (.t 16), none⟩, ⟨some 104, .bin .add (.t 102) (.t 103), none⟩, ⟨some 105, .bin .add (.t 104) (.c (.p (.str [32]))), none⟩, ⟨some 106, .move (.t 11), none⟩, ⟨some 107, .bin .add (.t 105) (.t 106), none⟩, ⟨some 21, .move (.t 107), none⟩]) (.seq (.seq (.region [7, 9, 10, 12, 13, 15, 17, 20, 21, 108] [ ⟨some 108, .move (.t 2), none⟩]) (.cond (.t 108) (.seq (.draw [6] [(13, 14), (21, 22)] [ ⟨some 109, .move (.t 7), none⟩, ⟨some 110, .move (.t 109), none⟩, ⟨some 111, .move (.t 21), some (110, true)⟩, ⟨some 112, .bin .add (.c (.p (.str [110, 111, 32]))) (.t 111), some (110, true)⟩, ⟨some 113, .load (some 5) (.t 20), some (110, true)⟩, ⟨some 114, .call (.c (.fn 21 [] [])) [(.c (.p (.int .i64 35))), (.t 113)], some (110, true)⟩, ⟨some 115, .call (.c (.fn 20 [] [])) [(.t 112), (.t 114)], some (110, true)⟩, ⟨some 116, .pick (.t 110) (.t 115) (.c (.p (.bool false))), none⟩, ⟨some 117, .move (.t 116), none⟩, ⟨some 118, .move (.t 21), some (117, true)⟩, ⟨some 119, .bin .add (.t 118) (.c (.p (.str [32, 105, 110, 32]))), some (117, true)⟩, ⟨some 120, .move (.t 21), some (117, true)⟩, ⟨some 121, .bin .add (.t 119) (.t 120), some (117, true)⟩, ⟨some 122, .load (some 5) (.t 20), some (117, true)⟩, ⟨some 123, .load (some 5) (.t 20), some (117, true)⟩, ⟨some 124, .call (.c (.fn 25 [] [])) [(.c (.p (.int .i64 32))), (.t 122), (.t 123)], some (117, true)⟩, ⟨some 125, .call (.c (.fn 20 [] [])) [(.t 121), (.t 124)], some (117, true)⟩, ⟨some 126, .pick (.t 117) (.t 125) (.c (.p (.bool false))), none⟩, ⟨some 127, .move (.t 126), none⟩, ⟨some 128, .move (.t 21), some (127, true)⟩, ⟨some 129, .bin .add (.c (.p (.str [99, 32, 61, 32]))) (.t 128), some (127, true)⟩, ⟨some 130, .call (.c (.fn 22 [] [])) [(.c (.p (.str [99])))], some (127, true)⟩, ⟨some 131, .load (some 5) (.t 20), some (127, true)⟩, ⟨some 132, .call (.c (.fn 25 [] [])) [(.c (.p (.int .i64 33))), (.t 130), (.t 131)], some (127, true)⟩, ⟨some 133, .call (.c (.fn 20 [] [])) [(.t 129), (.t 132)], some (127, true)⟩, ⟨some 134, .pick (.t 127) (.t 133) (.c (.p (.bool false))), none⟩, ⟨some 6, .move (.t 134), none⟩]) .ret) .skip)) (.seq (.draw [6] [(16, 18), (17, 18), (32, 35), (33, 35), (34, 35)] [ ⟨some 135, .move (.t 7), none⟩, ⟨some 136, .move (.t 135), none⟩, ⟨some 137, .move (.t 21), some (136, true)⟩, ⟨some 138, .load (some 5) (.t 20), some (136, true)⟩, ⟨some 139, .call (.c (.fn 20 [] [])) [(.t 137), (.t 138)], some (136, true)⟩, ⟨some 140, .pick (.t 136) (.t 139) (.c (.p (.bool false))), none⟩, ⟨some 141, .move (.t 140), none⟩, ⟨some 142, .move (.t 9), some (141, true)⟩, ⟨some 143, .bin .add (.c (.p (.str [110, 111, 116, 32]))) (.t 142), some (141, true)⟩, ⟨some 144, .bin .add (.t 143) (.c (.p (.str [32]))), some (141, true)⟩, ⟨some 145, .move (.t 15), some (141, true)⟩, ⟨some 146, .bin .add (.t 144) (.t 145), some (141, true)⟩, ⟨some 147, .bin .add (.t 146) (.c (.p (.str [32]))), some (141, true)⟩, ⟨some 148, .move (.t 10), some (141, true)⟩, ⟨some 149, .bin .add (.t 147) (.t 148), some (141, true)⟩, ⟨some 150, .move (.t 17), some (141, true)⟩, ⟨some 151, .load (some 5) (.t 12), some (141, true)⟩, ⟨some 152, .call (.c (.fn 21 [] [])) [(.c (.p (.int .i64 40))), (.t 151)], some (141, true)⟩, ⟨some 153, .load (some 5) (.t 13), some (141, true)⟩, ⟨some 154, .call (.c (.fn 25 [] [])) [(.t 150), (.t 152), (.t 153)], some (141, true)⟩, ⟨some 155, .call (.c (.fn 20 [] [])) [(.t 149), (.t 154)], some (141, true)⟩, ⟨some 156, .pick (.t 141) (.t 155) (.c (.p (.bool false))), none⟩, ⟨some 157, .move (.t 156), none⟩, ⟨some 158, .move (.t 9), some (157, true)⟩, ⟨some 159, .bin .add (.c (.p (.str [97, 102, 116, 101, 114, 32, 97, 108, 119, 97, 121, 115, 32]))) (.t 158), some (157, true)⟩, ⟨some 160, .bin .add (.t 159) (.c (.p (.str [32]))), some (157, true)⟩, ⟨some 161, .move (.t 15), some (157, true)⟩, ⟨some 162, .bin .add (.t 160) (.t 161), some (157, true)⟩, ⟨some 163, .bin .add (.t 162) (.c (.p (.str [32]))), some (157, true)⟩, ⟨some 164, .move (.t 10), some (157, true)⟩, ⟨some 165, .bin .add (.t 163) (.t 164), some (157, true)⟩, ⟨some 166, .move (.t 17), some (157, true)⟩, ⟨some 167, .load (some 5) (.t 12), some (157, true)⟩, ⟨some 168, .call (.c (.fn 21 [] [])) [(.c (.p (.int .i64 48))), (.t 167)], some (157, true)⟩, ⟨some 169, .call (.c (.fn 21 [] [])) [(.c (.p (.int .i64 50))), (.t 168)], some (157, true)⟩, ⟨some 170, .load (some 5) (.t 13), some (157, true)⟩, ⟨some 171, .call (.c (.fn 25 [] [])) [(.t 166), (.t 169), (.t 170)], some (157, true)⟩, ⟨some 172, .call (.c (.fn 20 [] [])) [(.t 165), (.t 171)], some (157, true)⟩, ⟨some 173, .pick (.t 157) (.t 172) (.c (.p (.bool false))), none⟩, ⟨some 6, .move (.t 173), none⟩]) .ret)))))))
def fc5P (R : SC) : SC := (.seq (.region [0, 1, 2] [ ⟨some 6, .move (.c (.p (.bool false))), none⟩]) (.seq (.region [0, 1, 2, 7] [ ⟨some 22, .call (.c (.fn 13 [] [])) [], none⟩, ⟨some 7, .move (.t 22), none⟩]) (.seq (.region [0, 1, 2, 7, 8] [ ⟨some 23, .bslice 9 1 5 (.str []) [(0, (.c (.p (.str [60, 61, 62])))), (1, (.c (.p (.str [61, 62])))), (2, (.c (.p (.str [124, 124])))), (3, (.c (.p (.str [38, 38])))), (4, (.c (.p (.str [117, 110, 116, 105, 108]))))], none⟩, ⟨some 8, .move (.t 23), none⟩]) (.seq (.region [0, 1, 2, 7, 8, 9, 10, 11] [ ⟨some 9, .move (.c (.p (.str [110, 111, 32, 97]))), none⟩, ⟨some 10, .move (.c (.p (.str [115, 111, 109, 101, 32, 98]))), none⟩, ⟨some 11, .move (.c (.p (.str [116, 114, 117, 101]))), none⟩]) (.seq (.region [0, 1, 2, 7, 8, 9, 10, 11, 12, 13, 14] [ ⟨some 24, .call (.c (.fn 22 [] [])) [(.c (.p (.str [97])))], none⟩, ⟨some 25, .call (.c (.fn 21 [] [])) [(.c (.p (.int .i64 35))), (.t 24)], none⟩, ⟨some 26, .call (.c (.fn 22 [] [])) [(.c (.p (.str [98])))], none⟩, ⟨some 27, .call (.c (.fn 21 [] [])) [(.c (.p (.int .i64 34))), (.t 26)], none⟩, ⟨some 28, .build [.int .i64 0, .str [], .int .i64 0, .nils, .int .i64 0] [(0, 1, (.c (.p (.int .i64 30))))], none⟩, ⟨some 12, .alloc [.int .i64 0, .str [], .int .i64 0, .nils, .int .i64 0], none⟩, ⟨some 13, .alloc [.int .i64 0, .str [], .int .i64 0, .nils, .int .i64 0], none⟩, ⟨some 14, .alloc [.int .i64 0, .str [], .int .i64 0, .nils, .int .i64 0], none⟩, ⟨none, .store 5 (.t 12) (.t 25), none⟩, ⟨none, .store 5 (.t 13) (.t 27), none⟩, ⟨none, .store 5 (.t 14) (.t 28), none⟩]) (.seq (.seq (.region [0, 1, 2, 7, 8, 9, 10, 11, 12, 13, 14, 29] [ ⟨some 29, .move (.t 2), none⟩]) (.cond (.t 29) (.seq (.region [0, 1, 2, 7, 8, 12, 13, 14] [ ⟨some 30, .bslice 9 1 6 (.str []) [(0, (.c (.p (.str [43])))), (1, (.c (.p (.str [45])))), (2, (.c (.p (.str [43, 43])))), (3, (.c (.p (.str [38])))), (4, (.c (.p (.str [45, 62])))), (5, (.c (.p (.str [46]))))], none⟩, ⟨some 8, .move (.t 30), none⟩]) (.seq (.region [0, 1, 2, 7, 8, 9, 10, 11, 12, 13, 14] [ ⟨some 9, .move (.c (.p (.str [97]))), none⟩, ⟨some 10, .move (.c (.p (.str [98]))), none⟩, ⟨some 11, .move (.c (.p (.str [117, 110, 105, 118]))), none⟩]) (.region [0, 1, 2, 7, 8, 9, 10, 11, 12, 13, 14] [ ⟨some 31, .call (.c (.fn 22 [] [])) [(.c (.p (.str [97])))], none⟩, ⟨some 32, .call (.c (.fn 22 [] [])) [(.c (.p (.str [98])))], none⟩, ⟨some 33, .build [.int .i64 0, .str [], .int .i64 0, .nils, .int .i64 0] [(0, 1, (.c (.p (.int .i64 3))))], none⟩, ⟨none, .store 5 (.t 12) (.t 31), none⟩, ⟨none, .store 5 (.t 13) (.t 32), none⟩, ⟨none, .store 5 (.t 14) (.t 33), none⟩]))) .skip)) (.seq (.draw [2, 7, 9, 10, 11, 12, 13, 14, 15, 16] [(7, 15)] [ ⟨some 34, .move (.t 8), none⟩, ⟨some 35, .move (.t 0), none⟩, ⟨some 36, .conv .i64 (.t 35), none⟩, ⟨some 37, .move (.t 8), none⟩, ⟨some 38, .len 1 (.t 37), none⟩, ⟨some 39, .bin .rem (.t 36) (.t 38), none⟩, ⟨some 40, .iaddr none 1 (.t 34) (.t 39), none⟩, ⟨some 41, .load none (.t 40), none⟩, ⟨some 42, .move (.t 8), none⟩, ⟨some 43, .move (.t 1), none⟩, ⟨some 44, .conv .i64 (.t 43), none⟩, ⟨some 45, .move (.t 8), none⟩, ⟨some 46, .len 1 (.t 45), none⟩, ⟨some 47, .bin .rem (.t 44) (.t 46), none⟩, ⟨some 48, .iaddr none 1 (.t 42) (.t 47), none⟩, ⟨some 49, .load none (.t 48), none⟩, ⟨some 15, .move (.t 41), none⟩, ⟨some 16, .move (.t 49), none⟩]) R )))))))
theorem fc5_split : fc5.body = fc5P fc5R := rfl
def nmN (s : List UInt8) : Nd := .mk 1 s 0 0 [] 0
def unN (op : Int) (x : Nd) : Nd := .mk op [] 0 2 [x] 0
theorem nb_run : isPd (evF pg 20 22 [.p (.str [98])] ⟨[], []⟩) (nmN [98]).pd = true := by kernel_rfl
theorem sb_run : isPd (evF pg 20 21 [.p (.int .i64 34), .p (nmN [98]).pd] ⟨[], []⟩) (unN 34 (nmN [98])).pd = true := by kernel_rfl
theorem nb_call (H : Hp) : callD (call pg) 22 [.p (.str [98])] H = some (.val (.p (nmN [98]).pd), H) := by
  obtain ⟨H', h⟩ := isPd_eq nb_run
  exact callD_pure (call_of_evF 20 h) rfl rfl rfl rfl
theorem sb_call (H : Hp) : callD (call pg) 21 [.p (.int .i64 34), .p (nmN [98]).pd] H = some (.val (.p (unN 34 (nmN [98])).pd), H) := by
  obtain ⟨H', h⟩ := isPd_eq sb_run
  exact callD_pure (call_of_evF 20 h) rfl rfl rfl rfl
def ops5 : List (List UInt8) := [[60, 61, 62], [61, 62], [124, 124], [38, 38], [117, 110, 116, 105, 108]]
def ops6 : List (List UInt8) := [[43], [45], [43, 43], [38], [45, 62], [46]]
theorem ix5 : ∀ n : Nat, n < 5 → iaddrD none 1 (.fsl 9 1 [.str [60, 61, 62], .str [61, 62], .str [124, 124], .str [38, 38], .str [117, 110, 116, 105, 108]]) (n : Int) = some (.ro [.str (ops5.getD n [])] 0)
  | 0, _ => rfl | 1, _ => rfl | 2, _ => rfl | 3, _ => rfl | 4, _ => rfl
  | n + 5, h => by omega
theorem ix6 : ∀ n : Nat, n < 6 → iaddrD none 1 (.fsl 9 1 [.str [43], .str [45], .str [43, 43], .str [38], .str [45, 62], .str [46]]) (n : Int) = some (.ro [.str (ops6.getD n [])] 0)
  | 0, _ => rfl | 1, _ => rfl | 2, _ => rfl | 3, _ => rfl | 4, _ => rfl | 5, _ => rfl
  | n + 6, h => by omega
def RS (rel : Bool) (p q : List UInt8) : St :=
  if rel then ⟨[(2, .p (.bool true)), (7, .p (.bool true)), (9, .p (.str [97])), (10, .p (.str [98])), (11, .p (.str [117, 110, 105, 118])), (12, .box 0 0), (13, .box 1 0), (14, .box 2 0), (15, .p (.str p)), (16, .p (.str q))], ⟨[aN.cells.map .p, (nmN [98]).cells.map .p, (Nd.mk 3 [] 0 0 [] 0).cells.map .p], []⟩⟩
  else ⟨[(2, .p (.bool false)), (7, .p (.bool true)), (9, .p (.str [110, 111, 32, 97])), (10, .p (.str [115, 111, 109, 101, 32, 98])), (11, .p (.str [116, 114, 117, 101])), (12, .box 0 0), (13, .box 1 0), (14, .box 2 0), (15, .p (.str p)), (16, .p (.str q))], ⟨[noA.cells.map .p, (unN 34 (nmN [98])).cells.map .p, (Nd.mk 30 [] 0 0 [] 0).cells.map .p], []⟩⟩
theorem tmodN (i n : Nat) : ((i : Int)).tmod (n : Int) = ((i % n : Nat) : Int) := by
  rw [Int.tmod_eq_emod_of_nonneg (by omega)]; rfl
theorem pre5 (R : SC) (i k : Nat) (hi : i < 256) (hk : k < 256) (rel : Bool) :
    evS (call pg) pg.G iterX (fc5P R) ⟨entry 0 [.p (.int .u8 i), .p (.int .u8 k), .p (.bool rel)], ⟨[], []⟩⟩ = evS (call pg) pg.G iterX R (RS rel (if rel then ops6.getD (i % 6) [] else ops5.getD (i % 5) []) (if rel then ops6.getD (k % 6) [] else ops5.getD (k % 5) [])) := by
  have w1 : IntKind.i64.wrap (i : Int) = i := wrap64 (by omega) (by omega)
  have w2 : IntKind.i64.wrap (k : Int) = k := wrap64 (by omega) (by omega)
  have i5 := ix5 (i % 5) (Nat.mod_lt _ (by omega))
  have k5 := ix5 (k % 5) (Nat.mod_lt _ (by omega))
  have i6 := ix6 (i % 6) (Nat.mod_lt _ (by omega))
  have k6 := ix6 (k % 6) (Nat.mod_lt _ (by omega))
  have t1 : ((i : Int)).tmod 5 = ((i % 5 : Nat) : Int) := tmodN i 5
  have t2 : ((k : Int)).tmod 5 = ((k % 5 : Nat) : Int) := tmodN k 5
  have t3 : ((i : Int)).tmod 6 = ((i % 6 : Nat) : Int) := tmodN i 6
  have t4 : ((k : Int)).tmod 6 = ((k % 6 : Nat) : Int) := tmodN k 6
  have ca := aN_call
  have cb := nb_call
  have cn := noA_call
  have cs := sb_call
  have h13 := head13_call
  have pa : aN.pd = .agg [.int .i64 1, .str [97], .int .i64 0, .nils, .int .i64 0] := rfl
  have pb : (nmN [98]).pd = .agg [.int .i64 1, .str [98], .int .i64 0, .nils, .int .i64 0] := rfl
  have pn : noA.pd = .agg [.int .i64 35, .str [], .int .i64 0, .slice 5 [.agg [.int .i64 1, .str [97], .int .i64 0, .nils, .int .i64 0]], .int .i64 0] := rfl
  have ps : (unN 34 (nmN [98])).pd = .agg [.int .i64 34, .str [], .int .i64 0, .slice 5 [.agg [.int .i64 1, .str [98], .int .i64 0, .nils, .int .i64 0]], .int .i64 0] := rfl
  rw [pn, pa] at cn
  rw [ps, pb] at cs
  simp only [pa] at ca
  simp only [pb] at cb
  generalize ops5.getD (i % 5) [] = p5 at *
  generalize ops5.getD (k % 5) [] = q5 at *
  generalize ops6.getD (i % 6) [] = p6 at *
  generalize ops6.getD (k % 6) [] = q6 at *
  generalize ((i % 5 : Nat) : Int) = x1 at *
  generalize ((k % 5 : Nat) : Int) = x2 at *
  generalize ((i % 6 : Nat) : Int) = x3 at *
  generalize ((k % 6 : Nat) : Int) = x4 at *
  cases rel
  · simp [fc5P, evKC, evK, put, Env.get, Env.keep, entry, Opd.ev, loadD, storeD, splice, cutAt, D.asInt?, binD, lenD, clsP, cls, isW, apartRW, offB, apartWW, clash, insOk, D.cells, D.one, PD.one, PD.cells, mkAgg, pures, fillD, fillE, D.elems?, D.asPD, isMapC, h13, ca, cb, cn, cs, w1, w2, t1, t2, i5, k5]
    rfl
  · simp [fc5P, evKC, evK, put, Env.get, Env.keep, entry, Opd.ev, loadD, storeD, splice, cutAt, D.asInt?, binD, lenD, clsP, cls, isW, apartRW, offB, apartWW, clash, insOk, D.cells, D.one, PD.one, PD.cells, mkAgg, pures, fillD, fillE, D.elems?, D.asPD, isMapC, h13, ca, cb, cn, cs, w1, w2, t3, t4, i6, k6]
    rfl

end Go.Proofs.YtalgjkpkkdljaaaGreatDoor

namespace Go.Proofs.YtalgjkpkkdljaaaGreatDoor
open Go.Vs
def tabQ (f : Nat) (s : List UInt8) : Option D := if f = 17 then (if s.length ≤ 20000 then some (.tup [.p (pf s).1.pd, .p (pf s).2]) else none) else none
def pgQ : Pg := { pg with lib := tabLib pg.lib tabQ }
theorem tabQ_ok : ∀ f s d H, tabQ f s = some d → callD (call pg) f [.p (.str s)] H = some (.val d, H) := by
  intro f s d H h
  unfold tabQ at h
  split at h
  · rename_i hf
    subst hf
    split at h
    · rename_i hs
      cases h
      exact pf_eq s (by omega) H
    · cases h
  · cases h
theorem tabQ_pl : ∀ f s d, tabQ f s = some d → ∀ bi ti, d.ren bi ti = some d := by
  intro f s d h bi ti
  unfold tabQ at h
  split at h
  · split at h
    · cases h; rfl
    · cases h
  · cases h
theorem tab_leD {p : Pg} {tab : Nat → List UInt8 → Option D} (htab : ∀ f s d H, tab f s = some d → callD (call p) f [.p (.str s)] H = some (.val d, H)) (hpl : ∀ f s d, tab f s = some d → ∀ bi ti, d.ren bi ti = some d) (n : Nat) :
    CallR.leD (evF { p with lib := tabLib p.lib tab } n) (call p) := by
  have ih := tab_ext htab hpl n
  intro f a H r h
  unfold callD at h
  dsimp only at h
  split at h
  · rename_i hn
    split at h
    · rename_i as1 bx tk h1 h2 h3
      split at h
      · rename_i rl Hl hc
        rcases ih _ _ _ _ hc with q | ⟨s, d, q1, q2, q3⟩
        · unfold callD
          dsimp only
          rw [if_pos hn, h1, h2, h3]
          dsimp only
          rw [q]
          exact h
        · subst q1
          cases q3
          have ha := renL_str h1
          subst ha
          have hr := htab f s d H q2
          rw [hr, ← h]
          have hreach : ∀ n, reach H n [] = [] := by
            intro n
            cases n <;> simp [reach, boxRefs]
          simp only [D.refsL, D.refs, List.append_nil, ins, hreach, D.toksL, D.toks, boxToks, mapO] at h2 h3
          cases h2
          cases h3
          simp only [D.refsL, D.refs, List.append_nil, ins, hreach, D.toksL, D.toks, boxToks]
          simp [back, firstN, Res.ren, hpl f s d q2, mapO, putAll]
      · cases h
    · cases h
  · cases h
def isT6 (x : Option (Out × St)) : Bool := match x with
  | some (.ret, ⟨env, _⟩) => match env.get 6 with
    | .p (.bool true) => true
    | _ => false
  | _ => false
theorem isT6_eq {x : Option (Out × St)} (h : isT6 x = true) : ∃ env H, x = some (.ret, ⟨env, H⟩) ∧ env.get 6 = .p (.bool true) := by
  unfold isT6 at h
  split at h
  · rename_i env H
    refine ⟨env, H, rfl, ?_⟩
    split at h
    · rename_i h6; exact h6
    · cases h
  · cases h
def runR (rel : Bool) (p q : List UInt8) : Bool := isT6 (evS (evF pgQ 30) pgQ.G (fun b s => iter b 30 s) fc5R (RS rel p q))
theorem run5_0 : (ops5.all fun q => runR false [60, 61, 62] q) = true := by kernel_rfl
theorem run5_1 : (ops5.all fun q => runR false [61, 62] q) = true := by kernel_rfl
theorem run5_2 : (ops5.all fun q => runR false [124, 124] q) = true := by kernel_rfl
theorem run5_3 : (ops5.all fun q => runR false [38, 38] q) = true := by kernel_rfl
theorem run5_4 : (ops5.all fun q => runR false [117, 110, 116, 105, 108] q) = true := by kernel_rfl
theorem run5 : ∀ p ∈ ops5, (ops5.all fun q => runR false p q) = true := by
  intro p hp
  simp only [ops5, List.mem_cons, List.not_mem_nil, or_false] at hp
  rcases hp with rfl | rfl | rfl | rfl | rfl
  · exact run5_0
  · exact run5_1
  · exact run5_2
  · exact run5_3
  · exact run5_4
theorem run6_0 : (ops6.all fun q => runR true [43] q) = true := by kernel_rfl
theorem run6_1 : (ops6.all fun q => runR true [45] q) = true := by kernel_rfl
theorem run6_2 : (ops6.all fun q => runR true [43, 43] q) = true := by kernel_rfl
theorem run6_3 : (ops6.all fun q => runR true [38] q) = true := by kernel_rfl
theorem run6_4 : (ops6.all fun q => runR true [45, 62] q) = true := by kernel_rfl
theorem run6_5 : (ops6.all fun q => runR true [46] q) = true := by kernel_rfl
theorem run6 : ∀ p ∈ ops6, (ops6.all fun q => runR true p q) = true := by
  intro p hp
  simp only [ops6, List.mem_cons, List.not_mem_nil, or_false] at hp
  rcases hp with rfl | rfl | rfl | rfl | rfl | rfl
  · exact run6_0
  · exact run6_1
  · exact run6_2
  · exact run6_3
  · exact run6_4
  · exact run6_5
theorem getD_mem {l : List (List UInt8)} {n : Nat} (h : n < l.length) : l.getD n [] ∈ l := by
  rw [List.getD_eq_getElem?_getD, List.getElem?_eq_getElem h]
  exact List.getElem_mem h
theorem runR_ok {rel : Bool} {p q : List UInt8} (h : runR rel p q = true) : ∃ env H, evS (call pg) pg.G iterX fc5R (RS rel p q) = some (.ret, ⟨env, H⟩) ∧ env.get 6 = .p (.bool true) := by
  obtain ⟨env, H, e, g⟩ := isT6_eq h
  exact ⟨env, H, evS_monoD (tab_leD tabQ_ok tabQ_pl 30) iterX_le _ _ _ e, g⟩
theorem law5 (i k : Nat) (hi : i < 256) (hk : k < 256) (rel : Bool) : ∃ H', call pg 5 [.p (.int .u8 i), .p (.int .u8 k), .p (.bool rel)] ⟨[], []⟩ = some (.val (.p (.bool true)), H') := by
  have hp := pre5 fc5R i k hi hk rel
  have hr : ∃ env H, evS (call pg) pg.G iterX fc5R (RS rel (if rel then ops6.getD (i % 6) [] else ops5.getD (i % 5) []) (if rel then ops6.getD (k % 6) [] else ops5.getD (k % 5) [])) = some (.ret, ⟨env, H⟩) ∧ env.get 6 = .p (.bool true) := by
    cases rel with
    | false =>
      have h1 := run5 _ (getD_mem (n := i % 5) (Nat.mod_lt _ (by decide)))
      rw [List.all_eq_true] at h1
      exact runR_ok (h1 _ (getD_mem (n := k % 5) (Nat.mod_lt _ (by decide))))
    | true =>
      have h1 := run6 _ (getD_mem (n := i % 6) (Nat.mod_lt _ (by decide)))
      rw [List.all_eq_true] at h1
      exact runR_ok (h1 _ (getD_mem (n := k % 6) (Nat.mod_lt _ (by decide))))
  obtain ⟨env, H, e, g⟩ := hr
  refine ⟨H, call_body (fc := fc5) rfl rfl rfl rfl ?_⟩
  rw [fc5_split, hp, e]
  simp [fc5, finish, evRes, evRes1, g]

end Go.Proofs.YtalgjkpkkdljaaaGreatDoor

namespace Go.Proofs.YtalgjkpkkdljaaaGreatDoor
open Go.Vs Go.ChangeShapes Go.WideShapes Go.RowKit
theorem u8_nat {n : Int} (w : (Lit.int .u8 n).wf = true) : ∃ k : Nat, n = (k : Int) ∧ k < 256 := by
  have h : 0 ≤ n ∧ n ≤ 255 := by
    simp [Lit.wf, IntKind.min, IntKind.max, IntKind.bits, IntKind.signed] at w
    omega
  obtain ⟨k, rfl⟩ := Int.eq_ofNat_of_zero_le h.1
  exact ⟨k, rfl, by omega⟩
theorem law5w (n : Int) (w : (Lit.int .u8 n).wf = true) (m : Int) (v : (Lit.int .u8 m).wf = true) (b : Bool) : ∃ H', call pg 5 [.p (.int .u8 n), .p (.int .u8 m), .p (.bool b)] ⟨[], []⟩ = some (.val (.p (.bool true)), H') := by
  obtain ⟨i, rfl, hi⟩ := u8_nat w
  obtain ⟨k, rfl, hk⟩ := u8_nat v
  exact law5 i k hi hk b

end Go.Proofs.YtalgjkpkkdljaaaGreatDoor
