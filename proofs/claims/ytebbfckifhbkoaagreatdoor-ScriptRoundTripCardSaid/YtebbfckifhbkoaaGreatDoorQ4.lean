/-
  Formatted commands are read back: the walk of the law.
-/
import Derived.Test.YtebbfckifhbkoaaGreatDoorG7
namespace Go.Proofs.YtebbfckifhbkoaaGreatDoor
open Go.Vs

def ofC (c : Cmd) : RCmd := ⟨(c.kind : Int), c.text, c.nums⟩

theorem well_ofC {c : Cmd} (h : WellC c) : wellR (ofC c) = true := by
  have e : (ofC c).kind.toNat = c.kind := rfl
  unfold wellR
  rw [e]
  have h1 := h.pos
  have h2 := h.lt
  have h3 := h.lo
  have h4 := h.hi
  have h5 := h.tx
  have h6 := h.num
  have a1 : decide (1 ≤ (ofC c).kind) = true := decide_eq_true (by show (1 : Int) ≤ (c.kind : Int); omega)
  have a2 : decide ((ofC c).kind ≤ 9) = true := decide_eq_true (by show (c.kind : Int) ≤ 9; omega)
  have a3 : decide ((rowAt c.kind).2.1 ≤ ((ofC c).nums.length : Int)) = true := decide_eq_true h3
  have a4 : decide (((ofC c).nums.length : Int) ≤ (rowAt c.kind).2.2.1) = true := decide_eq_true h4
  have a5 : (decide ((ofC c).text = []) || (rowAt c.kind).2.2.2) = true := by
    rcases h5 with h | h
    · rw [decide_eq_true (show (ofC c).text = [] from h)]; rfl
    · rw [h, Bool.or_true]
  have a6 : (ofC c).nums.all numOk = true := by
    rw [List.all_eq_true]
    intro n hn
    obtain ⟨b1, b2⟩ := h6 n hn
    simp [numOk, b1, b2]
  rw [a1, a2, a3, a4, a5, a6]
  rfl

theorem wcall {c : Cmd} {v : PD} (hv : slP v c.nums) (h : WellC c) (H : Hp) : callD (call pg) 17 [.p (.agg [.int .i64 (c.kind : Int), .str c.text, v])] H = some (.val (.p (.bool true)), H) := by
  obtain ⟨_, h8, _⟩ := row_facts h.pos h.lt
  have := h.hi
  have hw := well_call1 (c := ofC c) hv (by show c.nums.length ≤ _; omega) H
  rw [well_ofC h] at hw
  exact hw

theorem all_well_loop {p : PD} {l : List Cmd} (hp : cmsP p l) (hw : ∀ c ∈ l, WellC c) (hlen : l.length ≤ 200) (u : PD) : ∀ (n j : Nat), j ≤ l.length → l.length - j ≤ n →
    ∃ env, loopK (call pg) pg.G [5, 10, 13] fc4_b0 ⟨[(5, .p u), (10, .p p), (13, .p (.int .i64 j))], ⟨[], []⟩⟩ = some (.exit 0, ⟨[(5, .p u), (10, .p p)] ++ env, ⟨[], []⟩⟩) := by
  have hll := cms_len hp
  intro n
  induction n with
  | zero =>
    intro j hj hn
    have : j = l.length := by omega
    refine ⟨[(13, .p (.int .i64 j)), (64, .p (.bool false))], ?_⟩
    refine loopK_out (o := .exit 0) ?_ (by simp)
    simp [fc4_b0, evKC, evK, put, Env.get, Env.keep, Opd.ev, binD, mapO, D.ren, locD, Out.ren, List.map, this, hll]
  | succ n ih =>
    intro j hj hn
    by_cases he : j = l.length
    · refine ⟨[(13, .p (.int .i64 j)), (64, .p (.bool false))], ?_⟩
      refine loopK_out (o := .exit 0) ?_ (by simp)
      simp [fc4_b0, evKC, evK, put, Env.get, Env.keep, Opd.ev, binD, mapO, D.ren, locD, Out.ren, List.map, he, hll]
    · have hlt : j < l.length := by omega
      have hlt' : (j : Int) < (l.length : Int) := by omega
      obtain ⟨v, hv, hia⟩ := cms_ia hp hlt
      have hwc := hw _ (List.getElem_mem hlt)
      generalize l[j] = c at *
      have hk1 := inc64 (k := j) (by omega)
      obtain ⟨env, he⟩ := ih (j + 1) (by omega) (by omega)
      refine ⟨env, ?_⟩
      rw [← he]
      have hc := fun H => wcall hv hwc H
      refine loopK_norm ?_
      rcases hv with ⟨rfl, _⟩ | ⟨rfl, _⟩ | rfl <;> simp [fc4_b0, evKC, evK, put, Env.get, Env.keep, Opd.ev, loadD, cutAt, D.asInt?, binD, unD, sub, mapO, D.ren, locD, Out.ren, List.map, hlt', hll, hia, hc, hk1]

theorem law4 (s : List UInt8) {p : PD} {l : List RCmd} (hp : rcsP p l) : ∃ H', call pg 4 [.p (.str s), .p p] ⟨[], []⟩ = some (.val (.p (.bool true)), H') := by
  have hh := head_call
  refine ⟨⟨[], []⟩, call_body (fc := fc4) rfl rfl rfl rfl ?_⟩
  by_cases h1 : 3000 < s.length
  · have h1' : (3000 : Int) < (s.length : Int) := by omega
    simp [fc4, evKC, evK, evGuard, put, Env.get, Env.keep, entry, Opd.ev, binD, lenD, finish, evRes, evRes1, hh, h1']
  have h1' : ¬ (3000 : Int) < (s.length : Int) := by omega
  have hg := great_call hp
  cases hgr : great l with
  | true =>
    rw [hgr] at hg
    simp [fc4, evKC, evK, evGuard, put, Env.get, Env.keep, entry, Opd.ev, binD, lenD, finish, evRes, evRes1, hh, h1', hg]
  | false =>
    rw [hgr] at hg
    obtain ⟨g1, g2⟩ := great_not hgr
    obtain ⟨w1, w2⟩ := wellL_ok hgr
    obtain ⟨q, hq, hwell⟩ := well_call hp g1 (fun c hc => by have := (g2 c hc).2; omega)
    have hmu := mu_few w1
    have w3 : ∀ c ∈ wellL l, WellC c := fun c hc => (w1 c hc).1
    have hf := fmt_call hq w3 (by omega) (by omega)
    have hfl := fmt_mu (wellL l)
    have hpf := parse_fmt w3 (by omega) (by omega)
    have hpm := fun H => parse_call (s := fmtL (wellL l)) (by omega) H
    unfold parV at hpm
    rw [hpf] at hpm
    have hs1 := same_call (cmds_cms (wellL l)) hq (okNums_well w3) (okNums_well w3) (by omega)
    rw [same_self] at hs1
    dsimp only at hpm
    generalize fmtL (wellL l) = ft at *
    generalize cmdsP (wellL l) = z at *
    have ha := fun H => parse_call (s := s) (by omega) H
    unfold parV at ha
    cases hps : parse s with
    | error e =>
      obtain ⟨e, n⟩ := e
      rw [hps] at ha
      rw [parse_run' (by omega)] at hps
      have he : e ≠ 0 := by
        cases hr : run 0 (spl 10 s) ([], 0) with
        | ok st => rw [hr] at hps; cases hps
        | error x =>
          rw [hr] at hps
          cases hps
          have := (run_codes hr).1
          omega
      have he' : (e != 0) = true := by simpa using he
      dsimp only at ha
      simp [fc4, evKC, evK, evGuard, put, Env.get, Env.keep, entry, Opd.ev, binD, unD, lenD, finish, evRes, evRes1, hh, h1', hg, ha, hwell, hf, hpm, hs1, he']
    | ok m =>
      rw [hps] at ha
      obtain ⟨m1, m2, m3, m4⟩ := parse_again (by omega) hps
      have hm := cmds_cms m
      have hf2 := fmt_call hm m1 (by omega) m4
      have hfl2 := fmt_mu m
      have hpm2 := fun H => parse_call (s := fmtL m) (by omega) H
      unfold parV at hpm2
      rw [m2] at hpm2
      have hs2 := same_call hm hm (okNums_well m1) (okNums_well m1) (by omega)
      rw [same_self] at hs2
      dsimp only at ha hpm2
      obtain ⟨env, hlp⟩ := all_well_loop hm m1 m4 (.bool true) m.length 0 (by omega) (by omega)
      simp only [Int.cast_ofNat_Int] at hlp
      generalize fmtL m = ft2 at *
      generalize cmdsP m = x at *
      simp [fc4, evKC, evK, evGuard, put, Env.get, Env.keep, entry, Opd.ev, binD, unD, lenD, finish, evRes, evRes1, hh, h1', hg, ha, hwell, hf, hpm, hs1, hlp, hf2, hpm2, hs2]

end Go.Proofs.YtebbfckifhbkoaaGreatDoor
