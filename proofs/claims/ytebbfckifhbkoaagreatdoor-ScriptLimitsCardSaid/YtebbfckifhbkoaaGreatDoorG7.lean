/-
  Parse and Format agree with the reference: the walk of the law.
-/
import Derived.Test.YtebbfckifhbkoaaGreatDoorG6
import Derived.Test.YtebbfckifhbkoaaGreatDoorX

namespace Go.Proofs.YtebbfckifhbkoaaGreatDoor
open Go.Vs
theorem head_call (H : Hp) : callD (call pg) 9 [] H = some (.val (.p (.bool true)), H) := by
  obtain ⟨H', h⟩ := isTrue_eq head_run
  exact callD_pure (call_of_evF 60 h) rfl rfl rfl rfl
theorem great_not {l : List RCmd} (h : great l = false) : l.length ≤ 30 ∧ ∀ c ∈ l, c.text.length ≤ 300 ∧ c.nums.length ≤ 20 := by
  unfold great at h
  simp only [Bool.or_eq_false_iff, decide_eq_false_iff_not, List.any_eq_false, bigC, Bool.or_eq_true, decide_eq_true_eq, not_or] at h
  exact ⟨by omega, fun c hc => by have := h.2 c hc; omega⟩
theorem wellL_ok {l : List RCmd} (h : great l = false) : (∀ c ∈ wellL l, WellC c ∧ c.text.length ≤ 300) ∧ (wellL l).length ≤ 30 := by
  obtain ⟨h1, h2⟩ := great_not h
  refine ⟨fun c hc => ?_, ?_⟩
  · obtain ⟨r, hr, rfl⟩ := List.mem_map.1 hc
    obtain ⟨hm, hw⟩ := List.mem_filter.1 hr
    exact ⟨(wellR_well hw).1, (h2 r hm).1⟩
  · have := List.length_filter_le wellR l
    simp only [wellL, List.length_map]; omega
theorem fmt_call {p : PD} {l : List Cmd} (hp : cmsP p l) (hw : ∀ c ∈ l, WellC c) (hm : mu l ≤ 100000) (hl : l.length ≤ 200) (H : Hp) : callD (call pg) 15 [.p p] H = some (.val (.p (.str (fmtL l))), H) := by
  have hf := fmt_mu l
  refine format_call hp (fun c hc => ?_) (by omega) (by omega) H
  have h1 := fmt_pre hw c hc
  have h2 := mu_text c hc
  exact ⟨h1.2.1, by omega, fun x hx => by have := h1.2.2.2 x hx; unfold i64; omega⟩
theorem rfmt_call {p : PD} {l : List Cmd} (hp : cmsP p l) (hw : ∀ c ∈ l, WellC c) (hm : mu l ≤ 100000) (hl : l.length ≤ 200) (H : Hp) : callD (call pg) 16 [.p p] H = some (.val (.p (.str (fmtL l))), H) := by
  have hf := fmt_mu l
  rw [fmt_ref] at hf ⊢
  refine rformat_call hp (fun c hc => ?_) (by omega) (by omega) H
  have h1 := fmt_pre hw c hc
  have h2 := mu_text c hc
  exact ⟨h1.1, h1.2.1, by omega, by omega, fun x hx => by have := h1.2.2.2 x hx; unfold small; omega⟩
theorem nil_cms : cmsP .nils [] := .inl ⟨rfl, rfl⟩
theorem law3 (s : List UInt8) {p : PD} {l : List RCmd} (hp : rcsP p l) : ∃ H', call pg 3 [.p (.str s), .p p] ⟨[], []⟩ = some (.val (.p (.bool true)), H') := by
  have hh := head_call
  refine ⟨⟨[], []⟩, call_body (fc := fc3) rfl rfl rfl rfl ?_⟩
  by_cases h1 : 3000 < s.length
  · have h1' : (3000 : Int) < (s.length : Int) := by omega
    simp [fc3, evKC, evK, evGuard, put, Env.get, Env.keep, entry, Opd.ev, binD, lenD, finish, evRes, evRes1, hh, h1']
  have h1' : ¬ (3000 : Int) < (s.length : Int) := by omega
  have hg := great_call hp
  cases hgr : great l with
  | true =>
    rw [hgr] at hg
    simp [fc3, evKC, evK, evGuard, put, Env.get, Env.keep, entry, Opd.ev, binD, lenD, finish, evRes, evRes1, hh, h1', hg]
  | false =>
    rw [hgr] at hg
    obtain ⟨g1, g2⟩ := great_not hgr
    obtain ⟨w1, w2⟩ := wellL_ok hgr
    obtain ⟨q, hq, hwell⟩ := well_call hp g1 (fun c hc => by have := (g2 c hc).2; omega)
    have hmu := mu_few w1
    have hf := fmt_call hq (fun c hc => (w1 c hc).1) (by omega) (by omega)
    have hr := rfmt_call hq (fun c hc => (w1 c hc).1) (by omega) (by omega)
    generalize fmtL (wellL l) = ft at *
    have ha := fun H => parse_call (s := s) (by omega) H
    have hb := fun H => rparse_call (s := s) (by omega) H
    unfold parV at ha
    unfold rparV at hb
    cases hps : parse s with
    | ok m =>
      rw [hps] at ha hb
      obtain ⟨m1, m2, m3⟩ := parse_well (by omega) hps
      have hs := same_call (cmds_cms m) (cmdsE_cms m) (okNums_well m1) (okNums_well m1) (by omega)
      rw [same_self] at hs
      dsimp only at ha hb
      generalize cmdsP m = x at *
      generalize cmdsE m = y at *
      simp [fc3, evKC, evK, evGuard, put, Env.get, Env.keep, entry, Opd.ev, binD, strBin, lenD, finish, evRes, evRes1, hh, h1', hg, ha, hb, hwell, hs, hf, hr]
    | error e =>
      obtain ⟨e, n⟩ := e
      rw [hps] at ha hb
      have hs := same_call nil_cms nil_cms (by intro c hc; cases hc) (by intro c hc; cases hc) (by simp)
      have e0 : sameB [] [] = true := rfl
      rw [e0] at hs
      dsimp only at ha hb
      simp [fc3, evKC, evK, evGuard, put, Env.get, Env.keep, entry, Opd.ev, binD, strBin, lenD, finish, evRes, evRes1, hh, h1', hg, ha, hb, hwell, hs, hf, hr]

end Go.Proofs.YtebbfckifhbkoaaGreatDoor
