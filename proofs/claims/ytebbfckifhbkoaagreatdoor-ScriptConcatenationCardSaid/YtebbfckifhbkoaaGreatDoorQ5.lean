/-
  Two scripts put together: the walk of the law.
-/
import Derived.Test.YtebbfckifhbkoaaGreatDoorG7
import Derived.Test.YtebbfckifhbkoaaGreatDoorN6
import Derived.Test.YtebbfckifhbkoaaGreatDoorE34
namespace Go.Proofs.YtebbfckifhbkoaaGreatDoor
open Go.Vs

theorem src_nil : srcD 3 (.p .nils) = some [] := rfl
theorem src_cmds (l : List Cmd) : srcD 3 (.p (cmdsP l)) = some (l.map cmdP) := by
  unfold cmdsP
  by_cases h : l = []
  · subst h; rfl
  · rw [if_neg h]; rfl

theorem srcH_cmds (H : Hp) (l : List Cmd) : srcH H 3 (.p (cmdsP l)) = some (l.map cmdP) := src_cmds l

set_option maxRecDepth 20000 in
theorem law5 (s t : List UInt8) : ∃ H', call pg 5 [.p (.str s), .p (.str t)] ⟨[], []⟩ = some (.val (.p (.bool true)), H') := by
  have hh := head_call
  by_cases h1 : 3000 < s.length
  · have h1' : (3000 : Int) < (s.length : Int) := by omega
    refine ⟨⟨[], []⟩, call_body (fc := fc5) rfl rfl rfl rfl ?_⟩
    simp [fc5, evKC, evK, evGuard, put, Env.get, Env.keep, entry, Opd.ev, binD, lenD, finish, evRes, evRes1, hh, h1']
  have h1' : ¬ (3000 : Int) < (s.length : Int) := by omega
  by_cases h2 : 3000 < t.length
  · have h2' : (3000 : Int) < (t.length : Int) := by omega
    refine ⟨⟨[], []⟩, call_body (fc := fc5) rfl rfl rfl rfl ?_⟩
    simp [fc5, evKC, evK, evGuard, put, Env.get, Env.keep, entry, Opd.ev, binD, lenD, finish, evRes, evRes1, hh, h1', h2']
  have h2' : ¬ (3000 : Int) < (t.length : Int) := by omega
  have hls : lenD 0 (.p (.str s)) = some s.length := rfl
  have hlt : lenD 0 (.p (.str t)) = some t.length := rfl
  have hl1 : (s ++ [10]).length ≤ 3001 := by simp; omega
  have hl2 : (shw ++ 10 :: t).length ≤ 3005 := by simp [shw]; omega
  have hl3 : ((s ++ [10]) ++ (shw ++ 10 :: t)).length ≤ 6006 := by rw [List.length_append]; omega
  have hb1 : binD .add (.p (.str s)) (.p (.str [10])) = some (.p (.str (s ++ [10]))) := by
    simp [binD, strBin]; omega
  have hb2 : binD .add (.p (.str [115, 104, 111, 119, 10])) (.p (.str t)) = some (.p (.str (shw ++ 10 :: t))) := by
    simp [binD, strBin, shw]; omega
  have hb3 : binD .add (.p (.str (s ++ [10]))) (.p (.str (shw ++ 10 :: t))) = some (.p (.str ((s ++ [10]) ++ (shw ++ 10 :: t)))) := by
    simp only [binD, strBin]
    rw [if_pos (by omega)]
    rfl
  have hp1 := fun H => parse_call (s := s ++ [10]) (by omega) H
  have hp2 := fun H => parse_call (s := shw ++ 10 :: t) (by omega) H
  have hp3 := fun H => parse_call (s := (s ++ [10]) ++ (shw ++ 10 :: t)) (by omega) H
  have hnl := fun H => lines_call (s := s ++ [10]) (by omega) H
  have hlaw := two_parse (s := s) (t := t) (by omega) (by omega)
  have hw1 := fun l => parse_well (s := s ++ [10]) (l := l) (by omega)
  have hw2 := fun l => parse_well (s := shw ++ 10 :: t) (l := l) (by omega)
  have he2 := fun e n => run_err0 (s := shw ++ 10 :: t) (e := e) (n := n) (by omega)
  have hnlb : nl (s ++ [10]) ≤ 3001 := by
    have := List.length_filter_le (· == 10) (s ++ [10])
    unfold nl; omega
  have hsl := spl_len 10 (shw ++ 10 :: t)
  unfold parV at hp1 hp2 hp3
  generalize nl (s ++ [10]) = nn at *
  generalize (s ++ [10]) ++ (shw ++ 10 :: t) = w3 at *
  generalize s ++ [10] = w1 at *
  generalize shw ++ 10 :: t = w2 at *
  cases q1 : parse w1 with
  | error e =>
    obtain ⟨e, n⟩ := e
    rw [q1] at hlaw hp1
    obtain ⟨q3, e0⟩ := hlaw
    rw [q3] at hp3
    dsimp only at hp1 hp3 e0
    have e0' : (e != 0) = true := by simpa using e0
    cases q2 : parse w2 with
    | error f =>
      rw [q2] at hp2
      dsimp only at hp2
      refine ⟨⟨[], []⟩, call_body (fc := fc5) rfl rfl rfl rfl ?_⟩
      simp [fc5, evKC, evK, evGuard, put, Env.get, Env.keep, entry, Opd.ev, lenD, finish, evRes, evRes1, binD_int, intBin, hh, h1', h2', hb1, hb2, hb3, hp1, hp2, hp3, e0']
    | ok b =>
      rw [q2] at hp2
      dsimp only at hp2
      refine ⟨⟨[], []⟩, call_body (fc := fc5) rfl rfl rfl rfl ?_⟩
      generalize cmdsP b = y at *
      simp [fc5, evKC, evK, evGuard, put, Env.get, Env.keep, entry, Opd.ev, lenD, finish, evRes, evRes1, binD_int, intBin, hh, h1', h2', hb1, hb2, hb3, hp1, hp2, hp3, e0']
  | ok a =>
    obtain ⟨a1, a2, a3⟩ := hw1 a q1
    rw [q1] at hlaw hp1
    dsimp only at hlaw hp1
    have hla := cmds_len a
    have hsa := fun H => srcH_cmds H a
    cases q2 : parse w2 with
    | error f =>
      obtain ⟨f, n⟩ := f
      have hn := (he2 f n q2).2
      rw [q2] at hlaw hp2
      obtain ⟨f0, hlaw⟩ := hlaw
      dsimp only at hp2
      have f0' : (f != 0) = true := by simpa using f0
      have hln : lenD 1 (.p .nils) = some 0 := rfl
      have hadd : IntKind.i64.wrap ((n : Int) + (nn : Int)) = ((n + nn : Nat) : Int) := by rw [wrap64 (by omega) (by omega)]; omega
      have ha0 : IntKind.i64.wrap ((a.length : Int)) = (a.length : Int) := wrap64 (by omega) (by omega)
      have ha1 : ¬ (200 : Int) < (a.length : Int) := by omega
      cases q3 : parse w3 with
      | ok c =>
        rw [q3] at hlaw hp3
        have : f = 2 := by
          rcases hlaw with h | ⟨m, h⟩ | h
          · exact h
          · cases h
          · cases h
        subst this
        dsimp only at hp3
        refine ⟨⟨[], []⟩, call_body (fc := fc5) rfl rfl rfl rfl ?_⟩
        generalize cmdsP a = x at *
        generalize cmdsP c = z at *
        simp [fc5, evKC, evK, evGuard, put, Env.get, Env.keep, entry, Opd.ev, finish, evRes, evRes1, hls, hlt, binD_int, intBin, hh, h1', h2', hb1, hb2, hb3, hp1, hp2, hp3, hla, hln, ha0, ha1]
      | error g =>
        obtain ⟨g, m⟩ := g
        rw [q3] at hlaw hp3
        dsimp only at hp3
        by_cases hf : f = 2
        · subst hf
          refine ⟨⟨[], []⟩, call_body (fc := fc5) rfl rfl rfl rfl ?_⟩
          generalize cmdsP a = x at *
          simp [fc5, evKC, evK, evGuard, put, Env.get, Env.keep, entry, Opd.ev, finish, evRes, evRes1, hls, hlt, binD_int, intBin, hh, h1', h2', hb1, hb2, hb3, hp1, hp2, hp3, hla, hln, ha0, ha1]
        · have hf' : (f == 2) = false := by simpa using hf
          by_cases hg : g = 2
          · subst hg
            refine ⟨⟨[], []⟩, call_body (fc := fc5) rfl rfl rfl rfl ?_⟩
            generalize cmdsP a = x at *
            simp [fc5, evKC, evK, evGuard, put, Env.get, Env.keep, entry, Opd.ev, finish, evRes, evRes1, hls, hlt, binD_int, intBin, hh, h1', h2', hb1, hb2, hb3, hp1, hp2, hp3, hla, hln, ha0, ha1, hf']
          · have hg' : (g == 2) = false := by simpa using hg
            have he : g = f ∧ m = n + nn := by
              rcases hlaw with h | ⟨k, h⟩ | h
              · exact (hf h).elim
              · cases h; exact (hg rfl).elim
              · cases h; exact ⟨rfl, rfl⟩
            obtain ⟨rfl, rfl⟩ := he
            refine ⟨⟨[], []⟩, call_body (fc := fc5) rfl rfl rfl rfl ?_⟩
            generalize cmdsP a = x at *
            simp [fc5, evKC, evK, evGuard, put, Env.get, Env.keep, entry, Opd.ev, finish, evRes, evRes1, hls, hlt, binD_int, intBin, hh, h1', h2', hb1, hb2, hb3, hp1, hp2, hp3, hla, hln, ha0, ha1, hf', hnl, hadd, f0']
    | ok b =>
      obtain ⟨b1, b2, b3⟩ := hw2 b q2
      rw [q2] at hlaw hp2
      dsimp only at hlaw hp2
      have hlb := cmds_len b
      have hsb := fun H => srcH_cmds H b
      have hab : IntKind.i64.wrap ((a.length : Int) + (b.length : Int)) = (a.length : Int) + (b.length : Int) := wrap64 (by omega) (by omega)
      by_cases hm : 200 < a.length + b.length
      · have hm' : (200 : Int) < (a.length : Int) + (b.length : Int) := by omega
        cases q3 : parse w3 with
        | ok c =>
          rw [q3] at hp3
          dsimp only at hp3
          refine ⟨⟨[], []⟩, call_body (fc := fc5) rfl rfl rfl rfl ?_⟩
          generalize cmdsP a = x at *
          generalize cmdsP b = y at *
          generalize cmdsP c = z at *
          simp [fc5, evKC, evK, evGuard, put, Env.get, Env.keep, entry, Opd.ev, finish, evRes, evRes1, hls, hlt, binD_int, intBin, hh, h1', h2', hb1, hb2, hb3, hp1, hp2, hp3, hla, hlb, hab, hm']
        | error g =>
          rw [q3] at hp3
          dsimp only at hp3
          refine ⟨⟨[], []⟩, call_body (fc := fc5) rfl rfl rfl rfl ?_⟩
          generalize cmdsP a = x at *
          generalize cmdsP b = y at *
          simp [fc5, evKC, evK, evGuard, put, Env.get, Env.keep, entry, Opd.ev, finish, evRes, evRes1, hls, hlt, binD_int, intBin, hh, h1', h2', hb1, hb2, hb3, hp1, hp2, hp3, hla, hlb, hab, hm']
      · have hm' : ¬ (200 : Int) < (a.length : Int) + (b.length : Int) := by omega
        cases q3 : parse w3 with
        | error g =>
          obtain ⟨g, m⟩ := g
          rw [q3] at hlaw hp3
          have hg : g = 2 := by
            rcases hlaw with h | ⟨k, h⟩ | h
            · exact (hm h).elim
            · cases h; rfl
            · cases h
          subst hg
          dsimp only at hp3
          refine ⟨⟨[], []⟩, call_body (fc := fc5) rfl rfl rfl rfl ?_⟩
          generalize cmdsP a = x at *
          generalize cmdsP b = y at *
          simp [fc5, evKC, evK, evGuard, put, Env.get, Env.keep, entry, Opd.ev, finish, evRes, evRes1, hls, hlt, binD_int, intBin, hh, h1', h2', hb1, hb2, hb3, hp1, hp2, hp3, hla, hlb, hab, hm']
        | ok c =>
          rw [q3] at hlaw hp3
          have hc : c = a ++ b := by
            rcases hlaw with h | ⟨k, h⟩ | h
            · exact (hm h).elim
            · cases h
            · cases h; rfl
          subst hc
          dsimp only at hp3
          have hes : esOk (a.map cmdP ++ b.map cmdP) (a ++ b) := by rw [← List.map_append]; exact cmds_es _
          have hwab : ∀ c ∈ a ++ b, WellC c := fun c hc => by
            rcases List.mem_append.1 hc with h | h
            · exact a1 c h
            · exact b1 c h
          have hs := sameT_call (cmds_cms (a ++ b)) hes (okNums_well hwab) (okNums_well hwab) (by simp; omega)
          rw [same_self] at hs
          have hro1 : roomy (a.map cmdP).length 48 = true := by simp [roomy]; omega
          have hro2 : roomy ((a.map cmdP).length + (b.map cmdP).length) 48 = true := by simp [roomy]; omega
          refine ⟨⟨[], [(a.map cmdP ++ b.map cmdP).length]⟩, call_body (fc := fc5) rfl rfl rfl rfl ?_⟩
          generalize cmdsP (a ++ b) = z at *
          generalize cmdsP a = x at *
          generalize cmdsP b = y at *
          generalize a.map cmdP = ea at *
          generalize b.map cmdP = eb at *
          simp only [List.length_append] at hs
          simp [fc5, evKC, evK, evGuard, put, Env.get, Env.keep, entry, Opd.ev, finish, evRes, evRes1, PD.one, PD.cells, fillE, appendD, hls, hlt, binD_int, intBin, hh, h1', h2', hb1, hb2, hb3, hp1, hp2, hp3, hla, hlb, hab, hm', hsa, hsb, hro1, hro2, hs]

end Go.Proofs.YtebbfckifhbkoaaGreatDoor
