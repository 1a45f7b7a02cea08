/-
  The lines before an error: the walk of the law.
-/
import Derived.Test.YtebbfckifhbkoaaGreatDoorQ6
namespace Go.Proofs.YtebbfckifhbkoaaGreatDoor
open Go.Vs

def fPre (t : List UInt8) (e : Int) (n : Nat) (ws : List (List UInt8)) (f : List UInt8) : Env := [(1, .p (.str t)), (5, .p (.bool true)), (7, .p (.int .i64 e)), (8, .p (.int .i64 (n : Int))), (9, .p (.slice 1 (ws.map .str))), (10, .p (.str f))]

theorem front_loop (t : List UInt8) (e : Int) (n : Nat) (ws : List (List UInt8)) (hlen : ws.length ≤ 100000) (hn : n < ws.length) : ∀ (d i : Nat), i + d = n → (endL (ws.take n)).length ≤ 100000 →
    ∃ env, loopK (call pg) pg.G [1, 5, 7, 8, 9, 10, 11] fc7_b0 ⟨fPre t e (n + 1) ws (endL (ws.take i)) ++ [(11, .p (.int .i64 (i : Int)))], ⟨[], []⟩⟩ =
      some (.exit 0, ⟨fPre t e (n + 1) ws (endL (ws.take n)) ++ env, ⟨[], []⟩⟩) := by
  intro d
  induction d with
  | zero =>
    intro i hi hb
    have hi : i = n := by omega
    subst hi
    refine ⟨[(11, .p (.int .i64 (i : Int))), (54, .p (.bool false))], ?_⟩
    have hk1 := inc64 (k := i) (by omega)
    have hk2 : ¬ (i : Int) + 1 < ((i + 1 : Nat) : Int) := by omega
    refine loopK_out (o := .exit 0) ?_ (by simp)
    simp [fc7_b0, fPre, evKC, evK, put, Env.get, Env.keep, Opd.ev, binD, hk1]
  | succ d ih =>
    intro i hi hb
    have hlt : i < ws.length := by omega
    have hg := List.getElem?_eq_getElem hlt
    have hia := ws_ia hg
    have htk : ws.take (i + 1) = ws.take i ++ [ws[i]] := by rw [List.take_add_one, hg]; rfl
    have hel : endL (ws.take (i + 1)) = endL (ws.take i) ++ ws[i] ++ [10] := by
      unfold endL
      rw [htk, List.flatMap_append]
      simp only [List.flatMap_cons, List.flatMap_nil, List.append_nil, List.append_assoc]
    have hsub : (endL (ws.take (i + 1))).length ≤ (endL (ws.take n)).length := by
      have : ws.take n = ws.take (i + 1) ++ (ws.take n).drop (i + 1) := by
        conv => lhs; rw [← List.take_append_drop (i + 1) (ws.take n)]
        rw [List.take_take, Nat.min_eq_left (by omega)]
      rw [this]
      simp [endL]
    obtain ⟨env, he⟩ := ih (i + 1) (by omega) hb
    rw [hel] at he hsub
    simp only [List.length_append, List.length_cons, List.length_nil] at hsub
    generalize ws[i] = x at *
    generalize endL (ws.take i) = f at *
    have b1 := addS (a := f) (b := x) (by omega)
    have b2 := addS (a := f ++ x) (b := [10]) (by simp; omega)
    have hk1 := inc64 (k := i) (by omega)
    have hk2 : (i : Int) + 1 < ((n + 1 : Nat) : Int) := by omega
    refine ⟨env, ?_⟩
    rw [← he]
    generalize f ++ x ++ [10] = f2 at *
    generalize f ++ x = f1 at *
    generalize endL (ws.take n) = fn at *
    generalize n + 1 = m at *
    refine loopK_norm ?_
    simp [fc7_b0, fPre, evKC, evK, put, Env.get, Env.keep, Opd.ev, loadD, cutAt, D.asInt?, binD_int, intBin, hia, b1, b2, hk1, hk2]

theorem law7 (s t : List UInt8) : ∃ H', call pg 7 [.p (.str s), .p (.str t)] ⟨[], []⟩ = some (.val (.p (.bool true)), H') := by
  have hh := head_call
  have hls : lenD 0 (.p (.str s)) = some s.length := rfl
  have hlt : lenD 0 (.p (.str t)) = some t.length := rfl
  by_cases h1 : 3000 < s.length
  · have h1' : (3000 : Int) < (s.length : Int) := by omega
    refine ⟨⟨[], []⟩, call_body (fc := fc7) rfl rfl rfl rfl ?_⟩
    simp [fc7, evKC, evK, evGuard, put, Env.get, Env.keep, entry, Opd.ev, binD, lenD, finish, evRes, evRes1, hh, h1']
  have h1' : ¬ (3000 : Int) < (s.length : Int) := by omega
  by_cases h2 : 3000 < t.length
  · have h2' : (3000 : Int) < (t.length : Int) := by omega
    refine ⟨⟨[], []⟩, call_body (fc := fc7) rfl rfl rfl rfl ?_⟩
    simp [fc7, evKC, evK, evGuard, put, Env.get, Env.keep, entry, Opd.ev, binD, lenD, finish, evRes, evRes1, hh, h1', h2']
  have h2' : ¬ (3000 : Int) < (t.length : Int) := by omega
  have ha := fun H => parse_call (s := s) (by omega) H
  unfold parV at ha
  cases q1 : parse s with
  | ok l =>
    rw [q1] at ha
    dsimp only at ha
    refine ⟨⟨[], []⟩, call_body (fc := fc7) rfl rfl rfl rfl ?_⟩
    generalize cmdsP l = x at *
    simp [fc7, evKC, evK, evGuard, put, Env.get, Env.keep, entry, Opd.ev, binD, finish, evRes, evRes1, hls, hlt, hh, h1', h2', ha]
  | error q =>
    obtain ⟨e, n⟩ := q
    rw [q1] at ha
    dsimp only at ha
    obtain ⟨e0, i, x, hn, hi, hx, hfl, hxl, ⟨l, hpf⟩, hpw⟩ := cut_parse (s := s) (u := t) (by omega) (by omega) q1
    subst hn
    have hsp : ∀ H, callD (call pg) 19 [.p (.str s), .p (.int .u8 10)] H = some (.val (.p (.slice 1 ((spl 10 s).map .str))), H) := fun H => rsplit_call (by omega) 10 H
    have hsl := spl_len 10 s
    have hll := ws_len (spl 10 s)
    have hia := ws_ia hx
    obtain ⟨env, hlp⟩ := front_loop t e i (spl 10 s) (by omega) hi i 0 (by omega) (by omega)
    have hend0 : endL ((spl 10 s).take 0) = [] := rfl
    rw [hend0] at hlp
    have hp1 := fun H => parse_call (s := endL ((spl 10 s).take i)) (by omega) H
    have hp2 := fun H => parse_call (s := endL ((spl 10 s).take i) ++ (x ++ 10 :: t)) (by simp; omega) H
    unfold parV at hp1 hp2
    rw [hpf] at hp1
    rw [hpw] at hp2
    dsimp only at hp1 hp2
    have b1 := addS (a := endL ((spl 10 s).take i)) (b := x) (by omega)
    have b2 := addS (a := endL ((spl 10 s).take i) ++ x) (b := [10]) (by simp; omega)
    have b3 := addS (a := endL ((spl 10 s).take i) ++ x ++ [10]) (b := t) (by simp; omega)
    have e3 : endL ((spl 10 s).take i) ++ x ++ [10] ++ t = endL ((spl 10 s).take i) ++ (x ++ 10 :: t) := by simp
    rw [e3] at b3
    have e0' : (e == 0) = false := by simpa using e0
    have hc1 : ¬ ((i + 1 : Nat) : Int) < 1 := by omega
    have hc2 : ¬ ((spl 10 s).length : Int) < ((i + 1 : Nat) : Int) := by omega
    have hw1 : IntKind.i64.wrap (((i + 1 : Nat) : Int) - 1) = (i : Int) := by
      have : ((i + 1 : Nat) : Int) - 1 = (i : Int) := by omega
      rw [this]; exact wrap64 (by omega) (by omega)
    simp only [fPre, Int.cast_ofNat_Int, List.cons_append, List.nil_append] at hlp
    refine ⟨⟨[], []⟩, call_body (fc := fc7) rfl rfl rfl rfl ?_⟩
    generalize endL ((spl 10 s).take i) ++ (x ++ 10 :: t) = f3 at *
    generalize endL ((spl 10 s).take i) ++ x ++ [10] = f2 at *
    generalize endL ((spl 10 s).take i) ++ x = f1 at *
    generalize endL ((spl 10 s).take i) = f0 at *
    generalize hws : (spl 10 s).length = m at *
    generalize spl 10 s = ws at *
    generalize cmdsP l = y at *
    generalize i + 1 = j at *
    simp [fc7, evKC, evK, evGuard, put, Env.get, Env.keep, entry, Opd.ev, loadD, cutAt, D.asInt?, finish, evRes, evRes1, binD_int, intBin, hls, hlt, hll, hh, h1', h2', ha, e0', hsp, hc1, hc2, hlp, hp1, hw1, hia, b1, b2, b3, hp2]

end Go.Proofs.YtebbfckifhbkoaaGreatDoor
