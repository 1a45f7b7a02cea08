/-
  A value-level evaluator for Go functions; the functions of this cut by it; plain laws. Text G6.
-/
import Derived.Test.YtebbfckifhbkoaaGreatDoorG5

namespace Go.Proofs.YtebbfckifhbkoaaGreatDoor
open Go.Vs
theorem reach_fix {H : Hp} {ids : List Nat} (h : ins ids (boxRefs H ids) = ids) : ∀ n, reach H n ids = ids
  | 0 => rfl
  | n + 1 => by
    simp only [reach]
    split
    · rfl
    · rename_i new hn
      rw [h]; exact reach_fix h n
theorem cells_refs : ∀ l : List Cmd, D.refsL (l.flatMap cmdCells) = []
  | [] => rfl
  | c :: l => by simp only [List.flatMap_cons, cmdCells, List.cons_append, List.nil_append, D.refsL, D.refs, cells_refs l, List.append_nil]
theorem cells_toks : ∀ l : List Cmd, D.toksL (l.flatMap cmdCells) = []
  | [] => rfl
  | c :: l => by simp only [List.flatMap_cons, cmdCells, List.cons_append, List.nil_append, D.toksL, D.toks, cells_toks l, List.append_nil]
theorem cells_ren (bi ti : Nat → Option Nat) : ∀ l : List Cmd, D.renL bi ti (l.flatMap cmdCells) = some (l.flatMap cmdCells)
  | [] => rfl
  | c :: l => by simp only [List.flatMap_cons, cmdCells, List.cons_append, List.nil_append, D.renL, D.ren, cells_ren bi ti l, Option.map_some]

noncomputable abbrev dfrC : CallR := evDef (call pg0) pgD pg0.G iterX
theorem dfr_nil (o : D) (e a k : Int) (s : List UInt8) (T : List (List D)) (l : List Cmd) (rest : List (List D)) (hr : rest = [] ∨ rest = [l.flatMap cmdCells]) :
    dfrC 21 [.p .nili, .box 0 0, .box 1 0] ⟨[o] :: [.p (.int .i64 e)] :: rest, []⟩ = some (.val .undef, ⟨[o] :: [.p (.int .i64 e)] :: rest, []⟩) := by
  simp [dfrC, evDef, pgD, fc21, FC.plain, evKC, evK, put, Env.get, Env.keep, entry, Opd.ev, finish, evRes, eqD]
theorem dfr_err (o : D) (ho : o = .p .nils ∨ ∃ i n, o = .gsl i 35 n 3) (c : Int) (rest : List (List D)) :
    dfrC 21 [errD c, .box 0 0, .box 1 0] ⟨[o] :: [.p (.int .i64 0)] :: rest, []⟩ = some (.val .undef, ⟨[.p .nils] :: [.p (.int .i64 c)] :: rest, []⟩) := by
  rcases ho with rfl | ⟨i, n, rfl⟩ <;> simp [dfrC, evDef, pgD, fc21, FC.plain, errD, tassertD, evKC, evK, put, Env.get, Env.keep, entry, Opd.ev, storeD, splice, clsP, cls, clsR, isCl, isW, apartRW, offB, apartWW, clash, insOk, finish, evRes, D.cells, D.one, PD.one, eqD, isMapC]
theorem reach_gsl {j m a k : Nat} {s : List UInt8} {T : List (List D)} {l : List Cmd} (hT : T[j]? = some (l.flatMap cmdCells)) : reach (rH (.gsl (j + 5) 35 m 3) a k s T) (rH (.gsl (j + 5) 35 m 3) a k s T).bx.length [0, 1] = [0, 1, j + 5] := by
  have hl : (rH (.gsl (j + 5) 35 m 3) a k s T).bx.length = (T.length + 4) + 1 := by simp [rH]
  have h1 : boxRefs (rH (.gsl (j + 5) 35 m 3) a k s T) [0, 1] = [j + 5] := by simp [boxRefs, rH, D.refsL, D.refs]
  have h2 : boxRefs (rH (.gsl (j + 5) 35 m 3) a k s T) [0, 1, j + 5] = [j + 5] := by simp [boxRefs, rH, D.refsL, D.refs, hT, cells_refs]
  rw [hl, reach, h1]
  dsimp only
  have h3 : ins [0, 1] [j + 5] = [0, 1, j + 5] := by simp [ins]
  rw [h3]
  exact reach_fix (by rw [h2]; simp [ins]) _
theorem put_back {j m a k : Nat} {e : Int} {s : List UInt8} {T : List (List D)} {l : List Cmd} (hT : T[j]? = some (l.flatMap cmdCells)) : T.set j (l.flatMap cmdCells) = T := by
  obtain ⟨h1, h2⟩ := List.getElem?_eq_some_iff.1 hT
  rw [← h2]; exact List.set_getElem_self h1
def eH (c : Int) (a k : Nat) (s : List UInt8) (T : List (List D)) : Hp := ⟨[.p .nils] :: [.p (.int .i64 c)] :: [.p (.int .i64 (a : Int))] :: [.p (.int .i64 (k : Int))] :: [.p (.str s)] :: T, []⟩
theorem dcall_nil {l : List Cmd} {o : D} {T : List (List D)} (h : StOk l o T) (a k : Nat) (s : List UInt8) : callD dfrC 21 [.p .nili, .box 0 0, .box 1 0] (rH o a k s T) = some (.val .undef, rH o a k s T) := by
  rcases h with ⟨rfl, rfl, rfl⟩ | ⟨j, hne, rfl, hT⟩
  · have h := dfr_nil (.p .nils) 0 0 0 [] [] [] [] (.inl rfl)
    simp [callD, rH, reach, boxRefs, boxToks, ins, D.refsL, D.refs, D.toksL, D.toks, Vs.nodupB, idx, D.renL, D.ren, mapO, h, back, firstN, putAll, Res.ren]
  · have hr := reach_gsl (m := l.length) (a := a) (k := k) (s := s) hT
    have hp := put_back (m := 0) (a := 0) (k := 0) (e := 0) (s := []) hT
    have h := dfr_nil (.gsl 2 35 l.length 3) 0 0 0 [] [] l [l.flatMap cmdCells] (.inr rfl)
    have e1 : ins [] (D.refsL [.p .nili, .box 0 0, .box 1 0]) = [0, 1] := rfl
    have e2 : boxToks (rH (.gsl (j + 5) 35 l.length 3) a k s T) [0, 1, j + 5] = [] := by simp [boxToks, rH, D.toksL, D.toks, hT, cells_toks]
    unfold callD
    dsimp only
    rw [e1, hr, e2]
    simp [rH, Vs.nodupB, ins, D.toksL, D.toks, mapO, D.renL, D.ren, idx, hT, cells_ren, h, back, firstN, putAll, Res.ren, hp]
theorem dcall_err {l : List Cmd} {o : D} {T : List (List D)} (h : StOk l o T) (c : Int) (a k : Nat) (s : List UInt8) : callD dfrC 21 [errD c, .box 0 0, .box 1 0] (rH o a k s T) = some (.val .undef, eH c a k s T) := by
  rcases h with ⟨rfl, rfl, rfl⟩ | ⟨j, hne, rfl, hT⟩
  · have h := dfr_err (.p .nils) (.inl rfl) c []
    simp only [errD] at h
    simp [errD, eH, callD, rH, reach, boxRefs, boxToks, ins, D.refsL, D.refs, D.toksL, D.toks, Vs.nodupB, idx, D.renL, D.ren, mapO, h, back, firstN, putAll, Res.ren]
  · have hr := reach_gsl (m := l.length) (a := a) (k := k) (s := s) hT
    have hp := put_back (m := 0) (a := 0) (k := 0) (e := 0) (s := []) hT
    have h := dfr_err (.gsl 2 35 l.length 3) (.inr ⟨_, _, rfl⟩) c [l.flatMap cmdCells]
    have e1 : ins [] (D.refsL [errD c, .box 0 0, .box 1 0]) = [0, 1] := rfl
    have e2 : boxToks (rH (.gsl (j + 5) 35 l.length 3) a k s T) [0, 1, j + 5] = [] := by simp [boxToks, rH, D.toksL, D.toks, hT, cells_toks]
    simp only [errD] at h e1 ⊢
    unfold callD
    dsimp only
    rw [e1, hr, e2]
    simp [rH, eH, Vs.nodupB, ins, D.toksL, D.toks, mapO, D.renL, D.ren, idx, hT, cells_ren, h, back, firstN, putAll, Res.ren, hp]

end Go.Proofs.YtebbfckifhbkoaaGreatDoor

namespace Go.Proofs.YtebbfckifhbkoaaGreatDoor
open Go.Vs
theorem lns_ok : ∀ (ws : List (List UInt8)) (k : Nat), ∀ x ∈ lns k ws, x.2 ≠ [] ∧ x.2 ∈ ws
  | [], _, x, h => by simp [lns] at h
  | w :: ws, k, x, h => by
    simp only [lns] at h
    split at h
    · have := lns_ok ws _ x h
      exact ⟨this.1, by simp [this.2]⟩
    · rename_i hi
      rcases List.mem_cons.1 h with rfl | h
      · exact ⟨fun e => hi (by have e : w = [] := e; rw [e]; rfl), by simp⟩
      · have := lns_ok ws _ x h
        exact ⟨this.1, by simp [this.2]⟩
theorem lns_len : ∀ (ws : List (List UInt8)) (k : Nat), (lns k ws).length ≤ ws.length ∧ szL (lns k ws) ≤ (ws.map fun x => x.length + 1).sum
  | [], _ => by simp [lns, szL]
  | w :: ws, k => by
    have := lns_len ws (k + 1)
    simp only [lns]
    split
    · simp; omega
    · simp [szL] at this ⊢; omega
theorem spl_sum (c : UInt8) : ∀ s : List UInt8, ((spl c s).map fun x => x.length + 1).sum = s.length + 1
  | [] => by simp [spl]
  | b :: r => by
    have ih := spl_sum c r
    simp only [spl]
    split
    · simp; omega
    · split
      · rename_i w ws h
        rw [h] at ih
        simp at ih ⊢; omega
      · rename_i h; exact (spl_ne c r h).elim
theorem parse_big {s : List UInt8} (hs : 65536 < s.length) : runF (call pg0) pgD pg0.G iterX fc11 ⟨entry 0 [.p (.str s)], ⟨[], []⟩⟩ = some (.val (.tup [.p .nils, .p (.int .i64 2), .p (.int .i64 0)]), ⟨[[.p .nils], [.p (.int .i64 2)], [.p (.int .i64 0)]], []⟩) := by
  have hs' : (65536 : Int) < (s.length : Int) := by omega
  simp [runF, fc11, evSeqL, evKC, evK, put, Env.get, Env.keep, entry, Opd.ev, loadD, storeD, splice, cutAt, binD, lenD, finish, evRes, evRes1, mapO, D.cells, D.one, PD.one, isMapC, hs']
theorem parse_rounds {s : List UInt8} (hs : s.length ≤ 65536) :
    match parL (lns 0 (spl 10 s)) [] 0 with
    | .ok l' => ∃ o' T' a' k', rnds (lns 0 (spl 10 s)) (rH (.p .nils) 0 0 s []) = some (.norm, ⟨env0, rH o' a' k' s T'⟩) ∧ StOk l' o' T' ∧ l'.length ≤ 200
    | .error (e, n) => ∃ l' o' T' k', rnds (lns 0 (spl 10 s)) (rH (.p .nils) 0 0 s []) = some (.pan (errD e), ⟨env0, rH o' n k' s T'⟩) ∧ StOk l' o' T' := by
  have h1 := lns_len (spl 10 s) 0
  have h2 := spl_sum 10 s
  have h3 := spl_len 10 s
  exact rounds_eq s _ [] _ [] 0 0 (.inl ⟨rfl, rfl, rfl⟩) (by simp) (fun x hx => by
    obtain ⟨a1, a2⟩ := lns_ok _ _ x hx
    exact ⟨a1, by have := spl_word 10 s x.2 a2; omega⟩) (by simp) (by omega) (by omega)
theorem st_or {l : List Cmd} {o : D} {T : List (List D)} (h : StOk l o T) : o = .p .nils ∨ ∃ i n, o = .gsl i 35 n 3 := by
  rcases h with ⟨_, rfl, _⟩ | ⟨j, _, rfl, _⟩
  · exact .inl rfl
  · exact .inr ⟨_, _, rfl⟩
theorem parse_ok {s : List UInt8} (hs : s.length ≤ 65536) {l : List Cmd} {o : D} {T : List (List D)} {a k : Nat} (h1 : rnds (lns 0 (spl 10 s)) (rH (.p .nils) 0 0 s []) = some (.norm, ⟨env0, rH o a k s T⟩)) (h2 : StOk l o T) :
    runF (call pg0) pgD pg0.G iterX fc11 ⟨entry 0 [.p (.str s)], ⟨[], []⟩⟩ = some (.val (.tup [o, .p (.int .i64 0), .p (.int .i64 0)]), rH o 0 k s T) := by
  have hs' : ¬ (65536 : Int) < (s.length : Int) := by omega
  have hl := fun H => lines_eq s H
  have hd := dcall_nil h2 0 k s
  have hs2 : s.length < 4294967281 := by omega
  have ho := st_or h2
  simp only [rnds, asg11, env0, rH, Int.cast_ofNat_Int] at h1
  simp only [rH, dfrC, Int.cast_ofNat_Int] at hd
  rcases ho with rfl | ⟨i, n, rfl⟩ <;> simp [runF, fc11, evSeqL, evOps, evKC, evK, evGuard, put, Env.get, Env.keep, entry, Opd.ev, loadD, storeD, cutAt, binD, lenD, finish, evRes, evRes1, mapO, D.cells, D.one, PD.one, rH, mapc_p, mapc_g, spl1, hs', hl, rangeK, gen33, hs2, h1, endDfr, hd]
theorem parse_pan {s : List UInt8} (hs : s.length ≤ 65536) {l : List Cmd} {o : D} {T : List (List D)} {a k : Nat} {c : Int} (h1 : rnds (lns 0 (spl 10 s)) (rH (.p .nils) 0 0 s []) = some (.pan (errD c), ⟨env0, rH o a k s T⟩)) (h2 : StOk l o T) :
    runF (call pg0) pgD pg0.G iterX fc11 ⟨entry 0 [.p (.str s)], ⟨[], []⟩⟩ = some (.val (.tup [.p .nils, .p (.int .i64 c), .p (.int .i64 (a : Int))]), eH c a k s T) := by
  have hs' : ¬ (65536 : Int) < (s.length : Int) := by omega
  have hl := fun H => lines_eq s H
  have hd := dcall_err h2 c a k s
  have hs2 : s.length < 4294967281 := by omega
  simp only [rnds, asg11, env0, rH, Int.cast_ofNat_Int, errD] at h1
  simp only [rH, dfrC, eH, errD] at hd
  simp [runF, fc11, evSeqL, evOps, evKC, evK, evGuard, put, Env.get, Env.keep, entry, Opd.ev, loadD, storeD, cutAt, binD, lenD, finish, evRes, evRes1, mapO, D.cells, D.one, PD.one, eH, mapc_p, spl1, hs', hl, rangeK, gen33, hs2, h1, endDfr, hd]

end Go.Proofs.YtebbfckifhbkoaaGreatDoor

namespace Go.Proofs.YtebbfckifhbkoaaGreatDoor
open Go.Vs
def cmdPs (c : Cmd) : List PD := [.int .i64 (c.kind : Int), .str c.text, .slice 1 (intsP c.nums)]
theorem cells_frz (k : Nat) (H : Hp) (f : Nat) : ∀ l : List Cmd, (l.flatMap cmdCells).map (D.frz k H (f + 1)) = l.flatMap cmdCells
  | [] => rfl
  | c :: l => by
    rw [List.flatMap_cons, List.map_append, cells_frz k H f l]
    rfl
theorem cells_pd : ∀ l : List Cmd, D.asPDL (l.flatMap cmdCells) = some (l.flatMap cmdPs)
  | [] => rfl
  | c :: l => by simp only [List.flatMap_cons, cmdCells, cmdPs, List.cons_append, List.nil_append, D.asPDL, D.asPD, cells_pd l, Option.map_some]
theorem cells_chunks : ∀ l : List Cmd, chunks 3 l.length (l.flatMap cmdPs) = l.map cmdP
  | [] => rfl
  | c :: l => by
    have ih := cells_chunks l
    simp only [List.length_cons, chunks, List.flatMap_cons, cmdPs, List.cons_append, List.nil_append, List.map_cons, List.drop_succ_cons, List.drop_zero, List.take_succ_cons, List.take_zero] at ih ⊢
    rw [ih]
    simp [cmdP, intsP]
theorem frz_gsl (k : Nat) (H : Hp) (f i e n sz : Nat) {cs : List D} {ps : List PD} (hk : k ≤ i) (hb : H.bx[i]? = some cs) (h1 : isMapC cs = false ∧ 0 + n * sz ≤ cs.length ∧ 0 < sz) (h2 : D.asPDL ((sub cs 0 (0 + n * sz)).map (D.frz k H f)) = some ps) : D.frz k H (f + 1) (.gsl i e n sz) = .p (.slice sz (chunks sz n ps)) := by
  simp only [D.frz]
  rw [if_pos hk, hb]
  dsimp only
  rw [if_pos h1, h2]
theorem frz_out {l : List Cmd} {o : D} {T : List (List D)} (h : StOk l o T) (a k : Nat) (s : List UInt8) : D.frz 0 (rH o a k s T) 7 o = .p (cmdsP l) := by
  rcases h with ⟨rfl, rfl, rfl⟩ | ⟨j, hne, rfl, hT⟩
  · rfl
  · have hb : (rH (.gsl (j + 5) 35 l.length 3) a k s T).bx[j + 5]? = some (l.flatMap cmdCells) := by simp [rH, hT]
    have hsub : sub (l.flatMap cmdCells) 0 (0 + l.length * 3) = l.flatMap cmdCells := by
      unfold sub
      rw [List.drop_zero, List.take_of_length_le (by rw [cells_len]; omega)]
    rw [frz_gsl 0 _ 6 (j + 5) 35 l.length 3 (Nat.zero_le _) hb ⟨mapc_cells l, by rw [cells_len]; omega, by omega⟩ (by rw [hsub, cells_frz, cells_pd]), cells_chunks]
    simp only [cmdsP, if_neg hne]
theorem seal_ok' {l : List Cmd} {o : D} {T : List (List D)} (h : StOk l o T) (a k : Nat) (s : List UInt8) : sealF 0 (.val (.tup [o, .p (.int .i64 0), .p (.int .i64 0)]), rH o a k s T) = (.val (.tup [.p (cmdsP l), .p (.int .i64 0), .p (.int .i64 0)]), ⟨[], []⟩) := by
  have hf := frz_out h a k s
  have e1 : (Res.val (.tup [o, .p (.int .i64 0), .p (.int .i64 0)])).frz 0 (rH o a k s T) = .val (.tup [.p (cmdsP l), .p (.int .i64 0), .p (.int .i64 0)]) := by
    show Res.val (.tup [D.frz 0 (rH o a k s T) 7 o, _, _]) = _
    rw [hf]; rfl
  unfold sealF
  dsimp only
  rw [e1]
  simp [mapO, Res.ren, D.ren, D.renL, rH]
theorem seal_flat (x y z : PD) (bx : List (List D)) : sealF 0 (.val (.tup [.p x, .p y, .p z]), ⟨bx, []⟩) = (.val (.tup [.p x, .p y, .p z]), ⟨[], []⟩) := by
  unfold sealF
  have e1 : (Res.val (.tup [.p x, .p y, .p z])).frz 0 ⟨bx, []⟩ = .val (.tup [.p x, .p y, .p z]) := rfl
  dsimp only
  rw [e1]
  simp [mapO, Res.ren, D.ren, D.renL]
theorem parse_run (s : List UInt8) : closeF true 0 (runF (call pg0) pgD pg0.G iterX fc11 ⟨entry 0 [.p (.str s)], ⟨[], []⟩⟩) = some (.val (parV s), ⟨[], []⟩) := by
  unfold parV parse
  by_cases hs : 65536 < s.length
  · rw [if_pos hs, parse_big hs]
    simp only [closeF, if_true, Option.map_some, seal_flat]
    rfl
  · rw [if_neg hs]
    have h := parse_rounds (s := s) (by omega)
    split at h
    · rename_i l' hp
      obtain ⟨o', T', a', k', h1, h2, h3⟩ := h
      rw [parse_ok (by omega) h1 h2]
      simp only [closeF, if_true, Option.map_some, seal_ok' h2]
      rw [hp]
    · rename_i e n hp
      obtain ⟨l', o', T', k', h1, h2⟩ := h
      rw [parse_pan (by omega) h1 h2]
      simp only [closeF, if_true, Option.map_some, eH, seal_flat]
      rw [hp]

variable {W : World}
theorem meets_parse (hW : WOk W) (s : List UInt8) : Meets Tryz.prog W pgG 11 [.p (.str s)] ⟨[], []⟩ (.val (parV s)) ⟨[], []⟩ := by
  refine close_ok (frz := true) (H := ⟨[], []⟩) (parse_run s) fun r0 H0 h => ?_
  obtain ⟨m, hm⟩ := hW.max
  have hg : GenOk Tryz.prog W pg0.G 33 gen33 := gen_ok m hm
  refine dfr_okR (call_sound (pg0_ok hW)) (pg0_ok hW).mixed (it := iterX) (fun b s r h => iterX_iff.1 h) (T := pgD) dfr_ok ok11 rfl (by decide) ?_ rfl h
  refine ⟨trivial, trivial, ⟨hg, ⟨trivial, trivial⟩, ?_⟩, trivial, trivial⟩
  exact SC.gens_of (by decide)
theorem lib_sound (hW : WOk W) : Sound Tryz.prog W pg.G pg.lib := by
  intro f args H r H' h
  have h : pgL f args H = some (r, H') := h
  unfold pgL at h
  split at h
  · split at h
    · cases h; exact meets_parse hW _
    · cases h
  · exact lib_sound0 hW _ _ _ _ _ h
theorem pg_ok (hW : WOk W) : PgOk Tryz.prog W pg where
  mixed := (pg0_ok hW).mixed
  lib := lib_sound hW
  fn := fn_ok
  dfn := dfr_ok

end Go.Proofs.YtebbfckifhbkoaaGreatDoor

namespace Go.Proofs.YtebbfckifhbkoaaGreatDoor
open Go.Vs
def bytesP (l : List UInt8) : List PD := l.map fun b => .int .u8 b.toNat
theorem bytesP_len (l : List UInt8) : (bytesP l).length = l.length := by simp [bytesP]
theorem bytesP_app (a b : List UInt8) : bytesP (a ++ b) = bytesP a ++ bytesP b := by simp [bytesP]
theorem bytesOf_bytesP : ∀ l : List UInt8, bytesOf (bytesP l) = some l
  | [] => rfl
  | b :: l => by
    have := bytesOf_bytesP l
    simp only [bytesP] at this
    simp [bytesP, bytesOf, this]
def bldH (f : Bool) (l : List UInt8) (bx : List (List D)) : Hp := ⟨[if f then .fresh 62 2 0 else .box 0 0, .tsl 0 5 1 (bytesP l)] :: bx, [l.length]⟩
theorem reach_self {H : Hp} (h : boxRefs H [0] = [] ∨ boxRefs H [0] = [0]) : ∀ n, reach H n [0] = [0]
  | 0 => rfl
  | n + 1 => by
    rcases h with h | h
    · simp only [reach, h]
    · simp only [reach, h]
      exact reach_self (.inr h) n
theorem reach_bld (f : Bool) (l : List UInt8) (bx : List (List D)) (n : Nat) : reach (bldH f l bx) n [0] = [0] :=
  reach_self (.inr (by cases f <;> rfl)) n
theorem cc_call (f : Bool) (l : List UInt8) : callD (call pg) 55 [.box 0 0] (bldH f l []) = some (.val .undef, bldH false l []) := by
  have h : call pg 55 [.box 0 0] (bldH f l []) = some (.val .undef, bldH false l []) := by
    refine call_lib ?_
    cases f <;> rfl
  have hr := reach_bld f l []
  cases f <;> simp [bldH] at h hr ⊢ <;> simp [callD, boxToks, ins, Vs.nodupB, idx, D.renL, D.ren, back, firstN, putAll, Res.ren, D.refsL, D.refs, D.toksL, D.toks, mapO, hr, h]
theorem wbyte_eq (f : Bool) (l : List UInt8) (c : UInt8) (hb : l.length < 140737488355328) : call pg 39 [.box 0 0, u8 c] (bldH f l []) = some (.val (.p .nili), bldH false (l ++ [c]) []) := by
  refine call_body (fc := fc39) rfl rfl rfl rfl ?_
  have hc := cc_call f l
  have hr : roomy (l.length + 1) 1 = true := by simp [roomy]; omega
  cases f <;> simp [bldH] at hc ⊢ <;> simp [fc39, evKC, evK, put, Env.get, Env.keep, entry, Opd.ev, loadD, storeD, splice, cutAt, u8, finish, evRes, evRes1, D.cells, PD.cells, fillE, appendD, srcD, D.elems?, D.asPD, srcH, isMapC, hc, bytesP_len, hr, bytesP_app]
  all_goals simp [bytesP]
theorem wstr_eq (f : Bool) (l s : List UInt8) (hb : l.length + s.length ≤ 140737488355328) : call pg 38 [.box 0 0, .p (.str s)] (bldH f l []) = some (.val (.tup [.p (.int .i64 s.length), .p .nili]), bldH false (l ++ s) []) := by
  refine call_body (fc := fc38) rfl rfl rfl rfl ?_
  have hc := cc_call f l
  have hr : roomy (l.length + s.length) 1 = true := by simp [roomy]; omega
  cases f <;> simp [bldH] at hc ⊢ <;> simp [fc38, evKC, evK, put, Env.get, Env.keep, entry, Opd.ev, loadD, storeD, splice, cutAt, lenD, finish, evRes, evRes1, mapO, D.cells, appendD, srcD, srcH, isMapC, hc, bytesP_len, hr, bytesP_app]
  all_goals simp [bytesP]
theorem bstr_eq (f : Bool) (l : List UInt8) (hb : l.length ≤ 140737488355328) : call pg 28 [.box 0 0] (bldH f l []) = some (.val (.p (.str l)), bldH f l []) := by
  refine call_body (fc := fc28) rfl rfl rfl rfl ?_
  cases l with
  | nil => cases f <;> simp [fc28, bldH, bytesP, evKC, evK, put, Env.get, Env.keep, entry, Opd.ev, loadD, cutAt, lenD, clsP, cls, clsR, isCl, isW, apartRW, offB, apartWW, clash, insOk, finish, evRes, evRes1, D.elems?, isMapC, sdataD, ustrD]
  | cons b l =>
    have h := bytesOf_bytesP (b :: l)
    simp only [bytesP, List.map_cons] at h
    have hl : l.length + 1 ≤ 140737488355328 := hb
    cases f <;> simp [fc28, bldH, bytesP, evKC, evK, put, Env.get, Env.keep, entry, Opd.ev, loadD, cutAt, lenD, clsP, cls, clsR, isCl, isW, apartRW, offB, apartWW, clash, insOk, finish, evRes, evRes1, D.elems?, isMapC, sdataD, ustrD, h, hl]
theorem wb_call (f : Bool) (l : List UInt8) (c : UInt8) (bx : List (List D)) (hb : l.length < 140737488355328) : callD (call pg) 39 [.box 0 0, u8 c] (bldH f l bx) = some (.val (.p .nili), bldH false (l ++ [c]) bx) := by
  have h := wbyte_eq f l c hb
  have hr := reach_bld f l bx
  cases f <;> simp only [bldH, u8, Bool.false_eq_true, if_false, if_true] at h hr ⊢ <;> simp [callD, boxToks, ins, Vs.nodupB, idx, D.renL, D.ren, back, firstN, putAll, Res.ren, D.refsL, D.refs, D.toksL, D.toks, mapO, hr, h]
theorem ws_call (f : Bool) (l s : List UInt8) (bx : List (List D)) (hb : l.length + s.length ≤ 140737488355328) : callD (call pg) 38 [.box 0 0, .p (.str s)] (bldH f l bx) = some (.val (.tup [.p (.int .i64 s.length), .p .nili]), bldH false (l ++ s) bx) := by
  have h := wstr_eq f l s hb
  have hr := reach_bld f l bx
  cases f <;> simp only [bldH, Bool.false_eq_true, if_false, if_true] at h hr ⊢ <;> simp [callD, boxToks, ins, Vs.nodupB, idx, D.renL, D.ren, back, firstN, putAll, Res.ren, D.refsL, D.refs, D.toksL, D.toks, mapO, hr, h]
theorem bs_call (f : Bool) (l : List UInt8) (bx : List (List D)) (hb : l.length ≤ 140737488355328) : callD (call pg) 28 [.box 0 0] (bldH f l bx) = some (.val (.p (.str l)), bldH f l bx) := by
  have h := bstr_eq f l hb
  have hr := reach_bld f l bx
  cases f <;> simp only [bldH, Bool.false_eq_true, if_false, if_true] at h hr ⊢ <;> simp [callD, boxToks, ins, Vs.nodupB, idx, D.renL, D.ren, back, firstN, putAll, Res.ren, D.refsL, D.refs, D.toksL, D.toks, mapO, hr, h]

end Go.Proofs.YtebbfckifhbkoaaGreatDoor

namespace Go.Proofs.YtebbfckifhbkoaaGreatDoor
open Go.Vs
def slP (v : PD) (l : List Int) : Prop := (v = .nils ∧ l = []) ∨ (v = .emp 1 ∧ l = []) ∨ v = .slice 1 (intsP l)
def spI (x : Int) : List UInt8 := 32 :: Lib.itoa x
theorem binD_int (op : BinOp) (k : IntKind) (a b : Int) : binD op (.p (.int k a)) (.p (.int k b)) = (intBin op k a b).map .p := by simp [binD]
theorem bin_sp (x : Int) (h : (spI x).length ≤ 140737488355328) : binD .add (.p (.str [32])) (.p (.str (Lib.itoa x))) = some (.p (.str (spI x))) := by
  simp only [spI, List.length_cons] at h
  have h' : 1 + (Lib.itoa x).length ≤ 140737488355328 := by omega
  simp [binD, strBin, spI, h']
def i64 (x : Int) : Prop := -9223372036854775808 ≤ x ∧ x ≤ 9223372036854775807
theorem sl_len {v : PD} {l : List Int} (h : slP v l) : lenD 1 (.p v) = some l.length := by
  rcases h with ⟨rfl, rfl⟩ | ⟨rfl, rfl⟩ | rfl <;> simp [lenD, D.elems?, intsP]
theorem sl_ia {v : PD} {l : List Int} (h : slP v l) {j : Nat} (hj : j < l.length) : iaddrD none 1 (.p v) (j : Int) = some (.ro [.int .i64 l[j]] 0) := by
  rcases h with ⟨rfl, rfl⟩ | ⟨rfl, rfl⟩ | rfl
  · simp at hj
  · simp at hj
  · simp [iaddrD, D.elems?, intsP, hj, PD.cells]
theorem wr_loop {v : PD} {l : List Int} (hv : slP v l) (hl : ∀ x ∈ l, i64 x) (hlen : l.length ≤ 140737488355328) (t : List UInt8) : ∀ (n j : Nat) (f : Bool) (acc : List UInt8), j ≤ l.length → l.length - j ≤ n → acc.length + ((l.drop j).flatMap spI).length ≤ 140737488355328 →
    ∃ env f', loopK (call pg) pg.G [0, 3, 13, 14, 15] fc27_b0 ⟨[(0, .box 0 0), (3, .p (.str t)), (13, .p v), (14, .p (.int .i64 l.length)), (15, .p (.int .i64 j))], bldH f acc []⟩ =
      some (.exit 0, ⟨[(0, .box 0 0), (3, .p (.str t))] ++ env, bldH f' (acc ++ (l.drop j).flatMap spI) []⟩) := by
  intro n
  induction n with
  | zero =>
    intro j f acc hj hn hb
    have : j = l.length := by omega
    refine ⟨[(13, .p v), (14, .p (.int .i64 l.length)), (15, .p (.int .i64 j)), (16, .p (.bool false))], f, ?_⟩
    rw [List.drop_eq_nil_of_le (by omega)]
    refine loopK_out (o := .exit 0) ?_ (by simp)
    cases f <;> simp [fc27_b0, bldH, evKC, evK, put, Env.get, Env.keep, Opd.ev, binD, mapO, D.renL, D.ren, locD, below, Out.ren, List.map, this]
  | succ n ih =>
    intro j f acc hj hn hb
    by_cases he : j = l.length
    · refine ⟨[(13, .p v), (14, .p (.int .i64 l.length)), (15, .p (.int .i64 j)), (16, .p (.bool false))], f, ?_⟩
      rw [List.drop_eq_nil_of_le (by omega)]
      refine loopK_out (o := .exit 0) ?_ (by simp)
      cases f <;> simp [fc27_b0, bldH, evKC, evK, put, Env.get, Env.keep, Opd.ev, binD, mapO, D.renL, D.ren, locD, below, Out.ren, List.map, he]
    · have hlt : j < l.length := by omega
      have hlt' : (j : Int) < (l.length : Int) := by omega
      have hia := sl_ia hv hlt
      rw [List.drop_eq_getElem_cons hlt, List.flatMap_cons] at hb ⊢
      have hx := hl _ (List.getElem_mem hlt)
      generalize l[j] = x at *
      have hk1 := inc64 (k := j) (by omega)
      simp only [List.length_append] at hb
      obtain ⟨a1, ha1⟩ : ∃ a1, a1 = acc ++ spI x := ⟨_, rfl⟩
      obtain ⟨env, f', he⟩ := ih (j + 1) false a1 (by omega) (by omega) (by rw [ha1, List.length_append]; omega)
      refine ⟨env, f', ?_⟩
      rw [← List.append_assoc, ← ha1, ← he]
      have hw := ws_call f acc (spI x) [] (by omega)
      rw [← ha1] at hw
      have hi := fun H => itoa_call pg libOk hx H
      have hbin := bin_sp x (by omega)
      clear ha1
      refine loopK_norm ?_
      cases f <;> simp only [bldH, Bool.false_eq_true, if_false, if_true] at hw ⊢ <;> simp [fc27_b0, evKC, evK, put, Env.get, Env.keep, Opd.ev, loadD, cutAt, D.asInt?, mapO, D.renL, D.ren, locD, below, Out.ren, List.map, binD_int, hlt', hia, hi, hbin, hw, hk1]

end Go.Proofs.YtebbfckifhbkoaaGreatDoor

namespace Go.Proofs.YtebbfckifhbkoaaGreatDoor
open Go.Vs
def txT (t : List UInt8) : List UInt8 := if t = [] then [] else 124 :: (Lib.replaceAll t [10] [10, 124] ++ [10])
def wrT (w : List UInt8) (l : List Int) (t : List UInt8) : List UInt8 := w ++ (l.flatMap spI ++ (10 :: txT t))
theorem repl_call {t : List UInt8} (ht : t.length ≤ 4294967280) (H : Hp) : callD (call pg) 40 [.p (.str t), .p (.str [10]), .p (.str [10, 124])] H = some (.val (.p (.str (Lib.replaceAll t [10] [10, 124]))), H) := by
  have : call pg 40 [.p (.str t), .p (.str [10]), .p (.str [10, 124])] ⟨[], []⟩ = some (.val (.p (.str (Lib.replaceAll t [10] [10, 124]))), ⟨[], []⟩) := by
    refine call_lib ?_
    rw [libOk _ _ _ (by decide)]
    exact if_pos ⟨by omega, by simp; omega⟩
  exact callD_pure this rfl rfl rfl rfl
theorem write_eq (f : Bool) (acc w : List UInt8) {v : PD} {l : List Int} (hv : slP v l) (hl : ∀ x ∈ l, i64 x) {t : List UInt8} (ht : t.length ≤ 4294967280) (hb : acc.length + (wrT w l t).length ≤ 140737488355328) :
    call pg 27 [.box 0 0, .p (.str w), .p v, .p (.str t)] (bldH f acc []) = some (.val .undef, bldH false (acc ++ wrT w l t) []) := by
  unfold wrT at hb ⊢
  simp only [List.length_append, List.length_cons] at hb
  have hsp : ∀ l : List Int, l.length ≤ (l.flatMap spI).length := by
    intro l
    induction l with
    | nil => simp
    | cons x l ih => rw [List.flatMap_cons, List.length_append, List.length_cons, spI, List.length_cons]; omega
  have hll := hsp l
  have hb1 : acc.length + w.length + (l.flatMap spI).length + 1 ≤ 140737488355328 := by omega
  have h1 := ws_call f acc w [] (by omega)
  obtain ⟨a1, ha1⟩ : ∃ a, acc ++ w = a := ⟨_, rfl⟩
  have l1 : a1.length = acc.length + w.length := by rw [← ha1, List.length_append]
  rw [ha1] at h1
  obtain ⟨env, f', h2⟩ := wr_loop hv hl (by omega) t l.length 0 false a1 (by omega) (by omega) (by rw [List.drop_zero]; omega)
  rw [List.drop_zero] at h2
  obtain ⟨a2, ha2⟩ : ∃ a, a1 ++ l.flatMap spI = a := ⟨_, rfl⟩
  have l2 : a2.length = acc.length + w.length + (l.flatMap spI).length := by rw [← ha2, List.length_append, l1]
  rw [ha2] at h2
  have h3 : callD (call pg) 39 [.box 0 0, .p (.int .u8 10)] (bldH f' a2 []) = some (.val (.p .nili), bldH false (a2 ++ [10]) []) := wb_call f' a2 10 [] (by omega)
  obtain ⟨a3, ha3⟩ : ∃ a, a2 ++ [10] = a := ⟨_, rfl⟩
  have l3 : a3.length = a2.length + 1 := by rw [← ha3, List.length_append]; rfl
  rw [ha3] at h3
  have hlen := sl_len hv
  refine call_body (fc := fc27) rfl rfl rfl rfl ?_
  by_cases h0 : t = []
  · subst h0
    have e : acc ++ (w ++ (l.flatMap spI ++ 10 :: txT [])) = a3 := by rw [← ha3, ← ha2, ← ha1]; simp [txT]
    rw [e]
    clear ha1 ha2 ha3 e l1 l2 l3
    cases f <;> cases f' <;> simp only [bldH, Bool.false_eq_true, if_false, if_true, Int.cast_ofNat_Int] at h1 h2 h3 ⊢ <;> simp [fc27, evKC, evK, put, Env.get, Env.keep, entry, Opd.ev, binD, strBin, finish, evRes, h1, h2, h3, hlen]
  · have hne : t.isEmpty = false := by simpa using h0
    have h4 := fun H => repl_call ht H
    have htx : txT t = 124 :: (Lib.replaceAll t [10] [10, 124] ++ [10]) := by unfold txT; rw [if_neg h0]
    rw [htx] at hb ⊢
    simp only [List.length_cons, List.length_append, List.length_nil] at hb
    generalize Lib.replaceAll t [10] [10, 124] = u at *
    have h5 := ws_call false a3 (124 :: (u ++ [10])) [] (by simp only [List.length_append, List.length_cons, List.length_nil]; omega)
    obtain ⟨a4, ha4⟩ : ∃ a, a3 ++ (124 :: (u ++ [10])) = a := ⟨_, rfl⟩
    rw [ha4] at h5
    have e : acc ++ (w ++ (l.flatMap spI ++ 10 :: (124 :: (u ++ [10])))) = a4 := by rw [← ha4, ← ha3, ← ha2, ← ha1]; simp
    rw [e]
    have b1 : 1 + u.length ≤ 140737488355328 := by omega
    have b2 : u.length + 1 + 1 ≤ 140737488355328 := by omega
    clear ha1 ha2 ha3 ha4 e l1 l2 l3
    cases f <;> cases f' <;> simp only [bldH, Bool.false_eq_true, if_false, if_true, Int.cast_ofNat_Int] at h1 h2 h3 h5 ⊢ <;> simp [fc27, evKC, evK, put, Env.get, Env.keep, entry, Opd.ev, binD, strBin, finish, evRes, h1, h2, h3, h4, h5, hlen, hne, b1, b2]

end Go.Proofs.YtebbfckifhbkoaaGreatDoor

namespace Go.Proofs.YtebbfckifhbkoaaGreatDoor
open Go.Vs
theorem write_call (f : Bool) (acc w : List UInt8) {v : PD} {l : List Int} (hv : slP v l) (hl : ∀ x ∈ l, i64 x) {t : List UInt8} (ht : t.length ≤ 4294967280) (hb : acc.length + (wrT w l t).length ≤ 140737488355328) (bx : List (List D)) :
    callD (call pg) 27 [.box 0 0, .p (.str w), .p v, .p (.str t)] (bldH f acc bx) = some (.val .undef, bldH false (acc ++ wrT w l t) bx) := by
  have h := write_eq f acc w hv hl ht hb
  have hr := reach_bld f acc bx
  generalize acc ++ wrT w l t = a at *
  cases f <;> simp only [bldH, Bool.false_eq_true, if_false, if_true] at h hr ⊢ <;> simp [callD, boxToks, ins, Vs.nodupB, idx, D.renL, D.ren, back, firstN, putAll, Res.ren, D.refsL, D.refs, D.toksL, D.toks, mapO, hr, h]
def cmP (p : PD) (c : Cmd) : Prop := ∃ v, p = .agg [.int .i64 (c.kind : Int), .str c.text, v] ∧ slP v c.nums
def cmsP (p : PD) (l : List Cmd) : Prop := (p = .nils ∧ l = []) ∨ (p = .emp 3 ∧ l = []) ∨ ∃ es, p = .slice 3 es ∧ es.length = l.length ∧ ∀ (i : Nat) e c, es[i]? = some e → l[i]? = some c → cmP e c
theorem cms_len {p : PD} {l : List Cmd} (h : cmsP p l) : lenD 1 (.p p) = some l.length := by
  rcases h with ⟨rfl, rfl⟩ | ⟨rfl, rfl⟩ | ⟨es, rfl, hl, _⟩ <;> simp [lenD, D.elems?]
  exact hl
theorem cms_ia {p : PD} {l : List Cmd} (h : cmsP p l) {j : Nat} (hj : j < l.length) : ∃ v, slP v l[j].nums ∧ iaddrD none 3 (.p p) (j : Int) = some (.ro [.int .i64 (l[j].kind : Int), .str l[j].text, v] 0) := by
  rcases h with ⟨rfl, rfl⟩ | ⟨rfl, rfl⟩ | ⟨es, rfl, hl, he⟩
  · simp at hj
  · simp at hj
  · have hj' : j < es.length := by omega
    obtain ⟨v, h1, h2⟩ := he j es[j] l[j] (List.getElem?_eq_getElem hj') (List.getElem?_eq_getElem hj)
    refine ⟨v, h2, ?_⟩
    simp [iaddrD, D.elems?, hj', h1, PD.cells]
def fmtC (c : Cmd) : List UInt8 := wrT (rowAt c.kind).1 c.nums c.text
def fmtL (l : List Cmd) : List UInt8 := l.flatMap fmtC
theorem row_word {k : Nat} (h : k < 10) : rowC[k * 4]? = some (.str (rowAt k).1) := by
  match k, h with
  | 0, _ | 1, _ | 2, _ | 3, _ | 4, _ | 5, _ | 6, _ | 7, _ | 8, _ | 9, _ => rfl
theorem pg_G : pg.G 0 = some rowC := rfl
theorem fmt_loop {p : PD} {l : List Cmd} (hp : cmsP p l) (hk : ∀ c ∈ l, c.kind < 10 ∧ c.text.length ≤ 4294967280 ∧ ∀ x ∈ c.nums, i64 x) (hlen : l.length ≤ 140737488355328) : ∀ (n j : Nat) (f : Bool) (acc : List UInt8), j ≤ l.length → l.length - j ≤ n → acc.length + (fmtL (l.drop j)).length ≤ 140737488355328 →
    ∃ env f', loopK (call pg) pg.G [3, 6, 7, 8] fc15_b0 ⟨[(3, .box 0 0), (6, .p p), (7, .p (.int .i64 l.length)), (8, .p (.int .i64 j))], bldH f acc []⟩ =
      some (.exit 0, ⟨[(3, .box 0 0)] ++ env, bldH f' (acc ++ fmtL (l.drop j)) []⟩) := by
  intro n
  induction n with
  | zero =>
    intro j f acc hj hn hb
    have : j = l.length := by omega
    refine ⟨[(6, .p p), (7, .p (.int .i64 l.length)), (8, .p (.int .i64 j)), (9, .p (.bool false))], f, ?_⟩
    rw [List.drop_eq_nil_of_le (by omega)]
    refine loopK_out (o := .exit 0) ?_ (by simp)
    cases f <;> simp [fc15_b0, bldH, fmtL, evKC, evK, put, Env.get, Env.keep, Opd.ev, binD, mapO, D.renL, D.ren, locD, below, Out.ren, List.map, this]
  | succ n ih =>
    intro j f acc hj hn hb
    by_cases he : j = l.length
    · refine ⟨[(6, .p p), (7, .p (.int .i64 l.length)), (8, .p (.int .i64 j)), (9, .p (.bool false))], f, ?_⟩
      rw [List.drop_eq_nil_of_le (by omega)]
      refine loopK_out (o := .exit 0) ?_ (by simp)
      cases f <;> simp [fc15_b0, bldH, fmtL, evKC, evK, put, Env.get, Env.keep, Opd.ev, binD, mapO, D.renL, D.ren, locD, below, Out.ren, List.map, he]
    · have hlt : j < l.length := by omega
      have hlt' : (j : Int) < (l.length : Int) := by omega
      obtain ⟨v, hv, hia⟩ := cms_ia hp hlt
      obtain ⟨k1, k2, k3⟩ := hk _ (List.getElem_mem hlt)
      have hdr : fmtL (l.drop j) = fmtC l[j] ++ fmtL (l.drop (j + 1)) := by unfold fmtL; rw [List.drop_eq_getElem_cons hlt, List.flatMap_cons]
      rw [hdr] at hb ⊢
      generalize l[j] = c at *
      have hk1 := inc64 (k := j) (by omega)
      simp only [List.length_append] at hb
      obtain ⟨a1, ha1⟩ : ∃ a1, a1 = acc ++ fmtC c := ⟨_, rfl⟩
      obtain ⟨env, f', he⟩ := ih (j + 1) false a1 (by omega) (by omega) (by rw [ha1, List.length_append]; omega)
      refine ⟨env, f', ?_⟩
      rw [← List.append_assoc, ← ha1, ← he]
      have hw := write_call f acc (rowAt c.kind).1 hv k3 k2 (by unfold fmtC at hb; omega) [[.p (.int .i64 (c.kind : Int)), .p (.str c.text), .p v]]
      have e1 : acc ++ wrT (rowAt c.kind).1 c.nums c.text = a1 := ha1.symm
      rw [e1] at hw
      have hki : (c.kind : Int) < 10 := by omega
      have hrw := row_word k1
      have hgl : iaddrD (some 10) 4 (.glob 0 0) (c.kind : Int) = some (.glob 0 (c.kind * 4)) := by simp [iaddrD, hki]
      clear ha1 e1 hdr
      refine loopK_norm ?_
      have hv1 : ∃ q, v.cells = [q] ∧ v.one = true := by
        rcases hv with ⟨rfl, _⟩ | ⟨rfl, _⟩ | rfl <;> exact ⟨_, rfl, rfl⟩
      rcases hv with ⟨rfl, _⟩ | ⟨rfl, _⟩ | rfl <;> cases f <;> simp only [bldH, Bool.false_eq_true, if_false, if_true] at hw ⊢ <;> simp [fc15_b0, evKC, evK, put, Env.get, Env.keep, Opd.ev, loadD, storeD, splice, cutAt, D.asInt?, binD, sub, clsP, cls, clsR, isCl, isW, apartRW, offB, apartWW, clash, insOk, mapO, D.cells, D.one, PD.one, D.refsL, D.refs, D.toksL, D.toks, isMapC, D.renL, D.ren, locD, below, Out.ren, List.map, hlt', hia, hgl, hw, hk1, hrw, pg_G]
theorem format_eq0 {p : PD} {l : List Cmd} (hp : cmsP p l) (hk : ∀ c ∈ l, c.kind < 10 ∧ c.text.length ≤ 4294967280 ∧ ∀ x ∈ c.nums, i64 x) (hlen : l.length ≤ 140737488355328) (hb : (fmtL l).length ≤ 140737488355328) : ∃ H', call pg 15 [.p p] ⟨[], []⟩ = some (.val (.p (.str (fmtL l))), H') := by
  obtain ⟨env, f', h2⟩ := fmt_loop hp hk hlen l.length 0 true [] (by omega) (by omega) (by rw [List.drop_zero]; simpa using hb)
  rw [List.drop_zero, List.nil_append] at h2
  have h3 := bs_call f' (fmtL l) [] hb
  have hl := cms_len hp
  refine ⟨bldH f' (fmtL l) [], call_body (fc := fc15) rfl rfl rfl rfl ?_⟩
  cases f' <;> simp only [bldH, bytesP, List.map_nil, List.length_nil, Bool.false_eq_true, if_false, if_true, Int.cast_ofNat_Int] at h2 h3 ⊢ <;> simp [fc15, evKC, evK, put, Env.get, Env.keep, entry, Opd.ev, finish, evRes, evRes1, D.one, PD.one, isMapC, hl, h2, h3, allocBD, tokbD, tokD]
theorem format_call {p : PD} {l : List Cmd} (hp : cmsP p l) (hk : ∀ c ∈ l, c.kind < 10 ∧ c.text.length ≤ 4294967280 ∧ ∀ x ∈ c.nums, i64 x) (hlen : l.length ≤ 140737488355328) (hb : (fmtL l).length ≤ 140737488355328) (H : Hp) : callD (call pg) 15 [.p p] H = some (.val (.p (.str (fmtL l))), H) := by
  obtain ⟨H', h⟩ := format_eq0 hp hk hlen hb
  exact callD_purR h rfl rfl rfl rfl

end Go.Proofs.YtebbfckifhbkoaaGreatDoor

namespace Go.Proofs.YtebbfckifhbkoaaGreatDoor
open Go.Vs
def splG (c : UInt8) (u : List UInt8) : List UInt8 → List (List UInt8)
  | [] => [u]
  | b :: r => if b = c then u :: splG c [] r else splG c (u ++ [b]) r
theorem splG_spl (c : UInt8) : ∀ (r u : List UInt8), splG c u r = match spl c r with | w :: ws => (u ++ w) :: ws | [] => [u]
  | [], u => by simp [splG, spl]
  | b :: r, u => by
    simp only [splG, spl]
    have ih := splG_spl c r
    by_cases h : b = c
    · simp only [h, if_true, ih]
      cases hs : spl c r with
      | nil => exact (spl_ne c r hs).elim
      | cons w ws => simp
    · simp only [h, if_false, ih]
      cases hs : spl c r with
      | nil => exact (spl_ne c r hs).elim
      | cons w ws => simp
theorem splG_eq (c : UInt8) (s : List UInt8) : splG c [] s = spl c s := by
  rw [splG_spl]
  cases hs : spl c s with
  | nil => exact (spl_ne c s hs).elim
  | cons w ws => simp
def spEnv (s : List UInt8) (c : UInt8) (out : List (List UInt8)) (a i : Nat) : Env := [(0, .p (.str s)), (1, u8 c), (5, .tsl 0 9 1 (out.map .str)), (6, .p (.int .i64 (a : Int))), (7, .p (.int .i64 (i : Int)))]
theorem u8_eq (b c : UInt8) : ((b.toNat : Int) == (c.toNat : Int)) = decide (b = c) := by
  rw [Bool.eq_iff_iff]
  simp only [beq_iff_eq, decide_eq_true_eq]
  exact ⟨fun h => UInt8.toNat_inj.1 (by omega), fun h => by rw [h]⟩
theorem split_loop (c : UInt8) (s : List UInt8) (hs : s.length ≤ 4294967281) : ∀ (r pre u : List UInt8) (out : List (List UInt8)) (a i : Nat), s = pre ++ u ++ r → pre.length = a → a + u.length = i → out.length ≤ a →
    ∃ out' a' last, loopK (call pg) pg.G [0, 1, 5, 6, 7] fc19_b0 ⟨spEnv s c out a i, ⟨[], [out.length]⟩⟩ = some (.exit 0, ⟨spEnv s c out' a' s.length ++ [(12, .p (.bool false))], ⟨[], [out'.length]⟩⟩) ∧ a' ≤ s.length ∧ s.drop a' = last ∧ out' ++ [last] = out ++ splG c u r ∧ out'.length ≤ a' := by
  intro r
  induction r with
  | nil =>
    intro pre u out a i he ha hi ho
    have hl : i = s.length := by rw [he, ← hi, ← ha]; simp
    refine ⟨out, a, u, ?_, by omega, by rw [he, ← ha]; simp, by simp [splG], ho⟩
    refine loopK_out (o := .exit 0) ?_ (by simp)
    rw [hl]
    simp [fc19_b0, spEnv, evKC, evK, put, Env.get, Env.keep, Opd.ev, u8, binD, lenD, mapO, D.ren, locD, below, Out.ren, List.map]
  | cons b r ih =>
    intro pre u out a i he ha hi ho
    have hlt : i < s.length := by rw [he, ← hi, ← ha]; simp
    have hlt' : (i : Int) < (s.length : Int) := by omega
    have hg : s[i]? = some b := by
      rw [he, List.getElem?_append_right (by simp; omega), List.length_append, ha, hi, Nat.sub_self]; rfl
    have hw := inc64 (k := i) (by omega)
    have hb := u8_eq b c
    by_cases h : b = c
    · subst h
      have hsub : sub s a i = u := by
        unfold sub
        have e : s = (pre ++ u) ++ (b :: r) := he
        rw [e, List.take_append_of_le_length (by simp; omega), List.take_of_length_le (by simp; omega), ← ha, List.drop_left]
      have hro : roomy (out.length + 1) 16 = true := by simp [roomy]; omega
      obtain ⟨out', a', last, h1, h2, h3, h4, h5⟩ := ih (pre ++ u ++ [b]) [] (out ++ [u]) (i + 1) (i + 1) (by rw [he]; simp) (by simp; omega) (by simp) (by simp; omega)
      refine ⟨out', a', last, ?_, h2, h3, by rw [h4]; simp [splG], h5⟩
      rw [← h1]
      refine loopK_norm ?_
      have hai : a ≤ i := by omega
      have hil : i ≤ s.length := by omega
      simp [fc19_b0, spEnv, evKC, evK, put, Env.get, Env.keep, Opd.ev, indexD, D.asInt?, D.asNat?, u8, binD, lenD, boundsD, sliceD, mapO, PD.one, PD.cells, fillE, appendD, srcD, D.elems?, D.asPD, Int.toNat_natCast, srcH, D.ren, locD, below, Out.ren, List.map, hlt', hg, hw, hsub, hro, hai, hil]
    · have hbn : ¬ b.toNat = c.toNat := fun e => h (UInt8.toNat_inj.1 e)
      obtain ⟨out', a', last, h1, h2, h3, h4, h5⟩ := ih pre (u ++ [b]) out a (i + 1) (by rw [he]; simp) ha (by simp; omega) ho
      refine ⟨out', a', last, ?_, h2, h3, by rw [h4]; simp [splG, h], h5⟩
      rw [← h1]
      refine loopK_norm ?_
      simp [fc19_b0, spEnv, evKC, evK, put, Env.get, Env.keep, Opd.ev, indexD, D.asInt?, u8, binD, lenD, mapO, Int.toNat_natCast, D.ren, locD, below, Out.ren, List.map, hlt', hg, hw, hb, h]
theorem rsplit_call {s : List UInt8} (hs : s.length ≤ 4294967280) (c : UInt8) (H : Hp) : callD (call pg) 19 [.p (.str s), u8 c] H = some (.val (.p (.slice 1 ((spl c s).map .str))), H) := by
  obtain ⟨out', a', last, h1, h2, h3, h4, h5⟩ := split_loop c s (by omega) s [] [] [] 0 0 rfl rfl rfl (by simp)
  rw [splG_eq, List.nil_append] at h4
  simp only [spEnv, u8, List.map_nil, List.length_nil, Int.cast_ofNat_Int] at h1
  have hro : roomy (out'.length + 1) 16 = true := by simp [roomy]; omega
  have hsub : sub s a' s.length = last := by unfold sub; rw [List.take_length]; exact h3
  have h : call pg 19 [.p (.str s), u8 c] ⟨[], []⟩ = some (.val (.tsl 0 9 1 ((out' ++ [last]).map .str)), ⟨[], [out'.length + 1]⟩) := by
    refine call_body (fc := fc19) rfl rfl rfl rfl ?_
    simp [fc19, evKC, evK, put, Env.get, Env.keep, entry, Opd.ev, D.asNat?, u8, boundsD, sliceD, finish, evRes, evRes1, PD.one, PD.cells, fillE, appendD, srcD, D.elems?, D.asPD, Int.toNat_natCast, srcH, h1, tokD, h2, hsub, hro]
  rw [← h4]
  exact callD_purR h rfl rfl rfl rfl

end Go.Proofs.YtebbfckifhbkoaaGreatDoor

namespace Go.Proofs.YtebbfckifhbkoaaGreatDoor
open Go.Vs
def dg (n : Nat) : List UInt8 := if n = 0 then [] else Lib.decDigits n
theorem dg_step {n : Nat} (h : 0 < n) : dg n = dg (n / 10) ++ [UInt8.ofNat (48 + n % 10)] := by
  unfold dg
  rw [if_neg (by omega)]
  by_cases h10 : n < 10
  · rw [Lib.decDigits, dif_pos h10, if_pos (by omega)]
    have : n % 10 = n := by omega
    rw [this]; rfl
  · rw [Lib.decDigits, dif_neg h10, if_neg (by omega)]
theorem dec_dg (n : Nat) : Lib.decDigits n = dg (n / 10) ++ [UInt8.ofNat (48 + n % 10)] := by
  by_cases h : 0 < n
  · rw [← dg_step h]; unfold dg; rw [if_neg (by omega)]
  · have : n = 0 := by omega
    subst this
    rw [Lib.decDigits, dif_pos (by omega)]; rfl
theorem tmod10 (n : Nat) : (n : Int).tmod 10 = ((n % 10 : Nat) : Int) := by rw [Int.tmod_eq_emod_of_nonneg (by omega)]; omega
theorem tdiv10 (n : Nat) : (n : Int).tdiv 10 = ((n / 10 : Nat) : Int) := by rw [Int.tdiv_eq_ediv_of_nonneg (by omega)]; omega
theorem u8w {d : Nat} (h : d < 10) : IntKind.u8.wrap (48 + (d : Int)) = 48 + (d : Int) := by
  simp [IntKind.wrap, IntKind.bits, IntKind.signed]; omega
theorem i64w {d : Nat} (h : d < 10) : IntKind.i64.wrap (48 + (d : Int)) = 48 + (d : Int) := by
  have := wrapN (n := 48 + d) (by omega); simpa using this
theorem byte48 {d : Nat} {c : UInt8} (h : UInt8.ofNat (48 + d) = c) : bytesOf [.int .u8 (48 + (d : Int))] = some [c] := by
  have e : (48 + (d : Int)).toNat = 48 + d := by omega
  simp only [bytesOf, e, h, Option.map_some]
theorem to48 (d : Nat) : (48 + (d : Int)).toNat = 48 + d := by omega
theorem dec_loop : ∀ (n : Nat) (acc : List UInt8), acc.length + n ≤ 140737488355328 →
    loopK (call pg) pg.G [0, 3] fc37_b0 ⟨[(0, .p (.int .i64 (n : Int))), (3, .p (.str acc))], ⟨[], []⟩⟩ = some (.exit 0, ⟨[(0, .p (.int .i64 0)), (3, .p (.str (dg n ++ acc))), (19, .p (.bool false))], ⟨[], []⟩⟩) := by
  intro n
  induction n using Nat.strongRecOn with
  | ind n ih =>
    intro acc hb
    by_cases h0 : 0 < n
    · have h0' : (0 : Int) < (n : Int) := by omega
      rw [dg_step h0]
      obtain ⟨d, hd⟩ : ∃ d, n % 10 = d := ⟨_, rfl⟩
      obtain ⟨q, hq⟩ : ∃ q, n / 10 = q := ⟨_, rfl⟩
      have h1 := tmod10 n
      have h2 := tdiv10 n
      rw [hd] at h1 ⊢
      rw [hq] at h2 ⊢
      have hd10 : d < 10 := by omega
      have e1 := u8w hd10
      have e2 := i64w hd10
      obtain ⟨c, hc⟩ : ∃ c, UInt8.ofNat (48 + d) = c := ⟨_, rfl⟩
      have e3 := byte48 hc
      rw [hc]
      have e4 : IntKind.i64.wrap (q : Int) = (q : Int) := wrapN (by omega)
      have e5 : 1 + acc.length ≤ 140737488355328 := by omega
      have ih' := ih q (by omega) (c :: acc) (by simp; omega)
      have : dg q ++ [c] ++ acc = dg q ++ c :: acc := by simp
      rw [this, ← ih']
      refine loopK_norm ?_
      simp [fc37_b0, evKC, evK, put, Env.get, Env.keep, Opd.ev, D.asInt?, binD, strBin, PD.one, PD.cells, fillE, D.elems?, D.asPD, srcBH, h0, h1, h2, e1, e2, e3, e4, e5, srcB]
    · have : n = 0 := by omega
      subst this
      refine loopK_out (o := .exit 0) ?_ (by simp)
      simp [fc37_b0, evKC, evK, put, Env.get, Env.keep, Opd.ev, binD, dg]
theorem decimal_nat (n : Nat) (hn : n ≤ 4294967296) : call pg 37 [.p (.int .i64 (n : Int))] ⟨[], []⟩ = some (.val (.p (.str (Lib.decDigits n))), ⟨[], []⟩) := by
  rw [dec_dg]
  obtain ⟨d, hd⟩ : ∃ d, n % 10 = d := ⟨_, rfl⟩
  obtain ⟨q, hq⟩ : ∃ q, n / 10 = q := ⟨_, rfl⟩
  have h1 := tmod10 n
  have h2 := tdiv10 n
  rw [hd] at h1 ⊢
  rw [hq] at h2 ⊢
  have hd10 : d < 10 := by omega
  have e1 := u8w hd10
  have e2 := i64w hd10
  obtain ⟨c, hc⟩ : ∃ c, UInt8.ofNat (48 + d) = c := ⟨_, rfl⟩
  have e3 := byte48 hc
  rw [hc]
  have e4 : IntKind.i64.wrap (q : Int) = (q : Int) := wrapN (by omega)
  have hl := dec_loop q [c] (by simp; omega)
  have h0 : ¬ (n : Int) < 0 := by omega
  refine call_body (fc := fc37) rfl rfl rfl rfl ?_
  simp [fc37, evKC, evK, put, Env.get, Env.keep, entry, Opd.ev, D.asInt?, binD, finish, evRes, evRes1, PD.one, PD.cells, fillE, D.elems?, D.asPD, srcBH, h0, h1, h2, e1, e2, e3, e4, hl, srcB]
theorem dig_len : ∀ (n : Nat), (Lib.decDigits n).length ≤ n + 1 := by
  intro n
  induction n using Nat.strongRecOn with
  | ind n ih =>
    rw [Lib.decDigits]
    split
    · simp
    · have := ih (n / 10) (by omega)
      simp; omega
theorem itoa_short {n : Nat} (h : n ≤ 4294967296) : (Lib.decDigits n).length ≤ 4294967297 := by have := dig_len n; omega
theorem decimal_eq {n : Int} (hn : -4294967296 ≤ n ∧ n ≤ 4294967296) : call pg 37 [.p (.int .i64 n)] ⟨[], []⟩ = some (.val (.p (.str (Lib.itoa n))), ⟨[], []⟩) := by
  unfold Lib.itoa
  by_cases h : n < 0
  · rw [if_pos h]
    have hc := decimal_nat n.natAbs (by omega)
    have hcc : ∀ H, callD (call pg) 37 [.p (.int .i64 (n.natAbs : Int))] H = some (.val (.p (.str (Lib.decDigits n.natAbs))), H) := fun H => callD_purR hc rfl rfl rfl rfl
    have e : IntKind.i64.wrap (-n) = (n.natAbs : Int) := by
      have : -n = (n.natAbs : Int) := by omega
      rw [this]; exact wrapN (by omega)
    have hlen : (Lib.decDigits n.natAbs).length ≤ 140737488355327 := by
      have := (itoa_short (n := n.natAbs) (by omega))
      omega
    have e5 : 1 + (Lib.decDigits n.natAbs).length ≤ 140737488355328 := by omega
    refine call_body (fc := fc37) rfl rfl rfl rfl ?_
    simp [fc37, evKC, evK, put, Env.get, Env.keep, entry, Opd.ev, binD, strBin, unD, finish, evRes, evRes1, h, e, hcc, e5]
  · rw [if_neg h]
    have : n = (n.toNat : Int) := by omega
    have hc := decimal_nat n.toNat (by omega)
    rw [← this] at hc
    exact hc

end Go.Proofs.YtebbfckifhbkoaaGreatDoor

namespace Go.Proofs.YtebbfckifhbkoaaGreatDoor
open Go.Vs
theorem decimal_call {n : Int} (hn : -4294967296 ≤ n ∧ n ≤ 4294967296) (H : Hp) : callD (call pg) 37 [.p (.int .i64 n)] H = some (.val (.p (.str (Lib.itoa n))), H) :=
  callD_purR (decimal_eq hn) rfl rfl rfl rfl
def small (x : Int) : Prop := -4294967296 ≤ x ∧ x ≤ 4294967296
theorem spI_len (x : Int) : (spI x).length = (Lib.itoa x).length + 1 := by simp [spI]
theorem nums_loop {v : PD} {l : List Int} (hv : slP v l) (hl : ∀ x ∈ l, small x) (hlen : l.length ≤ 140737488355328) : ∀ (n j : Nat) (acc : List UInt8), j ≤ l.length → l.length - j ≤ n → acc.length + ((l.drop j).flatMap spI).length ≤ 140737488355328 →
    ∃ env, loopK (call pg) pg.G [0, 3, 4] fc26_b0 ⟨[(0, .p v), (3, .p (.str acc)), (4, .p (.int .i64 j))], ⟨[], []⟩⟩ =
      some (.exit 0, ⟨[(0, .p v), (3, .p (.str (acc ++ (l.drop j).flatMap spI)))] ++ env, ⟨[], []⟩⟩) := by
  have hll := sl_len hv
  intro n
  induction n with
  | zero =>
    intro j acc hj hn hb
    have : j = l.length := by omega
    refine ⟨[(4, .p (.int .i64 j)), (8, .p (.bool false))], ?_⟩
    rw [List.drop_eq_nil_of_le (by omega)]
    refine loopK_out (o := .exit 0) ?_ (by simp)
    simp [fc26_b0, evKC, evK, put, Env.get, Env.keep, Opd.ev, binD, mapO, D.ren, locD, Out.ren, List.map, this, hll]
  | succ n ih =>
    intro j acc hj hn hb
    by_cases he : j = l.length
    · refine ⟨[(4, .p (.int .i64 j)), (8, .p (.bool false))], ?_⟩
      rw [List.drop_eq_nil_of_le (by omega)]
      refine loopK_out (o := .exit 0) ?_ (by simp)
      simp [fc26_b0, evKC, evK, put, Env.get, Env.keep, Opd.ev, binD, mapO, D.ren, locD, Out.ren, List.map, he, hll]
    · have hlt : j < l.length := by omega
      have hlt' : (j : Int) < (l.length : Int) := by omega
      have hia := sl_ia hv hlt
      rw [List.drop_eq_getElem_cons hlt, List.flatMap_cons] at hb ⊢
      have hx := hl _ (List.getElem_mem hlt)
      generalize l[j] = x at *
      have hk1 := inc64 (k := j) (by omega)
      simp only [List.length_append, spI_len] at hb
      obtain ⟨env, he⟩ := ih (j + 1) (acc ++ spI x) (by omega) (by omega) (by rw [List.length_append, spI_len]; omega)
      refine ⟨env, ?_⟩
      rw [← List.append_assoc, ← he]
      have hd := fun H => decimal_call hx H
      have e1 : acc ++ 32 :: Lib.itoa x = acc ++ spI x := rfl
      have b1 : acc.length + 1 ≤ 140737488355328 := by omega
      have b2 : acc.length + 1 + (Lib.itoa x).length ≤ 140737488355328 := by omega
      refine loopK_norm ?_
      simp [fc26_b0, evKC, evK, put, Env.get, Env.keep, Opd.ev, loadD, cutAt, D.asInt?, binD, strBin, mapO, D.ren, locD, Out.ren, List.map, hlt', hll, hia, hd, b1, b2, e1, hk1]
theorem numbers_call {v : PD} {l : List Int} (hv : slP v l) (hl : ∀ x ∈ l, small x) (hlen : l.length ≤ 140737488355328) (hb : (l.flatMap spI).length ≤ 140737488355328) (H : Hp) : callD (call pg) 26 [.p v] H = some (.val (.p (.str (l.flatMap spI))), H) := by
  obtain ⟨env, h1⟩ := nums_loop hv hl hlen l.length 0 [] (by omega) (by omega) (by rw [List.drop_zero]; simpa using hb)
  rw [List.drop_zero, List.nil_append] at h1
  simp only [Int.cast_ofNat_Int] at h1
  have h : call pg 26 [.p v] ⟨[], []⟩ = some (.val (.p (.str (l.flatMap spI))), ⟨[], []⟩) := by
    refine call_body (fc := fc26) rfl rfl rfl rfl ?_
    simp [fc26, evKC, evK, put, Env.get, Env.keep, entry, Opd.ev, finish, evRes, evRes1, h1]
  exact callD_purR h rfl rfl rfl rfl
def refT (ws : List (List UInt8)) : List UInt8 := ws.flatMap fun w => 124 :: (w ++ [10])
theorem text_loop {ws : List (List UInt8)} (hlen : ws.length ≤ 140737488355328) : ∀ (n j : Nat) (acc : List UInt8), j ≤ ws.length → ws.length - j ≤ n → acc.length + (refT (ws.drop j)).length ≤ 140737488355328 →
    ∃ env, loopK (call pg) pg.G [3, 4, 5] fc29_b0 ⟨[(3, .p (.str acc)), (4, .p (.slice 1 (ws.map .str))), (5, .p (.int .i64 j))], ⟨[], []⟩⟩ =
      some (.exit 0, ⟨[(3, .p (.str (acc ++ refT (ws.drop j))))] ++ env, ⟨[], []⟩⟩) := by
  intro n
  induction n with
  | zero =>
    intro j acc hj hn hb
    have : j = ws.length := by omega
    refine ⟨[(4, .p (.slice 1 (ws.map .str))), (5, .p (.int .i64 j)), (13, .p (.bool false))], ?_⟩
    rw [List.drop_eq_nil_of_le (by omega)]
    refine loopK_out (o := .exit 0) ?_ (by simp)
    simp [fc29_b0, refT, evKC, evK, put, Env.get, Env.keep, Opd.ev, binD, lenD, D.elems?, this]
  | succ n ih =>
    intro j acc hj hn hb
    by_cases he : j = ws.length
    · refine ⟨[(4, .p (.slice 1 (ws.map .str))), (5, .p (.int .i64 j)), (13, .p (.bool false))], ?_⟩
      rw [List.drop_eq_nil_of_le (by omega)]
      refine loopK_out (o := .exit 0) ?_ (by simp)
      simp [fc29_b0, refT, evKC, evK, put, Env.get, Env.keep, Opd.ev, binD, lenD, D.elems?, he]
    · have hlt : j < ws.length := by omega
      have hlt' : (j : Int) < (ws.length : Int) := by omega
      have hdr : refT (ws.drop j) = (124 :: (ws[j] ++ [10])) ++ refT (ws.drop (j + 1)) := by unfold refT; rw [List.drop_eq_getElem_cons hlt, List.flatMap_cons]
      have hx : (ws.map PD.str)[j]? = some (.str ws[j]) := words_get (List.getElem?_eq_getElem hlt)
      rw [hdr] at hb ⊢
      generalize ws[j] = x at *
      have hk1 := inc64 (k := j) (by omega)
      simp only [List.length_append, List.length_cons, List.length_nil] at hb
      obtain ⟨env, he⟩ := ih (j + 1) (acc ++ (124 :: (x ++ [10]))) (by omega) (by omega) (by simp only [List.length_append, List.length_cons, List.length_nil]; omega)
      refine ⟨env, ?_⟩
      rw [← List.append_assoc, ← he]
      have b1 : acc.length + 1 ≤ 140737488355328 := by omega
      have b2 : acc.length + 1 + x.length ≤ 140737488355328 := by omega
      have b2' : acc.length + (x.length + 1) ≤ 140737488355328 := by omega
      have b3 : acc.length + 1 + x.length + 1 ≤ 140737488355328 := by omega
      have b3' : acc.length + (x.length + 1) + 1 ≤ 140737488355328 := by omega
      refine loopK_norm ?_
      simp [fc29_b0, evKC, evK, put, Env.get, Env.keep, Opd.ev, loadD, cutAt, D.asInt?, binD, strBin, lenD, iaddrD, PD.cells, D.elems?, Int.toNat_natCast, hlt', hx, b1, b2, b3', hk1]

end Go.Proofs.YtebbfckifhbkoaaGreatDoor

namespace Go.Proofs.YtebbfckifhbkoaaGreatDoor
open Go.Vs
def rowsE : List PD := (rowL.drop 1).map fun r => .agg (rowP r)
def rowsF : D := .fsl 54 4 rowsE
theorem rows_call (H : Hp) : callD (call pg) 24 [] H = some (.val rowsF, H) := by
  have h : call pg 24 [] ⟨[], []⟩ = some (.val rowsF, ⟨[], []⟩) := by
    refine call_body (fc := fc24) rfl rfl rfl rfl ?_
    simp [fc24, evKC, evK, put, Env.get, Env.keep, entry, Opd.ev, splice, finish, evRes, evRes1, D.cells, D.one, PD.one, PD.cells, mkAgg, pures, fillD, fillE, D.asPD, rowsF, rowsE, rowL, rowP]
  exact callD_purR h rfl rfl rfl rfl
theorem rows_ia {k : Nat} (h0 : 0 < k) (h : k < 10) : iaddrD none 4 rowsF ((k : Int) - 1) = some (.ro (rowP (rowAt k)) 0) := by
  match k, h0, h with
  | 1, _, _ | 2, _, _ | 3, _, _ | 4, _, _ | 5, _, _ | 6, _, _ | 7, _, _ | 8, _, _ | 9, _, _ => rfl
def refTx (t : List UInt8) : List UInt8 := if t = [] then [] else refT (spl 10 t)
theorem refT_len (ws : List (List UInt8)) : (refT ws).length = (ws.map fun x => x.length + 1).sum + ws.length := by
  induction ws with
  | nil => rfl
  | cons w ws ih => simp [refT] at ih ⊢; omega
theorem text_call {t : List UInt8} (ht : t.length ≤ 4294967280) (H : Hp) : callD (call pg) 29 [.p (.str t)] H = some (.val (.p (.str (refTx t))), H) := by
  have hs := fun H => rsplit_call ht 10 H
  simp only [u8] at hs
  have hs' : ∀ H, callD (call pg) 19 [.p (.str t), .p (.int .u8 10)] H = some (.val (.p (.slice 1 ((spl 10 t).map .str))), H) := hs
  have h1 := spl_sum 10 t
  have h2 := spl_len 10 t
  obtain ⟨env, h3⟩ := text_loop (ws := spl 10 t) (by omega) (spl 10 t).length 0 [] (by omega) (by omega) (by rw [List.drop_zero, refT_len]; simp; omega)
  rw [List.drop_zero, List.nil_append] at h3
  simp only [Int.cast_ofNat_Int] at h3
  have h : call pg 29 [.p (.str t)] ⟨[], []⟩ = some (.val (.p (.str (refTx t))), ⟨[], []⟩) := by
    refine call_body (fc := fc29) rfl rfl rfl rfl ?_
    unfold refTx
    by_cases h0 : t = []
    · subst h0; simp [fc29, evKC, evK, put, Env.get, Env.keep, entry, Opd.ev, binD, strBin, finish, evRes, evRes1]
    · have h0' : (t == []) = false := by simpa using h0
      have h0e : t.isEmpty = false := by simpa using h0
      simp [fc29, evKC, evK, put, Env.get, Env.keep, entry, Opd.ev, binD, strBin, finish, evRes, evRes1, h0, h0', hs', h3]
  exact callD_purR h rfl rfl rfl rfl
def rfmtC (c : Cmd) : List UInt8 := (rowAt c.kind).1 ++ (c.nums.flatMap spI ++ (10 :: refTx c.text))
def rfmtL (l : List Cmd) : List UInt8 := l.flatMap rfmtC
theorem rfmt_loop {p : PD} {l : List Cmd} (hp : cmsP p l) (hk : ∀ c ∈ l, 0 < c.kind ∧ c.kind < 10 ∧ c.text.length ≤ 4294967280 ∧ c.nums.length ≤ 140737488355328 ∧ ∀ x ∈ c.nums, small x) (hlen : l.length ≤ 140737488355328) : ∀ (n j : Nat) (acc : List UInt8), j ≤ l.length → l.length - j ≤ n → acc.length + (rfmtL (l.drop j)).length ≤ 140737488355328 →
    ∃ env, loopK (call pg) pg.G [0, 3, 4] fc16_b0 ⟨[(0, .p p), (3, .p (.str acc)), (4, .p (.int .i64 j))], ⟨[], []⟩⟩ =
      some (.exit 0, ⟨[(0, .p p), (3, .p (.str (acc ++ rfmtL (l.drop j))))] ++ env, ⟨[], []⟩⟩) := by
  have hll := cms_len hp
  intro n
  induction n with
  | zero =>
    intro j acc hj hn hb
    have : j = l.length := by omega
    refine ⟨[(4, .p (.int .i64 j)), (8, .p (.bool false))], ?_⟩
    rw [List.drop_eq_nil_of_le (by omega)]
    refine loopK_out (o := .exit 0) ?_ (by simp)
    simp [fc16_b0, rfmtL, evKC, evK, put, Env.get, Env.keep, Opd.ev, binD, mapO, D.ren, locD, Out.ren, List.map, this, hll]
  | succ n ih =>
    intro j acc hj hn hb
    by_cases he : j = l.length
    · refine ⟨[(4, .p (.int .i64 j)), (8, .p (.bool false))], ?_⟩
      rw [List.drop_eq_nil_of_le (by omega)]
      refine loopK_out (o := .exit 0) ?_ (by simp)
      simp [fc16_b0, rfmtL, evKC, evK, put, Env.get, Env.keep, Opd.ev, binD, mapO, D.ren, locD, Out.ren, List.map, he, hll]
    · have hlt : j < l.length := by omega
      have hlt' : (j : Int) < (l.length : Int) := by omega
      obtain ⟨v, hv, hia⟩ := cms_ia hp hlt
      obtain ⟨k0, k1, k2, k4, k3⟩ := hk _ (List.getElem_mem hlt)
      have hdr : rfmtL (l.drop j) = rfmtC l[j] ++ rfmtL (l.drop (j + 1)) := by unfold rfmtL; rw [List.drop_eq_getElem_cons hlt, List.flatMap_cons]
      rw [hdr] at hb ⊢
      generalize l[j] = c at *
      have hk1 := inc64 (k := j) (by omega)
      simp only [List.length_append] at hb
      obtain ⟨env, he⟩ := ih (j + 1) (acc ++ rfmtC c) (by omega) (by omega) (by rw [List.length_append]; omega)
      refine ⟨env, ?_⟩
      rw [← List.append_assoc, ← he]
      unfold rfmtC at hb
      simp only [List.length_append, List.length_cons] at hb
      have hr := rows_call
      have hri := rows_ia k0 k1
      have hwk : IntKind.i64.wrap ((c.kind : Int) - 1) = (c.kind : Int) - 1 := by
        have := wrapN (n := c.kind - 1) (by omega)
        have e : ((c.kind - 1 : Nat) : Int) = (c.kind : Int) - 1 := by omega
        rw [e] at this; exact this
      have hnu := fun H => numbers_call hv k3 k4 (by omega) H
      have htx := fun H => text_call k2 H
      have hrow : rowP (rowAt c.kind) = [.str (rowAt c.kind).1, .int .i64 (rowAt c.kind).2.1, .int .i64 (rowAt c.kind).2.2.1, .bool (rowAt c.kind).2.2.2] := rfl
      rw [hrow] at hri
      unfold rfmtC
      generalize (rowAt c.kind).1 = w at *
      generalize c.nums.flatMap spI = nn at *
      generalize refTx c.text = tt at *
      have b1 : acc.length + w.length ≤ 140737488355328 := by omega
      have b2 : acc.length + w.length + nn.length ≤ 140737488355328 := by omega
      have b3 : acc.length + w.length + nn.length + 1 ≤ 140737488355328 := by omega
      have b4 : acc.length + w.length + nn.length + 1 + tt.length ≤ 140737488355328 := by omega
      have c2 : acc.length + (w.length + nn.length) ≤ 140737488355328 := by omega
      have c3 : acc.length + (w.length + (nn.length + 1)) ≤ 140737488355328 := by omega
      have c4 : acc.length + (w.length + nn.length) ≤ 140737488355327 := by omega
      have c5 : acc.length + (w.length + (nn.length + 1)) + tt.length ≤ 140737488355328 := by omega
      refine loopK_norm ?_
      simp [fc16_b0, evKC, evK, put, Env.get, Env.keep, Opd.ev, loadD, cutAt, D.asInt?, binD, strBin, clsP, cls, isW, apartRW, offB, apartWW, clash, insOk, mapO, D.refsL, D.refs, D.toksL, D.toks, D.ren, locD, Out.ren, List.map, hlt', hll, hia, hr, hri, hwk, hnu, htx, b1, b2, c4, c5, hk1]
theorem rformat_call {p : PD} {l : List Cmd} (hp : cmsP p l) (hk : ∀ c ∈ l, 0 < c.kind ∧ c.kind < 10 ∧ c.text.length ≤ 4294967280 ∧ c.nums.length ≤ 140737488355328 ∧ ∀ x ∈ c.nums, small x) (hlen : l.length ≤ 140737488355328) (hb : (rfmtL l).length ≤ 140737488355328) (H : Hp) : callD (call pg) 16 [.p p] H = some (.val (.p (.str (rfmtL l))), H) := by
  obtain ⟨env, h1⟩ := rfmt_loop hp hk hlen l.length 0 [] (by omega) (by omega) (by rw [List.drop_zero]; simpa using hb)
  rw [List.drop_zero, List.nil_append] at h1
  simp only [Int.cast_ofNat_Int] at h1
  have h : call pg 16 [.p p] ⟨[], []⟩ = some (.val (.p (.str (rfmtL l))), ⟨[], []⟩) := by
    refine call_body (fc := fc16) rfl rfl rfl rfl ?_
    simp [fc16, evKC, evK, put, Env.get, Env.keep, entry, Opd.ev, finish, evRes, evRes1, h1]
  exact callD_purR h rfl rfl rfl rfl

end Go.Proofs.YtebbfckifhbkoaaGreatDoor

namespace Go.Proofs.YtebbfckifhbkoaaGreatDoor
open Go.Vs
def eqC (c d : Cmd) : Bool := decide (c.kind = d.kind) && decide (c.text = d.text) && decide (c.nums.flatMap spI = d.nums.flatMap spI)
def allEq : List Cmd → List Cmd → Bool
  | c :: a, d :: b => eqC c d && allEq a b
  | _, _ => true
theorem allEq_nil : allEq [] [] = true := rfl
def okNums (l : List Cmd) : Prop := ∀ c ∈ l, c.nums.length ≤ 4294967296 ∧ (c.nums.flatMap spI).length ≤ 140737488355328 ∧ ∀ x ∈ c.nums, small x
theorem same_loop {p q : PD} {a b : List Cmd} (hp : cmsP p a) (hq : cmsP q b) (ha : okNums a) (hb : okNums b) (hl : a.length = b.length) (hlen : a.length ≤ 4294967296) : ∀ (n j : Nat), j ≤ a.length → a.length - j ≤ n →
    ∃ env, loopK (call pg) pg.G [0, 1, 5] fc14_b0 ⟨[(0, .p p), (1, .p q), (5, .p (.int .i64 j))], ⟨[], []⟩⟩ =
      if allEq (a.drop j) (b.drop j) then some (.exit 0, ⟨env, ⟨[], []⟩⟩) else some (.ret, ⟨[(4, .p (.bool false))], ⟨[], []⟩⟩) := by
  have hll := cms_len hp
  intro n
  induction n with
  | zero =>
    intro j hj hn
    have : j = a.length := by omega
    refine ⟨[(0, .p p), (1, .p q), (5, .p (.int .i64 j)), (14, .p (.bool false))], ?_⟩
    rw [List.drop_eq_nil_of_le (by omega), List.drop_eq_nil_of_le (by omega), allEq_nil, if_pos rfl]
    refine loopK_out (o := .exit 0) ?_ (by simp)
    simp [fc14_b0, evKC, evK, put, Env.get, Env.keep, Opd.ev, binD, mapO, D.ren, locD, Out.ren, List.map, this, hll]
  | succ n ih =>
    intro j hj hn
    by_cases he : j = a.length
    · refine ⟨[(0, .p p), (1, .p q), (5, .p (.int .i64 j)), (14, .p (.bool false))], ?_⟩
      rw [List.drop_eq_nil_of_le (by omega), List.drop_eq_nil_of_le (by omega), allEq_nil, if_pos rfl]
      refine loopK_out (o := .exit 0) ?_ (by simp)
      simp [fc14_b0, evKC, evK, put, Env.get, Env.keep, Opd.ev, binD, mapO, D.ren, locD, Out.ren, List.map, he, hll]
    · have hlt : j < a.length := by omega
      have hltb : j < b.length := by omega
      have hlt' : (j : Int) < (a.length : Int) := by omega
      obtain ⟨v, hv, hia⟩ := cms_ia hp hlt
      obtain ⟨u, hu, hib⟩ := cms_ia hq hltb
      obtain ⟨k1, k2, k3⟩ := ha _ (List.getElem_mem hlt)
      obtain ⟨m1, m2, m3⟩ := hb _ (List.getElem_mem hltb)
      rw [List.drop_eq_getElem_cons hlt, List.drop_eq_getElem_cons hltb, allEq]
      generalize a[j] = c at *
      generalize b[j] = d at *
      have hk1 := inc64 (k := j) (by omega)
      obtain ⟨env, he⟩ := ih (j + 1) (by omega) (by omega)
      have hn1 := fun H => numbers_call hv k3 (by omega) k2 H
      have hn2 := fun H => numbers_call hu m3 (by omega) m2 H
      unfold eqC
      generalize c.nums.flatMap spI = n1 at *
      generalize d.nums.flatMap spI = n2 at *
      by_cases c1 : c.kind = d.kind
      · by_cases c2 : c.text = d.text
        · by_cases c3 : n1 = n2
          · refine ⟨env, ?_⟩
            simp only [c1, c2, c3, decide_true, Bool.true_and]
            rw [← he]
            refine loopK_norm ?_
            subst c3
            simp [fc14_b0, evKC, evK, evGuard, put, Env.get, Env.keep, Opd.ev, loadD, cutAt, D.asInt?, binD, strBin, clsP, cls, isW, apartRW, offB, apartWW, clash, insOk, mapO, D.refsL, D.refs, D.toksL, D.toks, D.ren, locD, Out.ren, List.map, hlt', hll, hia, hib, hn1, hn2, hk1, c1, c2]
          · refine ⟨[], ?_⟩
            have c3' : (n1 == n2) = false := by simpa using c3
            simp only [c1, c2, c3, decide_true, decide_false, Bool.true_and, Bool.false_and, Bool.false_eq_true, if_false]
            refine loopK_out (o := .ret) ?_ (by simp)
            simp [fc14_b0, evKC, evK, evGuard, put, Env.get, Env.keep, Opd.ev, loadD, cutAt, D.asInt?, binD, strBin, clsP, cls, isW, apartRW, offB, apartWW, clash, insOk, mapO, D.refsL, D.refs, D.toksL, D.toks, D.ren, locD, Out.ren, List.map, hlt', hll, hia, hib, hn1, hn2, c1, c2, c3']
        · refine ⟨[], ?_⟩
          have c2' : (c.text == d.text) = false := by simpa using c2
          simp only [c1, c2, decide_true, decide_false, Bool.true_and, Bool.false_and, Bool.false_eq_true, if_false]
          refine loopK_out (o := .ret) ?_ (by simp)
          simp [fc14_b0, evKC, evK, evGuard, put, Env.get, Env.keep, Opd.ev, loadD, cutAt, D.asInt?, binD, strBin, clsP, cls, isW, apartRW, offB, apartWW, clash, insOk, mapO, D.ren, locD, Out.ren, List.map, hlt', hll, hia, hib, c1, c2']
      · refine ⟨[], ?_⟩
        have c1' : ((c.kind : Int) != (d.kind : Int)) = true := by simp; omega
        simp only [c1, decide_false, Bool.false_and, Bool.false_eq_true, if_false]
        refine loopK_out (o := .ret) ?_ (by simp)
        simp [fc14_b0, evKC, evK, evGuard, put, Env.get, Env.keep, Opd.ev, loadD, cutAt, D.asInt?, binD, clsP, cls, isW, apartRW, offB, apartWW, clash, insOk, mapO, D.ren, locD, Out.ren, List.map, hlt', hll, hia, hib, c1']
def sameB (a b : List Cmd) : Bool := decide (a.length = b.length) && allEq a b
theorem same_call {p q : PD} {a b : List Cmd} (hp : cmsP p a) (hq : cmsP q b) (ha : okNums a) (hb : okNums b) (hlen : a.length ≤ 4294967296) (H : Hp) : callD (call pg) 14 [.p p, .p q] H = some (.val (.p (.bool (sameB a b))), H) := by
  have h1 := cms_len hp
  have h2 := cms_len hq
  have h : call pg 14 [.p p, .p q] ⟨[], []⟩ = some (.val (.p (.bool (sameB a b))), ⟨[], []⟩) := by
    refine call_body (fc := fc14) rfl rfl rfl rfl ?_
    unfold sameB
    by_cases hl : a.length = b.length
    · obtain ⟨env, h3⟩ := same_loop hp hq ha hb hl hlen a.length 0 (by omega) (by omega)
      simp only [List.drop_zero, Int.cast_ofNat_Int] at h3
      cases hs : allEq a b with
      | true => rw [hs, if_pos rfl] at h3; simp [fc14, evKC, evK, put, Env.get, Env.keep, entry, Opd.ev, binD, finish, evRes, evRes1, h1, h2, h3, hl]
      | false => rw [hs, if_neg (by simp)] at h3; simp [fc14, evKC, evK, put, Env.get, Env.keep, entry, Opd.ev, binD, finish, evRes, evRes1, h1, h2, h3, hl]
    · have hl' : ((a.length : Int) != (b.length : Int)) = true := by simp; omega
      simp [fc14, evKC, evK, put, Env.get, Env.keep, entry, Opd.ev, binD, finish, evRes, evRes1, h1, h2, hl, hl']
  exact callD_purR h rfl rfl rfl rfl

end Go.Proofs.YtebbfckifhbkoaaGreatDoor

namespace Go.Proofs.YtebbfckifhbkoaaGreatDoor
open Go.Vs
def dval : Nat → List UInt8 → Option Nat
  | acc, [] => some acc
  | acc, b :: r => if b.toNat < 48 ∨ 57 < b.toNat then none else dval (acc * 10 + (b.toNat - 48)) r
theorem w64 {n : Int} (h1 : -9223372036854775808 ≤ n) (h2 : n < 9223372036854775808) : IntKind.i64.wrap n = n := wrap64 h1 h2
theorem dig_loop (s ds : List UInt8) : ∀ (r : List UInt8) (i acc : Nat), ds.drop i = r → i + r.length = ds.length → ds.length ≤ 9 → acc < 10 ^ i →
    ∃ env, loopK (call pg) pg.G [0, 4, 5, 6] fc36_b0 ⟨[(0, .p (.str s)), (4, .p (.str ds)), (5, .p (.int .i64 (acc : Int))), (6, .p (.int .i64 (i : Int)))], ⟨[], []⟩⟩ =
      match dval acc r with
      | some n => some (.exit 0, ⟨[(0, .p (.str s)), (4, .p (.str ds)), (5, .p (.int .i64 (n : Int)))] ++ env, ⟨[], []⟩⟩)
      | none => some (.ret, ⟨[(2, .p (.int .i64 0)), (3, .p (.bool false))], ⟨[], []⟩⟩) := by
  intro r
  induction r with
  | nil =>
    intro i acc hd hl h9 hacc
    refine ⟨[(6, .p (.int .i64 (i : Int))), (44, .p (.bool false))], ?_⟩
    have hi : i = ds.length := by simpa using hl
    simp only [dval]
    refine loopK_out (o := .exit 0) ?_ (by simp)
    simp [fc36_b0, evKC, evK, put, Env.get, Env.keep, Opd.ev, binD, lenD, hi]
  | cons b r ih =>
    intro i acc hd hl h9 hacc
    simp only [List.length_cons] at hl
    have hlt : i < ds.length := by omega
    have hlt' : (i : Int) < (ds.length : Int) := by omega
    have hg : ds[i]? = some b := by
      have := congrArg (·[0]?) hd
      simpa [List.getElem?_drop] using this
    have hd' : ds.drop (i + 1) = r := by
      have := congrArg List.tail hd
      simpa using this
    have hk1 := inc64 (k := i) (by omega)
    have hb256 := b.toNat_lt
    simp only [dval]
    by_cases h1 : b.toNat < 48
    · refine ⟨[], ?_⟩
      rw [if_pos (.inl h1)]
      have h1' : (b.toNat : Int) < 48 := by omega
      refine loopK_out (o := .ret) ?_ (by simp)
      simp [fc36_b0, evKC, evK, evGuard, put, Env.get, Env.keep, Opd.ev, indexD, D.asInt?, u8, binD, lenD, Int.toNat_natCast, hlt', hg, h1']
    · by_cases h2 : 57 < b.toNat
      · refine ⟨[], ?_⟩
        rw [if_pos (.inr h2)]
        have h1' : ¬ (b.toNat : Int) < 48 := by omega
        have h2' : (57 : Int) < (b.toNat : Int) := by omega
        refine loopK_out (o := .ret) ?_ (by simp)
        simp [fc36_b0, evKC, evK, evGuard, put, Env.get, Env.keep, Opd.ev, indexD, D.asInt?, u8, binD, lenD, Int.toNat_natCast, hlt', hg, h1', h2']
      · rw [if_neg (by omega)]
        have h10 : (10 : Nat) ^ i ≤ 10 ^ 8 := Nat.pow_le_pow_right (by omega) (by omega)
        have hacc2 : acc < 100000000 := by omega
        obtain ⟨env, he⟩ := ih (i + 1) (acc * 10 + (b.toNat - 48)) hd' (by omega) h9 (by rw [Nat.pow_succ]; omega)
        refine ⟨env, ?_⟩
        rw [← he]
        have h1' : ¬ (b.toNat : Int) < 48 := by omega
        have h2' : ¬ (57 : Int) < (b.toNat : Int) := by omega
        have e1 : IntKind.i64.wrap ((acc : Int) * 10) = (acc : Int) * 10 := w64 (by omega) (by omega)
        have e2 : IntKind.i64.wrap (b.toNat : Int) = (b.toNat : Int) := w64 (by omega) (by omega)
        have e3 : IntKind.i64.wrap ((acc : Int) * 10 + (b.toNat : Int)) = (acc : Int) * 10 + (b.toNat : Int) := w64 (by omega) (by omega)
        have e4 : IntKind.i64.wrap ((acc : Int) * 10 + (b.toNat : Int) - 48) = ((acc * 10 + (b.toNat - 48) : Nat) : Int) := by rw [w64 (by omega) (by omega)]; omega
        obtain ⟨z, hz⟩ : ∃ z, acc * 10 + (b.toNat - 48) = z := ⟨_, rfl⟩
        rw [hz] at e4 ⊢
        refine loopK_norm ?_
        simp [fc36_b0, evKC, evK, evGuard, put, Env.get, Env.keep, Opd.ev, indexD, D.asInt?, u8, binD, lenD, Int.toNat_natCast, hlt', hg, h1', h2', e1, e2, e3, e4, hk1]
def refD (ds : List UInt8) (m : Nat) : Option Nat :=
  match ds with
  | [] => none
  | d :: r => if 9 < (d :: r).length then none else if d = 48 ∧ (1 < (d :: r).length ∨ 1 < m) then none else dval 0 (d :: r)
def refN (s : List UInt8) : Option Int :=
  match s with
  | [] => none
  | b :: r => if b = 45 then (refD r (r.length + 1)).map fun (n : Nat) => -(n : Int) else (refD (b :: r) (r.length + 1)).map fun (n : Nat) => (n : Int)
def refNV (s : List UInt8) : D := match refN s with | some n => .tup [.p (.int .i64 n), .p (.bool true)] | none => .tup [.p (.int .i64 0), .p (.bool false)]
theorem dval_lt : ∀ (r : List UInt8) (acc n k : Nat), acc < 10 ^ k → dval acc r = some n → n < 10 ^ (k + r.length)
  | [], acc, n, k, h, e => by simp only [dval, Option.some.injEq] at e; subst e; simpa using h
  | b :: r, acc, n, k, h, e => by
    simp only [dval] at e
    split at e
    · cases e
    · have := dval_lt r _ n (k + 1) (by rw [Nat.pow_succ]; omega) e
      rw [List.length_cons]
      have e2 : k + (r.length + 1) = k + 1 + r.length := by omega
      rw [e2]; exact this
theorem rnum_minus (r : List UInt8) : call pg 36 [.p (.str (45 :: r))] ⟨[], []⟩ = some (.val (refNV (45 :: r)), ⟨[], []⟩) := by
  refine call_body (fc := fc36) rfl rfl rfl rfl ?_
  unfold refNV refN refD
  simp only [if_true]
  cases r with
  | nil => simp [fc36, evKC, evK, evGuard, put, Env.get, Env.keep, entry, Opd.ev, indexD, D.asInt?, D.asNat?, u8, binD, lenD, boundsD, sliceD, sub, finish, evRes, evRes1, mapO]
  | cons d r =>
    dsimp only
    have p1 : (0 : Int) < (r.length : Int) + 1 + 1 := by omega
    have p2 : (((r.length : Int) + 1) == 0) = false := by rw [beq_eq_false_iff_ne]; omega
    have p3 : ¬ (r.length : Int) + 1 = 0 := by omega
    by_cases h9 : 9 < (d :: r).length
    · have h9' : (9 : Int) < (r.length : Int) + 1 := by simp at h9; omega
      have h9n : 8 < r.length := by simp at h9; omega
      have h9m : 9 < r.length + 1 := by omega
      simp [fc36, evKC, evK, evGuard, put, Env.get, Env.keep, entry, Opd.ev, indexD, D.asInt?, D.asNat?, u8, binD, lenD, boundsD, sliceD, sub, finish, evRes, evRes1, mapO, p1, p2, h9', h9m]
    · have h9' : ¬ (9 : Int) < (r.length : Int) + 1 := by simp at h9; omega
      have h9n : ¬ 8 < r.length := by simp at h9; omega
      by_cases h48 : d = 48
      · subst h48
        have hm : (1 : Int) < (r.length : Int) + 1 + 1 := by omega
        have hor : (1 : Int) < (r.length : Int) + 1 ∨ True := .inr trivial
        by_cases hr : 0 < r.length
        · have hr' : (1 : Int) < (r.length : Int) + 1 := by omega
          simp [fc36, evKC, evK, evGuard, put, Env.get, Env.keep, entry, Opd.ev, indexD, D.asInt?, D.asNat?, u8, binD, lenD, boundsD, sliceD, sub, finish, evRes, evRes1, mapO, p1, p2, h9', hr, hr']
        · have hr' : ¬ (1 : Int) < (r.length : Int) + 1 := by omega
          simp [fc36, evKC, evK, evGuard, put, Env.get, Env.keep, entry, Opd.ev, indexD, D.asInt?, D.asNat?, u8, binD, lenD, boundsD, sliceD, sub, finish, evRes, evRes1, mapO, p1, p2, h9', hm, hr, hr']
      · have hd0 : ¬ d.toNat = 48 := fun e => h48 (UInt8.toNat_inj.1 e)
        have hd : ¬ (d.toNat : Int) = 48 := by omega
        have hdb : ((d.toNat : Int) == 48) = false := by rw [beq_eq_false_iff_ne]; exact hd
        obtain ⟨env, hl⟩ := dig_loop (45 :: d :: r) (d :: r) (d :: r) 0 0 rfl (by simp) (by omega) (by simp)
        rw [if_neg h9, if_neg (fun e => h48 e.1)]
        simp only [Int.cast_ofNat_Int] at hl
        have hll : (r.length : Int) + 1 < (r.length : Int) + 1 + 1 := by omega
        cases hv : dval 0 (d :: r) with
        | none =>
          rw [hv] at hl
          simp [fc36, evKC, evK, evGuard, put, Env.get, Env.keep, entry, Opd.ev, indexD, D.asInt?, D.asNat?, u8, binD, lenD, boundsD, sliceD, sub, finish, evRes, evRes1, mapO, p1, p2, h9', hdb, hl]
        | some n =>
          rw [hv] at hl
          have hn := dval_lt _ 0 n 0 (by simp) hv
          have hp : (10 : Nat) ^ (0 + (d :: r).length) ≤ 10 ^ 9 := Nat.pow_le_pow_right (by omega) (by omega)
          have hw : IntKind.i64.wrap (-(n : Int)) = -(n : Int) := w64 (by omega) (by omega)
          simp [fc36, evKC, evK, evGuard, put, Env.get, Env.keep, entry, Opd.ev, indexD, D.asInt?, D.asNat?, u8, binD, unD, lenD, boundsD, sliceD, sub, finish, evRes, evRes1, mapO, p1, p2, h9', hdb, hl, hll, hw]
theorem rnum_plain {d : UInt8} (h45 : d ≠ 45) (r : List UInt8) : call pg 36 [.p (.str (d :: r))] ⟨[], []⟩ = some (.val (refNV (d :: r)), ⟨[], []⟩) := by
  refine call_body (fc := fc36) rfl rfl rfl rfl ?_
  unfold refNV refN refD
  dsimp only
  rw [if_neg h45]
  have n45 : ¬ d.toNat = 45 := fun e => h45 (UInt8.toNat_inj.1 e)
  have n45i : ¬ (d.toNat : Int) = 45 := by omega
  have n45b : ((d.toNat : Int) == 45) = false := by rw [beq_eq_false_iff_ne]; exact n45i
  have p1 : (0 : Int) < (r.length : Int) + 1 := by omega
  have p2 : (((r.length : Int) + 1) == 0) = false := by rw [beq_eq_false_iff_ne]; omega
  have p3 : ¬ (r.length : Int) + 1 = 0 := by omega
  by_cases h9 : 9 < (d :: r).length
  · have h9' : (9 : Int) < (r.length : Int) + 1 := by simp at h9; omega
    have h9n : 8 < r.length := by simp at h9; omega
    have h9m : 9 < r.length + 1 := by omega
    simp [fc36, evKC, evK, evGuard, put, Env.get, Env.keep, entry, Opd.ev, indexD, D.asInt?, u8, binD, lenD, finish, evRes, evRes1, mapO, p1, p2, n45b, h9', h9m]
  · have h9' : ¬ (9 : Int) < (r.length : Int) + 1 := by simp at h9; omega
    have h9n : ¬ 8 < r.length := by simp at h9; omega
    have key : (d = 48 → ¬ 0 < r.length) → finish pg.G fc36.res (evS (call pg) pg.G iterX fc36.body ⟨entry 0 [.p (.str (d :: r))], ⟨[], []⟩⟩) = some (.val (match Option.map (fun (n : Nat) => (n : Int)) (dval 0 (d :: r)) with | some n => .tup [.p (.int .i64 n), .p (.bool true)] | none => .tup [.p (.int .i64 0), .p (.bool false)]), ⟨[], []⟩) := by
      intro hz
      obtain ⟨env, hl⟩ := dig_loop (d :: r) (d :: r) (d :: r) 0 0 rfl (by simp) (by omega) (by simp)
      simp only [Int.cast_ofNat_Int] at hl
      by_cases h48 : d = 48
      · have hr' : ¬ (1 : Int) < (r.length : Int) + 1 := by have := hz h48; omega
        subst h48
        cases hv : dval 0 (48 :: r) with
        | none =>
          rw [hv] at hl
          simp [fc36, evKC, evK, evGuard, put, Env.get, Env.keep, entry, Opd.ev, indexD, D.asInt?, u8, binD, lenD, finish, evRes, evRes1, mapO, p1, p2, h9', hl, hr']
        | some n =>
          rw [hv] at hl
          simp [fc36, evKC, evK, evGuard, put, Env.get, Env.keep, entry, Opd.ev, indexD, D.asInt?, u8, binD, lenD, finish, evRes, evRes1, mapO, p1, p2, h9', hl, hr']
      · have hd0 : ¬ d.toNat = 48 := fun e => h48 (UInt8.toNat_inj.1 e)
        have hd : ¬ (d.toNat : Int) = 48 := by omega
        have hdb : ((d.toNat : Int) == 48) = false := by rw [beq_eq_false_iff_ne]; exact hd
        cases hv : dval 0 (d :: r) with
        | none =>
          rw [hv] at hl
          simp [fc36, evKC, evK, evGuard, put, Env.get, Env.keep, entry, Opd.ev, indexD, D.asInt?, u8, binD, lenD, finish, evRes, evRes1, mapO, p1, p2, n45b, h9', hdb, hl]
        | some n =>
          rw [hv] at hl
          simp [fc36, evKC, evK, evGuard, put, Env.get, Env.keep, entry, Opd.ev, indexD, D.asInt?, u8, binD, lenD, finish, evRes, evRes1, mapO, p1, p2, n45b, h9', hdb, hl]
    rw [if_neg h9]
    by_cases hz : d = 48 ∧ (1 < (d :: r).length ∨ 1 < r.length + 1)
    · rw [if_pos hz]
      obtain ⟨h48, hor⟩ := hz
      subst h48
      have hr : 0 < r.length := by simp at hor; omega
      have hr' : (1 : Int) < (r.length : Int) + 1 := by omega
      simp [fc36, evKC, evK, evGuard, put, Env.get, Env.keep, entry, Opd.ev, indexD, D.asInt?, u8, binD, lenD, finish, evRes, evRes1, mapO, p1, p2, h9', hr']
    · rw [if_neg hz]
      exact key fun h48 hr => hz ⟨h48, .inr (by omega)⟩
theorem rnum_call (s : List UInt8) (H : Hp) : callD (call pg) 36 [.p (.str s)] H = some (.val (refNV s), H) := by
  have h : call pg 36 [.p (.str s)] ⟨[], []⟩ = some (.val (refNV s), ⟨[], []⟩) := by
    match s with
    | [] =>
      refine call_body (fc := fc36) rfl rfl rfl rfl ?_
      simp [fc36, refNV, refN, evKC, evK, evGuard, put, Env.get, Env.keep, entry, Opd.ev, binD, lenD, finish, evRes, evRes1, mapO]
    | b :: r =>
      by_cases hb : b = 45
      · subst hb; exact rnum_minus r
      · exact rnum_plain hb r
  refine callD_purR h rfl rfl rfl ?_
  unfold refNV
  cases refN s <;> rfl

end Go.Proofs.YtebbfckifhbkoaaGreatDoor

namespace Go.Proofs.YtebbfckifhbkoaaGreatDoor
open Go.Vs
def nl (s : List UInt8) : Nat := (s.filter (· == 10)).length
theorem nl_loop (s : List UInt8) (hs : s.length ≤ 4294967296) : ∀ (r : List UInt8) (i n : Nat), s.drop i = r → i + r.length = s.length → n ≤ i →
    ∃ env, loopK (call pg) pg.G [0, 3, 4] fc18_b0 ⟨[(0, .p (.str s)), (3, .p (.int .i64 (n : Int))), (4, .p (.int .i64 (i : Int)))], ⟨[], []⟩⟩ =
      some (.exit 0, ⟨[(0, .p (.str s)), (3, .p (.int .i64 ((n + nl r : Nat) : Int)))] ++ env, ⟨[], []⟩⟩) := by
  intro r
  induction r with
  | nil =>
    intro i n hd hl hn
    refine ⟨[(4, .p (.int .i64 (i : Int))), (8, .p (.bool false))], ?_⟩
    have hi : i = s.length := by simpa using hl
    refine loopK_out (o := .exit 0) ?_ (by simp)
    simp [fc18_b0, evKC, evK, put, Env.get, Env.keep, Opd.ev, binD, lenD, hi, nl]
  | cons b r ih =>
    intro i n hd hl hn
    simp only [List.length_cons] at hl
    have hlt : i < s.length := by omega
    have hlt' : (i : Int) < (s.length : Int) := by omega
    have hg : s[i]? = some b := by
      have := congrArg (·[0]?) hd
      simpa [List.getElem?_drop] using this
    have hd' : s.drop (i + 1) = r := by
      have := congrArg List.tail hd
      simpa using this
    have hk1 := inc64 (k := i) (by omega)
    have hk2 := inc64 (k := n) (by omega)
    by_cases h : b = 10
    · subst h
      obtain ⟨env, he⟩ := ih (i + 1) (n + 1) hd' (by omega) (by omega)
      refine ⟨env, ?_⟩
      have e : n + nl (10 :: r) = n + 1 + nl r := by simp [nl]; omega
      rw [e, ← he]
      refine loopK_norm ?_
      simp [fc18_b0, evKC, evK, put, Env.get, Env.keep, Opd.ev, indexD, D.asInt?, u8, binD, lenD, Int.toNat_natCast, hlt', hg, hk1, hk2]
    · obtain ⟨env, he⟩ := ih (i + 1) n hd' (by omega) (by omega)
      refine ⟨env, ?_⟩
      have e : nl (b :: r) = nl r := by simp [nl, h]
      rw [e, ← he]
      have h0 : ¬ b.toNat = 10 := fun e => h (UInt8.toNat_inj.1 e)
      have h1 : ¬ (b.toNat : Int) = 10 := by omega
      have h2 : ((b.toNat : Int) == 10) = false := by rw [beq_eq_false_iff_ne]; exact h1
      refine loopK_norm ?_
      simp [fc18_b0, evKC, evK, put, Env.get, Env.keep, Opd.ev, indexD, D.asInt?, u8, binD, lenD, Int.toNat_natCast, hlt', hg, hk1, h2]
theorem lines_call {s : List UInt8} (hs : s.length ≤ 4294967296) (H : Hp) : callD (call pg) 18 [.p (.str s)] H = some (.val (.p (.int .i64 (nl s : Int))), H) := by
  obtain ⟨env, h1⟩ := nl_loop s hs s 0 0 rfl (by simp) (by omega)
  simp only [Int.cast_ofNat_Int, Nat.zero_add] at h1
  have h : call pg 18 [.p (.str s)] ⟨[], []⟩ = some (.val (.p (.int .i64 (nl s : Int))), ⟨[], []⟩) := by
    refine call_body (fc := fc18) rfl rfl rfl rfl ?_
    simp [fc18, evKC, evK, put, Env.get, Env.keep, entry, Opd.ev, finish, evRes, evRes1, h1]
  exact callD_purR h rfl rfl rfl rfl

end Go.Proofs.YtebbfckifhbkoaaGreatDoor

namespace Go.Proofs.YtebbfckifhbkoaaGreatDoor
open Go.Vs
def refL : List (List UInt8) → Option (List Int)
  | [] => some []
  | x :: r => match refN x with
    | some n => (refL r).map (n :: ·)
    | none => none
def mEnv (ws : List (List UInt8)) (i : Nat) : Env := [(2, .box 0 0), (4, wordsD ws), (7, .box 1 0), (8, .p (.int .i64 (i : Int)))]
def badH (kd : Nat) (l : List Int) : Hp := ⟨[[.p (.int .i64 (kd : Int)), .p (.str []), .tsl 0 3 1 (intsP l)], [.p (.int .i64 (kd : Int)), .p (.str []), .tsl 0 3 1 (intsP l)]], [l.length]⟩
theorem rnum_round {ws : List (List UInt8)} {i : Nat} {x : List UInt8} (hi : ws[i]? = some x) (hr : ws.length ≤ 4294967282) {n : Int} (hn : refN x = some n) (kd : Nat) (l : List Int) (hl : l.length ≤ 4294967281) :
    evS (call pg) pg.G iterX fc25_b0 ⟨mEnv ws i, nH kd l⟩ = some (.norm, ⟨mEnv ws (i + 1), nH kd (l ++ [n])⟩) := by
  have hlt : i < ws.length := (List.getElem?_eq_some_iff.1 hi).1
  have hlt' : (i : Int) < (ws.length : Int) := by omega
  have hg := words_get hi
  have hc := fun H => rnum_call x H
  have hnr : refNV x = .tup [.p (.int .i64 n), .p (.bool true)] := by unfold refNV; rw [hn]
  rw [hnr] at hc
  have hw := inc64 (k := i) (by omega)
  have hro : roomy (l.length + 1) 8 = true := by simp [roomy]; omega
  simp [fc25_b0, mEnv, nH, wordsD, evKC, evK, put, Env.get, Env.keep, Opd.ev, loadD, storeD, splice, cutAt, D.asInt?, binD, unD, lenD, iaddrD, mapO, D.cells, D.one, PD.one, PD.cells, fillE, appendD, srcD, D.elems?, D.asPD, Int.toNat_natCast, srcH, isMapC, D.renL, D.ren, locD, below, Out.ren, List.map, hlt', hg, hc, hw, intsP_len, hro, intsP_app]
theorem rnum_bad {ws : List (List UInt8)} {i : Nat} {x : List UInt8} (hi : ws[i]? = some x) (hr : ws.length ≤ 4294967282) (hn : refN x = none) (kd : Nat) (l : List Int) :
    evS (call pg) pg.G iterX fc25_b0 ⟨mEnv ws i, nH kd l⟩ = some (.ret, ⟨[(2, .box 0 0), (3, .p (.int .i64 340))], badH kd l⟩) := by
  have hlt : i < ws.length := (List.getElem?_eq_some_iff.1 hi).1
  have hlt' : (i : Int) < (ws.length : Int) := by omega
  have hg := words_get hi
  have hc := fun H => rnum_call x H
  have hnr : refNV x = .tup [.p (.int .i64 0), .p (.bool false)] := by unfold refNV; rw [hn]
  rw [hnr] at hc
  simp [fc25_b0, mEnv, nH, badH, wordsD, evKC, evK, put, Env.get, Env.keep, Opd.ev, loadD, storeD, splice, cutAt, D.asInt?, binD, unD, lenD, iaddrD, sub, mapO, D.cells, D.one, PD.one, PD.cells, mkAgg, pures, D.elems?, Int.toNat_natCast, isMapC, D.renL, D.ren, locD, below, Out.ren, List.map, hlt', hg, hc]
theorem rnum_end (ws : List (List UInt8)) (kd : Nat) (l : List Int) : evS (call pg) pg.G iterX fc25_b0 ⟨mEnv ws ws.length, nH kd l⟩ = some (.exit 2, ⟨mEnv ws ws.length ++ [(56, .p (.bool false))], nH kd l⟩) := by
  simp [fc25_b0, mEnv, nH, wordsD, evKC, evK, put, Env.get, Env.keep, Opd.ev, binD, lenD, mapO, D.elems?, D.renL, D.ren, locD, below, Out.ren, List.map]
theorem mEnv_keep (ws : List (List UInt8)) (i : Nat) : (mEnv ws i).keep [2, 4, 7, 8] = mEnv ws i := rfl
theorem rnums_loop {ws : List (List UInt8)} (hr : ws.length ≤ 4294967281) (kd : Nat) : ∀ (m i : Nat) (l : List Int), i + m = ws.length → l.length ≤ i →
    (match refL (ws.drop i) with
      | some l' => loopK (call pg) pg.G [2, 4, 7, 8] fc25_b0 ⟨mEnv ws i, nH kd l⟩ = some (.exit 2, ⟨mEnv ws ws.length ++ [(56, .p (.bool false))], nH kd (l ++ l')⟩)
      | none => ∃ l', loopK (call pg) pg.G [2, 4, 7, 8] fc25_b0 ⟨mEnv ws i, nH kd l⟩ = some (.ret, ⟨[(2, .box 0 0), (3, .p (.int .i64 340))], badH kd l'⟩))
  | 0, i, l, hm, hl => by
    have : i = ws.length := by omega
    subst this
    rw [List.drop_length]
    simp only [refL, List.append_nil]
    exact loopK_out (by rw [mEnv_keep]; exact rnum_end ws kd l) (by simp)
  | m + 1, i, l, hm, hl => by
    have hlt : i < ws.length := by omega
    have hd := List.drop_eq_getElem_cons hlt
    have hi : ws[i]? = some ws[i] := List.getElem?_eq_getElem hlt
    rw [hd]
    simp only [refL]
    cases hn : refN ws[i] with
    | none =>
      have he := rnum_bad hi (by omega) hn kd l
      exact ⟨l, loopK_out (by rw [mEnv_keep]; exact he) (by simp)⟩
    | some n =>
      have h1 := rnum_round hi (by omega) hn kd l (by omega)
      have ih := rnums_loop hr kd m (i + 1) (l ++ [n]) (by omega) (by simp; omega)
      dsimp only
      cases hns : refL (ws.drop (i + 1)) with
      | none =>
        rw [hns] at ih
        obtain ⟨H', he⟩ := ih
        exact ⟨H', by rw [loopK_norm (by rw [mEnv_keep]; exact h1)]; exact he⟩
      | some l' =>
        rw [hns] at ih
        simp only [Option.map_some]
        rw [loopK_norm (by rw [mEnv_keep]; exact h1), ih]
        simp
theorem rrow_next {w : List UInt8} {r : List (List UInt8)} {i : Nat} (hi : i < 9) (hw : (rowAt (i + 1)).1 ≠ w) :
    evS (call pg) pg.G iterX fc25_b1 ⟨[(2, .box 0 0), (4, wordsD (w :: r)), (5, rowsF), (6, .p (.int .i64 (i : Int)))], c0H⟩ = some (.norm, ⟨[(2, .box 0 0), (4, wordsD (w :: r)), (5, rowsF), (6, .p (.int .i64 ((i + 1 : Nat) : Int)))], c0H⟩) := by
  have hlt : (i : Int) < 9 := by omega
  have hlen : lenD 1 rowsF = some 9 := rfl
  have hia := rows_ia (k := i + 1) (by omega) (by omega)
  have e : ((i + 1 : Nat) : Int) - 1 = (i : Int) := by omega
  rw [e] at hia
  have hrow : rowP (rowAt (i + 1)) = [.str (rowAt (i + 1)).1, .int .i64 (rowAt (i + 1)).2.1, .int .i64 (rowAt (i + 1)).2.2.1, .bool (rowAt (i + 1)).2.2.2] := rfl
  rw [hrow] at hia
  have hk1 := inc64 (k := i) (by omega)
  generalize (rowAt (i + 1)).1 = w' at *
  have hne : (w' == w) = false := by simpa using hw
  have hia2 : iaddrD none 1 (wordsD (w :: r)) 0 = some (.ro [.str w] 0) := by simp [wordsD, iaddrD, D.elems?, PD.cells]
  simp [fc25_b1, c0H, evKC, evK, put, Env.get, Env.keep, Opd.ev, loadD, cutAt, D.asInt?, binD, strBin, clsP, cls, isW, apartRW, offB, apartWW, clash, insOk, mapO, D.renL, D.ren, locD, below, Out.ren, List.map, hlt, hlen, hia, hia2, hk1, hne]
  exact ⟨rfl, rfl⟩

end Go.Proofs.YtebbfckifhbkoaaGreatDoor

namespace Go.Proofs.YtebbfckifhbkoaaGreatDoor
open Go.Vs
theorem rrow_hit {w : List UInt8} {r : List (List UInt8)} {i : Nat} (hi : i < 9) (hw : (rowAt (i + 1)).1 = w) (hr : r.length ≤ 4294967280) (hlo : ¬ (r.length : Int) < (rowAt (i + 1)).2.1) (hhi : ¬ (rowAt (i + 1)).2.2.1 < (r.length : Int)) {l : List Int} (hn : refL r = some l) :
    evS (call pg) pg.G iterX fc25_b1 ⟨[(2, .box 0 0), (4, wordsD (w :: r)), (5, rowsF), (6, .p (.int .i64 (i : Int)))], c0H⟩ = some (.ret, ⟨[(2, .box 0 0), (3, .p (.int .i64 0))], ⟨[[.p (.int .i64 ((i + 1 : Nat) : Int)), .p (.str []), .p (.slice 1 (intsP l))]], []⟩⟩) := by
  have hlt : (i : Int) < 9 := by omega
  have hlen : lenD 1 rowsF = some 9 := rfl
  have hia := rows_ia (k := i + 1) (by omega) (by omega)
  have e : ((i + 1 : Nat) : Int) - 1 = (i : Int) := by omega
  rw [e] at hia
  have hrow : rowP (rowAt (i + 1)) = [.str (rowAt (i + 1)).1, .int .i64 (rowAt (i + 1)).2.1, .int .i64 (rowAt (i + 1)).2.2.1, .bool (rowAt (i + 1)).2.2.2] := rfl
  rw [hrow, hw] at hia
  have hk1 := inc64 (k := i) (by omega)
  have hnl := rnums_loop (ws := w :: r) (by simp; omega) (i + 1) r.length 1 [] (by simp; omega) (by simp)
  rw [List.drop_succ_cons, List.drop_zero, hn] at hnl
  dsimp only at hnl
  rw [List.nil_append] at hnl
  simp only [mEnv, nH, intsP, List.map_nil, List.length_nil, Int.cast_ofNat_Int] at hnl
  have hwl : lenD 1 (wordsD (w :: r)) = some (r.length + 1) := by simp [wordsD, lenD, D.elems?]
  have hwr : IntKind.i64.wrap ((r.length : Int) + 1 - 1) = (r.length : Int) := by
    have : (r.length : Int) + 1 - 1 = r.length := by omega
    rw [this]; exact wrapN (by omega)
  have hwr2 : IntKind.i64.wrap (r.length : Int) = (r.length : Int) := wrapN (by omega)
  have hia2 : iaddrD none 1 (wordsD (w :: r)) 0 = some (.ro [.str w] 0) := by simp [wordsD, iaddrD, D.elems?, PD.cells]
  generalize (rowAt (i + 1)).2.1 = lo at *
  generalize (rowAt (i + 1)).2.2.1 = hi2 at *
  generalize wordsD (w :: r) = WD at *
  generalize rowsF = RF at *
  obtain ⟨z, hz⟩ : ∃ z, i + 1 = z := ⟨_, rfl⟩
  rw [hz] at hk1 hnl ⊢
  simp [fc25_b1, c0H, evKC, evK, evGuard, put, Env.get, Env.keep, Opd.ev, loadD, storeD, splice, cutAt, D.asInt?, binD, strBin, sub, clsP, cls, isW, apartRW, offB, apartWW, clash, insOk, mapO, D.cells, D.one, PD.one, mkAgg, pures, fillD, isMapC, D.renL, D.ren, locD, below, Out.ren, List.map, hlt, hlen, hia, hia2, hk1, hwl, hwr2, hlo, hhi, hnl, tokbD, tokD, intsP]
theorem rrow_bad {w : List UInt8} {r : List (List UInt8)} {i : Nat} (hi : i < 9) (hw : (rowAt (i + 1)).1 = w) (hr : r.length ≤ 4294967280) (hbad : (r.length : Int) < (rowAt (i + 1)).2.1 ∨ (rowAt (i + 1)).2.2.1 < (r.length : Int) ∨ refL r = none) :
    ∃ x z, (z = .nils ∨ ∃ l, z = .slice 1 l) ∧ evS (call pg) pg.G iterX fc25_b1 ⟨[(2, .box 0 0), (4, wordsD (w :: r)), (5, rowsF), (6, .p (.int .i64 (i : Int)))], c0H⟩ = some (.ret, ⟨[(2, .box 0 0), (3, .p (.int .i64 340))], ⟨[[.p (.int .i64 x), .p (.str []), .p z]], []⟩⟩) := by
  have hlt : (i : Int) < 9 := by omega
  have hlen : lenD 1 rowsF = some 9 := rfl
  have hia := rows_ia (k := i + 1) (by omega) (by omega)
  have e : ((i + 1 : Nat) : Int) - 1 = (i : Int) := by omega
  rw [e] at hia
  have hrow : rowP (rowAt (i + 1)) = [.str (rowAt (i + 1)).1, .int .i64 (rowAt (i + 1)).2.1, .int .i64 (rowAt (i + 1)).2.2.1, .bool (rowAt (i + 1)).2.2.2] := rfl
  rw [hrow, hw] at hia
  have hk1 := inc64 (k := i) (by omega)
  have hnl := rnums_loop (ws := w :: r) (by simp; omega) (i + 1) r.length 1 [] (by simp; omega) (by simp)
  rw [List.drop_succ_cons, List.drop_zero] at hnl
  have hwl : lenD 1 (wordsD (w :: r)) = some (r.length + 1) := by simp [wordsD, lenD, D.elems?]
  have hwr : IntKind.i64.wrap ((r.length : Int) + 1 - 1) = (r.length : Int) := by
    have : (r.length : Int) + 1 - 1 = r.length := by omega
    rw [this]; exact wrapN (by omega)
  have hwr2 : IntKind.i64.wrap (r.length : Int) = (r.length : Int) := wrapN (by omega)
  have hia2 : iaddrD none 1 (wordsD (w :: r)) 0 = some (.ro [.str w] 0) := by simp [wordsD, iaddrD, D.elems?, PD.cells]
  simp only [mEnv, nH, badH] at hnl
  generalize (rowAt (i + 1)).2.1 = lo at *
  generalize (rowAt (i + 1)).2.2.1 = hi2 at *
  generalize wordsD (w :: r) = WD at *
  generalize rowsF = RF at *
  obtain ⟨z, hz⟩ : ∃ z, i + 1 = z := ⟨_, rfl⟩
  rw [hz] at hk1 hnl
  by_cases hlo : (r.length : Int) < lo
  · refine ⟨(z : Int), .slice 1 [], .inr ⟨_, rfl⟩, ?_⟩
    simp [fc25_b1, c0H, evKC, evK, evGuard, put, Env.get, Env.keep, Opd.ev, loadD, storeD, splice, cutAt, D.asInt?, binD, strBin, sub, clsP, cls, isW, apartRW, offB, apartWW, clash, insOk, mapO, D.cells, D.one, PD.one, mkAgg, pures, fillD, isMapC, D.renL, D.ren, locD, below, Out.ren, List.map, hlt, hlen, hia, hia2, hk1, hwl, hwr2, hlo, tokbD, tokD]
  · by_cases hhi : hi2 < (r.length : Int)
    · refine ⟨(z : Int), .slice 1 [], .inr ⟨_, rfl⟩, ?_⟩
      simp [fc25_b1, c0H, evKC, evK, evGuard, put, Env.get, Env.keep, Opd.ev, loadD, storeD, splice, cutAt, D.asInt?, binD, strBin, sub, clsP, cls, isW, apartRW, offB, apartWW, clash, insOk, mapO, D.cells, D.one, PD.one, mkAgg, pures, fillD, isMapC, D.renL, D.ren, locD, below, Out.ren, List.map, hlt, hlen, hia, hia2, hk1, hwl, hwr2, hlo, hhi, tokbD, tokD]
    · have hn : refL r = none := by
        rcases hbad with h | h | h
        · exact (hlo h).elim
        · exact (hhi h).elim
        · exact h
      rw [hn] at hnl
      obtain ⟨l', hnl⟩ := hnl
      simp only [intsP, List.map_nil, List.length_nil, Int.cast_ofNat_Int] at hnl
      refine ⟨(z : Int), .slice 1 (intsP l'), .inr ⟨_, rfl⟩, ?_⟩
      simp [fc25_b1, c0H, evKC, evK, evGuard, put, Env.get, Env.keep, Opd.ev, loadD, storeD, splice, cutAt, D.asInt?, binD, strBin, clsP, cls, isW, apartRW, offB, apartWW, clash, insOk, mapO, D.cells, D.one, PD.one, mkAgg, pures, fillD, isMapC, D.renL, D.ren, locD, below, Out.ren, List.map, hlt, hlen, hia, hia2, hk1, hwl, hwr2, hlo, hhi, hnl, tokbD, tokD, intsP]

end Go.Proofs.YtebbfckifhbkoaaGreatDoor

namespace Go.Proofs.YtebbfckifhbkoaaGreatDoor
open Go.Vs
theorem kind_spec (w : List UInt8) : (kindOf w = 0 ∧ ∀ i, i < 9 → (rowAt (i + 1)).1 ≠ w) ∨ ∃ i, i < 9 ∧ kindOf w = i + 1 ∧ (rowAt (i + 1)).1 = w ∧ ∀ j, j < i → (rowAt (j + 1)).1 ≠ w := by
  by_cases h : ∃ i, i < 9 ∧ (rowAt (i + 1)).1 = w
  · obtain ⟨i, hi, hw⟩ := h
    refine .inr ⟨i, hi, ?_, hw, ?_⟩
    · subst hw
      match i, hi with
      | 0, _ | 1, _ | 2, _ | 3, _ | 4, _ | 5, _ | 6, _ | 7, _ | 8, _ => rfl
    · subst hw
      intro j hj
      have hj9 : j < 9 := by omega
      match i, hi, j, hj9, hj with
      | 0, _, j, _, hj => omega
      | 1, _, 0, _, _ => decide
      | 2, _, 0, _, _ | 2, _, 1, _, _ => decide
      | 3, _, 0, _, _ | 3, _, 1, _, _ | 3, _, 2, _, _ => decide
      | 4, _, 0, _, _ | 4, _, 1, _, _ | 4, _, 2, _, _ | 4, _, 3, _, _ => decide
      | 5, _, 0, _, _ | 5, _, 1, _, _ | 5, _, 2, _, _ | 5, _, 3, _, _ | 5, _, 4, _, _ => decide
      | 6, _, 0, _, _ | 6, _, 1, _, _ | 6, _, 2, _, _ | 6, _, 3, _, _ | 6, _, 4, _, _ | 6, _, 5, _, _ => decide
      | 7, _, 0, _, _ | 7, _, 1, _, _ | 7, _, 2, _, _ | 7, _, 3, _, _ | 7, _, 4, _, _ | 7, _, 5, _, _ | 7, _, 6, _, _ => decide
      | 8, _, 0, _, _ | 8, _, 1, _, _ | 8, _, 2, _, _ | 8, _, 3, _, _ | 8, _, 4, _, _ | 8, _, 5, _, _ | 8, _, 6, _, _ | 8, _, 7, _, _ => decide
      | 1, _, j + 1, _, hj => omega
      | 2, _, j + 2, _, hj => omega
      | 3, _, j + 3, _, hj => omega
      | 4, _, j + 4, _, hj => omega
      | 5, _, j + 5, _, hj => omega
      | 6, _, j + 6, _, hj => omega
      | 7, _, j + 7, _, hj => omega
      | 8, _, j + 8, _, hj => omega
  · refine .inl ⟨?_, fun i hi hw => h ⟨i, hi, hw⟩⟩
    have hk : ∀ i, i < 9 → ¬ (rowAt (i + 1)).1 = w := fun i hi hw => h ⟨i, hi, hw⟩
    have hs : ∀ k i, i < 10 → kstep w k i = k := fun k i hi => by
      unfold kstep
      cases i with
      | zero => simp
      | succ i => rw [if_neg (fun e => hk i (by omega) e.2)]
    have hf : ∀ (l : List Nat), (∀ i ∈ l, i < 10) → l.foldl (kstep w) 0 = 0 := by
      intro l
      induction l with
      | nil => intro _; rfl
      | cons i l ih => intro hl; rw [List.foldl_cons, hs 0 i (hl i (by simp))]; exact ih fun j hj => hl j (by simp [hj])
    exact hf _ fun i hi => by simpa using hi
def rrEnv (w : List UInt8) (r : List (List UInt8)) (i : Nat) : Env := [(2, .box 0 0), (4, wordsD (w :: r)), (5, rowsF), (6, .p (.int .i64 (i : Int)))]
theorem rrEnv_keep (w : List UInt8) (r : List (List UInt8)) (i : Nat) : (rrEnv w r i).keep [2, 4, 5, 6] = rrEnv w r i := rfl
theorem rrows_skip {w : List UInt8} {r : List (List UInt8)} {k : Nat} (hk : k ≤ 9) : ∀ (n i : Nat), i + n = k → (∀ j, i ≤ j → j < k → (rowAt (j + 1)).1 ≠ w) →
    loopK (call pg) pg.G [2, 4, 5, 6] fc25_b1 ⟨rrEnv w r i, c0H⟩ = loopK (call pg) pg.G [2, 4, 5, 6] fc25_b1 ⟨rrEnv w r k, c0H⟩
  | 0, i, h, _ => by
    have : i = k := by omega
    rw [this]
  | n + 1, i, h, hw => by
    rw [loopK_norm (s' := ⟨rrEnv w r (i + 1), c0H⟩) (by rw [rrEnv_keep]; exact rrow_next (by omega) (hw i (Nat.le_refl _) (by omega)))]
    exact rrows_skip hk n (i + 1) (by omega) fun j hj hj2 => hw j (by omega) hj2
theorem rrows_end (w : List UInt8) (r : List (List UInt8)) : evS (call pg) pg.G iterX fc25_b1 ⟨rrEnv w r 9, c0H⟩ = some (.exit 0, ⟨rrEnv w r 9 ++ [(17, .p (.bool false))], c0H⟩) := by
  have hlen : lenD 1 rowsF = some 9 := rfl
  have e1 : (D.ren (below 1) (below 0) (wordsD (w :: r))).getD D.dead = wordsD (w :: r) := rfl
  have e2 : (D.ren (below 1) (below 0) rowsF).getD D.dead = rowsF := rfl
  simp [fc25_b1, rrEnv, c0H, evKC, evK, put, Env.get, Env.keep, Opd.ev, binD, mapO, D.renL, D.ren, locD, below, Out.ren, List.map, hlen, e1, e2]

end Go.Proofs.YtebbfckifhbkoaaGreatDoor

namespace Go.Proofs.YtebbfckifhbkoaaGreatDoor
open Go.Vs
def rcmdS (line : List UInt8) : Except Int Cmd :=
  match spl 32 line with
  | [] => .error 360
  | w :: r =>
    if kindOf w = 0 then .error 360
    else if (r.length : Int) < (rowAt (kindOf w)).2.1 ∨ (rowAt (kindOf w)).2.2.1 < (r.length : Int) then .error 340
    else match refL r with
      | some l => .ok ⟨kindOf w, [], l⟩
      | none => .error 340
theorem rcmd_end {w : List UInt8} {r : List (List UInt8)} (hk : kindOf w = 0) (hw : ∀ i, i < 9 → (rowAt (i + 1)).1 ≠ w) :
    loopK (call pg) pg.G [2, 4, 5, 6] fc25_b1 ⟨rrEnv w r 0, c0H⟩ = some (.exit 0, ⟨rrEnv w r 9 ++ [(17, .p (.bool false))], c0H⟩) := by
  rw [rrows_skip (k := 9) (by omega) 9 0 (by omega) (fun j _ hj => hw j hj)]
  exact loopK_out (by rw [rrEnv_keep]; exact rrows_end w r) (by simp)
theorem rcmd_row {w : List UInt8} {r : List (List UInt8)} {i : Nat} (hi : i < 9) (hw : ∀ j, j < i → (rowAt (j + 1)).1 ≠ w) {s : St} (h : evS (call pg) pg.G iterX fc25_b1 ⟨rrEnv w r i, c0H⟩ = some (.ret, s)) :
    loopK (call pg) pg.G [2, 4, 5, 6] fc25_b1 ⟨rrEnv w r 0, c0H⟩ = some (.ret, s) := by
  rw [rrows_skip (k := i) (by omega) i 0 (by omega) (fun j _ hj => hw j hj)]
  exact loopK_out (by rw [rrEnv_keep]; exact h) (by simp)
theorem rsp_32 {x w : List UInt8} {r : List (List UInt8)} (hx : x.length ≤ 4294967280) (hs : spl 32 x = w :: r) (H : Hp) : callD (call pg) 19 [.p (.str x), .p (.int .u8 32)] H = some (.val (.p (.slice 1 (.str w :: r.map .str))), H) := by
  have h := rsplit_call (s := x) (by omega) 32 H
  rw [hs] at h
  exact h
theorem rcmd_ok {x w : List UInt8} {r : List (List UInt8)} (hx : x.length ≤ 4294967280) (hs : spl 32 x = w :: r) {c : Cmd} (hc : rcmdS x = .ok c) :
    ∃ H', call pg 25 [.p (.str x)] ⟨[], []⟩ = some (.val (.tup [.p (cmdP c), .p (.int .i64 0)]), H') := by
  have hsp := rsp_32 hx hs
  have hrl : r.length ≤ 4294967280 := by have := spl_len 32 x; rw [hs] at this; simp at this; omega
  unfold rcmdS at hc
  rw [hs] at hc
  dsimp only at hc
  have hrows := rows_call
  rcases kind_spec w with ⟨hk, hw⟩ | ⟨i, hi, hk, hri, hw⟩
  · rw [if_pos hk] at hc; cases hc
  · rw [if_neg (by omega)] at hc
    split at hc
    · cases hc
    · rename_i hb
      split at hc
      · rename_i l hn
        cases hc
        rw [hk] at hb ⊢
        have h1 := rcmd_row hi hw (rrow_hit (r := r) hi hri hrl (fun h => hb (.inl h)) (fun h => hb (.inr h)) hn)
        simp only [rrEnv, c0H, wordsD, List.map_cons, Int.cast_ofNat_Int] at h1
        apply Exists.intro
        refine call_body (fc := fc25) rfl rfl rfl rfl ?_
        simp [fc25, evKC, evK, put, Env.get, Env.keep, entry, Opd.ev, loadD, cutAt, sub, finish, evRes, evRes1, mapO, PD.one, mkAgg, pures, isMapC, hsp, hrows, h1, cmdP, intsP]
        rfl
      · cases hc
theorem rcmd_bad {x w : List UInt8} {r : List (List UInt8)} (hx : x.length ≤ 4294967280) (hs : spl 32 x = w :: r) {e : Int} (hc : rcmdS x = .error e) :
    e ≠ 0 ∧ ∃ n z H', (z = .nils ∨ ∃ l, z = .slice 1 l) ∧ call pg 25 [.p (.str x)] ⟨[], []⟩ = some (.val (.tup [.p (.agg [.int .i64 n, .str [], z]), .p (.int .i64 e)]), H') := by
  have hsp := rsp_32 hx hs
  have hrl : r.length ≤ 4294967280 := by have := spl_len 32 x; rw [hs] at this; simp at this; omega
  unfold rcmdS at hc
  rw [hs] at hc
  dsimp only at hc
  have hrows := rows_call
  rcases kind_spec w with ⟨hk, hw⟩ | ⟨i, hi, hk, hri, hw⟩
  · rw [if_pos hk] at hc
    cases hc
    refine ⟨by decide, 0, .nils, ?_⟩
    have h1 := rcmd_end (r := r) hk hw
    simp only [rrEnv, c0H, wordsD, List.map_cons, Int.cast_ofNat_Int] at h1
    apply Exists.intro
    refine ⟨.inl rfl, call_body (fc := fc25) rfl rfl rfl rfl ?_⟩
    simp [fc25, evKC, evK, put, Env.get, Env.keep, entry, Opd.ev, loadD, storeD, splice, cutAt, sub, finish, evRes, evRes1, mapO, D.cells, D.one, PD.one, mkAgg, pures, fillD, isMapC, hsp, hrows, h1]
    rfl
  · rw [if_neg (by omega)] at hc
    have hbad : e = 340 ∧ ((r.length : Int) < (rowAt (i + 1)).2.1 ∨ (rowAt (i + 1)).2.2.1 < (r.length : Int) ∨ refL r = none) := by
      rw [hk] at hc
      split at hc
      · rename_i hb
        cases hc
        exact ⟨rfl, hb.elim .inl fun h => .inr (.inl h)⟩
      · split at hc
        · cases hc
        · rename_i hn
          cases hc
          exact ⟨rfl, .inr (.inr hn)⟩
    obtain ⟨rfl, hbad⟩ := hbad
    obtain ⟨n, z, hz, h⟩ := rrow_bad hi hri hrl hbad
    have h1 := rcmd_row hi hw h
    simp only [rrEnv, c0H, wordsD, List.map_cons, Int.cast_ofNat_Int] at h1
    refine ⟨by decide, n, z, ?_⟩
    rcases hz with rfl | ⟨l, rfl⟩
    · apply Exists.intro
      refine ⟨.inl rfl, call_body (fc := fc25) rfl rfl rfl rfl ?_⟩
      simp [fc25, evKC, evK, put, Env.get, Env.keep, entry, Opd.ev, loadD, cutAt, sub, finish, evRes, evRes1, mapO, PD.one, mkAgg, pures, isMapC, hsp, hrows, h1]
      rfl
    · apply Exists.intro
      refine ⟨.inr ⟨_, rfl⟩, call_body (fc := fc25) rfl rfl rfl rfl ?_⟩
      simp [fc25, evKC, evK, put, Env.get, Env.keep, entry, Opd.ev, loadD, cutAt, sub, finish, evRes, evRes1, mapO, PD.one, mkAgg, pures, isMapC, hsp, hrows, h1]
      rfl
theorem rcmd_call {x : List UInt8} (hx : x.length ≤ 4294967280) :
    match rcmdS x with
    | .ok c => ∀ H, callD (call pg) 25 [.p (.str x)] H = some (.val (.tup [.p (cmdP c), .p (.int .i64 0)]), H)
    | .error e => e ≠ 0 ∧ ∃ n z, (z = .nils ∨ ∃ l, z = .slice 1 l) ∧ ∀ H, callD (call pg) 25 [.p (.str x)] H = some (.val (.tup [.p (.agg [.int .i64 n, .str [], z]), .p (.int .i64 e)]), H) := by
  obtain ⟨w, r, hs⟩ := spl_cons x
  split
  · rename_i c hc
    obtain ⟨H', h⟩ := rcmd_ok hx hs hc
    exact fun H => callD_purR h rfl rfl rfl rfl
  · rename_i e hc
    obtain ⟨h0, n, z, H', hz, h⟩ := rcmd_bad hx hs hc
    refine ⟨h0, n, z, hz, ?_⟩
    rcases hz with rfl | ⟨l, rfl⟩ <;> exact fun H => callD_purR h rfl rfl rfl rfl

end Go.Proofs.YtebbfckifhbkoaaGreatDoor

namespace Go.Proofs.YtebbfckifhbkoaaGreatDoor
open Go.Vs
def xEnv (ls : List (List UInt8)) (o : D) (k i : Nat) : Env := [(5, wordsD ls), (6, o), (7, .p (.int .i64 (k : Int))), (8, .p (.int .i64 (i : Int)))]
def o0D : D := .fsl 35 3 []
def XH (T : List (List D)) : Hp := ⟨T, []⟩
theorem x_skip {ls : List (List UInt8)} {i : Nat} {x : List UInt8} (hi : ls[i]? = some x) (hr : ls.length ≤ 4294967281) (hx : x = [] ∨ ∃ t, x = 35 :: t) (o : D) (k : Nat) (T : List (List D)) :
    evS (call pg) pg.G iterX fc12_b0 ⟨xEnv ls o k i, XH T⟩ = some (.norm, ⟨xEnv ls o k (i + 1), XH T⟩) := by
  have hlt : i < ls.length := (List.getElem?_eq_some_iff.1 hi).1
  have hlt' : (i : Int) < (ls.length : Int) := by omega
  have hg := words_get hi
  have hw := inc64 (k := i) (by omega)
  rcases hx with rfl | ⟨t, rfl⟩
  · simp [fc12_b0, xEnv, XH, wordsD, evKC, evK, evGuard, put, Env.get, Env.keep, Opd.ev, loadD, cutAt, D.asInt?, binD, strBin, lenD, iaddrD, PD.cells, D.elems?, Int.toNat_natCast, hlt', hg, hw]
  · simp [fc12_b0, xEnv, XH, wordsD, evKC, evK, evGuard, put, Env.get, Env.keep, Opd.ev, loadD, cutAt, indexD, D.asInt?, u8, binD, strBin, lenD, iaddrD, PD.cells, D.elems?, Int.toNat_natCast, hlt', hg, hw]
theorem x_end (ls : List (List UInt8)) (o : D) (k : Nat) (T : List (List D)) :
    evS (call pg) pg.G iterX fc12_b0 ⟨xEnv ls o k ls.length, XH T⟩ = some (.exit 0, ⟨xEnv ls o k ls.length ++ [(22, .p (.bool false))], XH T⟩) := by
  simp [fc12_b0, xEnv, XH, wordsD, evKC, evK, put, Env.get, Env.keep, Opd.ev, binD, lenD, D.elems?]
theorem int_ne {a b : UInt8} (h : a ≠ b) : ((a.toNat : Int) == (b.toNat : Int)) = false := by
  have : a.toNat ≠ b.toNat := fun e => h (UInt8.toNat_inj.1 e)
  simp; omega
theorem x_first {ls : List (List UInt8)} {i : Nat} {b : UInt8} {t : List UInt8} (hi : ls[i]? = some (b :: t)) (hr : ls.length ≤ 4294967281) (hb : b ≠ 35) (hb2 : b ≠ 124) (hx : (b :: t).length ≤ 4294967280) {c : Cmd} (hc : rcmdS (b :: t) = .ok c) (k : Nat) (T : List (List D)) :
    evS (call pg) pg.G iterX fc12_b0 ⟨xEnv ls o0D k i, XH T⟩ = some (.norm, ⟨xEnv ls (.gsl (T.length + 1) 35 1 3) 0 (i + 1), XH (T ++ [cmdCells c, cmdCells c])⟩) := by
  have hlt : i < ls.length := (List.getElem?_eq_some_iff.1 hi).1
  have hlt' : (i : Int) < (ls.length : Int) := by omega
  have hg := words_get hi
  have hw := inc64 (k := i) (by omega)
  have hcc := rcmd_call hx
  rw [hc] at hcc
  have h1 : ((b.toNat : Int) == 35) = false := int_ne hb
  have h2 : ((b.toNat : Int) == 124) = false := int_ne hb2
  simp [fc12_b0, xEnv, XH, o0D, wordsD, evKC, evK, evGuard, put, Env.get, Env.keep, Opd.ev, loadD, storeD, splice, cutAt, indexD, D.asInt?, u8, binD, strBin, lenD, iaddrD, sub, D.cells, D.one, PD.one, PD.cells, mkAgg, pures, fillE, srcD, D.elems?, D.asPD, Int.toNat_natCast, srcH, isMapC, hlt', hg, hw, h1, h2, hcc, cmdP, cmdCells, intsP, appendgD, roomy]
theorem x_cmd {ls : List (List UInt8)} {i : Nat} {b : UInt8} {t : List UInt8} (hi : ls[i]? = some (b :: t)) (hr : ls.length ≤ 4294967281) (hb : b ≠ 35) (hb2 : b ≠ 124) (hx : (b :: t).length ≤ 4294967280) {c : Cmd} (hc : rcmdS (b :: t) = .ok c) (k : Nat) {T : List (List D)} {j : Nat} {C : List D} (hT : T[j]? = some C) (hm : isMapC C = false) {m : Nat} (hC : C.length = m * 3) (h0 : 0 < m) (h2 : m < 200) :
    evS (call pg) pg.G iterX fc12_b0 ⟨xEnv ls (.gsl j 35 m 3) k i, XH T⟩ = some (.norm, ⟨xEnv ls (.gsl (T.length + 1) 35 (m + 1) 3) 0 (i + 1), XH (T.set j [] ++ [cmdCells c, C ++ cmdCells c])⟩) := by
  have hlt : i < ls.length := (List.getElem?_eq_some_iff.1 hi).1
  have hlt' : (i : Int) < (ls.length : Int) := by omega
  have hg := words_get hi
  have hw := inc64 (k := i) (by omega)
  have hcc := rcmd_call hx
  rw [hc] at hcc
  have e1 : ((b.toNat : Int) == 35) = false := int_ne hb
  have e2 : ((b.toNat : Int) == 124) = false := int_ne hb2
  have h2' : ¬ (200 : Int) ≤ (m : Int) := by omega
  have hro : roomy (m + 1) 48 = true := by simp [roomy]; omega
  have g1 := fun X => app_get (X := X) hT
  have g2 := fun X Y => app_set (X := X) (Y := Y) hT
  simp [fc12_b0, xEnv, XH, wordsD, evKC, evK, evGuard, put, Env.get, Env.keep, Opd.ev, loadD, storeD, splice, cutAt, indexD, D.asInt?, u8, binD, strBin, lenD, iaddrD, sub, D.cells, D.one, PD.one, PD.cells, mkAgg, pures, fillE, srcD, D.elems?, D.asPD, Int.toNat_natCast, srcH, mapc_p, hlt', hg, hw, e1, e2, hcc, cmdP, cmdCells, intsP, appendgD, hm, hC, h0, h2', hro, g1, g2]
theorem x_err {ls : List (List UInt8)} {i : Nat} {b : UInt8} {t : List UInt8} (hi : ls[i]? = some (b :: t)) (hr : ls.length ≤ 4294967281) (hb : b ≠ 35) (hb2 : b ≠ 124) (hx : (b :: t).length ≤ 4294967280) {e : Int} (hc : rcmdS (b :: t) = .error e) (o : D) (k : Nat) (T : List (List D)) :
    ∃ T', evS (call pg) pg.G iterX fc12_b0 ⟨xEnv ls o k i, XH T⟩ = some (.ret, ⟨[(2, .p .nils), (3, .p (.int .i64 e)), (4, .p (.int .i64 ((i + 1 : Nat) : Int)))], XH T'⟩) := by
  have hlt : i < ls.length := (List.getElem?_eq_some_iff.1 hi).1
  have hlt' : (i : Int) < (ls.length : Int) := by omega
  have hg := words_get hi
  have hw := inc64 (k := i) (by omega)
  have hcc := rcmd_call hx
  rw [hc] at hcc
  obtain ⟨h0, n, z, hz, hcc⟩ := hcc
  have h0' : (e == 0) = false := by simpa using h0
  have h0n : (e != 0) = true := by simpa using h0
  have e1 : ((b.toNat : Int) == 35) = false := int_ne hb
  have e2 : ((b.toNat : Int) == 124) = false := int_ne hb2
  rcases hz with rfl | ⟨l, rfl⟩ <;>
  · apply Exists.intro
    simp [fc12_b0, xEnv, XH, wordsD, evKC, evK, evGuard, put, Env.get, Env.keep, Opd.ev, loadD, storeD, splice, cutAt, indexD, D.asInt?, u8, binD, strBin, lenD, iaddrD, D.cells, D.one, PD.one, PD.cells, D.elems?, Int.toNat_natCast, mapc_p, hlt', hg, hw, e1, e2, hcc, h0', h0n]
    rfl
theorem x_many {ls : List (List UInt8)} {i : Nat} {b : UInt8} {t : List UInt8} (hi : ls[i]? = some (b :: t)) (hr : ls.length ≤ 4294967281) (hb : b ≠ 35) (hb2 : b ≠ 124) (hx : (b :: t).length ≤ 4294967280) {c : Cmd} (hc : rcmdS (b :: t) = .ok c) (k j : Nat) (T : List (List D)) {m : Nat} (h2 : 200 ≤ m) :
    ∃ T', evS (call pg) pg.G iterX fc12_b0 ⟨xEnv ls (.gsl j 35 m 3) k i, XH T⟩ = some (.ret, ⟨[(2, .p .nils), (3, .p (.int .i64 2)), (4, .p (.int .i64 ((i + 1 : Nat) : Int)))], XH T'⟩) := by
  have hlt : i < ls.length := (List.getElem?_eq_some_iff.1 hi).1
  have hlt' : (i : Int) < (ls.length : Int) := by omega
  have hg := words_get hi
  have hw := inc64 (k := i) (by omega)
  have hcc := rcmd_call hx
  rw [hc] at hcc
  have e1 : ((b.toNat : Int) == 35) = false := int_ne hb
  have e2 : ((b.toNat : Int) == 124) = false := int_ne hb2
  have h2' : (200 : Int) ≤ (m : Int) := by omega
  apply Exists.intro
  simp [fc12_b0, xEnv, XH, wordsD, evKC, evK, evGuard, put, Env.get, Env.keep, Opd.ev, loadD, storeD, splice, cutAt, indexD, D.asInt?, u8, binD, strBin, lenD, iaddrD, D.cells, D.one, PD.one, PD.cells, D.elems?, Int.toNat_natCast, mapc_p, hlt', hg, hw, e1, e2, hcc, cmdP, h2']
  rfl
theorem x_none {ls : List (List UInt8)} {i : Nat} {t : List UInt8} (hi : ls[i]? = some (124 :: t)) (hr : ls.length ≤ 4294967281) (k : Nat) (T : List (List D)) :
    ∃ T', evS (call pg) pg.G iterX fc12_b0 ⟨xEnv ls o0D k i, XH T⟩ = some (.ret, ⟨[(2, .p .nils), (3, .p (.int .i64 340)), (4, .p (.int .i64 ((i + 1 : Nat) : Int)))], XH T'⟩) := by
  have hlt : i < ls.length := (List.getElem?_eq_some_iff.1 hi).1
  have hlt' : (i : Int) < (ls.length : Int) := by omega
  have hg := words_get hi
  have hw := inc64 (k := i) (by omega)
  apply Exists.intro
  simp [fc12_b0, xEnv, XH, o0D, wordsD, evKC, evK, evGuard, put, Env.get, Env.keep, Opd.ev, loadD, cutAt, indexD, D.asInt?, u8, binD, strBin, lenD, iaddrD, clsP, cls, isW, apartRW, offB, apartWW, clash, insOk, PD.cells, D.elems?, Int.toNat_natCast, hlt', hg, hw]
  rfl
theorem x_notext {ls : List (List UInt8)} {i : Nat} {t : List UInt8} (hi : ls[i]? = some (124 :: t)) (hr : ls.length ≤ 4294967281) (k : Nat) {T : List (List D)} {j : Nat} {P : List D} {q kd : Nat} {u : List UInt8} {ns : List PD} (hT : T[j]? = some (lastC P kd u ns)) (hm : ∀ v, isMapC (lastC P kd v ns) = false) (hP : P.length = q * 3) (hk0 : 0 < kd) (hkd : kd < 10) (hrow : (rowAt kd).2.2.2 = false) (hq : q < 1000000) :
    ∃ T', evS (call pg) pg.G iterX fc12_b0 ⟨xEnv ls (.gsl j 35 (q + 1) 3) k i, XH T⟩ = some (.ret, ⟨[(2, .p .nils), (3, .p (.int .i64 340)), (4, .p (.int .i64 ((i + 1 : Nat) : Int)))], XH T'⟩) := by
  have hlt : i < ls.length := (List.getElem?_eq_some_iff.1 hi).1
  have hlt' : (i : Int) < (ls.length : Int) := by omega
  have hg := words_get hi
  have hw := inc64 (k := i) (by omega)
  have hwq : IntKind.i64.wrap ((q : Int) + 1 - 1) = (q : Int) := by
    have : (q : Int) + 1 - 1 = q := by omega
    rw [this]; exact wrapN (by omega)
  have hwq2 : IntKind.i64.wrap (q : Int) = (q : Int) := wrapN (by omega)
  have hq1 : (q : Int) < (q : Int) + 1 := by omega
  have hne : (((q : Int) + 1) == 0) = false := by rw [beq_eq_false_iff_ne]; omega
  have l0 := last_0 hP
  have hrc := rows_call
  have hri := rows_ia hk0 hkd
  have hwk : IntKind.i64.wrap ((kd : Int) - 1) = (kd : Int) - 1 := by
    have := wrapN (n := kd - 1) (by omega)
    have e : ((kd - 1 : Nat) : Int) = (kd : Int) - 1 := by omega
    rw [e] at this; exact this
  have hrw : rowP (rowAt kd) = [.str (rowAt kd).1, .int .i64 (rowAt kd).2.1, .int .i64 (rowAt kd).2.2.1, .bool (rowAt kd).2.2.2] := rfl
  rw [hrw, hrow] at hri
  have hia2 : iaddrD none 1 (wordsD ls) (i : Int) = some (.ro [.str (124 :: t)] 0) := by simp [wordsD, iaddrD, D.elems?, PD.cells, hg]
  have hl1 : lenD 1 (wordsD ls) = some ls.length := by simp [wordsD, lenD, D.elems?]
  simp only [xEnv]
  generalize wordsD ls = WD at *
  have hl2 : lenD 1 (.gsl j 35 (q + 1) 3) = some (q + 1) := rfl
  have hia : iaddrD none 3 (.gsl j 35 (q + 1) 3) (q : Int) = some (.box j (q * 3)) := by simp [iaddrD, Int.toNat_natCast]; omega
  apply Exists.intro
  simp [fc12_b0, XH, evKC, evK, evGuard, put, Env.get, Env.keep, Opd.ev, loadD, cutAt, indexD, D.asInt?, u8, binD, strBin, unD, clsP, cls, clsR, isCl, isW, apartRW, offB, apartWW, clash, insOk, D.refsL, D.refs, D.toksL, D.toks, hlt', hia2, hl1, hl2, hw, hT, hm, hwq2, hne, l0, hrc, hri, hwk, hia]
  rfl

end Go.Proofs.YtebbfckifhbkoaaGreatDoor

namespace Go.Proofs.YtebbfckifhbkoaaGreatDoor
open Go.Vs
theorem sp3 (a b c d e f : D) : splice [a, b, c] 0 [d, e, f] = [d, e, f] := rfl
theorem sp31 (a b c d : D) : splice [a, b, c] 1 [d] = [a, d, c] := rfl
theorem x_text {ls : List (List UInt8)} {i : Nat} {t : List UInt8} (hi : ls[i]? = some (124 :: t)) (hr : ls.length ≤ 4294967281) (k : Nat) {T : List (List D)} {j : Nat} {P : List D} {q kd : Nat} {u : List UInt8} {ns : List PD} (hT : T[j]? = some (lastC P kd u ns)) (hm : ∀ v, isMapC (lastC P kd v ns) = false) (hP : P.length = q * 3) (hk0 : 0 < kd) (hkd : kd < 10) (hrow : (rowAt kd).2.2.2 = true) (hq : q < 1000000)
    (hk : k < 4294967296) (hl : u.length + t.length + 1 ≤ 140737488355328) :
    ∃ X, evS (call pg) pg.G iterX fc12_b0 ⟨xEnv ls (.gsl j 35 (q + 1) 3) k i, XH T⟩ = some (.norm, ⟨xEnv ls (.gsl j 35 (q + 1) 3) (k + 1) (i + 1), XH (T.set j (lastC P kd (u ++ ((if 0 < k then [10] else []) ++ t)) ns) ++ [X])⟩) := by
  have hlt : i < ls.length := (List.getElem?_eq_some_iff.1 hi).1
  have hlt' : (i : Int) < (ls.length : Int) := by omega
  have hg := words_get hi
  have hw := inc64 (k := i) (by omega)
  have hwq : IntKind.i64.wrap ((q : Int) + 1 - 1) = (q : Int) := by
    have : (q : Int) + 1 - 1 = q := by omega
    rw [this]; exact wrapN (by omega)
  have hwq2 : IntKind.i64.wrap (q : Int) = (q : Int) := wrapN (by omega)
  have hq1 : (q : Int) < (q : Int) + 1 := by omega
  have hne : (((q : Int) + 1) == 0) = false := by rw [beq_eq_false_iff_ne]; omega
  have hj : j < T.length := (List.getElem?_eq_some_iff.1 hT).1
  have g1 := fun X => app_get (X := X) hT
  have g2 := fun X Y => app_set (X := X) (Y := Y) hT
  have l0 := last_0 hP
  have l1 := last_1 hP
  have ll : ∀ v, q * 3 + 3 ≤ (lastC P kd v ns).length := fun v => by rw [last_len hP]; exact Nat.le_refl _
  have hsub : List.drop (q * 3) (List.take (q * 3 + 3) (lastC P kd u ns)) = [.p (.int .i64 (kd : Int)), .p (.str u), .p (.slice 1 ns)] := by
    rw [List.take_of_length_le (by rw [last_len hP]; exact Nat.le_refl _)]
    unfold lastC
    rw [← hP, List.drop_left]
  have hsp : ∀ v, splice (lastC P kd u ns) (q * 3) [.p (.int .i64 (kd : Int)), .p (.str v), .p (.slice 1 ns)] = lastC P kd v ns := by
    intro v
    unfold lastC splice
    rw [← hP, List.take_left, List.drop_eq_nil_of_le (by simp)]
    simp
  have hrc := rows_call
  have hri := rows_ia hk0 hkd
  have hwk : IntKind.i64.wrap ((kd : Int) - 1) = (kd : Int) - 1 := by
    have := wrapN (n := kd - 1) (by omega)
    have e : ((kd - 1 : Nat) : Int) = (kd : Int) - 1 := by omega
    rw [e] at this; exact this
  have hrw : rowP (rowAt kd) = [.str (rowAt kd).1, .int .i64 (rowAt kd).2.1, .int .i64 (rowAt kd).2.2.1, .bool (rowAt kd).2.2.2] := rfl
  rw [hrw, hrow] at hri
  have hia2 : iaddrD none 1 (wordsD ls) (i : Int) = some (.ro [.str (124 :: t)] 0) := by simp [wordsD, iaddrD, D.elems?, PD.cells, hg]
  have hl1 : lenD 1 (wordsD ls) = some ls.length := by simp [wordsD, lenD, D.elems?]
  have hl2 : lenD 1 (.gsl j 35 (q + 1) 3) = some (q + 1) := rfl
  have hia : iaddrD none 3 (.gsl j 35 (q + 1) 3) (q : Int) = some (.box j (q * 3)) := by simp [iaddrD, Int.toNat_natCast]; omega
  have hkw : IntKind.i64.wrap ((k : Int) + 1) = (k : Int) + 1 := by have := wrapN (n := k + 1) (by omega); simpa using this
  simp only [xEnv]
  generalize wordsD ls = WD at *
  by_cases hkp : 0 < k
  · have hk0' : (0 : Int) < (k : Int) := by omega
    have hl3 : u.length + 1 ≤ 140737488355328 := by omega
    have hl4 : u.length + 1 + t.length ≤ 140737488355328 := by omega
    apply Exists.intro
    simp [fc12_b0, XH, evKC, evK, evGuard, put, Env.get, Env.keep, Opd.ev, loadD, storeD, cutAt, indexD, D.asInt?, D.asNat?, u8, binD, strBin, unD, boundsD, sliceD, sub, clsP, cls, clsR, isCl, isW, apartRW, offB, apartWW, clash, insOk, D.cells, D.one, PD.one, D.refsL, D.refs, D.toksL, D.toks, mkAgg, pures, mapc_p, hlt', hia2, hl1, hl2, hw, hT, hm, hwq2, hne, l0, ll, hsub, hsp, g1, g2, hrc, hri, hwk, hia, hkp, hl3, hl4, hkw, sp3, sp31]
    rfl
  · have hk0' : ¬ (0 : Int) < (k : Int) := by omega
    have hl4 : u.length + t.length ≤ 140737488355328 := by omega
    apply Exists.intro
    simp [fc12_b0, XH, evKC, evK, evGuard, put, Env.get, Env.keep, Opd.ev, loadD, storeD, cutAt, indexD, D.asInt?, D.asNat?, u8, binD, strBin, unD, boundsD, sliceD, sub, clsP, cls, clsR, isCl, isW, apartRW, offB, apartWW, clash, insOk, D.cells, D.one, PD.one, D.refsL, D.refs, D.toksL, D.toks, mkAgg, pures, mapc_p, hlt', hia2, hl1, hl2, hw, hT, hm, hwq2, hne, l0, ll, hsub, hsp, g1, g2, hrc, hri, hwk, hia, hkp, hl4, hkw, sp3, sp31]
    rfl

end Go.Proofs.YtebbfckifhbkoaaGreatDoor

namespace Go.Proofs.YtebbfckifhbkoaaGreatDoor
open Go.Vs
theorem pu10 : ∀ (l : List UInt8) (acc k : Nat), acc < 10 ^ k → k + l.length ≤ 18 → Lib.parseUint10 acc l = match dval acc l with | some n => .ok n | none => Lib.NumEnd.syntax
  | [], acc, _, _, _ => rfl
  | c :: r, acc, k, h, hk => by
    simp only [List.length_cons] at hk
    have hb := c.toNat_lt
    have hp : (10 : Nat) ^ k ≤ 10 ^ 17 := Nat.pow_le_pow_right (by omega) (by omega)
    simp only [Lib.parseUint10, dval]
    by_cases hd : 48 ≤ c.toNat ∧ c.toNat ≤ 57
    · rw [if_pos hd, if_neg (by omega), if_neg (by omega), if_neg (by omega)]
      exact pu10 r _ (k + 1) (by rw [Nat.pow_succ]; omega) (by omega)
    · rw [if_neg hd, if_pos (by omega)]
theorem dval_snoc (b : UInt8) : ∀ (l : List UInt8) (acc n : Nat), dval acc (l ++ [b]) = some n → ∃ m, dval acc l = some m ∧ 48 ≤ b.toNat ∧ b.toNat ≤ 57 ∧ n = m * 10 + (b.toNat - 48)
  | [], acc, n, h => by
    simp only [List.nil_append, dval] at h
    split at h
    · cases h
    · cases h; exact ⟨acc, rfl, by omega, by omega, rfl⟩
  | c :: l, acc, n, h => by
    simp only [List.cons_append, dval] at h ⊢
    split at h
    · cases h
    · rename_i hc
      rw [if_neg hc]
      exact dval_snoc b l _ n h
theorem dig_back {b : UInt8} (h1 : 48 ≤ b.toNat) (h2 : b.toNat ≤ 57) : UInt8.ofNat (48 + (b.toNat - 48)) = b := by
  have : 48 + (b.toNat - 48) = b.toNat := by omega
  rw [this]; simp
theorem dval_dec (d : UInt8) (hd : d ≠ 48) : ∀ (k : Nat) (r : List UInt8) (n : Nat), r.length = k → dval 0 (d :: r) = some n → Lib.decDigits n = d :: r ∧ 0 < n
  | 0, r, n, hr, h => by
    have : r = [] := List.length_eq_zero_iff.1 hr
    subst this
    have hd' : d.toNat ≠ 48 := fun e => hd (UInt8.toNat_inj.1 e)
    simp only [dval] at h
    split at h
    · cases h
    · rename_i hc
      cases h
      have e : 0 * 10 + (d.toNat - 48) = d.toNat - 48 := by omega
      rw [e, Lib.decDigits_one (by omega), dig_back (by omega) (by omega)]
      exact ⟨rfl, by omega⟩
  | k + 1, r, n, hr, h => by
    have hne : r ≠ [] := fun e => by rw [e] at hr; cases hr
    obtain ⟨r', b, rfl⟩ : ∃ r' b, r = r' ++ [b] := ⟨r.dropLast, r.getLast hne, (List.dropLast_concat_getLast hne).symm⟩
    obtain ⟨m, h1, h2, h3, rfl⟩ := dval_snoc b (d :: r') 0 n h
    obtain ⟨i1, i2⟩ := dval_dec d hd k r' m (by simpa using hr) h1
    refine ⟨?_, by omega⟩
    rw [Lib.decDigits, dif_neg (by omega)]
    have e1 : (m * 10 + (b.toNat - 48)) / 10 = m := by omega
    have e2 : (m * 10 + (b.toNat - 48)) % 10 = b.toNat - 48 := by omega
    rw [e1, e2, i1, dig_back h2 h3]
    rfl
theorem dec_zero (n : Nat) : ∀ r, Lib.decDigits n = 48 :: r → n = 0 ∧ r = [] := by
  induction n using Nat.strongRecOn with
  | _ n ih =>
    intro r h
    by_cases hn : n < 10
    · rw [Lib.decDigits_one hn] at h
      injection h with h1 h2
      refine ⟨?_, h2.symm⟩
      match n, hn with
      | 0, _ => rfl
      | 1, _ | 2, _ | 3, _ | 4, _ | 5, _ | 6, _ | 7, _ | 8, _ | 9, _ => exact absurd h1 (by decide)
    · rw [Lib.decDigits, dif_neg hn] at h
      cases hd : Lib.decDigits (n / 10) with
      | nil =>
        have := Lib.decDigits_length (n / 10)
        rw [hd] at this
        have := Lib.nDigits_pos (n / 10)
        simp at *; omega
      | cons c t =>
        rw [hd, List.cons_append] at h
        injection h with h1 h2
        have := ih (n / 10) (by omega) t (by rw [hd, h1])
        omega
theorem dec_big (n : Nat) : ∀ c ∈ Lib.decDigits n, 48 ≤ c.toNat := by
  intro c hc
  rw [Lib.decDigits_eq] at hc
  obtain ⟨t, _, rfl⟩ := List.mem_map.1 hc
  unfold Lib.dg
  have : (48 + n / 10 ^ (Lib.nDigits n - 1 - t) % 10) < 256 := by omega
  rw [UInt8.toNat_ofNat_of_lt' (by simpa using this)]
  omega
theorem dval_small {l : List UInt8} (h : l.length ≤ 9) {u : Nat} (hv : dval 0 l = some u) : u < 1000000000 := by
  have h1 := dval_lt l 0 u 0 (by simp) hv
  have hp : (10 : Nat) ^ (0 + l.length) ≤ 10 ^ 9 := Nat.pow_le_pow_right (by omega) (by omega)
  omega
theorem num_eq (s : List UInt8) : numS s = refN s := by
  unfold numS refN
  match s with
  | [] => rfl
  | b :: r =>
    by_cases hb : b = 45
    · subst hb
      have htr : Lib.trimPrefix (45 :: r) [45] = r := rfl
      dsimp only
      rw [if_pos rfl, Lib.atoiAll_minus, htr]
      unfold refD Lib.parseMag
      match r with
      | [] => rfl
      | d :: t =>
        rw [if_neg (by simp)]
        dsimp only
        by_cases h9 : 9 < (d :: t).length
        · rw [if_pos h9]
          split
          · rw [if_neg (fun e => by omega)]; rfl
          · rfl
        · rw [if_neg h9, pu10 (d :: t) 0 0 (by simp) (by omega)]
          by_cases h48 : d = 48
          · subst h48
            rw [if_pos ⟨rfl, .inr (by simp)⟩]
            split
            · rename_i n hn
              rw [if_neg]
              · rfl
              · rintro ⟨e, _⟩
                cases hv : dval 0 (48 :: t) with
                | none => rw [hv] at hn; cases hn
                | some u =>
                  rw [hv] at hn
                  have hu := dval_small (by omega) hv
                  simp only [Lib.signed] at hn
                  rw [if_neg (by omega)] at hn
                  injection hn with hn
                  subst hn
                  unfold Lib.itoa at e
                  split at e
                  · injection e with _ e
                    have := (dec_zero _ _ e).1
                    omega
                  · have h0 : (-(u : Int)).toNat = 0 := by omega
                    rw [h0] at e
                    have := Lib.decDigits_one (i := 0) (by omega)
                    rw [this] at e
                    cases e
            · rfl
          · rw [if_neg (fun e => h48 e.1)]
            cases hv : dval 0 (d :: t) with
            | none => rfl
            | some u =>
              have hu := dval_small (by omega) hv
              obtain ⟨i1, i2⟩ := dval_dec d h48 _ t u rfl hv
              simp only [Lib.signed]
              rw [if_neg (by omega)]
              dsimp only
              have e : Lib.itoa (-(u : Int)) = 45 :: d :: t := by
                unfold Lib.itoa
                rw [if_pos (by omega)]
                have : (-(u : Int)).natAbs = u := by omega
                rw [this, i1]
              rw [if_pos ⟨e, by omega⟩]
              rfl
    · have htr : Lib.trimPrefix (b :: r) [45] = b :: r := by
        unfold Lib.trimPrefix
        rw [if_neg]
        intro e
        simp [Lib.hasPrefix, List.isPrefixOf] at e
        first | exact hb e | exact hb e.symm
      dsimp only
      rw [if_neg hb, htr]
      unfold refD
      dsimp only
      by_cases h9 : 9 < (b :: r).length
      · rw [if_pos h9]
        split
        · rw [if_neg (fun e => by omega)]; rfl
        · rfl
      · rw [if_neg h9]
        by_cases h43 : b = 43
        · subst h43
          have hdv : dval 0 (43 :: r) = none := rfl
          rw [if_neg (by simp), hdv]
          split
          · rename_i n hn
            rw [if_neg]
            · rfl
            · rintro ⟨e, _⟩
              rw [Lib.atoiAll_plus] at hn
              have hp := hn
              cases hm : Lib.parseMag r with
              | range => rw [hm] at hn; cases hn
              | ok u =>
                rw [hm] at hn
                simp only [Lib.signless] at hn
                split at hn
                · cases hn
                · injection hn with hn
                  subst hn
                  unfold Lib.itoa at e
                  rw [if_neg (by omega)] at e
                  have := dec_big (u : Int).toNat 43 (by rw [e]; simp)
                  exact absurd this (by decide)
              | _ => rw [hm] at hn; cases hn
          · rfl
        · rw [Lib.atoiAll_plain b r (fun e => h43 (UInt8.toNat_inj.1 e)) (fun e => hb (UInt8.toNat_inj.1 e))]
          unfold Lib.parseMag
          rw [if_neg (by simp), pu10 (b :: r) 0 0 (by simp) (by omega)]
          have hlen : (b :: r).length = r.length + 1 := rfl
          have hit : ∀ u : Nat, Lib.itoa (u : Int) = Lib.decDigits u := fun u => by unfold Lib.itoa; rw [if_neg (by omega)]; rfl
          by_cases h48 : b = 48
          · subst h48
            cases hr : r with
            | nil =>
              have h0 : dval 0 [48] = some 0 := rfl
              have hi0 : Lib.itoa ((0 : Nat) : Int) = [48] := by rw [hit, Lib.decDigits_one (by omega)]; rfl
              rw [h0]
              simp only [Lib.signless]
              rw [if_neg (by omega)]
              dsimp only
              rw [if_pos ⟨hi0, by simp⟩, if_neg (by simp)]
              rfl
            | cons c t =>
              rw [if_pos ⟨rfl, .inl (by simp)⟩]
              split
              · rename_i n hn
                rw [if_neg]
                · rfl
                · rintro ⟨e, _⟩
                  cases hv : dval 0 (48 :: c :: t) with
                  | none => rw [hv] at hn; cases hn
                  | some u =>
                    rw [hv] at hn
                    simp only [Lib.signless] at hn
                    split at hn
                    · cases hn
                    · injection hn with hn
                      subst hn
                      rw [hit] at e
                      exact absurd (dec_zero _ _ e).2 (by simp)
              · rfl
          · rw [if_neg (fun e => h48 e.1)]
            cases hv : dval 0 (b :: r) with
            | none => rfl
            | some u =>
              have hu := dval_small (by omega) hv
              obtain ⟨i1, i2⟩ := dval_dec b h48 _ r u rfl hv
              simp only [Lib.signless]
              rw [if_neg (by omega)]
              dsimp only
              rw [if_pos ⟨by rw [hit, i1], by omega⟩]
              rfl
theorem nums_eq : ∀ l, numsL l = refL l
  | [] => rfl
  | x :: r => by simp only [numsL, refL, num_eq, nums_eq r]; rfl
theorem rcmd_eq (x : List UInt8) : rcmdS x = cmdS x := by
  unfold rcmdS cmdS
  simp only [nums_eq]
  rfl

end Go.Proofs.YtebbfckifhbkoaaGreatDoor

namespace Go.Proofs.YtebbfckifhbkoaaGreatDoor
open Go.Vs
theorem xEnv_keep (ls : List (List UInt8)) (o : D) (k i : Nat) : (xEnv ls o k i).keep [5, 6, 7, 8] = xEnv ls o k i := rfl
def StX (l : List Cmd) (o : D) (T : List (List D)) : Prop :=
  (l = [] ∧ o = o0D) ∨ ∃ j, l ≠ [] ∧ o = .gsl j 35 l.length 3 ∧ T[j]? = some (l.flatMap cmdCells)

noncomputable abbrev xloop (ls : List (List UInt8)) (o : D) (k i : Nat) (T : List (List D)) : Option (Out × St) := loopK (call pg) pg.G [5, 6, 7, 8] fc12_b0 ⟨xEnv ls o k i, XH T⟩
theorem xloop_norm {ls : List (List UInt8)} {o o' : D} {k k' i i' : Nat} {T T' : List (List D)} (h : evS (call pg) pg.G iterX fc12_b0 ⟨xEnv ls o k i, XH T⟩ = some (.norm, ⟨xEnv ls o' k' i', XH T'⟩)) : xloop ls o k i T = xloop ls o' k' i' T' := loopK_norm (by rw [xEnv_keep]; exact h)
theorem xloop_ret {ls : List (List UInt8)} {o : D} {k i : Nat} {T : List (List D)} {s : St} (h : evS (call pg) pg.G iterX fc12_b0 ⟨xEnv ls o k i, XH T⟩ = some (.ret, s)) : xloop ls o k i T = some (.ret, s) := loopK_out (by rw [xEnv_keep]; exact h) (by simp)
theorem xloop_end (ls : List (List UInt8)) (o : D) (k : Nat) (T : List (List D)) : xloop ls o k ls.length T = some (.exit 0, ⟨xEnv ls o k ls.length ++ [(22, .p (.bool false))], XH T⟩) := loopK_out (by rw [xEnv_keep]; exact x_end ls o k T) (by simp)
theorem cmd_pos {x : List UInt8} {c : Cmd} (h : cmdS x = .ok c) : 0 < c.kind := by
  unfold cmdS at h
  split at h
  · cases h
  · split at h
    · cases h
    · rename_i hk
      split at h
      · cases h
      · split at h
        · cases h; exact Nat.pos_of_ne_zero hk
        · cases h
def errX (e : Int) (n : Nat) : Env := [(2, .p .nils), (3, .p (.int .i64 e)), (4, .p (.int .i64 ((n : Nat) : Int)))]
theorem x_rounds {ls : List (List UInt8)} (hr : ls.length ≤ 4294967281) (hw : ∀ x ∈ ls, x.length ≤ 4294967280) : ∀ (r : List (List UInt8)) (i : Nat) (l : List Cmd) (o : D) (T : List (List D)) (k : Nat), ls.drop i = r → i + r.length = ls.length → StX l o T → (∀ c ∈ l, 0 < c.kind ∧ c.kind < 10 ∧ c.text.length + (r.map fun x => x.length + 1).sum ≤ 140737488355328) → l.length ≤ 200 → k ≤ i → (r.map fun x => x.length + 1).sum ≤ 140737488355328 →
    match parL (lns i r) l k with
    | .ok l' => ∃ o' T' k', xloop ls o k i T = some (.exit 0, ⟨xEnv ls o' k' ls.length ++ [(22, .p (.bool false))], XH T'⟩) ∧ StX l' o' T' ∧ l'.length ≤ 200
    | .error (e, n) => ∃ T', xloop ls o k i T = some (.ret, ⟨errX e n, XH T'⟩)
  | [], i, l, o, T, k, hd, hi, hs, _, h2, _, _ => by
    have : i = ls.length := by simpa using hi
    subst this
    exact ⟨o, T, k, xloop_end ls o k T, hs, h2⟩
  | x :: r, i, l, o, T, k, hd, hi, hs, hl, h2, hk, hz => by
    have hg : ls[i]? = some x := by
      have := congrArg (·[0]?) hd
      simpa [List.getElem?_drop] using this
    have hlt : i < ls.length := (List.getElem?_eq_some_iff.1 hg).1
    have hd' : ls.drop (i + 1) = r := by
      have := congrArg List.tail hd
      simpa using this
    simp only [List.length_cons] at hi
    have hi' : i + 1 + r.length = ls.length := by omega
    simp only [List.map_cons, List.sum_cons] at hz hl
    have hxm : x ∈ ls := List.mem_of_getElem? hg
    have hxl := hw x hxm
    have ihS := fun (k' : Nat) (hk' : k' ≤ i + 1) (hl' : ∀ c ∈ l, 0 < c.kind ∧ c.kind < 10 ∧ c.text.length + (r.map fun x => x.length + 1).sum ≤ 140737488355328) => x_rounds hr hw r (i + 1) l o T k' hd' hi' hs hl' h2 hk' (by omega)
    by_cases hig : x = [] ∨ ∃ t, x = 35 :: t
    · have hln : lns i (x :: r) = lns (i + 1) r := by
        rcases hig with rfl | ⟨t, rfl⟩ <;> simp [lns, ign]
      rw [hln]
      have he := xloop_norm (x_skip hg hr hig o k T)
      have ih := ihS k (by omega) (fun c hc => ⟨(hl c hc).1, (hl c hc).2.1, by have := (hl c hc).2.2; omega⟩)
      rw [he]
      exact ih
    · match x, hg, hxl, hig, hl, hz with
      | [], _, _, hig, _, _ => exact (hig (.inl rfl)).elim
      | b :: t, hg, hxl, hig, hl, hz =>
        have hb : b ≠ 35 := fun e => hig (.inr ⟨t, by rw [e]⟩)
        have hln : lns i ((b :: t) :: r) = (i + 1, b :: t) :: lns (i + 1) r := by
          simp [lns, ign, hb]
        rw [hln]
        simp only [List.length_cons] at hl hz
        by_cases hb2 : b = 124
        · subst hb2
          simp only [parL, ne_eq, not_true_eq_false, if_false]
          rcases hs with ⟨rfl, rfl⟩ | ⟨j, hne, rfl, hT⟩
          · obtain ⟨T', he⟩ := x_none hg hr k T
            exact ⟨T', xloop_ret he⟩
          · obtain ⟨l0, c, rfl⟩ : ∃ l0 c, l = l0 ++ [c] := ⟨l.dropLast, l.getLast hne, (List.dropLast_concat_getLast hne).symm⟩
            have hcl := hl c (by simp)
            rw [cells_last] at hT
            have hlen : (l0 ++ [c]).length = l0.length + 1 := by simp
            rw [hlen] at h2 ⊢
            simp only [List.getLast?_append, List.getLast?_singleton, Option.some_or]
            cases hrw : (rowAt c.kind).2.2.2 with
            | true =>
              simp only [if_true]
              obtain ⟨X, he⟩ := x_text hg hr k hT (fun v => mapc_3 _ _ _ _) (cells_len l0) hcl.1 hcl.2.1 hrw (by omega) (by omega) (by have := hcl.2.2; omega)
              have hadd : addT (l0 ++ [c]) ((if 0 < k then [10] else []) ++ t) = l0 ++ [{ c with text := c.text ++ ((if 0 < k then [10] else []) ++ t) }] := by
                simp [addT]
              rw [hadd]
              have hj : j < T.length := (List.getElem?_eq_some_iff.1 hT).1
              rw [xloop_norm he]
              have ih := x_rounds hr hw r (i + 1) (l0 ++ [{ c with text := c.text ++ ((if 0 < k then [10] else []) ++ t) }]) (.gsl j 35 (l0.length + 1) 3) (T.set j (lastC (l0.flatMap cmdCells) c.kind (c.text ++ ((if 0 < k then [10] else []) ++ t)) (intsP c.nums)) ++ [X]) (k + 1) hd' hi'
                (.inr ⟨j, by simp, by simp, by rw [cells_last]; exact app_get (List.getElem?_set_self hj)⟩) (fun c' hc' => by
                  rcases List.mem_append.1 hc' with h | h
                  · have := hl c' (by simp [h]); exact ⟨this.1, this.2.1, by omega⟩
                  · simp only [List.mem_singleton] at h
                    subst h
                    refine ⟨hcl.1, hcl.2.1, ?_⟩
                    have := hcl.2.2
                    simp only [List.length_append]
                    split <;> simp <;> omega) (by simp; omega) (by omega) (by omega)
              exact ih
            | false =>
              simp only [Bool.false_eq_true, if_false]
              obtain ⟨T', he⟩ := x_notext hg hr k hT (fun v => mapc_3 _ _ _ _) (cells_len l0) hcl.1 hcl.2.1 hrw (by omega)
              exact ⟨T', xloop_ret he⟩
        · simp only [parL, ne_eq, hb2, not_false_eq_true, if_true]
          cases hc : cmdS (b :: t) with
          | error e =>
            obtain ⟨T', he⟩ := x_err hg hr hb hb2 hxl (by rw [rcmd_eq]; exact hc) o k T
            exact ⟨T', xloop_ret he⟩
          | ok c =>
            dsimp only
            have hcr : rcmdS (b :: t) = .ok c := by rw [rcmd_eq]; exact hc
            obtain ⟨ck, ct⟩ := cmd_kind hc
            have cp := cmd_pos hc
            rcases hs with ⟨rfl, rfl⟩ | ⟨j, hne, rfl, hT⟩
            · rw [if_neg (by simp)]
              rw [xloop_norm (x_first hg hr hb hb2 hxl hcr k T)]
              have ih := x_rounds hr hw r (i + 1) [c] (.gsl (T.length + 1) 35 1 3) (T ++ [cmdCells c, cmdCells c]) 0 hd' hi' (.inr ⟨T.length + 1, by simp, rfl, by simp⟩) (fun c' hc' => by
                simp only [List.mem_singleton] at hc'
                subst hc'
                exact ⟨cp, ck, by rw [ct]; simp; omega⟩) (by simp) (by omega) (by omega)
              exact ih
            · have h0 : 0 < l.length := List.length_pos_iff.2 hne
              by_cases hm : 200 ≤ l.length
              · rw [if_pos hm]
                obtain ⟨T', he⟩ := x_many hg hr hb hb2 hxl hcr k j T hm
                exact ⟨T', xloop_ret he⟩
              · rw [if_neg hm]
                rw [xloop_norm (x_cmd hg hr hb hb2 hxl hcr k hT (mapc_cells l) (cells_len l) h0 (by omega))]
                have ih := x_rounds hr hw r (i + 1) (l ++ [c]) (.gsl (T.length + 1) 35 (l.length + 1) 3) (T.set j [] ++ [cmdCells c, l.flatMap cmdCells ++ cmdCells c]) 0 hd' hi'
                  (.inr ⟨T.length + 1, by simp, by simp, by
                    rw [List.getElem?_append_right (by simp)]
                    simp⟩) (fun c' hc' => by
                    rcases List.mem_append.1 hc' with h | h
                    · have := hl c' h; exact ⟨this.1, this.2.1, by omega⟩
                    · simp only [List.mem_singleton] at h
                      subst h
                      exact ⟨cp, ck, by rw [ct]; simp; omega⟩) (by simp; omega) (by omega) (by omega)
                exact ih

end Go.Proofs.YtebbfckifhbkoaaGreatDoor

namespace Go.Proofs.YtebbfckifhbkoaaGreatDoor
open Go.Vs
def cmdsE (l : List Cmd) : PD := if l = [] then .emp 3 else .slice 3 (l.map cmdP)
def rparV (s : List UInt8) : D :=
  match parse s with
  | .ok l => .tup [.p (cmdsE l), .p (.int .i64 0), .p (.int .i64 0)]
  | .error (e, n) => .tup [.p .nils, .p (.int .i64 e), .p (.int .i64 (n : Int))]
theorem frz_outX {l : List Cmd} {o : D} {T : List (List D)} (h : StX l o T) : D.frz 0 (XH T) 7 o = .p (cmdsE l) := by
  rcases h with ⟨rfl, rfl⟩ | ⟨j, hne, rfl, hT⟩
  · rfl
  · have hb : (XH T).bx[j]? = some (l.flatMap cmdCells) := hT
    have hsub : sub (l.flatMap cmdCells) 0 (0 + l.length * 3) = l.flatMap cmdCells := by
      unfold sub
      rw [List.drop_zero, List.take_of_length_le (by rw [cells_len]; omega)]
    rw [frz_gsl 0 _ 6 j 35 l.length 3 (Nat.zero_le _) hb ⟨mapc_cells l, by rw [cells_len]; omega, by omega⟩ (by rw [hsub, cells_frz, cells_pd]), cells_chunks]
    simp only [cmdsE, if_neg hne]
theorem seal_okX {l : List Cmd} {o : D} {T : List (List D)} (h : StX l o T) : sealF 0 (.val (.tup [o, .p (.int .i64 0), .p (.int .i64 0)]), XH T) = (.val (.tup [.p (cmdsE l), .p (.int .i64 0), .p (.int .i64 0)]), ⟨[], []⟩) := by
  have hf := frz_outX h
  have e1 : (Res.val (.tup [o, .p (.int .i64 0), .p (.int .i64 0)])).frz 0 (XH T) = .val (.tup [.p (cmdsE l), .p (.int .i64 0), .p (.int .i64 0)]) := by
    show Res.val (.tup [D.frz 0 (XH T) 7 o, _, _]) = _
    rw [hf]; rfl
  unfold sealF
  dsimp only
  rw [e1]
  simp [mapO, Res.ren, D.ren, D.renL, XH]
theorem rparse_eq {s : List UInt8} (hs : s.length ≤ 4294967280) : call pg 12 [.p (.str s)] ⟨[], []⟩ = some (.val (rparV s), ⟨[], []⟩) := by
  unfold rparV parse
  by_cases h6 : 65536 < s.length
  · rw [if_pos h6]
    have h6' : (65536 : Int) < (s.length : Int) := by omega
    refine call_frz (fc := fc12) rfl rfl rfl rfl ?_ (seal_flat _ _ _ [])
    simp [fc12, evKC, evK, put, Env.get, Env.keep, entry, Opd.ev, binD, lenD, finish, evRes, evRes1, mapO, h6']
  · rw [if_neg h6]
    have h6' : ¬ (65536 : Int) < (s.length : Int) := by omega
    have h1 := spl_sum 10 s
    have h2 := spl_len 10 s
    have hsp : ∀ H, callD (call pg) 19 [.p (.str s), .p (.int .u8 10)] H = some (.val (.p (.slice 1 ((spl 10 s).map .str))), H) := fun H => rsplit_call hs 10 H
    have h := x_rounds (ls := spl 10 s) (by omega) (fun x hx => by have := spl_word 10 s x hx; omega) (spl 10 s) 0 [] o0D [] 0 rfl (by simp) (.inl ⟨rfl, rfl⟩) (by simp) (by simp) (by omega) (by omega)
    cases hp : parL (lns 0 (spl 10 s)) [] 0 with
    | ok l =>
      rw [hp] at h
      obtain ⟨o', T', k', h3, h4, h5⟩ := h
      simp only [xloop, xEnv, wordsD, o0D, XH, Int.cast_ofNat_Int] at h3
      refine call_frz (fc := fc12) (r := (.val (.tup [o', .p (.int .i64 0), .p (.int .i64 0)]), XH T')) rfl rfl rfl rfl ?_ (seal_okX h4)
      have ho : o' = .fsl 35 3 [] ∨ ∃ i n, o' = .gsl i 35 n 3 := by
        rcases h4 with ⟨_, rfl⟩ | ⟨j, _, rfl, _⟩
        · exact .inl rfl
        · exact .inr ⟨_, _, rfl⟩
      rcases ho with rfl | ⟨i, n, rfl⟩ <;> simp [fc12, evKC, evK, put, Env.get, Env.keep, entry, Opd.ev, binD, lenD, finish, evRes, evRes1, mapO, PD.one, PD.cells, fillE, h6', hsp, h3, XH]
    | error x =>
      obtain ⟨e, n⟩ := x
      rw [hp] at h
      obtain ⟨T', h3⟩ := h
      simp only [xloop, xEnv, wordsD, o0D, XH, errX, Int.cast_ofNat_Int] at h3
      refine call_frz (fc := fc12) rfl rfl rfl rfl ?_ (seal_flat _ _ _ T')
      simp [fc12, evKC, evK, put, Env.get, Env.keep, entry, Opd.ev, binD, lenD, finish, evRes, evRes1, mapO, PD.one, PD.cells, fillE, h6', hsp, h3]
theorem rparV_ren (s : List UInt8) (f g : Nat → Option Nat) : (rparV s).ren f g = some (rparV s) := by
  unfold rparV
  cases parse s <;> rfl
theorem parV_ren (s : List UInt8) (f g : Nat → Option Nat) : (parV s).ren f g = some (parV s) := by
  unfold parV
  cases parse s <;> rfl
theorem rparse_call {s : List UInt8} (hs : s.length ≤ 4294967280) (H : Hp) : callD (call pg) 12 [.p (.str s)] H = some (.val (rparV s), H) :=
  callD_pure (rparse_eq hs) rfl rfl rfl (rparV_ren s _ _)
theorem parse_call {s : List UInt8} (hs : s.length ≤ 4294967280) (H : Hp) : callD (call pg) 11 [.p (.str s)] H = some (.val (parV s), H) := by
  have : call pg 11 [.p (.str s)] ⟨[], []⟩ = some (.val (parV s), ⟨[], []⟩) := call_lib (if_pos (by omega))
  exact callD_pure this rfl rfl rfl (parV_ren s _ _)
theorem cmds_cms (l : List Cmd) : cmsP (cmdsP l) l := by
  unfold cmdsP cmsP
  by_cases h : l = []
  · subst h; simp
  · rw [if_neg h]
    refine .inr (.inr ⟨_, rfl, by simp, fun i e c he hc => ?_⟩)
    rw [List.getElem?_map, hc] at he
    cases he
    exact ⟨_, rfl, .inr (.inr rfl)⟩
theorem cmdsE_cms (l : List Cmd) : cmsP (cmdsE l) l := by
  unfold cmdsE cmsP
  by_cases h : l = []
  · subst h; simp
  · rw [if_neg h]
    refine .inr (.inr ⟨_, rfl, by simp, fun i e c he hc => ?_⟩)
    rw [List.getElem?_map, hc] at he
    cases he
    exact ⟨_, rfl, .inr (.inr rfl)⟩

end Go.Proofs.YtebbfckifhbkoaaGreatDoor

namespace Go.Proofs.YtebbfckifhbkoaaGreatDoor
open Go.Vs
structure RCmd where
  kind : Int
  text : List UInt8
  nums : List Int

instance : Inhabited RCmd := ⟨⟨0, [], []⟩⟩
def rcP (p : PD) (c : RCmd) : Prop := ∃ v, p = .agg [.int .i64 c.kind, .str c.text, v] ∧ slP v c.nums
def rcsP (p : PD) (l : List RCmd) : Prop := (p = .nils ∧ l = []) ∨ (p = .emp 3 ∧ l = []) ∨ ∃ es, p = .slice 3 es ∧ es.length = l.length ∧ ∀ (i : Nat) e c, es[i]? = some e → l[i]? = some c → rcP e c
theorem rcs_len {p : PD} {l : List RCmd} (h : rcsP p l) : lenD 1 (.p p) = some l.length := by
  rcases h with ⟨rfl, rfl⟩ | ⟨rfl, rfl⟩ | ⟨es, rfl, hl, _⟩ <;> simp [lenD, D.elems?]
  exact hl
theorem rcs_ia {p : PD} {l : List RCmd} (h : rcsP p l) {j : Nat} (hj : j < l.length) : ∃ v, slP v l[j].nums ∧ iaddrD none 3 (.p p) (j : Int) = some (.ro [.int .i64 l[j].kind, .str l[j].text, v] 0) := by
  rcases h with ⟨rfl, rfl⟩ | ⟨rfl, rfl⟩ | ⟨es, rfl, hl, he⟩
  · simp at hj
  · simp at hj
  · have hj' : j < es.length := by omega
    obtain ⟨v, h1, h2⟩ := he j es[j] l[j] (List.getElem?_eq_getElem hj') (List.getElem?_eq_getElem hj)
    refine ⟨v, h2, ?_⟩
    simp [iaddrD, D.elems?, hj', h1, PD.cells]
def bigC (c : RCmd) : Bool := decide (300 < c.text.length) || decide (20 < c.nums.length)
def great (l : List RCmd) : Bool := decide (30 < l.length) || l.any bigC
theorem great_loop {p : PD} {l : List RCmd} (hp : rcsP p l) (hlen : l.length ≤ 30) : ∀ (n j : Nat), j ≤ l.length → l.length - j ≤ n →
    ∃ env, loopK (call pg) pg.G [0, 3] fc10_b0 ⟨[(0, .p p), (3, .p (.int .i64 j))], ⟨[], []⟩⟩ =
      if (l.drop j).any bigC then some (.ret, ⟨[(2, .p (.bool true))], ⟨[], []⟩⟩) else some (.exit 0, ⟨env, ⟨[], []⟩⟩) := by
  have hll := rcs_len hp
  intro n
  induction n with
  | zero =>
    intro j hj hn
    have : j = l.length := by omega
    refine ⟨[(0, .p p), (3, .p (.int .i64 j)), (10, .p (.bool false))], ?_⟩
    rw [List.drop_eq_nil_of_le (by omega)]
    simp only [List.any_nil, Bool.false_eq_true, if_false]
    refine loopK_out (o := .exit 0) ?_ (by simp)
    simp [fc10_b0, evKC, evK, put, Env.get, Env.keep, Opd.ev, binD, List.map, this, hll]
  | succ n ih =>
    intro j hj hn
    by_cases he : j = l.length
    · refine ⟨[(0, .p p), (3, .p (.int .i64 j)), (10, .p (.bool false))], ?_⟩
      rw [List.drop_eq_nil_of_le (by omega)]
      simp only [List.any_nil, Bool.false_eq_true, if_false]
      refine loopK_out (o := .exit 0) ?_ (by simp)
      simp [fc10_b0, evKC, evK, put, Env.get, Env.keep, Opd.ev, binD, List.map, he, hll]
    · have hlt : j < l.length := by omega
      have hlt' : (j : Int) < (l.length : Int) := by omega
      obtain ⟨v, hv, hia⟩ := rcs_ia hp hlt
      rw [List.drop_eq_getElem_cons hlt, List.any_cons]
      generalize l[j] = c at *
      have hk1 := inc64 (k := j) (by omega)
      obtain ⟨env, he⟩ := ih (j + 1) (by omega) (by omega)
      have hvl := sl_len hv
      have hl0 : lenD 0 (.p (.str c.text)) = some c.text.length := rfl
      unfold bigC
      by_cases h1 : 300 < c.text.length
      · have h1' : (300 : Int) < (c.text.length : Int) := by omega
        refine ⟨[], ?_⟩
        simp only [h1, decide_true, Bool.true_or, if_true]
        refine loopK_out (o := .ret) ?_ (by simp)
        simp [fc10_b0, evKC, evK, evGuard, put, Env.get, Env.keep, Opd.ev, loadD, cutAt, D.asInt?, binD, List.map, hlt', hll, hia, hl0, h1']
      · have h1' : ¬ (300 : Int) < (c.text.length : Int) := by omega
        by_cases h2 : 20 < c.nums.length
        · have h2' : (20 : Int) < (c.nums.length : Int) := by omega
          refine ⟨[], ?_⟩
          simp only [h1, h2, decide_true, decide_false, Bool.false_or, Bool.true_or, if_true]
          refine loopK_out (o := .ret) ?_ (by simp)
          simp [fc10_b0, evKC, evK, evGuard, put, Env.get, Env.keep, Opd.ev, loadD, cutAt, D.asInt?, binD, List.map, hlt', hll, hia, hl0, h1', hvl, h2']
        · have h2' : ¬ (20 : Int) < (c.nums.length : Int) := by omega
          refine ⟨env, ?_⟩
          simp only [h1, h2, decide_false, Bool.false_or]
          have he' : (List.drop (j + 1) l).any bigC = (List.drop (j + 1) l).any (fun c => decide (300 < c.text.length) || decide (20 < c.nums.length)) := rfl
          rw [← he', ← he]
          refine loopK_norm ?_
          simp [fc10_b0, evKC, evK, evGuard, put, Env.get, Env.keep, Opd.ev, loadD, cutAt, D.asInt?, binD, List.map, hlt', hll, hia, hl0, h1', hvl, h2', hk1]
theorem great_call {p : PD} {l : List RCmd} (hp : rcsP p l) (H : Hp) : callD (call pg) 10 [.p p] H = some (.val (.p (.bool (great l))), H) := by
  have hll := rcs_len hp
  have h : call pg 10 [.p p] ⟨[], []⟩ = some (.val (.p (.bool (great l))), ⟨[], []⟩) := by
    refine call_body (fc := fc10) rfl rfl rfl rfl ?_
    unfold great
    by_cases h1 : 30 < l.length
    · have h1' : (30 : Int) < (l.length : Int) := by omega
      simp [fc10, evKC, evK, put, Env.get, Env.keep, entry, Opd.ev, binD, finish, evRes, evRes1, hll, h1, h1']
    · have h1' : ¬ (30 : Int) < (l.length : Int) := by omega
      obtain ⟨env, h2⟩ := great_loop hp (by omega) l.length 0 (by omega) (by omega)
      rw [List.drop_zero] at h2
      simp only [Int.cast_ofNat_Int] at h2
      cases hs : l.any bigC with
      | true => rw [hs, if_pos rfl] at h2; simp [fc10, evKC, evK, put, Env.get, Env.keep, entry, Opd.ev, binD, finish, evRes, evRes1, hll, h1, h1', h2]
      | false => rw [hs, if_neg (by simp)] at h2; simp [fc10, evKC, evK, put, Env.get, Env.keep, entry, Opd.ev, binD, finish, evRes, evRes1, hll, h1, h1', h2]
  exact callD_purR h rfl rfl rfl rfl

end Go.Proofs.YtebbfckifhbkoaaGreatDoor

namespace Go.Proofs.YtebbfckifhbkoaaGreatDoor
open Go.Vs
def numOk (n : Int) : Bool := decide (-999999999 ≤ n) && decide (n ≤ 999999999)
def wellR (c : RCmd) : Bool :=
  decide (1 ≤ c.kind) && decide (c.kind ≤ 9) && (decide ((rowAt c.kind.toNat).2.1 ≤ (c.nums.length : Int)) && decide ((c.nums.length : Int) ≤ (rowAt c.kind.toNat).2.2.1) && (decide (c.text = []) || (rowAt c.kind.toNat).2.2.2)) && c.nums.all numOk
theorem well_loop {v : PD} {l : List Int} (hv : slP v l) (hlen : l.length ≤ 140737488355328) (k : PD) (t : List UInt8) (T : List (List D)) : ∀ (n j : Nat), j ≤ l.length → l.length - j ≤ n →
    ∃ env, loopK (call pg) pg.G [1, 4] fc17_b0 ⟨[(1, .box 0 0), (4, .p (.int .i64 j))], ⟨[.p k, .p (.str t), .p v] :: T, []⟩⟩ =
      if (l.drop j).all numOk then some (.exit 0, ⟨env, ⟨[.p k, .p (.str t), .p v] :: T, []⟩⟩) else some (.ret, ⟨[(2, .p (.bool false))], ⟨[.p k, .p (.str t), .p v] :: T, []⟩⟩) := by
  have hll := sl_len hv
  have hv1 : ∀ x y : D, isMapC [x, y, .p v] = false := fun x y => isMapC_two x y _
  intro n
  induction n with
  | zero =>
    intro j hj hn
    have : j = l.length := by omega
    refine ⟨[(1, .box 0 0), (4, .p (.int .i64 j)), (47, .p (.bool false))], ?_⟩
    rw [List.drop_eq_nil_of_le (by omega)]
    simp only [List.all_nil, if_true]
    refine loopK_out (o := .exit 0) ?_ (by simp)
    rcases hv with ⟨rfl, rfl⟩ | ⟨rfl, rfl⟩ | rfl <;> simp [fc17_b0, evKC, evK, put, Env.get, Env.keep, Opd.ev, loadD, cutAt, binD, hv1, this, hll]
  | succ n ih =>
    intro j hj hn
    by_cases he : j = l.length
    · refine ⟨[(1, .box 0 0), (4, .p (.int .i64 j)), (47, .p (.bool false))], ?_⟩
      rw [List.drop_eq_nil_of_le (by omega)]
      simp only [List.all_nil, if_true]
      refine loopK_out (o := .exit 0) ?_ (by simp)
      rcases hv with ⟨rfl, rfl⟩ | ⟨rfl, rfl⟩ | rfl <;> simp [fc17_b0, evKC, evK, put, Env.get, Env.keep, Opd.ev, loadD, cutAt, binD, hv1, he, hll]
    · have hlt : j < l.length := by omega
      have hlt' : (j : Int) < (l.length : Int) := by omega
      have hia := sl_ia hv hlt
      have hvs : v = .slice 1 (intsP l) := by
        rcases hv with ⟨_, h⟩ | ⟨_, h⟩ | h
        · rw [h] at hlt; exact absurd hlt (by simp)
        · rw [h] at hlt; exact absurd hlt (by simp)
        · exact h
      subst hvs
      rw [List.drop_eq_getElem_cons hlt, List.all_cons]
      generalize l[j] = x at *
      have hk1 := inc64 (k := j) (by omega)
      obtain ⟨env, he⟩ := ih (j + 1) (by omega) (by omega)
      unfold numOk at he ⊢
      by_cases h1 : -999999999 ≤ x
      · have h1' : ¬ x < -999999999 := by omega
        by_cases h2 : x ≤ 999999999
        · have h2' : ¬ 999999999 < x := by omega
          refine ⟨env, ?_⟩
          simp only [h1, h2, decide_true, Bool.true_and]
          rw [← he]
          refine loopK_norm ?_
          simp [fc17_b0, evKC, evK, evGuard, put, Env.get, Env.keep, Opd.ev, loadD, cutAt, D.asInt?, binD, hv1, hlt', hll, hia, h1', h2', hk1]
        · have h2' : 999999999 < x := by omega
          refine ⟨[], ?_⟩
          simp only [h1, h2, decide_true, decide_false, Bool.true_and, Bool.false_and, Bool.false_eq_true, if_false]
          refine loopK_out (o := .ret) ?_ (by simp)
          simp [fc17_b0, evKC, evK, evGuard, put, Env.get, Env.keep, Opd.ev, loadD, cutAt, D.asInt?, binD, hv1, hlt', hll, hia, h1', h2']
      · have h1' : x < -999999999 := by omega
        refine ⟨[], ?_⟩
        simp only [h1, decide_false, Bool.false_and, Bool.false_eq_true, if_false]
        refine loopK_out (o := .ret) ?_ (by simp)
        simp [fc17_b0, evKC, evK, evGuard, put, Env.get, Env.keep, Opd.ev, loadD, cutAt, D.asInt?, binD, hv1, hlt', hll, hia, h1']
theorem rows_iaR {k : Int} (h0 : 1 ≤ k) (h : k ≤ 9) : iaddrD none 4 rowsF (k - 1) = some (.ro (rowP (rowAt k.toNat)) 0) := by
  have := rows_ia (k := k.toNat) (by omega) (by omega)
  have e : ((k.toNat : Nat) : Int) - 1 = k - 1 := by omega
  rwa [e] at this
theorem well_call1 {c : RCmd} {v : PD} (hv : slP v c.nums) (hlen : c.nums.length ≤ 140737488355328) (H : Hp) : callD (call pg) 17 [.p (.agg [.int .i64 c.kind, .str c.text, v])] H = some (.val (.p (.bool (wellR c))), H) := by
  have hrows := rows_call
  have hvl := sl_len hv
  have hv1 : ∀ x y : D, isMapC [x, y, .p v] = false := fun x y => isMapC_two x y _
  have h : ∃ H', call pg 17 [.p (.agg [.int .i64 c.kind, .str c.text, v])] ⟨[], []⟩ = some (.val (.p (.bool (wellR c))), H') := by
    unfold wellR
    by_cases h1 : 1 ≤ c.kind
    · have h1' : ¬ c.kind < 1 := by omega
      by_cases h9 : c.kind ≤ 9
      · have h9' : ¬ 9 < c.kind := by omega
        have hri := rows_iaR h1 h9
        have hwk : IntKind.i64.wrap (c.kind - 1) = c.kind - 1 := wrap64 (by omega) (by omega)
        have hrow : rowP (rowAt c.kind.toNat) = [.str (rowAt c.kind.toNat).1, .int .i64 (rowAt c.kind.toNat).2.1, .int .i64 (rowAt c.kind.toNat).2.2.1, .bool (rowAt c.kind.toNat).2.2.2] := rfl
        rw [hrow] at hri
        obtain ⟨env, hlp⟩ := well_loop hv hlen (.int .i64 c.kind) c.text [[.p (.str (rowAt c.kind.toNat).1), .p (.int .i64 (rowAt c.kind.toNat).2.1), .p (.int .i64 (rowAt c.kind.toNat).2.2.1), .p (.bool (rowAt c.kind.toNat).2.2.2)]] c.nums.length 0 (by omega) (by omega)
        rw [List.drop_zero] at hlp
        simp only [Int.cast_ofNat_Int] at hlp
        generalize rowAt c.kind.toNat = R at *
        obtain ⟨rw1, rlo, rhi, rtx⟩ := R
        by_cases ha : rlo ≤ (c.nums.length : Int)
        · have ha' : ¬ (c.nums.length : Int) < rlo := by omega
          by_cases hb : (c.nums.length : Int) ≤ rhi
          · have hb' : ¬ rhi < (c.nums.length : Int) := by omega
            by_cases ht : c.text = []
            · have ht' : (c.text != []) = false := by simp [ht]
              rw [ht] at hlp
              cases hn : c.nums.all numOk with
              | true =>
                rw [hn, if_pos rfl] at hlp
                rcases hv with ⟨rfl, hx⟩ | ⟨rfl, hx⟩ | rfl <;> (apply Exists.intro; refine call_body (fc := fc17) rfl rfl rfl rfl ?_; simp [fc17, evKC, evK, evGuard, put, Env.get, Env.keep, entry, Opd.ev, loadD, storeD, splice, cutAt, D.asInt?, binD, strBin, sub, clsP, cls, clsR, isCl, isW, apartRW, offB, apartWW, clash, insOk, finish, evRes, evRes1, D.cells, D.one, PD.one, D.refsL, D.refs, D.toksL, D.toks, hv1, mapc_p, h1, h1', h9, h9', hrows, hri, hwk, hvl, ha, ha', hb, hb', ht, hlp]; rfl)
              | false =>
                rw [hn, if_neg (by simp)] at hlp
                rcases hv with ⟨rfl, hx⟩ | ⟨rfl, hx⟩ | rfl <;> (apply Exists.intro; refine call_body (fc := fc17) rfl rfl rfl rfl ?_; simp [fc17, evKC, evK, evGuard, put, Env.get, Env.keep, entry, Opd.ev, loadD, storeD, splice, cutAt, D.asInt?, binD, strBin, sub, clsP, cls, clsR, isCl, isW, apartRW, offB, apartWW, clash, insOk, finish, evRes, evRes1, D.cells, D.one, PD.one, D.refsL, D.refs, D.toksL, D.toks, hv1, mapc_p, h1, h1', h9, h9', hrows, hri, hwk, hvl, ha, ha', hb, hb', ht, hlp]; rfl)
            · have ht' : c.text.isEmpty = false := by simpa using ht
              cases hr : rtx with
              | false =>
                subst hr
                rcases hv with ⟨rfl, hx⟩ | ⟨rfl, hx⟩ | rfl <;> (apply Exists.intro; refine call_body (fc := fc17) rfl rfl rfl rfl ?_; simp [fc17, evKC, evK, evGuard, put, Env.get, Env.keep, entry, Opd.ev, loadD, storeD, splice, cutAt, D.asInt?, binD, strBin, unD, sub, clsP, cls, clsR, isCl, isW, apartRW, offB, apartWW, clash, insOk, finish, evRes, evRes1, D.cells, D.one, PD.one, D.refsL, D.refs, D.toksL, D.toks, hv1, mapc_p, h1, h1', h9, h9', hrows, hri, hwk, hvl, ha, ha', hb, hb', ht, ht']; rfl)
              | true =>
                subst hr
                cases hn : c.nums.all numOk with
                | true =>
                  rw [hn, if_pos rfl] at hlp
                  rcases hv with ⟨rfl, hx⟩ | ⟨rfl, hx⟩ | rfl <;> (apply Exists.intro; refine call_body (fc := fc17) rfl rfl rfl rfl ?_; simp [fc17, evKC, evK, evGuard, put, Env.get, Env.keep, entry, Opd.ev, loadD, storeD, splice, cutAt, D.asInt?, binD, strBin, unD, sub, clsP, cls, clsR, isCl, isW, apartRW, offB, apartWW, clash, insOk, finish, evRes, evRes1, D.cells, D.one, PD.one, D.refsL, D.refs, D.toksL, D.toks, hv1, mapc_p, h1, h1', h9, h9', hrows, hri, hwk, hvl, ha, ha', hb, hb', ht, ht', hlp]; rfl)
                | false =>
                  rw [hn, if_neg (by simp)] at hlp
                  rcases hv with ⟨rfl, hx⟩ | ⟨rfl, hx⟩ | rfl <;> (apply Exists.intro; refine call_body (fc := fc17) rfl rfl rfl rfl ?_; simp [fc17, evKC, evK, evGuard, put, Env.get, Env.keep, entry, Opd.ev, loadD, storeD, splice, cutAt, D.asInt?, binD, strBin, unD, sub, clsP, cls, clsR, isCl, isW, apartRW, offB, apartWW, clash, insOk, finish, evRes, evRes1, D.cells, D.one, PD.one, D.refsL, D.refs, D.toksL, D.toks, hv1, mapc_p, h1, h1', h9, h9', hrows, hri, hwk, hvl, ha, ha', hb, hb', ht, ht', hlp]; rfl)
          · have hb' : rhi < (c.nums.length : Int) := by omega
            rcases hv with ⟨rfl, hx⟩ | ⟨rfl, hx⟩ | rfl <;> (apply Exists.intro; refine call_body (fc := fc17) rfl rfl rfl rfl ?_; simp [fc17, evKC, evK, evGuard, put, Env.get, Env.keep, entry, Opd.ev, loadD, storeD, splice, cutAt, D.asInt?, binD, sub, clsP, cls, clsR, isCl, isW, apartRW, offB, apartWW, clash, insOk, finish, evRes, evRes1, D.cells, D.one, PD.one, D.refsL, D.refs, D.toksL, D.toks, hv1, mapc_p, h1, h1', h9, h9', hrows, hri, hwk, hvl, ha, ha', hb, hb']; rfl)
        · have ha' : (c.nums.length : Int) < rlo := by omega
          rcases hv with ⟨rfl, hx⟩ | ⟨rfl, hx⟩ | rfl <;> (apply Exists.intro; refine call_body (fc := fc17) rfl rfl rfl rfl ?_; simp [fc17, evKC, evK, evGuard, put, Env.get, Env.keep, entry, Opd.ev, loadD, storeD, splice, cutAt, D.asInt?, binD, sub, clsP, cls, clsR, isCl, isW, apartRW, offB, apartWW, clash, insOk, finish, evRes, evRes1, D.cells, D.one, PD.one, D.refsL, D.refs, D.toksL, D.toks, hv1, mapc_p, h1, h1', h9, h9', hrows, hri, hwk, hvl, ha, ha']; rfl)
      · have h9' : 9 < c.kind := by omega
        rcases hv with ⟨rfl, hx⟩ | ⟨rfl, hx⟩ | rfl <;> (apply Exists.intro; refine call_body (fc := fc17) rfl rfl rfl rfl ?_; simp [fc17, evKC, evK, evGuard, put, Env.get, Env.keep, entry, Opd.ev, loadD, cutAt, binD, finish, evRes, evRes1, D.cells, D.one, PD.one, hv1, h1, h1', h9, h9']; rfl)
    · have h1' : c.kind < 1 := by omega
      rcases hv with ⟨rfl, hx⟩ | ⟨rfl, hx⟩ | rfl <;> (apply Exists.intro; refine call_body (fc := fc17) rfl rfl rfl rfl ?_; simp [fc17, evKC, evK, evGuard, put, Env.get, Env.keep, entry, Opd.ev, loadD, cutAt, binD, finish, evRes, evRes1, D.cells, D.one, PD.one, hv1, h1, h1']; rfl)
  obtain ⟨H', h⟩ := h
  rcases hv with ⟨rfl, hx⟩ | ⟨rfl, hx⟩ | rfl <;> exact callD_purR h rfl rfl rfl rfl

end Go.Proofs.YtebbfckifhbkoaaGreatDoor

namespace Go.Proofs.YtebbfckifhbkoaaGreatDoor
open Go.Vs
abbrev PS := List Cmd × Nat
def stepS (x : List UInt8) (st : PS) : Except Int PS :=
  match x with
  | [] => .ok st
  | b :: t =>
    if b ≠ 124 then (match cmdS (b :: t) with
      | .error e => .error e
      | .ok c => if 200 ≤ st.1.length then .error 2 else .ok (st.1 ++ [c], 0))
    else match st.1.getLast? with
      | none => .error 340
      | some c => if (rowAt c.kind).2.2.2 then .ok (addT st.1 ((if 0 < st.2 then [10] else []) ++ t), st.2 + 1) else .error 340
def run : Nat → List (List UInt8) → PS → Except (Int × Nat) PS
  | _, [], st => .ok st
  | k, x :: r, st => if ign x then run (k + 1) r st else match stepS x st with
    | .error e => .error (e, k + 1)
    | .ok st' => run (k + 1) r st'
def fstE : Except (Int × Nat) PS → Except (Int × Nat) (List Cmd)
  | .ok st => .ok st.1
  | .error e => .error e
theorem par_run : ∀ (ws : List (List UInt8)) (k : Nat) (out : List Cmd) (n : Nat), parL (lns k ws) out n = fstE (run k ws (out, n))
  | [], _, _, _ => rfl
  | [] :: r, k, out, n => by
    have : lns k ([] :: r) = lns (k + 1) r := rfl
    rw [this, par_run r]
    rfl
  | (b :: t) :: r, k, out, n => by
    by_cases h : b = 35
    · subst h
      have : lns k ((35 :: t) :: r) = lns (k + 1) r := rfl
      rw [this, par_run r]
      rfl
    · have hi : ign (b :: t) = false := by simp [ign, h]
      have hl : lns k ((b :: t) :: r) = (k + 1, b :: t) :: lns (k + 1) r := by simp [lns, hi]
      rw [hl]
      simp only [run, hi, Bool.false_eq_true, if_false, parL, stepS]
      by_cases hb : b ≠ 124
      · rw [if_pos hb, if_pos hb]
        cases hc : cmdS (b :: t) with
        | error e => rfl
        | ok c =>
          dsimp only
          by_cases h2 : 200 ≤ out.length
          · rw [if_pos h2, if_pos h2]; rfl
          · rw [if_neg h2, if_neg h2]
            exact par_run r _ _ _
      · rw [if_neg hb, if_neg hb]
        cases hg : out.getLast? with
        | none => rfl
        | some c =>
          dsimp only
          by_cases h2 : (rowAt c.kind).2.2.2 = true
          · rw [if_pos h2, if_pos h2]
            exact par_run r _ _ _
          · rw [if_neg h2, if_neg h2]; rfl
theorem parse_run' {s : List UInt8} (hs : s.length ≤ 65536) : parse s = fstE (run 0 (spl 10 s) ([], 0)) := by
  unfold parse
  rw [if_neg (by omega), par_run]
theorem run_app : ∀ (a b : List (List UInt8)) (k : Nat) (st : PS), run k (a ++ b) st = match run k a st with
    | .error e => .error e
    | .ok st' => run (k + a.length) b st'
  | [], b, k, st => rfl
  | x :: a, b, k, st => by
    simp only [List.cons_append, run]
    have e : k + (x :: a).length = k + 1 + a.length := by simp; omega
    rw [e]
    split
    · exact run_app a b (k + 1) st
    · split
      · rfl
      · exact run_app a b (k + 1) _
def shE (d : Nat) : Except (Int × Nat) PS → Except (Int × Nat) PS
  | .ok st => .ok st
  | .error (e, n) => .error (e, n + d)
theorem run_sh (d : Nat) : ∀ (a : List (List UInt8)) (k : Nat) (st : PS), run (k + d) a st = shE d (run k a st)
  | [], k, st => rfl
  | x :: a, k, st => by
    simp only [run]
    have e : k + d + 1 = k + 1 + d := by omega
    rw [e]
    split
    · exact run_sh d a (k + 1) st
    · split
      · rfl
      · exact run_sh d a (k + 1) _
theorem run_err : ∀ (a : List (List UInt8)) (k : Nat) (st : PS) (e : Int) (n : Nat), run k a st = .error (e, n) →
    ∃ a1 x a2 st', a = a1 ++ x :: a2 ∧ n = k + a1.length + 1 ∧ run k a1 st = .ok st' ∧ ign x = false ∧ stepS x st' = .error e
  | [], _, _, _, _, h => by cases h
  | x :: a, k, st, e, n, h => by
    simp only [run] at h
    split at h
    · rename_i hi
      obtain ⟨a1, y, a2, st', h1, h2, h3, h4, h5⟩ := run_err a (k + 1) st e n h
      refine ⟨x :: a1, y, a2, st', by rw [h1]; rfl, by simp; omega, ?_, h4, h5⟩
      simp only [run, hi, if_true]; exact h3
    · rename_i hi
      split at h
      · rename_i e' he
        cases h
        exact ⟨[], x, a, st, rfl, by simp, rfl, by simpa using hi, he⟩
      · rename_i st1 he
        obtain ⟨a1, y, a2, st', h1, h2, h3, h4, h5⟩ := run_err a (k + 1) st1 e n h
        refine ⟨x :: a1, y, a2, st', by rw [h1]; rfl, by simp; omega, ?_, h4, h5⟩
        simp only [run, hi, Bool.false_eq_true, if_false, he]; exact h3
theorem run_at {k : Nat} {a1 : List (List UInt8)} {x : List UInt8} {st st' : PS} {e : Int} (h1 : run k a1 st = .ok st') (h2 : ign x = false) (h3 : stepS x st' = .error e) (a2 : List (List UInt8)) : run k (a1 ++ x :: a2) st = .error (e, k + a1.length + 1) := by
  rw [run_app, h1]
  simp only [run, h2, Bool.false_eq_true, if_false, h3]
theorem spl_free (c : UInt8) : ∀ s, ∀ w ∈ spl c s, c ∉ w
  | [], w, h => by simp [spl] at h; subst h; simp
  | b :: r, w, h => by
    have ih := spl_free c r
    simp only [spl] at h
    split at h
    · rcases List.mem_cons.1 h with rfl | h
      · simp
      · exact ih w h
    · rename_i hb
      split at h
      · rename_i v vs hv
        rcases List.mem_cons.1 h with rfl | h
        · have := ih v (by rw [hv]; simp)
          simp only [List.mem_cons, not_or]
          exact ⟨fun e => hb e.symm, this⟩
        · exact ih w (by rw [hv]; simp [h])
      · simp only [List.mem_singleton] at h
        subst h
        simp only [List.mem_singleton]
        exact fun e => hb e.symm
def endL (ls : List (List UInt8)) : List UInt8 := ls.flatMap fun x => x ++ [10]
theorem spl_endL (v : List UInt8) : ∀ {ls : List (List UInt8)}, (∀ x ∈ ls, (10 : UInt8) ∉ x) → spl 10 (endL ls ++ v) = ls ++ spl 10 v
  | [], _ => rfl
  | x :: ls, h => by
    have e : endL (x :: ls) ++ v = x ++ 10 :: (endL ls ++ v) := by simp [endL]
    rw [e, spl_app (h x (by simp)), spl_endL v (fun y hy => h y (by simp [hy]))]
    rfl
def jnL : List (List UInt8) → List UInt8
  | [] => []
  | [x] => x
  | x :: y :: r => x ++ 10 :: jnL (y :: r)
theorem spl_jnL : ∀ {ls : List (List UInt8)}, ls ≠ [] → (∀ x ∈ ls, (10 : UInt8) ∉ x) → spl 10 (jnL ls) = ls
  | [], h, _ => (h rfl).elim
  | [x], _, h => spl_none (h x (by simp))
  | x :: y :: r, _, h => by
    rw [jnL, spl_app (h x (by simp)), spl_jnL (by simp) (fun z hz => h z (by simp [hz]))]
theorem jn_spl : ∀ s : List UInt8, jnL (spl 10 s) = s
  | [] => rfl
  | b :: r => by
    have ih := jn_spl r
    simp only [spl]
    split
    · rename_i hb
      subst hb
      cases hs : spl 10 r with
      | nil => exact (spl_ne 10 r hs).elim
      | cons w ws => rw [hs] at ih; simp [jnL, ih]
    · split
      · rename_i w ws hs
        rw [hs] at ih
        cases ws with
        | nil => simp [jnL] at ih ⊢; exact ih
        | cons v vs => simp [jnL] at ih ⊢; exact ih
      · rename_i hs; exact (spl_ne 10 r hs).elim
theorem jn_cons {x : List UInt8} {r : List (List UInt8)} (h : r ≠ []) : jnL (x :: r) = x ++ 10 :: jnL r := by
  cases r with
  | nil => exact (h rfl).elim
  | cons y r => rfl
theorem endL_jn : ∀ {a b : List (List UInt8)}, b ≠ [] → jnL (a ++ b) = endL a ++ jnL b
  | [], _, _ => rfl
  | x :: a, b, h => by
    rw [List.cons_append, jn_cons (by simp [h]), endL_jn h]
    simp [endL]

end Go.Proofs.YtebbfckifhbkoaaGreatDoor

namespace Go.Proofs.YtebbfckifhbkoaaGreatDoor
open Go.Vs
theorem dval_snocF (b : UInt8) (h1 : 48 ≤ b.toNat) (h2 : b.toNat ≤ 57) : ∀ (l : List UInt8) (acc m : Nat), dval acc l = some m → dval acc (l ++ [b]) = some (m * 10 + (b.toNat - 48))
  | [], acc, m, h => by
    cases h
    simp only [List.nil_append, dval]
    rw [if_neg (by omega)]
  | c :: l, acc, m, h => by
    simp only [List.cons_append, dval] at h ⊢
    split at h
    · cases h
    · rename_i hc
      rw [if_neg hc]
      exact dval_snocF b h1 h2 l _ m h
theorem dig_nat {d : Nat} (h : d < 10) : (UInt8.ofNat (48 + d)).toNat = 48 + d := by
  rw [UInt8.toNat_ofNat_of_lt' (by simp [UInt8.size]; omega)]
theorem dval_digits (n : Nat) : dval 0 (Lib.decDigits n) = some n := by
  induction n using Nat.strongRecOn with
  | _ n ih =>
    by_cases hn : n < 10
    · rw [Lib.decDigits_one hn]
      simp only [dval]
      rw [dig_nat hn, if_neg (by omega)]
      congr 1; omega
    · rw [Lib.decDigits, dif_neg hn]
      have hd := dig_nat (d := n % 10) (by omega)
      rw [dval_snocF _ (by rw [hd]; omega) (by rw [hd]; omega) _ _ _ (ih (n / 10) (by omega)), hd]
      congr 1; omega
theorem dec_len : ∀ (k n : Nat), n < 10 ^ (k + 1) → (Lib.decDigits n).length ≤ k + 1
  | 0, n, h => by rw [Lib.decDigits_one (by simpa using h)]; simp
  | k + 1, n, h => by
    by_cases hn : n < 10
    · rw [Lib.decDigits_one hn]; simp
    · rw [Lib.decDigits, dif_neg hn, List.length_append]
      have := dec_len k (n / 10) (by rw [Nat.pow_succ] at h; omega)
      simp; omega
theorem dec_dig (n : Nat) : ∀ c ∈ Lib.decDigits n, 48 ≤ c.toNat ∧ c.toNat ≤ 57 := by
  intro c hc
  rw [Lib.decDigits_eq] at hc
  obtain ⟨t, _, rfl⟩ := List.mem_map.1 hc
  unfold Lib.dg
  have := dig_nat (d := n / 10 ^ (Lib.nDigits n - 1 - t) % 10) (by omega)
  rw [this]
  omega
theorem dec_ne (n : Nat) : ∃ d r, Lib.decDigits n = d :: r := by
  cases h : Lib.decDigits n with
  | nil =>
    have := Lib.decDigits_length n
    rw [h] at this
    have := Lib.nDigits_pos n
    simp at *; omega
  | cons d r => exact ⟨d, r, rfl⟩
theorem refD_digits {n m : Nat} (hn : n ≤ 999999999) (hm : m ≤ 1 ∨ 0 < n) : refD (Lib.decDigits n) m = some n := by
  obtain ⟨d, r, hd⟩ := dec_ne n
  have hl := dec_len 8 n (by omega)
  have hv := dval_digits n
  have hz := fun (h : d = 48) => dec_zero n r (by rw [hd, h])
  rw [hd] at hl hv ⊢
  unfold refD
  dsimp only
  rw [if_neg (by omega), if_neg]
  · exact hv
  · rintro ⟨h48, h⟩
    obtain ⟨h0, h1⟩ := hz h48
    subst h1
    rcases h with h | h
    · simp at h
    · omega
theorem num_itoa {n : Int} (h1 : -999999999 ≤ n) (h2 : n ≤ 999999999) : numS (Lib.itoa n) = some n := by
  rw [num_eq]
  unfold Lib.itoa
  split
  · rename_i hneg
    unfold refN
    dsimp only
    rw [if_pos rfl, refD_digits (by omega) (.inr (by omega))]
    simp only [Option.map_some]
    congr 1; omega
  · rename_i hneg
    obtain ⟨d, r, hd⟩ := dec_ne n.toNat
    have h45 : d ≠ 45 := fun e => by
      have := (dec_dig n.toNat d (by rw [hd]; simp)).1
      rw [e] at this
      exact absurd this (by decide)
    rw [hd]
    unfold refN
    dsimp only
    rw [if_neg h45, ← hd]
    have hv := dval_digits n.toNat
    have hl := dec_len 8 n.toNat (by omega)
    have hz := fun (h : d = 48) => dec_zero n.toNat r (by rw [hd, h])
    rw [hd] at hv hl ⊢
    unfold refD
    dsimp only
    rw [if_neg (by omega), if_neg]
    · rw [hv]
      simp only [Option.map_some]
      congr 1; omega
    · rintro ⟨h48, h⟩
      obtain ⟨h0, h1⟩ := hz h48
      subst h1
      simp at h
theorem itoa_len {n : Int} (h1 : -999999999 ≤ n) (h2 : n ≤ 999999999) : (Lib.itoa n).length ≤ 10 := by
  unfold Lib.itoa
  split
  · have := dec_len 8 n.natAbs (by omega)
    simp; omega
  · have := dec_len 8 n.toNat (by omega)
    omega
theorem itoa_free {n : Int} : ∀ c ∈ Lib.itoa n, c ≠ 32 ∧ c ≠ 10 := by
  intro c hc
  have key : ∀ m : Nat, ∀ c ∈ Lib.decDigits m, c ≠ 32 ∧ c ≠ 10 := fun m c hc => by
    have := (dec_dig m c hc).1
    refine ⟨fun e => ?_, fun e => ?_⟩ <;> (rw [e] at this; exact absurd this (by decide))
  unfold Lib.itoa at hc
  split at hc
  · rcases List.mem_cons.1 hc with rfl | h
    · decide
    · exact key _ c h
  · exact key _ c hc
structure WellC (c : Cmd) : Prop where
  pos : 0 < c.kind
  lt : c.kind < 10
  lo : (rowAt c.kind).2.1 ≤ (c.nums.length : Int)
  hi : (c.nums.length : Int) ≤ (rowAt c.kind).2.2.1
  tx : c.text = [] ∨ (rowAt c.kind).2.2.2 = true
  num : ∀ n ∈ c.nums, -999999999 ≤ n ∧ n ≤ 999999999
theorem row_facts {k : Nat} (h0 : 0 < k) (h : k < 10) : kindOf (rowAt k).1 = k ∧ (rowAt k).2.2.1 ≤ 8 ∧ (rowAt k).1.length ≤ 6 ∧ (32 : UInt8) ∉ (rowAt k).1 ∧ (10 : UInt8) ∉ (rowAt k).1 ∧ (∃ b t, (rowAt k).1 = b :: t ∧ b ≠ 35 ∧ b ≠ 124) := by
  match k, h0, h with
  | 1, _, _ | 2, _, _ | 3, _, _ | 4, _, _ | 5, _, _ | 6, _, _ | 7, _, _ | 8, _, _ | 9, _, _ => exact ⟨by decide, by decide, by decide, by decide, by decide, _, _, rfl, by decide, by decide⟩
theorem spl_sp : ∀ (l : List Int) (w : List UInt8), (32 : UInt8) ∉ w → spl 32 (w ++ l.flatMap spI) = w :: l.map Lib.itoa
  | [], w, h => by simp [spl_none h]
  | n :: l, w, h => by
    have e : w ++ (n :: l).flatMap spI = w ++ 32 :: (Lib.itoa n ++ l.flatMap spI) := by simp [spI]
    rw [e, spl_app h, spl_sp l (Lib.itoa n) (fun hm => (itoa_free 32 hm).1 rfl)]
    rfl
theorem nums_itoa : ∀ {l : List Int}, (∀ n ∈ l, -999999999 ≤ n ∧ n ≤ 999999999) → numsL (l.map Lib.itoa) = some l
  | [], _ => rfl
  | n :: l, h => by
    have h1 := h n (by simp)
    simp only [List.map_cons, numsL, num_itoa h1.1 h1.2, nums_itoa (l := l) (fun x hx => h x (by simp [hx])), Option.map_some]
def lineC (c : Cmd) : List UInt8 := (rowAt c.kind).1 ++ c.nums.flatMap spI
theorem cmd_line {c : Cmd} (h : WellC c) : cmdS (lineC c) = .ok ⟨c.kind, [], c.nums⟩ := by
  obtain ⟨hk, _, _, h32, _, _⟩ := row_facts h.pos h.lt
  unfold cmdS lineC
  rw [spl_sp _ _ h32]
  dsimp only
  have hk0 := h.pos
  have hlo := h.lo
  have hhi := h.hi
  rw [hk, if_neg (by omega), if_neg (by rw [List.length_map]; omega), nums_itoa h.num]
theorem line_head {c : Cmd} (h : WellC c) : ∃ b t, lineC c = b :: t ∧ b ≠ 35 ∧ b ≠ 124 := by
  obtain ⟨_, _, _, _, _, b, t, hb, h1, h2⟩ := row_facts h.pos h.lt
  exact ⟨b, t ++ c.nums.flatMap spI, by unfold lineC; rw [hb]; rfl, h1, h2⟩
theorem line_free {c : Cmd} (h : WellC c) : (10 : UInt8) ∉ lineC c := by
  obtain ⟨_, _, _, _, h10, _⟩ := row_facts h.pos h.lt
  unfold lineC
  intro hm
  rcases List.mem_append.1 hm with hm | hm
  · exact h10 hm
  · obtain ⟨n, hn, hm⟩ := List.mem_flatMap.1 hm
    unfold spI at hm
    rcases List.mem_cons.1 hm with hm | hm
    · exact absurd hm (by decide)
    · exact (itoa_free 10 hm).2 rfl
theorem nums_free : ∀ {r : List (List UInt8)} {l : List Int}, numsL r = some l → l.map Lib.itoa = r ∧ ∀ n ∈ l, -999999999 ≤ n ∧ n ≤ 999999999
  | [], l, h => by cases h; exact ⟨rfl, by simp⟩
  | x :: r, l, h => by
    simp only [numsL] at h
    split at h
    · rename_i n hn
      obtain ⟨l', hl, rfl⟩ := Option.map_eq_some_iff.1 h
      obtain ⟨i1, i2⟩ := nums_free hl
      have hx : Lib.itoa n = x := by
        unfold numS at hn
        split at hn
        · split at hn
          · rename_i hc; cases hn; exact hc.1
          · cases hn
        · cases hn
      have hb : -999999999 ≤ n ∧ n ≤ 999999999 := by
        rw [num_eq] at hn
        unfold refN at hn
        have key : ∀ ds m u, refD ds m = some u → u < 1000000000 := fun ds m u hu => by
          unfold refD at hu
          split at hu
          · cases hu
          · split at hu
            · cases hu
            · split at hu
              · cases hu
              · rename_i h9 _
                exact dval_small (by omega) hu
        split at hn
        · cases hn
        · split at hn
          · obtain ⟨u, hu, rfl⟩ := Option.map_eq_some_iff.1 hn
            have := key _ _ _ hu
            omega
          · obtain ⟨u, hu, rfl⟩ := Option.map_eq_some_iff.1 hn
            have := key _ _ _ hu
            omega
      refine ⟨by rw [List.map_cons, hx, i1], fun y hy => ?_⟩
      rcases List.mem_cons.1 hy with rfl | hy
      · exact hb
      · exact i2 y hy
    · cases h
theorem cmd_well {x : List UInt8} {c : Cmd} (h : cmdS x = .ok c) : WellC c ∧ c.text = [] ∧ (lineC c).length = x.length := by
  have hp := cmd_pos h
  obtain ⟨hlt, ht⟩ := cmd_kind h
  have hsum := spl_sum 32 x
  unfold cmdS at h
  split at h
  · cases h
  · rename_i w r hs
    split at h
    · cases h
    · rename_i hk
      split at h
      · cases h
      · rename_i hb
        split at h
        · rename_i l hn
          cases h
          obtain ⟨h1, h2⟩ := nums_free hn
          have hlen : l.length = r.length := by rw [← h1, List.length_map]
          dsimp only at hp hlt
          refine ⟨⟨hp, hlt, by dsimp only; omega, by dsimp only; omega, .inl rfl, h2⟩, rfl, ?_⟩
          have hw : (rowAt (kindOf w)).1 = w := by
            rcases kind_spec w with ⟨e, _⟩ | ⟨i, _, e, e2, _⟩
            · exact (hk e).elim
            · rw [e]; exact e2
          unfold lineC
          dsimp only
          rw [hw, List.length_append]
          rw [hs, ← h1, List.map_cons, List.sum_cons] at hsum
          have hf : ∀ l : List Int, (l.flatMap spI).length = ((l.map Lib.itoa).map fun x => x.length + 1).sum := by
            intro l
            induction l with
            | nil => rfl
            | cons n l ih => simp [spI] at ih ⊢; omega
          rw [hf]
          omega
        · cases h

end Go.Proofs.YtebbfckifhbkoaaGreatDoor

namespace Go.Proofs.YtebbfckifhbkoaaGreatDoor
open Go.Vs
def toC (c : RCmd) : Cmd := ⟨c.kind.toNat, c.text, c.nums⟩
def wellL (l : List RCmd) : List Cmd := (l.filter wellR).map toC
theorem wellR_well {c : RCmd} (h : wellR c = true) : WellC (toC c) ∧ ((toC c).kind : Int) = c.kind := by
  unfold wellR at h
  simp only [Bool.and_eq_true, Bool.or_eq_true, decide_eq_true_eq, List.all_eq_true, numOk] at h
  obtain ⟨⟨⟨h1, h2⟩, ⟨h3, h4⟩, h5⟩, h6⟩ := h
  have e : ((toC c).kind : Int) = c.kind := by show ((c.kind.toNat : Nat) : Int) = c.kind; omega
  exact ⟨⟨by omega, by omega, h3, h4, h5, h6⟩, e⟩
def esOk (es : List PD) (l : List Cmd) : Prop := es.length = l.length ∧ ∀ (i : Nat) e c, es[i]? = some e → l[i]? = some c → cmP e c
theorem esOk_snoc {es : List PD} {l : List Cmd} (h : esOk es l) {e : PD} {c : Cmd} (he : cmP e c) : esOk (es ++ [e]) (l ++ [c]) := by
  obtain ⟨h1, h2⟩ := h
  refine ⟨by simp [h1], fun i x y hx hy => ?_⟩
  by_cases hi : i < es.length
  · rw [List.getElem?_append_left hi] at hx
    rw [List.getElem?_append_left (by omega)] at hy
    exact h2 i x y hx hy
  · have hlt := (List.getElem?_eq_some_iff.1 hx).1
    simp at hlt
    have : i = es.length := by omega
    subst this
    rw [List.getElem?_append_right (by omega), Nat.sub_self] at hx
    rw [List.getElem?_append_right (by omega), h1, Nat.sub_self] at hy
    cases hx; cases hy; exact he
def wlEnv (p : PD) (es : List PD) (i : Nat) : Env := [(0, .p p), (3, .tsl 0 35 3 es), (4, .p (.int .i64 (i : Int)))]
theorem wl_loop {p : PD} {l : List RCmd} (hp : rcsP p l) (hlen : l.length ≤ 30) (hn : ∀ c ∈ l, c.nums.length ≤ 140737488355328) : ∀ (n i : Nat) (es : List PD) (ms : List Cmd), i ≤ l.length → l.length - i ≤ n → esOk es ms → es.length ≤ i →
    ∃ es' env, loopK (call pg) pg.G [0, 3, 4] fc13_b0 ⟨wlEnv p es i, ⟨[], [es.length]⟩⟩ = some (.exit 0, ⟨[(0, .p p), (3, .tsl 0 35 3 es')] ++ env, ⟨[], [es'.length]⟩⟩) ∧ esOk es' (ms ++ wellL (l.drop i)) := by
  have hll := rcs_len hp
  intro n
  induction n with
  | zero =>
    intro i es ms hi hm he hle
    have : i = l.length := by omega
    refine ⟨es, [(4, .p (.int .i64 i)), (9, .p (.bool false))], ?_, by rw [List.drop_eq_nil_of_le (by omega)]; simpa [wellL] using he⟩
    refine loopK_out (o := .exit 0) ?_ (by simp)
    simp [fc13_b0, wlEnv, evKC, evK, put, Env.get, Env.keep, Opd.ev, binD, mapO, D.ren, locD, below, Out.ren, List.map, this, hll]
  | succ n ih =>
    intro i es ms hi hm he hle
    by_cases hie : i = l.length
    · refine ⟨es, [(4, .p (.int .i64 i)), (9, .p (.bool false))], ?_, by rw [List.drop_eq_nil_of_le (by omega)]; simpa [wellL] using he⟩
      refine loopK_out (o := .exit 0) ?_ (by simp)
      simp [fc13_b0, wlEnv, evKC, evK, put, Env.get, Env.keep, Opd.ev, binD, mapO, D.ren, locD, below, Out.ren, List.map, hie, hll]
    · have hlt : i < l.length := by omega
      have hlt' : (i : Int) < (l.length : Int) := by omega
      obtain ⟨v, hv, hia⟩ := rcs_ia hp hlt
      have hcn := hn _ (List.getElem_mem hlt)
      rw [List.drop_eq_getElem_cons hlt]
      generalize l[i] = c at *
      have hk1 := inc64 (k := i) (by omega)
      have hw := fun H => well_call1 hv hcn H
      cases hwr : wellR c with
      | true =>
        obtain ⟨hwc, hk⟩ := wellR_well hwr
        rw [hwr] at hw
        have hel : cmP (.agg [.int .i64 c.kind, .str c.text, v]) (toC c) := ⟨v, by rw [hk]; rfl, hv⟩
        obtain ⟨es', env, h1, h2⟩ := ih (i + 1) (es ++ [.agg [.int .i64 c.kind, .str c.text, v]]) (ms ++ [toC c]) (by omega) (by omega) (esOk_snoc he hel) (by simp; omega)
        refine ⟨es', env, ?_, ?_⟩
        · rw [← h1]
          have hro : roomy (es.length + 1) 48 = true := by simp [roomy]; omega
          refine loopK_norm ?_
          have hv1 : ∃ q, v.cells = [q] ∧ v.one = true := by
            rcases hv with ⟨rfl, _⟩ | ⟨rfl, _⟩ | rfl <;> exact ⟨_, rfl, rfl⟩
          rcases hv with ⟨rfl, _⟩ | ⟨rfl, _⟩ | rfl <;> simp [fc13_b0, wlEnv, evKC, evK, put, Env.get, Env.keep, Opd.ev, loadD, cutAt, D.asInt?, binD, sub, mapO, PD.one, PD.cells, fillE, appendD, srcD, D.elems?, D.asPD, srcH, D.ren, locD, below, Out.ren, List.map, hlt', hll, hia, hw, hk1, hro]
        · have e : wellL (c :: l.drop (i + 1)) = toC c :: wellL (l.drop (i + 1)) := by simp [wellL, hwr]
          rw [e]
          simpa using h2
      | false =>
        rw [hwr] at hw
        obtain ⟨es', env, h1, h2⟩ := ih (i + 1) es ms (by omega) (by omega) he (by omega)
        refine ⟨es', env, ?_, ?_⟩
        · rw [← h1]
          refine loopK_norm ?_
          rcases hv with ⟨rfl, _⟩ | ⟨rfl, _⟩ | rfl <;> simp [fc13_b0, wlEnv, evKC, evK, put, Env.get, Env.keep, Opd.ev, loadD, cutAt, D.asInt?, binD, sub, mapO, D.ren, locD, below, Out.ren, List.map, hlt', hll, hia, hw, hk1]
        · have e : wellL (c :: l.drop (i + 1)) = wellL (l.drop (i + 1)) := by simp [wellL, hwr]
          rw [e]
          exact h2
theorem well_call {p : PD} {l : List RCmd} (hp : rcsP p l) (hlen : l.length ≤ 30) (hn : ∀ c ∈ l, c.nums.length ≤ 140737488355328) : ∃ q, cmsP q (wellL l) ∧ ∀ H, callD (call pg) 13 [.p p] H = some (.val (.p q), H) := by
  obtain ⟨es', env, h1, h2⟩ := wl_loop hp hlen hn l.length 0 [] [] (by omega) (by omega) ⟨rfl, by simp⟩ (by simp)
  rw [List.drop_zero, List.nil_append] at h2
  simp only [wlEnv, List.length_nil, Int.cast_ofNat_Int] at h1
  refine ⟨.slice 3 es', .inr (.inr ⟨es', rfl, h2.1, h2.2⟩), fun H => ?_⟩
  have h : call pg 13 [.p p] ⟨[], []⟩ = some (.val (.tsl 0 35 3 es'), ⟨[], [es'.length]⟩) := by
    refine call_body (fc := fc13) rfl rfl rfl rfl ?_
    simp [fc13, evKC, evK, put, Env.get, Env.keep, entry, Opd.ev, finish, evRes, evRes1, PD.one, PD.cells, fillE, h1, tokD]
  exact callD_purR h rfl rfl rfl rfl

end Go.Proofs.YtebbfckifhbkoaaGreatDoor

namespace Go.Proofs.YtebbfckifhbkoaaGreatDoor
open Go.Vs
def rjL (new : List UInt8) : List (List UInt8) → List UInt8
  | [] => []
  | w :: ws => w ++ ws.flatMap (new ++ ·)
theorem replaceK_spl (new : List UInt8) (c : UInt8) : ∀ (k : Nat) (s : List UInt8), Lib.count s [c] = k → Lib.replaceK [c] new k s = rjL new (spl c s) := by
  intro k
  induction k with
  | zero =>
    intro s h
    rcases index_cases s c with q | ⟨i, q⟩
    · simp only [Lib.replaceK]
      rw [spl_none (index_none' q)]
      simp [rjL]
    · have := Lib.count_hit (s := s) (sub := [c]) (i := i) (by simp) (by rw [Lib.index_one]; exact q)
      omega
  | succ k ih =>
    intro s h
    rcases index_cases s c with q | ⟨i, q⟩
    · have := Lib.count_miss (s := s) (sub := [c]) (by rw [Lib.index_one]; exact q)
      omega
    · have hc := Lib.count_hit (s := s) (sub := [c]) (i := i) (by simp) (by rw [Lib.index_one]; exact q)
      have hi : Lib.index s [c] = (i : Int) := by rw [Lib.index_one]; exact q
      simp only [List.length_cons, List.length_nil, Nat.zero_add] at hc
      rw [Lib.replaceK_hit _ _ _ _ _ hi]
      simp only [List.length_cons, List.length_nil, Nat.zero_add]
      rw [ih _ (by omega)]
      obtain ⟨h1, h2⟩ := index_split q
      conv => rhs; rw [h1]
      rw [spl_app h2]
      cases hs : spl c (s.drop (i + 1)) with
      | nil => exact (spl_ne _ _ hs).elim
      | cons w ws => simp [rjL]
theorem repl_rj (t : List UInt8) : Lib.replaceAll t [10] [10, 124] = rjL [10, 124] (spl 10 t) := by
  unfold Lib.replaceAll Lib.replace
  rw [if_neg (by decide)]
  have : Lib.replaceNum t [10] (-1) = Lib.count t [10] := by unfold Lib.replaceNum; rw [if_pos (.inl (by decide))]
  rw [this]
  exact replaceK_spl _ _ _ _ rfl
theorem rj_ref : ∀ (w : List UInt8) (ws : List (List UInt8)), 124 :: (rjL [10, 124] (w :: ws) ++ [10]) = refT (w :: ws)
  | w, [] => by simp [rjL, refT]
  | w, v :: ws => by
    have ih := rj_ref v ws
    have e : refT (w :: v :: ws) = 124 :: (w ++ [10]) ++ refT (v :: ws) := rfl
    rw [e, ← ih]
    simp [rjL]
theorem tx_ref (t : List UInt8) : txT t = refTx t := by
  unfold txT refTx
  by_cases h : t = []
  · rw [if_pos h, if_pos h]
  · rw [if_neg h, if_neg h, repl_rj]
    cases hs : spl 10 t with
    | nil => exact (spl_ne _ _ hs).elim
    | cons w ws => exact rj_ref w ws
theorem fmt_ref (l : List Cmd) : fmtL l = rfmtL l := by
  unfold fmtL rfmtL
  congr 1
  funext c
  unfold fmtC wrT rfmtC
  rw [tx_ref]
def linesC (c : Cmd) : List (List UInt8) := lineC c :: if c.text = [] then [] else (spl 10 c.text).map (124 :: ·)
theorem refT_end (ws : List (List UInt8)) : refT ws = endL (ws.map (124 :: ·)) := by
  induction ws with
  | nil => rfl
  | cons w ws ih => simp only [refT, endL, List.flatMap_cons, List.map_cons] at ih ⊢; rw [ih]; simp
theorem fmtC_lines (c : Cmd) : fmtC c = endL (linesC c) := by
  unfold fmtC wrT linesC
  rw [tx_ref]
  unfold refTx
  have e : ∀ r, endL (lineC c :: r) = lineC c ++ 10 :: endL r := fun r => by simp [endL]
  rw [e]
  split
  · simp [endL, lineC]
  · rw [refT_end]; simp [lineC]
theorem fmtL_lines (l : List Cmd) : fmtL l = endL (l.flatMap linesC) := by
  induction l with
  | nil => rfl
  | cons c l ih =>
    have e : fmtL (c :: l) = fmtC c ++ fmtL l := rfl
    rw [e, ih, fmtC_lines, List.flatMap_cons]
    simp [endL]
theorem linesC_free {c : Cmd} (h : WellC c) : ∀ x ∈ linesC c, (10 : UInt8) ∉ x := by
  intro x hx
  unfold linesC at hx
  rcases List.mem_cons.1 hx with rfl | hx
  · exact line_free h
  · split at hx
    · cases hx
    · obtain ⟨w, hw, rfl⟩ := List.mem_map.1 hx
      intro hm
      rcases List.mem_cons.1 hm with hm | hm
      · exact absurd hm (by decide)
      · exact spl_free 10 _ w hw hm
theorem run_more {c : Cmd} (hr : (rowAt c.kind).2.2.2 = true) (out : List Cmd) : ∀ (ws : List (List UInt8)) (j n : Nat) (t : List UInt8), run j (ws.map (124 :: ·)) (out ++ [{ c with text := t }], n + 1) = .ok (out ++ [{ c with text := t ++ ws.flatMap (10 :: ·) }], n + 1 + ws.length)
  | [], j, n, t => by simp [run]
  | w :: ws, j, n, t => by
    have hs : stepS (124 :: w) (out ++ [{ c with text := t }], n + 1) = .ok (out ++ [{ c with text := t ++ (10 :: w) }], n + 1 + 1) := by
      simp [stepS, hr, addT]
    have hi : ign (124 :: w) = false := rfl
    simp only [List.map_cons, run, hi, Bool.false_eq_true, if_false, hs]
    rw [run_more hr out ws (j + 1) (n + 1)]
    have e : n + 1 + 1 + ws.length = n + 1 + (w :: ws).length := by simp; omega
    rw [e]
    simp
theorem run_text {c : Cmd} (hr : (rowAt c.kind).2.2.2 = true) (out : List Cmd) (w : List UInt8) (ws : List (List UInt8)) (j : Nat) : run j ((w :: ws).map (124 :: ·)) (out ++ [{ c with text := [] }], 0) = .ok (out ++ [{ c with text := w ++ ws.flatMap (10 :: ·) }], 1 + ws.length) := by
  have hs : stepS (124 :: w) (out ++ [{ c with text := [] }], 0) = .ok (out ++ [{ c with text := w }], 0 + 1) := by
    simp [stepS, hr, addT]
  have hi : ign (124 :: w) = false := rfl
  simp only [List.map_cons, run, hi, Bool.false_eq_true, if_false, hs]
  rw [run_more hr out ws (j + 1) 0]
theorem jn_flat : ∀ (w : List UInt8) (ws : List (List UInt8)), jnL (w :: ws) = w ++ ws.flatMap (10 :: ·)
  | w, [] => by simp [jnL]
  | w, v :: ws => by rw [jnL, jn_flat v ws]; simp
theorem goC {c : Cmd} (h : WellC c) (j : Nat) (out : List Cmd) (n : Nat) (hlen : out.length < 200) : ∃ n', run j (linesC c) (out, n) = .ok (out ++ [c], n') := by
  obtain ⟨b, t, hb, h1, h2⟩ := line_head h
  have hcl := cmd_line h
  have hi : ign (lineC c) = false := by rw [hb]; simp [ign, h1]
  have hs : stepS (lineC c) (out, n) = .ok (out ++ [⟨c.kind, [], c.nums⟩], 0) := by
    rw [hb] at hcl ⊢
    simp only [stepS]
    rw [if_pos h2, hcl]
    dsimp only
    rw [if_neg (by omega)]
  unfold linesC
  simp only [run, hi, Bool.false_eq_true, if_false, hs]
  by_cases ht : c.text = []
  · rw [if_pos ht]
    refine ⟨0, ?_⟩
    obtain ⟨kd, tx, ns⟩ := c
    dsimp only at ht
    subst ht
    rfl
  · rw [if_neg ht]
    have hr : (rowAt c.kind).2.2.2 = true := h.tx.resolve_left ht
    have hj := jn_spl c.text
    cases hsp : spl 10 c.text with
    | nil => exact (spl_ne _ _ hsp).elim
    | cons w ws =>
      rw [hsp, jn_flat] at hj
      have := run_text hr out w ws (j + 1)
      refine ⟨1 + ws.length, this.trans ?_⟩
      rw [hj]
theorem goCs : ∀ (l : List Cmd), (∀ c ∈ l, WellC c) → ∀ (j : Nat) (out : List Cmd) (n : Nat), out.length + l.length ≤ 200 → ∃ n', run j (l.flatMap linesC) (out, n) = .ok (out ++ l, n')
  | [], _, j, out, n, _ => ⟨n, by simp [run]⟩
  | c :: l, h, j, out, n, hlen => by
    simp only [List.length_cons] at hlen
    obtain ⟨n1, h1⟩ := goC (h c (by simp)) j out n (by omega)
    obtain ⟨n2, h2⟩ := goCs l (fun x hx => h x (by simp [hx])) (j + (linesC c).length) (out ++ [c]) n1 (by simp; omega)
    refine ⟨n2, ?_⟩
    rw [List.flatMap_cons, run_app, h1]
    dsimp only
    rw [h2]
    simp
theorem run_nil (k : Nat) (st : PS) : run k [[]] st = .ok st := rfl
theorem parse_fmt {l : List Cmd} (h : ∀ c ∈ l, WellC c) (h1 : l.length ≤ 200) (h2 : (fmtL l).length ≤ 65536) : parse (fmtL l) = .ok l := by
  rw [parse_run' h2, fmtL_lines]
  have e : spl 10 (endL (l.flatMap linesC)) = l.flatMap linesC ++ [[]] := by
    have := spl_endL [] (ls := l.flatMap linesC) (fun x hx => by
      obtain ⟨c, hc, hx⟩ := List.mem_flatMap.1 hx
      exact linesC_free (h c hc) x hx)
    rw [List.append_nil] at this
    exact this
  rw [e]
  obtain ⟨n, hn⟩ := goCs l h 0 [] 0 (by simpa using h1)
  rw [run_app, hn]
  rfl
theorem spl_cnt (c : UInt8) : ∀ s : List UInt8, (spl c s).length = s.count c + 1
  | [] => rfl
  | b :: r => by
    have ih := spl_cnt c r
    simp only [spl]
    by_cases h : b = c
    · rw [if_pos h, List.length_cons, ih, h, List.count_cons_self]
    · rw [if_neg h, List.count_cons_of_ne (by simpa using h)]
      split
      · rename_i w ws hs; rw [hs] at ih; simpa using ih
      · rename_i hs; exact (spl_ne _ _ hs).elim
theorem tx_len (t : List UInt8) : (txT t).length ≤ t.length + t.count 10 + 2 := by
  rw [tx_ref]
  unfold refTx
  split
  · simp
  · rw [refT_len, spl_sum, spl_cnt]; omega
def muC (c : Cmd) : Nat := (lineC c).length + c.text.length + c.text.count 10 + 3
def mu (l : List Cmd) : Nat := (l.map muC).sum
theorem fmt_mu (l : List Cmd) : (fmtL l).length ≤ mu l := by
  induction l with
  | nil => simp [fmtL, mu]
  | cons c l ih =>
    have e : fmtL (c :: l) = fmtC c ++ fmtL l := rfl
    have := tx_len c.text
    rw [e, List.length_append]
    simp only [mu, List.map_cons, List.sum_cons, muC] at ih ⊢
    have h2 : (fmtC c).length = (lineC c).length + 1 + (txT c.text).length := by simp [fmtC, wrT, lineC]; omega
    omega
theorem mu_app (a b : List Cmd) : mu (a ++ b) = mu a + mu b := by simp [mu]

end Go.Proofs.YtebbfckifhbkoaaGreatDoor

namespace Go.Proofs.YtebbfckifhbkoaaGreatDoor
open Go.Vs
theorem addT_snoc (l : List Cmd) (c : Cmd) (t : List UInt8) : addT (l ++ [c]) t = l ++ [{ c with text := c.text ++ t }] := by simp [addT]
theorem step_cases {x : List UInt8} {st st' : PS} (h : stepS x st = .ok st') (hi : ign x = false) :
    (∃ c, cmdS x = .ok c ∧ st.1.length < 200 ∧ st' = (st.1 ++ [c], 0)) ∨
    (∃ t l c, x = 124 :: t ∧ st.1 = l ++ [c] ∧ (rowAt c.kind).2.2.2 = true ∧ st' = (l ++ [{ c with text := c.text ++ ((if 0 < st.2 then [10] else []) ++ t) }], st.2 + 1)) := by
  unfold stepS at h
  split at h
  · cases hi
  · rename_i b t
    split at h
    · split at h
      · cases h
      · rename_i c hc
        split at h
        · cases h
        · rename_i hl
          cases h
          exact .inl ⟨c, hc, by omega, rfl⟩
    · rename_i hb
      have hb : b = 124 := Decidable.not_not.1 hb
      subst hb
      split at h
      · cases h
      · rename_i c hc
        split at h
        · rename_i hr
          cases h
          have hne : st.1 ≠ [] := fun e => by rw [e] at hc; cases hc
          have hl : st.1 = st.1.dropLast ++ [c] := by
            have := List.getLast?_eq_some_getLast hne
            rw [this] at hc
            cases hc
            exact (List.dropLast_concat_getLast hne).symm
          refine .inr ⟨t, st.1.dropLast, c, rfl, hl, hr, ?_⟩
          conv => lhs; rw [hl]
          rw [addT_snoc]
        · cases h
def RunOk (st : PS) : Prop := (∀ c ∈ st.1, WellC c) ∧ st.1.length ≤ 200
theorem step_ok {x : List UInt8} {st st' : PS} (h : stepS x st = .ok st') (hi : ign x = false) (hs : RunOk st) : RunOk st' ∧ mu st'.1 ≤ mu st.1 + 3 * (x.length + 1) := by
  rcases step_cases h hi with ⟨c, hc, hl, rfl⟩ | ⟨t, l, c, rfl, hl, hr, rfl⟩
  · obtain ⟨h1, h2, h3⟩ := cmd_well hc
    refine ⟨⟨fun y hy => ?_, by simp; omega⟩, ?_⟩
    · rcases List.mem_append.1 hy with hy | hy
      · exact hs.1 y hy
      · simp only [List.mem_singleton] at hy; subst hy; exact h1
    · have e : mu [c] = muC c := by simp [mu]
      rw [mu_app, e]
      unfold muC
      rw [h2, h3]
      simp; omega
  · have hw := hs.1 c (by rw [hl]; simp)
    refine ⟨⟨fun y hy => ?_, by have := hs.2; rw [hl] at this; simpa using this⟩, ?_⟩
    · rcases List.mem_append.1 hy with hy | hy
      · exact hs.1 y (by rw [hl]; simp [hy])
      · simp only [List.mem_singleton] at hy
        subst hy
        exact ⟨hw.pos, hw.lt, hw.lo, hw.hi, .inr hr, hw.num⟩
    · rw [hl, mu_app, mu_app]
      have e : ∀ c, mu [c] = muC c := fun c => by simp [mu]
      rw [e, e]
      unfold muC
      have el : lineC { c with text := c.text ++ ((if 0 < st.2 then [10] else []) ++ t) } = lineC c := rfl
      have hc := List.count_le_length (a := (10 : UInt8)) (l := t)
      rw [el]
      split <;> simp <;> omega
theorem run_ok : ∀ (ws : List (List UInt8)) (k : Nat) (st st' : PS), run k ws st = .ok st' → RunOk st → RunOk st' ∧ mu st'.1 ≤ mu st.1 + 3 * (ws.map fun x => x.length + 1).sum
  | [], k, st, st', h, hs => by cases h; exact ⟨hs, by simp⟩
  | x :: ws, k, st, st', h, hs => by
    simp only [run] at h
    simp only [List.map_cons, List.sum_cons]
    split at h
    · have := run_ok ws (k + 1) st st' h hs
      exact ⟨this.1, by omega⟩
    · rename_i hi
      split at h
      · cases h
      · rename_i st1 h1
        have i1 := step_ok h1 (by simpa using hi) hs
        have i2 := run_ok ws (k + 1) st1 st' h i1.1
        exact ⟨i2.1, by omega⟩
theorem parse_well {s : List UInt8} (hs : s.length ≤ 65536) {l : List Cmd} (h : parse s = .ok l) : (∀ c ∈ l, WellC c) ∧ l.length ≤ 200 ∧ mu l ≤ 3 * (s.length + 1) := by
  rw [parse_run' hs] at h
  cases hr : run 0 (spl 10 s) ([], 0) with
  | error e => rw [hr] at h; cases h
  | ok st =>
    rw [hr] at h
    cases h
    obtain ⟨⟨h1, h2⟩, h3⟩ := run_ok _ _ _ _ hr ⟨by simp, by simp⟩
    rw [spl_sum] at h3
    exact ⟨h1, h2, by simpa [mu] using h3⟩
theorem parse_again {s : List UInt8} (hs : s.length ≤ 20000) {l : List Cmd} (h : parse s = .ok l) : (∀ c ∈ l, WellC c) ∧ parse (fmtL l) = .ok l ∧ mu l ≤ 3 * (s.length + 1) ∧ l.length ≤ 200 := by
  obtain ⟨h1, h2, h3⟩ := parse_well (by omega) h
  have := fmt_mu l
  exact ⟨h1, parse_fmt h1 h2 (by omega), h3, h2⟩
theorem cmd_codes {x : List UInt8} {e : Int} (h : cmdS x = .error e) : e = 340 ∨ e = 360 := by
  unfold cmdS at h
  split at h
  · cases h; exact .inr rfl
  · split at h
    · cases h; exact .inr rfl
    · split at h
      · cases h; exact .inl rfl
      · split at h
        · cases h
        · cases h; exact .inl rfl
theorem step_codes {x : List UInt8} {st : PS} {e : Int} (h : stepS x st = .error e) : e = 2 ∨ e = 340 ∨ e = 360 := by
  unfold stepS at h
  split at h
  · cases h
  · split at h
    · split at h
      · rename_i hc; cases h; exact .inr (cmd_codes hc)
      · split at h
        · cases h; exact .inl rfl
        · cases h
    · split at h
      · cases h; exact .inr (.inl rfl)
      · split at h
        · cases h
        · cases h; exact .inr (.inl rfl)
theorem run_codes {ws : List (List UInt8)} {k : Nat} {st : PS} {e : Int} {n : Nat} (h : run k ws st = .error (e, n)) : (e = 2 ∨ e = 340 ∨ e = 360) ∧ k < n ∧ n ≤ k + ws.length := by
  obtain ⟨a1, x, a2, st', rfl, rfl, _, _, h5⟩ := run_err _ _ _ _ _ h
  exact ⟨step_codes h5, by omega, by simp; omega⟩
theorem okNums_well {l : List Cmd} (h : ∀ c ∈ l, WellC c) : okNums l := by
  intro c hc
  have hw := h c hc
  obtain ⟨_, h8, _⟩ := row_facts hw.pos hw.lt
  have hhi := hw.hi
  have hs : ∀ l : List Int, (∀ n ∈ l, -999999999 ≤ n ∧ n ≤ 999999999) → (l.flatMap spI).length ≤ 11 * l.length := by
    intro l
    induction l with
    | nil => simp
    | cons n l ih =>
      intro h
      have h1 := h n (by simp)
      have := itoa_len h1.1 h1.2
      have := ih fun x hx => h x (by simp [hx])
      simp only [List.flatMap_cons, List.length_append, spI, List.length_cons]
      omega
  have h2 := hs c.nums hw.num
  refine ⟨by omega, by omega, fun x hx => ?_⟩
  have := hw.num x hx
  unfold small
  omega
theorem allEq_self : ∀ l : List Cmd, allEq l l = true
  | [] => rfl
  | c :: l => by simp [allEq, eqC, allEq_self l]
theorem same_self (l : List Cmd) : sameB l l = true := by simp [sameB, allEq_self]
theorem fmt_pre {l : List Cmd} (h : ∀ c ∈ l, WellC c) : ∀ c ∈ l, 0 < c.kind ∧ c.kind < 10 ∧ c.nums.length ≤ 8 ∧ ∀ x ∈ c.nums, -999999999 ≤ x ∧ x ≤ 999999999 := by
  intro c hc
  have hw := h c hc
  obtain ⟨_, h8, _⟩ := row_facts hw.pos hw.lt
  have := hw.hi
  exact ⟨hw.pos, hw.lt, by omega, hw.num⟩
theorem mu_text {l : List Cmd} : ∀ c ∈ l, c.text.length ≤ mu l := by
  induction l with
  | nil => simp
  | cons d l ih =>
    intro c hc
    simp only [mu, List.map_cons, List.sum_cons, muC] at ih ⊢
    rcases List.mem_cons.1 hc with rfl | hc
    · omega
    · have := ih c hc; omega
theorem mu_few {l : List Cmd} (h : ∀ c ∈ l, WellC c ∧ c.text.length ≤ 300) : mu l ≤ 800 * l.length := by
  induction l with
  | nil => simp [mu]
  | cons c l ih =>
    have h1 := ih fun x hx => h x (by simp [hx])
    obtain ⟨hw, ht⟩ := h c (by simp)
    obtain ⟨_, h8, h6, _⟩ := row_facts hw.pos hw.lt
    have hhi := hw.hi
    have hc := List.count_le_length (a := (10 : UInt8)) (l := c.text)
    have hs : ∀ l : List Int, (∀ n ∈ l, -999999999 ≤ n ∧ n ≤ 999999999) → (l.flatMap spI).length ≤ 11 * l.length := by
      intro l
      induction l with
      | nil => simp
      | cons n l ih =>
        intro h
        have h1 := h n (by simp)
        have := itoa_len h1.1 h1.2
        have := ih fun x hx => h x (by simp [hx])
        simp only [List.flatMap_cons, List.length_append, spI, List.length_cons]
        omega
    have h2 := hs c.nums hw.num
    have hl : (lineC c).length = (rowAt c.kind).1.length + (c.nums.flatMap spI).length := by simp [lineC]
    simp only [mu, List.map_cons, List.sum_cons, muC, List.length_cons] at h1 ⊢
    omega

end Go.Proofs.YtebbfckifhbkoaaGreatDoor
