/-
  Scripts that are too long, and too many commands: the walk of the law.
-/
import Derived.Test.YtebbfckifhbkoaaGreatDoorQ6
namespace Go.Proofs.YtebbfckifhbkoaaGreatDoor
open Go.Vs

def byP (b : UInt8) : PD := .int .u8 b.toNat
def byC (bs : List UInt8) : List D := (bs.map byP).map .p

theorem byC_snoc (bs : List UInt8) (b : UInt8) : byC (bs ++ [b]) = byC bs ++ [.p (byP b)] := by simp [byC]
theorem byC_len (bs : List UInt8) : (byC bs).length = bs.length := by simp [byC]
theorem byC_map (bs : List UInt8) : isMapC (byC bs) = false := by
  refine isMapC_one fun c hc => ?_
  obtain ⟨q, hq, rfl⟩ := List.mem_map.1 hc
  obtain ⟨b, _, rfl⟩ := List.mem_map.1 hq
  rfl

theorem chunks_by : ∀ bs : List UInt8, chunks 1 bs.length (bs.map byP) = bs.map byP
  | [] => rfl
  | b :: r => by
    have ih := chunks_by r
    simp only [List.length_cons, List.map_cons, chunks]
    rw [show (byP b :: r.map byP).drop 1 = r.map byP from rfl, ih]

theorem asPDL_by : ∀ bs : List UInt8, D.asPDL (byC bs) = some (bs.map byP)
  | [] => rfl
  | b :: r => by
    have ih := asPDL_by r
    show D.asPDL (D.p (byP b) :: byC r) = some (byP b :: r.map byP)
    simp only [D.asPDL, D.asPD, ih, Option.map_some]

theorem bytesOf_by : ∀ bs : List UInt8, bytesOf (bs.map byP) = some bs
  | [] => rfl
  | b :: r => by
    simp only [List.map_cons, byP, bytesOf]
    rw [show bytesOf (r.map byP) = some r from bytesOf_by r]
    simp

theorem mread_by {T : List (List D)} {i : Nat} {bs : List UInt8} (h : T[i]? = some (byC bs)) (tk : List Nat) : mread ⟨T, tk⟩ i 0 bs.length 1 = some (bs.map byP) := by
  unfold mread
  simp only [h, byC_map, byC_len, Nat.zero_add, Nat.mul_one, Nat.le_refl, and_self, if_true]
  have : sub (byC bs) 0 bs.length = byC bs := by
    unfold sub
    rw [List.drop_zero, List.take_of_length_le (by rw [byC_len]; exact Nat.le_refl _)]
  rw [this, asPDL_by, Option.map_some, chunks_by]

theorem str_by {T : List (List D)} {i : Nat} {bs : List UInt8} (h : T[i]? = some (byC bs)) : srcBH ⟨T, []⟩ (.gsl i 5 bs.length 1) = some (bs.map byP) := by
  show (if 1 = 1 then mread ⟨T, []⟩ i 0 bs.length 1 else none) = _
  rw [if_pos rfl, mread_by h]

theorem app_by {T : List (List D)} {i : Nat} {bs : List UInt8} (h : T[i]? = some (byC bs)) (h0 : 0 < bs.length) (h1 : bs.length ≤ 100000) :
    appendgD 5 1 1 (.gsl i 5 bs.length 1) [.int .u8 10] ⟨T, []⟩ = some (.gsl T.length 5 (bs.length + 1) 1, ⟨T.set i [] ++ [byC (bs ++ [10])], []⟩) := by
  have hr : roomy (bs.length + 1) 1 = true := by simp [roomy]; omega
  have hl := byC_len bs
  have hm := byC_map bs
  simp [appendgD, h, h0, hr, hl, hm, byC_snoc, byP, PD.cells]

theorem long_loop (m : Nat) (hm : m < 256) : ∀ (d : Nat) (T : List (List D)) (i : Nat) (bs : List UInt8), bs.length + d = 65537 + m → T[i]? = some (byC bs) → 0 < bs.length →
    ∃ T' i', loopK (call pg) pg.G [1, 5, 6] fc8_b0 ⟨[(1, .p (.int .u8 (m : Int))), (5, .p (.bool true)), (6, .gsl i 5 bs.length 1)], ⟨T, []⟩⟩ =
      some (.exit 0, ⟨[(1, .p (.int .u8 (m : Int))), (5, .p (.bool true)), (6, .gsl i' 5 (bs ++ List.replicate d 10).length 1), (32, .p (.bool false))], ⟨T', []⟩⟩) ∧ T'[i']? = some (byC (bs ++ List.replicate d 10)) := by
  intro d
  induction d with
  | zero =>
    intro T i bs hd hT h0
    refine ⟨T, i, ?_, by simpa using hT⟩
    have h1 : ¬ (bs.length : Int) ≤ 65536 + (m : Int) := by omega
    have hw : IntKind.i64.wrap (m : Int) = (m : Int) := wrap64 (by omega) (by omega)
    have hw2 : IntKind.i64.wrap (65536 + (m : Int)) = 65536 + (m : Int) := wrap64 (by omega) (by omega)
    rw [List.replicate_zero, List.append_nil]
    refine loopK_out (o := .exit 0) ?_ (by simp)
    simp [fc8_b0, evKC, evK, put, Env.get, Env.keep, Opd.ev, D.asInt?, binD, lenD, hw, hw2, h1]
  | succ d ih =>
    intro T i bs hd hT h0
    have h1 : (bs.length : Int) ≤ 65536 + (m : Int) := by omega
    have hw : IntKind.i64.wrap (m : Int) = (m : Int) := wrap64 (by omega) (by omega)
    have hw2 : IntKind.i64.wrap (65536 + (m : Int)) = 65536 + (m : Int) := wrap64 (by omega) (by omega)
    have happ := app_by hT h0 (by omega)
    have hget : (T.set i [] ++ [byC (bs ++ [10])])[T.length]? = some (byC (bs ++ [10])) := by
      rw [List.getElem?_append_right (by simp)]; simp
    obtain ⟨T', i', h3, h4⟩ := ih (T.set i [] ++ [byC (bs ++ [10])]) T.length (bs ++ [10]) (by simp; omega) hget (by simp)
    have e : bs ++ List.replicate (d + 1) 10 = bs ++ [10] ++ List.replicate d 10 := by
      rw [List.replicate_succ]; simp
    rw [e]
    refine ⟨T', i', ?_, h4⟩
    rw [← h3]
    refine loopK_norm ?_
    simp [fc8_b0, evKC, evK, put, Env.get, Env.keep, Opd.ev, D.asInt?, binD, lenD, PD.one, PD.cells, fillE, srcD, D.elems?, D.asPD, srcH, hw, hw2, h1, happ]

def nxE (t : List UInt8) : Env := [(5, .p (.bool true)), (7, .p .nils), (8, .p (.int .i64 2)), (9, .p (.int .i64 0)), (10, .p (.str t))]

theorem next_loop (H : Hp) : ∀ (d i : Nat), i + d = 200 →
    loopK (call pg) pg.G [5, 7, 8, 9, 10, 11] fc8_b1 ⟨nxE (nexts i) ++ [(11, .p (.int .i64 (i : Int)))], H⟩ =
      some (.exit 2, ⟨nxE (nexts 200) ++ [(11, .p (.int .i64 200)), (44, .p (.bool false))], H⟩) := by
  intro d
  induction d with
  | zero =>
    intro i hi
    have hi : i = 200 := by omega
    subst hi
    refine loopK_out (o := .exit 2) ?_ (by simp)
    generalize nexts 200 = t
    simp [fc8_b1, nxE, evKC, evK, put, Env.get, Env.keep, Opd.ev, binD]
  | succ d ih =>
    intro i hi
    have h1 : (i : Int) < 200 := by omega
    have hk1 := inc64 (k := i) (by omega)
    have hl := nexts_len i
    have b1 := addS (a := nexts i) (b := [110, 101, 120, 116, 10]) (by simp; omega)
    rw [← nexts_succ] at b1
    rw [← ih (i + 1) (by omega)]
    generalize nexts (i + 1) = t2 at *
    generalize nexts i = t at *
    refine loopK_norm ?_
    simp [fc8_b1, nxE, evKC, evK, put, Env.get, Env.keep, Opd.ev, binD_int, intBin, h1, hk1, b1]

theorem law8n (s : List UInt8) (m : Nat) (hm : m < 256) : ∃ H', call pg 8 [.p (.str s), .p (.int .u8 (m : Int))] ⟨[], []⟩ = some (.val (.p (.bool true)), H') := by
  have hh := head_call
  have hls : lenD 0 (.p (.str s)) = some s.length := rfl
  by_cases h1 : 2000 < s.length
  · have h1' : (2000 : Int) < (s.length : Int) := by omega
    refine ⟨⟨[], []⟩, call_body (fc := fc8) rfl rfl rfl rfl ?_⟩
    simp [fc8, evKC, evK, put, Env.get, Env.keep, entry, Opd.ev, binD, lenD, finish, evRes, evRes1, hh, h1']
  have h1' : ¬ (2000 : Int) < (s.length : Int) := by omega
  have b1 := addS (a := [35]) (b := s) (by simp; omega)
  have b2 := addS (a := [35] ++ s) (b := [10]) (by simp; omega)
  have hbl : ([35] ++ s ++ [10]).length = s.length + 2 := by simp
  have hby : toBytesGD 5 (.p (.str ([35] ++ s ++ [10]))) ⟨[], []⟩ = some (.gsl 0 5 ([35] ++ s ++ [10]).length 1, ⟨[byC ([35] ++ s ++ [10])], []⟩) := by
    unfold toBytesGD
    dsimp only
    rw [if_pos ⟨by omega, by omega⟩]
    rfl
  obtain ⟨T', i', hlp, hT⟩ := long_loop m hm (65535 + m - s.length) [byC ([35] ++ s ++ [10])] 0 ([35] ++ s ++ [10]) (by omega) rfl (by omega)
  have hstr := str_by hT
  have hbs := bytesOf_by ([35] ++ s ++ [10] ++ List.replicate (65535 + m - s.length) 10)
  have hwl : ([35] ++ s ++ [10] ++ List.replicate (65535 + m - s.length) 10).length = 65537 + m := by
    rw [List.length_append, hbl, List.length_replicate]; omega
  have hpe : parse ([35] ++ s ++ [10] ++ List.replicate (65535 + m - s.length) 10) = .error (2, 0) := by
    unfold parse
    rw [if_pos (by omega)]
  have hp1 := fun H => parse_call (s := [35] ++ s ++ [10] ++ List.replicate (65535 + m - s.length) 10) (by omega) H
  have hp2 := fun H => parse_call (s := nexts 200) (by rw [nexts_len]; omega) H
  have hp3 := fun H => parse_call (s := nexts 200 ++ [10, 115, 104, 111, 119, 10]) (by rw [List.length_append, nexts_len]; simp) H
  unfold parV at hp1 hp2 hp3
  rw [hpe] at hp1
  rw [next_parse] at hp2
  rw [next_more] at hp3
  dsimp only at hp1 hp2 hp3
  have hlc := cms_len (cmds_cms nextC)
  rw [nextC_len] at hlc
  have b3 := addS (a := nexts 200) (b := [10, 115, 104, 111, 119, 10]) (by rw [nexts_len]; simp)
  have hlp2 := next_loop ⟨T', []⟩ 200 0 rfl
  have hn0 : nexts 0 = [] := rfl
  rw [hn0] at hlp2
  have hln : lenD 1 (.p .nils) = some 0 := rfl
  simp only [nxE, Int.cast_ofNat_Int, List.cons_append, List.nil_append] at hlp2
  refine ⟨⟨T', []⟩, call_body (fc := fc8) rfl rfl rfl rfl ?_⟩
  generalize hw4 : [35] ++ s ++ [10] ++ List.replicate (65535 + m - s.length) 10 = w4 at *
  generalize hw3 : [35] ++ s ++ [10] = w3 at *
  generalize hw2 : [35] ++ s = w2 at *
  generalize nexts 200 ++ [10, 115, 104, 111, 119, 10] = t2 at *
  generalize nexts 200 = t1 at *
  generalize cmdsP nextC = y at *
  generalize w4.map byP = wp at *
  generalize w4.length = n4 at *
  generalize w3.length = n3 at *
  simp [fc8, evKC, evK, evGuard, put, Env.get, Env.keep, entry, Opd.ev, finish, evRes, evRes1, binD_int, intBin, hls, hln, hlc, hh, h1', b1, b2, b3, hby, hlp, hstr, hbs, hp1, hp2, hp3, hlp2]

theorem u8_nat {n : Int} (w : (Lit.int .u8 n).wf = true) : ∃ k : Nat, n = (k : Int) ∧ k < 256 := by
  have h : 0 ≤ n ∧ n ≤ 255 := by
    simp [Lit.wf, IntKind.min, IntKind.max, IntKind.bits, IntKind.signed] at w
    omega
  obtain ⟨k, rfl⟩ := Int.eq_ofNat_of_zero_le h.1
  exact ⟨k, rfl, by omega⟩

theorem law8 (s : List UInt8) (n : Int) (w : (Lit.int .u8 n).wf = true) : ∃ H', call pg 8 [.p (.str s), .p (.int .u8 n)] ⟨[], []⟩ = some (.val (.p (.bool true)), H') := by
  obtain ⟨k, rfl, hk⟩ := u8_nat w
  exact law8n s k hk

end Go.Proofs.YtebbfckifhbkoaaGreatDoor
