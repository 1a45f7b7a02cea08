/-
  The eighth law: the limit.
-/
import Derived.Test.YtphnflkjgoobmaaDoorQ3
import Derived.Test.YtphnflkjgoobmaaDoorL7
namespace Go.Proofs.YtphnflkjgoobmaaDoor
open Go.Vs

def bp (l : List UInt8) : List PD := l.map fun b => .int .u8 b.toNat

theorem bp_len (l : List UInt8) : (bp l).length = l.length := by simp [bp]

theorem bytesOf_bp : ∀ l : List UInt8, bytesOf (bp l) = some l
  | [] => rfl
  | b :: l => by
    have h : bytesOf (bp (b :: l)) = (bytesOf (bp l)).map (UInt8.ofNat ((b.toNat : Int)).toNat :: ·) := rfl
    rw [h, bytesOf_bp l, Int.toNat_natCast]
    simp

theorem toStr_bp (t e : Nat) (l : List UInt8) : srcB (.tsl t e 1 (bp l)) = some (bp l) := by simp [srcB, D.elems?]

def nls (k : Nat) : List UInt8 := List.replicate k 10

theorem nls_sk : ∀ (m : Bool) (k : Nat), sk m (nls k) = []
  | m, 0 => by cases m <;> rfl
  | true, k + 1 => nls_sk false k
  | false, k + 1 => nls_sk false k

theorem nls_blank (k : Nat) : blankHead (nls k) = true := by cases k <;> rfl

theorem lex_nls {t : List UInt8} {k : Nat} (h : (t ++ nls k).length ≤ 20000) : lex (t ++ nls k) = lex t := by
  have hl : (nls k).length = k := by simp [nls]
  have ht : t.length ≤ 20000 := by rw [List.length_append] at h; omega
  have he : lexL (sk (finO (t.length + 1) t) (nls k)) = ([], none) := by rw [nls_sk, lexL_end rfl]
  have ha := lexL_app (nls_blank k) (t.length + 1) t (by omega)
  rw [he] at ha
  cases hq : (lexL t).2 with
  | some p =>
    rw [hq] at ha
    rw [lex_err ht hq, lex_err h (by rw [ha])]
    simp only [List.length_append, hl]
    congr 2
    omega
  | none =>
    rw [hq] at ha
    rw [lex_ok ht hq, lex_ok h (by rw [ha]), ha]
    simp only [List.append_nil, List.map_map, List.length_append, hl]
    congr 1
    refine List.map_congr_left fun x hx => ?_
    have := left_le (t.length + 1) t (by omega) x hx
    simp only [Function.comp, T0.up, T0.tok, Tok.mk.injEq, true_and]
    omega

theorem nls_succ (t : List UInt8) (j : Nat) : bp (t ++ nls j) ++ [.int .u8 10] = bp (t ++ nls (j + 1)) := by
  have : nls (j + 1) = nls j ++ [10] := by simp [nls, List.replicate_succ']
  rw [this, ← List.append_assoc]
  simp [bp]

set_option maxRecDepth 20000 in
theorem law8_fill {s : PD} {z : PD} {t : List UInt8} : ∀ (n j : Nat), t.length + j + n = 20000 →
    loopK (call pg) pg.G [0, 1, 5, 6] fc10_b0 ⟨[(0, .p s), (1, .p z), (5, .p (.bool true)), (6, .tsl 0 5 1 (bp (t ++ nls j)))], ⟨[], [t.length + j]⟩⟩ =
      some (.exit 0, ⟨[(0, .p s), (1, .p z), (5, .p (.bool true)), (6, .tsl 0 5 1 (bp (t ++ nls (j + n)))), (23, .p (.bool false))], ⟨[], [t.length + (j + n)]⟩⟩) := by
  intro n
  induction n with
  | zero =>
    intro j hj
    have hl : (bp (t ++ nls j)).length = 20000 := by simp [bp, nls]; omega
    have hl2 : ((bp (t ++ nls j)).length : Int) = 20000 := by omega
    have hnl : ¬ ((bp (t ++ nls j)).length : Int) < 20000 := by omega
    clear hl hl2
    refine loopK_out (o := .exit 0) ?_ (by simp)
    rw [Nat.add_zero]
    generalize bp (t ++ nls j) = B at *
    simp [fc10_b0, evKC, evK, put, Env.get, Env.keep, Opd.ev, binD, mapO, D.ren, locD, below, Out.ren, lenD_tsl, hnl]
  | succ n ih =>
    intro j hj
    have hl : (bp (t ++ nls j)).length = t.length + j := by simp [bp, nls]
    have hl2 : ((bp (t ++ nls j)).length : Int) < 20000 := by omega
    have hl3 : (t.length : Int) + (j : Int) < 20000 := by omega
    have h1 := ih (j + 1) (by omega)
    rw [show j + 1 + n = j + (n + 1) by omega] at h1
    rw [← h1]
    refine loopK_norm ?_
    have hs := nls_succ t j
    have hr : roomy (t.length + j + 1) 1 = true := by simp [roomy]; omega
    have e1 : t.length + (j + 1) = t.length + j + 1 := by omega
    rw [e1]
    generalize bp (t ++ nls (j + 1)) = B' at *
    generalize bp (t ++ nls j) = B at *
    simp [fc10_b0, evKC, evK, put, Env.get, Env.keep, Opd.ev, binD, mapO, PD.one, PD.cells, fillE, appendD, srcD, D.elems?, D.asPD, D.ren, locD, below, Out.ren, lenD_tsl, hl, hl3, hr, hs]

set_option maxRecDepth 20000 in
theorem law8_more {z : Int} (z0 : 0 ≤ z) (z1 : z < 256) {d7 d8 d9 d10 d11 d12 : PD} {u : List UInt8} (hu : u.length = 20000) : ∀ (n k : Nat), k + n = 256 →
    ∃ c env, 0 < c ∧ c ≤ 256 ∧ (n = 256 → True) ∧ env.get 5 = .p (.bool true) ∧ env.get 6 = .tsl 0 5 1 (bp (u ++ nls c)) ∧ env.get 7 = .p d7 ∧ env.get 8 = .p d8 ∧ env.get 9 = .p d9 ∧ env.get 10 = .p d10 ∧ env.get 11 = .p d11 ∧ env.get 12 = .p d12 ∧
      loopK (call pg) pg.G [1, 5, 6, 7, 8, 9, 10, 11, 12, 13] fc10_b1 ⟨[(1, .p (.int .u8 z)), (5, .p (.bool true)), (6, .tsl 0 5 1 (bp (u ++ nls (min k (z.toNat + 1))))), (7, .p d7), (8, .p d8), (9, .p d9), (10, .p d10), (11, .p d11), (12, .p d12), (13, .p (.int .i64 k))], ⟨[], [20000 + min k (z.toNat + 1)]⟩⟩ =
        some (.exit 2, ⟨env, ⟨[], [20000 + c]⟩⟩) := by
  have hwz : IntKind.i64.wrap z = z := wrap64 (by omega) (by omega)
  intro n
  induction n with
  | zero =>
    intro k hk
    have hk' : k = 256 := by omega
    subst hk'
    refine ⟨min 256 (z.toNat + 1), [(1, .p (.int .u8 z)), (5, .p (.bool true)), (6, .tsl 0 5 1 (bp (u ++ nls (min 256 (z.toNat + 1))))), (7, .p d7), (8, .p d8), (9, .p d9), (10, .p d10), (11, .p d11), (12, .p d12), (13, .p (.int .i64 256)), (42, .p (.bool false))], by omega, by omega, fun _ => trivial, rfl, rfl, rfl, rfl, rfl, rfl, rfl, rfl, loopK_out (o := .exit 2) ?_ (by simp)⟩
    generalize bp (u ++ nls (min 256 (z.toNat + 1))) = B at *
    simp [fc10_b1, evKC, evK, put, Env.get, Env.keep, Opd.ev, binD, mapO, D.ren, locD, below, Out.ren]
  | succ n ih =>
    intro k hk
    obtain ⟨c, env, g1, g2, g3, g4, g5, g6, g7, g8, g9, g10, g11, g12⟩ := ih (k + 1) (by omega)
    refine ⟨c, env, g1, g2, fun _ => trivial, g4, g5, g6, g7, g8, g9, g10, g11, ?_⟩
    rw [← g12]
    clear g1 g2 g3 g4 g5 g6 g7 g8 g9 g10 g11 g12 ih
    refine loopK_norm ?_
    have hwk : IntKind.i64.wrap ((k : Int) + 1) = ((k + 1 : Nat) : Int) := by rw [wrap64 (by omega) (by omega)]; rfl
    have hk1 : (k : Int) < 256 := by omega
    by_cases hz : (k : Int) ≤ z
    · have m1 : min k (z.toNat + 1) = k := by omega
      have m2 : min (k + 1) (z.toNat + 1) = k + 1 := by omega
      rw [m1, m2]
      have hs := nls_succ u k
      have hl : (bp (u ++ nls k)).length = 20000 + k := by simp [bp, nls]; omega
      have hr : roomy (20000 + k + 1) 1 = true := by simp [roomy]; omega
      have e1 : 20000 + (k + 1) = 20000 + k + 1 := by omega
      rw [e1]
      generalize bp (u ++ nls (k + 1)) = B' at *
      generalize bp (u ++ nls k) = B at *
      generalize 20000 + k = q at *
      simp [fc10_b1, evKC, evK, put, Env.get, Env.keep, Opd.ev, D.asInt?, binD, mapO, PD.one, PD.cells, fillE, appendD, srcD, D.elems?, D.asPD, D.ren, locD, below, Out.ren, hwk, hk1, hwz, hz, hl, hr, hs]
    · have m1 : min k (z.toNat + 1) = z.toNat + 1 := by omega
      have m2 : min (k + 1) (z.toNat + 1) = z.toNat + 1 := by omega
      rw [m1, m2]
      generalize 20000 + (z.toNat + 1) = q at *
      generalize bp (u ++ nls (z.toNat + 1)) = B at *
      simp [fc10_b1, evKC, evK, put, Env.get, Env.keep, Opd.ev, D.asInt?, binD, mapO, D.ren, locD, below, Out.ren, hwk, hk1, hwz, hz]

set_option maxRecDepth 20000 in
theorem law8 (s : List UInt8) (z : Int) (hz : (Lit.int .u8 z).wf = true) : ∃ H, call pg 10 [.p (.str s), .p (.int .u8 z)] ⟨[], []⟩ = some (.val (.p (.bool true)), H) := by
  obtain ⟨z0, z1⟩ := u8_range hz
  have hf := few_eq s
  have ht : (s.take 2000).length ≤ 2000 := by simp; omega
  generalize s.take 2000 = t at *
  have hfill := law8_fill (s := .str s) (z := .int .u8 z) (t := t) (20000 - t.length) 0 (by omega)
  rw [Nat.zero_add, Nat.add_zero] at hfill
  have hn0 : t ++ nls 0 = t := by simp [nls]
  rw [hn0] at hfill
  obtain ⟨u, hu⟩ : ∃ u, u = t ++ nls (20000 - t.length) := ⟨_, rfl⟩
  have hul : u.length = 20000 := by rw [hu]; simp [nls]; omega
  have htl : t.length + (20000 - t.length) = 20000 := by omega
  rw [← hu, htl] at hfill
  have hlu : lex u = lex t := by rw [hu]; exact lex_nls (by rw [← hu]; omega)
  have hcu := lex_eq u (by omega)
  rw [hlu] at hcu
  have hct := lex_eq t (by omega)
  have hsl := toks_sl (lex t) (lex_ends t)
  have hle := lex_len t
  have hsm := same_eq hsl hsl (by omega)
  rw [sameB_self] at hsm
  unfold Lexed.d at hcu hct
  generalize (lex t).toks = x at *
  obtain ⟨c, env, g1, g2, _, g4, g5, g6, g7, g8, g9, g10, g11, g12⟩ := law8_more z0 z1 (d7 := x) (d8 := .int .i64 ((lex t).2.1 : Nat)) (d9 := .int .i64 ((lex t).2.2 : Nat)) (d10 := x) (d11 := .int .i64 ((lex t).2.1 : Nat)) (d12 := .int .i64 ((lex t).2.2 : Nat)) hul 256 0 (by omega)
  have h0 : (((0 : Nat) : Int)) = 0 := rfl
  have hm0 : min 0 (z.toNat + 1) = 0 := by omega
  have hn1 : u ++ nls 0 = u := by simp [nls]
  rw [h0, hm0, hn1, Nat.add_zero] at g12
  have hlim : lex (u ++ nls c) = ([], 2, 0) := by
    unfold lex
    rw [if_pos (by simp [nls]; omega)]
  have hcc := lex_eq (u ++ nls c) (by simp [nls]; omega)
  rw [hlim] at hcc
  unfold Lexed.d at hcc
  have hcc2 : ∀ H, callD (call pg) 13 [.p (.str (u ++ nls c))] H = some (.val (.tup [.p .nils, .p (.int .i64 2), .p (.int .i64 0)]), H) := hcc
  have b1 := toStr_bp 0 5 u
  have b2 := toStr_bp 0 5 (u ++ nls c)
  have b3 := bytesOf_bp u
  have b4 := bytesOf_bp (u ++ nls c)
  have hroom : t.length ≤ 140737488355328 := by omega
  have b0 : t.map (fun b => PD.int .u8 b.toNat) = bp t := rfl
  have hc11 := callD_pure (H := ⟨[], []⟩) head_eq rfl rfl rfl rfl
  have hc12 := fun H => callD_pure (H := H) hf rfl rfl rfl rfl
  have hcs := fun H => callD_pure (H := H) hsm rfl rfl rfl rfl
  generalize hB : bp t = Bt at *
  have hBl : Bt.length = t.length := by rw [← hB, bp_len]
  clear hB
  generalize bp u = Bu at *
  generalize bp (u ++ nls c) = Bc at *
  generalize 20000 + c = q at *
  refine ⟨⟨[], [q]⟩, call_body (fc := fc10) rfl rfl rfl ?_⟩
  generalize (20000 : Nat) = Q at *
  simp [fc10, evKC, evK, evGuard, put, Env.get, Env.keep, entry, Opd.ev, binD, finish, evRes, evRes1, lenD_nils, toBytesD, tokD, hc11, hc12, hroom, b0, hfill, hcu, hct, hcc2, b1, b2, b3, b4, g4, g5, g6, g7, g8, g9, g10, g11, g12, hcs]

end Go.Proofs.YtphnflkjgoobmaaDoor
