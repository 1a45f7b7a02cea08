/-
  The fifth law: the first error; an input cut off behind a token.
-/
import Derived.Test.YtphnflkjgoobmaaDoorL8
import Derived.Test.YtphnflkjgoobmaaDoorFwW
namespace Go.Proofs.YtphnflkjgoobmaaDoor
open Go.Vs

theorem lexL_none_nil {t : List UInt8} (he : (lexL t).2 = none) (hn : (lexL t).1 = []) : sk false t = [] := by
  rcases lex_cases t with h | ⟨h, hb⟩ | ⟨h, hb⟩
  · exact h
  · rw [lexL_bad h hb] at he; cases he
  · rw [lexL_good hb] at hn; cases hn

theorem sl_toks5 (l : List Tok) : Sl (.slice 3 (l.map Tok.pd)) l := .inr rfl

theorem law5 (s : List UInt8) (z : Int) (hz : (Lit.int .u8 z).wf = true) : ∃ H, call pg 7 [.p (.str s), .p (.int .u8 z)] ⟨[], []⟩ = some (.val (.p (.bool true)), H) := by
  refine ⟨⟨[], []⟩, call_body (fc := fc7) rfl rfl rfl ?_⟩
  obtain ⟨z0, z1⟩ := u8_range hz
  have hf := few_eq s
  have ht : (s.take 2000).length ≤ 2000 := by simp; omega
  generalize s.take 2000 = t at *
  have hc11 := callD_pure (H := ⟨[], []⟩) head_eq rfl rfl rfl rfl
  have hc12 := callD_pure (H := ⟨[], []⟩) hf rfl rfl rfl rfl
  cases he : (lexL t).2 with
  | some p =>
    have h1 := lex_eq_err (by omega) he ⟨[], []⟩
    obtain ⟨p1, p2⟩ := lexL_err_pos (t.length + 1) t p (by omega) he
    obtain ⟨e1, e2⟩ := err_cut_at he
    have c1 : t.length - p < t.length := by omega
    generalize t.length - p = i at *
    have h2 := lex_eq_ok (t := t.take i) (by simp; omega) e1 ⟨[], []⟩
    have h3 := lex_eq_err (t := t.drop i) (p := (t.drop i).length) (by simp; omega) (by rw [e2]) ⟨[], []⟩
    rw [Nat.sub_self] at h3
    have c2 : ¬ (i : Int) < 0 := by omega
    have c3 : ¬ t.length ≤ i := by omega
    have c4 : i ≤ t.length := by omega
    have c5 : 0 ≤ (i : Int) := by omega
    simp [fc7, evKC, evK, evGuard, put, Env.get, Env.keep, entry, Opd.ev, D.asNat?, binD, boundsD, sliceD, sub, finish, evRes, evRes1, Int.toNat_natCast, lenD_str, hc11, hc12, h1, c2, c3, c4, h2, h3]
  | none =>
    have h1 := lex_eq_ok (by omega) he ⟨[], []⟩
    have hcn := lexL_count (t.length + 1) t (by omega)
    have hl : ((lexL t).1.map (T0.tok t.length)).length ≤ 2000 := by simp; omega
    have hll2 : (((lexL t).1.map (T0.tok t.length)).map Tok.pd).length = ((lexL t).1.map (T0.tok t.length)).length := by simp
    by_cases hnil : (lexL t).1 = []
    · have hv := void_eq (s := t) (by omega)
      rw [lexL_none_nil he hnil] at hv
      have hcv := callD_pure (H := ⟨[], []⟩) hv rfl rfl rfl rfl
      rw [hnil] at h1
      simp [fc7, evKC, evK, evGuard, put, Env.get, Env.keep, entry, Opd.ev, binD, finish, evRes, evRes1, lenD_sl, hc11, hc12, h1, hcv]
    · have hpos : 0 < ((lexL t).1.map (T0.tok t.length)).length := by simp; exact List.length_pos_iff.2 hnil
      have hk : z.toNat % ((lexL t).1.map (T0.tok t.length)).length < ((lexL t).1.map (T0.tok t.length)).length := Nat.mod_lt _ hpos
      obtain ⟨q1, q2, q3⟩ := ok_cut_at hk
      have hwz : IntKind.i64.wrap z = z := wrap64 (by omega) (by omega)
      generalize hL : (lexL t).1.map (T0.tok t.length) = l at *
      have hmod : z.tmod (l.length : Int) = ((z.toNat % l.length : Nat) : Int) := by
        rw [Int.tmod_eq_emod_of_nonneg z0]
        have : z = ((z.toNat : Nat) : Int) := by omega
        conv => lhs; rw [this]
        rfl
      generalize hkk : z.toNat % l.length = k at *
      have gl : iaddrD none 3 (.p (.slice 3 (l.map Tok.pd))) (k : Int) = some (.ro [.int .i64 l[k].kind, .str l[k].text, .int .i64 l[k].at_] 0) := by simp [iaddrD, D.elems?, hk, Tok.pd, PD.cells]
      have h2 := lex_eq_ok (t := t.take (l[k].at_ + l[k].text.length)) (by simp; omega) q2 ⟨[], []⟩
      rw [q3] at h2
      have hwe : IntKind.i64.wrap ((l[k].at_ : Int) + (l[k].text.length : Int)) = ((l[k].at_ + l[k].text.length : Nat) : Int) := by rw [wrap64 (by omega) (by omega)]; rfl
      have hsame := same_eq (sl_toks5 (l.take (k + 1))) (sl_toks5 (l.take (k + 1))) (by simp; omega)
      rw [sameB_self] at hsame
      have hcs := callD_pure (H := ⟨[], []⟩) hsame rfl rfl rfl rfl
      have hwk : IntKind.i64.wrap ((k : Int) + 1) = ((k + 1 : Nat) : Int) := by rw [wrap64 (by omega) (by omega)]; rfl
      generalize l[k] = x at *
      obtain ⟨kd, tx, a⟩ := x
      simp only at gl q1 h2 hwe
      have htk : (l.take (k + 1)).map Tok.pd = (l.map Tok.pd).take (k + 1) := by rw [List.map_take]
      rw [htk] at h2 hcs
      have hkl1 : ((k + 1 : Nat) : Int) ≤ (l.length : Int) := by omega
      have hkn : ((k + 1 : Nat) : Int).toNat = k + 1 := by omega
      have hk0 : (0 : Int) ≤ ((k + 1 : Nat) : Int) := by omega
      have hl0 : ((l.length : Int) == 0) = false := by
        rw [Bool.eq_false_iff]
        intro e
        rw [beq_iff_eq] at e
        omega
      have hl00 : ¬ (l.length : Int) = 0 := by omega
      have hl1 : ¬ l.length = 0 := by omega
      have hl2 : ¬ l = [] := by intro e; rw [e] at hpos; simp at hpos
      have c1 : ¬ ((a + tx.length : Nat) : Int) < 0 := by omega
      have c2 : ¬ (t.length : Int) < ((a + tx.length : Nat) : Int) := by omega
      have c3 : ((a + tx.length : Nat) : Int) ≤ (t.length : Int) := by omega
      have c4 : (0 : Int) ≤ ((a + tx.length : Nat) : Int) := by omega
      have c5 : ((a + tx.length : Nat) : Int).toNat = a + tx.length := by omega
      have hkl2 : k + 1 ≤ l.length := by omega
      have hkl3 : k < l.length := by omega
      generalize ((a + tx.length : Nat) : Int) = E at *
      generalize ((k + 1 : Nat) : Int) = K1 at *
      generalize l.map Tok.pd = L at *
      simp [fc7, evKC, evK, evGuard, put, Env.get, Env.keep, entry, Opd.ev, loadD, cutAt, D.asInt?, D.asNat?, binD, boundsD, sliceD, sub, cls, clash, finish, evRes, evRes1, D.elems?, lenD_str, lenD_sl, hc11, hc12, h1, hll2, hwz, hmod, gl, hwe, hwk, hl0, hl1, c1, c2, c4, c5, q1, h2, hkl2, hkn, hk0, hcs]

end Go.Proofs.YtphnflkjgoobmaaDoor
