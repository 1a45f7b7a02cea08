/-
  Each operation of the evaluator does what the model's does: reading and writing memory, structs, new slices.
-/
import Derived.Test.YtphnflkjgoobmaaDoorFwH
import Derived.Laws.BytesArg
import Derived.Laws.IdiomStrings
namespace Go.Vs

variable {P : Program} {G : Nat → Option (List PD)} {γ : Gh} {H : Hp} {w : World} {env : Env} {a : Act} {o : Oper}

theorem sealL_get : ∀ {ds : List D} {xs : List PD}, D.asPDL ds = some xs → xs.length = ds.length ∧ ∀ (i : Nat) x, xs[i]? = some x → ∃ d, ds[i]? = some d ∧ d.asPD = some x
  | [], xs, h => by simp only [D.asPDL] at h; cases h; exact ⟨rfl, fun i x hx => by simp at hx⟩
  | d :: r, xs, h => by
    simp only [D.asPDL] at h
    split at h
    · rename_i x hx
      obtain ⟨ys, hy, rfl⟩ := Option.map_eq_some_iff.1 h
      obtain ⟨h1, h2⟩ := sealL_get hy
      refine ⟨by simp [h1], fun i z hz => ?_⟩
      match i with
      | 0 => simp only [List.getElem?_cons_zero, Option.some.injEq] at hz; subst hz; exact ⟨d, rfl, hx⟩
      | i + 1 => exact h2 i z (by simpa using hz)
    · cases h

theorem seal_one {d : D} {x : PD} (h : d.asPD = some x) (h1 : d.one = true) : x.one = true := by
  cases d <;> simp only [D.asPD] at h <;> first | (cases h; done) | (cases h; first | rfl | exact h1) | (simp [D.one] at h1)

/-- What is put where it is never written again: plain data. -/
theorem seal_rep {γ : Gh} {v : Value} {d : D} (r : RepD γ v d) : ∀ {x : PD}, d.asPD = some x → RepP γ.mem v x := by
  induction r with
  | p v x hx => intro y h; simp only [D.asPD] at h; cases h; exact hx
  | fsl b n sz es hn hx => intro y h; simp only [D.asPD] at h; cases h; exact hx
  | tsl v t e sz es row r h1 h2 h3 h4 h5 h6 => intro y h; simp only [D.asPD] at h; cases h; exact h4
  | agg cs ds hl hone hr ih =>
    intro y h
    simp only [D.asPD] at h
    obtain ⟨xs, hx, rfl⟩ := Option.map_eq_some_iff.1 h
    obtain ⟨h1, h2⟩ := sealL_get hx
    refine .agg cs xs (hl.trans h1.symm) (fun x hx' => ?_) (fun i x hi => ?_)
    · obtain ⟨i, hi⟩ := List.getElem?_of_mem hx'
      obtain ⟨d, a1, a2⟩ := h2 i x hi
      exact seal_one a2 (hone d (List.mem_of_getElem? a1))
    · obtain ⟨d, a1, a2⟩ := h2 i x hi
      exact ih i d a1 a2
  | _ => intro y h; simp only [D.asPD] at h; cases h

/-! Structs: equality. -/
theorem bytes_beq (x y : List UInt8) : ((⟨x.toArray⟩ : ByteArray) == ⟨y.toArray⟩) = (x == y) := by
  have h : ((⟨x.toArray⟩ : ByteArray) == ⟨y.toArray⟩) = (x.toArray == y.toArray) := rfl
  rw [h, Bool.eq_iff_iff]
  simp

theorem eqv_rep {t : TypeId} {tag : Nat} (ht : tagOf P t = some tag) {m : Mem} {u v : Value} {x y : PD} (hu : RepP m u x) (hv : RepP m v y) {r : Bool} (h : PD.eqv tag x y = some r) (d : Nat) (w : World) : (Op.equalIn (d + 1) t u v).run P w = .ok r w := by
  unfold tagOf at ht
  split at ht <;> cases ht <;> rename_i hty
  · simp only [PD.eqv] at h
    split at h <;> first | (cases h; done) | skip
    · cases h; rw [hu.bool_inv, hv.bool_inv]; exact run_eqIn_bool _ _ hty _ _
    · rename_i h0; cases h0
    · rename_i h0; cases h0
  · simp only [PD.eqv] at h
    split at h <;> first | (cases h; done) | skip
    · rename_i h0; cases h0
    · split at h
      · rename_i hk; subst hk; cases h; rw [hu.int_inv, hv.int_inv]; exact run_eqIn_int _ _ hty _ _ _
      · cases h
    · rename_i h0; cases h0
  · simp only [PD.eqv] at h
    split at h <;> first | (cases h; done) | skip
    · rename_i h0; cases h0
    · rename_i h0; cases h0
    · cases h
      rw [hu.str_inv, hv.str_inv, run_eqIn_str _ _ hty, bytes_beq]

theorem tagOf_cell {t : TypeId} {tag : Nat} (ht : tagOf P t = some tag) (w : World) : (isAgg t).run P w = .ok false w := by
  unfold tagOf at ht
  split at ht <;> cases ht <;> rename_i hty <;> simp [isAgg, run_underlying hty]

/-- The loop over a struct's fields. -/
def eqFields (dp : Nat) (xs ys : Array Value) : List Field → Sem (Option Bool)
  | [] => pure none
  | f :: r => do
    if f.name ≠ "_" then
      if !(← Op.equalIn dp f.type (← part f.type xs f.offset) (← part f.type ys f.offset)) then return some false
    eqFields dp xs ys r

theorem run_eqFields {m : Mem} {xs ys : Array Value} {ps qs : List PD} (hx : ∀ i d, ps[i]? = some d → RepP m (xs.getD i undef) d) (hy : ∀ i d, qs[i]? = some d → RepP m (ys.getD i undef) d)
    (lx : xs.size = ps.length) (ly : ys.size = qs.length) (dp : Nat) (w : World) : ∀ (fs : List Field) (i : Nat) (ts : List Nat) (r : Bool), flatTags P i fs = some ts → eqvL ts (ps.drop i) (qs.drop i) = some r →
      (eqFields (dp + 1) xs ys fs).run P w = .ok (if r then none else some false) w
  | [], i, ts, r, h, he => by
    simp only [flatTags] at h
    cases h
    have hr : r = true := by
      cases hp : ps.drop i <;> cases hq : qs.drop i <;> rw [hp, hq] at he <;> simp [eqvL] at he
      exact he
    subst hr
    simp [eqFields]
  | f :: fs, i, ts, r, h, he => by
    simp only [flatTags] at h
    split at h
    · rename_i tg htg
      split at h
      · rename_i hc
        obtain ⟨ts', hts, rfl⟩ := Option.map_eq_some_iff.1 h
        have hname : f.name ≠ "_" := by simpa using hc.2
        cases hp : ps.drop i with
        | nil => rw [hp] at he; simp [eqvL] at he
        | cons p pr =>
          cases hq : qs.drop i with
          | nil => rw [hp, hq] at he; simp [eqvL] at he
          | cons q qr =>
            rw [hp, hq] at he
            have e1 : ps[i]? = some p := by
              have := congrArg (fun l => l[0]?) hp
              simpa using this
            have e2 : qs[i]? = some q := by
              have := congrArg (fun l => l[0]?) hq
              simpa using this
            have d1 : ps.drop (i + 1) = pr := by
              have := congrArg (List.drop 1) hp
              simpa [List.drop_drop] using this
            have d2 : qs.drop (i + 1) = qr := by
              have := congrArg (List.drop 1) hq
              simpa [List.drop_drop] using this
            simp only [eqvL] at he
            split at he
            · rename_i e g he1 he2
              cases he
              have l1 : i < xs.size := by rw [lx]; exact (List.getElem?_eq_some_iff.1 e1).1
              have l2 : i < ys.size := by rw [ly]; exact (List.getElem?_eq_some_iff.1 e2).1
              obtain ⟨u, p1, ru⟩ : ∃ u, (part f.type xs f.offset).run P w = .ok u w ∧ RepP m u p :=
                ⟨xs.getD i undef, by simp [part, tagOf_cell htg, hc.1, Array.getElem?_eq_getElem l1, Array.getD_eq_getD_getElem?], hx i p e1⟩
              obtain ⟨v, p2, rv⟩ : ∃ u, (part f.type ys f.offset).run P w = .ok u w ∧ RepP m u q :=
                ⟨ys.getD i undef, by simp [part, tagOf_cell htg, hc.1, Array.getElem?_eq_getElem l2, Array.getD_eq_getD_getElem?], hy i q e2⟩
              have q1 := eqv_rep htg ru rv he1 dp w
              cases e with
              | false => simp [eqFields, hname, p1, p2, q1]
              | true =>
                have ih := run_eqFields hx hy lx ly dp w fs (i + 1) ts' g hts (by rw [d1, d2]; exact he2)
                simp [eqFields, hname, p1, p2, q1, ih]
            · cases he
      · cases h
    · cases h

theorem run_eqIn_struct {t : TypeId} {fs : Array Field} (ht : P.underlying t = some (.struct fs)) (h1 : P.stoodInHeld t = false) {xs ys : Array Value} (n : Nat) (w : World) {r : Bool}
    (h : (eqFields n xs ys fs.toList).run P w = .ok (if r then none else some false) w) : (Op.equalIn (n + 1) t (.agg xs) (.agg ys)).run P w = .ok r w := by
  simp only [Op.equalIn, Sem.run_bind, run_underlying ht, Result.andThen_ok, run_program, h1, Bool.false_eq_true, if_false]
  rw [← Array.forIn_toList]
  have key : ∀ (l : List Field), (forIn l ((none : Option Bool), ()) fun f __s =>
            if f.name ≠ "_" then do
              let __do_lift ← part f.type xs f.offset
              let __do_lift_1 ← part f.type ys f.offset
              let __do_lift ← Op.equalIn n f.type __do_lift __do_lift_1
              if (!__do_lift) = true then pure (ForInStep.done (some false, ())) else pure (ForInStep.yield (none, ()))
            else pure (ForInStep.yield (none, ())) : Sem (Option Bool × Unit)) = (do let x ← eqFields n xs ys l; pure (x, ())) := by
    intro l
    induction l with
    | nil => simp [eqFields]
    | cons f l ih =>
      rw [List.forIn_cons]
      simp only [eqFields]
      by_cases hf : f.name = "_"
      · rw [if_neg (by simp [hf]), if_neg (by simp [hf])]
        simp only [pure_bind]
        exact ih
      · rw [if_pos (by simp [hf]), if_pos (by simp [hf])]
        simp only [bind_assoc]
        congr 1; funext u; congr 1; funext v; congr 1; funext b
        cases b
        · simp
        · simp only [Bool.not_true, Bool.false_eq_true, if_false, pure_bind]
          exact ih
  rw [key]
  simp only [Sem.run_bind, h, Result.andThen_ok, Sem.run_pure]
  cases r <;> simp

theorem done_eqs (I : Inv G γ H w) (E : EnvRep γ env a.tmps) {op : BinOp} {t yt : TypeId} {x y : Operand} {x' y' : Opd} (ho : o.op = .binOp op t x y yt) (hop : op = .eql ∨ op = .neq) (hx : opdOf x = some x') (hy : opdOf y = some y')
    {fs : Array Field} (ht : P.underlying t = some (.struct fs)) (h1 : P.stoodInHeld t = false) (h2 : P.eqGuardType P.depth t = false) {ts : List Nat} (hts : flatTags P 0 fs.toList = some ts)
    {d : D} {H' : Hp} (he : evK G env H (.eqs (op == .neq) ts x' y') = some (d, H')) : Done P G γ H w a o d H' := by
  have hxr := opdOf_rep E hx
  have hyr := opdOf_rep E hy
  simp only [evK] at he
  split at he
  · rename_i p q e1 e2
    obtain ⟨r, hr, hh⟩ := Option.map_eq_some_iff.1 he
    cases hh
    rw [e1] at hxr; rw [e2] at hyr
    obtain ⟨xs, hxv, lx, _, rx⟩ := hxr.p_inv.agg_inv
    obtain ⟨ys, hyv, ly, _, ry⟩ := hyr.p_inv.agg_inv
    refine .same I (v := .bool (if op == .neq then !r else r)) ?_ (.p _ _ (.bool _))
    have g : (eqGuard op t x y (.agg xs) (.agg ys)).run P w = .ok () w := by
      unfold eqGuard
      rcases hop with rfl | rfl <;> simp [h2]
    have q : (Op.equal t (.agg xs) (.agg ys)).run P w = .ok r w := by
      rw [equal_succ]
      have := run_eqFields (P := P) rx ry lx ly 9998 w fs.toList 0 ts r hts (by simpa using hr)
      exact run_eqIn_struct ht h1 9999 w this
    have q' := run_eqneq hop (u := .agg xs) (v := .agg ys) rfl q
    simp [execOp, ho, hxv, hyv, g, q']
  · cases he

end Go.Vs
