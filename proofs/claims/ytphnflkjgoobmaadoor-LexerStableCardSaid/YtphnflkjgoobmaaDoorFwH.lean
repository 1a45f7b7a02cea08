/-
  Each operation of the evaluator does what the model's does: numbers, strings, equality, pieces, lengths.
-/
import Derived.Test.YtphnflkjgoobmaaDoorFwG
import Derived.Laws.Strings
namespace Go.Vs

variable {P : Program} {G : Nat → Option (List PD)} {γ : Gh} {H : Hp} {w : World} {env : Env} {a : Act} {o : Oper}

theorem run_bits {op : BinOp} {k : IntKind} {x y : Int} {t : TypeId} {v : Value} (h : (Op.intBits op k x y).run P w = .ok v w) (ho : (match op with | .and | .or | .xor | .andNot => true | _ => false) = true := by rfl) :
    (binOp op t (.int k x) (.int k y)).run P w = .ok v w := by
  have : binOp op t (.int k x) (.int k y) = Op.intBits op k x y := by
    cases op <;> first | (simp at ho; done) | simp only [binOp, ne_eq, not_true_eq_false, if_false]
  rw [this]; exact h

theorem run_intBin {op : BinOp} {k k' : IntKind} {x y : Int} {r : PD} (t : TypeId) (hk : op = .shl ∨ op = .shr ∨ k = k') (h : intBin op k x y = some r) (w : World) :
    ∃ v, (binOp op t (.int k x) (.int k' y)).run P w = .ok v w ∧ ∀ m, RepP m v r := by
  have same : ∀ op : BinOp, ¬ (op = .shl ∨ op = .shr) → (op = .shl ∨ op = .shr ∨ k = k') → k = k' := by
    intro op h1 h2
    rcases h2 with h | h | h
    · exact (h1 (.inl h)).elim
    · exact (h1 (.inr h)).elim
    · exact h
  cases op <;> simp only [intBin] at h
  case shl =>
    split at h
    · cases h
    · rename_i hn; cases h; exact ⟨_, by simp [binOp, Op.shift, hn], fun m => .int _ _⟩
  case shr =>
    split at h
    · cases h
    · rename_i hn; cases h; exact ⟨_, by simp [binOp, Op.shift, hn], fun m => .int _ _⟩
  case quo =>
    split at h
    · cases h
    · rename_i hn; cases h; cases same .quo (by simp) hk; exact ⟨_, by simp [binOp, Op.intDiv, hn], fun m => .int _ _⟩
  case rem =>
    split at h
    · cases h
    · rename_i hn; cases h; cases same .rem (by simp) hk; exact ⟨_, by simp [binOp, Op.intDiv, hn], fun m => .int _ _⟩
  case and => cases h; cases same .and (by simp) hk; exact ⟨_, run_bits rfl, fun m => .int _ _⟩
  case or => cases h; cases same .or (by simp) hk; exact ⟨_, run_bits rfl, fun m => .int _ _⟩
  case xor => cases h; cases same .xor (by simp) hk; exact ⟨_, run_bits rfl, fun m => .int _ _⟩
  case andNot => cases h; cases same .andNot (by simp) hk; exact ⟨_, run_bits rfl, fun m => .int _ _⟩
  case add => cases h; cases same .add (by simp) hk; exact ⟨_, by simp [binOp, Op.intArith], fun m => .int _ _⟩
  case sub => cases h; cases same .sub (by simp) hk; exact ⟨_, by simp [binOp, Op.intArith], fun m => .int _ _⟩
  case mul => cases h; cases same .mul (by simp) hk; exact ⟨_, by simp [binOp, Op.intArith], fun m => .int _ _⟩
  case eql => cases h; cases same .eql (by simp) hk; exact ⟨_, by simp [binOp, Op.intCmp], fun m => .bool _⟩
  case neq => cases h; cases same .neq (by simp) hk; exact ⟨_, by simp [binOp, Op.intCmp], fun m => .bool _⟩
  case lss => cases h; cases same .lss (by simp) hk; exact ⟨_, by simp [binOp, Op.intCmp], fun m => .bool _⟩
  case leq => cases h; cases same .leq (by simp) hk; exact ⟨_, by simp [binOp, Op.intCmp], fun m => .bool _⟩
  case gtr => cases h; cases same .gtr (by simp) hk; exact ⟨_, by simp [binOp, Op.intCmp], fun m => .bool _⟩
  case geq => cases h; cases same .geq (by simp) hk; exact ⟨_, by simp [binOp, Op.intCmp], fun m => .bool _⟩

theorem toList_mk (s : List UInt8) : (⟨s.toArray⟩ : ByteArray).toList = s := by rw [ByteArray.toList_eq]

theorem run_strBin {op : BinOp} {x y : List UInt8} {r : PD} (t : TypeId) (h : strBin op x y = some r) (w : World) :
    ∃ v, (binOp op t (.string ⟨x.toArray⟩) (.string ⟨y.toArray⟩)).run P w = .ok v w ∧ ∀ m, RepP m v r := by
  cases op <;> simp only [strBin] at h
  case add =>
    split at h
    · rename_i hl
      cases h
      have hs : ∀ l : List UInt8, (⟨l.toArray⟩ : ByteArray).size = l.length := fun l => by simp [ByteArray.size]
      refine ⟨.string ⟨(x ++ y).toArray⟩, ?_, fun m => .str _⟩
      have e : (⟨x.toArray⟩ : ByteArray) ++ ⟨y.toArray⟩ = ⟨(x ++ y).toArray⟩ := by
        apply ByteArray.ext
        simp [ByteArray.data_append]
      have hb : (binOp .add t (.string ⟨x.toArray⟩) (.string ⟨y.toArray⟩) : Sem Value) = Op.stringOp .add ⟨x.toArray⟩ ⟨y.toArray⟩ := rfl
      rw [hb, run_string_add_sum _ _ _ (by rw [hs, hs]; omega), e]
    · cases h
  case eql => cases h; exact ⟨_, by simp [binOp, Op.stringOp], fun m => .bool _⟩
  case neq => cases h; exact ⟨_, by simp [binOp, Op.stringOp], fun m => .bool _⟩
  case lss => cases h; exact ⟨_, by simp [binOp, Op.stringOp], fun m => .bool _⟩
  case leq => cases h; exact ⟨_, by simp [binOp, Op.stringOp], fun m => .bool _⟩
  case gtr => cases h; exact ⟨_, by simp [binOp, Op.stringOp], fun m => .bool _⟩
  case geq => cases h; exact ⟨_, by simp [binOp, Op.stringOp], fun m => .bool _⟩
  all_goals cases h

theorem run_eqGuard_ok {op : BinOp} {t : TypeId} {x y : Operand} {u v : Value} (h : ¬ (u = .nilIface ∧ v = .nilIface)) (h2 : ∀ cs ds, ¬ (u = .agg cs ∧ v = .agg ds)) (w : World) : (eqGuard op t x y u v).run P w = .ok () w := by
  unfold eqGuard
  cases op <;> simp
  all_goals
    split
    · exact (h ⟨rfl, rfl⟩).elim
    · exact (h2 _ _ ⟨rfl, rfl⟩).elim
    · simp

theorem done_bin (I : Inv G γ H w) (E : EnvRep γ env a.tmps) {op : BinOp} {t yt : TypeId} {x y : Operand} {x' y' : Opd} (ho : o.op = .binOp op t x y yt) (hx : opdOf x = some x') (hy : opdOf y = some y')
    {d : D} {H' : Hp} (he : evK G env H (.bin op x' y') = some (d, H')) : Done P G γ H w a o d H' := by
  have hxr := opdOf_rep E hx
  have hyr := opdOf_rep E hy
  simp only [evK] at he
  obtain ⟨d', hd, hh⟩ := Option.map_eq_some_iff.1 he
  cases hh
  unfold binD at hd
  split at hd
  · rename_i k p k' q e1 e2
    split at hd
    · rename_i hk
      obtain ⟨r, hr, rfl⟩ := Option.map_eq_some_iff.1 hd
      rw [e1] at hxr; rw [e2] at hyr
      obtain ⟨v, q1, q2⟩ := run_intBin (P := P) t hk hr w
      refine .same I (v := v) ?_ (.p _ _ (q2 _))
      have e := run_eqGuard_ok (P := P) (op := op) (t := t) (x := x) (y := y) (u := .int k p) (v := .int k' q) (by simp) (by simp) w
      simp [execOp, ho, hxr.p_inv.int_inv, hyr.p_inv.int_inv, q1, e]
    · cases hd
  · rename_i p q e1 e2
    obtain ⟨r, hr, rfl⟩ := Option.map_eq_some_iff.1 hd
    rw [e1] at hxr; rw [e2] at hyr
    obtain ⟨v, q1, q2⟩ := run_strBin (P := P) t hr w
    refine .same I (v := v) ?_ (.p _ _ (q2 _))
    have e := run_eqGuard_ok (P := P) (op := op) (t := t) (x := x) (y := y) (u := .string ⟨p.toArray⟩) (v := .string ⟨q.toArray⟩) (by simp) (by simp) w
    simp [execOp, ho, hxr.p_inv.str_inv, hyr.p_inv.str_inv, q1, e]
  · cases hd

/-- What '==' and '!=' on two values come to. -/
theorem run_eqneq {op : BinOp} (hop : op = .eql ∨ op = .neq) {t : TypeId} {u v : Value} {b : Bool} (hu : (match u with | .int _ _ | .float _ _ | .complex _ _ _ | .string _ => true | _ => false) = false)
    (h : (Op.equal t u v).run P w = .ok b w) : (binOp op t u v).run P w = .ok (.bool (if op == .neq then !b else b)) w := by
  rcases hop with rfl | rfl <;> cases u <;> first | (simp at hu; done) | (cases v <;> simp [binOp, h])

theorem equal_succ (t : TypeId) (u v : Value) : Op.equal t u v = Op.equalIn (9999 + 1) t u v := rfl

section
variable (d : Nat) (t : TypeId)
theorem run_eqIn_bool (ht : P.underlying t = some .bool) (x y : Bool) : (Op.equalIn (d + 1) t (.bool x) (.bool y)).run P w = .ok (x == y) w := by simp [Op.equalIn, run_underlying ht]
theorem run_eqIn_int {k' : IntKind} (ht : P.underlying t = some (.int k')) (k : IntKind) (x y : Int) : (Op.equalIn (d + 1) t (.int k x) (.int k y)).run P w = .ok (x == y) w := by simp [Op.equalIn, run_underlying ht]
theorem run_eqIn_str (ht : P.underlying t = some .string) (x y : ByteArray) : (Op.equalIn (d + 1) t (.string x) (.string y)).run P w = .ok (x == y) w := by simp [Op.equalIn, run_underlying ht]
theorem run_eqIn_ptr {e : TypeId} (ht : P.underlying t = some (.pointer e)) (ad : Option Addr) : (Op.equalIn (d + 1) t (.pointer ad) (.pointer none)).run P w = .ok ad.isNone w := by cases ad <;> simp [Op.equalIn, run_underlying ht]
theorem run_eqIn_slice {e : TypeId} (ht : P.underlying t = some (.slice e)) (ad : Option Addr) (n c : Nat) : (Op.equalIn (d + 1) t (.slice ad n c) (.slice none 0 0)).run P w = .ok ad.isNone w := by cases ad <;> simp [Op.equalIn, run_underlying ht]
theorem run_eqIn_nilf {p r : Array TypeId} {v : Bool} (ht : P.underlying t = some (.func p r v)) : (Op.equalIn (d + 1) t .nilFunc .nilFunc).run P w = .ok true w := by simp [Op.equalIn, run_underlying ht]
theorem run_eqIn_fn {p r : Array TypeId} {v : Bool} (ht : P.underlying t = some (.func p r v)) (f : Fn) (as cs : Array Value) : (Op.equalIn (d + 1) t (.func f as cs) .nilFunc).run P w = .ok false w := by simp [Op.equalIn, run_underlying ht]
end

theorem isNils_rep {γ : Gh} {v : Value} {d : D} (h : RepD γ v d) {r : Bool} (hr : d.isNils = some r) : ∃ base n c, v = .slice base n c ∧ base.isNone = r := by
  unfold D.isNils at hr
  split at hr
  · cases hr; exact ⟨none, 0, 0, h.p_inv.nils_inv, rfl⟩
  · cases hr
    obtain ⟨a, cap, hv, _, hne⟩ := slice_inv h.p_inv
    obtain ⟨b, o, _, rfl, _⟩ := hne (by simp)
    exact ⟨_, _, _, hv, rfl⟩
  · cases hr
    cases h with
    | fsl b n sz es hn hx => exact ⟨_, _, _, rfl, rfl⟩
  · cases hr
    obtain ⟨a, cap, hv, _, hne⟩ := slice_inv (elems?_rep h rfl)
    obtain ⟨b, o, _, rfl, _⟩ := hne (by simp)
    exact ⟨_, _, _, hv, rfl⟩
  · cases hr

theorem done_eqk (I : Inv G γ H w) (E : EnvRep γ env a.tmps) {op : BinOp} {t yt : TypeId} {x y : Operand} {x' y' : Opd} {kd : Nat} (ho : o.op = .binOp op t x y yt) (hop : op = .eql ∨ op = .neq) (hx : opdOf x = some x') (hy : opdOf y = some y')
    (ht : (kd = 0 ∧ P.underlying t = some .bool) ∨ (kd = 1 ∧ ∃ e, P.underlying t = some (.pointer e)) ∨ (kd = 2 ∧ ∃ e, P.underlying t = some (.slice e)) ∨ (kd = 3 ∧ ∃ p r v, P.underlying t = some (.func p r v)))
    {d : D} {H' : Hp} (he : evK G env H (.eqk kd (op == .neq) x' y') = some (d, H')) : Done P G γ H w a o d H' := by
  have hxr := opdOf_rep E hx
  have hyr := opdOf_rep E hy
  simp only [evK] at he
  obtain ⟨r, hd, hh⟩ := Option.map_eq_some_iff.1 he
  cases hh
  have fin : ∀ u v, a.eval x = u → a.eval y = v → (match u with | .int _ _ | .float _ _ | .complex _ _ _ | .string _ => true | _ => false) = false → (∀ cs, u ≠ .agg cs) → u ≠ .nilIface → (Op.equal t u v).run P w = .ok r w →
      Done P G γ H w a o (.p (.bool (if op == .neq then !r else r))) H := by
    intro u v hu hv h1 h2 h3 h4
    refine .same I (v := .bool (if op == .neq then !r else r)) ?_ (.p _ _ (.bool _))
    have e := run_eqGuard_ok (P := P) (op := op) (t := t) (x := x) (y := y) (u := u) (v := v) (fun h => h3 h.1) (fun cs _ h => h2 cs h.1) w
    have q := run_eqneq hop h1 h4
    simp [execOp, ho, hu, hv, e, q]
  rcases ht with ⟨rfl, ht⟩ | ⟨rfl, e, ht⟩ | ⟨rfl, e, ht⟩ | ⟨rfl, p, rr, vv, ht⟩
  · simp only [eqD] at hd
    split at hd
    · rename_i p q e1 e2
      cases hd
      rw [e1] at hxr; rw [e2] at hyr
      exact fin _ _ hxr.p_inv.bool_inv hyr.p_inv.bool_inv rfl (by simp) (by simp) (by rw [equal_succ]; exact run_eqIn_bool _ _ ht _ _)
    · cases hd
  · simp only [eqD] at hd
    split at hd <;> cases hd <;> rename_i e1 e2 <;> rw [e1] at hxr <;> rw [e2] at hyr
    · exact fin _ _ hxr.p_inv.nilp_inv hyr.p_inv.nilp_inv rfl (by simp) (by simp) (by rw [equal_succ]; exact run_eqIn_ptr _ _ ht _)
    all_goals
      obtain ⟨b, off, hv⟩ := hxr.addr rfl
      exact fin _ _ hv hyr.p_inv.nilp_inv rfl (by simp) (by simp) (by rw [equal_succ]; exact run_eqIn_ptr _ _ ht _)
  · simp only [eqD] at hd
    split at hd
    · rename_i e2
      rw [e2] at hyr
      obtain ⟨base, n, c, hv, rfl⟩ := isNils_rep hxr hd
      exact fin _ _ hv hyr.p_inv.nils_inv rfl (by simp) (by simp) (by rw [equal_succ]; exact run_eqIn_slice _ _ ht _ _ _)
    · cases hd
  · simp only [eqD] at hd
    split at hd <;> cases hd <;> rename_i e1 e2 <;> rw [e1] at hxr <;> rw [e2] at hyr
    · exact fin _ _ hxr.p_inv.nilf_inv hyr.p_inv.nilf_inv rfl (by simp) (by simp) (by rw [equal_succ]; exact run_eqIn_nilf _ _ ht)
    · obtain ⟨as, cs, hv, _, _⟩ := hxr.fn_inv
      exact fin _ _ hv hyr.p_inv.nilf_inv rfl (by simp) (by simp) (by rw [equal_succ]; exact run_eqIn_fn _ _ ht _ _ _)

theorem done_un (I : Inv G γ H w) (E : EnvRep γ env a.tmps) {op : UnOp} {t : TypeId} {x : Operand} {x' : Opd} (ho : o.op = .unOp op t x) (hx : opdOf x = some x')
    {d : D} {H' : Hp} (he : evK G env H (.un op x') = some (d, H')) : Done P G γ H w a o d H' := by
  have hxr := opdOf_rep E hx
  simp only [evK] at he
  obtain ⟨r, hd, hh⟩ := Option.map_eq_some_iff.1 he
  cases hh
  unfold unD at hd
  split at hd
  · rename_i e1
    cases hd
    rw [e1] at hxr
    exact .same I (v := _) (by simp [execOp, ho, hxr.p_inv.bool_inv, Op.unary]) (.p _ _ (.bool _))
  · rename_i e1
    cases hd
    rw [e1] at hxr
    exact .same I (v := _) (by simp [execOp, ho, hxr.p_inv.int_inv, Op.unary, Op.intArith]) (.p _ _ (.int _ _))
  · cases hd

theorem done_conv (I : Inv G γ H w) (E : EnvRep γ env a.tmps) {s t : TypeId} {x : Operand} {x' : Opd} {k k' : IntKind} (ho : o.op = .convert s t x) (hs : P.underlying s = some (.int k')) (ht : P.underlying t = some (.int k)) (hx : opdOf x = some x')
    {d : D} {H' : Hp} (he : evK G env H (.conv k x') = some (d, H')) : Done P G γ H w a o d H' := by
  have hxr := opdOf_rep E hx
  simp only [evK] at he
  split at he
  · rename_i n hn
    cases he
    obtain ⟨k0, hv⟩ := asInt?_rep hxr hn
    exact .same I (v := .int k (k.wrap n)) (by simp [execOp, ho, hv, convert, run_underlying hs, run_underlying ht, Conv.intToInt]) (.p _ _ (.int _ _))
  · cases he

theorem done_strid (I : Inv G γ H w) (E : EnvRep γ env a.tmps) {s t : TypeId} {x : Operand} {x' : Opd} (ho : o.op = .convert s t x) (hs : P.underlying s = some .string) (ht : P.underlying t = some .string) (hx : opdOf x = some x')
    {d : D} {H' : Hp} (he : evK G env H (.strid x') = some (d, H')) : Done P G γ H w a o d H' := by
  have hxr := opdOf_rep E hx
  simp only [evK] at he
  split at he
  · rename_i q hq
    cases he
    rw [hq] at hxr
    exact .same I (v := .string ⟨q.toArray⟩) (by simp [execOp, ho, hxr.p_inv.str_inv, convert, run_underlying hs, run_underlying ht]) (.p _ _ (.str _))
  · cases he

theorem foldlM_one {x y : Value} {f : Value → Value → Sem Value} : ([y].foldlM f x : Sem Value) = f x y := by
  simp

theorem done_minmax (I : Inv G γ H w) (E : EnvRep γ env a.tmps) {mx : Bool} {x y : Operand} {x' y' : Opd} {ts : Array TypeId} (ho : o.op = .call { callee := .builtin (if mx then .max else .min), args := #[x, y], argTypes := ts }) (hx : opdOf x = some x') (hy : opdOf y = some y')
    {d : D} {H' : Hp} (he : evK G env H (.minmax mx x' y') = some (d, H')) : Done P G γ H w a o d H' := by
  have hxr := opdOf_rep E hx
  have hyr := opdOf_rep E hy
  simp only [evK] at he
  obtain ⟨r, hd, hh⟩ := Option.map_eq_some_iff.1 he
  cases hh
  unfold minmaxD at hd
  split at hd
  · rename_i k p k' q e1 e2
    cases hd
    rw [e1] at hxr; rw [e2] at hyr
    refine .same I (v := .int k (if mx = true then if q > p then q else p else if q < p then q else p)) ?_ (.p _ _ (.int _ _))
    cases mx
    · simp [execOp, ho, resolve, invoke, builtin, hxr.p_inv.int_inv, hyr.p_inv.int_inv, Builtin.min_, Builtin.min2]
    · simp [execOp, ho, resolve, invoke, builtin, hxr.p_inv.int_inv, hyr.p_inv.int_inv, Builtin.max_, Builtin.max2]
  · cases hd

theorem done_len (I : Inv G γ H w) (E : EnvRep γ env a.tmps) {x : Operand} {x' : Opd} {t : TypeId} {kd : Nat} (ho : o.op = .call { callee := .builtin .len, args := #[x], argTypes := #[t] })
    (ht : (kd = 0 ∧ P.underlying t = some .string) ∨ (kd = 1 ∧ ∃ e, P.underlying t = some (.slice e))) (hx : opdOf x = some x')
    {d : D} {H' : Hp} (he : evK G env H (.len kd x') = some (d, H')) : Done P G γ H w a o d H' := by
  have hxr := opdOf_rep E hx
  simp only [evK] at he
  obtain ⟨n, hn, hh⟩ := Option.map_eq_some_iff.1 he
  cases hh
  refine .same I (v := .int .i64 n) ?_ (.p _ _ (.int _ _))
  rcases ht with ⟨rfl, ht⟩ | ⟨rfl, e, ht⟩
  · unfold lenD at hn
    split at hn
    · rename_i s _ hs
      cases hn
      rw [hs] at hxr
      have hs : (⟨s.toArray⟩ : ByteArray).size = s.length := by simp [ByteArray.size]
      simp [execOp, ho, resolve, invoke, builtin, hxr.p_inv.str_inv, Builtin.len_, run_underlying ht, goInt, hs]
    · rename_i h0 _; cases h0
    · rename_i h0 _; cases h0
    · cases hn
  · have hv : ∃ base c, a.eval x = .slice base n c := by
      unfold lenD at hn
      split at hn
      · rename_i h0 _; cases h0
      · rename_i hs; cases hn; rw [hs] at hxr; exact ⟨none, 0, hxr.p_inv.nils_inv⟩
      · obtain ⟨el, hel, rfl⟩ := Option.map_eq_some_iff.1 hn
        obtain ⟨base, c, hv, _⟩ := slice_inv (elems?_rep hxr hel)
        exact ⟨base, c, hv⟩
      · cases hn
    obtain ⟨base, c, hv⟩ := hv
    simp [execOp, ho, resolve, invoke, builtin, hv, Builtin.len_, run_underlying ht, goInt]

theorem boundsD_some {n l h : Nat} {lo hi : Option D} (e : boundsD n lo hi = some (l, h)) :
    l ≤ h ∧ h ≤ n ∧ (match lo with | none => l = 0 | some d => d.asNat? = some l) ∧ (match hi with | none => h = n | some d => d.asNat? = some h) := by
  unfold boundsD at e
  split at e
  · rename_i l' h' e1 e2
    split at e
    · rename_i hc
      cases e
      refine ⟨hc.1, hc.2, ?_, ?_⟩
      · cases lo with
        | none => cases e1; rfl
        | some d => exact e1
      · cases hi with
        | none => cases e2; rfl
        | some d => exact e2
    · cases e
  · cases e

/-- The bounds of a piece. -/
theorem run_bounds (E : EnvRep γ env a.tmps) {lo hi : Option Operand} {lo' hi' : Option Opd} (hlo : optO lo = some lo') (hhi : optO hi = some hi') {n l h : Nat} (hb : boundsD n (lo'.map (·.ev env)) (hi'.map (·.ev env)) = some (l, h))
    (isSlice : Bool) (cap : Nat) (hc : n ≤ cap) (w : World) : (Instr.sliceBounds isSlice n cap (lo.map a.eval) (hi.map a.eval) none).run P w = .ok (l, h, cap) w := by
  obtain ⟨h1, h2, h3, h4⟩ := boundsD_some hb
  have hhv : (hi = none ∧ h = n) ∨ ∃ x k, hi = some x ∧ a.eval x = .int k (h : Int) := by
    cases hi with
    | none => cases hhi; exact .inl ⟨rfl, h4⟩
    | some x =>
      simp only [optO] at hhi
      obtain ⟨y, hy, rfl⟩ := Option.map_eq_some_iff.1 hhi
      obtain ⟨k, hk⟩ := asNat?_rep (opdOf_rep E hy) h4
      exact .inr ⟨x, k, rfl, hk⟩
  have hlv : (lo = none ∧ l = 0) ∨ ∃ x k, lo = some x ∧ a.eval x = .int k (l : Int) := by
    cases lo with
    | none => cases hlo; exact .inl ⟨rfl, h3⟩
    | some x =>
      simp only [optO] at hlo
      obtain ⟨y, hy, rfl⟩ := Option.map_eq_some_iff.1 hlo
      obtain ⟨k, hk⟩ := asNat?_rep (opdOf_rep E hy) h3
      exact .inr ⟨x, k, rfl, hk⟩
  have sb : ∀ (k : IntKind) (i y : Nat) (c : BoundsCode), i ≤ y → (Instr.sliceBound (.int k (i : Int)) y c).run P w = .ok i w := by
    intro k i y c hi
    have := run_sliceBound (P := P) w k (i : Int) y c (by omega) (by omega)
    simpa using this
  rcases hhv with ⟨rfl, rfl⟩ | ⟨x, k, rfl, hx⟩ <;> rcases hlv with ⟨rfl, rfl⟩ | ⟨x', k', rfl, hx'⟩
  · simp [Instr.sliceBounds]
  · simp [Instr.sliceBounds, hx', sb _ _ _ _ h1]
  · simp [Instr.sliceBounds, hx, sb _ _ _ _ (Nat.le_trans h2 hc)]
  · simp [Instr.sliceBounds, hx, hx', sb _ _ _ _ (Nat.le_trans h2 hc), sb _ _ _ _ h1]

theorem sub_mem {α : Type} {l : List α} {lo hi : Nat} {x : α} (h : x ∈ sub l lo hi) : x ∈ l := List.mem_of_mem_take (List.mem_of_mem_drop h)

/-- A piece of a slice lies in the same cells. -/
theorem slice_piece {m : Mem} {ad : Option Addr} {cap sz : Nat} {es : List PD} (h : RepP m (.slice ad es.length cap) (.slice sz es)) {l hh : Nat} (h1 : l ≤ hh) (h2 : hh ≤ es.length) :
    RepP m (.slice (if cap = l then ad else ad.map (·.add (l * sz))) (hh - l) (cap - l)) (.slice sz (sub es l hh)) := by
  obtain ⟨a', cap', hv, hcap, hne⟩ := slice_inv h
  cases hv
  have hlen : (sub es l hh).length = hh - l := sub_length _ _ _ h2
  by_cases he : sub es l hh = []
  · have h0 : hh - l = 0 := by rw [← hlen, he]; rfl
    rw [he, h0]
    exact .sl0 _ _ _
  · have hpos : 0 < hh - l := by
      rw [← hlen]
      exact List.length_pos_iff.2 he
    obtain ⟨b, off, vs, rfl, hsz, hone, hm, hr⟩ := hne (fun e => by subst e; simp at h2; omega)
    rw [if_neg (by omega)]
    have ead : (Option.map (fun x : Addr => x.add (l * sz)) (some ⟨b, off, none⟩)) = some ⟨b, off + l * sz, none⟩ := by simp [Addr.add_lit]
    rw [ead, ← hlen]
    refine .sl b (off + l * sz) _ sz _ (fun i j => vs (l + i) j) (by omega) (fun e he => hsz e (sub_mem he)) (fun e he => hone e (sub_mem he)) (fun i j hi hj => ?_) (fun i e j c he hc => ?_)
    · have := hm (l + i) j (by omega) hj
      rw [← this]; congr 1; rw [Nat.add_mul]; omega
    · rw [sub_get] at he
      split at he
      · exact hr _ _ _ _ he hc
      · cases he

theorem done_slice_str (I : Inv G γ H w) (E : EnvRep γ env a.tmps) {t : TypeId} {x : Operand} {lo hi : Option Operand} {x' : Opd} {lo' hi' : Option Opd} (ho : o.op = .slice t x lo hi none) (ht : P.underlying t = some .string)
    (hx : opdOf x = some x') (hlo : optO lo = some lo') (hhi : optO hi = some hi') {d : D} {H' : Hp} (he : evK G env H (.slice 0 x' lo' hi') = some (d, H')) : Done P G γ H w a o d H' := by
  have hxr := opdOf_rep E hx
  simp only [evK] at he
  obtain ⟨d', hd, hh⟩ := Option.map_eq_some_iff.1 he
  cases hh
  simp only [sliceD] at hd
  split at hd
  · rename_i s hs
    obtain ⟨⟨l, h⟩, hb, rfl⟩ := Option.map_eq_some_iff.1 hd
    rw [hs] at hxr
    have hb' := run_bounds (P := P) E hlo hhi hb false s.length (Nat.le_refl _) w
    obtain ⟨h1, h2, _⟩ := boundsD_some hb
    refine .same I (v := .string ⟨(sub s l h).toArray⟩) ?_ (.p _ _ (.str _))
    have e : (⟨s.toArray⟩ : ByteArray).extract l h = ⟨(sub s l h).toArray⟩ := by
      apply ByteArray.ext
      rw [ByteArray.data_extract]
      apply Array.ext'
      simp [sub, List.take_drop, Nat.add_sub_cancel' h1]
    have hsz : (⟨s.toArray⟩ : ByteArray).size = s.length := by simp [ByteArray.size]
    rw [← hsz] at hb'
    simp [execOp, ho, hxr.p_inv.str_inv, Instr.sliceAt, Instr.slice, run_underlying ht, hb', e]
  · cases hd

theorem done_slice_sl (I : Inv G γ H w) (E : EnvRep γ env a.tmps) {t e : TypeId} {n : Nat} {x : Operand} {lo hi : Option Operand} {x' : Opd} {lo' hi' : Option Opd} (ho : o.op = .slice t x lo hi none) (ht : P.underlying t = some (.slice e)) (hn : szOf P e = some (n + 1))
    (hx : opdOf x = some x') (hlo : optO lo = some lo') (hhi : optO hi = some hi') {d : D} {H' : Hp} (he : evK G env H (.slice (n + 1) x' lo' hi') = some (d, H')) : Done P G γ H w a o d H' := by
  have hxr := opdOf_rep E hx
  simp only [evK] at he
  obtain ⟨d', hd, hh⟩ := Option.map_eq_some_iff.1 he
  cases hh
  have run : ∀ (base : Option Addr) (len cap l h : Nat), a.eval x = .slice base len cap → (Instr.sliceBounds true len cap (lo.map a.eval) (hi.map a.eval) none).run P w = .ok (l, h, cap) w →
      (execOp a.eval o).run P w = .ok (.value (.slice (if cap = l then base else base.map (·.add (l * (n + 1)))) (h - l) (cap - l))) w := by
    intro base len cap l h hv hb
    simp [execOp, ho, hv, Instr.sliceAt, Instr.slice, run_underlying ht, hb, run_szOf hn]
  simp only [sliceD] at hd
  split at hd
  · rename_i hs
    rw [hs] at hxr
    obtain ⟨⟨l, h⟩, hb, rfl⟩ := Option.map_eq_some_iff.1 hd
    obtain ⟨h1, h2, _⟩ := boundsD_some hb
    have hl : l = 0 := by omega
    have hh : h = 0 := by omega
    subst hl; subst hh
    have r := run none 0 0 0 0 hxr.p_inv.nils_inv (run_bounds E hlo hhi hb true 0 (Nat.le_refl _) w)
    exact .same I (v := .slice none 0 0) (by simpa using r) (.p _ _ .nils)
  · split at hd
    · rename_i sz' es hel
      split at hd
      · rename_i hsz
        subst hsz
        obtain ⟨⟨l, h⟩, hb, rfl⟩ := Option.map_eq_some_iff.1 hd
        obtain ⟨h1, h2, _⟩ := boundsD_some hb
        have q := elems?_rep hxr hel
        obtain ⟨base, cap, hv, hcap, _⟩ := slice_inv q
        rw [hv] at q
        exact .same I (run base es.length cap l h hv (run_bounds E hlo hhi hb true cap hcap w)) (.p _ _ (slice_piece q h1 h2))
      · cases hd
    · cases hd

end Go.Vs
