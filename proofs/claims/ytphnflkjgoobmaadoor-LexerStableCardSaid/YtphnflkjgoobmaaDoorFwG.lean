/-
  Each operation of the evaluator does what the model's does: those that leave memory alone.
-/
import Derived.Test.YtphnflkjgoobmaaDoorFwF
namespace Go.Vs

variable {P : Program} {G : Nat → Option (List PD)} {γ : Gh} {H : Hp} {w : World} {env : Env} {a : Act} {o : Oper}

theorem mapO_get {α β : Type} {f : α → Option β} : ∀ {l : List α} {l' : List β}, mapO f l = some l' → l'.length = l.length ∧ ∀ (i : Nat) x, l[i]? = some x → ∃ y, f x = some y ∧ l'[i]? = some y
  | [], l', h => by cases h; exact ⟨rfl, fun i x h => by simp at h⟩
  | x :: r, l', h => by
    unfold mapO at h
    split at h
    · rename_i b hb
      obtain ⟨r', hr, rfl⟩ := Option.map_eq_some_iff.1 h
      obtain ⟨h1, h2⟩ := mapO_get hr
      refine ⟨by simp [h1], fun i y hy => ?_⟩
      match i with
      | 0 => simp only [List.getElem?_cons_zero, Option.some.injEq] at hy; subst hy; exact ⟨b, hb, rfl⟩
      | i + 1 => exact h2 i y (by simpa using hy)
    · cases h

theorem mapO_back {α β : Type} {f : α → Option β} {l : List α} {l' : List β} (h : mapO f l = some l') {i : Nat} {y : β} (hy : l'[i]? = some y) : ∃ x, l[i]? = some x ∧ f x = some y := by
  obtain ⟨h1, h2⟩ := mapO_get h
  have hi : i < l.length := by rw [← h1]; exact (List.getElem?_eq_some_iff.1 hy).1
  obtain ⟨y', a1, a2⟩ := h2 i _ (List.getElem?_eq_getElem hi)
  rw [hy] at a2
  cases a2
  exact ⟨_, List.getElem?_eq_getElem hi, a1⟩

theorem ofV1_rep (m : Mem) {v : Value} {d : PD} (h : ofV1 v = some d) : RepP m v d ∧ d.one = true := by
  unfold ofV1 at h
  split at h
  · cases h; exact ⟨.bool _, rfl⟩
  · cases h; exact ⟨.int _ _, rfl⟩
  · rename_i s
    cases h
    have : s = ⟨s.data.toList.toArray⟩ := by cases s; simp
    exact ⟨by have h := RepP.str (m := m) s.data.toList; rwa [← this] at h, rfl⟩
  · cases h; exact ⟨.nilp, rfl⟩
  · cases h; exact ⟨.nils, rfl⟩
  · cases h; exact ⟨.nilf, rfl⟩
  · cases h; exact ⟨.nili, rfl⟩
  · cases h; exact ⟨.nilm, rfl⟩
  · cases h

theorem ofV_rep (m : Mem) {v : Value} {d : PD} (h : ofV v = some d) : RepP m v d := by
  unfold ofV at h
  split at h
  · rename_i cs
    obtain ⟨ds, hd, rfl⟩ := Option.map_eq_some_iff.1 h
    obtain ⟨h1, _⟩ := mapO_get hd
    refine .agg cs ds (by simpa using h1.symm) (fun d hd' => ?_) (fun i d hi => ?_)
    · obtain ⟨i, hi⟩ := List.getElem?_of_mem hd'
      obtain ⟨x, _, a2⟩ := mapO_back hd hi
      exact (ofV1_rep m a2).2
    · obtain ⟨x, a1, a2⟩ := mapO_back hd hi
      have : cs.getD i undef = x := by
        have a1 : cs[i]? = some x := by simpa using a1
        simp [Array.getD_eq_getD_getElem?, a1]
      rw [this]
      exact (ofV1_rep m a2).1
  · exact (ofV1_rep m h).1

theorem opdOf_rep (E : EnvRep γ env a.tmps) {x : Operand} {y : Opd} (h : opdOf x = some y) : RepD γ (a.eval x) (y.ev env) := by
  cases x with
  | tmp t => cases h; exact E t
  | const v =>
    obtain ⟨d, hd, rfl⟩ := Option.map_eq_some_iff.1 h
    exact .p _ _ (ofV_rep _ hd)
  | global g => cases h; exact .glob g 0
  | func f => cases h; exact .fn f #[] #[] [] [] rfl (fun i d h => by simp at h) rfl (fun i d h => by simp at h)

theorem opds_rep (E : EnvRep γ env a.tmps) {xs : Array Operand} {ys : List Opd} (h : mapO opdOf xs.toList = some ys) : RepL γ (xs.map a.eval) (ys.map (·.ev env)) := by
  obtain ⟨h1, _⟩ := mapO_get h
  refine ⟨by simpa using h1.symm, fun i d hd => ?_⟩
  simp only [List.getElem?_map, Option.map_eq_some_iff] at hd
  obtain ⟨y, hy, rfl⟩ := hd
  obtain ⟨x, a1, a2⟩ := mapO_back h hy
  have a1 : xs[i]? = some x := by simpa using a1
  have : (xs.map a.eval).getD i undef = a.eval x := by simp [Array.getD_eq_getD_getElem?, a1]
  rw [this]
  exact opdOf_rep E a2

theorem RepD.p_inv {γ : Gh} {v : Value} {x : PD} (h : RepD γ v (.p x)) : RepP γ.mem v x := by cases h with | p v x h => exact h
theorem RepP.bool_inv {m : Mem} {v : Value} {b : Bool} (h : RepP m v (.bool b)) : v = .bool b := by cases h; rfl
theorem RepP.int_inv {m : Mem} {v : Value} {k : IntKind} {n : Int} (h : RepP m v (.int k n)) : v = .int k n := by cases h; rfl
theorem RepP.str_inv {m : Mem} {v : Value} {s : List UInt8} (h : RepP m v (.str s)) : v = .string ⟨s.toArray⟩ := by cases h; rfl
theorem RepP.nils_inv {m : Mem} {v : Value} (h : RepP m v .nils) : v = .slice none 0 0 := by cases h; rfl
theorem RepP.nilp_inv {m : Mem} {v : Value} (h : RepP m v .nilp) : v = .pointer none := by cases h; rfl
theorem RepP.nilf_inv {m : Mem} {v : Value} (h : RepP m v .nilf) : v = .nilFunc := by cases h; rfl
theorem RepP.agg_inv {m : Mem} {v : Value} {ds : List PD} (h : RepP m v (.agg ds)) : ∃ cs : Array Value, v = .agg cs ∧ cs.size = ds.length ∧ (∀ d ∈ ds, d.one = true) ∧ ∀ i d, ds[i]? = some d → RepP m (cs.getD i undef) d := by
  cases h with
  | agg cs ds hl hone hr => exact ⟨cs, rfl, hl, hone, hr⟩
theorem RepD.tup_inv {γ : Gh} {v : Value} {ds : List D} (h : RepD γ v (.tup ds)) : ∃ cs : Array Value, v = .tuple cs ∧ RepL γ cs ds := by
  cases h with
  | tup cs ds hl hr => exact ⟨cs, rfl, hl, hr⟩
theorem RepD.fn_inv {γ : Gh} {v : Value} {f : Nat} {ds es : List D} (h : RepD γ v (.fn f ds es)) : ∃ as cs : Array Value, v = .func (.func f) as cs ∧ RepL γ as ds ∧ RepL γ cs es := by
  cases h with
  | fn f as cs ds es hl hr kl kr => exact ⟨as, cs, rfl, ⟨hl, hr⟩, ⟨kl, kr⟩⟩

/-- What an operation comes to. -/
def Done (P : Program) (G : Nat → Option (List PD)) (γ : Gh) (H : Hp) (w : World) (a : Act) (o : Oper) (d : D) (H' : Hp) : Prop :=
  ∃ v w' γ', ((execOp a.eval o).run P w = .ok (.value v) w' ∨ ((execOp a.eval o).run P w = .ok .skip w' ∧ v = undef)) ∧ γ.le γ' ∧ Frame γ H w γ' H' w' ∧ Inv G γ' H' w' ∧ RepD γ' v d

theorem Done.same (I : Inv G γ H w) {v : Value} {d : D} (hr : (execOp a.eval o).run P w = .ok (.value v) w) (h : RepD γ v d) : Done P G γ H w a o d H :=
  ⟨v, w, γ, .inl hr, .refl γ, .refl γ H w, I, h⟩

theorem szOf_info {t : TypeId} {n : Nat} (h : szOf P t = some n) : ∃ i, P.info? t = some i ∧ i.size = n := Option.map_eq_some_iff.1 h

theorem run_szOf {t : TypeId} {n : Nat} (h : szOf P t = some n) (w : World) : (sizeOf t).run P w = .ok n w := by
  obtain ⟨i, h1, h2⟩ := szOf_info h
  simp [sizeOf, typeInfo, h1, h2]

theorem run_zeroOf {t : TypeId} {z : PD} (h : zeroOf P t = some z) (w : World) : ∃ v, (zeroValue t).run P w = .ok v w ∧ ofV v = some z := by
  unfold zeroOf at h
  split at h
  · rename_i i hi
    split at h
    · rename_i v hv
      exact ⟨v, by simp [zeroValue, typeInfo, hi, hv], h⟩
    · cases h
  · cases h

theorem cellN_some {t : TypeId} {n : Nat} (h : cellN P t = some (some n)) (w : World) : (isAgg t).run P w = .ok true w ∧ (sizeOf t).run P w = .ok n w := by
  unfold cellN at h
  split at h
  · rename_i hu hs; cases h; exact ⟨by simp [isAgg, run_underlying hu], run_szOf hs w⟩
  · rename_i hu hs; cases h; exact ⟨by simp [isAgg, run_underlying hu], run_szOf hs w⟩
  · cases h
  · cases h

theorem cellN_none {t : TypeId} (h : cellN P t = some none) (w : World) : (isAgg t).run P w = .ok false w := by
  unfold cellN at h
  cases hu : P.underlying t with
  | none => simp [hu] at h
  | some d =>
    cases hs : szOf P t with
    | none => cases d <;> simp [hu, hs] at h
    | some n => cases d <;> first | (simp [hu, hs] at h; done) | simp [isAgg, run_underlying hu]

/-! Moves. -/
theorem done_move (I : Inv G γ H w) (E : EnvRep γ env a.tmps) {x : Operand} {y : Opd} (ho : o.op = .move x ∨ o.op = .assign x) (hx : opdOf x = some y) : Done P G γ H w a o (y.ev env) H := by
  refine .same I (v := a.eval x) ?_ (opdOf_rep E hx)
  rcases ho with ho | ho <;> simp [execOp, ho]

theorem done_pick (I : Inv G γ H w) (E : EnvRep γ env a.tmps) {c x y : Operand} {c' x' y' : Opd} (ho : o.op = .pick c x y) (hc : opdOf c = some c') (hx : opdOf x = some x') (hy : opdOf y = some y')
    {t : Bool} (ht : c'.ev env = .p (.bool t)) : Done P G γ H w a o (if t then x'.ev env else y'.ev env) H := by
  have hcv := opdOf_rep E hc
  rw [ht] at hcv
  have hb : a.eval c = .bool t := hcv.p_inv.bool_inv
  cases t with
  | true => exact .same I (v := a.eval x) (by simp [execOp, ho, hb, asBool]) (opdOf_rep E hx)
  | false => exact .same I (v := a.eval y) (by simp [execOp, ho, hb, asBool]) (opdOf_rep E hy)

/-! Pointers. -/
theorem RepD.addr {γ : Gh} {v : Value} {d : D} (h : RepD γ v d) (hd : (match d with | .box _ _ | .glob _ _ | .ro _ _ => true | _ => false) = true) : ∃ b off, v = .pointer (some ⟨b, off, none⟩) := by
  cases h <;> first | (simp at hd; done) | exact ⟨_, _, rfl⟩

theorem done_nilCheck (I : Inv G γ H w) (E : EnvRep γ env a.tmps) {x : Operand} {y : Opd} (ho : o.op = .nilCheck x) (hx : opdOf x = some y) {d : D} {H' : Hp}
    (he : evK G env H (.nilCheck y) = some (d, H')) : Done P G γ H w a o d H' := by
  have hr := opdOf_rep E hx
  simp only [evK] at he
  split at he <;> cases he <;> rename_i hd <;> rw [hd] at hr
  · refine .same I (v := a.eval x) ?_ hr
    obtain ⟨b, off, hv⟩ := hr.addr rfl
    simp [execOp, ho, hv]
  · refine .same I (v := a.eval x) ?_ hr
    obtain ⟨b, off, hv⟩ := hr.addr rfl
    simp [execOp, ho, hv]
  · refine .same I (v := a.eval x) ?_ hr
    obtain ⟨b, off, hv⟩ := hr.addr rfl
    simp [execOp, ho, hv]
  · refine .same I (v := a.eval x) ?_ hr
    obtain ⟨as, cs, hv, _, _⟩ := hr.fn_inv
    simp [execOp, ho, hv]

theorem RepD.shift {γ : Gh} {b off : Nat} {d d' : D} (h : RepD γ (.pointer (some ⟨b, off, none⟩)) d) (n : Nat)
    (hd : (match d with | .box i o => some (D.box i (o + n)) | .glob g o => some (D.glob g (o + n)) | .ro cs o => some (D.ro cs (o + n)) | _ => none) = some d') : RepD γ (.pointer (some ⟨b, off + n, none⟩)) d' := by
  cases h with
  | box i off b hb => cases hd; exact .box i _ b hb
  | glob => cases hd; exact .glob _ _
  | ro b o off cs vs hm hr => cases hd; rw [Nat.add_assoc]; exact .ro b o _ cs vs hm hr
  | p v x h => cases hd
  | dead => cases hd
  | tsl v t e sz es row r h1 h2 h3 h4 h5 h6 => cases hd

theorem done_faddr (I : Inv G γ H w) (E : EnvRep γ env a.tmps) {t : TypeId} {x : Operand} {f : Nat} {y : Opd} (ho : o.op = .fieldAddr t x f) (hx : opdOf x = some y)
    {fs : Array Field} {fd : Field} {n : Nat} (ht : P.underlying t = some (.struct fs)) (hf : fs[f]? = some fd) (hn : szOf P fd.type = some (n + 1)) {d : D} {H' : Hp}
    (he : evK G env H (.faddr y fd.offset) = some (d, H')) : Done P G γ H w a o d H' := by
  have hr := opdOf_rep E hx
  have hrun : ∀ b off, a.eval x = .pointer (some ⟨b, off, none⟩) → (execOp a.eval o).run P w = .ok (.value (.pointer (some ⟨b, off + fd.offset, none⟩))) w := by
    intro b off hv
    simp [execOp, ho, hv, Instr.fieldAt, run_underlying ht, hf, Instr.sureAddr, fieldPlace, run_szOf hn, Addr.add_lit]
  simp only [evK] at he
  split at he <;> cases he <;> rename_i hd <;> rw [hd] at hr
  · obtain ⟨b, off, hv⟩ := hr.addr rfl
    rw [hv] at hr
    exact .same I (hrun b off hv) (hr.shift _ rfl)
  · obtain ⟨b, off, hv⟩ := hr.addr rfl
    rw [hv] at hr
    exact .same I (hrun b off hv) (hr.shift _ rfl)
  · obtain ⟨b, off, hv⟩ := hr.addr rfl
    rw [hv] at hr
    exact .same I (hrun b off hv) (hr.shift _ rfl)

theorem asInt?_rep {γ : Gh} {v : Value} {d : D} (h : RepD γ v d) {n : Int} (hn : d.asInt? = some n) : ∃ k, v = .int k n := by
  unfold D.asInt? at hn
  split at hn
  · cases hn
    cases h with
    | p v x h => cases h; exact ⟨_, rfl⟩
  · cases hn

theorem asNat?_rep {γ : Gh} {v : Value} {d : D} (h : RepD γ v d) {n : Nat} (hn : d.asNat? = some n) : ∃ k, v = .int k (n : Int) := by
  unfold D.asNat? at hn
  split at hn
  · split at hn
    · rename_i k i h0
      cases hn
      cases h with
      | p v x h => cases h; exact ⟨k, by rw [Int.toNat_of_nonneg h0]⟩
    · cases hn
  · cases hn

/-- A slice's elements lie in known cells. -/
theorem elems?_rep {γ : Gh} {v : Value} {d : D} (h : RepD γ v d) {sz : Nat} {es : List PD} (he : d.elems? = some (sz, es)) : RepP γ.mem v (.slice sz es) := by
  unfold D.elems? at he
  split at he
  · cases he
    cases h with
    | p v x h => exact h
  · cases he
    cases h with
    | fsl b n sz es hn h => exact h
  · cases he
    cases h with
    | tsl v t e sz es row r h1 h2 h3 h4 h5 h6 => exact h4
  · cases he

theorem slice_inv {m : Mem} {v : Value} {sz : Nat} {es : List PD} (h : RepP m v (.slice sz es)) :
    ∃ (a : Option Addr) (cap : Nat), v = .slice a es.length cap ∧ es.length ≤ cap ∧ (es ≠ [] → ∃ (b o : Nat) (vs : Nat → Nat → Value), a = some ⟨b, o, none⟩ ∧ (∀ e ∈ es, e.cells.length = sz) ∧ (∀ e ∈ es, ∀ c ∈ e.cells, c.one = true) ∧
      (∀ i j, i < es.length → j < sz → m b (o + i * sz + j) = some (vs i j)) ∧ ∀ (i : Nat) (e : PD) (j : Nat) (c : PD), es[i]? = some e → e.cells[j]? = some c → RepP m (vs i j) c) := by
  cases h with
  | sl0 a cap sz => exact ⟨a, cap, rfl, Nat.zero_le _, fun h => (h rfl).elim⟩
  | sl b o cap sz es vs hc hsz hone hm hr => exact ⟨_, cap, rfl, hc, fun _ => ⟨b, o, vs, rfl, hsz, hone, hm, hr⟩⟩

theorem done_iaddr_slice (I : Inv G γ H w) (E : EnvRep γ env a.tmps) {t e : TypeId} {x i : Operand} {y j : Opd} {s : Nat} (ho : o.op = .indexAddr t x i) (ht : P.underlying t = some (.slice e)) (hs : szOf P e = some s)
    (hx : opdOf x = some y) (hi : opdOf i = some j) {d : D} {H' : Hp} (he : evK G env H (.iaddr none s y j) = some (d, H')) : Done P G γ H w a o d H' := by
  have hxr := opdOf_rep E hx
  have hir := opdOf_rep E hi
  simp only [evK] at he
  split at he
  · rename_i n hn
    obtain ⟨k, hiv⟩ := asInt?_rep hir hn
    obtain ⟨d', hd, hh⟩ := Option.map_eq_some_iff.1 he
    cases hh
    simp only [iaddrD] at hd
    split at hd
    · rename_i sz' es hel
      split at hd
      · rename_i hc
        obtain ⟨rfl, h0⟩ := hc
        obtain ⟨el, hel', rfl⟩ := Option.map_eq_some_iff.1 hd
        have hlt : n.toNat < es.length := (List.getElem?_eq_some_iff.1 hel').1
        obtain ⟨ad, cap, hv, hcap, hne⟩ := slice_inv (elems?_rep hxr hel)
        obtain ⟨b, off, vs, rfl, hsz, hone, hm, hr⟩ := hne (fun h => by subst h; simp at hlt)
        have hn' : 0 ≤ n ∧ n < (es.length : Int) := ⟨h0, by omega⟩
        refine .same I (v := .pointer (some ⟨b, off + n.toNat * sz' + 0, none⟩)) ?_ ?_
        · simp [execOp, ho, hv, hiv, Instr.indexAt, run_underlying ht, asIntOf, hn', run_szOf hs, Addr.add_lit]
        · refine .ro b (off + n.toNat * sz') 0 el.cells (vs n.toNat) (fun jj hj => hm _ _ hlt ?_) (fun jj c hc => ⟨hr _ _ _ _ hel' hc, ?_⟩)
          · rw [← hsz el (List.mem_of_getElem? hel')]; exact hj
          · exact hone el (List.mem_of_getElem? hel') c (List.mem_of_getElem? hc)
      · cases hd
    · cases hd
  · cases he

theorem done_iaddr_array (I : Inv G γ H w) (E : EnvRep γ env a.tmps) {t e : TypeId} {len : Nat} {x i : Operand} {y j : Opd} {s : Nat} (ho : o.op = .indexAddr t x i) (ht : P.underlying t = some (.array len e)) (hs : szOf P e = some s)
    (hx : opdOf x = some y) (hi : opdOf i = some j) {d : D} {H' : Hp} (he : evK G env H (.iaddr (some len) s y j) = some (d, H')) : Done P G γ H w a o d H' := by
  have hxr := opdOf_rep E hx
  have hir := opdOf_rep E hi
  simp only [evK] at he
  split at he
  · rename_i n hn
    obtain ⟨k, hiv⟩ := asInt?_rep hir hn
    obtain ⟨d', hd, hh⟩ := Option.map_eq_some_iff.1 he
    cases hh
    simp only [iaddrD] at hd
    split at hd
    · rename_i hc
      have hrun : ∀ b off, a.eval x = .pointer (some ⟨b, off, none⟩) → (execOp a.eval o).run P w = .ok (.value (.pointer (some ⟨b, off + n.toNat * s, none⟩))) w := by
        intro b off hv
        simp [execOp, ho, hv, hiv, Instr.indexAt, run_underlying ht, asIntOf, Instr.sureAddr, hc, run_szOf hs, Addr.add_lit]
      split at hd <;> cases hd <;> rename_i hdd <;> rw [hdd] at hxr
      · obtain ⟨b, off, hv⟩ := hxr.addr rfl
        rw [hv] at hxr
        exact .same I (hrun b off hv) (hxr.shift _ rfl)
      · obtain ⟨b, off, hv⟩ := hxr.addr rfl
        rw [hv] at hxr
        exact .same I (hrun b off hv) (hxr.shift _ rfl)
      · obtain ⟨b, off, hv⟩ := hxr.addr rfl
        rw [hv] at hxr
        exact .same I (hrun b off hv) (hxr.shift _ rfl)
    · cases hd
  · cases he

/-! Cells. -/
theorem pures_some : ∀ {ds : List D} {cs : List PD}, pures ds = some cs → ds = cs.map .p
  | [], cs, h => by cases h; rfl
  | .p x :: r, cs, h => by
    simp only [pures] at h
    obtain ⟨cs', h', rfl⟩ := Option.map_eq_some_iff.1 h
    simp [pures_some h']
  | .dead :: _, cs, h => by cases h
  | .undef :: _, cs, h => by cases h
  | .fsl .. :: _, cs, h => by cases h
  | .tsl .. :: _, cs, h => by cases h
  | .box .. :: _, cs, h => by cases h
  | .glob .. :: _, cs, h => by cases h
  | .ro .. :: _, cs, h => by cases h
  | .agg .. :: _, cs, h => by cases h
  | .tup .. :: _, cs, h => by cases h
  | .fn .. :: _, cs, h => by cases h

theorem mkAgg_rep {γ : Gh} {vs : Array Value} {ds : List D} (h : RepL γ vs ds) (h1 : ∀ d ∈ ds, d.one = true) : RepD γ (.agg vs) (mkAgg ds) := by
  unfold mkAgg
  split
  · rename_i cs hcs
    have he := pures_some hcs
    subst he
    refine .p _ _ (.agg vs cs (by simpa using h.1) (fun d hd => h1 (.p d) (List.mem_map_of_mem hd)) (fun i d hd => ?_))
    exact (h.2 i (.p d) (by simp [hd])).p_inv
  · exact .agg vs ds h.1 h1 h.2

theorem sub_get {α : Type} (l : List α) (lo hi i : Nat) : (sub l lo hi)[i]? = if lo + i < hi then l[lo + i]? else none := by
  unfold sub
  rw [List.getElem?_drop, List.getElem?_take]

theorem sub_length {α : Type} (l : List α) (lo hi : Nat) (h : hi ≤ l.length) : (sub l lo hi).length = hi - lo := by unfold sub; simp; omega

theorem extract_rep {γ : Gh} {vs : Array Value} {ds : List D} (h : RepL γ vs ds) {off k : Nat} (hk : off + k ≤ ds.length) : RepL γ (vs.extract off (off + k)) (sub ds off (off + k)) := by
  have hs := h.1
  refine ⟨by rw [sub_length _ _ _ hk]; simp; omega, fun i d hd => ?_⟩
  rw [sub_get] at hd
  split at hd
  · have := h.2 _ _ hd
    have hlt : off + i < vs.size := by rw [hs]; exact (List.getElem?_eq_some_iff.1 hd).1
    have e : (vs.extract off (off + k)).getD i undef = vs.getD (off + i) undef := by
      simp [Array.getD_eq_getD_getElem?, Array.getElem?_extract]
      rw [if_pos (by omega)]
    rw [e]; exact this
  · cases hd

theorem repL_p {γ : Gh} {cs : Array Value} {ds : List PD} (hl : cs.size = ds.length) (hr : ∀ i d, ds[i]? = some d → RepP γ.mem (cs.getD i undef) d) : RepL γ cs (ds.map .p) := by
  refine ⟨by simpa using hl, fun i d hd => ?_⟩
  simp only [List.getElem?_map, Option.map_eq_some_iff] at hd
  obtain ⟨x, hx, rfl⟩ := hd
  exact .p _ _ (hr i x hx)

/-- A part of an aggregate. -/
theorem part_rep {t : TypeId} {n : Option Nat} (ht : cellN P t = some n) {vs : Array Value} {ds : List D} (h : RepL γ vs ds) (h1 : ∀ d ∈ ds, d.one = true) {off : Nat} {d : D}
    (hd : cutAt ds off n id mkAgg = some d) (w : World) : ∃ v, (part t vs off).run P w = .ok v w ∧ RepD γ v d := by
  unfold cutAt at hd
  split at hd
  · obtain ⟨x, hx, rfl⟩ := Option.map_eq_some_iff.1 hd
    have hlt : off < vs.size := by rw [h.1]; exact (List.getElem?_eq_some_iff.1 hx).1
    refine ⟨vs.getD off undef, ?_, h.2 off x hx⟩
    simp [part, cellN_none ht, Array.getElem?_eq_getElem hlt, Array.getD_eq_getD_getElem?]
  · rename_i k
    split at hd
    · rename_i hk
      cases hd
      obtain ⟨q1, q2⟩ := cellN_some ht w
      refine ⟨.agg (vs.extract off (off + k)), by simp [part, q1, q2], mkAgg_rep (extract_rep h hk) (fun d hd => h1 d ?_)⟩
      exact List.mem_of_mem_take (List.mem_of_mem_drop hd)
    · cases hd

theorem cutAt_p {cs : List PD} {off : Nat} {n : Option Nat} {d : D} (h : cutAt cs off n .p (fun l => .p (.agg l)) = some d) : cutAt (cs.map .p) off n id mkAgg = some d := by
  unfold cutAt at h ⊢
  split at h
  · obtain ⟨x, hx, rfl⟩ := Option.map_eq_some_iff.1 h
    simp [hx]
  · rename_i k
    split at h
    · rename_i hk
      cases h
      have hk' : off + k ≤ (cs.map D.p).length := by simpa using hk
      simp only [hk', if_true, Option.some.injEq]
      have : sub (cs.map D.p) off (off + k) = (sub cs off (off + k)).map .p := by simp [sub, List.map_take, List.map_drop]
      rw [this]
      unfold mkAgg
      have hp : ∀ l : List PD, pures (l.map .p) = some l := by
        intro l; induction l with
        | nil => rfl
        | cons x r ih => simp [pures, ih]
      rw [hp]
    · cases h

theorem agg_repL {γ : Gh} {v : Value} {d : D} (h : RepD γ v d) {ds : List D} (hd : d = .agg ds ∨ ∃ cs, d = .p (.agg cs) ∧ ds = cs.map .p) : ∃ vs, v = .agg vs ∧ RepL γ vs ds ∧ ∀ d ∈ ds, d.one = true := by
  rcases hd with rfl | ⟨cs, rfl, rfl⟩
  · cases h with
    | agg cs ds hl hone hr => exact ⟨cs, rfl, ⟨hl, hr⟩, hone⟩
  · cases h with
    | p v x h =>
      cases h with
      | agg vs ds hl hone hr => exact ⟨vs, rfl, repL_p hl hr, fun d hd => by obtain ⟨x, hx, rfl⟩ := List.mem_map.1 hd; exact hone x hx⟩

theorem done_field (I : Inv G γ H w) (E : EnvRep γ env a.tmps) {t : TypeId} {x : Operand} {f : Nat} {y : Opd} (ho : o.op = .field t x f) (hx : opdOf x = some y)
    {fs : Array Field} {fd : Field} {n : Option Nat} (ht : P.underlying t = some (.struct fs)) (hf : fs[f]? = some fd) (hn : cellN P fd.type = some n) {d : D} {H' : Hp}
    (he : evK G env H (.field y fd.offset n) = some (d, H')) : Done P G γ H w a o d H' := by
  have hr := opdOf_rep E hx
  have key : ∀ ds, (y.ev env = .agg ds ∨ ∃ cs, y.ev env = .p (.agg cs) ∧ ds = cs.map .p) → cutAt ds fd.offset n id mkAgg = some d → Done P G γ H w a o d H := by
    intro ds hds hc
    obtain ⟨vs, hv, h1, h2⟩ := agg_repL hr hds
    obtain ⟨v, q1, q2⟩ := part_rep hn h1 h2 hc w
    exact .same I (v := v) (by simp [execOp, ho, hv, Instr.field, run_underlying ht, hf, asAgg, q1]) q2
  simp only [evK] at he
  split at he
  · rename_i cs hd
    obtain ⟨d', hd', hh⟩ := Option.map_eq_some_iff.1 he
    cases hh
    exact key _ (.inr ⟨cs, hd, rfl⟩) (cutAt_p hd')
  · rename_i cs hd
    obtain ⟨d', hd', hh⟩ := Option.map_eq_some_iff.1 he
    cases hh
    exact key _ (.inl hd) hd'
  · cases he

theorem done_extract (I : Inv G γ H w) (E : EnvRep γ env a.tmps) {x : Operand} {i : Nat} {y : Opd} (ho : o.op = .extract x i) (hx : opdOf x = some y) {d : D} {H' : Hp}
    (he : evK G env H (.extract y i) = some (d, H')) : Done P G γ H w a o d H' := by
  have hr := opdOf_rep E hx
  simp only [evK] at he
  split at he
  · rename_i ds hd
    obtain ⟨d', hd', hh⟩ := Option.map_eq_some_iff.1 he
    cases hh
    rw [hd] at hr
    obtain ⟨cs, hcs, hl, hr⟩ := hr.tup_inv
    have hlt : i < cs.size := by rw [hl]; exact (List.getElem?_eq_some_iff.1 hd').1
    refine .same I (v := cs.getD i undef) ?_ (hr i d hd')
    simp [execOp, ho, hcs, Instr.extract, Array.getElem?_eq_getElem hlt, Array.getD_eq_getD_getElem?]
  · cases he

theorem done_mkfn (I : Inv G γ H w) (E : EnvRep γ env a.tmps) {f : Nat} {fi ca : Array Operand} {fi' ca' : List Opd} (ho : o.op = .makeFunc (.func f) fi ca) (h1 : mapO opdOf fi.toList = some fi') (h2 : mapO opdOf ca.toList = some ca') :
    Done P G γ H w a o (.fn f (fi'.map (·.ev env)) (ca'.map (·.ev env))) H := by
  obtain ⟨a1, a2⟩ := opds_rep E h1
  obtain ⟨b1, b2⟩ := opds_rep E h2
  exact .same I (v := .func (.func f) (fi.map a.eval) (ca.map a.eval)) (by simp [execOp, ho, Instr.makeFunc]) (.fn f _ _ _ _ a1 a2 b1 b2)

theorem done_iface (I : Inv G γ H w) {t : TypeId} {x : Operand} {y : Opd} (ho : o.op = .makeInterface t x) (ht : (P.underlying t).isSome) (hni : ∀ ms, P.underlying t ≠ some (.interface ms))
    {d : D} {H' : Hp} (he : evK G env H (.iface t y) = some (d, H')) (hseal : ∀ z, (y.ev env).asPD = some z → RepP γ.mem (a.eval x) z) : Done P G γ H w a o d H' := by
  simp only [evK] at he
  split at he
  · rename_i z hz
    cases he
    obtain ⟨td, htd⟩ := Option.isSome_iff_exists.1 ht
    refine .same I (v := .iface t (a.eval x)) ?_ (.p _ _ (.iface t _ z (hseal z hz)))
    have : (Instr.makeInterface t (a.eval x)).run P w = .ok (.iface t (a.eval x)) w := by
      cases td <;> first | exact (hni _ htd).elim | simp [Instr.makeInterface, run_underlying htd]
    simp [execOp, ho, this]
  · cases he

end Go.Vs
