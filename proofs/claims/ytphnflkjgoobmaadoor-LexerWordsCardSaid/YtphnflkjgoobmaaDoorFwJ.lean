/-
  Each operation of the evaluator does what the model's does: loads, stores, new variables, structs, new slices, bytes and strings.
-/
import Derived.Test.YtphnflkjgoobmaaDoorFwI
namespace Go.Vs

variable {P : Program} {G : Nat → Option (List PD)} {γ : Gh} {H : Hp} {w : World} {env : Env} {a : Act} {o : Oper}

/-! Indexes. -/
theorem done_index_str (I : Inv G γ H w) (E : EnvRep γ env a.tmps) {t : TypeId} {x i : Operand} {y j : Opd} (ho : o.op = .index t x i) (ht : P.underlying t = some .string)
    (hx : opdOf x = some y) (hi : opdOf i = some j) {d : D} {H' : Hp} (he : evK G env H (.index none y j) = some (d, H')) : Done P G γ H w a o d H' := by
  have hxr := opdOf_rep E hx
  have hir := opdOf_rep E hi
  simp only [evK] at he
  split at he
  · rename_i n hn
    obtain ⟨k, hiv⟩ := asInt?_rep hir hn
    obtain ⟨d', hd, hh⟩ := Option.map_eq_some_iff.1 he
    cases hh
    simp only [indexD] at hd
    split at hd
    · rename_i s hs
      split at hd
      · rename_i h0
        obtain ⟨c, hc, rfl⟩ := Option.map_eq_some_iff.1 hd
        rw [hs] at hxr
        have hlt : n.toNat < s.length := (List.getElem?_eq_some_iff.1 hc).1
        have hval : s[n.toNat] = c := (List.getElem?_eq_some_iff.1 hc).2
        refine .same I (v := .int .u8 c.toNat) ?_ (.p _ _ (.int _ _))
        have hs' : (⟨s.toArray⟩ : ByteArray).size = s.length := by simp [ByteArray.size]
        have hg : (⟨s.toArray⟩ : ByteArray)[n.toNat]? = some c := by
          rw [getElem?_pos _ _ (by rw [hs']; exact hlt), ← hval]
          rfl
        simp [execOp, ho, hxr.p_inv.str_inv, hiv, Instr.index, run_underlying ht, asIntOf, h0, hg]
      · cases hd
    · cases hd
  · cases he

theorem cellN_isSome {e : TypeId} {s : Nat} {c : Option Nat} (hs : szOf P e = some s) (hc : cellN P e = some c) : c = if c.isSome then some s else none := by
  cases c with
  | none => rfl
  | some n =>
    have : n = s := by
      unfold cellN at hc
      rw [hs] at hc
      split at hc <;> first | (cases hc; done) | skip
      · rename_i h1 h2; cases h2; cases hc; rfl
      · rename_i h1 h2; cases h2; cases hc; rfl
    subst this; rfl

theorem done_index_arr (I : Inv G γ H w) (E : EnvRep γ env a.tmps) {t e : TypeId} {len s : Nat} {c : Option Nat} {x i : Operand} {y j : Opd} (ho : o.op = .index t x i) (ht : P.underlying t = some (.array len e)) (hs : szOf P e = some s) (hc : cellN P e = some c)
    (hx : opdOf x = some y) (hi : opdOf i = some j) {d : D} {H' : Hp} (he : evK G env H (.index (some (len, s, c.isSome)) y j) = some (d, H')) : Done P G γ H w a o d H' := by
  have hxr := opdOf_rep E hx
  have hir := opdOf_rep E hi
  have hcc := cellN_isSome hs hc
  simp only [evK] at he
  split at he
  · rename_i n hn
    obtain ⟨k, hiv⟩ := asInt?_rep hir hn
    obtain ⟨d', hd, hh⟩ := Option.map_eq_some_iff.1 he
    cases hh
    simp only [indexD] at hd
    split at hd
    · rename_i hb
      have key : ∀ ds, (y.ev env = .agg ds ∨ ∃ cs, y.ev env = .p (.agg cs) ∧ ds = cs.map .p) → cutAt ds (n.toNat * s) (if c.isSome = true then some s else none) id mkAgg = some d → Done P G γ H w a o d H := by
        intro ds hds hcut
        obtain ⟨vs, hv, h1, h2⟩ := agg_repL hxr hds
        rw [← hcc] at hcut
        obtain ⟨v, q1, q2⟩ := part_rep hc h1 h2 hcut w
        exact .same I (v := v) (by simp [execOp, ho, hv, hiv, Instr.index, run_underlying ht, asIntOf, hb, run_szOf hs, q1]) q2
      split at hd
      · rename_i cs hcs; exact key _ (.inr ⟨cs, hcs, rfl⟩) (cutAt_p hd)
      · rename_i cs hcs; exact key _ (.inl hcs) hd
      · cases hd
    · cases hd
  · cases he

/-! Loads. -/
theorem run_loadVar {t : TypeId} {n : Option Nat} (ht : cellN P t = some n) {b off : Nat} {f : Nat → Value} (h : ∀ j, j < n.getD 1 → w.cell? ⟨b, off + j, none⟩ = some (f j)) :
    (loadVar t ⟨b, off, none⟩).run P w = .ok (match n with | none => f 0 | some k => .agg ((List.range k).map f).toArray) w := by
  cases n with
  | none =>
    have h0 := h 0 (by simp)
    simp only [Nat.add_zero] at h0
    simp [loadVar, cellN_none ht, h0]
  | some k =>
    obtain ⟨q1, q2⟩ := cellN_some ht w
    have q := run_loadCells (P := P) w ⟨b, off, none⟩ k f (fun j hj => by rw [Addr.add_lit]; exact h j (by simpa using hj))
    simp [loadVar, q1, q2, q]

theorem rangeL_rep {γ : Gh} {ds : List D} {f : Nat → Value} {off k : Nat} (hk : off + k ≤ ds.length) (h : ∀ j d, j < k → ds[off + j]? = some d → RepD γ (f j) d) : RepL γ ((List.range k).map f).toArray (sub ds off (off + k)) := by
  refine ⟨by rw [sub_length _ _ _ hk]; simp, fun i d hd => ?_⟩
  rw [sub_get] at hd
  split at hd
  · rename_i hlt
    have hi : i < k := by omega
    have e : (((List.range k).map f).toArray).getD i undef = f i := by simp [Array.getD_eq_getD_getElem?, hi]
    rw [e]
    exact h i d hi hd
  · cases hd

/-- A load from cells that read as data. -/
theorem load_cells (I : Inv G γ H w) {t : TypeId} {x : Operand} {n : Option Nat} (ho : o.op = .load t x) (ht : cellN P t = some n) {b base off : Nat} (hv : a.eval x = .pointer (some ⟨b, base + off, none⟩)) {ds : List D}
    {f : Nat → Value} (hcell : ∀ j, j < ds.length → w.cell? ⟨b, base + j, none⟩ = some (f j)) (hr : ∀ j d, ds[j]? = some d → RepD γ (f j) d) (h1 : ∀ d ∈ ds, d.one = true) {d : D}
    (hd : cutAt ds off n id mkAgg = some d) : Done P G γ H w a o d H := by
  unfold cutAt at hd
  split at hd
  · obtain ⟨d', hd', rfl⟩ := Option.map_eq_some_iff.1 hd
    have hlt := (List.getElem?_eq_some_iff.1 hd').1
    have q := run_loadVar (P := P) (w := w) ht (b := b) (off := base + off) (f := fun j => f (off + j)) (fun j hj => by
      have : j = 0 := by simpa using hj
      subst this; exact hcell off hlt)
    exact .same I (v := f off) (by simp [execOp, ho, hv, Instr.loadAt, Instr.sureAddr, q]) (hr off _ hd')
  · rename_i k
    split at hd
    · rename_i hk
      cases hd
      have q := run_loadVar (P := P) (w := w) ht (b := b) (off := base + off) (f := fun j => f (off + j)) (fun j hj => by
        have hj : j < k := by simpa using hj
        rw [Nat.add_assoc]; exact hcell (off + j) (by omega))
      refine .same I (v := .agg ((List.range k).map fun j => f (off + j)).toArray) (by simp [execOp, ho, hv, Instr.loadAt, Instr.sureAddr, q]) (mkAgg_rep (rangeL_rep hk fun j d hj hd => hr _ _ hd) (fun d hd => h1 d (sub_mem hd)))
    · cases hd

theorem done_load (I : Inv G γ H w) (E : EnvRep γ env a.tmps) {t : TypeId} {x : Operand} {y : Opd} {n : Option Nat} (ho : o.op = .load t x) (ht : cellN P t = some n) (hx : opdOf x = some y)
    {d : D} {H' : Hp} (he : evK G env H (.load n y) = some (d, H')) : Done P G γ H w a o d H' := by
  have hxr := opdOf_rep E hx
  simp only [evK] at he
  obtain ⟨d', hd, hh⟩ := Option.map_eq_some_iff.1 he
  cases hh
  unfold loadD at hd
  split at hd
  · rename_i i off hp
    split at hd
    · rename_i cs hcs
      rw [hp] at hxr
      generalize hev : a.eval x = v at hxr
      cases hxr with
      | box _ _ b hb =>
        obtain ⟨vs, T, q1, q2, q3⟩ := I.box i b cs hb hcs
        refine load_cells I ho ht (b := b) (base := 0) (off := off) (by rw [hev, Nat.zero_add]) (ds := cs) (f := fun j => vs.getD j undef) (fun j hj => ?_) q2.2 q3 hd
        have hj' : j < vs.size := by rw [q2.1]; exact hj
        simp [World.cell?, q1, hj', Array.getD_eq_getD_getElem?]
    · cases hd
  · rename_i cs off hp
    rw [hp] at hxr
    generalize hev : a.eval x = v at hxr
    cases hxr with
    | ro b base _ _ vs hm hr =>
      refine load_cells I ho ht (b := b) (base := base) (off := off) hev (ds := cs.map .p) (f := vs) (fun j hj => I.mem _ _ _ (hm j (by simpa using hj))) (fun j d hd => ?_) (fun d hd => ?_) (cutAt_p hd)
      · simp only [List.getElem?_map, Option.map_eq_some_iff] at hd
        obtain ⟨z, hz, rfl⟩ := hd
        exact .p _ _ (hr j z hz).1
      · obtain ⟨z, hz, rfl⟩ := List.mem_map.1 hd
        obtain ⟨j, hj⟩ := List.getElem?_of_mem hz
        exact (hr j z hj).2
  · rename_i g off hp
    split at hd
    · rename_i cs hcs
      rw [hp] at hxr
      generalize hev : a.eval x = v at hxr
      cases hxr with
      | glob _ _ =>
        have hg := I.globs g cs hcs
        refine load_cells I ho ht (b := g) (base := 0) (off := off) (by rw [hev, Nat.zero_add]) (ds := cs.map .p) (f := fun j => (γ.mem g j).getD undef) (fun j hj => ?_) (fun j d hd => ?_) (fun d hd => ?_) (cutAt_p hd)
        · have hj : j < cs.length := by simpa using hj
          obtain ⟨_, v, q1, q2⟩ := hg j _ (List.getElem?_eq_getElem hj)
          rw [q1]; simp only [Nat.zero_add, Option.getD_some]
          exact I.mem _ _ _ q1
        · simp only [List.getElem?_map, Option.map_eq_some_iff] at hd
          obtain ⟨z, hz, rfl⟩ := hd
          obtain ⟨_, v, q1, q2⟩ := hg j z hz
          rw [q1]; exact .p _ _ q2
        · obtain ⟨z, hz, rfl⟩ := List.mem_map.1 hd
          obtain ⟨j, hj⟩ := List.getElem?_of_mem hz
          exact (hg j z hj).1
    · cases hd
  · cases hd

/-! Stores. -/
theorem done_store (I : Inv G γ H w) (E : EnvRep γ env a.tmps) {t : TypeId} {x y : Operand} {x' y' : Opd} {n : Nat} (ho : o.op = .store t x y) (ht : szOf P t = some n) (hx : opdOf x = some x') (hy : opdOf y = some y')
    {d : D} {H' : Hp} (he : evK G env H (.store n x' y') = some (d, H')) : Done P G γ H w a o d H' := by
  have hxr := opdOf_rep E hx
  have hyr := opdOf_rep E hy
  simp only [evK] at he
  obtain ⟨H1, hd, hh⟩ := Option.map_eq_some_iff.1 he
  cases hh
  unfold storeD at hd
  split at hd
  · rename_i i off hp
    split at hd
    · rename_i cs hcs
      split at hd
      · rename_i hc
        obtain ⟨hl, h1, hfit⟩ := hc
        cases hd
        rw [hp] at hxr
        generalize hev : a.eval x = v at hxr
        cases hxr with
        | box _ _ b hb =>
          obtain ⟨vs, T, q1, q2, q3⟩ := I.box i b cs hb hcs
          obtain ⟨r1, r2⟩ := hyr.cells h1
          have hus : (a.eval y).cells.size = n := by rw [r1.1, hl]
          have one : ∀ u ∈ (a.eval y).cells.toList, u.oneCell' = true := by
            intro u hu
            obtain ⟨j, hj⟩ := List.getElem?_of_mem hu
            have hj' : j < (y'.ev env).cells.length := by rw [← r1.1]; simpa using (List.getElem?_eq_some_iff.1 hj).1
            have q := r1.2 j _ (List.getElem?_eq_getElem hj')
            have e : (a.eval y).cells.getD j undef = u := by
              have : (a.eval y).cells[j]? = some u := by simpa using hj
              simp [Array.getD_eq_getD_getElem?, this]
            rw [e] at q
            exact q.oneCell (r2 _ (List.getElem_mem hj'))
          have st := run_storeCells_at P b off T (a.eval y).cells.toList 0 vs w q1 (by simp [q2.1, hus]; omega) one
          simp only [Nat.add_zero] at st
          have hl' : (y'.ev env).cells.length = (a.eval y).cells.toList.length := by rw [← r1.1]; simp
          obtain ⟨s1, s2⟩ := I.store hb hcs (us := (a.eval y).cells.toList) (ds := (y'.ev env).cells) (off := off) (by simpa using r1) r2 (by rw [hl]; exact hfit) q1 q2
          refine ⟨undef, _, γ, .inr ⟨?_, rfl⟩, .refl γ, s1, s2, .undef⟩
          have e2 : ((a.eval y).cells.size ≠ n) = False := by simp [hus]
          simp [execOp, ho, hev, Instr.storeAt, Instr.sureAddr, storeVar, run_szOf ht, hus, st]
      · cases hd
    · cases hd
  · cases hd

/-! New variables. -/
theorem done_alloc (I : Inv G γ H w) {e : TypeId} {z : PD} (ho : o.op = .alloc e) (hz : zeroOf P e = some z) {d : D} {H' : Hp} (he : evK G env H (.alloc z.cells) = some (d, H')) : Done P G γ H w a o d H' := by
  simp only [evK] at he
  split at he
  · rename_i h1
    cases he
    obtain ⟨v, q1, q2⟩ := run_zeroOf hz w
    obtain ⟨r1, r2⟩ := (ofV_rep γ.mem q2).cells
    obtain ⟨γ', a1, a2, a3, a4⟩ := I.newBox (vs := v.cells) (cs := z.cells.map .p) e (repL_p r1 fun i d hd => (r2 i d hd).1) (fun c hc => by
      obtain ⟨x, hx, rfl⟩ := List.mem_map.1 hc
      exact List.all_eq_true.1 h1 x hx)
    exact ⟨.pointer (some ⟨w.heap.size, 0, none⟩), _, γ', .inl (by simp [execOp, ho, Instr.alloc, q1, newVar, newRow]), a1, a3, a4, .box _ _ _ a2⟩
  · cases he

theorem done_box (I : Inv G γ H w) (E : EnvRep γ env a.tmps) {e : TypeId} {x : Operand} {y : Opd} (ho : o.op = .box e x) (hx : opdOf x = some y) {d : D} {H' : Hp} (he : evK G env H (.box y) = some (d, H')) : Done P G γ H w a o d H' := by
  have hxr := opdOf_rep E hx
  simp only [evK] at he
  split at he
  · rename_i h1
    cases he
    obtain ⟨r1, r2⟩ := hxr.cells h1
    obtain ⟨γ', a1, a2, a3, a4⟩ := I.newBox (vs := (a.eval x).cells) (cs := (y.ev env).cells) e r1 r2
    exact ⟨.pointer (some ⟨w.heap.size, 0, none⟩), _, γ', .inl (by simp [execOp, ho, Instr.box, newVar, newRow]), a1, a3, a4, .box _ _ _ a2⟩
  · cases he

/-! Structs and arrays written out. -/
theorem foldl_set (off : Nat) : ∀ (us : List Value) (k : Nat) (cells : Array Value),
    ((us.zipIdx k).foldl (fun cs (x : Value × Nat) => cs.setIfInBounds (off + x.2) x.1) cells).size = cells.size ∧
      ∀ i, ((us.zipIdx k).foldl (fun cs (x : Value × Nat) => cs.setIfInBounds (off + x.2) x.1) cells)[i]? =
        if off + k ≤ i ∧ i < off + k + us.length then (if i < cells.size then us[i - (off + k)]? else none) else cells[i]?
  | [], k, cells => ⟨rfl, fun i => by simp; intro h1 h2; omega⟩
  | u :: us, k, cells => by
    simp only [List.zipIdx_cons, List.foldl_cons]
    obtain ⟨h1, h2⟩ := foldl_set off us (k + 1) (cells.setIfInBounds (off + k) u)
    refine ⟨by rw [h1]; simp, fun i => ?_⟩
    rw [h2]
    simp only [Array.size_setIfInBounds, List.length_cons]
    by_cases ha : off + (k + 1) ≤ i ∧ i < off + (k + 1) + us.length
    · have hc : off + k ≤ i ∧ i < off + k + (us.length + 1) := ⟨by omega, by omega⟩
      have : i - (off + k) = (i - (off + (k + 1))) + 1 := by omega
      simp only [ha, hc, and_self, if_true, this, List.getElem?_cons_succ]
    · rw [if_neg ha, Array.getElem?_setIfInBounds]
      by_cases hb : off + k = i
      · subst hb
        simp
      · have hc : ¬ (off + k ≤ i ∧ i < off + k + (us.length + 1)) := by omega
        rw [if_neg hb, if_neg hc]

/-- One part laid into the cells. -/
theorem lay_rep {γ : Gh} {cells : Array Value} {ds : List D} (r : RepL γ cells ds) {us : Array Value} {xs : List D} (q : RepL γ us xs) {off : Nat} (h : off + xs.length ≤ ds.length) :
    RepL γ (us.zipIdx.foldl (fun cs (x : Value × Nat) => cs.setIfInBounds (off + x.2) x.1) cells) (splice ds off xs) := by
  have e : us.zipIdx.foldl (fun cs (x : Value × Nat) => cs.setIfInBounds (off + x.2) x.1) cells = (us.toList.zipIdx 0).foldl (fun cs (x : Value × Nat) => cs.setIfInBounds (off + x.2) x.1) cells := by
    rw [← Array.foldl_toList]
    simp
  rw [e]
  obtain ⟨h1, h2⟩ := foldl_set off us.toList 0 cells
  have hul : us.size = xs.length := q.1
  have hcl : cells.size = ds.length := r.1
  refine ⟨by rw [h1, length_splice _ _ _ h]; exact r.1, fun i d hd => ?_⟩
  rw [getElem?_splice _ _ _ h] at hd
  have h2' := h2 i
  simp only [Nat.add_zero, Array.length_toList] at h2'
  by_cases a1 : i < off
  · rw [if_pos a1] at hd
    rw [if_neg (by omega)] at h2'
    have := r.2 i d hd
    simpa [Array.getD_eq_getD_getElem?, h2'] using this
  · rw [if_neg a1] at hd
    by_cases a2 : i < off + xs.length
    · rw [if_pos a2] at hd
      rw [if_pos (by omega), if_pos (by omega)] at h2'
      have := q.2 (i - off) d hd
      simpa [Array.getD_eq_getD_getElem?, h2'] using this
    · rw [if_neg a2] at hd
      rw [if_neg (by omega)] at h2'
      have := r.2 i d hd
      simpa [Array.getD_eq_getD_getElem?, h2'] using this

theorem partsOf_get {place : Nat → Option (Nat × Nat)} : ∀ {ps : List (Nat × Operand)} {qs : List (Nat × Nat × Opd)}, partsOf P place ps = some qs → True := fun _ => trivial

/-- The parts of a struct laid one behind the other. -/
theorem fill_rep (E : EnvRep γ env a.tmps) {place : Nat → Option (Nat × Nat)} : ∀ (ps : List (Nat × Operand)) (qs : List (Nat × Nat × Opd)) (cells : Array Value) (ds ds' : List D), partsOf P place ps = some qs →
    RepL γ cells ds → (∀ d ∈ ds, d.one = true) → fillD ds (qs.map fun q => (q.1, q.2.1, q.2.2.ev env)) = some ds' →
    ∃ cells', Instr.fill place cells (ps.map fun p => (p.1, a.eval p.2)) = some cells' ∧ RepL γ cells' ds' ∧ ∀ d ∈ ds', d.one = true
  | [], qs, cells, ds, ds', hp, r, h1, h => by
    simp only [partsOf] at hp
    cases hp
    simp only [List.map_nil, fillD] at h
    cases h
    exact ⟨cells, rfl, r, h1⟩
  | (i, x) :: ps, qs, cells, ds, ds', hp, r, h1, h => by
    simp only [partsOf] at hp
    split at hp
    · rename_i off n y hpl hy
      obtain ⟨qs', hq, rfl⟩ := Option.map_eq_some_iff.1 hp
      simp only [List.map_cons, fillD] at h
      split at h
      · rename_i hc
        obtain ⟨c1, c2, c3⟩ := hc
        have hyr := opdOf_rep E hy
        obtain ⟨r1, r2⟩ := hyr.cells c3
        have hsz : (a.eval x).cells.size = n := by rw [r1.1, c1]
        have hcs : cells.size = ds.length := r.1
        have lay := lay_rep r r1 (off := off) (by omega)
        obtain ⟨cells', q1, q2, q3⟩ := fill_rep E ps qs' _ _ ds' hq lay (fun d hd => by
          rcases mem_splice hd with h | h
          · exact h1 d h
          · exact r2 d h) h
        refine ⟨cells', ?_, q2, q3⟩
        simp only [List.map_cons, Instr.fill, hpl, hsz]
        rw [if_neg (by simp; omega)]
        exact q1
      · cases h
    · cases hp

theorem fieldPlaces_get {fs : List Field} {pl : List (Nat × Nat)} (h : fieldPlaces P fs = some pl) (w : World) : (fs.mapM fun f => (do pure (f.offset, ← sizeOf f.type) : Sem (Nat × Nat))).run P w = .ok pl w := by
  unfold fieldPlaces at h
  induction fs generalizing pl with
  | nil => simp only [mapO] at h; cases h; rfl
  | cons f fs ih =>
    simp only [mapO] at h
    split at h
    · rename_i b hb
      obtain ⟨pl', h', rfl⟩ := Option.map_eq_some_iff.1 h
      obtain ⟨n, hn, rfl⟩ := Option.map_eq_some_iff.1 hb
      have := ih h'
      simp [List.mapM_cons, run_szOf hn] at this ⊢
      rw [this]
      simp
    · cases h

theorem done_build (I : Inv G γ H w) {t : TypeId} {parts : Array (Nat × Operand)} {zs : List PD} (ho : o.op = .build t parts) (hz : zeroOf P t = some (.agg zs)) {ds : List D} {place : Nat → Option (Nat × Nat)}
    (hb : ∀ (z : Value) (cells' : Array Value), (zeroValue t).run P w = .ok z w → Instr.fill place z.cells (parts.toList.map fun p => (p.1, a.eval p.2)) = some cells' → (execOp a.eval o).run P w = .ok (.value (.agg cells')) w)
    (hf : ∀ (cells : Array Value), RepL γ cells (zs.map .p) → ∃ cells', Instr.fill place cells (parts.toList.map fun p => (p.1, a.eval p.2)) = some cells' ∧ RepL γ cells' ds ∧ ∀ d ∈ ds, d.one = true) : Done P G γ H w a o (mkAgg ds) H := by
  have _ := ho
  obtain ⟨z, q1, q2⟩ := run_zeroOf hz w
  obtain ⟨r1, r2⟩ := (ofV_rep γ.mem q2).cells
  obtain ⟨cells', p1, p2, p3⟩ := hf z.cells (repL_p r1 fun i d hd => (r2 i d hd).1)
  exact .same I (v := .agg cells') (hb z cells' q1 p1) (mkAgg_rep p2 p3)

theorem parts_map (parts : Array (Nat × Operand)) (ρ : Operand → Value) : (parts.map fun (x : Nat × Operand) => (x.1, ρ x.2)).toList = parts.toList.map fun p => (p.1, ρ p.2) := by simp

theorem done_build_struct (I : Inv G γ H w) (E : EnvRep γ env a.tmps) {t : TypeId} {parts : Array (Nat × Operand)} {zs : List PD} {fs : Array Field} {pl : List (Nat × Nat)} {qs : List (Nat × Nat × Opd)} (ho : o.op = .build t parts) (ht : P.underlying t = some (.struct fs))
    (hz : zeroOf P t = some (.agg zs)) (hpl : fieldPlaces P fs.toList = some pl) (hq : partsOf P (pl[·]?) parts.toList = some qs) {d : D} {H' : Hp} (he : evK G env H (.build zs qs) = some (d, H')) : Done P G γ H w a o d H' := by
  simp only [evK] at he
  split at he
  · rename_i h1
    obtain ⟨ds, hds, hh⟩ := Option.map_eq_some_iff.1 he
    cases hh
    refine done_build I ho hz (place := (pl[·]?)) (fun z cells' hz' hf => ?_) (fun cells hc => ?_)
    · have hm := fieldPlaces_get hpl w
      have hm' : (fs.mapM fun f => (do pure (f.offset, ← sizeOf f.type) : Sem (Nat × Nat))).run P w = .ok pl.toArray w := by
        rw [Array.mapM_eq_mapM_toList]
        simp only [Sem.run_map, hm, Result.andThen_ok]
      have hg : ∀ i : Nat, pl.toArray[i]? = pl[i]? := fun i => by simp
      have hg' : (fun i : Nat => pl.toArray[i]?) = (fun i => pl[i]?) := funext hg
      have hp : (parts.map fun (x : Nat × Operand) => (x.1, a.eval x.2)).toList = parts.toList.map fun p => (p.1, a.eval p.2) := parts_map parts a.eval
      simp only [execOp, ho, Instr.build, Sem.run_bind, hz', Result.andThen_ok, run_underlying ht, hm', hg', hp, hf, Sem.run_pure]
    · exact fill_rep E parts.toList qs cells (zs.map .p) ds hq hc (fun d hd => by
        obtain ⟨x, hx, rfl⟩ := List.mem_map.1 hd
        exact List.all_eq_true.1 h1 x hx) hds
  · cases he

theorem done_build_array (I : Inv G γ H w) (E : EnvRep γ env a.tmps) {t e : TypeId} {len n : Nat} {parts : Array (Nat × Operand)} {zs : List PD} {qs : List (Nat × Nat × Opd)} (ho : o.op = .build t parts) (ht : P.underlying t = some (.array len e))
    (hz : zeroOf P t = some (.agg zs)) (hn : szOf P e = some n) (hq : partsOf P (fun i => some (i * n, n)) parts.toList = some qs) {d : D} {H' : Hp} (he : evK G env H (.build zs qs) = some (d, H')) : Done P G γ H w a o d H' := by
  simp only [evK] at he
  split at he
  · rename_i h1
    obtain ⟨ds, hds, hh⟩ := Option.map_eq_some_iff.1 he
    cases hh
    refine done_build I ho hz (place := fun i => some (i * n, n)) (fun z cells' hz' hf => ?_) (fun cells hc => ?_)
    · have hp : (parts.map fun (x : Nat × Operand) => (x.1, a.eval x.2)).toList = parts.toList.map fun p => (p.1, a.eval p.2) := parts_map parts a.eval
      simp only [execOp, ho, Instr.build, Sem.run_bind, hz', Result.andThen_ok, run_underlying ht, run_szOf hn, hp, hf, Sem.run_pure]
    · exact fill_rep E parts.toList qs cells (zs.map .p) ds hq hc (fun d hd => by
        obtain ⟨x, hx, rfl⟩ := List.mem_map.1 hd
        exact List.all_eq_true.1 h1 x hx) hds
  · cases he

/-- A row of cells that reads as elements of one size. -/
def RepE (m : Mem) (sz : Nat) (cs : Array Value) (es : List PD) : Prop :=
  cs.size = es.length * sz ∧ (∀ e ∈ es, e.cells.length = sz ∧ ∀ c ∈ e.cells, c.one = true) ∧ ∀ (i : Nat) e (j : Nat) c, es[i]? = some e → e.cells[j]? = some c → RepP m (cs.getD (i * sz + j) undef) c

theorem RepE.set {m : Mem} {sz : Nat} {cs us : Array Value} {es : List PD} {e : PD} {i : Nat} (r : RepE m sz cs es) (hi : i < es.length) (hu : us.size = sz) (he : e.cells.length = sz) (h1 : ∀ c ∈ e.cells, c.one = true)
    (hr : ∀ j c, e.cells[j]? = some c → RepP m (us.getD j undef) c) : RepE m sz (us.zipIdx.foldl (fun cs (x : Value × Nat) => cs.setIfInBounds (i * sz + x.2) x.1) cs) (es.set i e) := by
  have ee : us.zipIdx.foldl (fun cs (x : Value × Nat) => cs.setIfInBounds (i * sz + x.2) x.1) cs = (us.toList.zipIdx 0).foldl (fun cs (x : Value × Nat) => cs.setIfInBounds (i * sz + x.2) x.1) cs := by
    rw [← Array.foldl_toList]
    simp
  rw [ee]
  obtain ⟨h2, h3⟩ := foldl_set (i * sz) us.toList 0 cs
  obtain ⟨r1, r2, r3⟩ := r
  refine ⟨by rw [h2]; simpa using r1, fun x hx => ?_, fun k x j c hk hc => ?_⟩
  · rcases List.mem_or_eq_of_mem_set hx with h | rfl
    · exact r2 x h
    · exact ⟨he, h1⟩
  · have h3' := h3 (k * sz + j)
    simp only [Nat.add_zero, Array.length_toList] at h3'
    have hj : ∀ y : PD, y.cells[j]? = some c → y.cells.length = sz → j < sz := fun y hy hl => by rw [← hl]; exact (List.getElem?_eq_some_iff.1 hy).1
    by_cases hik : i = k
    · subst hik
      rw [List.getElem?_set_self hi] at hk
      cases hk
      have hj := hj e hc he
      have hlt : i * sz + j < cs.size := by
        rw [r1]
        calc i * sz + j < i * sz + sz := by omega
          _ = (i + 1) * sz := by rw [Nat.add_mul, Nat.one_mul]
          _ ≤ es.length * sz := Nat.mul_le_mul_right _ hi
      rw [if_pos ⟨by omega, by omega⟩, if_pos hlt] at h3'
      have := hr j c hc
      have e3 : i * sz + j - i * sz = j := by omega
      rw [e3] at h3'
      simpa [Array.getD_eq_getD_getElem?, h3'] using this
    · rw [List.getElem?_set_ne hik] at hk
      have hj := hj x hc (r2 x (List.mem_of_getElem? hk)).1
      have hout : ¬ (i * sz ≤ k * sz + j ∧ k * sz + j < i * sz + us.size) := by
        rw [hu]
        intro hh
        have h1 : i < k + 1 := by
          apply Nat.lt_of_mul_lt_mul_right (a := sz)
          rw [Nat.add_mul, Nat.one_mul]; omega
        have h2 : k < i + 1 := by
          apply Nat.lt_of_mul_lt_mul_right (a := sz)
          rw [Nat.add_mul, Nat.one_mul]; omega
        omega
      rw [if_neg hout] at h3'
      have := r3 k x j c hk hc
      simpa [Array.getD_eq_getD_getElem?, h3'] using this

theorem fillE_rep (E : EnvRep γ env a.tmps) (sz : Nat) : ∀ (ps : List (Nat × Operand)) (qs : List (Nat × Opd)) (cells : Array Value) (es es' : List PD), partsE ps = some qs →
    RepE γ.mem sz cells es → fillE sz es (qs.map fun q => (q.1, q.2.ev env)) = some es' →
    ∃ cells', Instr.fill (fun i => some (i * sz, sz)) cells (ps.map fun p => (p.1, a.eval p.2)) = some cells' ∧ RepE γ.mem sz cells' es'
  | [], qs, cells, es, es', hp, r, h => by
    simp only [partsE] at hp
    cases hp
    simp only [List.map_nil, fillE] at h
    cases h
    exact ⟨cells, rfl, r⟩
  | (i, x) :: ps, qs, cells, es, es', hp, r, h => by
    simp only [partsE] at hp
    split at hp
    · rename_i y hy
      obtain ⟨qs', hq, rfl⟩ := Option.map_eq_some_iff.1 hp
      simp only [List.map_cons, fillE] at h
      split at h
      · rename_i z hz
        split at h
        · rename_i hc
          obtain ⟨c1, c2, c3⟩ := hc
          have hyr := seal_rep (opdOf_rep E hy) hz
          obtain ⟨r1, r2⟩ := hyr.cells
          have hsz : (a.eval x).cells.size = sz := by rw [r1, c1]
          have hfit : i * sz + sz ≤ cells.size := by
            rw [r.1]
            calc i * sz + sz = (i + 1) * sz := by rw [Nat.add_mul, Nat.one_mul]
              _ ≤ es.length * sz := Nat.mul_le_mul_right _ c3
          have lay := r.set (us := (a.eval x).cells) (e := z) c3 hsz c1 (List.all_eq_true.1 c2) (fun j c hc => (r2 j c hc).1)
          obtain ⟨cells', q1, q2⟩ := fillE_rep E sz ps qs' _ _ es' hq lay h
          refine ⟨cells', ?_, q2⟩
          simp only [List.map_cons, Instr.fill, hsz]
          rw [if_neg (by simp; omega)]
          exact q1
        · cases h
      · cases h
    · cases hp

/-- A row of cells, known for good, as a slice. -/
theorem RepE.slice {m : Mem} {sz : Nat} {cs : Array Value} {es : List PD} (r : RepE m sz cs es) {b cap : Nat} (hc : es.length ≤ cap) (hm : ∀ o, o < es.length * sz → m b o = cs[o]?) : RepP m (.slice (some ⟨b, 0, none⟩) es.length cap) (.slice sz es) := by
  obtain ⟨r1, r2, r3⟩ := r
  refine .sl b 0 cap sz es (fun i j => cs.getD (i * sz + j) undef) hc (fun e he => (r2 e he).1) (fun e he => (r2 e he).2) (fun i j hi hj => ?_) r3
  have hlt : i * sz + j < es.length * sz := by
    calc i * sz + j < i * sz + sz := by omega
      _ = (i + 1) * sz := by rw [Nat.add_mul, Nat.one_mul]
      _ ≤ es.length * sz := Nat.mul_le_mul_right _ hi
  rw [Nat.zero_add, hm _ hlt]
  have : i * sz + j < cs.size := by rw [r1]; exact hlt
  simp [this, Array.getD_eq_getD_getElem?]

theorem RepE.mono {m m' : Mem} (h : Mem.le m m') {sz : Nat} {cs : Array Value} {es : List PD} (r : RepE m sz cs es) : RepE m' sz cs es := ⟨r.1, r.2.1, fun i e j c he hc => (r.2.2 i e j c he hc).mono h⟩

/-- A block of equal elements. -/
theorem zeros_rep {m : Mem} {v : Value} {z : PD} (hz : RepP m v z) {sz len : Nat} (h1 : z.cells.length = sz) (h2 : ∀ c ∈ z.cells, c.one = true) : RepE m sz ((Array.range (len * sz)).map fun i => v.cells[i % v.cells.size]!) (List.replicate len z) := by
  obtain ⟨r1, r2⟩ := hz.cells
  refine ⟨by simp, fun e he => ?_, fun i e j c he hc => ?_⟩
  · obtain ⟨_, rfl⟩ := List.mem_replicate.1 he
    exact ⟨h1, h2⟩
  · have he' := List.mem_replicate.1 (List.mem_of_getElem? he)
    obtain ⟨_, rfl⟩ := he'
    have hi : i < len := by have := (List.getElem?_eq_some_iff.1 he).1; simpa using this
    have hj : j < sz := by rw [← h1]; exact (List.getElem?_eq_some_iff.1 hc).1
    have hlt : i * sz + j < len * sz := by
      calc i * sz + j < i * sz + sz := by omega
        _ = (i + 1) * sz := by rw [Nat.add_mul, Nat.one_mul]
        _ ≤ len * sz := Nat.mul_le_mul_right _ hi
    have hmod : (i * sz + j) % v.cells.size = j := by
      rw [r1, h1, Nat.add_comm, Nat.add_mul_mod_self_right, Nat.mod_eq_of_lt hj]
    have hj2 : j < v.cells.size := by rw [r1, h1]; exact hj
    have := (r2 j c hc).1
    have e : ((Array.range (len * sz)).map fun i => v.cells[i % v.cells.size]!).getD (i * sz + j) undef = v.cells.getD j undef := by
      simp [Array.getD_eq_getD_getElem?, hlt, hmod, hj2]
    rw [e]; exact this

theorem done_bslice (I : Inv G γ H w) (E : EnvRep γ env a.tmps) {t e : TypeId} {len n : Nat} {parts : Array (Nat × Operand)} {z : PD} {qs : List (Nat × Opd)} (ho : o.op = .buildSlice t len parts) (ht : P.underlying t = some (.slice e))
    (hn : szOf P e = some n) (hz : zeroOf P e = some z) (hq : partsE parts.toList = some qs) (hlim : len * n ≤ 16777216 ∧ 0 < n) {d : D} {H' : Hp} (he : evK G env H (.bslice n len z qs) = some (d, H')) : Done P G γ H w a o d H' := by
  simp only [evK] at he
  split at he
  · rename_i h1
    obtain ⟨es, hes, hh⟩ := Option.map_eq_some_iff.1 he
    cases hh
    obtain ⟨v, q1, q2⟩ := run_zeroOf hz w
    have hv := ofV_rep γ.mem q2
    have hp : (parts.map fun (x : Nat × Operand) => (x.1, a.eval x.2)).toList = parts.toList.map fun p => (p.1, a.eval p.2) := parts_map parts a.eval
    have zr : RepE γ.mem n ((Array.range (len * n)).map fun i => (if len * n = 0 then #[] else v.cells)[i % (if len * n = 0 then (#[] : Array Value) else v.cells).size]!) (List.replicate len z) := by
      by_cases h0 : len * n = 0
      · have : len = 0 := by
          rcases Nat.mul_eq_zero.1 h0 with h | h
          · exact h
          · omega
        subst this
        refine ⟨by simp, fun e he => by simp at he, fun i e j c he _ => by simp at he⟩
      · simp only [h0, if_false]
        exact zeros_rep hv h1.1 (List.all_eq_true.1 h1.2)
    obtain ⟨cells', c1, c2⟩ := fillE_rep E n parts.toList qs _ _ es hq zr hes
    have hlen : es.length = len := by
      have hsz := c2.1
      have : ∀ (l : List (Nat × D)) (es es' : List PD), fillE n es l = some es' → es'.length = es.length := by
        intro l
        induction l with
        | nil => intro es es' h; simp only [fillE] at h; cases h; rfl
        | cons x l ih =>
          intro es es' h
          obtain ⟨i, y⟩ := x
          simp only [fillE] at h
          split at h
          · split at h
            · rw [ih _ _ h]; simp
            · cases h
          · cases h
      rw [this _ _ _ hes]; simp
    obtain ⟨a1, a2, a3⟩ := I.newRow cells' e (0, 0)
    have hrun : (execOp a.eval o).run P w = .ok (.value (.slice (some ⟨w.heap.size, 0, none⟩) len len)) (w.alloc (.cells cells' e)) := by
      have e1 : ¬ (len * n > 2 ^ 24) := by have := hlim.1; omega
      simp only [execOp, ho, Instr.buildSlice, Sem.run_bind, Result.andThen_ok, run_underlying ht, run_szOf hn, e1, if_false, hp]
      by_cases h0 : len * n = 0
      · have hr : Array.range 0 = #[] := rfl
        simp only [h0, if_true, hr, Array.map_empty] at c1
        simp [h0, hr, c1, newRow]
      · simp only [h0, if_false] at c1
        simp [h0, q1, c1, newRow]
    refine ⟨_, _, _, .inl hrun, a1, a2, a3, ?_⟩
    have := (c2.mono a1.mem).slice (b := w.heap.size) (cap := es.length) (Nat.le_refl _) (fun o _ => by simp [Gh.asPD])
    rw [hlen] at this
    exact .fsl _ _ _ _ hlen.symm this
  · cases he

end Go.Vs
