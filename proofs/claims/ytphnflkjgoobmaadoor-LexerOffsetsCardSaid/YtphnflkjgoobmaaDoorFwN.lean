/-
  A call: the callee works on the part of memory that its arguments reach.
-/
import Derived.Test.YtphnflkjgoobmaaDoorFwM
namespace Go.Vs

variable {P : Program} {G : Nat → Option (List PD)} {γ : Gh} {H : Hp} {w : World}

theorem renL_get {bi ti : Nat → Option Nat} : ∀ {ds ds' : List D}, D.renL bi ti ds = some ds' → ds'.length = ds.length ∧ ∀ (i : Nat) d, ds'[i]? = some d → ∃ c, ds[i]? = some c ∧ c.ren bi ti = some d
  | [], ds', h => by simp only [D.renL] at h; cases h; exact ⟨rfl, fun i d h => by simp at h⟩
  | c :: r, ds', h => by
    simp only [D.renL] at h
    split at h
    · rename_i x hx
      obtain ⟨r', hr, rfl⟩ := Option.map_eq_some_iff.1 h
      obtain ⟨h1, h2⟩ := renL_get hr
      refine ⟨by simp [h1], fun i d hd => ?_⟩
      match i with
      | 0 => simp only [List.getElem?_cons_zero, Option.some.injEq] at hd; subst hd; exact ⟨c, rfl, hx⟩
      | i + 1 => exact h2 i d (by simpa using hd)
    · cases h

theorem ren_one {bi ti : Nat → Option Nat} {d d' : D} (h : d.ren bi ti = some d') (h1 : d.one = true) : d'.one = true := by
  cases d <;> simp only [D.ren] at h <;> first | (simp [D.one] at h1; done) | (cases h; exact h1) | skip
  · split at h <;> cases h <;> rfl
  · obtain ⟨j, _, rfl⟩ := Option.map_eq_some_iff.1 h; rfl
  · split at h
    · cases h; rfl
    · cases h

/-- How the names of one state of memory stand to those of another. -/
structure Ren (γ1 γ2 : Gh) (bi ti : Nat → Option Nat) : Prop where
  mem : Mem.le γ1.mem γ2.mem
  box : ∀ i j b, bi i = some j → γ1.boxes[i]? = some b → γ2.boxes[j]? = some b
  row : ∀ (t u : Nat) row, ti t = some u → γ1.rows[t]? = some row → ∃ row', γ2.rows[u]? = some row' ∧ row'.e = row.e ∧ row'.sz = row.sz ∧ ∀ n x, row.st n = some x → row'.st n = some x

theorem ren_rep {γ1 γ2 : Gh} {bi ti : Nat → Option Nat} (R : Ren γ1 γ2 bi ti) {v : Value} {d : D} (r : RepD γ1 v d) : ∀ {d' : D}, d.ren bi ti = some d' → RepD γ2 v d' := by
  induction r with
  | dead v => intro d' h; simp only [D.ren] at h; cases h; exact .dead v
  | undef => intro d' h; simp only [D.ren] at h; cases h; exact .undef
  | p v x hx => intro d' h; simp only [D.ren] at h; cases h; exact .p v x (hx.mono R.mem)
  | fsl b n sz es hn hx => intro d' h; simp only [D.ren] at h; cases h; exact .fsl b n sz es hn (hx.mono R.mem)
  | tsl v t e sz es row r h1 h2 h3 h4 h5 h6 =>
    intro d' h
    simp only [D.ren] at h
    split at h
    · rename_i u hu
      cases h
      obtain ⟨row', a1, a2, a3, a4⟩ := R.row t u row hu h1
      exact .tsl v u e sz es row' r a1 (a2.trans h2) (a3.trans h3) (h4.mono R.mem) (a4 _ _ h5) h6
    · cases h
      exact .p _ _ (h4.mono R.mem)
  | box i off b hb =>
    intro d' h
    simp only [D.ren] at h
    obtain ⟨j, hj, rfl⟩ := Option.map_eq_some_iff.1 h
    exact .box j off b (R.box i j b hj hb)
  | glob g off => intro d' h; simp only [D.ren] at h; cases h; exact .glob g off
  | ro b o off cs vs hm hr => intro d' h; simp only [D.ren] at h; cases h; exact .ro b o off cs vs (fun j hj => R.mem _ _ _ (hm j hj)) (fun j c hc => ⟨(hr j c hc).1.mono R.mem, (hr j c hc).2⟩)
  | agg cs ds hl hone hr ih =>
    intro d' h
    simp only [D.ren] at h
    obtain ⟨ds', hd, rfl⟩ := Option.map_eq_some_iff.1 h
    obtain ⟨h1, h2⟩ := renL_get hd
    refine .agg cs ds' (hl.trans h1.symm) (fun d hd' => ?_) (fun i d hi => ?_)
    · obtain ⟨i, hi⟩ := List.getElem?_of_mem hd'
      obtain ⟨c, a1, a2⟩ := h2 i d hi
      exact ren_one a2 (hone c (List.mem_of_getElem? a1))
    · obtain ⟨c, a1, a2⟩ := h2 i d hi
      exact ih i c a1 a2
  | tup cs ds hl hr ih =>
    intro d' h
    simp only [D.ren] at h
    obtain ⟨ds', hd, rfl⟩ := Option.map_eq_some_iff.1 h
    obtain ⟨h1, h2⟩ := renL_get hd
    refine .tup cs ds' (hl.trans h1.symm) (fun i d hi => ?_)
    obtain ⟨c, a1, a2⟩ := h2 i d hi
    exact ih i c a1 a2
  | fn f as cs ds es hl hr kl kr ih ih' =>
    intro d' h
    simp only [D.ren] at h
    split at h
    · rename_i a' c' ha hc
      cases h
      obtain ⟨h1, h2⟩ := renL_get ha
      obtain ⟨h3, h4⟩ := renL_get hc
      refine .fn f as cs a' c' (hl.trans h1.symm) (fun i d hi => ?_) (kl.trans h3.symm) (fun i d hi => ?_)
      · obtain ⟨c, a1, a2⟩ := h2 i d hi
        exact ih i c a1 a2
      · obtain ⟨c, a1, a2⟩ := h4 i d hi
        exact ih' i c a1 a2
    · cases h

theorem renL_rep {γ1 γ2 : Gh} {bi ti : Nat → Option Nat} (R : Ren γ1 γ2 bi ti) {vs : Array Value} {ds ds' : List D} (r : RepL γ1 vs ds) (h : D.renL bi ti ds = some ds') : RepL γ2 vs ds' := by
  obtain ⟨h1, h2⟩ := renL_get h
  refine ⟨r.1.trans h1.symm, fun i d hi => ?_⟩
  obtain ⟨c, a1, a2⟩ := h2 i d hi
  exact ren_rep R (r.2 i c a1) a2

theorem renL_ones {bi ti : Nat → Option Nat} {ds ds' : List D} (h : D.renL bi ti ds = some ds') (h1 : ∀ d ∈ ds, d.one = true) : ∀ d ∈ ds', d.one = true := by
  obtain ⟨_, h2⟩ := renL_get h
  intro d hd
  obtain ⟨i, hi⟩ := List.getElem?_of_mem hd
  obtain ⟨c, a1, a2⟩ := h2 i d hi
  exact ren_one a2 (h1 c (List.mem_of_getElem? a1))

theorem idx_some : ∀ {l : List Nat} {i j : Nat}, idx l i = some j → l[j]? = some i
  | [], i, j, h => by cases h
  | a :: r, i, j, h => by
    simp only [idx] at h
    split at h
    · rename_i e; cases h; simp [e]
    · obtain ⟨k, hk, rfl⟩ := Option.map_eq_some_iff.1 h
      simpa using idx_some hk

theorem idx_none : ∀ {l : List Nat} {i : Nat}, idx l i = none → i ∉ l
  | [], i, h => by simp
  | a :: r, i, h => by
    simp only [idx] at h
    split at h
    · cases h
    · rename_i e
      have := idx_none (Option.map_eq_none_iff.1 h)
      simp [this]; exact fun h => e h.symm

theorem nodupB_iff : ∀ {l : List Nat}, nodupB l = true → l.Nodup
  | [], _ => List.nodup_nil
  | a :: r, h => by
    simp only [nodupB, Bool.and_eq_true, Bool.not_eq_true', List.contains_eq_mem, decide_eq_false_iff_not] at h
    exact List.nodup_cons.2 ⟨h.1, nodupB_iff h.2⟩

theorem putAll_length {α : Type} : ∀ (is : List Nat) (l xs : List α), (putAll l is xs).length = l.length
  | [], l, xs => by simp [putAll]
  | i :: is, l, [] => by simp [putAll]
  | i :: is, l, x :: xs => by simp [putAll, putAll_length is]

theorem putAll_out {α : Type} : ∀ (is : List Nat) (l xs : List α) (i : Nat), i ∉ is → (putAll l is xs)[i]? = l[i]?
  | [], l, xs, i, _ => by simp [putAll]
  | k :: is, l, [], i, _ => by simp [putAll]
  | k :: is, l, x :: xs, i, h => by
    simp only [List.mem_cons, not_or] at h
    simp only [putAll]
    rw [putAll_out is _ _ i h.2, List.getElem?_set_ne (Ne.symm h.1)]

theorem putAll_in {α : Type} : ∀ (is : List Nat) (l xs : List α) (j i : Nat), is.Nodup → is[j]? = some i → i < l.length → j < xs.length → (putAll l is xs)[i]? = xs[j]?
  | [], l, xs, j, i, _, h, _, _ => by simp at h
  | k :: is, l, [], j, i, _, _, _, h => by simp at h
  | k :: is, l, x :: xs, j, i, hn, hj, hi, hx => by
    obtain ⟨n1, n2⟩ := List.nodup_cons.1 hn
    simp only [putAll]
    match j with
    | 0 =>
      simp only [List.getElem?_cons_zero, Option.some.injEq] at hj
      subst hj
      rw [putAll_out is _ _ k n1]
      simp [hi]
    | j + 1 =>
      rw [putAll_in is _ xs j i n2 (by simpa using hj) (by simpa using hi) (by simpa using hx)]
      simp

theorem nodup_get {l : List Nat} (h : l.Nodup) {i j a : Nat} (hi : l[i]? = some a) (hj : l[j]? = some a) : i = j := by
  have hlt := (List.getElem?_eq_some_iff.1 hi).1
  exact (List.getElem?_inj hlt h).1 (hi.trans hj.symm)

theorem firstN_some {α : Type} {l l' : List α} {n : Nat} (h : firstN l n = some l') : n ≤ l.length ∧ l' = l.take n := by
  unfold firstN at h
  split at h
  · rename_i hn; cases h; exact ⟨hn, rfl⟩
  · cases h

/-- The part of memory that a call is handed. -/
def Gh.part (γ : Gh) (ids tks : List Nat) : Gh :=
  { mem := γ.mem, boxes := ids.map fun i => (γ.boxes[i]?).getD 0, rows := tks.map fun t => (γ.rows[t]?).getD ⟨0, 0, fun _ => none⟩ }

theorem part_boxes {ids tks : List Nat} {j b : Nat} : (γ.part ids tks).boxes[j]? = some b ↔ ∃ i, ids[j]? = some i ∧ (γ.boxes[i]?).getD 0 = b := by
  simp [Gh.part, List.getElem?_map, Option.map_eq_some_iff]

theorem part_rows {ids tks : List Nat} {j : Nat} {row : Row} : (γ.part ids tks).rows[j]? = some row ↔ ∃ t, tks[j]? = some t ∧ (γ.rows[t]?).getD ⟨0, 0, fun _ => none⟩ = row := by
  simp [Gh.part, List.getElem?_map, Option.map_eq_some_iff]

section
variable {ids tks : List Nat} {bx : List (List D)} {tk : List Nat}
  (hni : ids.Nodup) (hnt : tks.Nodup) (hbx : mapO (fun i => match H.bx[i]? with | some cs => D.renL (idx ids) (idx tks) cs | none => none) ids = some bx) (htk : mapO (fun t => H.tk[t]?) tks = some tk)
include hni hnt hbx htk

omit hni hnt htk in
theorem part_box_of (I : Inv G γ H w) {j b : Nat} (h : (γ.part ids tks).boxes[j]? = some b) : ∃ i, ids[j]? = some i ∧ γ.boxes[i]? = some b := by
  obtain ⟨i, hi, hb⟩ := part_boxes.1 h
  obtain ⟨_, m2⟩ := mapO_get hbx
  obtain ⟨y, hy, _⟩ := m2 j i hi
  have hlt : i < γ.boxes.length := by
    rw [I.lenB]
    split at hy
    · rename_i cs hcs; exact (List.getElem?_eq_some_iff.1 hcs).1
    · cases hy
  rw [List.getElem?_eq_getElem hlt] at hb
  exact ⟨i, hi, by rw [List.getElem?_eq_getElem hlt]; simpa using hb⟩

omit hni hnt hbx in
theorem part_row_of (I : Inv G γ H w) {j : Nat} {row : Row} (h : (γ.part ids tks).rows[j]? = some row) : ∃ t, tks[j]? = some t ∧ γ.rows[t]? = some row := by
  obtain ⟨t, hi, hb⟩ := part_rows.1 h
  obtain ⟨_, m2⟩ := mapO_get htk
  obtain ⟨y, hy, _⟩ := m2 j t hi
  have hlt : t < γ.rows.length := by rw [I.lenT]; exact (List.getElem?_eq_some_iff.1 hy).1
  rw [List.getElem?_eq_getElem hlt] at hb
  exact ⟨t, hi, by rw [List.getElem?_eq_getElem hlt]; simpa using hb⟩

omit hni hnt hbx in
theorem part_tk {j t f : Nat} (h1 : tks[j]? = some t) (h2 : tk[j]? = some f) : H.tk[t]? = some f := by
  obtain ⟨_, m2⟩ := mapO_get htk
  obtain ⟨y, hy, hy'⟩ := m2 j t h1
  rw [h2] at hy'
  cases hy'
  exact hy

omit hni hnt hbx htk in
theorem part_ren : Ren γ (γ.part ids tks) (idx ids) (idx tks) := by
  refine ⟨fun _ _ _ h => h, fun i j b h hb => part_boxes.2 ⟨i, idx_some h, by rw [hb]; rfl⟩, fun t u row h hr => ⟨row, part_rows.2 ⟨t, idx_some h, by rw [hr]; rfl⟩, rfl, rfl, fun _ _ h => h⟩⟩

omit hni hnt htk in
theorem part_mem (I : Inv G γ H w) {b : Nat} (h : b ∈ (γ.part ids tks).boxes) : b ∈ γ.boxes := by
  obtain ⟨j, hj⟩ := List.getElem?_of_mem h
  obtain ⟨i, _, hi⟩ := part_box_of hbx I hj
  exact List.mem_of_getElem? hi

omit hni hnt hbx in
theorem part_free (I : Inv G γ H w) {j b : Nat} (h : Free (γ.part ids tks) ⟨bx, tk⟩ j b) : ∃ t, tks[j]? = some t ∧ Free γ H t b := by
  obtain ⟨row, f, cap, h1, h2, h3, h4⟩ := h
  obtain ⟨t, ht, hr⟩ := part_row_of htk I h1
  exact ⟨t, ht, row, f, cap, hr, part_tk htk ht h2, h3, h4⟩

theorem part_inv (I : Inv G γ H w) : Inv G (γ.part ids tks) ⟨bx, tk⟩ w := by
  have hR := part_ren (γ := γ) (ids := ids) (tks := tks)
  constructor
  · exact I.mem
  · exact I.globs
  · simp [Gh.part, (mapO_get hbx).1]
  · have : (γ.part ids tks).boxes.Nodup := by
      refine List.pairwise_iff_getElem.2 fun j k hj hk' hjk he0 => ?_
      have he : (γ.part ids tks).boxes[j]? = (γ.part ids tks).boxes[k]? := by rw [List.getElem?_eq_getElem hj, List.getElem?_eq_getElem hk', he0]
      obtain ⟨b, hb⟩ : ∃ b, (γ.part ids tks).boxes[k]? = some b := ⟨_, List.getElem?_eq_getElem hk'⟩
      obtain ⟨i, h1, h2⟩ := part_box_of hbx I (he.trans hb)
      obtain ⟨i', h3, h4⟩ := part_box_of hbx I hb
      have : i = i' := nodup_get I.nodup h2 h4
      subst this
      have := nodup_get hni h1 h3
      omega
    exact this
  · intro j b cs hb hc
    obtain ⟨i, hi, hbi⟩ := part_box_of hbx I hb
    have hc : bx[j]? = some cs := hc
    obtain ⟨i', h1, h2⟩ := mapO_back hbx hc
    rw [hi] at h1
    cases h1
    split at h2
    · rename_i cs0 hcs0
      obtain ⟨vs, T, q1, q2, q3⟩ := I.box i b cs0 hbi hcs0
      exact ⟨vs, T, q1, renL_rep hR q2 h2, renL_ones h2 q3⟩
    · cases h2
  · intro b o hb
    exact I.boxmem b o (part_mem hbx I hb)
  · simp [Gh.part, (mapO_get htk).1]
  · intro j row f h1 h2
    obtain ⟨t, ht, hr⟩ := part_row_of htk I h1
    obtain ⟨r, q1, q2⟩ := I.row t row f hr (part_tk htk ht h2)
    exact ⟨r, q1, q2.keep (fun _ _ _ _ => rfl) (fun _ _ _ _ _ => rfl) (fun b cap _ _ hb hb' => hb (part_mem hbx I hb'))⟩
  · intro j row f h1 h2
    obtain ⟨t, ht, hr⟩ := part_row_of htk I h1
    exact I.rowmax t row f hr (part_tk htk ht h2)
  · intro j k b h h'
    obtain ⟨t, h1, h2⟩ := part_free htk I h
    obtain ⟨t', h3, h4⟩ := part_free htk I h'
    have := I.free t t' b h2 h4
    subst this
    exact nodup_get hnt h1 h3

/-- The whole memory again, behind the call. -/
def Gh.whole (γ γl : Gh) (ids tks : List Nat) (kept : Bool) : Gh :=
  { mem := γl.mem, boxes := γ.boxes ++ (if kept then γl.boxes.drop ids.length else []), rows := putAll γ.rows tks (γl.rows.take tks.length) }

omit hni hbx htk hnt in
theorem whole_row_in {γl : Gh} {kept : Bool} (hnt : tks.Nodup) {j t : Nat} (hj : tks[j]? = some t) (ht : t < γ.rows.length) (hl : tks.length ≤ γl.rows.length) : (γ.whole γl ids tks kept).rows[t]? = γl.rows[j]? := by
  have hj' := (List.getElem?_eq_some_iff.1 hj).1
  simp only [Gh.whole]
  rw [putAll_in tks γ.rows _ j t hnt hj ht (by simp; omega), List.getElem?_take, if_pos hj']

/-- The state of memory behind a call. -/
theorem whole_ok (I : Inv G γ H w) {γl : Gh} {Hl : Hp} {w' : World} (L : (γ.part ids tks).le γl) (F : Frame (γ.part ids tks) ⟨bx, tk⟩ w γl Hl w') (J : Inv G γl Hl w') (kept : Bool) {bx' nw : List (List D)} {bi : Nat → Option Nat}
    (hm : ids.length ≤ Hl.bx.length) (ht : tks.length ≤ Hl.tk.length)
    (hbi : ∀ i j, bi i = some j → (i < ids.length ∧ ids[i]? = some j) ∨ (kept = true ∧ ids.length ≤ i ∧ j = H.bx.length + (i - ids.length)))
    (hb : mapO (D.renL bi fun t => tks[t]?) (Hl.bx.take ids.length) = some bx') (hn : if kept then mapO (D.renL bi fun t => tks[t]?) (Hl.bx.drop ids.length) = some nw else nw = []) :
    Ren γl (γ.whole γl ids tks kept) bi (fun t => tks[t]?) ∧ γ.le (γ.whole γl ids tks kept) ∧ Frame γ H w (γ.whole γl ids tks kept) ⟨putAll H.bx ids bx' ++ nw, putAll H.tk tks (Hl.tk.take tks.length)⟩ w' ∧
      Inv G (γ.whole γl ids tks kept) ⟨putAll H.bx ids bx' ++ nw, putAll H.tk tks (Hl.tk.take tks.length)⟩ w' := by
  have hlb : γl.boxes.length = Hl.bx.length := J.lenB
  have hlt : γl.rows.length = Hl.tk.length := J.lenT
  have hids : ∀ (j i : Nat), ids[j]? = some i → i < γ.boxes.length := fun j i h => by
    obtain ⟨_, m2⟩ := mapO_get hbx
    obtain ⟨y, hy, _⟩ := m2 j i h
    rw [I.lenB]
    split at hy
    · rename_i cs hcs; exact (List.getElem?_eq_some_iff.1 hcs).1
    · cases hy
  have htks : ∀ (j t : Nat), tks[j]? = some t → t < γ.rows.length := fun j t h => by
    obtain ⟨_, m2⟩ := mapO_get htk
    obtain ⟨y, hy, _⟩ := m2 j t h
    rw [I.lenT]; exact (List.getElem?_eq_some_iff.1 hy).1
  -- boxes of the callee that the caller knows
  have hold : ∀ (j i : Nat), ids[j]? = some i → ∃ b, γ.boxes[i]? = some b ∧ γl.boxes[j]? = some b := fun j i h => by
    have hi := hids j i h
    refine ⟨γ.boxes[i], List.getElem?_eq_getElem hi, L.boxes j _ (part_boxes.2 ⟨i, h, by rw [List.getElem?_eq_getElem hi]; rfl⟩)⟩
  have hnew : ∀ (j b : Nat), ids.length ≤ j → γl.boxes[j]? = some b → w.heap.size ≤ b := fun j b hj hb => by
    rcases F.box b (List.mem_of_getElem? hb) with h | h
    · obtain ⟨k, hk⟩ := List.getElem?_of_mem h
      have hk' : k < ids.length := by have := (List.getElem?_eq_some_iff.1 hk).1; simpa [Gh.part] using this
      have := nodup_get J.nodup hb (L.boxes k b hk)
      omega
    · exact h
  have hmemb : ∀ b, b ∈ (γ.whole γl ids tks kept).boxes → b ∈ γ.boxes ∨ (kept = true ∧ ∃ j, ids.length ≤ j ∧ γl.boxes[j]? = some b) := fun b h => by
    simp only [Gh.whole] at h
    rcases List.mem_append.1 h with h | h
    · exact .inl h
    · cases kept with
      | false => simp at h
      | true =>
        simp only [if_true] at h
        obtain ⟨j, hj⟩ := List.getElem?_of_mem h
        rw [List.getElem?_drop] at hj
        exact .inr ⟨rfl, ids.length + j, by omega, hj⟩
  have hRow : ∀ (t : Nat) row f, (γ.whole γl ids tks kept).rows[t]? = some row → (putAll H.tk tks (Hl.tk.take tks.length))[t]? = some f →
      (∃ j, tks[j]? = some t ∧ γl.rows[j]? = some row ∧ Hl.tk[j]? = some f) ∨ (t ∉ tks ∧ γ.rows[t]? = some row ∧ H.tk[t]? = some f) := fun t row f h1 h2 => by
    by_cases hin : t ∈ tks
    · obtain ⟨j, hj⟩ := List.getElem?_of_mem hin
      have hj' := (List.getElem?_eq_some_iff.1 hj).1
      have hl := htks j t hj
      rw [whole_row_in hnt hj hl (by omega)] at h1
      rw [putAll_in tks H.tk _ j t hnt hj (by rw [← I.lenT]; exact hl) (by simp; omega), List.getElem?_take, if_pos hj'] at h2
      exact .inl ⟨j, hj, h1, h2⟩
    · simp only [Gh.whole] at h1
      rw [putAll_out tks _ _ t hin] at h1 h2
      exact .inr ⟨hin, h1, h2⟩
  have hFree : ∀ t b, Free (γ.whole γl ids tks kept) ⟨putAll H.bx ids bx' ++ nw, putAll H.tk tks (Hl.tk.take tks.length)⟩ t b →
      (∃ j, tks[j]? = some t ∧ Free γl Hl j b) ∨ (t ∉ tks ∧ Free γ H t b) := fun t b h => by
    obtain ⟨row, f, cap, h1, h2, h3, h4⟩ := h
    rcases hRow t row f h1 h2 with ⟨j, a1, a2, a3⟩ | ⟨a1, a2, a3⟩
    · exact .inl ⟨j, a1, row, f, cap, a2, a3, h3, h4⟩
    · exact .inr ⟨a1, row, f, cap, a2, a3, h3, h4⟩
  have hFl : ∀ j b, Free γl Hl j b → (∃ t, tks[j]? = some t ∧ Free γ H t b) ∨ w.heap.size ≤ b := fun j b h => by
    rcases F.fre j b h with h | h
    · exact .inl (part_free htk I h)
    · exact .inr h
  have hOwn : ∀ b, Owned (γ.part ids tks) ⟨bx, tk⟩ b → Owned γ H b := fun b h => by
    rcases h with h | ⟨j, h⟩
    · exact .inl (part_mem hbx I h)
    · obtain ⟨t, _, h⟩ := part_free htk I h
      exact .inr ⟨t, h⟩
  have hle : γ.le (γ.whole γl ids tks kept) := by
    refine ⟨L.mem, fun i b h => ?_, fun t r h => ?_⟩
    · simp only [Gh.whole]
      rw [List.getElem?_append_left (List.getElem?_eq_some_iff.1 h).1]; exact h
    · by_cases hin : t ∈ tks
      · obtain ⟨j, hj⟩ := List.getElem?_of_mem hin
        have hl := htks j t hj
        rw [whole_row_in hnt hj hl (by have := (List.getElem?_eq_some_iff.1 hj).1; omega)]
        exact L.rows j r (part_rows.2 ⟨t, hj, by rw [h]; rfl⟩)
      · refine ⟨r, ?_, rfl, rfl, fun _ _ h => h⟩
        simp only [Gh.whole]
        rw [putAll_out tks _ _ t hin]; exact h
  have hR : Ren γl (γ.whole γl ids tks kept) bi (fun t => tks[t]?) := by
    refine ⟨fun _ _ _ h => h, fun i j b h hb' => ?_, fun t u row h hr => ?_⟩
    · rcases hbi i j h with ⟨h1, h2⟩ | ⟨h1, h2, h3⟩
      · obtain ⟨b', c1, c2⟩ := hold i j h2
        rw [hb'] at c2
        cases c2
        exact hle.boxes _ _ c1
      · subst h1; subst h3
        simp only [Gh.whole, if_true]
        rw [← I.lenB, List.getElem?_append_right (by omega), List.getElem?_drop]
        have : ids.length + (γ.boxes.length + (i - ids.length) - γ.boxes.length) = i := by omega
        rw [this]; exact hb'
    · have h : tks[t]? = some u := h
      refine ⟨row, ?_, rfl, rfl, fun _ _ h => h⟩
      rw [whole_row_in hnt h (htks t u h) (by have := (List.getElem?_eq_some_iff.1 h).1; omega)]
      exact hr
  refine ⟨hR, hle, ⟨F.os, F.tape, F.output, F.size, fun b hb' ho => F.blk b hb' fun h => ho (hOwn b h), fun b o hb' ho => F.mem b o hb' fun h => ho (hOwn b h), fun b h => ?_, fun t b h => ?_⟩, ?_⟩
  · rcases hmemb b h with h | ⟨_, j, h1, h2⟩
    · exact .inl h
    · exact .inr (hnew j b h1 h2)
  · rcases hFree t b h with ⟨j, h1, h2⟩ | ⟨_, h2⟩
    · rcases hFl j b h2 with ⟨t', h3, h4⟩ | h3
      · rw [h1] at h3; cases h3; exact .inl h4
      · exact .inr h3
    · exact .inl h2
  · constructor
    · exact J.mem
    · exact J.globs
    · simp only [Gh.whole, List.length_append, putAll_length, I.lenB]
      congr 1
      cases kept with
      | false => simp only [Bool.false_eq_true, if_false] at hn ⊢; simp [hn]
      | true =>
        simp only [if_true] at hn ⊢
        rw [(mapO_get hn).1]
        simp [hlb]
    · simp only [Gh.whole]
      rw [List.nodup_append]
      refine ⟨I.nodup, ?_, fun a ha b hb' => ?_⟩
      · cases kept with
        | false => simp
        | true => simp only [if_true]; exact (List.drop_sublist _ _).nodup J.nodup
      · have h1 := I.lt_of_box ha
        cases kept with
        | false => simp at hb'
        | true =>
          simp only [if_true] at hb'
          obtain ⟨j, hj⟩ := List.getElem?_of_mem hb'
          rw [List.getElem?_drop] at hj
          have := hnew _ _ (by omega) hj
          omega
    · intro i b cs hb' hc
      have hc : (putAll H.bx ids bx' ++ nw)[i]? = some cs := hc
      simp only [Gh.whole] at hb'
      by_cases hi : i < γ.boxes.length
      · rw [List.getElem?_append_left hi] at hb'
        rw [List.getElem?_append_left (by rw [putAll_length, ← I.lenB]; exact hi)] at hc
        by_cases hin : i ∈ ids
        · obtain ⟨j, hj⟩ := List.getElem?_of_mem hin
          have hjl := (List.getElem?_eq_some_iff.1 hj).1
          have hbl : bx'.length = ids.length := by rw [(mapO_get hb).1]; simp; omega
          rw [putAll_in ids H.bx bx' j i hni hj (by rw [← I.lenB]; exact hi) (by omega)] at hc
          obtain ⟨c0, h1, h2⟩ := mapO_back hb hc
          rw [List.getElem?_take, if_pos hjl] at h1
          obtain ⟨b', c1, c2⟩ := hold j i hj
          rw [hb'] at c1
          cases c1
          obtain ⟨vs, T, q1, q2, q3⟩ := J.box j b c0 c2 h1
          exact ⟨vs, T, q1, renL_rep hR q2 h2, renL_ones h2 q3⟩
        · rw [putAll_out ids _ _ i hin] at hc
          obtain ⟨vs, T, q1, q2, q3⟩ := I.box i b cs hb' hc
          have hno : ¬ Owned (γ.part ids tks) ⟨bx, tk⟩ b := by
            rintro (h | ⟨j, h⟩)
            · obtain ⟨j, hj⟩ := List.getElem?_of_mem h
              obtain ⟨i', h1, h2⟩ := part_box_of hbx I hj
              have := nodup_get I.nodup hb' h2
              subst this
              exact hin (List.mem_of_getElem? h1)
            · obtain ⟨t, _, row, f, cap, h1, h2, h3, h4⟩ := part_free htk I h
              obtain ⟨r, p1, p2⟩ := I.row t row f h1 h2
              rw [h3] at p1
              cases p1
              obtain ⟨_, _, _, _, _, _, _, hnb⟩ := p2.2 h4
              exact hnb (List.mem_of_getElem? hb')
          exact ⟨vs, T, (F.blk b (I.lt_of_box (List.mem_of_getElem? hb')) hno).trans q1, q2.mono hle, q3⟩
      · rw [List.getElem?_append_right (by omega)] at hb'
        rw [List.getElem?_append_right (by rw [putAll_length, ← I.lenB]; omega), putAll_length, ← I.lenB] at hc
        cases kept with
        | false => simp at hb'
        | true =>
          simp only [if_true] at hb' hn
          rw [List.getElem?_drop] at hb'
          obtain ⟨c0, h1, h2⟩ := mapO_back hn hc
          rw [List.getElem?_drop] at h1
          obtain ⟨vs, T, q1, q2, q3⟩ := J.box _ b c0 hb' h1
          exact ⟨vs, T, q1, renL_rep hR q2 h2, renL_ones h2 q3⟩
    · intro b o hb'
      by_cases hin : b ∈ γl.boxes
      · exact J.boxmem b o hin
      · rcases hmemb b hb' with h | ⟨_, j, h1, h2⟩
        · have hno : ¬ Owned (γ.part ids tks) ⟨bx, tk⟩ b := by
            rintro (h' | ⟨j, h'⟩)
            · obtain ⟨k, hk⟩ := List.getElem?_of_mem h'
              exact hin (List.mem_of_getElem? (L.boxes k b hk))
            · obtain ⟨t, _, row, f, cap, h1, h2, h3, h4⟩ := part_free htk I h'
              obtain ⟨r, p1, p2⟩ := I.row t row f h1 h2
              rw [h3] at p1
              cases p1
              obtain ⟨_, _, _, _, _, _, _, hnb⟩ := p2.2 h4
              exact hnb h
          have := F.mem b o (I.lt_of_box h) hno
          show γl.mem b o = none
          rw [this]
          exact I.boxmem b o h
        · exact (hin (List.mem_of_getElem? h2)).elim
    · simp [Gh.whole, putAll_length, I.lenT]
    · intro t row f h1 h2
      rcases hRow t row f h1 h2 with ⟨j, a1, a2, a3⟩ | ⟨a1, a2, a3⟩
      · obtain ⟨r, q1, q2⟩ := J.row j row f a2 a3
        refine ⟨r, q1, q2.keep (fun _ _ _ _ => rfl) (fun _ _ _ _ _ => rfl) (fun b cap hr hlt hnb hb' => ?_)⟩
        rcases hmemb b hb' with h | ⟨_, k, _, h⟩
        · rcases hFl j b ⟨row, f, cap, a2, a3, hr ▸ q1, hlt⟩ with ⟨t', _, row', f', cap', c1, c2, c3, c4⟩ | h'
          · obtain ⟨r', p1, p2⟩ := I.row t' row' f' c1 c2
            rw [c3] at p1
            cases p1
            obtain ⟨_, _, _, _, _, _, _, hnb'⟩ := p2.2 c4
            exact hnb' h
          · have := I.lt_of_box h; omega
        · exact hnb (List.mem_of_getElem? h)
      · obtain ⟨r, q1, q2⟩ := I.row t row f a2 a3
        have hno : ∀ b cap, r = some (b, cap) → f < cap → ¬ Owned (γ.part ids tks) ⟨bx, tk⟩ b := by
          intro b cap hr hlt
          subst hr
          obtain ⟨_, _, _, _, _, _, _, hnb⟩ := q2.2 hlt
          rintro (h | ⟨j, h⟩)
          · exact hnb (part_mem hbx I h)
          · obtain ⟨t', h3, h4⟩ := part_free htk I h
            have := I.free t t' b ⟨row, f, cap, a2, a3, q1, hlt⟩ h4
            subst this
            exact a1 (List.mem_of_getElem? h3)
        have hlt' : ∀ b cap, r = some (b, cap) → f < cap → b < w.heap.size := fun b cap hr hlt => I.lt_of_free ⟨row, f, cap, a2, a3, hr ▸ q1, hlt⟩
        refine ⟨r, q1, q2.keep (fun b cap hr hlt => F.blk b (hlt' b cap hr hlt) (hno b cap hr hlt)) (fun b cap hr hlt o => F.mem b o (hlt' b cap hr hlt) (hno b cap hr hlt)) (fun b cap hr hlt hnb hb' => ?_)⟩
        rcases hmemb b hb' with h | ⟨_, k, h1', h⟩
        · exact hnb h
        · have := hnew k b h1' h
          have := hlt' b cap hr hlt
          omega
    · intro t row f h1 h2
      rcases hRow t row f h1 h2 with ⟨j, a1, a2, a3⟩ | ⟨a1, a2, a3⟩
      · exact J.rowmax j row f a2 a3
      · exact I.rowmax t row f a2 a3
    · intro t t' b h h'
      rcases hFree t b h with ⟨j, h1, h2⟩ | ⟨h1, h2⟩
      · rcases hFree t' b h' with ⟨j', h3, h4⟩ | ⟨h3, h4⟩
        · have := J.free j j' b h2 h4
          subst this
          rw [h1] at h3; cases h3; rfl
        · rcases hFl j b h2 with ⟨t2, h5, h6⟩ | h5
          · have := I.free t2 t' b h6 h4
            subst this
            exact (h3 (List.mem_of_getElem? h5)).elim
          · have := I.lt_of_free h4; omega
      · rcases hFree t' b h' with ⟨j', h3, h4⟩ | ⟨h3, h4⟩
        · rcases hFl j' b h4 with ⟨t2, h5, h6⟩ | h5
          · have := I.free t t2 b h2 h6
            subst this
            exact (h1 (List.mem_of_getElem? h5)).elim
          · have := I.lt_of_free h2; omega
        · exact I.free t t' b h2 h4
end

end Go.Vs
