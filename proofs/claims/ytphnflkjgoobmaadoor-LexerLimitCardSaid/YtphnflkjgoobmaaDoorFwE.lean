/-
  How the state of memory is kept: a new variable, a new row that is never written again, a store, a row that grows.
-/
import Derived.Test.YtphnflkjgoobmaaDoorFwD
namespace Go.Vs

variable {G : Nat → Option (List PD)} {γ : Gh} {H : Hp} {w : World}

theorem heap_alloc (w : World) (o : Obj) (b : Nat) : (w.alloc o).heap[b]? = if b = w.heap.size then some o else w.heap[b]? := by
  show (w.heap.push o)[b]? = _
  rw [Array.getElem?_push]

theorem cell_eq {w w' : World} {b o : Nat} (h : w'.heap[b]? = w.heap[b]?) : w'.cell? ⟨b, o, none⟩ = w.cell? ⟨b, o, none⟩ := by
  unfold World.cell?; rw [h]

theorem Free.congr {γ γ' : Gh} {H H' : Hp} (hr : ∀ (t : Nat) row, γ'.rows[t]? = some row → γ.rows[t]? = some row) (ht : ∀ (t f : Nat), H'.tk[t]? = some f → H.tk[t]? = some f) {t b : Nat} (h : Free γ' H' t b) : Free γ H t b := by
  obtain ⟨row, f, cap, h1, h2, h3, h4⟩ := h
  exact ⟨row, f, cap, hr _ _ h1, ht _ _ h2, h3, h4⟩

theorem RowOk.keep {γ' : Gh} {w' : World} {row : Row} {f : Nat} {r : Option (Nat × Nat)} (h : RowOk γ w row f r)
    (hh : ∀ b cap, r = some (b, cap) → f < cap → w'.heap[b]? = w.heap[b]?) (hm : ∀ b cap, r = some (b, cap) → f < cap → ∀ o, γ'.mem b o = γ.mem b o) (hb : ∀ b cap, r = some (b, cap) → f < cap → b ∉ γ.boxes → b ∉ γ'.boxes) : RowOk γ' w' row f r := by
  match r, h with
  | none, h => exact h
  | some (b, cap), ⟨hle, h⟩ =>
    refine ⟨hle, fun hlt => ?_⟩
    obtain ⟨cur, fr, h1, h0, h2, h3, h4, h5⟩ := h hlt
    exact ⟨cur, fr, (hh b cap rfl hlt).trans h1, h0, h2, h3, fun o ho => (hm b cap rfl hlt o).trans (h4 o ho), hb b cap rfl hlt h5⟩

/-- A new variable. -/
theorem Inv.newBox (I : Inv G γ H w) {vs : Array Value} {cs : List D} (T : Nat) (hr : RepL γ vs cs) (h1 : ∀ c ∈ cs, c.one = true) :
    ∃ γ', γ.le γ' ∧ γ'.boxes[H.bx.length]? = some w.heap.size ∧ Frame γ H w γ' { H with bx := H.bx ++ [cs] } (w.alloc (.cells vs T)) ∧ Inv G γ' { H with bx := H.bx ++ [cs] } (w.alloc (.cells vs T)) := by
  let γ' : Gh := { γ with boxes := γ.boxes ++ [w.heap.size] }
  have hle : γ.le γ' := ⟨fun _ _ _ h => h, fun i b h => by
    have hi : i < γ.boxes.length := (List.getElem?_eq_some_iff.1 h).1
    show (γ.boxes ++ [w.heap.size])[i]? = some b
    rw [List.getElem?_append_left hi]; exact h, fun t r h => ⟨r, h, rfl, rfl, fun _ _ h => h⟩⟩
  have hfree : ∀ t b, Free γ' { H with bx := H.bx ++ [cs] } t b → Free γ H t b := fun t b h => Free.congr (fun _ _ h => h) (fun _ _ h => h) h
  refine ⟨γ', hle, ?_, ?_, ?_⟩
  · show (γ.boxes ++ [w.heap.size])[H.bx.length]? = _
    rw [← I.lenB]; simp
  · refine ⟨rfl, rfl, rfl, by simp, fun b hb _ => ?_, fun b o _ _ => rfl, fun b hb => ?_, fun t b hb => .inl (hfree t b hb)⟩
    · rw [heap_alloc, if_neg (by omega)]
    · have hb : b ∈ γ.boxes ++ [w.heap.size] := hb
      rcases List.mem_append.1 hb with h | h
      · exact .inl h
      · exact .inr (by simp at h; omega)
  · constructor
    · intro b o v h
      have hlt := I.lt_of_mem h
      rw [cell_eq (w := w) (by rw [heap_alloc, if_neg (by omega)])]
      exact I.mem b o v h
    · exact I.globs
    · show (γ.boxes ++ [w.heap.size]).length = (H.bx ++ [cs]).length
      simp [I.lenB]
    · show (γ.boxes ++ [w.heap.size]).Nodup
      rw [List.nodup_append]
      refine ⟨I.nodup, by simp, fun a ha b hb => ?_⟩
      simp at hb
      have := I.lt_of_box ha
      omega
    · intro i b cs' hb hc
      have hb : (γ.boxes ++ [w.heap.size])[i]? = some b := hb
      have hc : (H.bx ++ [cs])[i]? = some cs' := hc
      by_cases hi : i < γ.boxes.length
      · rw [List.getElem?_append_left hi] at hb
        rw [List.getElem?_append_left (by rw [← I.lenB]; exact hi)] at hc
        obtain ⟨vs', T', a1, a2, a3⟩ := I.box i b cs' hb hc
        have := I.lt_of_box (List.mem_of_getElem? hb)
        exact ⟨vs', T', by rw [heap_alloc, if_neg (by omega)]; exact a1, a2.mono hle, a3⟩
      · have hi' : i = γ.boxes.length := by
          have := (List.getElem?_eq_some_iff.1 hb).1
          simp at this; omega
        subst hi'
        rw [List.getElem?_append_right (Nat.le_refl _)] at hb
        rw [I.lenB, List.getElem?_append_right (Nat.le_refl _)] at hc
        simp at hb hc
        subst hb; subst hc
        exact ⟨vs, T, by rw [heap_alloc, if_pos rfl], hr.mono hle, h1⟩
    · intro b o hb
      have hb : b ∈ γ.boxes ++ [w.heap.size] := hb
      rcases List.mem_append.1 hb with h | h
      · exact I.boxmem b o h
      · simp at h
        subst h
        cases hm : γ.mem w.heap.size o with
        | none => rfl
        | some v => have := I.lt_of_mem hm; omega
    · exact I.lenT
    · intro t row f h1 h2
      obtain ⟨r, a1, a2⟩ := I.row t row f h1 h2
      refine ⟨r, a1, a2.keep (fun b cap hr hlt => ?_) (fun b cap hr hlt o => rfl) (fun b cap hr hlt hb hb' => ?_)⟩
      · have := I.lt_of_free ⟨row, f, cap, h1, h2, hr ▸ a1, hlt⟩
        rw [heap_alloc, if_neg (by omega)]
      · have hb' : b ∈ γ.boxes ++ [w.heap.size] := hb'
        have := I.lt_of_free ⟨row, f, cap, h1, h2, hr ▸ a1, hlt⟩
        rcases List.mem_append.1 hb' with h | h
        · exact hb h
        · simp at h; omega
    · exact I.rowmax
    · intro t t' b h h'
      exact I.free t t' b (hfree t b h) (hfree t' b h')

/-- The same, with one more row of cells known for good. -/
def Gh.asPD (γ : Gh) (b : Nat) (vs : Array Value) : Gh := { γ with mem := fun c o => if c = b then vs[o]? else γ.mem c o }

theorem Gh.le_seal (I : Inv G γ H w) {b : Nat} (hb : w.heap.size ≤ b) (vs : Array Value) : γ.le (γ.asPD b vs) :=
  ⟨fun c o v h => by
    have := I.lt_of_mem h
    show (if c = b then vs[o]? else γ.mem c o) = some v
    rw [if_neg (by omega)]; exact h, fun _ _ h => h, fun t r h => ⟨r, h, rfl, rfl, fun _ _ h => h⟩⟩

theorem Inv.newRow (I : Inv G γ H w) (vs : Array Value) (T : Nat) (fr : Nat × Nat) :
    γ.le (γ.asPD w.heap.size vs) ∧ Frame γ H w (γ.asPD w.heap.size vs) H (w.alloc (.cells vs T fr)) ∧ Inv G (γ.asPD w.heap.size vs) H (w.alloc (.cells vs T fr)) := by
  have hle := Gh.le_seal I (Nat.le_refl _) vs
  have hne : ∀ b o v, γ.mem b o = some v → b ≠ w.heap.size := fun b o v h => by have := I.lt_of_mem h; omega
  have hmem : ∀ b o, b ≠ w.heap.size → (γ.asPD w.heap.size vs).mem b o = γ.mem b o := fun b o h => by simp [Gh.asPD, h]
  refine ⟨hle, ⟨rfl, rfl, rfl, by simp, fun b hb _ => ?_, fun b o hb _ => hmem b o (by omega), fun b hb => .inl hb, fun _ _ hb => .inl hb⟩, ?_⟩
  · rw [heap_alloc, if_neg (by omega)]
  · constructor
    · intro b o v h
      by_cases hb : b = w.heap.size
      · subst hb
        have h : vs[o]? = some v := by simpa [Gh.asPD] using h
        have hh : (w.alloc (.cells vs T fr)).heap[w.heap.size]? = some (.cells vs T fr) := by rw [heap_alloc, if_pos rfl]
        unfold World.cell?
        simp only [hh]
        exact h
      · rw [hmem b o hb] at h
        rw [cell_eq (w := w) (by rw [heap_alloc, if_neg hb])]
        exact I.mem b o v h
    · intro g cs hg j c hc
      obtain ⟨h1, v, h2, h3⟩ := I.globs g cs hg j c hc
      exact ⟨h1, v, hle.mem _ _ _ h2, h3.mono hle.mem⟩
    · exact I.lenB
    · exact I.nodup
    · intro i b cs hb hc
      obtain ⟨vs', T', a1, a2, a3⟩ := I.box i b cs hb hc
      have := I.lt_of_box (List.mem_of_getElem? hb)
      exact ⟨vs', T', by rw [heap_alloc, if_neg (by omega)]; exact a1, a2.mono hle, a3⟩
    · intro b o hb
      have := I.lt_of_box hb
      rw [hmem b o (by omega)]
      exact I.boxmem b o hb
    · exact I.lenT
    · intro t row f h1 h2
      obtain ⟨r, a1, a2⟩ := I.row t row f h1 h2
      refine ⟨r, a1, a2.keep (fun b cap hr hlt => ?_) (fun b cap hr hlt o => ?_) (fun b cap hr hlt hb => hb)⟩
      · have := I.lt_of_free ⟨row, f, cap, h1, h2, hr ▸ a1, hlt⟩
        rw [heap_alloc, if_neg (by omega)]
      · have := I.lt_of_free ⟨row, f, cap, h1, h2, hr ▸ a1, hlt⟩
        exact hmem b o (by omega)
    · exact I.rowmax
    · exact I.free

/-- A draw from the tape turns nothing. -/
theorem Inv.drew (I : Inv G γ H w) : Inv G γ H w.drew := ⟨I.mem, I.globs, I.lenB, I.nodup, I.box, I.boxmem, I.lenT, I.row, I.rowmax, I.free⟩
theorem Frame.drew (γ : Gh) (H : Hp) (w : World) : Frame γ H w γ H w.drew := ⟨rfl, rfl, rfl, Nat.le_refl _, fun _ _ _ => rfl, fun _ _ _ _ => rfl, fun _ h => .inl h, fun _ _ h => .inl h⟩

theorem getElem?_splice (l : List D) (off : Nat) (cs : List D) (h : off + cs.length ≤ l.length) (j : Nat) :
    (splice l off cs)[j]? = if j < off then l[j]? else if j < off + cs.length then cs[j - off]? else l[j]? := by
  unfold splice
  by_cases h1 : j < off
  · rw [if_pos h1, List.append_assoc, List.getElem?_append_left (by simp; omega), List.getElem?_take, if_pos h1]
  · rw [if_neg h1, List.append_assoc, List.getElem?_append_right (by simp; omega)]
    have hl : (l.take off).length = off := by simp; omega
    rw [hl]
    by_cases h2 : j < off + cs.length
    · rw [if_pos h2, List.getElem?_append_left (by omega)]
    · rw [if_neg h2, List.getElem?_append_right (by omega), List.getElem?_drop]
      congr 1; omega

theorem mem_splice {l : List D} {off : Nat} {cs : List D} {c : D} (h : c ∈ splice l off cs) : c ∈ l ∨ c ∈ cs := by
  unfold splice at h
  rcases List.mem_append.1 h with h | h
  · rcases List.mem_append.1 h with h | h
    · exact .inl (List.mem_of_mem_take h)
    · exact .inr h
  · exact .inl (List.mem_of_mem_drop h)

theorem length_splice (l : List D) (off : Nat) (cs : List D) (h : off + cs.length ≤ l.length) : (splice l off cs).length = l.length := by
  unfold splice; simp; omega

/-- Lists of values, spliced as the data are. -/
theorem RepL.splice {γ : Gh} {vs : Array Value} {cs : List D} (r : RepL γ vs cs) {us : List Value} {ds : List D} (q : RepL γ us.toArray ds) (off : Nat) (h : off + ds.length ≤ cs.length) :
    RepL γ (vs.toList.take off ++ us ++ vs.toList.drop (off + us.length)).toArray (Vs.splice cs off ds) := by
  have hul : us.length = ds.length := by simpa using q.1
  have hvl : vs.toList.length = cs.length := by simpa using r.1
  have hvs : vs.size = cs.length := r.1
  refine ⟨by rw [length_splice _ _ _ h]; simp; omega, fun i d hd => ?_⟩
  rw [getElem?_splice _ _ _ h] at hd
  have hg : ((vs.toList.take off ++ us ++ vs.toList.drop (off + us.length)).toArray.getD i undef) = ((vs.toList.take off ++ us ++ vs.toList.drop (off + us.length))[i]?).getD undef := by
    simp [Array.getD_eq_getD_getElem?]
  rw [hg]
  by_cases h1 : i < off
  · rw [if_pos h1] at hd
    rw [List.append_assoc, List.getElem?_append_left (by simp; omega), List.getElem?_take, if_pos h1]
    have := r.2 i d hd
    simpa [Array.getD_eq_getD_getElem?] using this
  · rw [if_neg h1] at hd
    rw [List.append_assoc, List.getElem?_append_right (by simp; omega)]
    have hl : (vs.toList.take off).length = off := by simp; omega
    rw [hl]
    by_cases h2 : i < off + ds.length
    · rw [if_pos h2] at hd
      rw [List.getElem?_append_left (by omega)]
      have := q.2 (i - off) d hd
      simpa [Array.getD_eq_getD_getElem?] using this
    · rw [if_neg h2] at hd
      rw [List.getElem?_append_right (by omega), List.getElem?_drop]
      have e : off + us.length + (i - off - us.length) = i := by omega
      rw [e]
      have := r.2 i d hd
      simpa [Array.getD_eq_getD_getElem?] using this

/-- A store into a variable. -/
theorem Inv.store (I : Inv G γ H w) {i b off : Nat} {cs : List D} (hb : γ.boxes[i]? = some b) (hc : H.bx[i]? = some cs) {us : List Value} {ds : List D} (q : RepL γ us.toArray ds)
    (h1 : ∀ d ∈ ds, d.one = true) (hfit : off + ds.length ≤ cs.length) {vs : Array Value} {T : Nat} (hw : w.heap[b]? = some (.cells vs T (0, 0))) (hv : RepL γ vs cs) :
    Frame γ H w γ { H with bx := H.bx.set i (Vs.splice cs off ds) } (w.setRow b (vs.toList.take off ++ us ++ vs.toList.drop (off + us.length)).toArray) ∧
      Inv G γ { H with bx := H.bx.set i (Vs.splice cs off ds) } (w.setRow b (vs.toList.take off ++ us ++ vs.toList.drop (off + us.length)).toArray) := by
  have hmem : b ∈ γ.boxes := List.mem_of_getElem? hb
  have hi : i < H.bx.length := (List.getElem?_eq_some_iff.1 hc).1
  have hfree : ∀ t c, Free γ { H with bx := H.bx.set i (Vs.splice cs off ds) } t c → Free γ H t c := fun t c h => Free.congr (fun _ _ h => h) (fun _ _ h => h) h
  refine ⟨⟨rfl, rfl, rfl, by simp [World.setRow], fun c _ ho => setRow_other w b c _ (fun e => ho (.inl (e ▸ hmem))), fun _ _ _ _ => rfl, fun c hc' => .inl hc', fun t c h => .inl (hfree t c h)⟩, ?_⟩
  · constructor
    · intro c o v h
      have hne : c ≠ b := fun e => by subst e; rw [I.boxmem c o hmem] at h; cases h
      rw [cell_eq (w := w) (setRow_other w b c _ hne)]
      exact I.mem c o v h
    · exact I.globs
    · simp [I.lenB]
    · exact I.nodup
    · intro j c cs' hj hcs
      by_cases hij : i = j
      · subst hij
        rw [hb] at hj
        cases hj
        have hcs : (H.bx.set i (Vs.splice cs off ds))[i]? = some cs' := hcs
        rw [List.getElem?_set_self hi] at hcs
        cases hcs
        refine ⟨_, T, setRow_heap w b vs _ T (0, 0) hw, hv.splice q off hfit, fun c hc' => ?_⟩
        rcases mem_splice hc' with h | h
        · obtain ⟨_, _, _, _, a3⟩ := I.box i b cs hb hc
          exact a3 c h
        · exact h1 c h
      · have hcs : (H.bx.set i (Vs.splice cs off ds))[j]? = some cs' := hcs
        rw [List.getElem?_set_ne hij] at hcs
        obtain ⟨vs', T', a1, a2, a3⟩ := I.box j c cs' hj hcs
        have hne : c ≠ b := fun e => by
          subst e
          have h1 := (List.getElem?_eq_some_iff.1 hb).1
          exact hij ((List.getElem?_inj h1 I.nodup).1 (hb.trans hj.symm))
        exact ⟨vs', T', (setRow_other w b c _ hne).trans a1, a2, a3⟩
    · exact I.boxmem
    · exact I.lenT
    · intro t row f h1 h2
      obtain ⟨r, a1, a2⟩ := I.row t row f h1 h2
      refine ⟨r, a1, ?_⟩
      refine a2.keep (fun c cap hr hlt => ?_) (fun _ _ _ _ _ => rfl) (fun c cap hr hlt h => h)
      have hne : c ≠ b := fun e => by
        subst e
        subst hr
        obtain ⟨cur, _, _, _, _, _, _, hnb⟩ := a2.2 hlt
        exact hnb hmem
      exact setRow_other w b c _ hne
    · exact I.rowmax
    · intro t t' c h h'
      exact I.free t t' c (hfree t c h) (hfree t' c h')

/-- A new token: a row that may grow. -/
theorem Inv.addTok (I : Inv G γ H w) (row : Row) (f : Nat) (r : Option (Nat × Nat)) (h1 : row.st f = some r) (hmx : ∀ n x, row.st n = some x → n ≤ f)
    (hok : RowOk γ w row f r) (hno : ∀ b cap, r = some (b, cap) → f = cap) :
    γ.le { γ with rows := γ.rows ++ [row] } ∧ Frame γ H w { γ with rows := γ.rows ++ [row] } { H with tk := H.tk ++ [f] } w ∧ Inv G { γ with rows := γ.rows ++ [row] } { H with tk := H.tk ++ [f] } w := by
  have hle : γ.le { γ with rows := γ.rows ++ [row] } := ⟨fun _ _ _ h => h, fun _ _ h => h, fun t r h => ⟨r, by
    have hi := (List.getElem?_eq_some_iff.1 h).1
    show (γ.rows ++ [row])[t]? = some r
    rw [List.getElem?_append_left hi]; exact h, rfl, rfl, fun _ _ h => h⟩⟩
  have split : ∀ (t : Nat) row' f', (γ.rows ++ [row])[t]? = some row' → (H.tk ++ [f])[t]? = some f' → (γ.rows[t]? = some row' ∧ H.tk[t]? = some f') ∨ (row' = row ∧ f' = f) := by
    intro t row' f' a b
    by_cases ht : t < γ.rows.length
    · rw [List.getElem?_append_left ht] at a
      rw [List.getElem?_append_left (by rw [← I.lenT]; exact ht)] at b
      exact .inl ⟨a, b⟩
    · have : t = γ.rows.length := by
        have := (List.getElem?_eq_some_iff.1 a).1
        simp at this; omega
      subst this
      rw [List.getElem?_append_right (Nat.le_refl _)] at a
      rw [I.lenT, List.getElem?_append_right (Nat.le_refl _)] at b
      simp at a b
      exact .inr ⟨a.symm, b.symm⟩
  have hfree : ∀ t b, Free { γ with rows := γ.rows ++ [row] } { H with tk := H.tk ++ [f] } t b → Free γ H t b := by
    rintro t b ⟨row', f', cap, a1, a2, a3, a4⟩
    rcases split t row' f' a1 a2 with ⟨b1, b2⟩ | ⟨rfl, rfl⟩
    · exact ⟨row', f', cap, b1, b2, a3, a4⟩
    · rw [h1] at a3
      cases a3
      have := hno b cap rfl
      omega
  refine ⟨hle, ⟨rfl, rfl, rfl, Nat.le_refl _, fun _ _ _ => rfl, fun _ _ _ _ => rfl, fun b hb => .inl hb, fun t b h => .inl (hfree t b h)⟩, ?_⟩
  · constructor
    · exact I.mem
    · exact I.globs
    · exact I.lenB
    · exact I.nodup
    · intro i b cs hb hc
      obtain ⟨vs', T', a1, a2, a3⟩ := I.box i b cs hb hc
      exact ⟨vs', T', a1, a2.mono hle, a3⟩
    · exact I.boxmem
    · simp [I.lenT]
    · intro t row' f' a b
      rcases split t row' f' a b with ⟨b1, b2⟩ | ⟨rfl, rfl⟩
      · obtain ⟨r', c1, c2⟩ := I.row t row' f' b1 b2
        exact ⟨r', c1, c2.keep (fun _ _ _ _ => rfl) (fun _ _ _ _ _ => rfl) (fun _ _ _ _ h => h)⟩
      · exact ⟨r, h1, hok.keep (fun _ _ _ _ => rfl) (fun _ _ _ _ _ => rfl) (fun _ _ _ _ h => h)⟩
    · intro t row' f' a b
      rcases split t row' f' a b with ⟨b1, b2⟩ | ⟨rfl, rfl⟩
      · exact I.rowmax t row' f' b1 b2
      · exact hmx
    · intro t t' b h h'
      exact I.free t t' b (hfree t b h) (hfree t' b h')

def Gh.newTok (γ : Gh) (b e sz f cap : Nat) (cur : Array Value) : Gh :=
  { γ with mem := fun c o => if c = b then (if o < f * sz then cur[o]? else none) else γ.mem c o, rows := γ.rows ++ [⟨e, sz, fun n => if n = f then some (some (b, cap)) else none⟩] }

/-- A new block whose head is known for good, and which may grow behind it. -/
theorem Inv.newTokBlock (I : Inv G γ H w) (e sz f cap : Nat) (cur : Array Value) (fr : Nat × Nat) (hcap : f ≤ cap) (hmax : cap ≤ maxLen) (hsz : cur.size = cap * sz) (hun : unfrozen fr cur.size) :
    γ.le (γ.newTok w.heap.size e sz f cap cur) ∧ Frame γ H w (γ.newTok w.heap.size e sz f cap cur) { H with tk := H.tk ++ [f] } (w.alloc (.cells cur e fr)) ∧
      Inv G (γ.newTok w.heap.size e sz f cap cur) { H with tk := H.tk ++ [f] } (w.alloc (.cells cur e fr)) := by
  have hmo : ∀ b o, b ≠ w.heap.size → (γ.newTok w.heap.size e sz f cap cur).mem b o = γ.mem b o := fun b o h => by simp [Gh.newTok, h]
  have hle : γ.le (γ.newTok w.heap.size e sz f cap cur) := ⟨fun b o v h => by
    have := I.lt_of_mem h
    rw [hmo b o (by omega)]; exact h, fun _ _ h => h, fun t r h => ⟨r, by
    have hi := (List.getElem?_eq_some_iff.1 h).1
    simp only [Gh.newTok]
    rw [List.getElem?_append_left hi]; exact h, rfl, rfl, fun _ _ h => h⟩⟩
  have split : ∀ (t : Nat) row' f', (γ.newTok w.heap.size e sz f cap cur).rows[t]? = some row' → (H.tk ++ [f])[t]? = some f' →
      (γ.rows[t]? = some row' ∧ H.tk[t]? = some f') ∨ (t = γ.rows.length ∧ row' = ⟨e, sz, fun n => if n = f then some (some (w.heap.size, cap)) else none⟩ ∧ f' = f) := by
    intro t row' f' a b
    simp only [Gh.newTok] at a
    by_cases ht : t < γ.rows.length
    · rw [List.getElem?_append_left ht] at a
      rw [List.getElem?_append_left (by rw [← I.lenT]; exact ht)] at b
      exact .inl ⟨a, b⟩
    · have : t = γ.rows.length := by
        have := (List.getElem?_eq_some_iff.1 a).1
        simp at this; omega
      subst this
      rw [List.getElem?_append_right (Nat.le_refl _)] at a
      rw [I.lenT, List.getElem?_append_right (Nat.le_refl _)] at b
      simp at a b
      exact .inr ⟨rfl, a.symm, b.symm⟩
  have hfr : ∀ t b, Free (γ.newTok w.heap.size e sz f cap cur) { H with tk := H.tk ++ [f] } t b → (t = γ.rows.length ∧ b = w.heap.size) ∨ Free γ H t b := by
    rintro t b ⟨row', f', cap', a1, a2, a3, a4⟩
    rcases split t row' f' a1 a2 with ⟨b1, b2⟩ | ⟨rfl, rfl, rfl⟩
    · exact .inr ⟨row', f', cap', b1, b2, a3, a4⟩
    · simp only [if_true] at a3
      cases a3
      exact .inl ⟨rfl, rfl⟩
  refine ⟨hle, ⟨rfl, rfl, rfl, by simp, fun b hb _ => ?_, fun b o hb _ => hmo b o (by omega), fun b hb => .inl hb, fun t b h => ?_⟩, ?_⟩
  · rw [heap_alloc, if_neg (by omega)]
  · rcases hfr t b h with ⟨_, rfl⟩ | h
    · exact .inr (Nat.le_refl _)
    · exact .inl h
  · constructor
    · intro b o v h
      by_cases hb : b = w.heap.size
      · subst hb
        have h : (if o < f * sz then cur[o]? else none) = some v := by simpa [Gh.newTok] using h
        split at h
        · have hh : (w.alloc (.cells cur e fr)).heap[w.heap.size]? = some (.cells cur e fr) := by rw [heap_alloc, if_pos rfl]
          unfold World.cell?
          simp only [hh]
          exact h
        · cases h
      · rw [hmo b o hb] at h
        rw [cell_eq (w := w) (by rw [heap_alloc, if_neg hb])]
        exact I.mem b o v h
    · intro g cs hg j c hc
      obtain ⟨h1, v, h2, h3⟩ := I.globs g cs hg j c hc
      exact ⟨h1, v, hle.mem _ _ _ h2, h3.mono hle.mem⟩
    · exact I.lenB
    · exact I.nodup
    · intro i b cs hb hc
      obtain ⟨vs', T', a1, a2, a3⟩ := I.box i b cs hb hc
      have := I.lt_of_box (List.mem_of_getElem? hb)
      exact ⟨vs', T', by rw [heap_alloc, if_neg (by omega)]; exact a1, a2.mono hle, a3⟩
    · intro b o hb
      have := I.lt_of_box hb
      rw [hmo b o (by omega)]
      exact I.boxmem b o hb
    · simp [Gh.newTok, I.lenT]
    · intro t row' f' a b
      rcases split t row' f' a b with ⟨b1, b2⟩ | ⟨rfl, rfl, rfl⟩
      · obtain ⟨r', c1, c2⟩ := I.row t row' f' b1 b2
        refine ⟨r', c1, c2.keep (fun b cap hr hlt => ?_) (fun b cap hr hlt o => ?_) (fun _ _ _ _ h => h)⟩
        · have := I.lt_of_free ⟨row', f', cap, b1, b2, hr ▸ c1, hlt⟩
          rw [heap_alloc, if_neg (by omega)]
        · have := I.lt_of_free ⟨row', f', cap, b1, b2, hr ▸ c1, hlt⟩
          exact hmo b o (by omega)
      · refine ⟨some (w.heap.size, cap), by simp, hcap, fun _ => ⟨cur, fr, by rw [heap_alloc, if_pos rfl], hun, hsz, hmax, fun o ho => ?_, fun hb => ?_⟩⟩
        · simp only [Gh.newTok, if_true]
          rw [if_neg (Nat.not_lt.2 ho)]
        · have := I.lt_of_box hb; omega
    · intro t row' f' a b
      rcases split t row' f' a b with ⟨b1, b2⟩ | ⟨rfl, rfl, rfl⟩
      · exact I.rowmax t row' f' b1 b2
      · intro n x hx
        dsimp only at hx
        split at hx
        · omega
        · cases hx
    · intro t t' b h h'
      rcases hfr t b h with ⟨e1, e2⟩ | q
      · rcases hfr t' b h' with ⟨e3, _⟩ | q'
        · rw [e1, e3]
        · have := I.lt_of_free q'; omega
      · rcases hfr t' b h' with ⟨_, e2⟩ | q'
        · have := I.lt_of_free q; omega
        · exact I.free t t' b q q'

def Row.grow (row : Row) (f' b cap : Nat) : Row := { row with st := fun n => if n = f' then some (some (b, cap)) else row.st n }

def Gh.grow (γ : Gh) (t : Nat) (row : Row) (f' b cap : Nat) (cur : Array Value) : Gh :=
  { γ with mem := fun c o => if c = b then (if o < f' * row.sz then cur[o]? else none) else γ.mem c o, rows := γ.rows.set t (row.grow f' b cap) }

/-- A row that grows, in place or in a new block. -/
theorem Inv.rowStep (I : Inv G γ H w) {t f : Nat} {row : Row} (h1 : γ.rows[t]? = some row) (h2 : H.tk[t]? = some f) {b cap f' : Nat} {cur : Array Value} {fr : Nat × Nat} (hf : f < f') (hcap : f' ≤ cap) (hmax : cap ≤ maxLen)
    (hsz : cur.size = cap * row.sz) {w1 : World} (hw1 : w1.heap[b]? = some (.cells cur row.e fr)) (hun : unfrozen fr cur.size) (hoth : ∀ c, c ≠ b → w1.heap[c]? = w.heap[c]?) (hnb : b ∉ γ.boxes)
    (hold : ∀ o v, γ.mem b o = some v → o < f' * row.sz ∧ cur[o]? = some v) (hfree : ∀ t', t' ≠ t → ¬ Free γ H t' b) (hown : b = w.heap.size ∨ Free γ H t b)
    (hos : w1.os = w.os) (htape : w1.tape = w.tape) (hout : w1.output = w.output) (hsize : w.heap.size ≤ w1.heap.size) :
    γ.le (γ.grow t row f' b cap cur) ∧ Frame γ H w (γ.grow t row f' b cap cur) { H with tk := H.tk.set t f' } w1 ∧ Inv G (γ.grow t row f' b cap cur) { H with tk := H.tk.set t f' } w1 := by
  have htl : t < γ.rows.length := (List.getElem?_eq_some_iff.1 h1).1
  have hmx := I.rowmax t row f h1 h2
  have hmo : ∀ c o, c ≠ b → (γ.grow t row f' b cap cur).mem c o = γ.mem c o := fun c o h => by simp [Gh.grow, h]
  have hle : γ.le (γ.grow t row f' b cap cur) := by
    refine ⟨fun c o v h => ?_, fun _ _ h => h, fun s r hr => ?_⟩
    · by_cases hc : c = b
      · subst hc
        obtain ⟨a1, a2⟩ := hold o v h
        simp [Gh.grow, a1, a2]
      · rw [hmo c o hc]; exact h
    · by_cases hs : t = s
      · subst hs
        rw [h1] at hr
        cases hr
        refine ⟨row.grow f' b cap, by simp [Gh.grow, htl], rfl, rfl, fun n x hx => ?_⟩
        have := hmx n x hx
        simp only [Row.grow]
        rw [if_neg (by omega)]; exact hx
      · exact ⟨r, by simp only [Gh.grow]; rw [List.getElem?_set_ne hs]; exact hr, rfl, rfl, fun _ _ h => h⟩
  have split : ∀ (s : Nat) row' g, (γ.grow t row f' b cap cur).rows[s]? = some row' → (H.tk.set t f')[s]? = some g → (s = t ∧ row' = row.grow f' b cap ∧ g = f') ∨ (s ≠ t ∧ γ.rows[s]? = some row' ∧ H.tk[s]? = some g) := by
    intro s row' g a c
    simp only [Gh.grow] at a
    by_cases hs : t = s
    · subst hs
      rw [List.getElem?_set_self htl] at a
      rw [List.getElem?_set_self (by rw [← I.lenT]; exact htl)] at c
      cases a; cases c
      exact .inl ⟨rfl, rfl, rfl⟩
    · rw [List.getElem?_set_ne hs] at a c
      exact .inr ⟨Ne.symm hs, a, c⟩
  have hfr : ∀ s c, Free (γ.grow t row f' b cap cur) { H with tk := H.tk.set t f' } s c → (s = t ∧ c = b) ∨ (s ≠ t ∧ Free γ H s c) := by
    rintro s c ⟨row', g, cap', a1, a2, a3, a4⟩
    rcases split s row' g a1 a2 with ⟨rfl, rfl, rfl⟩ | ⟨b0, b1, b2⟩
    · simp only [Row.grow, if_pos] at a3
      cases a3
      exact .inl ⟨rfl, rfl⟩
    · exact .inr ⟨b0, row', g, cap', b1, b2, a3, a4⟩
  refine ⟨hle, ⟨hos, htape, hout, hsize, fun c hc ho => ?_, fun c o hc ho => ?_, fun c hc => .inl hc, fun s c h => ?_⟩, ?_⟩
  · refine hoth c fun e => ?_
    subst e
    rcases hown with h | h
    · omega
    · exact ho (.inr ⟨t, h⟩)
  · refine hmo c o fun e => ?_
    subst e
    rcases hown with h | h
    · omega
    · exact ho (.inr ⟨t, h⟩)
  · rcases hfr s c h with ⟨rfl, rfl⟩ | ⟨_, h⟩
    · rcases hown with h | h
      · exact .inr (by omega)
      · exact .inl h
    · exact .inl h
  · constructor
    · intro c o v h
      by_cases hc : c = b
      · subst hc
        have h : (if o < f' * row.sz then cur[o]? else none) = some v := by simpa [Gh.grow] using h
        split at h
        · unfold World.cell?
          simp only [hw1]
          exact h
        · cases h
      · rw [hmo c o hc] at h
        rw [cell_eq (w := w) (hoth c hc)]
        exact I.mem c o v h
    · intro g cs hg j c hc
      obtain ⟨a1, v, a2, a3⟩ := I.globs g cs hg j c hc
      exact ⟨a1, v, hle.mem _ _ _ a2, a3.mono hle.mem⟩
    · exact I.lenB
    · exact I.nodup
    · intro i c cs hb hc
      obtain ⟨vs', T', a1, a2, a3⟩ := I.box i c cs hb hc
      have hne : c ≠ b := fun e => hnb (e ▸ List.mem_of_getElem? hb)
      exact ⟨vs', T', (hoth c hne).trans a1, a2.mono hle, a3⟩
    · intro c o hc
      have hne : c ≠ b := fun e => hnb (e ▸ hc)
      rw [hmo c o hne]
      exact I.boxmem c o hc
    · simp [Gh.grow, I.lenT]
    · intro s row' g a c
      rcases split s row' g a c with ⟨rfl, rfl, rfl⟩ | ⟨b0, b1, b2⟩
      · refine ⟨some (b, cap), by simp [Row.grow], hcap, fun _ => ⟨cur, fr, hw1, hun, hsz, hmax, fun o ho => ?_, hnb⟩⟩
        have ho : g * row.sz ≤ o := ho
        simp only [Gh.grow, if_true]
        rw [if_neg (by omega)]
      · obtain ⟨r, c1, c2⟩ := I.row s row' g b1 b2
        refine ⟨r, c1, c2.keep (fun d cap' hr hlt => ?_) (fun d cap' hr hlt o => ?_) (fun _ _ _ _ h => h)⟩
        · refine hoth d fun e => ?_
          subst e
          exact hfree s b0 ⟨row', g, cap', b1, b2, hr ▸ c1, hlt⟩
        · refine hmo d o fun e => ?_
          subst e
          exact hfree s b0 ⟨row', g, cap', b1, b2, hr ▸ c1, hlt⟩
    · intro s row' g a c n x hx
      rcases split s row' g a c with ⟨rfl, rfl, rfl⟩ | ⟨b0, b1, b2⟩
      · simp only [Row.grow] at hx
        split at hx
        · omega
        · have := hmx n x hx; omega
      · exact I.rowmax s row' g b1 b2 n x hx
    · intro s s' c h h'
      rcases hfr s c h with ⟨e1, e2⟩ | ⟨hn, q⟩
      · rcases hfr s' c h' with ⟨e3, _⟩ | ⟨hn', q'⟩
        · rw [e1, e3]
        · exact (hfree s' hn' (e2 ▸ q')).elim
      · rcases hfr s' c h' with ⟨_, e2⟩ | ⟨hn', q'⟩
        · exact (hfree s hn (e2 ▸ q)).elim
        · exact I.free s s' c q q'

end Go.Vs
