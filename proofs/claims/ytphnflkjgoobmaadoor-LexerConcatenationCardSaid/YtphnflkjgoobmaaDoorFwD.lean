/-
  What a value of the model reads as: the relation between values and data, and the state of memory.
-/
import Derived.Test.YtphnflkjgoobmaaDoorFwC
import Derived.Laws.AppendOwn
namespace Go.Vs

abbrev Mem := Nat → Nat → Option Value

inductive RepP (m : Mem) : Value → PD → Prop where
  | bool (b : Bool) : RepP m (.bool b) (.bool b)
  | int (k : IntKind) (n : Int) : RepP m (.int k n) (.int k n)
  | str (s : List UInt8) : RepP m (.string ⟨s.toArray⟩) (.str s)
  | nilp : RepP m (.pointer none) .nilp
  | nils : RepP m (.slice none 0 0) .nils
  | nilf : RepP m .nilFunc .nilf
  | nili : RepP m .nilIface .nili
  | nilm : RepP m (.map none) .nilm
  | sl0 (a : Option Addr) (cap sz : Nat) : RepP m (.slice a 0 cap) (.slice sz [])
  | sl (b o cap sz : Nat) (es : List PD) (vs : Nat → Nat → Value) (hc : es.length ≤ cap) (hsz : ∀ e ∈ es, e.cells.length = sz)
      (hone : ∀ e ∈ es, ∀ c ∈ e.cells, c.one = true) (hm : ∀ i j, i < es.length → j < sz → m b (o + i * sz + j) = some (vs i j))
      (hr : ∀ i e j c, es[i]? = some e → e.cells[j]? = some c → RepP m (vs i j) c) : RepP m (.slice (some ⟨b, o, none⟩) es.length cap) (.slice sz es)
  | agg (cs : Array Value) (ds : List PD) (hl : cs.size = ds.length) (hone : ∀ d ∈ ds, d.one = true) (hr : ∀ i d, ds[i]? = some d → RepP m (cs.getD i undef) d) : RepP m (.agg cs) (.agg ds)
  | iface (t : Nat) (v : Value) (x : PD) (h : RepP m v x) : RepP m (.iface t v) (.iface t x)

def Mem.le (m m' : Mem) : Prop := ∀ b o v, m b o = some v → m' b o = some v

theorem RepP.mono {m m' : Mem} (h : Mem.le m m') {v : Value} {d : PD} (r : RepP m v d) : RepP m' v d := by
  induction r with
  | bool b => exact .bool b
  | int k n => exact .int k n
  | str s => exact .str s
  | nilp => exact .nilp
  | nils => exact .nils
  | nilf => exact .nilf
  | nili => exact .nili
  | nilm => exact .nilm
  | sl0 a cap sz => exact .sl0 a cap sz
  | sl b o cap sz es vs hc hsz hone hm hr ih => exact .sl b o cap sz es vs hc hsz hone (fun i j hi hj => h _ _ _ (hm i j hi hj)) ih
  | agg cs ds hl hone hr ih => exact .agg cs ds hl hone ih
  | iface t v x _ ih => exact .iface t v x ih

theorem RepP.one {m : Mem} {v : Value} {d : PD} (r : RepP m v d) (h : d.one = true) : v.oneCell' = true := by
  cases r <;> first | rfl | cases h

theorem RepP.cells {m : Mem} {v : Value} {d : PD} (r : RepP m v d) : v.cells.size = d.cells.length ∧ ∀ i c, d.cells[i]? = some c → RepP m (v.cells.getD i undef) c ∧ c.one = true := by
  cases r with
  | agg cs ds hl hone hr => exact ⟨hl, fun i c hc => ⟨hr i c hc, hone c (List.mem_of_getElem? hc)⟩⟩
  | _ =>
    refine ⟨rfl, fun i c hc => ?_⟩
    match i with
    | 0 =>
      simp only [PD.cells, List.getElem?_cons_zero, Option.some.injEq] at hc
      subst hc
      refine ⟨?_, rfl⟩
      first
        | exact .bool _ | exact .int _ _ | exact .str _ | exact .nilp | exact .nils | exact .nilf | exact .nili | exact .nilm | exact .sl0 _ _ _
        | exact .sl _ _ _ _ _ _ ‹_› ‹_› ‹_› ‹_› ‹_›
        | exact .iface _ _ _ ‹_›
    | i + 1 => simp [PD.cells] at hc

structure Row where
  e : Nat
  sz : Nat
  st : Nat → Option (Option (Nat × Nat))

structure Gh where
  mem : Mem
  boxes : List Nat
  rows : List Row

def rowVal (r : Option (Nat × Nat)) (n : Nat) : Value :=
  match r with
  | none => .slice none 0 0
  | some (b, cap) => .slice (some ⟨b, 0, none⟩) n cap

inductive RepD (γ : Gh) : Value → D → Prop where
  | dead (v : Value) : RepD γ v .dead
  | undef : RepD γ undef .undef
  | p (v : Value) (x : PD) (h : RepP γ.mem v x) : RepD γ v (.p x)
  | fsl (b n sz : Nat) (es : List PD) (hn : n = es.length) (h : RepP γ.mem (.slice (some ⟨b, 0, none⟩) n n) (.slice sz es)) : RepD γ (.slice (some ⟨b, 0, none⟩) n n) (.fsl sz es)
  | tsl (v : Value) (t e sz : Nat) (es : List PD) (row : Row) (r : Option (Nat × Nat)) (h1 : γ.rows[t]? = some row) (h2 : row.e = e) (h3 : row.sz = sz)
      (h4 : RepP γ.mem v (.slice sz es)) (h5 : row.st es.length = some r) (h6 : v = rowVal r es.length) : RepD γ v (.tsl t e sz es)
  | box (i off b : Nat) (h : γ.boxes[i]? = some b) : RepD γ (.pointer (some ⟨b, off, none⟩)) (.box i off)
  | glob (g off : Nat) : RepD γ (.pointer (some ⟨g, off, none⟩)) (.glob g off)
  | ro (b o off : Nat) (cs : List PD) (vs : Nat → Value) (hm : ∀ j, j < cs.length → γ.mem b (o + j) = some (vs j)) (hr : ∀ j c, cs[j]? = some c → RepP γ.mem (vs j) c ∧ c.one = true) :
      RepD γ (.pointer (some ⟨b, o + off, none⟩)) (.ro cs off)
  | agg (cs : Array Value) (ds : List D) (hl : cs.size = ds.length) (hone : ∀ d ∈ ds, d.one = true) (hr : ∀ i d, ds[i]? = some d → RepD γ (cs.getD i Go.undef) d) : RepD γ (.agg cs) (.agg ds)
  | tup (cs : Array Value) (ds : List D) (hl : cs.size = ds.length) (hr : ∀ i d, ds[i]? = some d → RepD γ (cs.getD i Go.undef) d) : RepD γ (.tuple cs) (.tup ds)
  | fn (f : Nat) (as cs : Array Value) (ds es : List D) (hl : as.size = ds.length) (hr : ∀ i d, ds[i]? = some d → RepD γ (as.getD i Go.undef) d)
      (kl : cs.size = es.length) (kr : ∀ i d, es[i]? = some d → RepD γ (cs.getD i Go.undef) d) : RepD γ (.func (.func f) as cs) (.fn f ds es)

structure Gh.le (γ γ' : Gh) : Prop where
  mem : Mem.le γ.mem γ'.mem
  boxes : ∀ (i b : Nat), γ.boxes[i]? = some b → γ'.boxes[i]? = some b
  rows : ∀ (t : Nat) r, γ.rows[t]? = some r → ∃ r', γ'.rows[t]? = some r' ∧ r'.e = r.e ∧ r'.sz = r.sz ∧ ∀ n x, r.st n = some x → r'.st n = some x

theorem Gh.le.refl (γ : Gh) : γ.le γ := ⟨fun _ _ _ h => h, fun _ _ h => h, fun _ r h => ⟨r, h, rfl, rfl, fun _ _ h => h⟩⟩

theorem Gh.le.trans {a b c : Gh} (h : a.le b) (k : b.le c) : a.le c :=
  ⟨fun _ _ _ x => k.mem _ _ _ (h.mem _ _ _ x), fun _ _ x => k.boxes _ _ (h.boxes _ _ x), fun t r x => by
    obtain ⟨r1, a1, a2, a3, a4⟩ := h.rows t r x
    obtain ⟨r2, b1, b2, b3, b4⟩ := k.rows t r1 a1
    exact ⟨r2, b1, b2.trans a2, b3.trans a3, fun n x hx => b4 n x (a4 n x hx)⟩⟩

theorem RepD.mono {γ γ' : Gh} (h : γ.le γ') {v : Value} {d : D} (r : RepD γ v d) : RepD γ' v d := by
  induction r with
  | dead v => exact .dead v
  | undef => exact .undef
  | p v x hx => exact .p v x (hx.mono h.mem)
  | fsl b n sz es hn hx => exact .fsl b n sz es hn (hx.mono h.mem)
  | tsl v t e sz es row r h1 h2 h3 h4 h5 h6 =>
    obtain ⟨r', a1, a2, a3, a4⟩ := h.rows t row h1
    exact .tsl v t e sz es r' r a1 (a2.trans h2) (a3.trans h3) (h4.mono h.mem) (a4 _ _ h5) h6
  | box i off b hb => exact .box i off b (h.boxes _ _ hb)
  | glob g off => exact .glob g off
  | ro b o off cs vs hm hr => exact .ro b o off cs vs (fun j hj => h.mem _ _ _ (hm j hj)) (fun j c hc => ⟨(hr j c hc).1.mono h.mem, (hr j c hc).2⟩)
  | agg cs ds hl hone hr ih => exact .agg cs ds hl hone ih
  | tup cs ds hl hr ih => exact .tup cs ds hl ih
  | fn f as cs ds es hl hr kl kr ih ih' => exact .fn f as cs ds es hl ih kl ih'

/-- Lists of values, one by one. -/
def RepL (γ : Gh) (vs : Array Value) (ds : List D) : Prop := vs.size = ds.length ∧ ∀ i d, ds[i]? = some d → RepD γ (vs.getD i undef) d

theorem RepL.mono {γ γ' : Gh} (h : γ.le γ') {vs : Array Value} {ds : List D} (r : RepL γ vs ds) : RepL γ' vs ds := ⟨r.1, fun i d hd => (r.2 i d hd).mono h⟩

theorem RepD.oneCell {γ : Gh} {v : Value} {d : D} (r : RepD γ v d) (h : d.one = true) : v.oneCell' = true := by
  cases r with
  | p v x hx => exact hx.one h
  | tsl v t e sz es row r h1 h2 h3 h4 h5 h6 => exact h4.one rfl
  | _ => first | rfl | cases h

theorem RepD.cells {γ : Gh} {v : Value} {d : D} (r : RepD γ v d) (h : d.cells.all D.one = true) : RepL γ v.cells d.cells ∧ ∀ c ∈ d.cells, c.one = true := by
  have hall : ∀ c ∈ d.cells, c.one = true := by simpa [List.all_eq_true] using h
  refine ⟨?_, hall⟩
  have single : ∀ (v : Value) (d : D), d.cells = [d] → v.cells = #[v] → RepD γ v d → RepL γ v.cells d.cells := by
    intro v d hd hv r
    rw [hd, hv]
    refine ⟨rfl, fun i c hc => ?_⟩
    match i with
    | 0 => simp only [List.getElem?_cons_zero, Option.some.injEq] at hc; subst hc; exact r
    | i + 1 => simp at hc
  have hv1 : ∀ v : Value, v.oneCell' = true → v.cells = #[v] := by intro v hv; cases v <;> first | rfl | cases hv
  cases r with
  | dead v => simp [D.cells, D.one] at h
  | undef => simp [D.cells, D.one] at h
  | p v x hx =>
    by_cases hone : x.one = true
    · have hc : (D.p x).cells = [.p x] := by cases x <;> first | rfl | cases hone
      exact single v _ hc (hv1 v (hx.one hone)) (.p v x hx)
    · cases hx with
      | agg cs ds hl ho hr =>
        refine ⟨by simp [D.cells, Value.cells, hl], fun i d hd => ?_⟩
        simp only [D.cells, List.getElem?_map, Option.map_eq_some_iff] at hd
        obtain ⟨x, hx, rfl⟩ := hd
        exact .p _ _ (hr i x hx)
      | _ => simp [PD.one] at hone
  | agg cs ds hl ho hr => exact ⟨hl, hr⟩
  | tup cs ds hl hr => simp [D.cells, D.one] at h
  | fsl b n sz es hn hx => exact single _ _ rfl rfl (.fsl b n sz es hn hx)
  | tsl v t e sz es row r h1 h2 h3 h4 h5 h6 => exact single _ _ rfl (hv1 _ (h4.one rfl)) (.tsl v t e sz es row r h1 h2 h3 h4 h5 h6)
  | box i off b hb => exact single _ _ rfl rfl (.box i off b hb)
  | glob g off => exact single _ _ rfl rfl (.glob g off)
  | ro b o off cs vs hm hr => exact single _ _ rfl rfl (.ro b o off cs vs hm hr)
  | fn f as cs ds es hl hr kl kr => exact single _ _ rfl rfl (.fn f as cs ds es hl hr kl kr)

/-- The row of token t has room behind its end, in this block. -/
def Free (γ : Gh) (H : Hp) (t b : Nat) : Prop := ∃ row f cap, γ.rows[t]? = some row ∧ H.tk[t]? = some f ∧ row.st f = some (some (b, cap)) ∧ f < cap

def Owned (γ : Gh) (H : Hp) (b : Nat) : Prop := b ∈ γ.boxes ∨ ∃ t, Free γ H t b

/-- No cell of the row is frozen. -/
def unfrozen (fr : Nat × Nat) (n : Nat) : Prop := ∀ k, k < n → ¬ (fr.1 ≤ k ∧ k < fr.2)

def RowOk (γ : Gh) (w : World) (row : Row) (f : Nat) : Option (Nat × Nat) → Prop
  | none => f = 0
  | some (b, cap) => f ≤ cap ∧ (f < cap → ∃ cur fr, w.heap[b]? = some (.cells cur row.e fr) ∧ unfrozen fr cur.size ∧ cur.size = cap * row.sz ∧ cap ≤ maxLen ∧ (∀ o, f * row.sz ≤ o → γ.mem b o = none) ∧ b ∉ γ.boxes)

structure Inv (G : Nat → Option (List PD)) (γ : Gh) (H : Hp) (w : World) : Prop where
  mem : ∀ b o v, γ.mem b o = some v → w.cell? ⟨b, o, none⟩ = some v
  globs : ∀ g cs, G g = some cs → ∀ j c, cs[j]? = some c → c.one = true ∧ ∃ v, γ.mem g j = some v ∧ RepP γ.mem v c
  lenB : γ.boxes.length = H.bx.length
  nodup : γ.boxes.Nodup
  box : ∀ (i b : Nat) cs, γ.boxes[i]? = some b → H.bx[i]? = some cs → ∃ vs T, w.heap[b]? = some (.cells vs T (0, 0)) ∧ RepL γ vs cs ∧ ∀ c ∈ cs, c.one = true
  boxmem : ∀ b o, b ∈ γ.boxes → γ.mem b o = none
  lenT : γ.rows.length = H.tk.length
  row : ∀ (t : Nat) row f, γ.rows[t]? = some row → H.tk[t]? = some f → ∃ r, row.st f = some r ∧ RowOk γ w row f r
  rowmax : ∀ (t : Nat) row f, γ.rows[t]? = some row → H.tk[t]? = some f → ∀ n x, row.st n = some x → n ≤ f
  free : ∀ t t' b, Free γ H t b → Free γ H t' b → t = t'

structure Frame (γ : Gh) (H : Hp) (w : World) (γ' : Gh) (H' : Hp) (w' : World) : Prop where
  os : w'.os = w.os
  tape : w'.tape = w.tape
  output : w'.output = w.output
  size : w.heap.size ≤ w'.heap.size
  blk : ∀ b, b < w.heap.size → ¬ Owned γ H b → w'.heap[b]? = w.heap[b]?
  mem : ∀ b o, b < w.heap.size → ¬ Owned γ H b → γ'.mem b o = γ.mem b o
  box : ∀ b, b ∈ γ'.boxes → b ∈ γ.boxes ∨ w.heap.size ≤ b
  fre : ∀ t b, Free γ' H' t b → Free γ H t b ∨ w.heap.size ≤ b

theorem Frame.own {γ : Gh} {H : Hp} {w : World} {γ' : Gh} {H' : Hp} {w' : World} (F : Frame γ H w γ' H' w') (b : Nat) (h : Owned γ' H' b) : Owned γ H b ∨ w.heap.size ≤ b := by
  rcases h with h | ⟨t, h⟩
  · rcases F.box b h with q | q
    · exact .inl (.inl q)
    · exact .inr q
  · rcases F.fre t b h with q | q
    · exact .inl (.inr ⟨t, q⟩)
    · exact .inr q

theorem Frame.refl (γ : Gh) (H : Hp) (w : World) : Frame γ H w γ H w := ⟨rfl, rfl, rfl, Nat.le_refl _, fun _ _ _ => rfl, fun _ _ _ _ => rfl, fun _ h => .inl h, fun _ _ h => .inl h⟩

theorem Frame.trans {γ γ1 γ2 : Gh} {H H1 H2 : Hp} {w w1 w2 : World} (a : Frame γ H w γ1 H1 w1) (b : Frame γ1 H1 w1 γ2 H2 w2) : Frame γ H w γ2 H2 w2 := by
  have key : ∀ k, k < w.heap.size → ¬ Owned γ H k → ¬ Owned γ1 H1 k := fun k hk ho h1 => by
    rcases a.own k h1 with h | h
    · exact ho h
    · omega
  refine ⟨b.os.trans a.os, b.tape.trans a.tape, b.output.trans a.output, Nat.le_trans a.size b.size, fun k hk ho => ?_, fun k o hk ho => ?_, fun k h2 => ?_, fun t k h2 => ?_⟩
  · exact (b.blk k (Nat.lt_of_lt_of_le hk a.size) (key k hk ho)).trans (a.blk k hk ho)
  · exact (b.mem k o (Nat.lt_of_lt_of_le hk a.size) (key k hk ho)).trans (a.mem k o hk ho)
  · rcases b.box k h2 with h | h
    · exact a.box k h
    · exact .inr (Nat.le_trans a.size h)
  · rcases b.fre t k h2 with h | h
    · exact a.fre t k h
    · exact .inr (Nat.le_trans a.size h)

theorem Inv.lt_of_box {G : Nat → Option (List PD)} {γ : Gh} {H : Hp} {w : World} (I : Inv G γ H w) {b : Nat} (hb : b ∈ γ.boxes) : b < w.heap.size := by
  obtain ⟨i, hi⟩ := List.getElem?_of_mem hb
  have hlt : i < H.bx.length := by rw [← I.lenB]; exact (List.getElem?_eq_some_iff.1 hi).1
  obtain ⟨vs, T, h, _⟩ := I.box i b _ hi (List.getElem?_eq_getElem hlt)
  exact (Array.getElem?_eq_some_iff.1 h).1

theorem Inv.lt_of_free {G : Nat → Option (List PD)} {γ : Gh} {H : Hp} {w : World} (I : Inv G γ H w) {t b : Nat} (hb : Free γ H t b) : b < w.heap.size := by
  obtain ⟨row, f, cap, h1, h2, h3, h4⟩ := hb
  obtain ⟨r, hr, hok⟩ := I.row t row f h1 h2
  rw [h3] at hr
  cases hr
  obtain ⟨cur, fr, h, _⟩ := hok.2 h4
  exact (Array.getElem?_eq_some_iff.1 h).1

theorem Inv.lt_of_owned {G : Nat → Option (List PD)} {γ : Gh} {H : Hp} {w : World} (I : Inv G γ H w) {b : Nat} (hb : Owned γ H b) : b < w.heap.size := by
  rcases hb with h | ⟨t, h⟩
  · exact I.lt_of_box h
  · exact I.lt_of_free h

theorem Inv.lt_of_mem {G : Nat → Option (List PD)} {γ : Gh} {H : Hp} {w : World} (I : Inv G γ H w) {b o : Nat} {v : Value} (h : γ.mem b o = some v) : b < w.heap.size :=
  World.block_lt_of_cell? w _ (I.mem b o v h)

/-- The slots of a frame. -/
def EnvRep (γ : Gh) (env : Env) (tmps : Array Value) : Prop := ∀ t, RepD γ (tmps.getD t undef) (env.get t)

theorem EnvRep.mono {γ γ' : Gh} (h : γ.le γ') {env : Env} {tmps : Array Value} (r : EnvRep γ env tmps) : EnvRep γ' env tmps := fun t => (r t).mono h

theorem EnvRep.put {γ : Gh} {env : Env} {tmps : Array Value} (r : EnvRep γ env tmps) {t : Nat} (ht : t < tmps.size) {v : Value} {d : D} (h : RepD γ v d) :
    EnvRep γ ((t, d) :: env) (tmps.setIfInBounds t v) := by
  intro s
  simp only [Env.get]
  by_cases hs : t = s
  · subst hs
    rw [if_pos rfl]
    simpa [Array.getD_eq_getD_getElem?, ht] using h
  · rw [if_neg hs]
    have := r s
    simpa [Array.getD_eq_getD_getElem?, Array.getElem?_setIfInBounds, hs] using this

theorem Env.get_keep (ks : List Nat) (e : Env) (t : Nat) : (e.keep ks).get t = if t ∈ ks then e.get t else .dead := by
  induction ks with
  | nil => rfl
  | cons k ks ih =>
    have ih' : Env.get (List.map (fun t => (t, e.get t)) ks) t = if t ∈ ks then e.get t else .dead := ih
    show (if k = t then e.get k else Env.get (List.map (fun t => (t, e.get t)) ks) t) = _
    by_cases hk : k = t
    · subst hk; simp
    · rw [if_neg hk, ih']
      have : (t ∈ k :: ks) ↔ t ∈ ks := by simp [Ne.symm hk]
      simp only [this]

theorem EnvRep.keep {γ : Gh} {env : Env} {tmps : Array Value} (r : EnvRep γ env tmps) (ks : List Nat) : EnvRep γ (env.keep ks) tmps := by
  intro t
  rw [Env.get_keep]
  split
  · exact r t
  · exact .dead _

end Go.Vs
