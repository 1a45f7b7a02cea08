/-
  append: the row that grows.
-/
import Derived.Test.YtphnflkjgoobmaaDoorFwK
namespace Go.Vs

variable {P : Program} {G : Nat → Option (List PD)} {γ : Gh} {H : Hp} {w : World} {env : Env} {a : Act} {o : Oper}

theorem RepE.append {m : Mem} {sz : Nat} {c1 c2 : Array Value} {e1 e2 : List PD} (r : RepE m sz c1 e1) (q : RepE m sz c2 e2) : RepE m sz (c1 ++ c2) (e1 ++ e2) := by
  obtain ⟨r1, r2, r3⟩ := r
  obtain ⟨q1, q2, q3⟩ := q
  refine ⟨by simp [r1, q1, Nat.add_mul], fun e he => ?_, fun i e j c he hc => ?_⟩
  · rcases List.mem_append.1 he with h | h
    · exact r2 e h
    · exact q2 e h
  · by_cases hi : i < e1.length
    · rw [List.getElem?_append_left hi] at he
      have hj : j < sz := by rw [← (r2 e (List.mem_of_getElem? he)).1]; exact (List.getElem?_eq_some_iff.1 hc).1
      have hlt : i * sz + j < c1.size := by
        rw [r1]
        calc i * sz + j < i * sz + sz := by omega
          _ = (i + 1) * sz := by rw [Nat.add_mul, Nat.one_mul]
          _ ≤ e1.length * sz := Nat.mul_le_mul_right _ hi
      have := r3 i e j c he hc
      have ee : (c1 ++ c2).getD (i * sz + j) undef = c1.getD (i * sz + j) undef := by
        simp [Array.getD_eq_getD_getElem?, Array.getElem?_append, hlt]
      rw [ee]; exact this
    · rw [List.getElem?_append_right (by omega)] at he
      have hge : c1.size ≤ i * sz + j := by
        rw [r1]
        calc e1.length * sz ≤ i * sz := Nat.mul_le_mul_right _ (by omega)
          _ ≤ i * sz + j := by omega
      have := q3 _ e j c he hc
      have e3 : i * sz + j - c1.size = (i - e1.length) * sz + j := by
        rw [r1, Nat.sub_mul]
        have : e1.length * sz ≤ i * sz := Nat.mul_le_mul_right _ (by omega)
        omega
      have ee : (c1 ++ c2).getD (i * sz + j) undef = c2.getD ((i - e1.length) * sz + j) undef := by
        simp only [Array.getD_eq_getD_getElem?]
        rw [Array.getElem?_append_right hge, e3]
      rw [ee]; exact this

/-- The cells of a slice that begins at its block's head. -/
theorem repE_cells {m : Mem} {b cap sz : Nat} {es : List PD} (h : RepP m (.slice (some ⟨b, 0, none⟩) es.length cap) (.slice sz es)) {pre : Array Value} (hp : pre.size = es.length * sz) (hm : ∀ o v, o < es.length * sz → m b o = some v → pre[o]? = some v) : RepE m sz pre es := by
  obtain ⟨ad, cap', hv, _, hne⟩ := slice_inv h
  cases hv
  refine ⟨hp, fun e he => ?_, fun i e j c he hc => ?_⟩
  · obtain ⟨b', o', vs, hb, h1, h2, _⟩ := hne (fun e0 => by subst e0; simp at he)
    exact ⟨h1 e he, h2 e he⟩
  · obtain ⟨b', o', vs, hb, h1, h2, h3, h4⟩ := hne (fun e0 => by subst e0; simp at he)
    cases hb
    have hi : i < es.length := (List.getElem?_eq_some_iff.1 he).1
    have hj : j < sz := by rw [← h1 e (List.mem_of_getElem? he)]; exact (List.getElem?_eq_some_iff.1 hc).1
    have hlt : i * sz + j < es.length * sz := by
      calc i * sz + j < i * sz + sz := by omega
        _ = (i + 1) * sz := by rw [Nat.add_mul, Nat.one_mul]
        _ ≤ es.length * sz := Nat.mul_le_mul_right _ hi
    have hc' := hm _ _ hlt (by have := h3 i j hi hj; rwa [Nat.zero_add] at this)
    have ee : pre.getD (i * sz + j) undef = vs i j := by simp [Array.getD_eq_getD_getElem?, hc']
    rw [ee]
    exact h4 i e j c he hc

section
variable {t u ty e : TypeId} {i : TypeInfo} {z : Value} {du : TypeDesc} (ht : P.underlying t = some (.slice e)) (hu : P.underlying u = some du) (hdu : (∃ e', du = .slice e') ∨ du = .string) (hi : P.info? e = some i) (hz : i.zero = some z)
  (hzs : z.cells.size = i.size) (hs : 0 < i.size) {x : Value} {xs : List PD} {news : Array Value} (S : Src P γ.mem w i.size x xs news)
include ht hu hdu hi hz hzs hs S

/-- A row that may grow, and what is appended. -/
theorem append_core (I : Inv G γ H w) {tk : Nat} {row : Row} {es : List PD} {r : Option (Nat × Nat)} (h1 : γ.rows[tk]? = some row) (h2 : H.tk[tk]? = some es.length) (he : row.e = e) (hsz : row.sz = i.size) (hr : row.st es.length = some r)
    (hv : RepP γ.mem (rowVal r es.length) (.slice i.size es)) (hroom : roomy (es.length + xs.length) i.bytes = true) :
    ∃ v' w' γ', (Builtin.append_ #[t, u] ty #[rowVal r es.length, x]).run P w = .ok v' w' ∧ γ.le γ' ∧ Frame γ H w γ' { H with tk := H.tk.set tk (es.length + xs.length) } w' ∧
      Inv G γ' { H with tk := H.tk.set tk (es.length + xs.length) } w' ∧ RepD γ' v' (.tsl tk e i.size (es ++ xs)) := by
  obtain ⟨r', hr', hok⟩ := I.row tk row es.length h1 h2
  rw [hr] at hr'
  cases hr'
  have hroom' : es.length + xs.length ≤ 140737488355328 ∧ (es.length + xs.length) * i.bytes ≤ 140737488355328 := by simpa [roomy] using hroom
  by_cases h0 : xs = []
  · -- nothing
    have hset : H.tk.set tk (es.length + xs.length) = H.tk := by
      subst h0
      apply List.ext_getElem?
      intro k
      by_cases hk : tk = k
      · subst hk
        have hlt := (List.getElem?_eq_some_iff.1 h2).1
        rw [List.getElem?_set_self hlt, h2]; rfl
      · rw [List.getElem?_set_ne hk]
    rw [hset]
    have hrun : (Builtin.append_ #[t, u] ty #[rowVal r es.length, x]).run P w = .ok (rowVal r es.length) w := by
      cases r with
      | none => exact run_append_zero ht hu hdu hi S h0 none 0 0 (Nat.le_refl _)
      | some bc => exact run_append_zero ht hu hdu hi S h0 _ _ _ hok.1
    refine ⟨_, w, γ, hrun, .refl γ, .refl γ H w, I, ?_⟩
    subst h0
    rw [List.append_nil]
    exact .tsl _ tk e i.size es row r h1 he hsz hv hr rfl
  · have hpos : 0 < xs.length := List.length_pos_iff.2 h0
    have hml : es.length + xs.length ≤ maxLen := by simp only [maxLen]; omega
    have hnews := S.rep.1
    have hmem_row : ∀ γ' : Gh, ∀ (b cap : Nat) (cells : Array Value), γ' = γ.grow tk row (es.length + xs.length) b cap cells → γ.le γ' → es.length + xs.length ≤ cap → RepE γ.mem i.size (cells.extract 0 ((es.length + xs.length) * i.size)) (es ++ xs) →
        RepD γ' (.slice (some ⟨b, 0, none⟩) (es.length + xs.length) cap) (.tsl tk e i.size (es ++ xs)) := by
      intro γ' b cap cells hγ hle hcap hre
      subst hγ
      have htl : tk < γ.rows.length := (List.getElem?_eq_some_iff.1 h1).1
      have hre' := (hre.mono hle.mem).slice (b := b) (cap := cap) (by simpa using hcap) (fun o ho => by
        have ho : o < (es.length + xs.length) * i.size := by simpa using ho
        simp only [Gh.grow, if_true, hsz]
        rw [if_pos ho, Array.getElem?_extract]
        simp
        intro h
        have hsz := hre.1
        simp at hsz
        omega)
      refine .tsl _ tk e i.size (es ++ xs) (row.grow (es.length + xs.length) b cap) (some (b, cap)) (by simp [Gh.grow, htl]) he hsz (by simpa using hre') (by simp [Row.grow]) (by simp [rowVal])
    -- a new block
    have fresh : ∀ (base : Option Addr) (n cap : Nat), rowVal r es.length = .slice base n cap → n = es.length → cap < es.length + xs.length →
        ∃ v' w' γ', (Builtin.append_ #[t, u] ty #[rowVal r es.length, x]).run P w = .ok v' w' ∧ γ.le γ' ∧ Frame γ H w γ' { H with tk := H.tk.set tk (es.length + xs.length) } w' ∧
          Inv G γ' { H with tk := H.tk.set tk (es.length + xs.length) } w' ∧ RepD γ' v' (.tsl tk e i.size (es ++ xs)) := by
      intro base n cap hval hn hcap
      subst hn
      rw [hval] at hv ⊢
      obtain ⟨olds, So⟩ := elems_src (P := P) I hs hv
      have hrun := run_append_new (ty := ty) ht hu hdu hi hz S base es.length cap olds (fun w' hw' => So.cells w' hw') hcap (by omega) hroom'.2
      have hge := grownCap_ge w (es.length + xs.length) cap e
      have hcm := grownCap_le_maxLen w (es.length + xs.length) cap e hml
      have hsize : (olds ++ news ++ Builtin.zeroCells z.cells (grownCap w (es.length + xs.length) cap e - (es.length + xs.length))).size = grownCap w (es.length + xs.length) cap e * row.sz := by
        rw [hsz]
        simp only [Array.size_append, size_zeroCells, hzs, So.rep.1, hnews, ← Nat.add_mul]
        congr 1; omega
      have hw1 : (w.drew.alloc (.cells (olds ++ news ++ Builtin.zeroCells z.cells (grownCap w (es.length + xs.length) cap e - (es.length + xs.length))) e)).heap[w.heap.size]? =
          some (.cells (olds ++ news ++ Builtin.zeroCells z.cells (grownCap w (es.length + xs.length) cap e - (es.length + xs.length))) row.e (0, 0)) := by
        rw [he]
        have := heap_alloc w.drew (.cells (olds ++ news ++ Builtin.zeroCells z.cells (grownCap w (es.length + xs.length) cap e - (es.length + xs.length))) e) w.heap.size
        rw [this]; exact if_pos rfl
      obtain ⟨b1, b2, b3⟩ := I.rowStep h1 h2 (b := w.heap.size) (cap := grownCap w (es.length + xs.length) cap e) (f' := es.length + xs.length) (by omega) hge hcm hsize hw1 (fun k hk => by simp)
        (fun c hc => by rw [heap_alloc]; exact if_neg hc) (fun hb => by have := I.lt_of_box hb; omega) (fun o v hm => by have := I.lt_of_mem hm; omega) (fun t' _ hf => by have := I.lt_of_free hf; omega) (.inl rfl) rfl rfl rfl (by simp)
      refine ⟨_, _, _, hrun, b1, b2, b3, hmem_row _ _ _ _ rfl b1 hge ?_⟩
      have hex : (olds ++ news ++ Builtin.zeroCells z.cells (grownCap w (es.length + xs.length) cap e - (es.length + xs.length))).extract 0 ((es.length + xs.length) * i.size) = olds ++ news := by
        have : (es.length + xs.length) * i.size = (olds ++ news).size := by simp [So.rep.1, hnews, Nat.add_mul]
        rw [this]
        apply Array.ext'
        simp [List.take_of_length_le]
      rw [hex]
      exact So.rep.append S.rep
    cases r with
    | none =>
      have hn0 : es.length = 0 := hok
      exact fresh none 0 0 rfl hn0.symm (by omega)
    | some bc =>
      obtain ⟨b, cap⟩ := bc
      obtain ⟨hle, hfr⟩ := hok
      by_cases hfit : es.length + xs.length ≤ cap
      · obtain ⟨cur, fr, q1, q0, q2, q3, q4, q5⟩ := hfr (by omega)
        rw [hsz] at q2 q4
        have hcur : es.length * i.size + news.size ≤ cur.size := by
          rw [hnews, q2, ← Nat.add_mul]; exact Nat.mul_le_mul_right _ hfit
        rw [he] at q1
        have hrun := run_append_place (ty := ty) ht hu hdu hi S b es.length cap cur fr q1 q0 hfit hcur hs
        have hold : ∀ o v, γ.mem b o = some v → o < es.length * i.size ∧ cur[o]? = some v := by
          intro o v hm
          have hlt : o < es.length * i.size := by
            rcases Nat.lt_or_ge o (es.length * i.size) with h | h
            · exact h
            · rw [q4 o h] at hm; cases hm
          have := I.mem b o v hm
          simp only [World.cell?, q1] at this
          exact ⟨hlt, by simpa using this⟩
        have hnew : ∀ o, o < es.length * i.size → (cur.toList.take (es.length * i.size) ++ news.toList ++ cur.toList.drop (es.length * i.size + news.size)).toArray[o]? = cur[o]? := by
          intro o ho
          have h1 : o < (cur.toList.take (es.length * i.size)).length := by simp; omega
          simp only [List.getElem?_toArray, List.append_assoc]
          rw [List.getElem?_append_left h1, List.getElem?_take, if_pos ho]
          simp
        have hsz2 : (cur.toList.take (es.length * i.size) ++ news.toList ++ cur.toList.drop (es.length * i.size + news.size)).toArray.size = cap * row.sz := by
          rw [hsz, ← q2]; simp; omega
        have hlt2 : es.length * i.size ≤ (es.length + xs.length) * row.sz := by rw [hsz, Nat.add_mul]; omega
        obtain ⟨b1, b2, b3⟩ := I.rowStep h1 h2 (b := b) (cap := cap) (f' := es.length + xs.length) (fr := fr) (by omega) hfit q3 hsz2 (by rw [he]; exact setRow_heap w b cur _ e fr q1) (by rw [hsz2, hsz, ← q2]; exact q0)
          (fun c hc => setRow_other w b c _ hc) q5 (fun o v hm => by
            obtain ⟨c1, c2⟩ := hold o v hm
            exact ⟨by omega, by rw [hnew o c1]; exact c2⟩) (fun t' hne hf => hne (I.free t' tk b hf ⟨row, es.length, cap, h1, h2, hr, by omega⟩)) (.inr ⟨row, es.length, cap, h1, h2, hr, by omega⟩) rfl rfl rfl (by simp [World.setRow])
        refine ⟨_, _, _, hrun, b1, b2, b3, hmem_row _ _ _ _ rfl b1 hfit ?_⟩
        have hex : ((cur.toList.take (es.length * i.size) ++ news.toList ++ cur.toList.drop (es.length * i.size + news.size)).toArray).extract 0 ((es.length + xs.length) * i.size) = (cur.toList.take (es.length * i.size)).toArray ++ news := by
          have hl : (cur.toList.take (es.length * i.size)).length = es.length * i.size := by simp; omega
          have : (es.length + xs.length) * i.size = ((cur.toList.take (es.length * i.size)) ++ news.toList).length := by simp only [List.length_append, hl, Array.length_toList, hnews, Nat.add_mul]
          apply Array.ext'
          simp only [Array.toList_extract, List.extract_eq_take_drop, List.drop_zero, Nat.sub_zero, Array.toList_append]
          rw [this]
          exact List.take_left
        rw [hex]
        refine (repE_cells hv ?_ (fun o v ho hm => ?_)).append S.rep
        · simp; omega
        · obtain ⟨c1, c2⟩ := hold o v hm
          simp only [List.getElem?_toArray, List.getElem?_take, if_pos c1]
          simpa using c2
      · exact fresh _ _ cap rfl rfl (by omega)
end

theorem length_set_append (l : List Nat) (x y : Nat) : (l ++ [x]).set l.length y = l ++ [y] := by simp

theorem done_append (I : Inv G γ H w) (E : EnvRep γ env a.tmps) {t u e : TypeId} {s x : Operand} {s' x' : Opd} {i : TypeInfo} {z : Value} {du : TypeDesc} (ho : o.op = .call { callee := .builtin .append, args := #[s, x], argTypes := #[t, u] })
    (ht : P.underlying t = some (.slice e)) (hu : P.underlying u = some du) (hdu : (∃ e', du = .slice e') ∨ du = .string) (hi : P.info? e = some i) (hz : i.zero = some z) (hzs : z.cells.size = i.size) (hsp : 0 < i.size)
    (hs : opdOf s = some s') (hx : opdOf x = some x') {d : D} {H' : Hp} (he : evK G env H (.append e i.size i.bytes s' x') = some (d, H')) : Done P G γ H w a o d H' := by
  have hsr := opdOf_rep E hs
  have hxr := opdOf_rep E hx
  simp only [evK] at he
  split at he
  · rename_i xs hxs
    obtain ⟨⟨news, S⟩, _⟩ := src_of (P := P) I hsp hxr hxs
    have fin : ∀ v' w', (Builtin.append_ #[t, u] o.type #[a.eval s, a.eval x]).run P w = .ok v' w' → (execOp a.eval o).run P w = .ok (.value v') w' := by
      intro v' w' h
      simp [execOp, ho, resolve, invoke, builtin, h]
    unfold appendD at he
    split at he
    · -- onto nil
      rename_i hn
      split at he
      · rename_i hroom
        cases he
        rw [hn] at hsr
        have hv := hsr.p_inv.nils_inv
        let row : Row := ⟨e, i.size, fun n => if n = 0 then some none else none⟩
        obtain ⟨b1, b2, b3⟩ := I.addTok row 0 none rfl (fun n x hx => by
          simp only [row] at hx
          split at hx
          · omega
          · cases hx) rfl (fun _ _ h => by cases h)
        obtain ⟨v', w', γ', c1, c2, c3, c4, c5⟩ := append_core (ty := o.type) ht hu hdu hi hz hzs hsp (γ := { γ with rows := γ.rows ++ [row] }) S b3 (tk := H.tk.length) (row := row) (es := []) (r := none)
          (by show (γ.rows ++ [row])[H.tk.length]? = _; rw [← I.lenT]; simp) (by simp) rfl rfl rfl (.sl0 _ _ _) (by simpa using hroom)
        simp only [List.length_nil, Nat.zero_add, length_set_append, List.nil_append] at c3 c4 c5
        refine ⟨v', w', γ', .inl (fin v' w' ?_), b1.trans c2, b2.trans c3, c4, c5⟩
        rw [hv]; exact c1
      · cases he
    · rename_i sz' es hn
      split at he
      · rename_i hc
        obtain ⟨rfl, hroom⟩ := hc
        cases he
        rw [hn] at hsr
        generalize hev : a.eval s = v at hsr
        cases hsr with
        | fsl b n sz es' hlen hrep =>
          subst hlen
          let row : Row := ⟨e, i.size, fun n => if n = es.length then some (some (b, es.length)) else none⟩
          obtain ⟨b1, b2, b3⟩ := I.addTok row es.length (some (b, es.length)) (by simp [row]) (fun n x hx => by
            simp only [row] at hx
            split at hx
            · omega
            · cases hx) ⟨Nat.le_refl _, fun h => by omega⟩ (fun _ _ h => by cases h; rfl)
          obtain ⟨v', w', γ', c1, c2, c3, c4, c5⟩ := append_core (ty := o.type) ht hu hdu hi hz hzs hsp (γ := { γ with rows := γ.rows ++ [row] }) S b3 (tk := H.tk.length) (row := row) (es := es) (r := some (b, es.length))
            (by show (γ.rows ++ [row])[H.tk.length]? = _; rw [← I.lenT]; simp) (by simp) rfl rfl (by simp [row]) hrep hroom
          simp only [length_set_append] at c3 c4 c5
          refine ⟨v', w', γ', .inl (fin v' w' ?_), b1.trans c2, b2.trans c3, c4, c5⟩
          rw [hev]; exact c1
      · cases he
    · rename_i tk e' sz' es hn
      split at he
      · rename_i hc
        obtain ⟨rfl, rfl, htk, hroom⟩ := hc
        cases he
        rw [hn] at hsr
        generalize hev : a.eval s = v at hsr
        cases hsr with
        | tsl _ _ _ _ _ row r h1 h2 h3 h4 h5 h6 =>
          subst h6
          obtain ⟨v', w', γ', c1, c2, c3, c4, c5⟩ := append_core (ty := o.type) ht hu hdu hi hz hzs hsp S I h1 htk h2 h3 h5 h4 hroom
          refine ⟨v', w', γ', .inl (fin v' w' ?_), c2, c3, c4, c5⟩
          rw [hev]; exact c1
      · cases he
    · cases he
  · cases he

theorem bytesOf_some : ∀ {xs : List PD} {s : List UInt8}, bytesOf xs = some s → ∃ ns : List Int, xs = ns.map (fun n => PD.int .u8 n) ∧ s = ns.map fun n => UInt8.ofNat n.toNat := by
  intro xs
  induction xs with
  | nil => intro s h; simp only [bytesOf] at h; cases h; exact ⟨[], rfl, rfl⟩
  | cons x r ih =>
    intro s h
    unfold bytesOf at h
    split at h
    · rename_i e; cases e
    · rename_i n r' e
      cases e
      obtain ⟨s', hs, rfl⟩ := Option.map_eq_some_iff.1 h
      obtain ⟨ns, rfl, rfl⟩ := ih hs
      exact ⟨n :: ns, rfl, rfl⟩
    · cases h

theorem done_toStr (I : Inv G γ H w) (E : EnvRep γ env a.tmps) {s t e : TypeId} {x : Operand} {x' : Opd} (ho : o.op = .convert s t x) (hs : P.underlying s = some (.slice e)) (hel : P.underlying e = some (.int .u8)) (ht : P.underlying t = some .string) (hx : opdOf x = some x')
    {d : D} {H' : Hp} (he : evK G env H (.toStr x') = some (d, H')) : Done P G γ H w a o d H' := by
  have hxr := opdOf_rep E hx
  simp only [evK] at he
  split at he
  · rename_i xs hxs
    obtain ⟨str, hstr, hh⟩ := Option.map_eq_some_iff.1 he
    cases hh
    obtain ⟨ns, rfl, rfl⟩ := bytesOf_some hstr
    refine .same I (v := .string ⟨(ns.map fun n => UInt8.ofNat n.toNat).toArray⟩) ?_ (.p _ _ (.str _))
    have nilcase : ∀ ad l c, a.eval x = .slice ad l c → ns = [] → l = 0 → (execOp a.eval o).run P w = .ok (.value (.string ⟨(ns.map fun n => UInt8.ofNat n.toNat).toArray⟩)) w := by
      intro ad l c hv hns hl
      subst hns; subst hl
      cases ad with
      | none =>
        have := run_convert_bytes_nil (P := P) w s e hs hel 0 c t ht
        simp [execOp, ho, hv, this, ByteArray.empty, ByteArray.emptyWithCapacity]
        rfl
      | some ad =>
        have := run_convert_bytes_back (P := P) w s t e ad c [] hs hel ht (fun j hj => by simp at hj)
        simp [execOp, ho, hv] at this ⊢
        simp [this]
    unfold srcB at hxs
    split at hxs
    · rename_i hn
      rw [hn] at hxr
      have hns : ns = [] := by cases ns with | nil => rfl | cons => cases hxs
      exact nilcase _ _ _ hxr.p_inv.nils_inv hns rfl
    · split at hxs
      · rename_i sz' es hel'
        split at hxs
        · rename_i hsz
          subst hsz
          cases hxs
          obtain ⟨ad, cap, hv, hcap, hne⟩ := slice_inv (elems?_rep hxr hel')
          by_cases h0 : ns = []
          · exact nilcase _ _ _ hv h0 (by simp [h0])
          · obtain ⟨b, off, vs, rfl, h1, h2, h3, h4⟩ := hne (by simpa using h0)
            have q := run_convert_bytes_arg (P := P) w s e hs hel b off ns.length cap ns rfl (fun k hk => by
              have hm := I.mem _ _ _ (h3 k 0 (by simpa using hk) (by omega))
              have hr := h4 k (.int .u8 ns[k]) 0 (.int .u8 ns[k]) (by simp [hk]) rfl
              rw [hr.int_inv] at hm
              simp only [Nat.mul_one, Nat.add_zero] at hm
              rw [hm]
              simp [List.getD, hk]) t ht
            have hlen : (List.map (fun n => PD.int IntKind.u8 n) ns).length = ns.length := by simp
            rw [hlen] at hv
            simp [execOp, ho, hv, q, strOfNums]
        · cases hxs
      · cases hxs
  · cases he

theorem done_toBytes (I : Inv G γ H w) (E : EnvRep γ env a.tmps) {s t e : TypeId} {x : Operand} {x' : Opd} (ho : o.op = .convert s t x) (hs : P.underlying s = some .string) (ht : P.underlying t = some (.slice e)) (hel : P.underlying e = some (.int .u8)) (hx : opdOf x = some x')
    {d : D} {H' : Hp} (he : evK G env H (.toBytes e x') = some (d, H')) : Done P G γ H w a o d H' := by
  have hxr := opdOf_rep E hx
  simp only [evK, toBytesD] at he
  split at he
  · rename_i str hstr
    split at he
    · rename_i hlim
      cases he
      rw [hstr] at hxr
      have hv := hxr.p_inv.str_inv
      have hsz : (⟨str.toArray⟩ : ByteArray).size = str.length := by simp [ByteArray.size]
      have hrun := run_bytes_of_string w s t e ⟨str.toArray⟩ hs ht hel
      rw [hsz] at hrun
      have hge := grownCap_ge w str.length 0 e
      have hml : str.length ≤ maxLen := by simp only [maxLen]; omega
      have hcm := grownCap_le_maxLen w str.length 0 e hml
      have hsize : (bytesRow ⟨str.toArray⟩ (grownCap w str.length 0 e)).size = grownCap w str.length 0 e * 1 := by
        simp [bytesRow, hsz]; omega
      obtain ⟨b1, b2, b3⟩ := I.drew.newTokBlock e 1 str.length (grownCap w str.length 0 e) (bytesRow ⟨str.toArray⟩ (grownCap w str.length 0 e)) ((bytesRow ⟨str.toArray⟩ (grownCap w str.length 0 e)).size, (bytesRow ⟨str.toArray⟩ (grownCap w str.length 0 e)).size + 1)
        hge hcm hsize (fun k hk => by simp; omega)
      refine ⟨.slice (some ⟨w.heap.size, 0, none⟩) str.length (grownCap w str.length 0 e), _, _, .inl (by simp [execOp, ho, hv, hrun]), b1, (Frame.drew γ H w).trans b2, b3, ?_⟩
      have hre : RepE γ.mem 1 ((str.map fun b => Value.int .u8 b.toNat).toArray) (str.map fun b => PD.int .u8 b.toNat) := by
        refine ⟨by simp, fun e he => ?_, fun i e j c he hc => ?_⟩
        · obtain ⟨b, _, rfl⟩ := List.mem_map.1 he
          exact ⟨rfl, fun c hc => by simp [PD.cells] at hc; subst hc; rfl⟩
        · simp only [List.getElem?_map, Option.map_eq_some_iff] at he
          obtain ⟨b, hb, rfl⟩ := he
          match j with
          | 0 =>
            simp only [PD.cells, List.getElem?_cons_zero, Option.some.injEq] at hc
            subst hc
            have : ((str.map fun b => Value.int .u8 b.toNat).toArray).getD (i * 1 + 0) undef = .int .u8 b.toNat := by simp [Array.getD_eq_getD_getElem?, hb]
            rw [this]; exact .int _ _
          | j + 1 => simp [PD.cells] at hc
      have hre' := (hre.mono b1.mem).slice (b := w.heap.size) (cap := grownCap w str.length 0 e) (by simpa using hge) (fun k hk => by
        have hk : k < str.length := by simpa using hk
        have hd : w.drew.heap.size = w.heap.size := rfl
        simp only [Gh.newTok, hd, if_true, Nat.mul_one]
        rw [if_pos hk]
        simp [bytesRow, Array.getElem?_append, hk])
      refine .tsl _ H.tk.length e 1 _ ⟨e, 1, fun n => if n = str.length then some (some (w.heap.size, grownCap w str.length 0 e)) else none⟩ (some (w.heap.size, grownCap w str.length 0 e)) ?_ rfl rfl (by simpa using hre') (by simp) (by simp [rowVal])
      simp only [Gh.newTok, ← I.lenT]
      simp
    · cases he
  · cases he

end Go.Vs
