/-
  Each operation of the evaluator does what the model's does: append, bytes of a string, a string of bytes.
-/
import Derived.Test.YtphnflkjgoobmaaDoorFwJ
namespace Go.Vs

variable {P : Program} {G : Nat → Option (List PD)} {γ : Gh} {H : Hp} {w : World} {env : Env} {a : Act} {o : Oper}

/-- Cells stored one behind the other into a row no cell of which is frozen. -/
theorem run_storeCells_fr (g o : Nat) (t : TypeId) (fr : Nat × Nat) : ∀ (vs : List Value) (i : Nat) (cur : Array Value) (w : World), w.heap[g]? = some (.cells cur t fr) → unfrozen fr cur.size → o + i + vs.length ≤ cur.size → (∀ v ∈ vs, v.oneCell' = true) →
    (storeCells ⟨g, o, none⟩ vs i).run P w = .ok () (w.setRow g (cur.toList.take (o + i) ++ vs ++ cur.toList.drop (o + i + vs.length)).toArray)
  | [], i, cur, w, hg, _, _, _ => by
    simp only [storeCells, List.append_nil, List.length_nil, Nat.add_zero, List.take_append_drop, Array.toArray_toList]
    rw [setRow_self w g cur t fr hg]
    rfl
  | v :: rest, i, cur, w, hg, hu, hl, h1 => by
    have hi : o + i < cur.size := by simp at hl; omega
    have hadd : (⟨g, o, none⟩ : Addr).add i = ⟨g, o + i, none⟩ := Addr.add_lit _ _ _
    have hcell : w.cell? ⟨g, o + i, none⟩ = some cur[o + i] := by simp [World.cell?, hg, hi]
    have hfro : w.frozen? ⟨g, o + i, none⟩ = false := by
      have := hu (o + i) hi
      simp only [World.frozen?, hg]
      obtain ⟨f1, f2⟩ := fr
      simp only at this ⊢
      cases hd : (decide (f1 ≤ o + i) && decide (o + i < f2)) with
      | false => rfl
      | true => simp at hd; exact (this hd).elim
    have hst : (store ((⟨g, o, none⟩ : Addr).add i) v).run P w = .ok () (w.setRow g (cur.setIfInBounds (o + i) v)) := by
      rw [hadd, run_store P w _ v _ (h1 v (by simp)), hcell]
      simp [hfro, setCell_eq_setRow w g (o + i) cur t fr v hg]
    have ih := run_storeCells_fr g o t fr rest (i + 1) (cur.setIfInBounds (o + i) v) (w.setRow g (cur.setIfInBounds (o + i) v)) (setRow_heap w g cur _ t _ hg) (by simpa using hu) (by simp at hl ⊢; omega) (fun x hx => h1 x (by simp [hx]))
    simp only [storeCells, Sem.run_bind, hst, Result.andThen_ok, ih, setRow_setRow]
    congr 3
    have := list_seg_step cur.toList (o + i) v rest (by simp at hl ⊢; omega)
    have e1 : o + (i + 1) = o + i + 1 := by omega
    have e2 : o + i + (v :: rest).length = o + i + (rest.length + 1) := by simp
    rw [e1, e2]
    simpa [Array.toList_setIfInBounds] using this

/-- What is appended. -/
structure Src (P : Program) (m : Mem) (w : World) (sz : Nat) (x : Value) (xs : List PD) (news : Array Value) : Prop where
  len : ∀ w', (Builtin.lenOf x).run P w' = .ok xs.length w'
  cells : ∀ w', (∀ ad, w'.cell? ad = w.cell? ad) → (Builtin.firstCells sz xs.length x).run P w' = .ok news w'
  rep : RepE m sz news xs

theorem RepE.one {m : Mem} {sz : Nat} {cs : Array Value} {es : List PD} (r : RepE m sz cs es) (hs : 0 < sz) : ∀ v ∈ cs.toList, v.oneCell' = true := by
  intro v hv
  obtain ⟨k, hk⟩ := List.getElem?_of_mem hv
  have hk' : cs[k]? = some v := by simpa using hk
  have hlt : k < cs.size := (Array.getElem?_eq_some_iff.1 hk').1
  obtain ⟨r1, r2, r3⟩ := r
  have hi : k / sz < es.length := by rw [Nat.div_lt_iff_lt_mul hs, ← r1]; exact hlt
  have he := List.getElem?_eq_getElem hi
  obtain ⟨e1, e2⟩ := r2 _ (List.getElem_mem hi)
  have hj : k % sz < (es[k / sz]).cells.length := by rw [e1]; exact Nat.mod_lt _ hs
  have hc := List.getElem?_eq_getElem hj
  have q := r3 _ _ _ _ he hc
  have ek : k / sz * sz + k % sz = k := by rw [Nat.mul_comm]; exact Nat.div_add_mod k sz
  rw [ek] at q
  have : cs.getD k undef = v := by simp [Array.getD_eq_getD_getElem?, hk']
  rw [this] at q
  exact q.one (e2 _ (List.mem_of_getElem? hc))

theorem elems_src (I : Inv G γ H w) {sz : Nat} (hs : 0 < sz) {v : Value} {es : List PD} (h : RepP γ.mem v (.slice sz es)) : ∃ news, Src P γ.mem w sz v es news := by
  obtain ⟨ad, cap, rfl, hcap, hne⟩ := slice_inv h
  by_cases h0 : es = []
  · subst h0
    refine ⟨#[], ⟨fun w' => by simp [Builtin.lenOf], fun w' _ => ?_, by simp, fun e he => by simp at he, fun i e j c he => by simp at he⟩⟩
    cases ad <;> simp [Builtin.firstCells, loadCells, loadCellsFrom]
  · obtain ⟨b, off, vs, rfl, hsz, hone, hm, hr⟩ := hne h0
    refine ⟨((List.range (es.length * sz)).map fun k => vs (k / sz) (k % sz)).toArray, ⟨fun w' => by simp [Builtin.lenOf], fun w' hw' => ?_, ?_⟩⟩
    · refine run_firstCells_some (P := P) w' sz es.length _ _ _ _ (by simp) (fun j v hj => ?_)
      have hlt : j < es.length * sz := by have := (List.getElem?_eq_some_iff.1 hj).1; simpa using this
      have hv : vs (j / sz) (j % sz) = v := by simpa [hlt] using hj
      rw [Addr.add_lit, hw', ← hv]
      have hi : j / sz < es.length := by rw [Nat.div_lt_iff_lt_mul hs]; exact hlt
      have := I.mem _ _ _ (hm (j / sz) (j % sz) hi (Nat.mod_lt _ hs))
      have ej : off + j / sz * sz + j % sz = off + j := by rw [Nat.add_assoc]; congr 1; rw [Nat.mul_comm]; exact Nat.div_add_mod j sz
      rw [ej] at this
      exact this
    · refine ⟨by simp, fun e he => ⟨hsz e he, hone e he⟩, fun i e j c he hc => ?_⟩
      have hi : i < es.length := (List.getElem?_eq_some_iff.1 he).1
      have hj : j < sz := by rw [← hsz e (List.mem_of_getElem? he)]; exact (List.getElem?_eq_some_iff.1 hc).1
      have hlt : i * sz + j < es.length * sz := by
        calc i * sz + j < i * sz + sz := by omega
          _ = (i + 1) * sz := by rw [Nat.add_mul, Nat.one_mul]
          _ ≤ es.length * sz := Nat.mul_le_mul_right _ hi
      have hd : (i * sz + j) / sz = i := by rw [Nat.mul_comm, Nat.mul_add_div hs, Nat.div_eq_of_lt hj, Nat.add_zero]
      have hmm : (i * sz + j) % sz = j := by rw [Nat.add_comm, Nat.add_mul_mod_self_right, Nat.mod_eq_of_lt hj]
      have ee : (((List.range (es.length * sz)).map fun k => vs (k / sz) (k % sz)).toArray).getD (i * sz + j) undef = vs i j := by
        simp [Array.getD_eq_getD_getElem?, hlt, hd, hmm]
      rw [ee]
      exact hr i _ _ c he hc

theorem src_of (I : Inv G γ H w) {sz : Nat} (hs : 0 < sz) {v : Value} {d : D} (r : RepD γ v d) {xs : List PD} (h : srcD sz d = some xs) :
    (∃ news, Src P γ.mem w sz v xs news) ∧ ((∃ s, v = .string s) ∨ ∃ ad n c, v = .slice ad n c) := by
  unfold srcD at h
  split at h
  · rename_i s
    split at h
    · rename_i h1
      subst h1
      cases h
      rw [r.p_inv.str_inv]
      refine ⟨⟨(s.map fun b => Value.int .u8 b.toNat).toArray, ⟨fun w' => ?_, fun w' _ => ?_, by simp, fun e he => ?_, fun i e j c he hc => ?_⟩⟩, .inl ⟨_, rfl⟩⟩
      · simp [Builtin.lenOf, ByteArray.size]
      · have e : (⟨s.toArray⟩ : ByteArray).extract 0 (List.map (fun b : UInt8 => PD.int IntKind.u8 (b.toNat : Int)) s).length = ⟨s.toArray⟩ := by
          apply ByteArray.ext
          rw [ByteArray.data_extract]
          simp
        simp only [Builtin.firstCells, e]
        simp
      · obtain ⟨b, _, rfl⟩ := List.mem_map.1 he
        exact ⟨rfl, fun c hc => by simp [PD.cells] at hc; subst hc; rfl⟩
      · simp only [List.getElem?_map, Option.map_eq_some_iff] at he
        obtain ⟨b, hb, rfl⟩ := he
        match j with
        | 0 =>
          simp only [PD.cells, List.getElem?_cons_zero, Option.some.injEq] at hc
          subst hc
          have : ((s.map fun b => Value.int .u8 b.toNat).toArray).getD (i * 1 + 0) undef = .int .u8 b.toNat := by simp [Array.getD_eq_getD_getElem?, hb]
          rw [this]; exact .int _ _
        | j + 1 => simp [PD.cells] at hc
    · cases h
  · cases h
    have h := r.p_inv.nils_inv
    subst h
    refine ⟨⟨#[], ⟨fun w' => by simp [Builtin.lenOf], fun w' _ => by simp [Builtin.firstCells], by simp, fun e he => by simp at he, fun i e j c he => by simp at he⟩⟩, .inr ⟨_, _, _, rfl⟩⟩
  · split at h
    · rename_i sz' es hel
      split at h
      · rename_i hsz
        subst hsz
        cases h
        have q := elems?_rep r hel
        refine ⟨elems_src I hs q, .inr ?_⟩
        obtain ⟨ad, cap, hv, _⟩ := slice_inv q
        exact ⟨_, _, _, hv⟩
      · cases h
    · cases h

section
variable {t u ty e : TypeId} {i : TypeInfo} {z : Value} {du : TypeDesc} (ht : P.underlying t = some (.slice e)) (hu : P.underlying u = some du) (hdu : (∃ e', du = .slice e') ∨ du = .string) (hi : P.info? e = some i) (hz : i.zero = some z)
  {x : Value} {xs : List PD} {news : Array Value} {m : Mem} (S : Src P m w i.size x xs news)
include ht hu hdu hi S

/-- Nothing is appended. -/
theorem run_append_zero (h0 : xs = []) (base : Option Addr) (n cap : Nat) (hc : n ≤ cap) : (Builtin.append_ #[t, u] ty #[.slice base n cap, x]).run P w = .ok (.slice base n cap) w := by
  subst h0
  have hn : news = #[] := by have := S.rep.1; simpa using this
  subst hn
  have hl := S.len w
  have hcs := S.cells w (fun _ => rfl)
  simp only [List.length_nil] at hl hcs
  rcases hdu with ⟨e', rfl⟩ | rfl <;> cases base <;> simp [Builtin.append_, run_underlying ht, run_underlying hu, sizeOf, typeInfo, hi, hl, hc, hcs, storeCells]

/-- There is room. -/
theorem run_append_place (g n cap : Nat) (cur : Array Value) (fr : Nat × Nat) (hg : w.heap[g]? = some (.cells cur e fr)) (hun : unfrozen fr cur.size) (hroom : n + xs.length ≤ cap) (hfit : n * i.size + news.size ≤ cur.size) (hs : 0 < i.size) :
    (Builtin.append_ #[t, u] ty #[.slice (some ⟨g, 0, none⟩) n cap, x]).run P w =
      .ok (.slice (some ⟨g, 0, none⟩) (n + xs.length) cap) (w.setRow g (cur.toList.take (n * i.size) ++ news.toList ++ cur.toList.drop (n * i.size + news.size)).toArray) := by
  have hl := S.len w
  have hcs := S.cells w (fun _ => rfl)
  have hst := run_storeCells_fr (P := P) g (n * i.size) e fr news.toList 0 cur w hg hun (by simpa using hfit) (S.rep.one hs)
  simp only [Nat.add_zero, Array.length_toList] at hst
  rcases hdu with ⟨e', rfl⟩ | rfl <;> simp [Builtin.append_, run_underlying ht, run_underlying hu, sizeOf, typeInfo, hi, hl, hroom, hcs, Addr.add_lit, hst]

include hz
/-- There is none. -/
theorem run_append_new (base : Option Addr) (n cap : Nat) (olds : Array Value) (hold : ∀ w', (∀ ad, w'.cell? ad = w.cell? ad) → (Builtin.firstCells i.size n (.slice base n cap)).run P w' = .ok olds w')
    (hno : cap < n + xs.length) (h63 : ((n + xs.length : Nat) : Int) ≤ 9223372036854775807) (hb : (n + xs.length) * i.bytes ≤ 140737488355328) :
    (Builtin.append_ #[t, u] ty #[.slice base n cap, x]).run P w =
      .ok (.slice (some ⟨w.heap.size, 0, none⟩) (n + xs.length) (grownCap w (n + xs.length) cap e))
        (w.drew.alloc (.cells (olds ++ news ++ Builtin.zeroCells z.cells (grownCap w (n + xs.length) cap e - (n + xs.length))) e)) := by
  have hl := S.len w
  have hcs := S.cells w.drew (fun _ => rfl)
  have hos := hold w.drew (fun _ => rfl)
  have hn : ¬ (n + xs.length ≤ cap) := by omega
  have h63' : ¬ (9223372036854775807 < ((n : Int) + (xs.length : Int))) := by omega
  have h48' : ¬ (281474976710656 < Builtin.nextslicecap (n + xs.length) cap * i.bytes) := by have := growslice_fits hno hb; omega
  rcases hdu with ⟨e', rfl⟩ | rfl <;> simp [Builtin.append_, run_underlying ht, run_underlying hu, sizeOf, typeInfo, zeroValue, hi, hz, hl, hn, h63', h48', Question.forced, hos, hcs, newRow, grownCap]
end

end Go.Vs
