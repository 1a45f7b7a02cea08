/-
  From a row's condition to the evaluator, and from the evaluator's outcome to the row's promise.
-/
import Derived.Test.YtphnflkjgoobmaaDoorFwT
import Derived.Carry
import Derived.ChangeSlices
import Derived.ChangeMaps5
import Derived.RowKit
namespace Go.Vs
open Go.RowKit Go.ChangeShapes Go.WideShapes

variable {P : Program}

/-- All that stands in memory is known for good. -/
def gh0 (W : World) : Gh := ⟨fun b o => W.cell? ⟨b, o, none⟩, [], []⟩

structure GlobOk (G : Nat → Option (List PD)) (W : World) : Prop where
  ok : ∀ g cs, G g = some cs → ∀ j c, cs[j]? = some c → c.one = true ∧ ∃ v, W.cell? ⟨g, j, none⟩ = some v ∧ RepP (gh0 W).mem v c

theorem inv0 {G : Nat → Option (List PD)} {W : World} (h : GlobOk G W) : Inv G (gh0 W) ⟨[], []⟩ W := by
  refine ⟨fun _ _ _ h => h, h.ok, rfl, List.nodup_nil, fun i b cs hb _ => ?_, fun b o hb => ?_, rfl, fun t row f hr _ => ?_, fun t row f hr _ => ?_, fun t t' b hf _ => ?_⟩
  · simp [gh0] at hb
  · simp [gh0] at hb
  · simp [gh0] at hr
  · simp [gh0] at hr
  · obtain ⟨row, f, cap, hr, _⟩ := hf
    simp [gh0] at hr

theorem owned0 {W : World} {b : Nat} (h : Owned (gh0 W) ⟨[], []⟩ b) : False := by
  rcases h with h | ⟨t, row, f, cap, hr, _⟩
  · simp [gh0] at h
  · simp [gh0] at hr

theorem below_frame {W W' : World} {γ' : Gh} {H' : Hp} (F : Frame (gh0 W) ⟨[], []⟩ W γ' H' W') : Below W.heap.size W W' :=
  ⟨F.os, F.tape, F.output, F.size, fun k hk => F.blk k hk owned0⟩

/-- A law that the evaluator finds true. -/
theorem law_calls {p : Pg} (h : PgOk P p) {f : Nat} {ds : List D} {H' : Hp} (hc : call p f ds ⟨[], []⟩ = some (.val (.p (.bool true)), H')) {W : World} {args : Array Value} (hg : GlobOk p.G W) (hr : RepL (gh0 W) args ds) :
    Calls P f args W fun e W' => e = .returned (.bool true) ∧ Below W.heap.size W W' := by
  obtain ⟨_, m⟩ := call_sound h f ds ⟨[], []⟩ _ _ hc
  refine (m (gh0 W) W args (inv0 hg) hr).mono ?_
  rintro e W' ⟨γ', L, F, J, v, rfl, hv⟩
  rw [hv.p_inv.bool_inv]
  exact ⟨rfl, below_frame F⟩

section
variable {H : Type} {enc : TypeId × Value → H}

theorem trodAll_below (hl : laidOutB P = true) {W W' : World} (B : Below W.heap.size W W') : ∀ {ts : List TypeId} {vs : List Value} {ds : List (DataW H)} {ps : List MemPlace}, (∀ t ∈ ts, P.readableRec t = true ∧ t < P.types.size) →
    DataW.TrodAll enc P W 0 (fun _ => true) true ts vs ds ps → (∀ x ∈ ps, x.block < W.heap.size) → DataW.TrodAll enc P W' 0 (fun b => decide (b < W.heap.size)) true ts vs ds ps
  | [], [], [], _, _, h, _ => h
  | t :: ts, v :: vs, d :: ds, ps, ht, ⟨p, q, h1, h2, e⟩, hlt => by
    subst e
    exact ⟨p, q, Below.trod hl (ht t (by simp)).1 (ht t (by simp)).2 h1 B fun x hx => hlt x (by simp [hx]), trodAll_below hl B (fun u hu => ht u (by simp [hu])) h2 fun x hx => hlt x (by simp [hx]), rfl⟩
  | [], [], _ :: _, _, _, h, _ => h.elim
  | [], _ :: _, _, _, _, h, _ => by cases h
  | _ :: _, [], _, _, _, h, _ => by cases h
  | _ :: _, _ :: _, [], _, _, h, _ => by cases h

/-- The promise of a law's row: it returns true, and each argument reads as it did. -/
theorem post_law {fn : Func} {s : ChangeSpec} {apart fresh handsOn : Bool} {W W' : World} {args : Array Value} {ds : List (DataW H)} {before : List MemPlace} {tb : TypeId} (hl : laidOutB P = true)
    (hts : ∀ t ∈ fn.params.toList, P.readableRec t = true ∧ t < P.types.size) (hv : s.vars = []) (hW : DataW.Whole enc P fn.params.toList s.vars apart W args.toList ds [] before) (hr : fn.resultTypes = #[tb]) (hb : P.underlying tb = some .bool)
    (hs : s.fn H (ds ++ []) = { results := [.lit (.bool true)], args := ds }) (B : Below W.heap.size W W') : s.post enc P fn apart fresh handsOn false W args (.bool true) W' := by
  have hlt := hW.lt
  obtain ⟨p, q, hA, hV, he, hz, hn⟩ := hW
  have hq : q = [] := by rw [hv] at hV; exact hV
  refine ⟨ds, [], before, [], p, [], ⟨p, q, hA, hV, he, hz, hn⟩, ?_, ?_, ?_, ?_, fun h => by cases h⟩
  · rw [hs, hr]
    exact trodAll_mk1 (shut_bool hb true)
  · rw [hs]
    refine trodAll_below hl B hts hA fun x hx => by simpa using hlt x (by rw [he]; simp [hx])
  · rw [hs, hv]; rfl
  · refine World.keptBut_mono (fun x hx => ?_) (B.frame (fun _ => False))
    cases hx

end

/-! The arguments. -/
theorem rep_string (W : World) (s : ByteArray) : RepD (gh0 W) (.string s) (.p (.str s.data.toList)) := by
  refine .p _ _ ?_
  have : s = ⟨s.data.toList.toArray⟩ := by simp
  rw [this]
  exact .str _

theorem repL1 {γ : Gh} {v : Value} {d : D} (h : RepD γ v d) : RepL γ #[v] [d] := ⟨rfl, fun i x hx => by
  match i with
  | 0 => simp only [List.getElem?_cons_zero, Option.some.injEq] at hx; subst hx; exact h
  | i + 1 => simp at hx⟩

theorem repL2 {γ : Gh} {v u : Value} {d e : D} (h : RepD γ v d) (k : RepD γ u e) : RepL γ #[v, u] [d, e] := ⟨rfl, fun i x hx => by
  match i with
  | 0 => simp only [List.getElem?_cons_zero, Option.some.injEq] at hx; subst hx; exact h
  | 1 => simp only [List.getElem?_cons_succ, List.getElem?_cons_zero, Option.some.injEq] at hx; subst hx; exact k
  | i + 2 => simp at hx⟩

/-- A slice of integers, as the evaluator's datum. -/
theorem rep_ints {H : Type} {enc : TypeId × Value → H} {t e : TypeId} {k : IntKind} (ht : P.underlying t = some (.slice e)) (he : P.underlying e = some (.int k)) (hc : P.cellsOf e = 1) {W : World} {r : Reach} {b0 : Nat} {v : Value} {d : DataW H} {ps : List MemPlace}
    (hval : Value.okWide P W r b0 t v) (hd : DataW.Trod enc P W 0 (fun _ => true) true t v d ps) :
    ∃ x : PD, RepD (gh0 W) v (.p x) ∧ (x = .nils ∨ ∃ zs : List Int, x = .slice 1 (zs.map (PD.int k)) ∧ ∀ n ∈ zs, (Lit.int k n).wf = true) := by
  obtain ⟨a0, n0, c0, rfl⟩ := okWide_slice ht hval
  obtain ⟨fuel, hf⟩ := hd
  rcases open_ints ht he hc hf with ⟨h1, _⟩ | ⟨a, len, cap, zs, h1, _, hlc, _, hlen, _, hcell, hwf⟩
  · simp [Value.cells] at h1
    obtain ⟨rfl, rfl, rfl⟩ := h1
    exact ⟨.nils, .p _ _ .nils, .inl rfl⟩
  · simp [Value.cells] at h1
    obtain ⟨rfl, rfl, rfl⟩ := h1
    simp only [if_true] at hlen
    refine ⟨.slice 1 ((zs.take n0).map (PD.int k)), .p _ _ ?_, .inr ⟨zs.take n0, rfl, fun n hn => hwf n (List.mem_of_mem_take hn)⟩⟩
    by_cases hn : n0 = 0
    · subst hn
      simpa using RepP.sl0 (m := (gh0 W).mem) (some a) c0 1
    · have hl : ((zs.take n0).map (PD.int k)).length = n0 := by simp; omega
      have h0 := hcell 0 (by omega)
      obtain ⟨b, o, sp⟩ := a
      have hsp : sp = none := by
        cases sp with
        | none => rfl
        | some q =>
          exfalso
          unfold World.cell? Addr.add at h0
          split at h0
          · simp at h0
          · cases h0
      subst hsp
      have := RepP.sl (m := (gh0 W).mem) b o c0 1 ((zs.take n0).map (PD.int k)) (fun i _ => .int k (zs.getD i 0)) (by omega) (fun e he => by
        obtain ⟨n, _, rfl⟩ := List.mem_map.1 he; rfl) (fun e he c hc => by
        obtain ⟨n, _, rfl⟩ := List.mem_map.1 he
        simp only [PD.cells, List.mem_singleton] at hc; subst hc; rfl) (fun i j hi hj => by
        have hj0 : j = 0 := by omega
        subst hj0
        have := hcell i (by simp at hi; omega)
        simp only [Addr.add_lit] at this
        simpa [gh0] using this) (fun i e j c hi hj => by
        simp only [List.getElem?_map, Option.map_eq_some_iff] at hi
        obtain ⟨n, hn, rfl⟩ := hi
        obtain ⟨h1, h2⟩ := take_get hn
        match j with
        | 0 =>
          simp only [PD.cells, List.getElem?_cons_zero, Option.some.injEq] at hj
          subst hj
          have : zs.getD i 0 = n := by simp [List.getD_eq_getElem?_getD, h2]
          rw [this]; exact .int k n
        | j + 1 => simp [PD.cells] at hj)
      rw [hl] at this
      exact this

end Go.Vs
