/-
  A value-level evaluator for Go functions; the functions of this cut by it; plain laws. Part 5 of 5.
-/
import Derived.Shelf.Strconv.Itoa3
import Derived.Lib.Builder
import Derived.WalkKit
import Derived.Laws.Externs
import Derived.KernelRfl
import Derived.Test.YtalgjkpkkdljaaaDoorProg
import Derived.Test.YtalgjkpkkdljaaaDoorChecked
import Derived.Test.YtalgjkpkkdljaaaDoorG4
import Derived.SizedLaws
import Derived.Handed
import Derived.Lib.AppendIntMem
import Derived.Lib.UnsafeStr
import Derived.Test.YtalgjkpkkdljaaaDoorRows
import Derived.Lib.LaidTab
import Derived.Shelf.Vars
import Derived.ProofKit
import Derived.LaidMore
import Derived.Lay
import Derived.OpenShut
import Derived.Stop.Joined

/-! The library's contracts at this cut: the tables of numbers of strconv.Itoa, and the walk of (*strings.Builder).copyCheck. -/
namespace Go.Proofs.YtalgjkpkkdljaaaDoor
open Go.Proofs

def ren171 : Go.Shelf.Ren where
  f := fun | 171 => 63 | 243 => 80 | 246 => 82 | 283 => 83 | 284 => 84 | 285 => 85 | 286 => 86 | 129 => 88 | 317 => 87 | 318 => 89 | 319 => 90 | 320 => 91 | 337 => 92 | 338 => 93 | n => n
  t := fun | 3 => 3 | 9 => 9 | 2 => 2 | 4 => 4 | 171 => 115 | 0 => 0 | 53 => 116 | 37 => 73 | 5 => 5 | 173 => 119 | 212 => 122 | 51 => 123 | 20 => 20 | 213 => 124 | 46 => 126 | 232 => 129 | 233 => 130 | n => n
  g := fun | 17 => 0 | 18 => 1 | 19 => 2 | n => n

theorem lays171 : Go.Proofs.LaysM.n171 Tryd.prog ren171 where
  i171 := by kernel_rfl
  i212 := by kernel_rfl
  i232 := by kernel_rfl
  i233 := by kernel_rfl
  mixed := by kernel_rfl
  f129 := Tryd.func88.trans (by kernel_rfl)
  f171 := Tryd.func63.trans (by kernel_rfl)
  f243 := Tryd.func80.trans (by kernel_rfl)
  f246 := Tryd.func82.trans (by kernel_rfl)
  f283 := Tryd.func83.trans (by kernel_rfl)
  f284 := Tryd.func84.trans (by kernel_rfl)
  f285 := Tryd.func85.trans (by kernel_rfl)
  f286 := Tryd.func86.trans (by kernel_rfl)
  f317 := Tryd.func87.trans (by kernel_rfl)
  f318 := Tryd.func89.trans (by kernel_rfl)
  f319 := Tryd.func90.trans (by kernel_rfl)
  f320 := Tryd.func91.trans (by kernel_rfl)
  f337 := Tryd.func92.trans (by kernel_rfl)
  f338 := Tryd.func93.trans (by kernel_rfl)
  t0 := Tryd.underlying0
  a0 := Tryd.isAgg0
  z0 := Tryd.sizeOf0
  v0 := Tryd.zeroValue0
  t2 := Tryd.underlying2
  a2 := Tryd.isAgg2
  z2 := Tryd.sizeOf2
  v2 := Tryd.zeroValue2
  t3 := Tryd.underlying3
  a3 := Tryd.isAgg3
  z3 := Tryd.sizeOf3
  v3 := Tryd.zeroValue3
  t4 := Tryd.underlying4
  a4 := Tryd.isAgg4
  z4 := Tryd.sizeOf4
  v4 := Tryd.zeroValue4
  t5 := Tryd.underlying5
  a5 := Tryd.isAgg5
  z5 := Tryd.sizeOf5
  v5 := Tryd.zeroValue5
  t9 := Tryd.underlying9
  a9 := Tryd.isAgg9
  z9 := Tryd.sizeOf9
  v9 := Tryd.zeroValue9
  t20 := Tryd.underlying20
  a20 := Tryd.isAgg20
  z20 := Tryd.sizeOf20
  v20 := Tryd.zeroValue20
  t37 := Tryd.underlying73
  a37 := Tryd.isAgg73
  z37 := Tryd.sizeOf73
  v37 := Tryd.zeroValue73
  t46 := Tryd.underlying126
  a46 := Tryd.isAgg126
  z46 := Tryd.sizeOf126
  v46 := Tryd.zeroValue126
  t51 := Tryd.underlying123
  a51 := Tryd.isAgg123
  z51 := Tryd.sizeOf123
  v51 := Tryd.zeroValue123
  t53 := Tryd.underlying116
  a53 := Tryd.isAgg116
  z53 := Tryd.sizeOf116
  v53 := Tryd.zeroValue116
  t171 := Tryd.underlying115
  a171 := Tryd.isAgg115
  z171 := Tryd.sizeOf115
  v171 := Tryd.zeroValue115
  t173 := Tryd.underlying119
  a173 := Tryd.isAgg119
  z173 := Tryd.sizeOf119
  v173 := Tryd.zeroValue119
  t212 := Tryd.underlying122
  a212 := Tryd.isAgg122
  z212 := Tryd.sizeOf122
  v212 := Tryd.zeroValue122
  t213 := Tryd.underlying124
  a213 := Tryd.isAgg124
  z213 := Tryd.sizeOf124
  t232 := Tryd.underlying129
  a232 := Tryd.isAgg129
  z232 := Tryd.sizeOf129
  v232 := Tryd.zeroValue129
  t233 := Tryd.underlying130
  a233 := Tryd.isAgg130
  z233 := Tryd.sizeOf130
  v233 := Tryd.zeroValue130
  g17 := by kernel_rfl
  g18 := by kernel_rfl
  g19 := by kernel_rfl
  i0 := by kernel_rfl
  i2 := by kernel_rfl
  i3 := by kernel_rfl
  i4 := by kernel_rfl
  i5 := by kernel_rfl
  i9 := by kernel_rfl
  i20 := by kernel_rfl
  i37 := by kernel_rfl
  i46 := by kernel_rfl
  i51 := by kernel_rfl
  i53 := by kernel_rfl
  i173 := by kernel_rfl
  m17 := by kernel_rfl
  m18 := by kernel_rfl
  m19 := by kernel_rfl


theorem sizeB : (Tryd.prog.info? 75).map (·.size) = some 2 := by kernel_rfl

set_option maxHeartbeats 1000000 in
set_option maxRecDepth 100000 in
theorem cc_used (b : Nat) (w : World) (h0 : w.cell? ⟨b, 0, none⟩ = some (.pointer (some ⟨b, 0, none⟩))) :
    Calls Tryd.prog 77 #[.pointer (some ⟨b, 0, none⟩)] w fun e w' => e = .returned (.tuple #[]) ∧ w' = w := by
  obtain ⟨j, hj, _⟩ := Option.map_eq_some_iff.1 sizeB
  have t72 := Tryd.underlying72; have a72 := Tryd.isAgg72; have z72 := Tryd.sizeOf72; have v72 := Tryd.zeroValue72; have u72 := run_underlying Tryd.underlying72
  go_enter Tryd.func77, Tryd.ntmps77
  go_wp2
  rw [Lib.run_neq_ptr_same w _ Tryd.underlying72 hj]
  go_wp2
  go_end0
  exact ⟨rfl, rfl⟩

set_option maxHeartbeats 1000000 in
set_option maxRecDepth 100000 in
theorem cc_fresh (b : Nat) (w : World) (h0 : w.cell? ⟨b, 0, none⟩ = some (.pointer none)) (hsh : w.shape? b = some (78, 4)) (hfz : w.frozen? ⟨b, 0, none⟩ = false) :
    Calls Tryd.prog 77 #[.pointer (some ⟨b, 0, none⟩)] w fun e w' => e = .returned (.tuple #[]) ∧ w' = w.setCell ⟨b, 0, none⟩ (.pointer (some ⟨b, 0, none⟩)) := by
  obtain ⟨j, hj, hjs⟩ := Option.map_eq_some_iff.1 sizeB
  have t72 := Tryd.underlying72; have a72 := Tryd.isAgg72; have z72 := Tryd.sizeOf72; have v72 := Tryd.zeroValue72; have u72 := run_underlying Tryd.underlying72
  have t112 := Tryd.underlying112; have a112 := Tryd.isAgg112; have z112 := Tryd.sizeOf112; have v112 := Tryd.zeroValue112; have u112 := run_underlying Tryd.underlying112
  go_enter Tryd.func77, Tryd.ntmps77
  go_wp2
  rw [Lib.run_to_unsafe w ⟨b, 0, none⟩ Tryd.underlying72 Tryd.underlying112 hj (by rw [hjs]; decide) hsh (Nat.zero_lt_succ 3)]
  simp only [Result.andThen]
  rw [Oper.upon_value]
  go_wp2
  rw [run_callFunc_extern Tryd.func81 (by kernel_rfl) (by kernel_rfl) (by kernel_rfl) (e := Extern.AbiNoEscape.same) (by kernel_rfl)]
  rw [Lib.run_noEscape]
  simp only [Result.andThen]
  rw [Oper.upon_value]
  go_wp2
  rw [Lib.run_from_unsafe w ⟨b, 0, none⟩ Tryd.underlying112 Tryd.underlying72 hj hsh (by kernel_rfl)]
  simp only [Result.andThen]
  rw [Oper.upon_value]
  go_wp2
  go_end0
  exact ⟨rfl, rfl⟩

end Go.Proofs.YtalgjkpkkdljaaaDoor

/-! What an argument of nested slices and structs reads as. -/
namespace Go.Vs
open Go.RowKit Go.ChangeShapes Go.WideShapes

variable {P : Program}

def mkE (P : Program) (e : TypeId) (xs : List PD) : PD :=
  match P.underlying e, xs with
  | some (.struct _), xs => .agg xs
  | _, [x] => x
  | _, xs => .agg xs

/-- Cells of a type. -/
inductive TyP (P : Program) : TypeId → List PD → Prop where
  | bool (t : TypeId) (b : Bool) (ht : P.underlying t = some .bool) : TyP P t [.bool b]
  | int (t : TypeId) (k : IntKind) (n : Int) (ht : P.underlying t = some (.int k)) (hw : (Lit.int k n).wf = true) : TyP P t [.int k n]
  | str (t : TypeId) (s : List UInt8) (ht : P.underlying t = some .string) (hs : s.length ≤ maxLen) : TyP P t [.str s]
  | nils (t e : TypeId) (ht : P.underlying t = some (.slice e)) : TyP P t [.nils]
  | emp (t e : TypeId) (ht : P.underlying t = some (.slice e)) : TyP P t [.emp (P.cellsOf e)]
  | sl (t e : TypeId) (es : List PD) (hne : es ≠ []) (ht : P.underlying t = some (.slice e)) (hl : es.length ≤ maxLen) (h : ∀ x ∈ es, TyP P e x.cells) (hs : ∀ x ∈ es, x.cells.length = P.cellsOf e) (hm : ∀ x ∈ es, x = mkE P e x.cells) : TyP P t [.slice (P.cellsOf e) es]
  | struct (t : TypeId) (fs : Array Field) (parts : List (List PD)) (ht : P.underlying t = some (.struct fs)) (hl : parts.length = fs.size) (h : ∀ (i : Nat) f p, fs[i]? = some f → parts[i]? = some p → TyP P f.type p) (hs : ∀ (i : Nat) f p, fs[i]? = some f → parts[i]? = some p → p.length = P.cellsOf f.type) : TyP P t parts.flatten

def tiles (P : Program) (n : Nat) : Nat → List Field → Bool
  | i, [] => i == n
  | i, f :: r => f.offset == i && tiles P n (i + P.cellsOf f.type) r

def tyOk (P : Program) (ts : List TypeId) (t : TypeId) : Bool :=
  match P.underlying t with
  | some .bool => true
  | some (.int _) => true
  | some .string => true
  | some (.slice e) => ts.contains e && decide (0 < P.cellsOf e)
  | some (.struct fs) => tiles P (P.cellsOf t) 0 fs.toList && fs.toList.all fun f => ts.contains f.type
  | _ => false

/-- One by one. -/
def CellsRep (m : Mem) (cs : List Value) (xs : List PD) : Prop := xs.length = cs.length ∧ (∀ x ∈ xs, x.one = true) ∧ ∀ (i : Nat) c x, cs[i]? = some c → xs[i]? = some x → RepP m c x

theorem CellsRep.single {m : Mem} {c : Value} {x : PD} (h : RepP m c x) (h1 : x.one = true) : CellsRep m [c] [x] :=
  ⟨rfl, fun y hy => by simp at hy; subst hy; exact h1, fun i c' x' hc hx => by
    match i with
    | 0 => simp at hc hx; subst hc; subst hx; exact h
    | i + 1 => simp at hc⟩

theorem CellsRep.append {m : Mem} {cs ds : List Value} {xs ys : List PD} (h : CellsRep m cs xs) (k : CellsRep m ds ys) : CellsRep m (cs ++ ds) (xs ++ ys) := by
  obtain ⟨h1, h2, h3⟩ := h
  obtain ⟨k1, k2, k3⟩ := k
  refine ⟨by simp [h1, k1], fun x hx => ?_, fun i c x hc hx => ?_⟩
  · rcases List.mem_append.1 hx with q | q
    · exact h2 x q
    · exact k2 x q
  · by_cases hi : i < cs.length
    · rw [List.getElem?_append_left hi] at hc
      rw [List.getElem?_append_left (by omega)] at hx
      exact h3 i c x hc hx
    · rw [List.getElem?_append_right (by omega)] at hc
      rw [List.getElem?_append_right (by omega), h1] at hx
      exact k3 _ c x hc hx

/-- An element of its cells. -/
theorem mkE_cells {e : TypeId} {xs : List PD} (h1 : ∀ x ∈ xs, x.one = true) : (mkE P e xs).cells = xs := by
  unfold mkE
  split
  · rfl
  · rename_i x _
    have := h1 x (by simp)
    cases x <;> first | rfl | cases this
  · rfl

section
variable {H : Type} {enc : TypeId × Value → H} {W : World}

theorem fields_read {n : Nat} {ts : List TypeId} (IH : ∀ t cs x, t ∈ ts → DataW.trod enc P W 0 (fun _ => true) true n t cs = some x → ∃ xs, CellsRep (gh0 W).mem cs xs ∧ TyP P t xs) (cs : List Value) :
    ∀ (l : List Field) (off : Nat), tiles P cs.length off l = true → (∀ f ∈ l, f.type ∈ ts) → (∀ f ∈ l, ∃ y, DataW.trod enc P W 0 (fun _ => true) true n f.type ((cs.drop f.offset).take (P.cellsOf f.type)) = some y) →
      off ≤ cs.length → (∀ f ∈ l, f.offset + P.cellsOf f.type ≤ cs.length) → ∃ parts : List (List PD), parts.length = l.length ∧ CellsRep (gh0 W).mem (cs.drop off) parts.flatten ∧ ∀ (i : Nat) f p, l[i]? = some f → parts[i]? = some p → TyP P f.type p ∧ p.length = P.cellsOf f.type
  | [], off, ht, _, _, hoff, _ => by
    simp only [tiles, beq_iff_eq] at ht
    refine ⟨[], rfl, ?_, fun i f p h => by simp at h⟩
    subst ht
    simp only [List.drop_length, List.flatten_nil]
    exact ⟨rfl, fun x hx => by simp at hx, fun i c x h => by simp at h⟩
  | f :: l, off, ht, hm, hr, hoff, hle => by
    simp only [tiles, Bool.and_eq_true, beq_iff_eq] at ht
    obtain ⟨h1, h2⟩ := ht
    obtain ⟨y, hy⟩ := hr f (by simp)
    obtain ⟨xs, q1, q2⟩ := IH _ _ _ (hm f (by simp)) hy
    have hfl := hle f (by simp)
    obtain ⟨parts, p1, p2, p3⟩ := fields_read IH cs l (off + P.cellsOf f.type) h2 (fun g hg => hm g (by simp [hg])) (fun g hg => hr g (by simp [hg])) (by omega) (fun g hg => hle g (by simp [hg]))
    have hlen : xs.length = P.cellsOf f.type := by rw [q1.1]; simp; omega
    refine ⟨xs :: parts, by simp [p1], ?_, fun i g p hg hp => ?_⟩
    · have := q1.append p2
      rw [h1] at this
      have e : (cs.drop off).take (P.cellsOf f.type) ++ cs.drop (off + P.cellsOf f.type) = cs.drop off := by
        rw [← List.drop_drop]; exact List.take_append_drop _ _
      rw [e] at this
      simpa using this
    · match i with
      | 0 => simp at hg hp; subst hg; subst hp; exact ⟨q2, hlen⟩
      | i + 1 => exact p3 i g p (by simpa using hg) (by simpa using hp)

theorem tiles_le {n : Nat} : ∀ {l : List Field} {off : Nat}, tiles P n off l = true → off ≤ n ∧ ∀ f ∈ l, f.offset + P.cellsOf f.type ≤ n
  | [], off, h => by simp only [tiles, beq_iff_eq] at h; exact ⟨by omega, fun f hf => by simp at hf⟩
  | g :: l, off, h => by
    simp only [tiles, Bool.and_eq_true, beq_iff_eq] at h
    obtain ⟨h1, h2⟩ := tiles_le h.2
    refine ⟨by omega, fun f hf => ?_⟩
    rcases List.mem_cons.1 hf with rfl | hf
    · have := h.1; omega
    · exact h2 f hf

/-- What a walk reads. -/
theorem read_cells {ts : List TypeId} (hts : ts.all (tyOk P ts) = true) : ∀ (n : Nat) t cs x, t ∈ ts → DataW.trod enc P W 0 (fun _ => true) true n t cs = some x → ∃ xs, CellsRep (gh0 W).mem cs xs ∧ TyP P t xs
  | 0, t, cs, x, _, h => by simp [DataW.trod] at h
  | n + 1, t, cs, x, hm, h => by
    have hok := List.all_eq_true.1 hts t hm
    unfold tyOk at hok
    split at hok
    · rename_i ht
      obtain ⟨b, rfl, _⟩ := DataW.trod_bool ht h
      exact ⟨[.bool b], .single (.bool b) rfl, .bool t b ht⟩
    · rename_i k ht
      obtain ⟨m, rfl, _, hw⟩ := DataW.trod_int ht h
      exact ⟨[.int k m], .single (.int k m) rfl, .int t k m ht hw⟩
    · rename_i ht
      obtain ⟨s, rfl, _, hl⟩ := DataW.trod_string ht h
      refine ⟨[.str s.data.toList], .single ?_ rfl, .str t _ ht (by rw [Array.length_toList]; exact hl)⟩
      have : s = ⟨s.data.toList.toArray⟩ := by simp
      rw [this]
      exact .str _
    · rename_i e ht
      simp only [Bool.and_eq_true, decide_eq_true_eq] at hok
      obtain ⟨hc, hpos⟩ := hok
      have hme : e ∈ ts := by simpa using hc
      rcases DataW.trod_slice ht h with ⟨rfl, _⟩ | ⟨a, len, cap, elems, rest, n', hn', rfl, _, _, hlc, hcm, hel, hget, _⟩
      · exact ⟨[.nils], .single .nils rfl, .nils t e ht⟩
      · have hn'' : n' = n := by omega
        subst hn''
        have each : ∀ i, i < len → ∃ ci xi, W.cells? 0 (a.add (i * P.cellsOf e)) (P.cellsOf e) = some ci ∧ CellsRep (gh0 W).mem ci xi ∧ TyP P e xi := fun i hi => by
          have := hget i hi
          rw [List.getElem?_eq_getElem (by omega)] at this
          obtain ⟨ci, h1, h2⟩ := Option.bind_eq_some_iff.1 this
          obtain ⟨xi, h3, h4⟩ := read_cells hts n' e ci _ hme h2
          exact ⟨ci, xi, h1, h3, h4⟩
        let C : Nat → List Value := fun i => if hi : i < len then (each i hi).choose else []
        let X : Nat → List PD := fun i => if hi : i < len then (each i hi).choose_spec.choose else []
        have hCX : ∀ i, i < len → W.cells? 0 (a.add (i * P.cellsOf e)) (P.cellsOf e) = some (C i) ∧ CellsRep (gh0 W).mem (C i) (X i) ∧ TyP P e (X i) := fun i hi => by
          simp only [C, X, hi, dif_pos]
          exact (each i hi).choose_spec.choose_spec
        have hlen : ∀ i, i < len → (X i).length = P.cellsOf e ∧ (C i).length = P.cellsOf e := fun i hi => by
          obtain ⟨h1, h2, _⟩ := hCX i hi
          have := (World.cells?_some h1).2.1
          exact ⟨h2.1.trans this, this⟩
        have hmk : ∀ i, i < len → (mkE P e (X i)).cells = X i := fun i hi => mkE_cells (hCX i hi).2.1.2.1
        by_cases h0 : len = 0
        · subst h0
          exact ⟨[.emp (P.cellsOf e)], .single (.emp a cap _) rfl, .emp t e ht⟩
        have hty : TyP P t [.slice (P.cellsOf e) ((List.range len).map fun i => mkE P e (X i))] := by
          refine .sl t e _ (by simp [h0]) ht (by simp; omega) (fun x hx => ?_) (fun x hx => ?_) (fun x hx => ?_)
          · obtain ⟨i, hi, rfl⟩ := List.mem_map.1 hx
            have hi : i < len := by simpa using hi
            rw [hmk i hi]; exact (hCX i hi).2.2
          · obtain ⟨i, hi, rfl⟩ := List.mem_map.1 hx
            have hi : i < len := by simpa using hi
            rw [hmk i hi]; exact (hlen i hi).1
          · obtain ⟨i, hi, rfl⟩ := List.mem_map.1 hx
            have hi : i < len := by simpa using hi
            rw [hmk i hi]
        refine ⟨_, .single ?_ rfl, hty⟩
        · have hf := (World.cells?_some (hCX 0 (by omega)).1).2.2 0 hpos
          have hC0 : (C 0)[0]? ≠ none := by
            have := (hlen 0 (by omega)).2
            rw [List.getElem?_eq_getElem (by omega)]; simp
          obtain ⟨b, o, sp⟩ := a
          have hsp : sp = none := by
            cases sp with
            | none => rfl
            | some q =>
              exfalso
              rw [← hf] at hC0
              apply hC0
              unfold World.cell? Addr.add
              split
              · simp
              · rfl
          subst hsp
          have hl : ((List.range len).map fun i => mkE P e (X i)).length = len := by simp
          have := RepP.sl (m := (gh0 W).mem) b o cap (P.cellsOf e) ((List.range len).map fun i => mkE P e (X i)) (fun i j => (C i).getD j undef) (by rw [hl]; exact hlc) (fun x hx => by
            obtain ⟨i, hi, rfl⟩ := List.mem_map.1 hx
            have hi : i < len := by simpa using hi
            rw [hmk i hi]; exact (hlen i hi).1) (fun x hx c hcm' => by
            obtain ⟨i, hi, rfl⟩ := List.mem_map.1 hx
            have hi : i < len := by simpa using hi
            rw [hmk i hi] at hcm'
            exact (hCX i hi).2.1.2.1 c hcm') (fun i j hi hj => by
            rw [hl] at hi
            have q := (World.cells?_some (hCX i hi).1).2.2 j hj
            simp only [Addr.add_lit] at q
            show W.cell? ⟨b, o + i * P.cellsOf e + j, none⟩ = _
            rw [q]
            have := (hlen i hi).2
            simp [List.getD_eq_getElem?_getD, List.getElem?_eq_getElem (show j < (C i).length by omega)]) (fun i x j c hi hj => by
            have hil : i < len := by have := (List.getElem?_eq_some_iff.1 hi).1; simpa using this
            have hx : x = mkE P e (X i) := by
              rw [List.getElem?_map, List.getElem?_range hil] at hi
              simpa using hi.symm
            subst hx
            rw [hmk i hil] at hj
            have hjl := (List.getElem?_eq_some_iff.1 hj).1
            have h1 := (hlen i hil).1
            have h2 := (hlen i hil).2
            have hcj : (C i)[j]? = some ((C i).getD j undef) := by simp [List.getD_eq_getElem?_getD, List.getElem?_eq_getElem (show j < (C i).length by omega)]
            exact (hCX i hil).2.1.2.2 j _ c hcj hj)
          rw [hl] at this
          exact this
    · rename_i fs ht
      simp only [Bool.and_eq_true] at hok
      obtain ⟨htl, hall⟩ := hok
      obtain ⟨xs, n', hn', _, hl, hlx, hget⟩ := DataW.trod_struct ht h
      have hn'' : n' = n := by omega
      subst hn''
      rw [← hl] at htl
      have hmem : ∀ f ∈ fs.toList, f.type ∈ ts := fun f hf => by
        have := List.all_eq_true.1 hall f hf
        simpa using this
      obtain ⟨t1, t2⟩ := tiles_le htl
      obtain ⟨parts, p1, p2, p3⟩ := fields_read (W := W) (enc := enc) (n := n') (ts := ts) (fun t cs x hm h => read_cells hts n' t cs x hm h) cs fs.toList 0 htl hmem (fun f hf => by
        obtain ⟨i, hi⟩ := List.getElem?_of_mem hf
        have hi' : fs[i]? = some f := by simpa using hi
        rw [hget i f hi']
        have hil : i < fs.size := (Array.getElem?_eq_some_iff.1 hi').1
        exact ⟨_, List.getElem?_eq_getElem (by omega)⟩) t1 t2
      refine ⟨parts.flatten, by simpa using p2, .struct t fs parts ht (by simpa using p1) (fun i f p hf hp => (p3 i f p (by simpa using hf) hp).1) (fun i f p hf hp => (p3 i f p (by simpa using hf) hp).2)⟩
    · cases hok

/-- What an argument reads as. -/
theorem rep_any {ts : List TypeId} (hts : ts.all (tyOk P ts) = true) {t : TypeId} (hm : t ∈ ts) {r : Reach} {b0 : Nat} {v : Value} {d : DataW H} {ps : List MemPlace} (hval : Value.okWide P W r b0 t v) (hd : DataW.Trod enc P W 0 (fun _ => true) true t v d ps) :
    ∃ x : PD, RepD (gh0 W) v (.p x) ∧ TyP P t x.cells ∧ ((∃ fs, P.underlying t = some (.struct fs)) → x = .agg x.cells) ∧ ((∀ fs, P.underlying t ≠ some (.struct fs)) → x.one = true) := by
  obtain ⟨fuel, hf⟩ := hd
  obtain ⟨xs, q, hty⟩ := read_cells hts fuel t _ _ hm hf
  have hok := List.all_eq_true.1 hts t hm
  have one : (∀ fs, P.underlying t ≠ some (.struct fs)) → v.cells = #[v] → ∃ x : PD, RepD (gh0 W) v (.p x) ∧ TyP P t x.cells ∧ ((∃ fs, P.underlying t = some (.struct fs)) → x = .agg x.cells) ∧ ((∀ fs, P.underlying t ≠ some (.struct fs)) → x.one = true) := by
    intro hns hv
    rw [hv] at q
    obtain ⟨q1, q2, q3⟩ := q
    match xs, q1 with
    | [x], _ =>
      have h1 := q2 x (by simp)
      have hc : x.cells = [x] := by cases x <;> first | rfl | cases h1
      exact ⟨x, .p _ _ (q3 0 v x rfl rfl), by rw [hc]; exact hty, fun ⟨fs, h⟩ => absurd h (hns fs), fun _ => h1⟩
  unfold tyOk at hok
  split at hok
  · rename_i ht
    obtain ⟨b, rfl⟩ := okWide_bool ht hval
    exact one (fun fs h => by rw [ht] at h; cases h) rfl
  · rename_i k ht
    obtain ⟨m, rfl⟩ := okWide_int ht hval
    exact one (fun fs h => by rw [ht] at h; cases h) rfl
  · rename_i ht
    obtain ⟨s, rfl⟩ := okWide_string ht hval
    exact one (fun fs h => by rw [ht] at h; cases h) rfl
  · rename_i e ht
    obtain ⟨a, l, c, rfl⟩ := okWide_slice ht hval
    exact one (fun fs h => by rw [ht] at h; cases h) rfl
  · rename_i fs ht
    obtain ⟨cs, rfl, _⟩ := okWide_struct ht hval
    obtain ⟨q1, q2, q3⟩ := q
    refine ⟨.agg xs, .p _ _ (.agg cs xs (by simpa [Value.cells] using q1.symm) q2 fun i x hx => ?_), hty, fun _ => rfl, fun h => absurd ht (h fs)⟩
    have hi : i < cs.size := by
      have := (List.getElem?_eq_some_iff.1 hx).1
      rw [q1] at this; simpa [Value.cells] using this
    refine q3 i _ x ?_ hx
    simp [Value.cells, Array.getD_eq_getD_getElem?, hi]
  · cases hok
end

end Go.Vs

/-! Contracts of the library's as entries of the evaluator; the row's wrap with the world's shape. -/
namespace Go.Vs
open Go.RowKit

variable {P : Program} {W : World} {G : Nat → Option (List PD)} {γ : Gh} {H : Hp} {w : World}

/-- What leaves all old blocks alone leaves the state alone. -/
theorem Inv.below (I : Inv G γ H w) {w' : World} (B : Below w.heap.size w w') : Frame γ H w γ H w' ∧ Inv G γ H w' := by
  have hb : ∀ b, b < w.heap.size → w'.heap[b]? = w.heap[b]? := fun b h => B.block b h
  refine ⟨⟨B.os, B.tape, B.output, B.size, fun b h _ => by rw [hb b h]; exact ⟨fun _ => rfl, .refl _ _⟩, fun _ _ _ _ => rfl, fun _ h => .inl h, fun _ _ h => .inl h⟩, ?_⟩
  constructor
  · exact Nat.le_trans I.size B.size
  · intro b T n h
    have := I.lt_of_tys h
    rw [hb b this]; exact I.tys b T n h
  · exact I.rowb
  · intro b o v h
    rw [cell_eq (w := w) (hb b (I.lt_of_mem h))]
    exact I.mem b o v h
  · exact I.globs
  · exact I.lenB
  · exact I.nodup
  · intro i b cs h1 h2
    rw [hb b (I.lt_of_box (List.mem_of_getElem? h1))]
    exact I.box i b cs h1 h2
  · exact I.boxmem
  · exact I.lenT
  · intro t row f h1 h2
    obtain ⟨r, a1, a2⟩ := I.row t row f h1 h2
    exact ⟨r, a1, a2.keep (fun _ _ h => h) (fun b cap hr hlt => hb b (I.lt_of_free ⟨row, f, cap, h1, h2, hr ▸ a1, hlt⟩)) (fun _ _ _ _ _ => rfl) (fun _ _ _ _ h => h)⟩
  · exact I.rowmax
  · exact I.free

/-- An entry whose outcome is a value, and which leaves all old blocks alone. -/
theorem lib_meets {f : Nat} {args : List D} {d : D} (hent : Enters P f)
    (h : ∀ γ w vs, InvS W G γ H w → RepL γ vs args → Calls P f vs w fun e w' => ∃ v, e = .returned v ∧ Below w.heap.size w w' ∧ RepD γ v d) : Meets P W G f args H (.val d) H := by
  refine ⟨hent, fun γ w vs I hv => (h γ w vs I hv).mono ?_⟩
  rintro e w' ⟨v, rfl, B, hr⟩
  obtain ⟨F, J⟩ := I.toInv.below B
  exact ⟨γ, .refl γ, F, I.up (.refl γ) F J, v, rfl, hr⟩

theorem repL_one {γ : Gh} {vs : Array Value} {d : D} (h : RepL γ vs [d]) : ∃ v, vs = #[v] ∧ RepD γ v d := by
  obtain ⟨hl, hr⟩ := h
  obtain ⟨l⟩ := vs
  match l, hl with
  | [v], _ =>
    have := hr 0 d rfl
    exact ⟨v, rfl, by simpa [Array.getD_eq_getD_getElem?] using this⟩

theorem repL_two {γ : Gh} {vs : Array Value} {d e : D} (h : RepL γ vs [d, e]) : ∃ v u, vs = #[v, u] ∧ RepD γ v d ∧ RepD γ u e := by
  obtain ⟨hl, hr⟩ := h
  obtain ⟨l⟩ := vs
  match l, hl with
  | [v, u], _ =>
    have h0 := hr 0 d rfl
    have h1 := hr 1 e rfl
    exact ⟨v, u, rfl, by simpa [Array.getD_eq_getD_getElem?] using h0, by simpa [Array.getD_eq_getD_getElem?] using h1⟩

theorem rep_tup2 {γ : Gh} {v u : Value} {d e : D} (h : RepD γ v d) (k : RepD γ u e) : RepD γ (.tuple #[v, u]) (.tup [d, e]) :=
  .tup _ _ rfl fun i x hx => by
    match i with
    | 0 => simp only [List.getElem?_cons_zero, Option.some.injEq] at hx; subst hx; exact h
    | 1 => simp only [List.getElem?_cons_succ, List.getElem?_cons_zero, Option.some.injEq] at hx; subst hx; exact k
    | i + 2 => simp at hx

end Go.Vs

namespace Go
variable {H : Type} {enc : TypeId × Value → H}

/-- The wrap of a row with listed variables, the world's shape kept. -/
theorem returnsInHanded_and_shaped {a : Assume} {C : Checked} {os : Os} {f : FuncId} {fn : Func} {s : ChangeSpec} {conds : List PathCond} {apart fresh handsOn again : Bool} {X : World → Array Value → Prop}
    (hX : ∀ (w w' : World) (args : Array Value), w.heap = w'.heap → X w args → X w' args)
    (own : ownKnob C.prog.godebug = none) (started : os.Started) (noInit : C.prog.inits.idxOf? f = none) (hfn : C.prog.funcs[f]? = some fn)
    (witness : ∃ (w : World) (tape : Tape) (i : Input), w.os = os ∧ (w.forCall tape i).Shaped C.prog ∧ i.vars = [] ∧ Input.okWide C.prog (w.forCall tape i) .any w.heap.size f i ∧
      ((s.pre enc C.prog fn conds apart (w.forCall tape i).memory i.args ∧ X (w.forCall tape i).memory i.args) ∧ sizedMet enc C.prog fn (OpenSpec.ofChange s) apart (w.forCall tape i).memory i.args) ∧ a.holds C.prog (lone (Frame.enter C.prog f i.args .normal) [] (w.forCall tape i)))
    (contract : ∀ (W : World) (base : Nat) (args : Array Value) (ds gs : List (DataW H)) (before : List MemPlace),
      (∀ (j : Nat) t v, fn.params[j]? = some t → args[j]? = some v → Value.okWide C.prog W .any base t v) →
      DataW.Whole enc C.prog fn.params.toList s.vars apart W args.toList ds gs before → X W args → W.ShapedOpen C.prog →
      Calls C.prog f args W fun e W' => ∃ v, e = .returned v ∧ s.post enc C.prog fn apart fresh handsOn again W args v W') :
    ReturnsInHanded a C os f .any (fun w args => (s.pre enc C.prog fn conds apart w args ∧ X w args) ∧ sizedMet enc C.prog fn (OpenSpec.ofChange s) apart w args) (s.post enc C.prog fn apart fresh handsOn again) := by
  refine returnsInHanded_of_calls own started noInit witness ?_
  intro w tape i _ hsh _ hok hpre _
  obtain ⟨_, _, _, fn', hfn', _, _, _, _, hval⟩ := hok
  have e : fn' = fn := Option.some.inj (hfn'.symm.trans hfn)
  subst e
  obtain ⟨⟨⟨ds, gs, before, hw, _⟩, hx⟩, _⟩ := hpre
  have hw' := DataW.Whole.of_heap (w' := w.forCall tape i) (by rfl) hw
  refine (contract (w.forCall tape i) w.heap.size i.args ds gs before hval hw' (hX _ _ _ (by rfl) hx) hsh).mono fun e W' ⟨v, he, hp⟩ => ?_
  subst he
  exact ChangeSpec.post_blind hp
end Go

/-! The evaluator's program is the cut's. -/
namespace Go.Proofs.YtalgjkpkkdljaaaDoor
open Go.Vs Go.RowKit

/-- What the library's contracts ask of the world at the start. -/
structure WOk (W : World) : Prop where
  tab : Lib.TabIs Tryd.prog W "internal/strconv.uint64pow10" .u64 Lib.pow10Tab

theorem tab_later {W w : World} (B : Below W.heap.size W w) {name : String} {k : IntKind} {zs : List Int} (h : Lib.TabIs Tryd.prog W name k zs) : Lib.TabIs Tryd.prog w name k zs := by
  unfold Lib.TabIs World.var? at h ⊢
  obtain ⟨g, hg, h2⟩ := Option.bind_eq_some_iff.1 h
  have hlt : g < W.heap.size := by
    rcases Nat.lt_or_ge g W.heap.size with q | q
    · exact q
    · rw [Array.getElem?_eq_none q] at h2; cases h2
  rw [hg]
  simp only [Option.bind_some]
  rw [B.block g hlt]; exact h2

variable {W : World}

theorem meets_itoa (hW : WOk W) (n : Int) (H : Hp) (h0 : -9223372036854775808 ≤ n) (h1 : n ≤ 9223372036854775807) : Meets Tryd.prog W pgG 63 [.p (.int .i64 n)] H (.val (.p (.str (Lib.itoa n)))) H :=
  lib_meets ⟨Tryd.f63, Tryd.func63, by kernel_rfl, by kernel_rfl⟩ fun γ w vs I hv => by
    obtain ⟨v, rfl, hr⟩ := repL_one hv
    rw [hr.p_inv.int_inv]
    refine (Any.strconv_Itoa lays171 n h0 h1 w (tab_later I.blw hW.tab)).mono ?_
    rintro e w' ⟨rfl, k, os, rfl⟩
    exact ⟨_, rfl, Lib.below_grow _ w (Nat.le_refl _) k os, .p _ _ (.str _)⟩

theorem meets_cc (H H' : Hp) (r : Res) (h : pgL 77 [.box 0 0] H = some (r, H')) : Meets Tryd.prog W pgG 77 [.box 0 0] H r H' := by
  refine ⟨⟨Tryd.f77, Tryd.func77, by kernel_rfl, by kernel_rfl⟩, fun γ w vs I hv => ?_⟩
  obtain ⟨v, rfl, hr⟩ := repL_one hv
  cases hr with
  | box _ _ b hb =>
    simp only [pgL] at h
    split at h
    · rename_i q l hbx
      cases h
      obtain ⟨us, T, fr, q1, q2, q3, q4⟩ := I.box 0 b _ hb (by rw [hbx]; rfl)
      have hm : isMapC (D.fresh 78 4 0 :: q) = false := by cases q <;> rfl
      rw [viewC_of hm] at q1
      have q20 := q2.2 0 _ rfl
      generalize hu : us.getD 0 undef = u at q20
      cases q20 with
      | fresh _ _ _ b' hb' ht =>
        rw [hb] at hb'
        cases hb'
        obtain ⟨us', fr', z1, z2, _⟩ := I.tys _ _ _ ht
        rw [q1] at z1
        cases z1
        have hus : 0 < us.size := by omega
        have h0 : us[0]? = some (.pointer none) := by
          rw [Array.getElem?_eq_getElem hus]
          simpa [Array.getD_eq_getD_getElem?, hus] using hu
        have hcl := q4 (by simp)
        refine (cc_fresh b w (by simp only [World.cell?, q1]; simpa using h0) (by simp [World.shape?, q1, z2]) ?_).mono ?_
        · have := hcl 0 (Nat.le_refl _) hus
          simp only [World.frozen?, q1]
          obtain ⟨f1, f2⟩ := fr
          simp only at this ⊢
          cases hd : (decide (f1 ≤ 0) && decide (0 < f2)) with
          | false => rfl
          | true => simp at hd; exact (this ⟨by simp; omega, by simpa using hd.2⟩).elim
        · rintro e w' ⟨rfl, rfl⟩
          have hst := I.toInv.store (off := 0) hb (by rw [hbx]; rfl) (us := [.pointer (some ⟨b, 0, none⟩)]) (ds := [.box 0 0]) (repL1 (.box 0 0 b hb)) (fun d hd => by simp at hd; subst hd; rfl) (by simp) q1 hcl q2 hm
          have hw : w.setCell ⟨b, 0, none⟩ (.pointer (some ⟨b, 0, none⟩)) = w.setRow b (us.toList.take 0 ++ [Value.pointer (some ⟨b, 0, none⟩)] ++ us.toList.drop (0 + [Value.pointer (some ⟨b, 0, none⟩)].length)).toArray := by
            rw [setCell_eq_setRow w b 0 us _ fr _ q1]
            congr 1
            apply Array.ext'
            obtain ⟨l⟩ := us
            match l, hus with
            | x :: l, _ => simp
          have hs : ∀ bx : List (List D), bx = (.fresh 78 4 0 :: q) :: l → bx.set 0 (Vs.splice (.fresh 78 4 0 :: q) 0 [.box 0 0]) = (.box 0 0 :: q) :: l := by
            intro bx hb; subst hb; simp [Vs.splice]
          rw [hs _ hbx] at hst
          obtain ⟨F, J⟩ := hst
          rw [hw]
          exact ⟨γ, .refl γ, F, I.up (.refl γ) F J, _, rfl, .undef⟩
    · rename_i q l hbx
      cases h
      obtain ⟨us, T, fr, q1, q2, q3, q4⟩ := I.box 0 b _ hb (by rw [hbx]; rfl)
      have hm : isMapC (D.box 0 0 :: q) = false := by cases q <;> rfl
      rw [viewC_of hm] at q1
      have q20 := q2.2 0 _ rfl
      have hus : 0 < us.size := by have := q2.1; simp at this; omega
      generalize hu : us.getD 0 undef = u at q20
      cases q20 with
      | box _ _ b' hb' =>
        rw [hb] at hb'
        cases hb'
        have h0 : us[0]? = some (.pointer (some ⟨b, 0, none⟩)) := by
          rw [Array.getElem?_eq_getElem hus]
          simpa [Array.getD_eq_getD_getElem?, hus] using hu
        refine (cc_used b w (by simp only [World.cell?, q1]; simpa using h0)).mono ?_
        rintro e w' ⟨rfl, rfl⟩
        exact ⟨γ, .refl γ, .refl γ H w', I, _, rfl, .undef⟩
    · cases h

theorem lib_sound (hW : WOk W) : Sound Tryd.prog W pg.G pg.lib := by
  intro f args H r H' h
  have h : pgL f args H = some (r, H') := h
  have h0 := h
  unfold pgL at h
  split at h
  · split at h
    · rename_i hc; cases h; exact meets_itoa hW _ _ hc.1 hc.2
    · cases h
  · exact meets_cc _ _ _ h0
  · cases h

theorem pg_ok (hW : WOk W) : PgOk Tryd.prog W pg where
  mixed := Checked.mixed Tryd.checked
  lib := lib_sound hW
  fn := fun f fc h => by
    have h : pgF f = some fc := h
    unfold pgF at h
    split at h
    · cases h; exact ok3
    · cases h; exact ok4
    · cases h; exact ok5
    · cases h; exact ok6
    · cases h; exact ok7
    · cases h; exact ok8
    · cases h; exact ok9
    · cases h; exact ok10
    · cases h; exact ok11
    · cases h; exact ok12
    · cases h; exact ok13
    · cases h; exact ok14
    · cases h; exact ok15
    · cases h; exact ok16
    · cases h; exact ok17
    · cases h; exact ok18
    · cases h; exact ok19
    · cases h; exact ok20
    · cases h; exact ok21
    · cases h; exact ok22
    · cases h; exact ok23
    · cases h; exact ok24
    · cases h; exact ok25
    · cases h; exact ok26
    · cases h; exact ok27
    · cases h; exact ok28
    · cases h; exact ok29
    · cases h; exact ok30
    · cases h; exact ok31
    · cases h; exact ok32
    · cases h; exact ok33
    · cases h; exact ok34
    · cases h; exact ok35
    · cases h; exact ok36
    · cases h; exact ok37
    · cases h; exact ok38
    · cases h; exact ok39
    · cases h; exact ok40
    · cases h; exact ok41
    · cases h; exact ok42
    · cases h; exact ok43
    · cases h; exact ok44
    · cases h; exact ok45
    · cases h; exact ok46
    · cases h; exact ok47
    · cases h; exact ok48
    · cases h; exact ok49
    · cases h; exact ok50
    · cases h; exact ok51
    · cases h; exact ok52
    · cases h; exact ok53
    · cases h; exact ok54
    · cases h; exact ok55
    · cases h; exact ok56
    · cases h; exact ok57
    · cases h; exact ok58
    · cases h; exact ok59
    · cases h; exact ok60
    · cases h; exact ok61
    · cases h; exact ok62
    · cases h; exact ok64
    · cases h; exact ok65
    · cases h; exact ok66
    · cases h; exact ok67
    · cases h; exact ok68
    · cases h; exact ok69
    · cases h; exact ok70
    · cases h; exact ok71
    · cases h; exact ok72
    · cases h; exact ok73
    · cases h; exact ok74
    · cases h; exact ok75
    · cases h; exact ok76
    · cases h; exact ok78
    · cases h; exact ok79
    · cases h

end Go.Proofs.YtalgjkpkkdljaaaDoor

/-! What the library's contracts ask of the world at the start: from the listed variables and the world's shape. -/
namespace Go.Proofs.YtalgjkpkkdljaaaDoor
open Go.Vs Go.ChangeShapes Go.WideShapes Go.ChangeAt Go.WideMaps Go.WideElems Go.RowKit

abbrev laidL : List (String × DataW Unit) := [("math/bits.deBruijn32tab", Rows.laid_math_bits_deBruijn32tab), ("math/bits.deBruijn64tab", Rows.laid_math_bits_deBruijn64tab), ("internal/strconv.uint64pow10", Rows.laid_internal_strconv_uint64pow10)]

theorem own : ownKnob Tryd.prog.godebug = none := by kernel_rfl
theorem laidOut : laidOutB Tryd.prog = true := by kernel_rfl
theorem gTab : Tryd.prog.globalNamed "internal/strconv.uint64pow10" = some 0 := by kernel_rfl
theorem tTab : (Tryd.prog.globals[0]?).map (·.type) = some 122 := by kernel_rfl

theorem door_met (os : Os) (args : Array Value) : laidMetH Tryd.prog laidL ((World.laidAll Tryd.prog os laidL).forCall (fun _ _ => 0) ⟨#[], args, []⟩).memory := by
  rw [MakeChecks.laidMetH_plain _ _ _ (by kernel_rfl)]
  exact laidMet_laidAll _ (by kernel_rfl) (by kernel_rfl)

set_option maxRecDepth 20000 in
theorem wok {W : World} (h : laidMetH Tryd.prog laidL W) : WOk W := by
  rw [MakeChecks.laidMetH_plain _ _ _ (by kernel_rfl)] at h
  obtain ⟨ps, ⟨g0, t0, cs0, f0, p0, q0, _, _, _, _, ⟨g1, t1, cs1, f1, p1, q1, _, _, _, _, ⟨g2, t2, cs2, f2, p2, q2, hg2, ht2, hv2, hd2, _⟩, _⟩, _⟩, _⟩ := h
  obtain rfl := Option.some.inj (gTab.symm.trans hg2)
  obtain rfl := Option.some.inj (tTab.symm.trans ht2)
  refine ⟨?_⟩
  unfold Lib.TabIs
  rw [hv2]
  have h5 := Tryd.underlying122
  have h6 := Tryd.underlying116
  have e5 : (Rows.laid_internal_strconv_uint64pow10 : DataW Unit) = Lib.tabData .u64 Lib.pow10Tab := by kernel_rfl
  rw [e5] at hd2
  have := Lib.cells_of_tab (zs := Lib.pow10Tab) h5 h6 (by kernel_rfl) (by kernel_rfl) hd2
  rw [← this]

end Go.Proofs.YtalgjkpkkdljaaaDoor

/-! Readings of arguments, by their type. -/
namespace Go.Vs
variable {P : Program} {t e : TypeId} {xs : List PD}

theorem typ_slice (ht : P.underlying t = some (.slice e)) (h : TyP P t xs) : xs = [.nils] ∨ xs = [.emp (P.cellsOf e)] ∨
    ∃ es, es ≠ [] ∧ es.length ≤ maxLen ∧ xs = [.slice (P.cellsOf e) es] ∧ (∀ x ∈ es, TyP P e x.cells) ∧ ∀ x ∈ es, x = mkE P e x.cells := by
  cases h with
  | bool _ b hb => rw [ht] at hb; cases hb
  | int _ k n hb => rw [ht] at hb; cases hb
  | str _ s hb => rw [ht] at hb; cases hb
  | nils _ e' hb => exact .inl rfl
  | emp _ e' hb => rw [ht] at hb; cases hb; exact .inr (.inl rfl)
  | sl _ e' es hne hb hl h hs hm => rw [ht] at hb; cases hb; exact .inr (.inr ⟨es, hne, hl, rfl, h, hm⟩)
  | struct _ fs parts hb => rw [ht] at hb; cases hb

theorem typ_int {k : IntKind} (ht : P.underlying t = some (.int k)) (h : TyP P t xs) : ∃ n, xs = [.int k n] ∧ (Lit.int k n).wf = true := by
  cases h with
  | bool _ b hb => rw [ht] at hb; cases hb
  | int _ k n hb hw => rw [ht] at hb; cases hb; exact ⟨n, rfl, hw⟩
  | str _ s hb => rw [ht] at hb; cases hb
  | nils _ e' hb => rw [ht] at hb; cases hb
  | emp _ e' hb => rw [ht] at hb; cases hb
  | sl _ e' es hne hb hl h hs hm => rw [ht] at hb; cases hb
  | struct _ fs parts hb => rw [ht] at hb; cases hb

theorem typ_bool (ht : P.underlying t = some .bool) (h : TyP P t xs) : ∃ b, xs = [.bool b] := by
  cases h with
  | bool _ b hb => exact ⟨b, rfl⟩
  | int _ k n hb hw => rw [ht] at hb; cases hb
  | str _ s hb => rw [ht] at hb; cases hb
  | nils _ e' hb => rw [ht] at hb; cases hb
  | emp _ e' hb => rw [ht] at hb; cases hb
  | sl _ e' es hne hb hl h hs hm => rw [ht] at hb; cases hb
  | struct _ fs parts hb => rw [ht] at hb; cases hb

theorem typ_str (ht : P.underlying t = some .string) (h : TyP P t xs) : ∃ s, xs = [.str s] ∧ s.length ≤ maxLen := by
  cases h with
  | bool _ b hb => rw [ht] at hb; cases hb
  | int _ k n hb hw => rw [ht] at hb; cases hb
  | str _ s hb hs => exact ⟨s, rfl, hs⟩
  | nils _ e' hb => rw [ht] at hb; cases hb
  | emp _ e' hb => rw [ht] at hb; cases hb
  | sl _ e' es hne hb hl h hs hm => rw [ht] at hb; cases hb
  | struct _ fs parts hb => rw [ht] at hb; cases hb

theorem typ_struct {fs : Array Field} (ht : P.underlying t = some (.struct fs)) (h : TyP P t xs) : ∃ parts : List (List PD), xs = parts.flatten ∧ parts.length = fs.size ∧
    ∀ (i : Nat) f p, fs[i]? = some f → parts[i]? = some p → TyP P f.type p := by
  cases h with
  | bool _ b hb => rw [ht] at hb; cases hb
  | int _ k n hb hw => rw [ht] at hb; cases hb
  | str _ s hb hs => rw [ht] at hb; cases hb
  | nils _ e' hb => rw [ht] at hb; cases hb
  | emp _ e' hb => rw [ht] at hb; cases hb
  | sl _ e' es hne hb hl h hs hm => rw [ht] at hb; cases hb
  | struct _ fs' parts hb hl h hs => rw [ht] at hb; cases hb; exact ⟨parts, rfl, hl, h⟩

theorem mkE_one {c : PD} (hn : ∀ fs, P.underlying e ≠ some (.struct fs)) : mkE P e [c] = c := by
  unfold mkE
  cases he : P.underlying e with
  | none => rfl
  | some d => cases d <;> first | exact absurd he (hn _) | rfl

theorem mkE_struct {fs : Array Field} (h : P.underlying e = some (.struct fs)) : mkE P e xs = .agg xs := by
  unfold mkE; rw [h]

theorem i64_wf {n : Int} (h : (Lit.int .i64 n).wf = true) : -9223372036854775808 ≤ n ∧ n ≤ 9223372036854775807 := by
  simp [Lit.wf, IntKind.min, IntKind.max, IntKind.signed, IntKind.bits] at h
  omega

end Go.Vs

/-! Trees and specifications as arguments: what their cells read as. -/
namespace Go.Proofs.YtalgjkpkkdljaaaDoor
open Go.Vs Go.ChangeShapes Go.WideShapes Go.RowKit

theorem list_of {α : Type} {f : α → PD} : ∀ {es : List PD}, (∀ x ∈ es, ∃ a, x = f a) → ∃ l : List α, es = l.map f
  | [], _ => ⟨[], rfl⟩
  | x :: es, h => by
    obtain ⟨a, rfl⟩ := h x (by simp)
    obtain ⟨l, rfl⟩ := list_of (es := es) fun y hy => h y (by simp [hy])
    exact ⟨a :: l, rfl⟩

theorem arg_sl {t e sz : Nat} {α : Type} {f : α → PD} {xs : List PD} (ht : Tryd.prog.underlying t = some (.slice e)) (hc : Tryd.prog.cellsOf e = sz) (h : TyP Tryd.prog t xs)
    (he : ∀ es x, xs = [.slice sz es] → x ∈ es → TyP Tryd.prog e x.cells → x = mkE Tryd.prog e x.cells → ∃ a, x = f a) : ∃ o : Sl α, xs = [slP sz (o.map f)] := by
  subst hc
  rcases typ_slice ht h with rfl | rfl | ⟨es, hne, hl, rfl, h1, h2⟩
  · exact ⟨.nil, rfl⟩
  · exact ⟨.of [], rfl⟩
  · obtain ⟨l, rfl⟩ := list_of fun x hx => he es x rfl hx (h1 x hx) (h2 x hx)
    refine ⟨.of l, ?_⟩
    cases l with
    | nil => exact absurd rfl hne
    | cons z zs => rfl

theorem sl_nd (o : Sl Nd) : ∃ c ks, o = ndSl c ks := by
  match o with
  | .nil => exact ⟨0, [], rfl⟩
  | .amb => exact ⟨1, [], rfl⟩
  | .of [] => exact ⟨2, [], rfl⟩
  | .of (x :: l) => exact ⟨2, x :: l, rfl⟩

theorem arg_node : ∀ (n : Nat) (xs : List PD), SizeOf.sizeOf xs ≤ n → TyP Tryd.prog 24 xs → ∃ a : Nd, xs = a.cells := by
  intro n
  induction n with
  | zero => intro xs h; cases xs <;> simp at h
  | succ n ih =>
    intro xs hs h
    obtain ⟨parts, rfl, hl, hf⟩ := typ_struct Tryd.underlying24 h
    match parts, hl with
    | [a, b, c, d, e], _ =>
      obtain ⟨op, rfl, _⟩ := typ_int Tryd.underlying3 (hf 0 _ a rfl rfl)
      obtain ⟨nm, rfl, _⟩ := typ_str Tryd.underlying9 (hf 1 _ b rfl rfl)
      obtain ⟨k, rfl, _⟩ := typ_int Tryd.underlying3 (hf 2 _ c rfl rfl)
      obtain ⟨pos, rfl, _⟩ := typ_int Tryd.underlying3 (hf 4 _ e rfl rfl)
      have hd := hf 3 _ d rfl rfl
      obtain ⟨o, rfl⟩ := arg_sl (f := Nd.pd) (sz := 5) Tryd.underlying22 (by kernel_rfl) hd fun es x hes hx h1 h2 => by
        rw [mkE_struct Tryd.underlying24] at h2
        have hlt : SizeOf.sizeOf x < SizeOf.sizeOf es := List.sizeOf_lt_of_mem hx
        have hx2 : SizeOf.sizeOf x = 1 + SizeOf.sizeOf x.cells := by
          have : SizeOf.sizeOf (PD.agg x.cells) = 1 + SizeOf.sizeOf x.cells := by simp
          rw [← h2] at this; exact this
        subst hes
        simp at hs
        obtain ⟨y, hy⟩ := ih x.cells (by omega) h1
        exact ⟨y, by rw [h2, hy, pd_cells]⟩
      obtain ⟨c, ks, rfl⟩ := sl_nd o
      exact ⟨.mk op nm k c ks pos, by simp [Nd.cells, Nd.op, Nd.nm, Nd.n, Nd.pos, Nd.kidsP, Nd.c, Nd.ks]⟩

theorem node_of {xs : List PD} (h : TyP Tryd.prog 24 xs) : ∃ a : Nd, xs = a.cells := arg_node _ _ (Nat.le_refl _) h

theorem arg_int {xs : List PD} (h : TyP Tryd.prog 46 xs) : ∃ o : Sl Int, xs = [intsP o] :=
  arg_sl (f := PD.int .i64) Tryd.underlying46 (by kernel_rfl) h fun es x _ _ h1 h2 => by
    obtain ⟨n, e1, _⟩ := typ_int Tryd.underlying3 h1
    rw [e1, mkE_one (fun fs e => by rw [Tryd.underlying3] at e; cases e)] at h2
    exact ⟨n, h2⟩

theorem arg_srts {xs : List PD} (h : TyP Tryd.prog 25 xs) : ∃ o : Sl Srt, xs = [srtsP o] :=
  arg_sl (f := Srt.pd) Tryd.underlying25 (by kernel_rfl) h fun es x _ _ h1 h2 => by
    rw [mkE_struct Tryd.underlying45] at h2
    obtain ⟨parts, e, hl, hf⟩ := typ_struct Tryd.underlying45 h1
    match parts, hl with
    | [a, b], _ =>
      obtain ⟨nm, rfl, _⟩ := typ_str Tryd.underlying9 (hf 0 _ a rfl rfl)
      obtain ⟨o, rfl⟩ := typ_bool Tryd.underlying4 (hf 1 _ b rfl rfl)
      exact ⟨⟨nm, o⟩, by rw [h2, e]; rfl⟩

theorem arg_prms {xs : List PD} (h : TyP Tryd.prog 51 xs) : ∃ o : Sl Prm, xs = [prmsP o] :=
  arg_sl (f := Prm.pd) Tryd.underlying51 (by kernel_rfl) h fun es x _ _ h1 h2 => by
    rw [mkE_struct Tryd.underlying50] at h2
    obtain ⟨parts, e, hl, hf⟩ := typ_struct Tryd.underlying50 h1
    match parts, hl with
    | [a, b], _ =>
      obtain ⟨nm, rfl, _⟩ := typ_str Tryd.underlying9 (hf 0 _ a rfl rfl)
      obtain ⟨o, rfl, _⟩ := typ_int Tryd.underlying3 (hf 1 _ b rfl rfl)
      exact ⟨⟨nm, o⟩, by rw [h2, e]; rfl⟩

theorem arg_flds {xs : List PD} (h : TyP Tryd.prog 26 xs) : ∃ o : Sl Fld, xs = [fldsP o] :=
  arg_sl (f := Fld.pd) Tryd.underlying26 (by kernel_rfl) h fun es x _ _ h1 h2 => by
    rw [mkE_struct Tryd.underlying48] at h2
    obtain ⟨parts, e, hl, hf⟩ := typ_struct Tryd.underlying48 h1
    match parts, hl with
    | [a, b, c], _ =>
      obtain ⟨nm, rfl, _⟩ := typ_str Tryd.underlying9 (hf 0 _ a rfl rfl)
      obtain ⟨l, rfl⟩ := arg_int (hf 1 _ b rfl rfl)
      obtain ⟨v, rfl⟩ := typ_bool Tryd.underlying4 (hf 2 _ c rfl rfl)
      exact ⟨⟨nm, l, v⟩, by rw [h2, e]; rfl⟩

theorem arg_prds {xs : List PD} (h : TyP Tryd.prog 27 xs) : ∃ o : Sl Prd, xs = [prdsP o] :=
  arg_sl (f := Prd.pd) Tryd.underlying27 (by kernel_rfl) h fun es x _ _ h1 h2 => by
    rw [mkE_struct Tryd.underlying53] at h2
    obtain ⟨parts, e, hl, hf⟩ := typ_struct Tryd.underlying53 h1
    match parts, hl with
    | [a, b, c], _ =>
      obtain ⟨nm, rfl, _⟩ := typ_str Tryd.underlying9 (hf 0 _ a rfl rfl)
      obtain ⟨l, rfl⟩ := arg_prms (hf 1 _ b rfl rfl)
      obtain ⟨v, rfl⟩ := node_of (hf 2 _ c rfl rfl)
      exact ⟨⟨nm, l, v⟩, by rw [h2, e]; simp [Prd.pd, Prd.cells]⟩

theorem arg_fcts {xs : List PD} (h : TyP Tryd.prog 28 xs) : ∃ o : Sl Fct, xs = [fctsP o] :=
  arg_sl (f := Fct.pd) Tryd.underlying28 (by kernel_rfl) h fun es x _ _ h1 h2 => by
    rw [mkE_struct Tryd.underlying55] at h2
    obtain ⟨parts, e, hl, hf⟩ := typ_struct Tryd.underlying55 h1
    match parts, hl with
    | [a, b], _ =>
      obtain ⟨nm, rfl, _⟩ := typ_str Tryd.underlying9 (hf 0 _ a rfl rfl)
      obtain ⟨v, rfl⟩ := node_of (hf 1 _ b rfl rfl)
      exact ⟨⟨nm, v⟩, by rw [h2, e]; simp [Fct.pd, Fct.cells]⟩

theorem arg_spc {xs : List PD} (h : TyP Tryd.prog 30 xs) : ∃ x : Spc, xs = x.cells := by
  obtain ⟨parts, e, hl, hf⟩ := typ_struct Tryd.underlying30 h
  match parts, hl with
  | [a, b, c, d], _ =>
    obtain ⟨s, rfl⟩ := arg_srts (hf 0 _ a rfl rfl)
    obtain ⟨f, rfl⟩ := arg_flds (hf 1 _ b rfl rfl)
    obtain ⟨p, rfl⟩ := arg_prds (hf 2 _ c rfl rfl)
    obtain ⟨q, rfl⟩ := arg_fcts (hf 3 _ d rfl rfl)
    exact ⟨⟨s, f, p, q⟩, by rw [e]; rfl⟩

abbrev argTs : List TypeId := [24, 22, 30, 25, 26, 27, 28, 45, 48, 53, 55, 50, 51, 46, 3, 9, 4]

theorem argTs_ok : argTs.all (tyOk Tryd.prog argTs) = true := by kernel_rfl

set_option maxRecDepth 20000 in
theorem rep_node {H : Type} {enc : TypeId × Value → H} {W : World} {r : Reach} {b0 : Nat} {v : Value} {d : DataW H} {ps : List MemPlace}
    (hval : Value.okWide Tryd.prog W r b0 24 v) (hd : DataW.Trod enc Tryd.prog W 0 (fun _ => true) true 24 v d ps) :
    ∃ a : Nd, RepD (gh0 W) v (.p a.pd) := by
  obtain ⟨x, h1, h2, h3, _⟩ := rep_any argTs_ok (by simp) hval hd
  obtain ⟨a, e⟩ := node_of h2
  have hx := h3 ⟨_, Tryd.underlying24⟩
  exact ⟨a, by rw [pd_cells, ← e, ← hx]; exact h1⟩

set_option maxRecDepth 20000 in
theorem rep_spec {H : Type} {enc : TypeId × Value → H} {W : World} {r : Reach} {b0 : Nat} {v : Value} {d : DataW H} {ps : List MemPlace}
    (hval : Value.okWide Tryd.prog W r b0 30 v) (hd : DataW.Trod enc Tryd.prog W 0 (fun _ => true) true 30 v d ps) :
    ∃ a : Spc, RepD (gh0 W) v (.p a.pd) := by
  obtain ⟨x, h1, h2, h3, _⟩ := rep_any argTs_ok (by simp) hval hd
  obtain ⟨a, e⟩ := arg_spc h2
  have hx := h3 ⟨_, Tryd.underlying30⟩
  exact ⟨a, by rw [Spc.pd, ← e, ← hx]; exact h1⟩

theorem i8_range {n : Int} (h : (Lit.int .i8 n).wf = true) : -128 ≤ n ∧ n ≤ 127 := by
  simp [Lit.wf, IntKind.min, IntKind.max, IntKind.bits, IntKind.signed] at h
  omega

theorem trodAll_six {H : Type} {enc : TypeId × Value → H} {W : World} {base : Nat} {sp : Nat → Bool} {held : Bool} {t0 t1 t2 t3 t4 t5 : TypeId} {args : Array Value} {ds : List (DataW H)} {ps : List MemPlace} (h : DataW.TrodAll enc Tryd.prog W base sp held [t0, t1, t2, t3, t4, t5] args.toList ds ps) :
    ∃ v0 v1 v2 v3 v4 v5 d0 d1 d2 d3 d4 d5, args = #[v0, v1, v2, v3, v4, v5] ∧ ds = [d0, d1, d2, d3, d4, d5] ∧ (∃ p, DataW.Trod enc Tryd.prog W base sp held t0 v0 d0 p) ∧ (∃ p, DataW.Trod enc Tryd.prog W base sp held t1 v1 d1 p) ∧ (∃ p, DataW.Trod enc Tryd.prog W base sp held t2 v2 d2 p) ∧ (∃ p, DataW.Trod enc Tryd.prog W base sp held t3 v3 d3 p) ∧ (∃ p, DataW.Trod enc Tryd.prog W base sp held t4 v4 d4 p) ∧ ∃ p, DataW.Trod enc Tryd.prog W base sp held t5 v5 d5 p := by
  obtain ⟨v0, _, d0, _, _, _, hargs, rfl, rfl, h0, r0⟩ := trodAll_cons h
  obtain ⟨v1, _, d1, _, _, _, rfl, rfl, rfl, h1, r1⟩ := trodAll_cons r0
  obtain ⟨v2, _, d2, _, _, _, rfl, rfl, rfl, h2, r2⟩ := trodAll_cons r1
  obtain ⟨v3, _, d3, _, _, _, rfl, rfl, rfl, h3, r3⟩ := trodAll_cons r2
  obtain ⟨v4, _, d4, _, _, _, rfl, rfl, rfl, h4, r4⟩ := trodAll_cons r3
  obtain ⟨v5, _, d5, _, _, _, rfl, rfl, rfl, h5, r5⟩ := trodAll_cons r4
  obtain ⟨rfl, rfl, rfl⟩ := trodAll_nil r5
  exact ⟨v0, v1, v2, v3, v4, v5, d0, d1, d2, d3, d4, d5, by cases args; simp_all, rfl, ⟨_, h0⟩, ⟨_, h1⟩, ⟨_, h2⟩, ⟨_, h3⟩, ⟨_, h4⟩, ⟨_, h5⟩⟩

end Go.Proofs.YtalgjkpkkdljaaaDoor
