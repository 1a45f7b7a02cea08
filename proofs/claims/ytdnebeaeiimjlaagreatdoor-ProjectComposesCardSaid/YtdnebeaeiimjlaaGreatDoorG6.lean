/-
  A value-level evaluator for Go functions; the functions of this cut by it; plain laws. Text G6.
-/
import Derived.Test.YtdnebeaeiimjlaaGreatDoorG5
import Derived.Test.YtdnebeaeiimjlaaGreatDoorP2
import Derived.Test.YtdnebeaeiimjlaaGreatDoorG4
import Derived.Test.YtdnebeaeiimjlaaGreatDoorPk

section
open Go.Vs Go.Proofs.YtdnebeaeiimjlaaGreatDoor
attribute [local simp] evKC evK evGuard put Env.get Env.keep entry Opd.ev loadD storeD splice cutAt indexD D.asInt? D.asNat? u8 binD strBin unD boundsD sub minmaxD eqvL PD.eqv clsP cls clsR isCl isW apartRW offB apartWW clash insOk finish evRes evRes1 mapO D.refsL D.refs D.toksL D.toks mkAgg pures fillD fillE appendD srcD D.elems? D.asPD Int.toNat_natCast srcH srcBH eqD D.asPDL isMapC lenD_str lenD_nils lenD_sl lenD_fsl lenD_tsl iaddr_box iaddr_ro gives nx condK_if opsG_if drG_if Int.natCast_inj one_p locD below Out.ren D.ren D.renL get_ren fin_agg2 cells_of_one pcells_of_one cells_pagg pcells_agg cells_dagg cells_box cells_tsl cells_fsl cells_gsl cells_msl cells_fn cells_mapr cells_pint cells_pbool cells_pstr cells_pslice cells_pnils pcells_int pcells_bool pcells_str
namespace Go.Proofs.YtdnebeaeiimjlaaGreatDoor
open Go.Vs
set_option maxRecDepth 100000
theorem all_ix {α : Type} {l : List α} {P : α → Prop} : (∀ i, i < l.length → ∀ x, l[i]? = some x → P x) ↔ ∀ x ∈ l, P x := by
 constructor
 ·intro h x hx
  obtain ⟨i, hi, rfl⟩ := List.getElem_of_mem hx
  exact h i hi _ (List.getElem?_eq_getElem hi)
 ·intro h i hi x hx
  exact h x (List.mem_of_getElem? hx)
theorem not_ix {α : Type} {l : List α} {P : α → Prop} {i : Nat} (hi : i < l.length) (h : ¬ ∀ x, l[i]? = some x → P x) : ¬ P l[i] := fun hh => h fun x hx => by
 rw [List.getElem?_eq_getElem hi] at hx; cases hx; exact hh
theorem at_ix {α : Type} {l : List α} {P : α → Prop} {i : Nat} (hi : i < l.length) (h : ∀ x, l[i]? = some x → P x) : P l[i] := h _ (List.getElem?_eq_getElem hi)
theorem requal_call (a b : Sl Int) (x y : Int) (ha : (els a).length < 4611686018427387904) :
    ∃ r : Bool, (∀ H, callD (call pgL) 26 [.p (.agg [.int .i64 x, intsP a]), .p (.agg [.int .i64 y, intsP b])] H = some (.val (.p (.bool r)), H)) ∧ (r = true ↔ x = y ∧ els a = els b) := by
 have hb0 : bd wf26 0 = bd wf26 0 := rfl
 conv at hb0 => rhs; reduce
 have hf : wf26 = wf26 := rfl
 conv at hf => rhs; reduce
 rw [← hb0] at hf
 by_cases hxy : x = y
 ·by_cases hl : (els a).length = (els b).length
  ·have key := loopA (c := call pgL) (G := pgL.G) (keep := [2, 3, 5]) (b := bd wf26 0) (fun i => [(2, .box 0 0), (3, .box 1 0), (5, .p (.int .i64 ((i : Nat) : Int)))]) ⟨[[.p (.int .i64 (x)), .p (intsP a)], [.p (.int .i64 (y)), .p (intsP b)]], []⟩ (els a).length
    (fun i => (els a)[i]? = (els b)[i]?) 0 (fun _ => True) (fun e => e.get 4 = .p (.bool false)) ?_ ?_ ?_
   ·rcases key with ⟨e, hx, -, hp⟩ | ⟨e, hx, hr, hp⟩
    ·refine ⟨true, callP (aa := [_, _]) hf rfl rfl rfl ?_, iff_of_true rfl ⟨hxy, ?_⟩⟩
     ·clear hf hb0
      simp at hx
      simp [len_ints, hl, hxy] at hx ⊢
      simp [hx]
     ·refine List.ext_getElem? fun i => ?_
      rcases Nat.lt_or_ge i (els a).length with h | h
      ·exact hp i h
      ·rw [List.getElem?_eq_none h, List.getElem?_eq_none (hl ▸ h)]
    ·refine ⟨false, callP (aa := [_, _]) hf rfl rfl rfl ?_, iff_of_false (by simp) fun hh => hp fun i _ => by rw [hh.2]⟩
     clear hf hb0
     simp [len_ints, hl, hxy] at hx ⊢
     simp [hx, hr]
   ·intro i hi hP
    rw [hb0]; clear hf hb0
    have hi2 : i < (els b).length := hl ▸ hi
    rw [List.getElem?_eq_getElem hi, List.getElem?_eq_getElem hi2, Option.some.injEq] at hP
    simp [len_ints, ia_ints hi, ia_ints hi2, hi, hP, inc64 (k := i) (by omega)]
   ·intro i hi hP
    rw [hb0]; clear hf hb0
    have hi2 : i < (els b).length := hl ▸ hi
    rw [List.getElem?_eq_getElem hi, List.getElem?_eq_getElem hi2, Option.some.injEq] at hP
    simp [len_ints, ia_ints hi, ia_ints hi2, hi, hP]
   ·rw [hb0]; clear hf hb0
    simp [len_ints]
  ·refine ⟨false, callP (aa := [_, _]) hf rfl rfl rfl ?_, iff_of_false (by simp) fun h => hl (by rw [h.2])⟩
   clear hf hb0
   simp [len_ints, hl, hxy]
 ·refine ⟨false, callP (aa := [_, _]) hf rfl rfl rfl ?_, iff_of_false (by simp) fun h => hxy h.1⟩
  clear hf hb0
  simp [hxy]

variable {so f3 f4 : PD} {ns : Nat} {fi : Sl Fi} {a : Sl Int} {ss : Sl (Sl Rl)} {st lp : Int}
def SmallP (ns : Nat) (fi : List Fi) (a : List Int) (ss : List (Sl Rl)) : Prop :=
 ns ≤ 10 ∧ fi.length ≤ 10 ∧ ss.length ≤ 64 ∧ a.length ≤ 10 ∧ (∀ x ∈ ss, (els x).length ≤ 10 ∧ ∀ r ∈ els x, (els r.tu).length ≤ 200) ∧ ∀ f ∈ fi, (els f.so).length ≤ 10
theorem small_call (hso : lenD 1 (.p so) = some ns) (o1 : so.one = true) (o3 : f3.one = true) (o4 : f4.one = true) :
    ∃ r : Bool, (∀ H, callD (call pgL) 5 [.p (.agg [so, fieldsP fi, f3, f4]), .p (.agg [intsP a, .int .i64 st, statesP ss, .int .i64 lp])] H = some (.val (.p (.bool r)), H)) ∧
     (r = true ↔ SmallP ns (els fi) (els a) (els ss)) := by
 have key1 := fun (i : Nat) (hi : i < (els ss).length) (hl : (els (els ss)[i]).length ≤ 10) => loopA (c := call pgL) (G := pgL.G) (keep := [2, 3, 5, 6]) (b := bd wf5 1) (fun k => [(2, .box 0 0), (3, .box 1 0), (5, .p (.int .i64 ((i : Nat) : Int))), (6, .p (.int .i64 ((k : Nat) : Int)))])
  ⟨[[.p (so), .p (fieldsP fi), .p (f3), .p (f4)], [.p (intsP a), .p (.int .i64 (st)), .p (statesP ss), .p (.int .i64 (lp))]], []⟩ (els (els ss)[i]).length
  (fun k => ∀ r, (els (els ss)[i])[k]? = some r → (els r.tu).length ≤ 200) 2 (fun e => e.get 2 = .box 0 0 ∧ e.get 3 = .box 1 0 ∧ e.get 5 = .p (.int .i64 ((i : Nat) : Int))) (fun e => e.get 4 = .p (.bool false))
  (fun k hk hP => by
   conv in bd wf5 1 => reduce
   have h1 := at_ix hk hP
   have h2 : ¬ (200 : Int) < ((els (els (els ss)[i])[k].tu).length : Int) := by omega
   simp [len_rels, len_ints, ia_states hi, ia_rels hk, hk, h2, inc64 (k := k) (by omega)])
  (fun k hk hP => by
   conv in bd wf5 1 => reduce
   have h1 := not_ix hk hP
   have h2 : (200 : Int) < ((els (els (els ss)[i])[k].tu).length : Int) := by omega
   simp [len_rels, len_ints, ia_states hi, ia_rels hk, hk, h2])
  (by
   conv in bd wf5 1 => reduce
   simp [len_rels, ia_states hi])
 have key := fun (hss : (els ss).length ≤ 64) => loopA (c := call pgL) (G := pgL.G) (keep := [2, 3, 5]) (b := bd wf5 0) (fun i => [(2, .box 0 0), (3, .box 1 0), (5, .p (.int .i64 ((i : Nat) : Int)))])
  ⟨[[.p (so), .p (fieldsP fi), .p (f3), .p (f4)], [.p (intsP a), .p (.int .i64 (st)), .p (statesP ss), .p (.int .i64 (lp))]], []⟩ (els ss).length
  (fun i => ∀ x, (els ss)[i]? = some x → (els x).length ≤ 10 ∧ ∀ r ∈ els x, (els r.tu).length ≤ 200) 0 (fun e => e.get 2 = .box 0 0) (fun e => e.get 4 = .p (.bool false))
  (fun i hi hP => by
   have hb1 : bd wf5 1 = bd wf5 1 := rfl
   conv at hb1 => rhs; reduce
   have hb0 : bd wf5 0 = bd wf5 0 := rfl
   conv at hb0 => rhs; reduce
   rw [← hb1] at hb0
   obtain ⟨p1, p2⟩ := at_ix hi hP
   have h2 : ¬ (10 : Int) < ((els (els ss)[i]).length : Int) := by omega
   rcases key1 i hi p1 with ⟨e, hx, ⟨g2, g3, g5⟩, -⟩ | ⟨e, hx, -, hn⟩
   ·rw [hb0]; clear hb0 hb1
    simp at hx
    simp [len_states, len_rels, ia_states hi, hi, h2, hx, g2, g3, g5, inc64 (k := i) (by omega)]
   ·rw [all_ix] at hn
    exact absurd p2 hn)
  (fun i hi hP => by
   have hb2 : bd wf5 2 = bd wf5 2 := rfl
   conv at hb2 => rhs; reduce
   have hb1 : bd wf5 1 = bd wf5 1 := rfl
   conv at hb1 => rhs; reduce
   have hb0 : bd wf5 0 = bd wf5 0 := rfl
   conv at hb0 => rhs; reduce
   rw [← hb1] at hb0
   have hf : wf5 = wf5 := rfl
   conv at hf => rhs; reduce
   rw [← hb2] at hf
   rw [← hb1] at hf
   rw [← hb0] at hf
   have hP := not_ix hi hP
   by_cases p1 : (els (els ss)[i]).length ≤ 10
   ·have h2 : ¬ (10 : Int) < ((els (els ss)[i]).length : Int) := by omega
    rcases key1 i hi p1 with ⟨e, hx, -, hn⟩ | ⟨e, hx, g4, -⟩
    ·rw [all_ix] at hn
     exact absurd ⟨p1, hn⟩ hP
    ·rw [hb0]; clear hf hb0 hb1 hb2
     simp at hx
     simp [len_states, len_rels, ia_states hi, hi, h2, hx, g4]
   ·have h2 : (10 : Int) < ((els (els ss)[i]).length : Int) := by omega
    rw [hb0]; clear hf hb0 hb1 hb2
    simp [len_states, len_rels, ia_states hi, hi, h2])
  (by
   have hb1 : bd wf5 1 = bd wf5 1 := rfl
   conv at hb1 => rhs; reduce
   have hb0 : bd wf5 0 = bd wf5 0 := rfl
   conv at hb0 => rhs; reduce
   rw [← hb1] at hb0
   rw [hb0]; clear hb0 hb1
   simp [len_states])
 have key2 := fun (hfi : (els fi).length ≤ 10) => loopA (c := call pgL) (G := pgL.G) (keep := [2, 7]) (b := bd wf5 2) (fun i => [(2, .box 0 0), (7, .p (.int .i64 ((i : Nat) : Int)))])
  ⟨[[.p (so), .p (fieldsP fi), .p (f3), .p (f4)], [.p (intsP a), .p (.int .i64 (st)), .p (statesP ss), .p (.int .i64 (lp))]], []⟩ (els fi).length
  (fun i => ∀ x, (els fi)[i]? = some x → (els x.so).length ≤ 10) 4 (fun _ => True) (fun e => e.get 4 = .p (.bool false))
  (fun i hi hP => by
   conv in bd wf5 2 => reduce
   have h1 := at_ix hi hP
   have h2 : ¬ (10 : Int) < ((els (els fi)[i].so).length : Int) := by omega
   simp [len_fields, len_ints, ia_fields hi, hi, h2, inc64 (k := i) (by omega)])
  (fun i hi hP => by
   conv in bd wf5 2 => reduce
   have h1 := not_ix hi hP
   have h2 : (10 : Int) < ((els (els fi)[i].so).length : Int) := by omega
   simp [len_fields, len_ints, ia_fields hi, hi, h2])
  (by
   conv in bd wf5 2 => reduce
   simp [len_fields])
 have hb2 : bd wf5 2 = bd wf5 2 := rfl
 conv at hb2 => rhs; reduce
 have hb1 : bd wf5 1 = bd wf5 1 := rfl
 conv at hb1 => rhs; reduce
 have hb0 : bd wf5 0 = bd wf5 0 := rfl
 conv at hb0 => rhs; reduce
 rw [← hb1] at hb0
 have hf : wf5 = wf5 := rfl
 conv at hf => rhs; reduce
 rw [← hb2] at hf
 rw [← hb1] at hf
 rw [← hb0] at hf
 by_cases h1 : ns ≤ 10
 ·have k1 : ¬ (10 : Int) < (ns : Int) := by omega
  by_cases h2 : (els fi).length ≤ 10
  ·have k2 : ¬ (10 : Int) < ((els fi).length : Int) := by omega
   by_cases h3 : (els ss).length ≤ 64
   ·have k3 : ¬ (64 : Int) < ((els ss).length : Int) := by omega
    by_cases h4 : (els a).length ≤ 10
    ·have k4 : ¬ (10 : Int) < ((els a).length : Int) := by omega
     rcases key h3 with ⟨e, hx, g2, hq⟩ | ⟨e, hx, g4, hq⟩
     ·rw [all_ix] at hq
      rcases key2 h2 with ⟨e', hx', -, hq'⟩ | ⟨e', hx', g4', hq'⟩
      ·rw [all_ix] at hq'
       refine ⟨true, callP (aa := [_, _]) hf rfl rfl rfl ?_, iff_of_true rfl ⟨h1, h2, h3, h4, hq, hq'⟩⟩
       clear hf hb0 hb1 hb2
       simp at hx hx'
       simp [o1, o3, o4, len_states, len_ints, len_fields, hso, k1, k2, k3, k4, g2, hx, hx']
      ·rw [all_ix] at hq'
       refine ⟨false, callP (aa := [_, _]) hf rfl rfl rfl ?_, iff_of_false (by simp) fun h => hq' h.2.2.2.2.2⟩
       clear hf hb0 hb1 hb2
       simp at hx hx'
       simp [o1, o3, o4, len_states, len_ints, len_fields, hso, k1, k2, k3, k4, g2, hx, hx', g4']
     ·rw [all_ix] at hq
      refine ⟨false, callP (aa := [_, _]) hf rfl rfl rfl ?_, iff_of_false (by simp) fun h => hq h.2.2.2.2.1⟩
      clear hf hb0 hb1 hb2
      simp at hx
      simp [o1, o3, o4, len_states, len_ints, len_fields, hso, k1, k2, k3, k4, g4, hx]
    ·have k4 : (10 : Int) < ((els a).length : Int) := by omega
     refine ⟨false, callP (aa := [_, _]) hf rfl rfl rfl ?_, iff_of_false (by simp) fun h => h4 h.2.2.2.1⟩
     clear hf hb0 hb1 hb2
     simp [o1, o3, o4, len_states, len_ints, len_fields, hso, k1, k2, k3, k4]
   ·have k3 : (64 : Int) < ((els ss).length : Int) := by omega
    refine ⟨false, callP (aa := [_, _]) hf rfl rfl rfl ?_, iff_of_false (by simp) fun h => h3 h.2.2.1⟩
    clear hf hb0 hb1 hb2
    simp [o1, o3, o4, len_states, len_fields, hso, k1, k2, k3]
  ·have k2 : (10 : Int) < ((els fi).length : Int) := by omega
   refine ⟨false, callP (aa := [_, _]) hf rfl rfl rfl ?_, iff_of_false (by simp) fun h => h2 h.2.1⟩
   clear hf hb0 hb1 hb2
   simp [o1, o3, o4, len_fields, hso, k1, k2]
 ·have k1 : (10 : Int) < (ns : Int) := by omega
  refine ⟨false, callP (aa := [_, _]) hf rfl rfl rfl ?_, iff_of_false (by simp) fun h => h1 h.1⟩
  clear hf hb0 hb1 hb2
  simp [o1, o3, o4, hso, k1]

end Go.Proofs.YtdnebeaeiimjlaaGreatDoor

namespace Go.Proofs.YtdnebeaeiimjlaaGreatDoor
open Go.Vs
set_option maxRecDepth 100000
structure Mo where
 a : Sl Int
 st : Int
 ss : Sl (Sl Rl)
 lp : Int
def stM (x : Sl Rl) : List (Int × List Int) := (els x).map fun r => (r.ar, els r.tu)
theorem same72_call (x y : Sl Rl) (h : stM x = stM y) (hl : (els x).length < 4611686018427387904) (htu : ∀ r ∈ els x, (els r.tu).length < 4611686018427387904) : ∀ H, callD (call pgL) 19 [.p (relsP x), .p (relsP y)] H = some (.val (.p (.bool true)), H) := by
 have hlen : (els x).length = (els y).length := by
  have := congrArg List.length h
  simpa [stM] using this
 have lx := len_rels x
 have ly := len_rels y
 rw [← hlen] at ly
 have key := loopN (c := call pgL) (G := pgL.G) (keep := [0, 1, 5]) (b := bd wf19 0) (fun i => [(0, .p (relsP x)), (1, .p (relsP y)), (5, .p (.int .i64 ((i : Nat) : Int)))]) (fun _ => ⟨[], []⟩) (els x).length (fun _ => True) (fun o e H => o = .exit 0 ∧ H = ⟨[], []⟩) trivial
  (fun i hi _ => by
   have hi2 : i < (els y).length := by omega
   have ia := ia_rels hi
   have ib := ia_rels hi2
   have he : ((els x)[i].ar, els (els x)[i].tu) = ((els y)[i].ar, els (els y)[i].tu) := by
    have := congrArg (fun l => l[i]?) h
    simpa [stM, hi, hi2] using this
   obtain ⟨r, c, d⟩ := requal_call (els x)[i].tu (els y)[i].tu (els x)[i].ar (els y)[i].ar (htu _ (List.getElem_mem hi))
   have := d.2 (by simpa using he)
   subst this
   have inc := inc64 (k := i) (by omega)
   generalize (els x)[i] = p at *
   generalize (els y)[i] = q at *
   conv in bd wf19 0 => reduce
   simp [lx, hi, ia, ib, c, inc])
  (fun _ => by
   conv in bd wf19 0 => reduce
   simp [lx])
 obtain ⟨o, e, H, hx, rfl, rfl⟩ := post_get key
 simp at hx
 have hb0 : bd wf19 0 = bd wf19 0 := rfl
 conv at hb0 => rhs; reduce
 have hf : wf19 = wf19 := rfl
 conv at hf => rhs; reduce
 rw [← hb0] at hf
 refine callP (aa := [_, _]) hf rfl rfl rfl ?_
 clear hf hb0
 simp [lx, ly, hx]
theorem equal_call {x y : Mo} (ha : els x.a = els y.a) (hst : x.st = y.st) (hlp : x.lp = y.lp) (hss : (els x.ss).map stM = (els y.ss).map stM) (hal : (els x.a).length < 4611686018427387904) (hsl : (els x.ss).length < 4611686018427387904) (hxl : ∀ z ∈ els x.ss, (els z).length < 4611686018427387904 ∧ ∀ r ∈ els z, (els r.tu).length < 4611686018427387904) :
    ∀ X, (X = .p (.agg [intsP x.a, .int .i64 x.st, statesP x.ss, .int .i64 x.lp]) ∨ X = .agg [.p (intsP x.a), .p (.int .i64 (x.st)), .p (statesP x.ss), .p (.int .i64 (x.lp))]) → ∀ H, callD (call pgL) 8 [X, .p (.agg [intsP y.a, .int .i64 y.st, statesP y.ss, .int .i64 y.lp])] H = some (.val (.p (.bool true)), H) := by
 obtain ⟨r, c29, d⟩ := ints_call x.a y.a hal
 have := d.2 ha
 subst this
 have hlen : (els x.ss).length = (els y.ss).length := by
  have := congrArg List.length hss
  simpa using this
 have lx := len_states x.ss
 have ly := len_states y.ss
 rw [← hlen] at ly
 obtain ⟨xa, xst, xss, xlp⟩ := x
 obtain ⟨ya, yst, yss, ylp⟩ := y
 dsimp only at *
 subst hst hlp
 have key := loopN (c := call pgL) (G := pgL.G) (keep := [2, 3, 5]) (b := bd wf8 0) (fun i => [(2, .box 0 0), (3, .box 1 0), (5, .p (.int .i64 ((i : Nat) : Int)))]) (fun _ => ⟨[[.p (intsP xa), .p (.int .i64 (xst)), .p (statesP xss), .p (.int .i64 (xlp))], [.p (intsP ya), .p (.int .i64 (xst)), .p (statesP yss), .p (.int .i64 (xlp))]], []⟩) (els xss).length (fun _ => True)
  (fun o e H => o = .exit 0 ∧ H = ⟨[[.p (intsP xa), .p (.int .i64 (xst)), .p (statesP xss), .p (.int .i64 (xlp))], [.p (intsP ya), .p (.int .i64 (xst)), .p (statesP yss), .p (.int .i64 (xlp))]], []⟩) trivial
  (fun i hi _ => by
   have hi2 : i < (els yss).length := by omega
   have ia := ia_states hi
   have ib := ia_states hi2
   have he : stM (els xss)[i] = stM (els yss)[i] := by
    have := congrArg (fun l => l[i]?) hss
    simpa [hi, hi2] using this
   have hm := hxl _ (List.getElem_mem hi)
   have c := same72_call _ _ he hm.1 hm.2
   have inc := inc64 (k := i) (by omega)
   generalize (els xss)[i] = p at *
   generalize (els yss)[i] = q at *
   conv in bd wf8 0 => reduce
   simp [lx, hi, ia, ib, c, inc])
  (fun _ => by
   conv in bd wf8 0 => reduce
   simp [lx])
 obtain ⟨o, e, H, hx, rfl, rfl⟩ := post_get key
 simp at hx
 have hb0 : bd wf8 0 = bd wf8 0 := rfl
 conv at hb0 => rhs; reduce
 have hf : wf8 = wf8 := rfl
 conv at hf => rhs; reduce
 rw [← hb0] at hf
 intro X hX
 rcases hX with rfl | rfl
 all_goals
  (refine callQ (aa := [_, _]) hf rfl rfl rfl rfl rfl (by simp [D.renL, D.ren]) ?_
   clear hf hb0
   simp [lx, ly, hx, c29])
theorem index_call (a : Sl Int) (x : Int) (ha : (els a).length < 4611686018427387904) :
    ∃ k : Int, (∀ H, callD (call pgL) 25 [.p (intsP a), .p (.int .i64 (x))] H = some (.val (.p (.int .i64 (k))), H)) ∧ (0 ≤ k ↔ x ∈ els a) := by
 have hb0 : bd wf25 0 = bd wf25 0 := rfl
 conv at hb0 => rhs; reduce
 have hf : wf25 = wf25 := rfl
 conv at hf => rhs; reduce
 rw [← hb0] at hf
 have key := loopA (c := call pgL) (G := pgL.G) (keep := [0, 1, 7, 8]) (b := bd wf25 0) (fun i => [(0, .p (intsP a)), (1, .p (.int .i64 (x))), (7, .p (.int .i64 (((els a).length : Nat) : Int))), (8, .p (.int .i64 ((i : Nat) : Int)))]) ⟨[], []⟩ (els a).length
  (fun i => (els a)[i]? ≠ some x) 0 (fun _ => True) (fun e => ∃ i : Nat, e.get 4 = .p (.int .i64 ((i : Nat) : Int))) ?_ ?_ ?_
 ·rcases key with ⟨e, hx, -, hp⟩ | ⟨e, hx, ⟨i, hr⟩, hp⟩
  ·refine ⟨-1, callP (aa := [_, _]) hf rfl rfl rfl ?_, iff_of_false (by decide) fun hm => ?_⟩
   ·clear hf hb0
    simp at hx
    simp [len_ints, hx]
   ·obtain ⟨i, hi, he⟩ := List.getElem_of_mem hm
    exact hp i hi (by rw [List.getElem?_eq_getElem hi, he])
  ·refine ⟨i, callP (aa := [_, _]) hf rfl rfl rfl ?_, iff_of_true (by omega) (Classical.byContradiction fun hm => hp fun i hi he => hm (List.mem_of_getElem? he))⟩
   clear hf hb0
   simp at hx
   simp [len_ints, hx, hr]
 ·intro i hi hP
  rw [hb0]; clear hf hb0
  rw [List.getElem?_eq_getElem hi] at hP
  have h1 : ¬ x = (els a)[i] := fun e => hP (by rw [e])
  simp [ia_ints hi, hi, h1, inc64 (k := i) (by omega)]
 ·intro i hi hP
  rw [hb0]; clear hf hb0
  have h1 : x = (els a)[i] := Classical.byContradiction fun e => hP (by rw [List.getElem?_eq_getElem hi]; exact fun h => e (Option.some.inj h).symm)
  simp [ia_ints hi, hi, ← h1]
 ·rw [hb0]; clear hf hb0
  simp []
theorem contains_call (a : Sl Int) (x : Int) (ha : (els a).length < 4611686018427387904) : ∀ H, callD (call pgL) 17 [.p (intsP a), .p (.int .i64 (x))] H = some (.val (.p (.bool (decide (x ∈ els a)))), H) := by
 obtain ⟨k, c, hk⟩ := index_call a x ha
 have hf : wf17 = wf17 := rfl
 conv at hf => rhs; reduce
 refine callP (aa := [_, _]) hf rfl rfl rfl ?_
 clear hf
 by_cases h : x ∈ els a
 ·have h2 := hk.2 h
  simp [c, h, h2]
 ·have h2 : ¬ 0 ≤ k := fun h3 => h (hk.1 h3)
  simp [c, h, h2]
theorem flat_i64 : ∀ r : List Int, (r.map fun x => PD.int .i64 x).flatMap PD.cells = r.map fun x => PD.int .i64 x
 | [] => rfl
 | x :: r => by rw [List.map_cons, List.flatMap_cons, flat_i64 r]; rfl
theorem chunks_one : ∀ (r : List Int), chunks 1 r.length (r.map (PD.int .i64)) = r.map (PD.int .i64)
 | [] => rfl
 | x :: r => by simp [chunks, chunks_one r]
theorem asPDL_p : ∀ l : List PD, D.asPDL (l.map .p) = some l
 | [] => rfl
 | x :: l => by simp [D.asPDL, D.asPD, asPDL_p l]
theorem fin_row (l : List Int) (tk : List Nat) : fin true (.gsl 0 3 l.length 1) ⟨[(l.map (PD.int .i64)).map .p], tk⟩ (.p (.slice 1 (l.map (PD.int .i64)))) := by
 have h1 : ((l.map (PD.int .i64)).map D.p).map (D.frz 0 ⟨[(l.map (PD.int .i64)).map .p], tk⟩ 7) = (l.map (PD.int .i64)).map .p := by
  rw [List.map_map]
  exact List.map_congr_left fun p _ => frz_p 0 _ 7 p
 have h2 : Vs.sub ((l.map (PD.int .i64)).map D.p) 0 (0 + l.length * 1) = (l.map (PD.int .i64)).map .p := by
  unfold Vs.sub
  rw [List.drop_zero, List.take_of_length_le (by simp)]
 have h3 : isMapC ((l.map (PD.int .i64)).map D.p) = false := by cases l with
  | nil => rfl
  | cons x r => cases r <;> rfl
 have h4 : (D.gsl 0 3 l.length 1).frz 0 ⟨[(l.map (PD.int .i64)).map .p], tk⟩ 8 = .p (.slice 1 (l.map (PD.int .i64))) := by
  unfold D.frz
  dsimp only
  rw [if_pos (Nat.zero_le _)]
  simp only [List.getElem?_cons_zero]
  rw [if_pos ⟨h3, by simp, Nat.one_pos⟩, h2, h1, asPDL_p]
  dsimp only
  rw [chunks_one]
 unfold fin
 refine ⟨.p (.slice 1 (l.map (PD.int .i64))), ?_, by simp [D.ren]⟩
 rw [if_pos rfl, h4]
 simp [D.ren]
theorem clone_nil : ∀ H, callD (call pgL) 16 [.p (.nils)] H = some (.val (.p (.nils)), H) := by
 have hf : wf16 = wf16 := rfl
 conv at hf => rhs; reduce
 refine callP (aa := [_]) hf rfl rfl rfl ?_
 clear hf
 simp [D.isNils]
theorem clone_emp : ∀ H, callD (call pgL) 16 [.p (.emp 1)] H = some (.val (.p (.emp 1)), H) := by
 have hf : wf16 = wf16 := rfl
 conv at hf => rhs; reduce
 refine callP (aa := [_]) hf rfl rfl rfl ?_
 clear hf
 simp [D.isNils, srcC, appendgD, fullD]
 simp [fin, D.ren, D.frz]
theorem clone_row (x : Int) (r : List Int) (hl : r.length ≤ 100000) : ∀ H, callD (call pgL) 16 [.p (.slice 1 ((x :: r).map (PD.int .i64)))] H = some (.val (.p (.slice 1 ((x :: r).map (PD.int .i64)))), H) := by
 have hr : roomy (r.length + 1) 8 = true := by simp [roomy]; omega
 have hf : wf16 = wf16 := rfl
 conv at hf => rhs; reduce
 refine callP (aa := [_]) hf rfl rfl rfl ?_
 have h : post (fun o e1 H => (o = .ret ∨ o = .norm) ∧ evRes pgL.G e1 H [.t 2] = some (.gsl 0 3 (r.length + 1) 1) ∧ H = ⟨[((x :: r).map (PD.int .i64)).map .p], []⟩) (evS (call pgL) pgL.G iterX fc16.body ⟨entry 0 [.p (.slice 1 ((x :: r).map (PD.int .i64)))], ⟨[], []⟩⟩) := by
  simp [fc16, D.isNils, srcC, appendgD, fullD, hr]
  rw [flat_i64, List.map_map]
 refine post_mono h fun o e H h => ⟨h.1, _, h.2.1, ?_⟩
 rw [h.2.2]
 exact fin_row (x :: r) []
theorem clone_call : ∀ {a : Sl Int}, a ≠ .amb → (els a).length ≤ 100000 → ∀ H, callD (call pgL) 16 [.p (intsP a)] H = some (.val (.p (intsP a)), H)
 | .nil, _, _ => clone_nil
 | .amb, h, _ => absurd rfl h
 | .of [], _, _ => clone_emp
 | .of (x :: r), _, hl => clone_row x r (by simp [els] at hl; omega)
def hitL (x : Int) (B : List Int) : List Int := B.filter fun y => x == y
def bothL (A B : List Int) : List Int := A.flatMap fun x => hitL x B
theorem both_mem {A B : List Int} {x : Int} : x ∈ bothL A B ↔ x ∈ A ∧ x ∈ B := by
 simp only [bothL, hitL, List.mem_flatMap, List.mem_filter, beq_iff_eq]
 constructor
 ·rintro ⟨y, hy, hx, rfl⟩
  exact ⟨hy, hx⟩
 ·exact fun h => ⟨x, h.1, h.2, rfl⟩
theorem hit_len (x : Int) (B : List Int) : (hitL x B).length ≤ B.length := List.length_filter_le _ _
theorem both_len (B : List Int) : ∀ A : List Int, (bothL A B).length ≤ A.length * B.length
 | [] => by simp [bothL]
 | x :: A => by
  have h1 := hit_len x B
  have h2 := both_len B A
  have h3 : bothL (x :: A) B = hitL x B ++ bothL A B := rfl
  rw [h3, List.length_append, List.length_cons, Nat.succ_mul]
  omega
theorem hit_step (x : Int) {B : List Int} {j : Nat} (h : j < B.length) : hitL x (B.take (j + 1)) = hitL x (B.take j) ++ if x = B[j] then [x] else [] := by
 unfold hitL
 rw [List.take_add_one, List.getElem?_eq_getElem h, Option.toList, List.filter_append]
 congr 1
 by_cases hx : x = B[j]
 ·rw [if_pos hx]
  simp [hx]
 ·rw [if_neg hx]
  simp [hx]
theorem both_step {A B : List Int} {i : Nat} (h : i < A.length) : bothL (A.take (i + 1)) B = bothL (A.take i) B ++ hitL A[i] B := by
 unfold bothL
 rw [List.take_add_one, List.getElem?_eq_getElem h, Option.toList, List.flatMap_append]
 simp
theorem both_call (a b : Sl Int) (ha : (els a).length ≤ 10) (hb : (els b).length ≤ 10) :
    ∀ H, callD (call pgL) 7 [.p (intsP a), .p (intsP b)] H = some (.val (.p (.slice 1 ((bothL (els a) (els b)).map (PD.int .i64)))), H) := by
 have key1 := fun (i : Nat) (hi : i < (els a).length) (pre : List Int) (hp : pre.length ≤ 100) => loopN (c := call pgL) (G := pgL.G) (keep := [0, 1, 5, 6, 7]) (b := bd wf7 1) (fun j => [(0, .p (intsP a)), (1, .p (intsP b)), (5, .tsl 0 3 1 ((pre ++ hitL (els a)[i] ((els b).take j)).map (PD.int .i64))), (6, .p (.int .i64 ((i : Nat) : Int))), (7, .p (.int .i64 ((j : Nat) : Int)))])
  (fun j => ⟨[], [(pre ++ hitL (els a)[i] ((els b).take j)).length]⟩) (els b).length (fun _ => True)
  (fun o e H => o = .exit 2 ∧ H = ⟨[], [(pre ++ hitL (els a)[i] (els b)).length]⟩ ∧ e.get 0 = .p (intsP a) ∧ e.get 1 = .p (intsP b) ∧ e.get 5 = .tsl 0 3 1 ((pre ++ hitL (els a)[i] (els b)).map (PD.int .i64)) ∧ e.get 6 = .p (.int .i64 ((i : Nat) : Int))) trivial
  (fun j hj _ => by
   conv in bd wf7 1 => reduce
   have hs := hit_step (els a)[i] hj
   have hl := hit_len (els a)[i] ((els b).take j)
   have hl2 : ((els b).take j).length ≤ 10 := by rw [List.length_take]; omega
   generalize hitL (els a)[i] ((els b).take j) = acc at *
   have hr : roomy (pre.length + (acc.length + 1)) 8 = true := by simp [roomy]; omega
   by_cases hx : (els a)[i] = (els b)[j]
   ·rw [if_pos hx] at hs
    rw [hs]
    simp [len_ints, ia_ints hi, ia_ints hj, hj, hx, hr, inc64 (k := j) (by omega), Nat.add_assoc]
   ·rw [if_neg hx, List.append_nil] at hs
    rw [hs]
    simp [len_ints, ia_ints hi, ia_ints hj, hj, hx, inc64 (k := j) (by omega)])
  (fun _ => by
   conv in bd wf7 1 => reduce
   simp [len_ints])
 have key := loopN (c := call pgL) (G := pgL.G) (keep := [0, 1, 5, 6]) (b := bd wf7 0) (fun i => [(0, .p (intsP a)), (1, .p (intsP b)), (5, .tsl 0 3 1 ((bothL ((els a).take i) (els b)).map (PD.int .i64))), (6, .p (.int .i64 ((i : Nat) : Int)))])
  (fun i => ⟨[], [(bothL ((els a).take i) (els b)).length]⟩) (els a).length (fun _ => True)
  (fun o e H => o = .exit 0 ∧ H = ⟨[], [(bothL (els a) (els b)).length]⟩ ∧ e.get 5 = .tsl 0 3 1 ((bothL (els a) (els b)).map (PD.int .i64))) trivial
  (fun i hi _ => by
   have hs := both_step (B := els b) hi
   have hl := both_len (els b) ((els a).take i)
   have hl2 : ((els a).take i).length * (els b).length ≤ 10 * 10 := Nat.mul_le_mul (by rw [List.length_take]; omega) hb
   obtain ⟨o, e, H, hx, rfl, rfl, g0, g1, g5, g6⟩ := post_get (key1 i hi (bothL ((els a).take i) (els b)) (by omega))
   rw [hs]
   generalize bothL ((els a).take i) (els b) = acc at *
   have hb1 : bd wf7 1 = bd wf7 1 := rfl
   conv at hb1 => rhs; reduce
   have hb0 : bd wf7 0 = bd wf7 0 := rfl
   conv at hb0 => rhs; reduce
   rw [← hb1] at hb0
   rw [hb0]; clear hb0 hb1
   simp [hitL] at hx g5 ⊢
   simp [tokD, len_ints, hi, hx, g0, g1, g5, g6, inc64 (k := i) (by omega)])
  (fun _ => by
   have hb1 : bd wf7 1 = bd wf7 1 := rfl
   conv at hb1 => rhs; reduce
   have hb0 : bd wf7 0 = bd wf7 0 := rfl
   conv at hb0 => rhs; reduce
   rw [← hb1] at hb0
   rw [hb0]; clear hb0 hb1
   simp [len_ints])
 obtain ⟨o, e, H, hx, rfl, rfl, g5⟩ := post_get key
 simp [bothL] at hx
 have hb1 : bd wf7 1 = bd wf7 1 := rfl
 conv at hb1 => rhs; reduce
 have hb0 : bd wf7 0 = bd wf7 0 := rfl
 conv at hb0 => rhs; reduce
 rw [← hb1] at hb0
 have hf : wf7 = wf7 := rfl
 conv at hf => rhs; reduce
 rw [← hb1] at hf
 rw [← hb0] at hf
 refine callP (aa := [_, _]) hf rfl rfl rfl ?_
 clear hf hb0 hb1
 simp [tokD, hx, g5]
def projR (F : List Int) (i : Nat) (r : Rl) : Rl := ⟨r.ar, if (i : Int) ∈ F then r.tu else .nil⟩
def projX (F : List Int) (x : List Rl) : List Rl := x.mapIdx (projR F)
def projS (F : List Int) (ss : List (Sl Rl)) : List (List Rl) := ss.map fun x => projX F (els x)
abbrev stP (x : List Rl) : PD := .slice 2 (x.map Rl.p)
theorem projX_len (F : List Int) (x : List Rl) : (projX F x).length = x.length := by simp [projX]
theorem projX_step {F : List Int} {x : List Rl} {j : Nat} (h : j < x.length) : (projX F x).take (j + 1) = (projX F x).take j ++ [projR F j x[j]] := by
 have h2 : j < (projX F x).length := by rw [projX_len]; exact h
 rw [List.take_add_one, List.getElem?_eq_getElem h2]
 simp [projX]
theorem projS_step {F : List Int} {ss : List (Sl Rl)} {i : Nat} (h : i < ss.length) : (projS F ss).take (i + 1) = (projS F ss).take i ++ [projX F (els ss[i])] := by
 have h2 : i < (projS F ss).length := by simp [projS, h]
 rw [List.take_add_one, List.getElem?_eq_getElem h2]
 simp [projS]
theorem fin_agg4 (a b c : PD) (t e sz : Nat) (es : List PD) (H : Hp) : fin true (.agg [.p a, .p b, .tsl t e sz es, .p c]) H (.agg [.p a, .p b, .p (.slice sz es), .p c]) := by
 have h1 : (D.agg [.p a, .p b, .tsl t e sz es, .p c]).frz 0 H 8 = .agg [.p a, .p b, .tsl t e sz es, .p c] := by
  unfold D.frz
  simp [frz_p, frz_tsl, mkAgg, pures]
 refine ⟨.agg [.p a, .p b, .tsl t e sz es, .p c], ?_, by simp [D.ren, D.renL]⟩
 rw [if_pos rfl, h1]
 simp [D.ren, D.renL]

variable {a f : Sl Int} {ss : Sl (Sl Rl)} {st lp : Int}
theorem proj_inner (hf : (els f).length < 4611686018427387904) (x : Sl Rl) (hx : (els x).length ≤ 10) (hn : ∀ r ∈ els x, r.tu ≠ .amb ∧ (els r.tu).length ≤ 200) (S : List PD) (x0 x1 x2 x3 z0 z1 z2 z3 : PD) (t24 : PD) (n25 i : Int) (y0 y1 y3 : PD) :
    post (fun o e H => o = .exit 2 ∧ H = ⟨[[.p (x0), .p (x1), .p (x2), .p (x3)], [.p (z0), .p (z1), .p (z2), .p (z3)], [.p (y0), .p (y1), .tsl 0 63 1 S, .p (y3)]], [S.length, (els x).length]⟩ ∧ e.get 1 = .p (intsP f) ∧ e.get 4 = .box 1 0 ∧ e.get 5 = .box 2 0 ∧ e.get 8 = .tsl 1 45 2 ((projX (els f) (els x)).map Rl.p) ∧ e.get 24 = .p (t24) ∧ e.get 25 = .p (.int .i64 (n25)) ∧ e.get 26 = .p (.int .i64 (i)))
     (loopK (call pgL) pgL.G [1, 4, 5, 8, 24, 25, 26, 30, 31, 32] (bd wf6 1) ⟨[(1, .p (intsP f)), (4, .box 1 0), (5, .box 2 0), (8, .tsl 1 45 2 []), (24, .p (t24)), (25, .p (.int .i64 (n25))), (26, .p (.int .i64 (i))), (30, .p (relsP x)), (31, .p (.int .i64 (((els x).length : Nat) : Int))), (32, .p (.int .i64 ((0 : Nat) : Int)))], ⟨[[.p (x0), .p (x1), .p (x2), .p (x3)], [.p (z0), .p (z1), .p (z2), .p (z3)], [.p (y0), .p (y1), .tsl 0 63 1 S, .p (y3)]], [S.length, 0]⟩⟩) := by
 have key := loopN (c := call pgL) (G := pgL.G) (keep := [1, 4, 5, 8, 24, 25, 26, 30, 31, 32]) (b := bd wf6 1) (fun j => [(1, .p (intsP f)), (4, .box 1 0), (5, .box 2 0), (8, .tsl 1 45 2 (((projX (els f) (els x)).take j).map Rl.p)), (24, .p (t24)), (25, .p (.int .i64 (n25))), (26, .p (.int .i64 (i))), (30, .p (relsP x)), (31, .p (.int .i64 (((els x).length : Nat) : Int))), (32, .p (.int .i64 ((j : Nat) : Int)))])
  (fun j => ⟨[[.p (x0), .p (x1), .p (x2), .p (x3)], [.p (z0), .p (z1), .p (z2), .p (z3)], [.p (y0), .p (y1), .tsl 0 63 1 S, .p (y3)]], [S.length, j]⟩) (els x).length (fun _ => True)
  (fun o e H => o = .exit 2 ∧ H = ⟨[[.p (x0), .p (x1), .p (x2), .p (x3)], [.p (z0), .p (z1), .p (z2), .p (z3)], [.p (y0), .p (y1), .tsl 0 63 1 S, .p (y3)]], [S.length, (els x).length]⟩ ∧ e.get 1 = .p (intsP f) ∧ e.get 4 = .box 1 0 ∧ e.get 5 = .box 2 0 ∧ e.get 8 = .tsl 1 45 2 ((projX (els f) (els x)).map Rl.p) ∧ e.get 24 = .p (t24) ∧ e.get 25 = .p (.int .i64 (n25)) ∧ e.get 26 = .p (.int .i64 (i))) trivial
  (fun j hj _ => by
   conv in bd wf6 1 => reduce
   have hs := projX_step (F := els f) hj
   have hc := contains_call f (j : Int) hf
   obtain ⟨hna, hl⟩ := hn _ (List.getElem_mem hj)
   have hcl := clone_call hna (by omega)
   have hpl : ((projX (els f) (els x)).take j).length = j := by rw [List.length_take, projX_len]; omega
   have hr : roomy (j + 1) 32 = true := by simp [roomy]; omega
   rw [hs]
   generalize (projX (els f) (els x)).take j = acc at *
   have ia := ia_rels hj
   by_cases hm : (j : Int) ∈ els f
   ·simp [projR, Rl.p, ia, hj, hc, hm, hcl, hr, hpl, inc64 (k := j) (by omega)]
   ·simp [projR, Rl.p, ia, hj, hc, hm, hr, hpl, inc64 (k := j) (by omega)]
    rfl)
  (fun _ => by
   conv in bd wf6 1 => reduce
   have : (projX (els f) (els x)).take (els x).length = projX (els f) (els x) := List.take_of_length_le (by rw [projX_len]; omega)
   rw [this]
   simp [])
 simpa using key
theorem proj_outer (hf : (els f).length < 4611686018427387904) (ss : Sl (Sl Rl)) (hs : (els ss).length ≤ 64) (hn : ∀ x ∈ els ss, (els x).length ≤ 10 ∧ ∀ r ∈ els x, r.tu ≠ .amb ∧ (els r.tu).length ≤ 200) (x0 x1 x2 x3 z0 z1 z2 z3 y0 y1 y3 : PD) :
    post (fun o e H => o = .exit 0 ∧ H = ⟨[[.p (x0), .p (x1), .p (x2), .p (x3)], [.p (z0), .p (z1), .p (z2), .p (z3)], [.p (y0), .p (y1), .tsl 0 63 1 ((projS (els f) (els ss)).map stP), .p (y3)]], [(els ss).length]⟩ ∧ e.get 4 = .box 1 0 ∧ e.get 5 = .box 2 0)
     (loopK (call pgL) pgL.G [1, 4, 5, 24, 25, 26] (bd wf6 0) ⟨[(1, .p (intsP f)), (4, .box 1 0), (5, .box 2 0), (24, .p (statesP ss)), (25, .p (.int .i64 (((els ss).length : Nat) : Int))), (26, .p (.int .i64 ((0 : Nat) : Int)))], ⟨[[.p (x0), .p (x1), .p (x2), .p (x3)], [.p (z0), .p (z1), .p (z2), .p (z3)], [.p (y0), .p (y1), .tsl 0 63 1 [], .p (y3)]], [0]⟩⟩) := by
 have key := loopN (c := call pgL) (G := pgL.G) (keep := [1, 4, 5, 24, 25, 26]) (b := bd wf6 0) (fun i => [(1, .p (intsP f)), (4, .box 1 0), (5, .box 2 0), (24, .p (statesP ss)), (25, .p (.int .i64 (((els ss).length : Nat) : Int))), (26, .p (.int .i64 ((i : Nat) : Int)))])
  (fun i => ⟨[[.p (x0), .p (x1), .p (x2), .p (x3)], [.p (z0), .p (z1), .p (z2), .p (z3)], [.p (y0), .p (y1), .tsl 0 63 1 (((projS (els f) (els ss)).take i).map stP), .p (y3)]], [i]⟩) (els ss).length (fun _ => True)
  (fun o e H => o = .exit 0 ∧ H = ⟨[[.p (x0), .p (x1), .p (x2), .p (x3)], [.p (z0), .p (z1), .p (z2), .p (z3)], [.p (y0), .p (y1), .tsl 0 63 1 ((projS (els f) (els ss)).map stP), .p (y3)]], [(els ss).length]⟩ ∧ e.get 4 = .box 1 0 ∧ e.get 5 = .box 2 0) trivial
  (fun i hi _ => by
   have hst := projS_step (F := els f) hi
   obtain ⟨h1, h2⟩ := hn _ (List.getElem_mem hi)
   have hpl : ((projS (els f) (els ss)).take i).length = i := by rw [List.length_take]; simp only [projS, List.length_map]; omega
   have hr : roomy (i + 1) 24 = true := by simp [roomy]; omega
   obtain ⟨o, e, H, hx, rfl, rfl, g1, g4, g5, g8, g24, g25, g26⟩ := post_get (proj_inner hf (els ss)[i] h1 h2 (((projS (els f) (els ss)).take i).map stP) x0 x1 x2 x3 z0 z1 z2 z3 (statesP ss) (els ss).length i y0 y1 y3)
   rw [List.length_map, hpl] at hx
   rw [hst]
   generalize (projS (els f) (els ss)).take i = acc at *
   have ia := ia_states hi
   have k1 : PD.nils.cells = [.nils] := rfl
   have k2 : ∀ es, (PD.slice 2 es).cells = [.slice 2 es] := fun _ => rfl
   have k3 : PD.nils.one = true := rfl
   have k4 : ∀ es, (PD.slice 2 es).one = true := fun _ => rfl
   generalize (els ss)[i] = x at *
   have hb1 : bd wf6 1 = bd wf6 1 := rfl
   conv at hb1 => rhs; reduce
   have hb0 : bd wf6 0 = bd wf6 0 := rfl
   conv at hb0 => rhs; reduce
   rw [← hb1] at hb0
   rw [hb0]; clear hb0 hb1
   simp at hx
   simp [tokD, k3, k4, len_rels, ia, hi, hx, g1, g4, g5, g8, g24, g25, g26, hr, hpl, inc64 (k := i) (by omega)])
  (fun _ => by
   have hb1 : bd wf6 1 = bd wf6 1 := rfl
   conv at hb1 => rhs; reduce
   have hb0 : bd wf6 0 = bd wf6 0 := rfl
   conv at hb0 => rhs; reduce
   rw [← hb1] at hb0
   rw [hb0]; clear hb0 hb1
   have : (projS (els f) (els ss)).take (els ss).length = projS (els f) (els ss) := List.take_of_length_le (by simp [projS])
   rw [this]
   simp [])
 simpa using key
theorem project_call {m : Mo} (hf : (els f).length < 4611686018427387904) (ha : m.a ≠ .amb) (hal : (els m.a).length ≤ 10) (hs : (els m.ss).length ≤ 64) (hn : ∀ x ∈ els m.ss, (els x).length ≤ 10 ∧ ∀ r ∈ els x, r.tu ≠ .amb ∧ (els r.tu).length ≤ 200)
    (x : D) (hx : x = .p (.agg [intsP m.a, .int .i64 m.st, statesP m.ss, .int .i64 m.lp]) ∨ x = .agg [.p (intsP m.a), .p (.int .i64 (m.st)), .p (statesP m.ss), .p (.int .i64 (m.lp))]) :
    ∀ H, callD (call pgL) 6 [x, .p (intsP f)] H = some (.val (.agg [.p (intsP m.a), .p (.int .i64 (m.st)), .p (.slice 1 ((projS (els f) (els m.ss)).map stP)), .p (.int .i64 (m.lp))]), H) := by
 have hc := clone_call ha (by omega)
 obtain ⟨o, e, H, hk, rfl, rfl, g4, g5⟩ := post_get (proj_outer hf m.ss hs hn (intsP m.a) (.int .i64 m.st) (statesP m.ss) (.int .i64 m.lp) .nils (.int .i64 0) .nils (.int .i64 0) (intsP m.a) (.int .i64 m.st) (.int .i64 m.lp))
 simp at hk
 have hb1 : bd wf6 1 = bd wf6 1 := rfl
 conv at hb1 => rhs; reduce
 have hb0 : bd wf6 0 = bd wf6 0 := rfl
 conv at hb0 => rhs; reduce
 rw [← hb1] at hb0
 have hf : wf6 = wf6 := rfl
 conv at hf => rhs; reduce
 rw [← hb1] at hf
 rw [← hb0] at hf
 rcases hx with rfl | rfl
 all_goals
  (refine callQ (aa := [_, _]) hf rfl rfl rfl rfl rfl (by simp [D.renL, D.ren]) ?_
   clear hf hb0 hb1
   simp [tokbD, tokD, len_states, hc, hk, g4, g5]
   exact fin_agg4 _ _ _ _ _ _ _ _)

end Go.Proofs.YtdnebeaeiimjlaaGreatDoor

namespace Go.Proofs.YtdnebeaeiimjlaaGreatDoor
open Go.Vs
set_option maxRecDepth 100000
def slG {α : Type} : List α → Sl α
 | [] => .amb
 | x :: r => .of (x :: r)
theorem slG_els {α : Type} (l : List α) : els (slG l) = l := by cases l <;> rfl
theorem slG_p {α : Type} (sz : Nat) (f : α → PD) (l : List α) : PD.slice sz (l.map f) = slP sz ((slG l).map f) := by cases l <;> rfl
def projM (F : List Int) (m : Mo) : Mo := ⟨m.a, m.st, slG ((els m.ss).map fun x => slG (projX F (els x))), m.lp⟩
theorem projM_p (F : List Int) (m : Mo) : PD.slice 1 ((projS F (els m.ss)).map stP) = statesP (projM F m).ss := by
 have h : (projS F (els m.ss)).map stP = ((els m.ss).map fun x => slG (projX F (els x))).map relsP := by
  unfold projS
  rw [List.map_map, List.map_map]
  refine List.map_congr_left fun x _ => ?_
  exact slG_p 2 Rl.p _
 rw [h, slG_p]
 rfl
structure MoS (m : Mo) : Prop where
 na : m.a ≠ .amb
 al : (els m.a).length ≤ 10
 sl : (els m.ss).length ≤ 64
 xl : ∀ x ∈ els m.ss, (els x).length ≤ 10 ∧ ∀ r ∈ els x, r.tu ≠ .amb ∧ (els r.tu).length ≤ 200
theorem projM_ss (F : List Int) (m : Mo) : els (projM F m).ss = (els m.ss).map fun x => slG (projX F (els x)) := slG_els _
theorem MoS.proj {m : Mo} (h : MoS m) (F : List Int) : MoS (projM F m) := by
 refine ⟨h.na, h.al, by rw [projM_ss, List.length_map]; exact h.sl, fun x hx => ?_⟩
 rw [projM_ss] at hx
 obtain ⟨y, hy, rfl⟩ := List.mem_map.1 hx
 obtain ⟨h1, h2⟩ := h.xl y hy
 rw [slG_els]
 refine ⟨by rw [projX_len]; exact h1, fun r hr => ?_⟩
 obtain ⟨j, hj, rfl⟩ := List.getElem_of_mem hr
 rw [projX_len] at hj
 obtain ⟨h3, h4⟩ := h2 _ (List.getElem_mem hj)
 simp only [projX, List.getElem_mapIdx, projR]
 split
 ·exact ⟨h3, h4⟩
 ·exact ⟨by simp, by simp [els]⟩
theorem proj_call {m : Mo} (h : MoS m) (f : Sl Int) (hf : (els f).length < 4611686018427387904) (x : D) (hx : x = .p (.agg [intsP m.a, .int .i64 m.st, statesP m.ss, .int .i64 m.lp]) ∨ x = .agg [.p (intsP m.a), .p (.int .i64 (m.st)), .p (statesP m.ss), .p (.int .i64 (m.lp))]) :
    ∀ H, callD (call pgL) 6 [x, .p (intsP f)] H = some (.val (.agg [.p (intsP (projM (els f) m).a), .p (.int .i64 ((projM (els f) m).st)), .p (statesP (projM (els f) m).ss), .p (.int .i64 ((projM (els f) m).lp))]), H) := by
 have := project_call hf h.na h.al h.sl h.xl x hx
 rw [projM_p] at this
 exact this
theorem st_proj (F : List Int) (x : Sl Rl) : stM (slG (projX F (els x))) = (stM x).mapIdx fun i r => (r.1, if (i : Int) ∈ F then r.2 else []) := by
 unfold stM
 rw [slG_els]
 apply List.ext_getElem
 ·simp [projX]
 ·intro i h1 h2
  simp only [projX, List.getElem_map, List.getElem_mapIdx, projR]
  split <;> simp [els]
theorem ss_proj (F : List Int) (m : Mo) : (els (projM F m).ss).map stM = ((els m.ss).map stM).map fun s => s.mapIdx fun i r => (r.1, if (i : Int) ∈ F then r.2 else []) := by
 rw [projM_ss, List.map_map, List.map_map]
 exact List.map_congr_left fun x _ => st_proj F x
theorem compose (A B : List Int) (m : Mo) : (els (projM B (projM A m)).ss).map stM = (els (projM (bothL A B) m).ss).map stM := by
 rw [ss_proj, ss_proj, ss_proj, List.map_map]
 refine List.map_congr_left fun s _ => ?_
 apply List.ext_getElem
 ·simp
 ·intro i h1 h2
  simp only [Function.comp, List.getElem_mapIdx, both_mem]
  by_cases ha : (i : Int) ∈ A <;> by_cases hb : (i : Int) ∈ B <;> simp [ha, hb]
def everyL : List Int := (List.range 10).map fun (i : Nat) => (i : Int)
theorem every_all {m : Mo} (h : MoS m) : (els (projM everyL m).ss).map stM = (els m.ss).map stM := by
 rw [ss_proj, List.map_map]
 refine List.map_congr_left fun x hx => ?_
 have hl := (h.xl x hx).1
 simp only [Function.comp]
 apply List.ext_getElem
 ·simp
 ·intro i h1 h2
  have hi : i < 10 := by simp [stM] at h2; omega
  have hm : (i : Int) ∈ everyL := by simp [everyL, hi]
  simp [hm]
theorem eq_call {x y : Mo} (hx : MoS x) (ha : x.a = y.a) (hst : x.st = y.st) (hlp : x.lp = y.lp) (hss : (els x.ss).map stM = (els y.ss).map stM) (X : D) (hX : X = .p (.agg [intsP x.a, .int .i64 x.st, statesP x.ss, .int .i64 x.lp]) ∨ X = .agg [.p (intsP x.a), .p (.int .i64 (x.st)), .p (statesP x.ss), .p (.int .i64 (x.lp))]) :
    ∀ H, callD (call pgL) 8 [X, .p (.agg [intsP y.a, .int .i64 y.st, statesP y.ss, .int .i64 y.lp])] H = some (.val (.p (.bool true)), H) :=
 equal_call (by rw [ha]) hst hlp hss (by have := hx.al; omega) (by have := hx.sl; omega) (fun z hz => ⟨by have := (hx.xl z hz).1; omega, fun r hr => by have := ((hx.xl z hz).2 r hr).2; omega⟩) X hX
variable {so f3 f4 : PD} {ns : Nat} {fi : Sl Fi} {m : Mo} {a b : Sl Int}
theorem head_call : ∀ H, callD (call pgL) 4 [] H = some (.val (.p (.bool true)), H) := by
 intro H
 refine callD_pure (Hl := ⟨[], []⟩) (d := .p (.bool true)) (call_of_evF 60 ?_) rfl rfl rfl rfl
 rfl
theorem law_compose (hso : lenD 1 (.p so) = some ns) (o1 : so.one = true) (o3 : f3.one = true) (o4 : f4.one = true) (hna : m.a ≠ .amb) (hxn : ∀ x ∈ els m.ss, ∀ r ∈ els x, r.tu ≠ .amb) :
    ∀ H, callD (call pgL) 3 [.p (.agg [so, fieldsP fi, f3, f4]), .p (.agg [intsP m.a, .int .i64 m.st, statesP m.ss, .int .i64 m.lp]), .p (intsP a), .p (intsP b)] H = some (.val (.p (.bool true)), H) := by
 have hh := head_call
 obtain ⟨r, hs, hr⟩ := small_call (ns := ns) (fi := fi) (a := m.a) (ss := m.ss) (st := m.st) (lp := m.lp) hso o1 o3 o4
 by_cases hla : (els a).length ≤ 10
 rotate_left
 ·have h1 : (10 : Int) < ((els a).length : Int) := by omega
  have hb0 : bd wf3 0 = bd wf3 0 := rfl
  conv at hb0 => rhs; reduce
  have hf : wf3 = wf3 := rfl
  conv at hf => rhs; reduce
  rw [← hb0] at hf
  refine callP (aa := [_, _, _, _]) hf rfl rfl rfl ?_
  clear hf hb0
  simp [len_ints, o1, o3, o4, hh, h1]
 have h1 : ¬ (10 : Int) < ((els a).length : Int) := by omega
 by_cases hlb : (els b).length ≤ 10
 rotate_left
 ·have h2 : (10 : Int) < ((els b).length : Int) := by omega
  have hb0 : bd wf3 0 = bd wf3 0 := rfl
  conv at hb0 => rhs; reduce
  have hf : wf3 = wf3 := rfl
  conv at hf => rhs; reduce
  rw [← hb0] at hf
  refine callP (aa := [_, _, _, _]) hf rfl rfl rfl ?_
  clear hf hb0
  simp [len_ints, o1, o3, o4, hh, h1, h2]
 have h2 : ¬ (10 : Int) < ((els b).length : Int) := by omega
 cases hrr : r with
 | false =>
  subst hrr
  have hb0 : bd wf3 0 = bd wf3 0 := rfl
  conv at hb0 => rhs; reduce
  have hf : wf3 = wf3 := rfl
  conv at hf => rhs; reduce
  rw [← hb0] at hf
  refine callP (aa := [_, _, _, _]) hf rfl rfl rfl ?_
  clear hf hb0
  simp [len_ints, o1, o3, o4, hh, h1, h2, hs]
 | true =>
  subst hrr
  obtain ⟨-, -, k3, k4, k5, -⟩ := hr.1 rfl
  have hm : MoS m := ⟨hna, k4, k3, fun x hx => ⟨(k5 x hx).1, fun r hr => ⟨hxn x hx r hr, (k5 x hx).2 r hr⟩⟩⟩
  have kev := loopN (c := call pgL) (G := pgL.G) (keep := [2, 3, 5, 9, 10, 11]) (b := bd wf3 0) (fun i => [(2, .p (intsP a)), (3, .p (intsP b)), (5, .box 1 0), (9, .p (.bool true)), (10, .tsl 0 3 1 ((List.range i).map fun (i : Nat) => PD.int .i64 (i : Int))), (11, .p (.int .i64 ((i : Nat) : Int)))])
   (fun i => ⟨[[.p (so), .p (fieldsP fi), .p (f3), .p (f4)], [.p (intsP m.a), .p (.int .i64 (m.st)), .p (statesP m.ss), .p (.int .i64 (m.lp))]], [i]⟩) 10 (fun _ => True)
   (fun o e H => o = .exit 0 ∧ H = ⟨[[.p (so), .p (fieldsP fi), .p (f3), .p (f4)], [.p (intsP m.a), .p (.int .i64 (m.st)), .p (statesP m.ss), .p (.int .i64 (m.lp))]], [10]⟩ ∧ e.get 2 = .p (intsP a) ∧ e.get 3 = .p (intsP b) ∧ e.get 5 = .box 1 0 ∧ e.get 9 = .p (.bool true) ∧ e.get 10 = .tsl 0 3 1 ((List.range 10).map fun (i : Nat) => PD.int .i64 (i : Int))) trivial
   (fun i hi _ => by
    have hr : roomy (i + 1) 8 = true := by simp [roomy]; omega
    have hi2 : (i : Int) < 10 := by omega
    rw [List.range_succ]
    conv in bd wf3 0 => reduce
    simp [hi2, hr, inc64 (k := i) (by omega)])
   (fun _ => by
    conv in bd wf3 0 => reduce
    simp)
  have pw := proj_call hm (.of everyL) (by decide) _ (.inl rfl)
  have p1 := proj_call hm a (by omega) _ (.inl rfl)
  have p2 := proj_call (hm.proj (els a)) b (by omega) _ (.inr rfl)
  have hbl : (bothL (els a) (els b)).length ≤ 100 := Nat.le_trans (both_len _ _) (Nat.mul_le_mul hla hlb)
  have pb := both_call a b hla hlb
  have p3 := proj_call hm (slG (bothL (els a) (els b))) (by rw [slG_els]; omega) _ (.inl rfl)
  have e1 := eq_call ((hm.proj (els a)).proj (els b)) (y := projM (bothL (els a) (els b)) m) rfl rfl rfl (compose _ _ m) _ (.inl rfl)
  have e2 := eq_call (hm.proj everyL) (y := m) rfl rfl rfl (every_all hm) _ (.inl rfl)
  have e3 := eq_call (hm.proj everyL) (y := projM everyL m) rfl rfl rfl rfl _ (.inr rfl)
  rw [slG_els] at p3
  have hsg : D.p (.slice 1 ((bothL (els a) (els b)).map (PD.int .i64))) = D.p (intsP (slG (bothL (els a) (els b)))) := congrArg D.p (slG_p 1 _ _)
  rw [hsg] at pb
  have hev : D.p (intsP (.of everyL)) = D.p (.slice 1 ((List.range 10).map fun (i : Nat) => PD.int .i64 (i : Int))) := rfl
  have hee : els (.of everyL) = everyL := rfl
  rw [hev, hee] at pw
  obtain ⟨o, e, H, hx, rfl, rfl, g2, g3, g5, g9, g10⟩ := post_get kev
  have hb0 : bd wf3 0 = bd wf3 0 := rfl
  conv at hb0 => rhs; reduce
  have hf : wf3 = wf3 := rfl
  conv at hf => rhs; reduce
  rw [← hb0] at hf
  refine callP (aa := [_, _, _, _]) hf rfl rfl rfl ?_
  clear hf hb0
  simp at hx
  simp [tokD, len_ints, o1, o3, o4, hh, h1, h2, hs, hx, g2, g3, g5, g9, g10, pw, p1, p2, pb, p3, e1, e2, e3]

end Go.Proofs.YtdnebeaeiimjlaaGreatDoor

namespace Go.Proofs.YtdnebeaeiimjlaaGreatDoor
open Go.Vs
open Go.ChangeShapes Go.WideShapes Go.RowKit
theorem list_of {α : Type} {f : α → PD} {R : α → Prop} : ∀ {es : List PD}, (∀ x ∈ es, ∃ a, x = f a ∧ R a) → ∃ l : List α, es = l.map f ∧ ∀ a ∈ l, R a
 | [], _ => ⟨[], rfl, by simp⟩
 | x :: es, h => by
  obtain ⟨a, rfl, ha⟩ := h x (by simp)
  obtain ⟨l, rfl, hl⟩ := list_of (es := es) fun y hy => h y (by simp [hy])
  exact ⟨a :: l, rfl, fun b hb => by
   rcases List.mem_cons.1 hb with rfl | hb
   ·exact ha
   ·exact hl b hb⟩
theorem arg_slN {t e sz : Nat} {α : Type} {f : α → PD} {R : α → Prop} {xs : List PD} (ht : Tryz.prog.underlying t = some (.slice e)) (hc : Tryz.prog.cellsOf e = sz) (hpos : 1 ≤ Tryz.prog.bytesOf e) (h : TyB Tryz.prog t xs)
    (he : ∀ es x, xs = [.slice sz es] → x ∈ es → TyB Tryz.prog e x.cells → x = mkE Tryz.prog e x.cells → ∃ a, x = f a ∧ R a) : ∃ o : Sl α, xs = [slP sz (o.map f)] ∧ (els o).length < 4611686018427387904 ∧ (∀ a ∈ els o, R a) ∧ o ≠ .amb := by
 subst hc
 rcases tyb_slice ht h with rfl | rfl | ⟨es, hne, hl, rfl, h1, h2⟩
 ·exact ⟨.nil, rfl, by simp [els], by simp [els], by simp⟩
 ·exact ⟨.of [], rfl, by simp [els], by simp [els], by simp⟩
 ·obtain ⟨l, rfl, hR⟩ := list_of fun x hx => he es x rfl hx (h1 x hx) (h2 x hx)
  refine ⟨.of l, ?_, ?_, hR, by simp⟩
  ·cases l with
   | nil => exact absurd rfl hne
   | cons z zs => rfl
  ·rw [List.length_map] at hl
   have h3 := Nat.mul_le_mul_left l.length hpos
   have h4 : reachBytes = 140737488351232 := rfl
   simp only [els]
   omega
theorem arg_sl {t e sz : Nat} {α : Type} {f : α → PD} {R : α → Prop} {xs : List PD} (ht : Tryz.prog.underlying t = some (.slice e)) (hc : Tryz.prog.cellsOf e = sz) (hpos : 1 ≤ Tryz.prog.bytesOf e) (h : TyB Tryz.prog t xs)
    (he : ∀ es x, xs = [.slice sz es] → x ∈ es → TyB Tryz.prog e x.cells → x = mkE Tryz.prog e x.cells → ∃ a, x = f a ∧ R a) : ∃ o : Sl α, xs = [slP sz (o.map f)] ∧ (els o).length < 4611686018427387904 ∧ ∀ a ∈ els o, R a := by
 obtain ⟨o, h1, h2, h3, _⟩ := arg_slN ht hc hpos h he
 exact ⟨o, h1, h2, h3⟩
theorem arg_ints {xs : List PD} (h : TyB Tryz.prog 28 xs) : ∃ o : Sl Int, xs = [intsP o] ∧ (els o).length < 4611686018427387904 ∧ o ≠ .amb := by
 obtain ⟨o, e, hl, _, hn⟩ := arg_slN (f := PD.int .i64) (R := fun _ => True) Tryz.underlying28 (by kernel_rfl) (of_decide_eq_true (by kernel_rfl)) h fun es x hes hx h1 h2 => by
  obtain ⟨n, e1, _⟩ := tyb_int Tryz.underlying3 h1
  rw [e1, mkE_one (fun fs e => by rw [Tryz.underlying3] at e; cases e)] at h2
  exact ⟨n, h2, trivial⟩
 exact ⟨o, e, hl, hn⟩
theorem arg_rel {xs : List PD} (h : TyB Tryz.prog 45 xs) : ∃ r : Rl, xs = [.int .i64 r.ar, intsP r.tu] ∧ r.tu ≠ .amb := by
 obtain ⟨parts, rfl, hl, hf⟩ := tyb_struct Tryz.underlying45 h
 match parts, hl with
 | [a, b], _ =>
  obtain ⟨n, rfl, _⟩ := tyb_int Tryz.underlying3 (hf 0 _ a rfl rfl)
  obtain ⟨o, rfl, _, hn⟩ := arg_ints (hf 1 _ b rfl rfl)
  exact ⟨⟨n, o⟩, rfl, hn⟩
theorem arg_rels {xs : List PD} (h : TyB Tryz.prog 63 xs) : ∃ o : Sl Rl, xs = [relsP o] ∧ ∀ r ∈ els o, r.tu ≠ .amb := by
 obtain ⟨o, e, _, h2⟩ := arg_sl (f := Rl.p) (R := fun r => r.tu ≠ .amb) Tryz.underlying63 (by kernel_rfl) (of_decide_eq_true (by kernel_rfl)) h fun es x hes hx h1 h2 => by
  rw [mkE_struct Tryz.underlying45] at h2
  obtain ⟨r, e, hn⟩ := arg_rel h1
  rw [e] at h2
  exact ⟨r, h2, hn⟩
 exact ⟨o, e, h2⟩
theorem arg_states {xs : List PD} (h : TyB Tryz.prog 31 xs) : ∃ o : Sl (Sl Rl), xs = [statesP o] ∧ ∀ x ∈ els o, ∀ r ∈ els x, r.tu ≠ .amb := by
 obtain ⟨o, e, _, h2⟩ := arg_sl (f := relsP) (R := fun x => ∀ r ∈ els x, r.tu ≠ .amb) Tryz.underlying31 (by kernel_rfl) (of_decide_eq_true (by kernel_rfl)) h fun es x hes hx h1 h2 => by
  obtain ⟨r, e, hn⟩ := arg_rels h1
  rw [e, mkE_one (fun fs e => by rw [Tryz.underlying63] at e; cases e)] at h2
  exact ⟨r, h2, hn⟩
 exact ⟨o, e, h2⟩
theorem arg_model {xs : List PD} (h : TyB Tryz.prog 33 xs) : ∃ m : Mo, xs = [intsP m.a, .int .i64 m.st, statesP m.ss, .int .i64 m.lp] ∧ m.a ≠ .amb ∧ ∀ x ∈ els m.ss, ∀ r ∈ els x, r.tu ≠ .amb := by
 obtain ⟨parts, rfl, hl, hf⟩ := tyb_struct Tryz.underlying33 h
 match parts, hl with
 | [a, b, c], _ =>
  obtain ⟨parts2, rfl, hl2, hf2⟩ := tyb_struct Tryz.underlying30 (hf 0 _ a rfl rfl)
  obtain ⟨ss, rfl, hss⟩ := arg_states (hf 1 _ b rfl rfl)
  obtain ⟨lp, rfl, _⟩ := tyb_int Tryz.underlying3 (hf 2 _ c rfl rfl)
  match parts2, hl2 with
  | [d, e], _ =>
   obtain ⟨at', rfl, _, hn⟩ := arg_ints (hf2 0 _ d rfl rfl)
   obtain ⟨st, rfl, _⟩ := tyb_int Tryz.underlying3 (hf2 1 _ e rfl rfl)
   exact ⟨⟨at', st, ss, lp⟩, rfl, hn, hss⟩
theorem arg_fields {xs : List PD} (h : TyB Tryz.prog 23 xs) : ∃ o : Sl Fi, xs = [fieldsP o] := by
 obtain ⟨o, e, _, _⟩ := arg_sl (f := Fi.p) (R := fun _ => True) Tryz.underlying23 (by kernel_rfl) (of_decide_eq_true (by kernel_rfl)) h fun es x hes hx h1 h2 => by
  rw [mkE_struct Tryz.underlying43] at h2
  obtain ⟨parts, e, hl, hf⟩ := tyb_struct Tryz.underlying43 h1
  match parts, hl with
  | [a, b, c], _ =>
   obtain ⟨nm, rfl, _⟩ := tyb_str Tryz.underlying9 (hf 0 _ a rfl rfl)
   obtain ⟨so, rfl, _⟩ := arg_ints (hf 1 _ b rfl rfl)
   obtain ⟨va, rfl⟩ := tyb_bool Tryz.underlying4 (hf 2 _ c rfl rfl)
   rw [e] at h2
   exact ⟨⟨nm, so, va⟩, h2, trivial⟩
 exact ⟨o, e⟩
theorem arg_any {t e : TypeId} {xs : List PD} (ht : Tryz.prog.underlying t = some (.slice e)) (h : TyB Tryz.prog t xs) : ∃ (x : PD) (n : Nat), xs = [x] ∧ x.one = true ∧ lenD 1 (.p x) = some n := by
 rcases tyb_slice ht h with rfl | rfl | ⟨es, _, _, rfl, _, _⟩
 ·exact ⟨_, 0, rfl, rfl, rfl⟩
 ·exact ⟨_, 0, rfl, rfl, rfl⟩
 ·exact ⟨_, es.length, rfl, rfl, rfl⟩
theorem arg_spec {xs : List PD} (h : TyB Tryz.prog 27 xs) : ∃ (so : PD) (fi : Sl Fi) (f3 f4 : PD) (ns : Nat), xs = [so, fieldsP fi, f3, f4] ∧ lenD 1 (.p so) = some ns ∧ so.one = true ∧ f3.one = true ∧ f4.one = true := by
 obtain ⟨parts, rfl, hl, hf⟩ := tyb_struct Tryz.underlying27 h
 match parts, hl with
 | [a, b, c, d], _ =>
  obtain ⟨so, n, rfl, o1, hn⟩ := arg_any Tryz.underlying22 (hf 0 _ a rfl rfl)
  obtain ⟨fi, rfl⟩ := arg_fields (hf 1 _ b rfl rfl)
  obtain ⟨f3, _, rfl, o3, _⟩ := arg_any Tryz.underlying24 (hf 2 _ c rfl rfl)
  obtain ⟨f4, _, rfl, o4, _⟩ := arg_any Tryz.underlying25 (hf 3 _ d rfl rfl)
  exact ⟨so, fi, f3, f4, n, rfl, hn, o1, o3, o4⟩
abbrev argTs : List TypeId := [27, 33, 28, 22, 23, 24, 25, 41, 43, 168, 103, 30, 31, 63, 45, 3, 9, 4, 166, 52, 225, 50]
theorem argTs_ok : argTs.all (tyOk Tryz.prog argTs) = true := by kernel_rfl

variable {H : Type} {enc : TypeId × Value → H} {W : World} {r : Reach} {b0 : Nat} {v : Value}
def Rd (enc : TypeId × Value → H) (W : World) (t : TypeId) (v : Value) : Prop := ∃ d p, DataW.Trod enc Tryz.prog W 0 (fun _ => true) true t v d p ∧ Szd Tryz.prog t d

set_option maxRecDepth 20000 in
theorem rep_spec (hval : Value.okWide Tryz.prog W r b0 27 v) (hd : Rd enc W 27 v) : ∃ (so : PD) (fi : Sl Fi) (f3 f4 : PD) (ns : Nat), RepD (gh0 W) v (.p (.agg [so, fieldsP fi, f3, f4])) ∧ lenD 1 (.p so) = some ns ∧ so.one = true ∧ f3.one = true ∧ f4.one = true := by
 obtain ⟨d, p, hd, hz⟩ := hd
 obtain ⟨x, h1, h2, h3, _⟩ := rep_anyB argTs_ok (by simp) hval hd hz
 obtain ⟨so, fi, f3, f4, ns, e, q⟩ := arg_spec h2
 have hx := h3 ⟨_, Tryz.underlying27⟩
 exact ⟨so, fi, f3, f4, ns, by rw [← e, ← hx]; exact h1, q⟩

set_option maxRecDepth 20000 in
theorem rep_model (hval : Value.okWide Tryz.prog W r b0 33 v) (hd : Rd enc W 33 v) : ∃ m : Mo, RepD (gh0 W) v (.p (.agg [intsP m.a, .int .i64 m.st, statesP m.ss, .int .i64 m.lp])) ∧ m.a ≠ .amb ∧ ∀ x ∈ els m.ss, ∀ r ∈ els x, r.tu ≠ .amb := by
 obtain ⟨d, p, hd, hz⟩ := hd
 obtain ⟨x, h1, h2, h3, _⟩ := rep_anyB argTs_ok (by simp) hval hd hz
 obtain ⟨m, e, hn⟩ := arg_model h2
 have hx := h3 ⟨_, Tryz.underlying33⟩
 exact ⟨m, by rw [← e, ← hx]; exact h1, hn⟩

set_option maxRecDepth 20000 in
theorem rep_ints (hval : Value.okWide Tryz.prog W r b0 28 v) (hd : Rd enc W 28 v) : ∃ a : Sl Int, RepD (gh0 W) v (.p (intsP a)) := by
 obtain ⟨d, p, hd, hz⟩ := hd
 obtain ⟨x, h1, h2, _, h4⟩ := rep_anyB argTs_ok (by simp) hval hd hz
 obtain ⟨a, e, _, _⟩ := arg_ints h2
 have h4 := h4 fun fs e => by rw [Tryz.underlying28] at e; cases e
 have hx : x = intsP a := by
  cases x <;> first | (simp only [PD.cells, List.cons.injEq, and_true] at e; exact e) | (cases h4)
 exact ⟨a, hx ▸ h1⟩
theorem ren_bool {bi ti : Nat → Option Nat} {d : D} {b : Bool} (h : d.ren bi ti = some (.p (.bool b))) : d = .p (.bool b) := by
 cases d with
 | p x => simpa [D.ren] using h
 | tsl t e sz es => simp only [D.ren] at h; split at h <;> simp at h
 | fn f a c => simp only [D.ren] at h; split at h <;> simp at h
 | _ => simp [D.ren] at h
theorem call_bool {c : CallR} {f : Nat} {aa : List PD} {b : Bool} {H' : Hp} (h : callD c f (aa.map .p) ⟨[], []⟩ = some (.val (.p (.bool b)), H')) : ∃ Hx, c f (aa.map .p) ⟨[], []⟩ = some (.val (.p (.bool b)), Hx) := by
 unfold callD at h
 simp only [refsL_p, toksL_p, ins, reach_nil, boxToks, List.append_nil, Vs.nodupB, Bool.and_self, if_true, mapO, renL_p] at h
 cases hc : c f (aa.map .p) ⟨[], []⟩ with
 | none => rw [hc] at h; cases h
 | some y =>
  obtain ⟨r, Hx⟩ := y
  rw [hc] at h
  dsimp only at h
  refine ⟨Hx, ?_⟩
  have key : ∀ bi ti, r.ren bi ti = some (.val (.p (.bool b))) → r = .val (.p (.bool b)) := by
   intro bi ti hr
   cases r with
   | val d =>
    simp only [Res.ren, Option.map_eq_some_iff] at hr
    obtain ⟨d', h1, h2⟩ := hr
    cases h2
    rw [ren_bool h1]
   | pan d =>
    simp only [Res.ren, Option.map_eq_some_iff] at hr
    obtain ⟨d', _, h2⟩ := hr
    cases h2
  unfold back at h
  split at h
  ·dsimp only at h
   split at h
   ·rename_i hr _
    cases h
    rw [key _ _ hr]
   ·split at h
    ·rename_i hr _ _
     cases h
     rw [key _ _ hr]
    ·cases h
  ·cases h

end Go.Proofs.YtdnebeaeiimjlaaGreatDoor

namespace Go.Proofs.YtdnebeaeiimjlaaGreatDoor
open Go.Vs
theorem law3 {so : PD} {fi : Sl Fi} {f3 f4 : PD} {ns : Nat} (hso : lenD 1 (.p so) = some ns) (o1 : so.one = true) (o3 : f3.one = true) (o4 : f4.one = true) {m : Mo} (ha : m.a ≠ .amb) (hx : ∀ x ∈ els m.ss, ∀ r ∈ els x, r.tu ≠ .amb) (a b : Sl Int) :
    ∃ H', call pgL 3 [.p (.agg [so, fieldsP fi, f3, f4]), .p (.agg [intsP m.a, .int .i64 m.st, statesP m.ss, .int .i64 m.lp]), .p (intsP a), .p (intsP b)] ⟨[], []⟩ = some (.val (.p (.bool true)), H') :=
 call_bool (aa := [_, _, _, _]) (law_compose hso o1 o3 o4 ha hx ⟨[], []⟩)

end Go.Proofs.YtdnebeaeiimjlaaGreatDoor

end
