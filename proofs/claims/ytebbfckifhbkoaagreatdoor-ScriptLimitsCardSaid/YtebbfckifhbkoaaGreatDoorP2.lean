/-
  What the library's contracts ask of the world at the start: from the listed variables and the world's shape.
-/
import Derived.Test.YtebbfckifhbkoaaGreatDoorG5
import Derived.Test.YtebbfckifhbkoaaGreatDoorG6
import Derived.Test.YtebbfckifhbkoaaGreatDoorRows
import Derived.ClosedOfChecked
import Derived.Lib.LaidTab
import Derived.Shelf.Vars
import Derived.ProofKit
import Derived.LaidMore
import Derived.Lay
import Derived.OpenShut
import Derived.Stop.Joined

namespace Go.Proofs.YtebbfckifhbkoaaGreatDoor
open Go.Vs Go.ChangeShapes Go.WideShapes Go.ChangeAt Go.WideMaps Go.WideElems Go.RowKit
abbrev laidL : List (String × DataW Unit) := [("armature/script.rows", Rows.laid_armature_script_rows), ("unicode/utf8.first", Rows.laid_unicode_utf8_first), ("unicode/utf8.acceptRanges", Rows.laid_unicode_utf8_acceptRanges), ("strconv.ErrSyntax", Rows.laid_strconv_ErrSyntax), ("strconv.ErrRange", Rows.laid_strconv_ErrRange), ("internal/strconv.uint64pow10", Rows.laid_internal_strconv_uint64pow10), ("math/bits.deBruijn32tab", Rows.laid_math_bits_deBruijn32tab), ("math/bits.deBruijn64tab", Rows.laid_math_bits_deBruijn64tab), ("armature/lexer.symbols", Rows.laid_armature_lexer_symbols)]
theorem ownK : ownKnob Tryz.prog.godebug = none := by kernel_rfl
theorem tys_eq : Tryz.checked.prog.types = Tryz.checked.src.types := by kernel_rfl
theorem rest_ok : (Tryz.checked.prog.globals.all (fun g => decide (g.type < Tryz.checked.prog.types.size)) && Tryz.checked.prog.funcs.all (fun f => f.params.all fun t => decide (t < Tryz.checked.prog.types.size))) = true := by kernel_rfl
theorem laidOut : laidOutB Tryz.prog = true := Go.ClosedOfChecked.laidOutB_of (Go.ClosedOfChecked.allSpec_of Tryz.checked.wellFormed tys_eq) rest_ok
theorem mapsOut : mapsRowed Tryz.prog = true := Go.ClosedOfChecked.mapsRowed_of (Go.ClosedOfChecked.allSpec_of Tryz.checked.wellFormed tys_eq)
theorem gTab : Tryz.prog.globalNamed "internal/strconv.uint64pow10" = some 1 := by kernel_rfl
theorem tTab : (Tryz.prog.globals[1]?).map (·.type) = some 337 := by kernel_rfl
theorem gErr : Tryz.prog.globalNamed "strconv.ErrSyntax" = some 3 := by kernel_rfl
theorem tErr : (Tryz.prog.globals[3]?).map (·.type) = some 76 := by kernel_rfl
theorem gRng : Tryz.prog.globalNamed "strconv.ErrRange" = some 4 := by kernel_rfl
theorem tRng : (Tryz.prog.globals[4]?).map (·.type) = some 76 := by kernel_rfl
theorem gRow : Tryz.prog.globalNamed "armature/script.rows" = some 0 := by kernel_rfl
theorem tRow : (Tryz.prog.globals[0]?).map (·.type) = some 51 := by kernel_rfl
theorem door_met (os : Os) (args : Array Value) : laidMetH Tryz.prog laidL ((World.laidAll Tryz.prog os laidL).forCall (fun _ _ => 0) ⟨#[], args, []⟩).memory := by
  rw [MakeChecks.laidMetH_plain _ _ _ (by kernel_rfl)]
  exact laidMet_laidAll _ (by kernel_rfl) (by kernel_rfl)
theorem trod_iface {H : Type} {enc : TypeId × Value → H} {P : Program} {w : World} {base : Nat} {sp : Nat → Bool} {held : Bool} {fuel : Nat} {t : TypeId} {ms} {cs : List Value} {x : DataW H × List MemPlace}
    (ht : P.underlying t = some (.interface ms)) (h : DataW.trod enc P w base sp held fuel t cs = some x) : cs = [.nilIface] ∨ ∃ u v, cs = [.iface u v] := by
  cases fuel with
  | zero => simp [DataW.trod] at h
  | succ fuel =>
    unfold DataW.trod at h
    rw [ht] at h
    split at h <;> first | (rename_i e; cases e; done) | skip
    all_goals first | exact .inl rfl | exact .inr ⟨_, _, rfl⟩ | (cases h; done) | skip
    all_goals simp_all
theorem err_cell {W : World} {g t : Nat} {ms} {cs : Array Value} {name : String} {fuel : Nat} {x : DataW Unit × List MemPlace} {enc : TypeId × Value → Unit} {base : Nat} {sp : Nat → Bool} {held : Bool}
    (hg : Tryz.prog.globalNamed name = some g) (ht : Tryz.prog.underlying t = some (.interface ms)) (hv : W.var? Tryz.prog name = some cs) (h : DataW.trod enc Tryz.prog W base sp held fuel t cs.toList = some x) :
    ∃ ev, W.cell? ⟨g, 0, none⟩ = some ev ∧ (ev = .nilIface ∨ ∃ te pe, ev = .iface te pe) := by
  have hc := World.var?_cell hg hv 0
  rcases trod_iface ht h with h | ⟨u, v, h⟩
  · have : cs = #[.nilIface] := by rw [← Array.toList_inj]; exact h
    subst this
    exact ⟨_, hc, .inl rfl⟩
  · have : cs = #[.iface u v] := by rw [← Array.toList_inj]; exact h
    subst this
    exact ⟨_, hc, .inr ⟨u, v, rfl⟩⟩

set_option maxRecDepth 20000 in
theorem wok {W : World} (h : laidMetH Tryz.prog laidL W) (hs : W.ShapedOpen Tryz.prog) : WOk W := by
  rw [MakeChecks.laidMetH_plain _ _ _ (by kernel_rfl)] at h
  obtain ⟨ps, ⟨_, _, _, _, _, _, _, _, _, _, ⟨_, _, _, _, _, _, _, _, _, _, ⟨_, _, _, _, _, _, _, _, _, _, ⟨g5, t5, cs5, f5, p5, q5, hg5, ht5, hv5, hd5, ⟨g4, t4, cs4, f4, p4, q4, hg4, ht4, hv4, hd4, ⟨g2, t2, cs2, f2, p2, q2, hg2, ht2, hv2, hd2, _⟩, _⟩, _⟩, _⟩, _⟩, _⟩, _⟩ := h
  obtain rfl := Option.some.inj (gTab.symm.trans hg2)
  obtain rfl := Option.some.inj (tTab.symm.trans ht2)
  obtain rfl := Option.some.inj (gRng.symm.trans hg4)
  obtain rfl := Option.some.inj (tRng.symm.trans ht4)
  obtain rfl := Option.some.inj (gErr.symm.trans hg5)
  obtain rfl := Option.some.inj (tErr.symm.trans ht5)
  refine ⟨?_, ?_, ?_, ?_⟩
  · exact Go.Proofs.cell_of_shapedOpen_int (zero := #[.int .i64 0]) hs (of_decide_eq_true (by kernel_rfl)) (by kernel_rfl) (by kernel_rfl) (by kernel_rfl) (by kernel_rfl) Tryz.underlying3
  · unfold Lib.TabIs
    rw [hv2]
    have h5 := Tryz.underlying337
    have h6 := Tryz.underlying243
    have e5 : (Rows.laid_internal_strconv_uint64pow10 : DataW Unit) = Lib.tabData .u64 Lib.pow10Tab := by kernel_rfl
    rw [e5] at hd2
    have := Lib.cells_of_tab (zs := Lib.pow10Tab) h5 h6 (by kernel_rfl) (by kernel_rfl) hd2
    rw [← this]
  · exact err_cell gErr Tryz.underlying76 hv5 hd5
  · exact err_cell gRng Tryz.underlying76 hv4 hd4
def rowW (r : List UInt8 × Int × Int × Bool) : DataW Unit := .agg [.lit (.string r.1), .lit (.int .i64 r.2.1), .lit (.int .i64 r.2.2.1), .lit (.bool r.2.2.2)]
theorem laid_eq : (Rows.laid_armature_script_rows : DataW Unit) = .agg (rowL.map rowW) := by rfl
theorem rowC_at {r q : Nat} (hr : r < 10) (hq : q < 4) : rowC[r * 4 + q]? = (rowP (rowAt r))[q]? ∧ rowL[r]? = some (rowAt r) := by
  match r, hr with
  | 0, _ | 1, _ | 2, _ | 3, _ | 4, _ | 5, _ | 6, _ | 7, _ | 8, _ | 9, _ =>
    match q, hq with
    | 0, _ | 1, _ | 2, _ | 3, _ => exact ⟨rfl, rfl⟩
theorem sub_cell {cs : List Value} (a q : Nat) {v : Value} (hq : q < 4) (h : (((cs.drop a).take 4).drop q).take 1 = [v]) : cs[a + q]? = some v := by
  have : ((((cs.drop a).take 4).drop q).take 1)[0]? = some v := by rw [h]; rfl
  rw [List.getElem?_take_of_lt (by omega), List.getElem?_drop, Nat.add_zero, List.getElem?_take_of_lt hq, List.getElem?_drop] at this
  exact this

set_option maxRecDepth 20000 in
theorem row_cells {W : World} {enc : TypeId × Value → Unit} {base : Nat} {sp : Nat → Bool} {held : Bool} {fuel : Nat} {cs : List Value} {a : Nat} {y : DataW Unit × List MemPlace} {r : List UInt8 × Int × Int × Bool}
    (h : DataW.trod enc Tryz.prog W base sp held fuel 50 ((cs.drop a).take 4) = some y) (hy : y.1 = rowW r) :
    ∃ s : ByteArray, s.data.toList = r.1 ∧ cs[a]? = some (.string s) ∧ cs[a + 1]? = some (.int .i64 r.2.1) ∧ cs[a + 2]? = some (.int .i64 r.2.2.1) ∧ cs[a + 3]? = some (.bool r.2.2.2) := by
  obtain ⟨xs, n, _, rfl, _, hl, hf⟩ := DataW.trod_struct Tryz.underlying50 h
  have c9 : Tryz.prog.cellsOf 9 = 1 := by kernel_rfl
  have c3 : Tryz.prog.cellsOf 3 = 1 := by kernel_rfl
  have c4 : Tryz.prog.cellsOf 4 = 1 := by kernel_rfl
  match xs, hl with
  | [x0, x1, x2, x3], _ =>
    have f0 := hf 0 _ rfl
    have f1 := hf 1 _ rfl
    have f2 := hf 2 _ rfl
    have f3 := hf 3 _ rfl
    simp only [c9, c3, c4, List.getElem?_cons_zero, List.getElem?_cons_succ] at f0 f1 f2 f3
    obtain ⟨s, a1, rfl, _⟩ := DataW.trod_string Tryz.underlying9 f0
    obtain ⟨n1, a2, rfl, _⟩ := DataW.trod_int Tryz.underlying3 f1
    obtain ⟨n2, a3, rfl, _⟩ := DataW.trod_int Tryz.underlying3 f2
    obtain ⟨b, a4, rfl⟩ := DataW.trod_bool Tryz.underlying4 f3
    simp only [rowW, List.map_cons, List.map_nil, DataW.agg.injEq, List.cons.injEq, DataW.lit.injEq, Lit.string.injEq, Lit.int.injEq, Lit.bool.injEq, true_and, and_true] at hy
    obtain ⟨e1, e2, e3, e4⟩ := hy
    refine ⟨s, e1, sub_cell a 0 (by decide) a1, ?_, ?_, ?_⟩
    · rw [← e2]; exact sub_cell a 1 (by decide) a2
    · rw [← e3]; exact sub_cell a 2 (by decide) a3
    · rw [← e4]; exact sub_cell a 3 (by decide) a4
theorem globs_ok {W : World} (h : laidMetH Tryz.prog laidL W) : GlobOk pg.G W := by
  rw [MakeChecks.laidMetH_plain _ _ _ (by kernel_rfl)] at h
  obtain ⟨ps, ⟨g0, t0, cs0, f0, p0, q0, hg0, ht0, hv0, hd0, _⟩, _⟩ := h
  obtain rfl := Option.some.inj (gRow.symm.trans hg0)
  obtain rfl := Option.some.inj (tRow.symm.trans ht0)
  obtain ⟨xs, m1, rfl, hx1, hlen, hn, hel⟩ := DataW.trod_array Tryz.underlying51 hd0
  have c50 : Tryz.prog.cellsOf 50 = 4 := by kernel_rfl
  rw [laid_eq] at hx1
  simp only [Prod.mk.injEq, DataW.agg.injEq] at hx1
  have hxs := hx1.1
  refine ⟨fun g cs hg j c hc => ?_⟩
  have hg' : pgG g = some cs := hg
  unfold pgG at hg'
  split at hg'
  · cases hg'
    have hj : j < 40 := (List.getElem?_eq_some_iff.1 hc).1
    obtain ⟨r, q, hr, hq, rfl⟩ : ∃ r q, r < 10 ∧ q < 4 ∧ j = r * 4 + q := ⟨j / 4, j % 4, by omega, by omega, by omega⟩
    obtain ⟨hcq, hrl⟩ := rowC_at hr hq
    rw [hcq] at hc
    have h1 := hel r hr
    have hrx : r < xs.length := by omega
    rw [c50, List.getElem?_eq_getElem hrx] at h1
    have hy : (xs[r]).1 = rowW (rowAt r) := by
      have h2 : (xs.map (·.1))[r]? = some (rowW (rowAt r)) := by rw [← hxs, List.getElem?_map, hrl]; rfl
      rw [List.getElem?_map, List.getElem?_eq_getElem hrx] at h2
      exact Option.some.inj h2
    obtain ⟨s, e0, d0, d1, d2, d3⟩ := row_cells h1 hy
    have hcell : ∀ k v, cs0.toList[k]? = some v → W.cell? ⟨0, k, none⟩ = some v := fun k v hk => by
      rw [World.var?_cell hg0 hv0 k]
      simpa using hk
    match q, hq with
    | 0, _ =>
      have hc : some (PD.str (rowAt r).1) = some c := hc
      cases hc
      refine ⟨rfl, .string s, hcell _ _ d0, ?_⟩
      rw [← e0]
      have : s = ⟨s.data.toList.toArray⟩ := by simp
      have k := RepP.str (m := (gh0 W).mem) s.data.toList
      rw [← this] at k
      exact k
    | 1, _ =>
      have hc : some (PD.int .i64 (rowAt r).2.1) = some c := hc
      cases hc
      exact ⟨rfl, _, hcell _ _ d1, .int _ _⟩
    | 2, _ =>
      have hc : some (PD.int .i64 (rowAt r).2.2.1) = some c := hc
      cases hc
      exact ⟨rfl, _, hcell _ _ d2, .int _ _⟩
    | 3, _ =>
      have hc : some (PD.bool (rowAt r).2.2.2) = some c := hc
      cases hc
      exact ⟨rfl, _, hcell _ _ d3, .bool _⟩
  · cases hg'

end Go.Proofs.YtebbfckifhbkoaaGreatDoor
