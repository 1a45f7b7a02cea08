/-
  The listed variable, as the evaluator's.
-/
import Derived.Test.YtphnflkjgoobmaaDoorP1
import Derived.Test.YtphnflkjgoobmaaDoorRows
import Derived.ProofKit
import Derived.LaidMore
import Derived.OpenShut
import Derived.Stop.Joined
namespace Go.Proofs.YtphnflkjgoobmaaDoor
open Go.Vs Go.ChangeShapes Go.WideShapes Go.ChangeAt Go.WideMaps Go.WideElems Go.RowKit

abbrev laidL : List (String × DataW Unit) := [("armature/lexer.symbols", Rows.laid_armature_lexer_symbols)]

theorem own : ownKnob Tryd.prog.godebug = none := by kernel_rfl
theorem gSym : Tryd.prog.globalNamed "armature/lexer.symbols" = some 0 := by kernel_rfl
theorem tSym : (Tryd.prog.globals[0]?).map (·.type) = some 53 := by kernel_rfl
theorem laidOut : laidOutB Tryd.prog = true := by kernel_rfl

theorem door_met (os : Os) (args : Array Value) : laidMetH Tryd.prog laidL ((World.doorLaid Tryd.prog 400 os).forCall (fun _ _ => 0) ⟨#[], args, []⟩).memory :=
  laidMetH_of_parts3 (fuel := 8) (laidMet_of_run' 8 (by kernel_rfl) (by kernel_rfl)) (by kernel_rfl) (by kernel_rfl)

theorem laid_eq : (Rows.laid_armature_lexer_symbols : DataW Unit) = .agg (syms.map fun s => .lit (.string s)) := by rfl

theorem globs_ok {W : World} (h : laidMetH Tryd.prog laidL W) : GlobOk pg.G W := by
  rw [MakeChecks.laidMetH_plain _ _ _ (by kernel_rfl)] at h
  obtain ⟨ps, ⟨g0, t0, cs0, f0, p0, q0, hg0, ht0, hv0, hd0, _⟩, _, _⟩ := h
  obtain rfl := Option.some.inj (gSym.symm.trans hg0)
  obtain rfl := Option.some.inj (tSym.symm.trans ht0)
  obtain ⟨xs, m1, rfl, hx1, hlen, hn, hel⟩ := DataW.trod_array Tryd.underlying53 hd0
  have c9 : Tryd.prog.cellsOf 9 = 1 := by kernel_rfl
  rw [laid_eq] at hx1
  simp only [Prod.mk.injEq, DataW.agg.injEq] at hx1
  have hxs := hx1.1
  refine ⟨fun g cs hg j c hc => ?_⟩
  have hg' : pgG g = some cs := hg
  unfold pgG at hg'
  split at hg'
  · cases hg'
    simp only [List.getElem?_map, Option.map_eq_some_iff] at hc
    obtain ⟨z, hz, rfl⟩ := hc
    have hj : j < 29 := by
      have := (List.getElem?_eq_some_iff.1 hz).1
      exact this
    have hjx : j < xs.length := by omega
    have h1 := hel j hj
    rw [c9, Nat.mul_one, List.getElem?_eq_getElem hjx] at h1
    obtain ⟨s, e1, e2, _⟩ := DataW.trod_string Tryd.underlying9 h1
    have h2 : (xs.map (·.1))[j]? = some (.lit (.string s.data.toList)) := by
      rw [List.getElem?_map, List.getElem?_eq_getElem hjx, e2]; rfl
    rw [← hxs, List.getElem?_map, hz] at h2
    simp only [Option.map_some, Option.some.injEq, DataW.lit.injEq, Lit.string.injEq] at h2
    have h3 : cs0[j]? = some (.string s) := by
      have : ((cs0.toList.drop j).take 1)[0]? = some (.string s) := by rw [e1]; rfl
      rw [List.getElem?_take_of_lt (by omega), List.getElem?_drop] at this
      simpa using this
    refine ⟨rfl, .string s, ?_, ?_⟩
    · rw [World.var?_cell hg0 hv0 j]; exact h3
    · rw [h2]
      have : s = ⟨s.data.toList.toArray⟩ := by simp
      have k := RepP.str (m := (gh0 W).mem) s.data.toList
      rw [← this] at k
      exact k
  · cases hg'

end Go.Proofs.YtphnflkjgoobmaaDoor
