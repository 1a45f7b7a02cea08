/-
  The evaluator, step by step: lengths and elements of known data.
-/
import Derived.Test.YtphnflkjgoobmaaDoorFwV
import Derived.Test.YtphnflkjgoobmaaDoorFwU
namespace Go.Vs

theorem lenD_str (s : List UInt8) : lenD 0 (.p (.str s)) = some s.length := rfl
theorem lenD_nils : lenD 1 (.p .nils) = some 0 := rfl
theorem lenD_sl (sz : Nat) (es : List PD) : lenD 1 (.p (.slice sz es)) = some es.length := rfl
theorem lenD_fsl (sz : Nat) (es : List PD) : lenD 1 (.fsl sz es) = some es.length := rfl
theorem lenD_tsl (t e sz : Nat) (es : List PD) : lenD 1 (.tsl t e sz es) = some es.length := rfl

theorem iaddr_sl {sz : Nat} {es : List PD} {k : Nat} (h : k < es.length) : iaddrD none sz (.p (.slice sz es)) (k : Int) = some (.ro (es[k]).cells 0) := by
  simp [iaddrD, D.elems?, h]
theorem iaddr_fsl {sz : Nat} {es : List PD} {k : Nat} (h : k < es.length) : iaddrD none sz (.fsl sz es) (k : Int) = some (.ro (es[k]).cells 0) := by
  simp [iaddrD, D.elems?, h]
theorem iaddr_tsl {t e sz : Nat} {es : List PD} {k : Nat} (h : k < es.length) : iaddrD none sz (.tsl t e sz es) (k : Int) = some (.ro (es[k]).cells 0) := by
  simp [iaddrD, D.elems?, h]

theorem u8_range {n : Int} (h : (Lit.int .u8 n).wf = true) : 0 ≤ n ∧ n < 256 := by
  simp [Lit.wf, IntKind.min, IntKind.max, IntKind.bits, IntKind.signed] at h
  omega

theorem repL_nil {γ : Gh} : RepL γ #[] [] := ⟨rfl, fun i x hx => by simp at hx⟩
theorem repL_cons {γ : Gh} {v : Value} {d : D} {vs : List Value} {ds : List D} (h : RepD γ v d) (k : RepL γ ⟨vs⟩ ds) : RepL γ ⟨v :: vs⟩ (d :: ds) := by
  refine ⟨by have := k.1; simpa using this, fun i x hx => ?_⟩
  match i with
  | 0 => simp only [List.getElem?_cons_zero, Option.some.injEq] at hx; subst hx; exact h
  | i + 1 => simpa using k.2 i x (by simpa using hx)

end Go.Vs
