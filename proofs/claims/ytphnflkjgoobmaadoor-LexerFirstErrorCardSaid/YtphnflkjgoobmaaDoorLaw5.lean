/-
  LexerFirstError: for every input the law returns true, and the input reads as it did. The listed variable is tied to the program's text.
-/
import Derived.Test.YtphnflkjgoobmaaDoorQ5
import Derived.Test.YtphnflkjgoobmaaDoorP2
import Derived.Test.YtphnflkjgoobmaaDoorTie
import Derived.Test.YtphnflkjgoobmaaDoorCards
import Derived.SevenTiedAt
namespace Go.Proofs.YtphnflkjgoobmaaDoor
open Go.Vs Go.ChangeShapes Go.WideShapes Go.ChangeAt Go.WideMaps Go.WideElems Go.RowKit

theorem repL_nil_5 {γ : Gh} : RepL γ #[] [] := ⟨rfl, fun i x hx => by simp at hx⟩
theorem repL_cons_5 {γ : Gh} {v : Value} {d : D} {vs : List Value} {ds : List D} (h : RepD γ v d) (k : RepL γ ⟨vs⟩ ds) : RepL γ ⟨v :: vs⟩ (d :: ds) := by
  refine ⟨by have := k.1; simpa using this, fun i x hx => ?_⟩
  match i with
  | 0 => simp only [List.getElem?_cons_zero, Option.some.injEq] at hx; subst hx; exact h
  | i + 1 => simpa using k.2 i x (by simpa using hx)

set_option maxRecDepth 100000 in
theorem law5_lifted (os : Os) (started : os.Started) (H : Type) (enc : TypeId × Value → H) :
    ReturnsInHanded {} Tryd.checked os 7 .any (fun w args => (Rows.lexerFirstErrorSpec.pre enc Tryd.prog Tryd.f7 [] false w args ∧ laidMetH Tryd.prog laidL w) ∧ sizedMet enc Tryd.prog Tryd.f7 (OpenSpec.ofChange Rows.lexerFirstErrorSpec) false w args)
      (Rows.lexerFirstErrorSpec.post enc Tryd.prog Tryd.f7 false true false false) := by
  refine returnsInHanded_of_change_and (C := Tryd.checked) (X := fun w _ => laidMetH Tryd.prog laidL w) (fun _ _ _ hh h => h.of_heap hh) own started (by kernel_rfl) Tryd.func7
    (ChangeSpec.witness_shaped (enc := enc) (C := Tryd.checked) (os := os) (X := fun w _ => laidMetH Tryd.prog laidL w) false (World.doorLaid Tryd.prog 400 os) #[.string ⟨#[]⟩, .int .u8 0] 8 rfl (World.shaped_of_RefB (by kernel_rfl) (by kernel_rfl)) (by kernel_rfl) (by kernel_rfl) (by kernel_rfl) (door_met os _)) ?_
  intro W base args ds gs before hval0 hW _ _ hL _
  have hval : ∀ (j : Nat) t v, Tryd.f7.params[j]? = some t → args[j]? = some v → Value.okWide Tryd.prog W .any base t v := hval0
  have hW' := hW
  obtain ⟨p, q, hA0, hV, rfl, hfz, hnd⟩ := hW
  have hA : DataW.TrodAll enc Tryd.prog W 0 (fun _ => true) true Tryd.f7.params.toList args.toList ds p := hA0
  rw [Tryd.params7] at hA hval
  obtain ⟨v0, v1, d0, d1, p0, p1, rfl, rfl, rfl, h0, h1⟩ := trodAll_two hA
  obtain ⟨rfl, rfl⟩ := trodVars_none hV
  obtain ⟨s0, rfl, rfl, _, w0⟩ := Go.ChangeMaps.open_string Tryd.underlying9 (hval 0 9 v0 rfl rfl) h0
  obtain ⟨n1, rfl, rfl, _, w1⟩ := open_int Tryd.underlying5 (hval 1 5 v1 rfl rfl) h1
  obtain ⟨H', hc⟩ := law5 s0.data.toList n1 w1
  refine (law_calls pg_ok hc (globs_ok hL) (repL_cons_5 (rep_string W s0) (repL_cons_5 (.p _ _ (.int _ n1)) repL_nil_5))).mono ?_
  rintro e W' ⟨rfl, B⟩
  refine ⟨.bool true, rfl, ?_⟩
  refine post_law (tb := 4) laidOut ?_ rfl hW' (by kernel_rfl) Tryd.underlying4 rfl B
  intro t ht
  rw [Tryd.params7] at ht
  have ht' : t = 9 ∨ t = 5 := by simpa using ht
  rcases ht' with rfl | rfl
  · exact ⟨by kernel_rfl, of_decide_eq_true (by kernel_rfl)⟩
  · exact ⟨by kernel_rfl, of_decide_eq_true (by kernel_rfl)⟩

theorem law5_holds : Rows.LexerFirstErrorSaid :=
  OpenClaim.holds_of_wide 7 Tryd.f7 rfl rfl rfl rfl rfl rfl rfl ⟨rfl, rfl, rfl, rfl, rfl⟩ rfl rfl rfl rfl rfl (by kernel_rfl) Tryd.func7 (by kernel_rfl)
    (of_decide_eq_true (by kernel_rfl)) (by unfold Func.isWrapper; first | (rw [if_pos (by decide +kernel)]; kernel_rfl) | (rw [if_neg (by decide +kernel)]; exact ⟨rfl, rfl⟩))
    (fun os started H enc _ => law5_lifted os started H enc)

theorem law5_card : Rows.LexerFirstErrorCardSaid :=
  Claim7.holds_tied_plain_at .later [] [.data] true (true, "d565f7a37d77ef256f0447b0a07ac74ed60c6b2b7ea88604e99857564a0f80a6") false
    law5_holds (fun _ h => by cases h) (by kernel_rfl) (fun _ h => by cases h) lexerFirstError_row_tie rfl ⟨rfl, rfl⟩ (by kernel_rfl) rfl
    (fun f fn hf hfn => by
      obtain rfl : f = 7 := Option.some.inj ((show Tryd.prog.funcNamed "armature/armaturelaw01.LexerFirstError" = some 7 by kernel_rfl).symm.trans hf) |>.symm
      obtain rfl : fn = Tryd.f7 := (Option.some.inj (Tryd.func7.symm.trans hfn)).symm
      exact ⟨by kernel_rfl, fun j t ht => by
        rw [Tryd.params7] at ht
        match j with
          | 0 => 
            have h3 : t = 9 := by simpa using ht.symm
            subst h3
            exact (show Tryd.prog.wantsStandIn 9 = false by kernel_rfl)
          | 1 => 
            have h3 : t = 5 := by simpa using ht.symm
            subst h3
            exact (show Tryd.prog.wantsStandIn 5 = false by kernel_rfl)
          | j + 2 => simp at ht⟩)
    (by kernel_rfl)
#print axioms law5_card
end Go.Proofs.YtphnflkjgoobmaaDoor
