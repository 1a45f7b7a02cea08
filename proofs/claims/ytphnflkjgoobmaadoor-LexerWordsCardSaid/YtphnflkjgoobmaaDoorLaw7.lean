/-
  LexerWords: for every input the law returns true, and the input reads as it did. The listed variable is tied to the program's text.
-/
import Derived.Test.YtphnflkjgoobmaaDoorQ7
import Derived.Test.YtphnflkjgoobmaaDoorP2
import Derived.Test.YtphnflkjgoobmaaDoorTie
import Derived.Test.YtphnflkjgoobmaaDoorCards
import Derived.SevenTiedAt
namespace Go.Proofs.YtphnflkjgoobmaaDoor
open Go.Vs Go.ChangeShapes Go.WideShapes Go.ChangeAt Go.WideMaps Go.WideElems Go.RowKit

theorem repL_nil_7 {γ : Gh} : RepL γ #[] [] := ⟨rfl, fun i x hx => by simp at hx⟩
theorem repL_cons_7 {γ : Gh} {v : Value} {d : D} {vs : List Value} {ds : List D} (h : RepD γ v d) (k : RepL γ ⟨vs⟩ ds) : RepL γ ⟨v :: vs⟩ (d :: ds) := by
  refine ⟨by have := k.1; simpa using this, fun i x hx => ?_⟩
  match i with
  | 0 => simp only [List.getElem?_cons_zero, Option.some.injEq] at hx; subst hx; exact h
  | i + 1 => simpa using k.2 i x (by simpa using hx)

set_option maxRecDepth 100000 in
theorem law7_lifted (os : Os) (started : os.Started) (H : Type) (enc : TypeId × Value → H) :
    ReturnsInHanded {} Tryd.checked os 9 .any (fun w args => (Rows.lexerWordsSpec.pre enc Tryd.prog Tryd.f9 [] false w args ∧ laidMetH Tryd.prog laidL w) ∧ sizedMet enc Tryd.prog Tryd.f9 (OpenSpec.ofChange Rows.lexerWordsSpec) false w args)
      (Rows.lexerWordsSpec.post enc Tryd.prog Tryd.f9 false true false false) := by
  refine returnsInHanded_of_change_and (C := Tryd.checked) (X := fun w _ => laidMetH Tryd.prog laidL w) (fun _ _ _ hh h => h.of_heap hh) own started (by kernel_rfl) Tryd.func9
    (ChangeSpec.witness_shaped (enc := enc) (C := Tryd.checked) (os := os) (X := fun w _ => laidMetH Tryd.prog laidL w) false (World.doorLaid Tryd.prog 400 os) #[.int .u8 0, .slice none 0 0, .int .u32 0] 8 rfl (World.shaped_of_RefB (by kernel_rfl) (by kernel_rfl)) (by kernel_rfl) (by kernel_rfl) (by kernel_rfl) (door_met os _)) ?_
  intro W base args ds gs before hval0 hW _ _ hL _
  have hval : ∀ (j : Nat) t v, Tryd.f9.params[j]? = some t → args[j]? = some v → Value.okWide Tryd.prog W .any base t v := hval0
  have hW' := hW
  obtain ⟨p, q, hA0, hV, rfl, hfz, hnd⟩ := hW
  have hA : DataW.TrodAll enc Tryd.prog W 0 (fun _ => true) true Tryd.f9.params.toList args.toList ds p := hA0
  rw [Tryd.params9] at hA hval
  obtain ⟨v0, v1, v2, d0, d1, d2, p0, p1, p2, rfl, rfl, rfl, h0, h1, h2⟩ := trodAll_three hA
  obtain ⟨rfl, rfl⟩ := trodVars_none hV
  obtain ⟨n0, rfl, rfl, _, w0⟩ := open_int Tryd.underlying5 (hval 0 5 v0 rfl rfl) h0
  obtain ⟨x1, r1, w1⟩ := rep_ints Tryd.underlying32 Tryd.underlying5 (by kernel_rfl) (hval 1 32 v1 rfl rfl) h1
  obtain ⟨n2, rfl, rfl, _, w2⟩ := open_int Tryd.underlying37 (hval 2 37 v2 rfl rfl) h2
  obtain ⟨H', hc⟩ := law7 n0 w0 x1 w1 n2 w2
  refine (law_calls pg_ok hc (globs_ok hL) (repL_cons_7 (.p _ _ (.int _ n0)) (repL_cons_7 r1 (repL_cons_7 (.p _ _ (.int _ n2)) repL_nil_7)))).mono ?_
  rintro e W' ⟨rfl, B⟩
  refine ⟨.bool true, rfl, ?_⟩
  refine post_law (tb := 4) laidOut ?_ rfl hW' (by kernel_rfl) Tryd.underlying4 rfl B
  intro t ht
  rw [Tryd.params9] at ht
  have ht' : t = 5 ∨ t = 32 ∨ t = 37 := by simpa using ht
  rcases ht' with rfl | rfl | rfl
  · exact ⟨by kernel_rfl, of_decide_eq_true (by kernel_rfl)⟩
  · exact ⟨by kernel_rfl, of_decide_eq_true (by kernel_rfl)⟩
  · exact ⟨by kernel_rfl, of_decide_eq_true (by kernel_rfl)⟩

theorem law7_holds : Rows.LexerWordsSaid :=
  OpenClaim.holds_of_wide 9 Tryd.f9 rfl rfl rfl rfl rfl rfl rfl ⟨rfl, rfl, rfl, rfl, rfl⟩ rfl rfl rfl rfl rfl (by kernel_rfl) Tryd.func9 (by kernel_rfl)
    (of_decide_eq_true (by kernel_rfl)) (by unfold Func.isWrapper; first | (rw [if_pos (by decide +kernel)]; kernel_rfl) | (rw [if_neg (by decide +kernel)]; exact ⟨rfl, rfl⟩))
    (fun os started H enc _ => law7_lifted os started H enc)

theorem law7_card : Rows.LexerWordsCardSaid :=
  Claim7.holds_tied_plain_at .later [] [.data] true (true, "d565f7a37d77ef256f0447b0a07ac74ed60c6b2b7ea88604e99857564a0f80a6") false
    law7_holds (fun _ h => by cases h) (by kernel_rfl) (fun _ h => by cases h) lexerWords_row_tie rfl ⟨rfl, rfl⟩ (by kernel_rfl) rfl
    (fun f fn hf hfn => by
      obtain rfl : f = 9 := Option.some.inj ((show Tryd.prog.funcNamed "armature/armaturelaw01.LexerWords" = some 9 by kernel_rfl).symm.trans hf) |>.symm
      obtain rfl : fn = Tryd.f9 := (Option.some.inj (Tryd.func9.symm.trans hfn)).symm
      exact ⟨by kernel_rfl, fun j t ht => by
        rw [Tryd.params9] at ht
        match j with
          | 0 => 
            have h3 : t = 5 := by simpa using ht.symm
            subst h3
            exact (show Tryd.prog.wantsStandIn 5 = false by kernel_rfl)
          | 1 => 
            have h3 : t = 32 := by simpa using ht.symm
            subst h3
            exact (show Tryd.prog.wantsStandIn 32 = false by kernel_rfl)
          | 2 => 
            have h3 : t = 37 := by simpa using ht.symm
            subst h3
            exact (show Tryd.prog.wantsStandIn 37 = false by kernel_rfl)
          | j + 3 => simp at ht⟩)
    (by kernel_rfl)
#print axioms law7_card
end Go.Proofs.YtphnflkjgoobmaaDoor
