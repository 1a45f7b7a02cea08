/-
  The evaluator's program is the cut's.
-/
import Derived.Test.YtphnflkjgoobmaaDoorPg
import Derived.Test.YtphnflkjgoobmaaDoorFwU
import Derived.Test.YtphnflkjgoobmaaDoorChecked
import Derived.WalkKit
import Derived.Laws.Externs
namespace Go.Proofs.YtphnflkjgoobmaaDoor
open Go.Vs

theorem find_range (c : UInt8) : ∀ l : List UInt8, ((List.range l.length).find? fun i => l.getD i 0 == c) = idxOf c l
  | [] => rfl
  | b :: l => by
    rw [List.length_cons, List.range_succ_eq_map, List.find?_cons]
    simp only [List.getD_cons_zero, idxOf]
    by_cases h : b = c
    · simp [h]
    · have h1 : (b == c) = false := by simpa using h
      rw [h1, if_neg h, List.find?_map, ← find_range c l]
      rfl

theorem get_bang (l : List UInt8) (i : Nat) : (⟨l.toArray⟩ : ByteArray)[i]! = l.getD i 0 := by
  by_cases h : i < l.length
  · have h2 : i < (⟨l.toArray⟩ : ByteArray).size := by simpa [ByteArray.size] using h
    rw [getElem!_pos (⟨l.toArray⟩ : ByteArray) i h2]
    simp only [List.getD_eq_getElem?_getD, List.getElem?_eq_getElem h, Option.getD_some]
    rfl
  · have h2 : ¬ i < (⟨l.toArray⟩ : ByteArray).size := by simpa [ByteArray.size] using h
    rw [getElem!_neg (⟨l.toArray⟩ : ByteArray) i h2]
    simp only [List.getD_eq_getElem?_getD, List.getElem?_eq_none (Nat.le_of_not_lt h), Option.getD_none]
    rfl

theorem firstIdx_eq (l : List UInt8) (c : UInt8) : firstIdx ⟨l.toArray⟩ c = idxI l c := by
  have hs : (⟨l.toArray⟩ : ByteArray).size = l.length := by simp [ByteArray.size]
  unfold firstIdx idxI
  rw [hs, ← find_range c l]
  simp only [get_bang]
  rfl

theorem walk40 (s : ByteArray) (c : Int) (w : World) : Calls Tryd.prog 40 #[.string s, .int .u8 c] w fun e w' => e = .returned (.int .i64 (firstIdx s c.toNat.toUInt8)) ∧ w' = w := by
  have hx : (callFunc 41 #[.string s, .int .u8 c]).run Tryd.prog w = .ok (.value (.int .i64 (firstIdx s c.toNat.toUInt8))) w := by
    rw [run_callFunc_extern Tryd.func41 (by kernel_rfl) (by kernel_rfl) (by kernel_rfl) (e := Extern.BytealgIndexByte.indexByte) (by kernel_rfl), run_indexByte_string]
    rfl
  go_enter Tryd.func40, Tryd.ntmps40
  go_wp2
  go_ret
  exact ⟨rfl, rfl⟩

theorem lib_sound : Sound Tryd.prog pg.G pg.lib := by
  intro f args H r H' h
  have h : pgL f args H = some (r, H') := h
  unfold pgL at h
  split at h
  · rename_i s c H0
    cases h
    refine ⟨⟨Tryd.f40, Tryd.func40, by kernel_rfl, by kernel_rfl⟩, fun γ w vs I hv => ?_⟩
    obtain ⟨hl, hr⟩ := hv
    obtain ⟨l⟩ := vs
    match l, hl with
    | [v0, v1], _ =>
      have r0 := hr 0 _ rfl
      have r1 := hr 1 _ rfl
      simp only [Array.getD_eq_getD_getElem?, List.getElem?_toArray, List.getElem?_cons_zero, List.getElem?_cons_succ, Option.getD_some] at r0 r1
      have e0 := r0.p_inv.str_inv
      have e1 := r1.p_inv.int_inv
      subst e0; subst e1
      refine (walk40 _ _ w).mono ?_
      rintro e w' ⟨rfl, rfl⟩
      refine ⟨γ, .refl γ, .refl γ H w', I, _, rfl, ?_⟩
      rw [firstIdx_eq]
      exact .p _ _ (.int _ _)
  · cases h

theorem pg_ok : PgOk Tryd.prog pg where
  mixed := Checked.mixed Tryd.checked
  lib := lib_sound
  fn := fun f fc h => by
    have h : pgF f = some fc := h
    unfold pgF at h
    split at h <;> (cases h <;> first | done | exact ok2 | exact ok3 | exact ok4 | exact ok5 | exact ok6 | exact ok7 | exact ok8 | exact ok9 | exact ok10 | exact ok11 | exact ok12 | exact ok13 | exact ok14 | exact ok15 | exact ok16 | exact ok17 | exact ok18 | exact ok19 | exact ok20 | exact ok21 | exact ok22 | exact ok23 | exact ok24 | exact ok25 | exact ok26 | exact ok27 | exact ok28 | exact ok29 | exact ok30 | exact ok31 | exact ok32 | exact ok33 | exact ok34 | exact ok35 | exact ok36 | exact ok37 | exact ok38 | exact ok39 | exact ok62)

end Go.Proofs.YtphnflkjgoobmaaDoor
