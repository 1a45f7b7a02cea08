/-
  The tables hold what the functions give; the head answers yes.
-/
import Derived.Test.YtdnebeaeiimjlaaGreatDoorG5
import Derived.Test.YtdnebeaeiimjlaaGreatDoorTb
import Derived.Test.YtdnebeaeiimjlaaGreatDoorR1
import Derived.Test.YtdnebeaeiimjlaaGreatDoorR2
import Derived.Test.YtdnebeaeiimjlaaGreatDoorR3
import Derived.Test.YtdnebeaeiimjlaaGreatDoorR4
import Derived.Test.YtdnebeaeiimjlaaGreatDoorR5
import Derived.Test.YtdnebeaeiimjlaaGreatDoorR6
import Derived.Test.YtdnebeaeiimjlaaGreatDoorR7
import Derived.Test.YtdnebeaeiimjlaaGreatDoorR8
import Derived.Test.YtdnebeaeiimjlaaGreatDoorR9
import Derived.Test.YtdnebeaeiimjlaaGreatDoorR10
import Derived.Test.YtdnebeaeiimjlaaGreatDoorR11
import Derived.Test.YtdnebeaeiimjlaaGreatDoorR12
import Derived.Test.YtdnebeaeiimjlaaGreatDoorR13
import Derived.Test.YtdnebeaeiimjlaaGreatDoorR14
import Derived.Test.YtdnebeaeiimjlaaGreatDoorR15
import Derived.Test.YtdnebeaeiimjlaaGreatDoorR16
import Derived.Test.YtdnebeaeiimjlaaGreatDoorR17
import Derived.Test.YtdnebeaeiimjlaaGreatDoorR18
import Derived.Test.YtdnebeaeiimjlaaGreatDoorR19
import Derived.Test.YtdnebeaeiimjlaaGreatDoorR20
import Derived.Test.YtdnebeaeiimjlaaGreatDoorR21
import Derived.Test.YtdnebeaeiimjlaaGreatDoorR22
import Derived.Test.YtdnebeaeiimjlaaGreatDoorR23
import Derived.Test.YtdnebeaeiimjlaaGreatDoorR24
import Derived.Test.YtdnebeaeiimjlaaGreatDoorR25
import Derived.Test.YtdnebeaeiimjlaaGreatDoorR26
import Derived.Test.YtdnebeaeiimjlaaGreatDoorR27
import Derived.Test.YtdnebeaeiimjlaaGreatDoorR28
import Derived.Test.YtdnebeaeiimjlaaGreatDoorR29
import Derived.Test.YtdnebeaeiimjlaaGreatDoorR30
import Derived.Test.YtdnebeaeiimjlaaGreatDoorR31

namespace Go.Proofs.YtdnebeaeiimjlaaGreatDoor
open Go Go.Vs

variable {W : World}
theorem tab1_ok : ∀ e ∈ tab1, Meets Tryz.prog W (fun _ => none) e.1.1 e.1.2.1 e.1.2.2 e.2.1 e.2.2 := by
 intro e he
 simp only [tab1, List.mem_cons, List.not_mem_nil, or_false] at he
 rcases he with rfl | rfl | rfl | rfl | rfl | rfl | rfl | rfl | rfl | rfl
 ·exact evF_sound pg_ok 60 _ _ _ _ _ (runB_eq r1_)
 ·exact evF_sound pg_ok 60 _ _ _ _ _ (runB_eq r2_)
 ·exact evF_sound pg_ok 60 _ _ _ _ _ (runB_eq r3_)
 ·exact evF_sound pg_ok 60 _ _ _ _ _ (runB_eq r4_)
 ·exact evF_sound pg_ok 60 _ _ _ _ _ (runB_eq r5_)
 ·exact evF_sound pg_ok 60 _ _ _ _ _ (runB_eq r6_)
 ·exact evF_sound pg_ok 60 _ _ _ _ _ (runB_eq r7_)
 ·exact evF_sound pg_ok 60 _ _ _ _ _ (runB_eq r8_)
 ·exact evF_sound pg_ok 60 _ _ _ _ _ (runB_eq r9_)
 ·exact evF_sound pg_ok 60 _ _ _ _ _ (runB_eq r10_)
theorem lib1_ok : Sound Tryz.prog W (fun _ => none) lib1 := by
 intro f args H r H' h
 unfold lib1 at h
 split at h
 ·exact tabH_sound none_ok tab1_ok _ _ _ _ _ h
 ·exact tabH_sound none_ok tab1_ok _ _ _ _ _ h
 ·exact tabH_sound none_ok tab1_ok _ _ _ _ _ h
 ·exact libB_ok _ _ _ _ _ h
theorem pg1_ok : PgOk Tryz.prog W pg1 := ⟨by kernel_rfl, lib1_ok, pg_fn, pg_dfn⟩
theorem tab2_ok : ∀ e ∈ tab2, Meets Tryz.prog W (fun _ => none) e.1.1 e.1.2.1 e.1.2.2 e.2.1 e.2.2 := by
 intro e he
 simp only [tab2, List.mem_cons, List.not_mem_nil, or_false] at he
 rcases he with rfl | rfl | rfl | rfl | rfl | rfl | rfl | rfl | rfl | rfl | rfl | rfl | rfl | rfl | rfl | rfl
 ·exact evF_sound pg1_ok 60 _ _ _ _ _ (runB_eq r11_)
 ·exact evF_sound pg1_ok 60 _ _ _ _ _ (runB_eq r12_)
 ·exact evF_sound pg1_ok 60 _ _ _ _ _ (runB_eq r13_)
 ·exact evF_sound pg1_ok 60 _ _ _ _ _ (runB_eq r14_)
 ·exact evF_sound pg1_ok 60 _ _ _ _ _ (runB_eq r15_)
 ·exact evF_sound pg1_ok 60 _ _ _ _ _ (runB_eq r16_)
 ·exact evF_sound pg1_ok 60 _ _ _ _ _ (runB_eq r17_)
 ·exact evF_sound pg1_ok 60 _ _ _ _ _ (runB_eq r18_)
 ·exact evF_sound pg1_ok 60 _ _ _ _ _ (runB_eq r19_)
 ·exact evF_sound pg1_ok 60 _ _ _ _ _ (runB_eq r20_)
 ·exact evF_sound pg1_ok 60 _ _ _ _ _ (runB_eq r21_)
 ·exact evF_sound pg1_ok 60 _ _ _ _ _ (runB_eq r22_)
 ·exact evF_sound pg1_ok 60 _ _ _ _ _ (runB_eq r23_)
 ·exact evF_sound pg1_ok 60 _ _ _ _ _ (runB_eq r24_)
 ·exact evF_sound pg1_ok 60 _ _ _ _ _ (runB_eq r25_)
 ·exact evF_sound pg1_ok 60 _ _ _ _ _ (runB_eq r26_)
theorem lib2_ok : Sound Tryz.prog W (fun _ => none) lib2 := by
 intro f args H r H' h
 unfold lib2 at h
 split at h
 ·exact tabH_sound none_ok tab2_ok _ _ _ _ _ h
 ·exact tabH_sound none_ok tab2_ok _ _ _ _ _ h
 ·exact tabH_sound none_ok tab2_ok _ _ _ _ _ h
 ·exact lib1_ok _ _ _ _ _ h
theorem pg2_ok : PgOk Tryz.prog W pg2 := ⟨by kernel_rfl, lib2_ok, pg_fn, pg_dfn⟩
theorem tab3_ok : ∀ e ∈ tab3, Meets Tryz.prog W (fun _ => none) e.1.1 e.1.2.1 e.1.2.2 e.2.1 e.2.2 := by
 intro e he
 simp only [tab3, List.mem_cons, List.not_mem_nil, or_false] at he
 rcases he with rfl | rfl | rfl | rfl | rfl
 ·exact evF_sound pg2_ok 60 _ _ _ _ _ (runB_eq r27_)
 ·exact evF_sound pg2_ok 60 _ _ _ _ _ (runB_eq r28_)
 ·exact evF_sound pg2_ok 60 _ _ _ _ _ (runB_eq r29_)
 ·exact evF_sound pg2_ok 60 _ _ _ _ _ (runB_eq r30_)
 ·exact evF_sound pg2_ok 60 _ _ _ _ _ (runB_eq r31_)
theorem lib3_ok : Sound Tryz.prog W (fun _ => none) lib3 := by
 intro f args H r H' h
 unfold lib3 at h
 split at h
 ·exact tabH_sound none_ok tab3_ok _ _ _ _ _ h
 ·exact tabH_sound none_ok tab3_ok _ _ _ _ _ h
 ·exact lib2_ok _ _ _ _ _ h
theorem pg3_ok : PgOk Tryz.prog W pg3 := ⟨by kernel_rfl, lib3_ok, pg_fn, pg_dfn⟩

set_option maxRecDepth 100000 in
theorem head_run : runB (evF pg3 60 4 [] ⟨[], []⟩) (.val (.p (.bool true)), ⟨[], []⟩) = true := by kernel_rfl

end Go.Proofs.YtdnebeaeiimjlaaGreatDoor
