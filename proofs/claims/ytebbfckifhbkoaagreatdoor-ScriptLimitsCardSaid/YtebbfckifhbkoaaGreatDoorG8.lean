/-
  Commands as arguments: what the cells of a []api.Command read as.
-/
import Derived.Test.YtebbfckifhbkoaaGreatDoorP2
import Derived.Test.YtebbfckifhbkoaaGreatDoorG6
import Derived.Test.YtebbfckifhbkoaaGreatDoorG4
import Derived.Test.YtebbfckifhbkoaaGreatDoorG7

namespace Go.Proofs.YtebbfckifhbkoaaGreatDoor
open Go.Vs Go.ChangeShapes Go.WideShapes Go.RowKit
theorem arg_ints {xs : List PD} (h : TyP Tryz.prog 33 xs) : ∃ v l, xs = [v] ∧ slP v l := by
  have hc : Tryz.prog.cellsOf 3 = 1 := by kernel_rfl
  rcases typ_slice Tryz.underlying33 h with rfl | rfl | ⟨es, hne, hl, rfl, h1, h2⟩
  · exact ⟨_, [], rfl, .inl ⟨rfl, rfl⟩⟩
  · rw [hc]; exact ⟨_, [], rfl, .inr (.inl ⟨rfl, rfl⟩)⟩
  · rw [hc]
    have hx : ∀ x ∈ es, ∃ n, x = PD.int .i64 n := by
      intro x hx
      obtain ⟨n, e1, e2⟩ := typ_int Tryz.underlying3 (h1 x hx)
      have := h2 x hx
      rw [e1, mkE_one (fun fs e => by rw [Tryz.underlying3] at e; cases e)] at this
      exact ⟨n, this⟩
    have : ∃ zs : List Int, es = zs.map (PD.int .i64) := by
      clear h1 h2 hne hl h
      induction es with
      | nil => exact ⟨[], rfl⟩
      | cons x es ih =>
        obtain ⟨n, rfl⟩ := hx x (by simp)
        obtain ⟨zs, rfl⟩ := ih fun y hy => hx y (by simp [hy])
        exact ⟨n :: zs, rfl⟩
    obtain ⟨zs, rfl⟩ := this
    exact ⟨_, zs, rfl, .inr (.inr rfl)⟩
theorem arg_cmd {xs : List PD} (h : TyP Tryz.prog 35 xs) : ∃ (c : RCmd) (v : PD), xs = [.int .i64 c.kind, .str c.text, v] ∧ slP v c.nums := by
  obtain ⟨parts, rfl, hl, hf⟩ := typ_struct Tryz.underlying35 h
  match parts, hl with
  | [a, b, c], _ =>
    obtain ⟨k, rfl, hk⟩ := typ_int Tryz.underlying3 (hf 0 _ a rfl rfl)
    obtain ⟨t, rfl, ht⟩ := typ_str Tryz.underlying9 (hf 1 _ b rfl rfl)
    obtain ⟨v, l, rfl, hv⟩ := arg_ints (hf 2 _ c rfl rfl)
    exact ⟨⟨k, t, l⟩, v, rfl, hv⟩
theorem arg_cmds {xs : List PD} (h : TyP Tryz.prog 22 xs) : ∃ p l, xs = [p] ∧ rcsP p l := by
  have hc : Tryz.prog.cellsOf 35 = 3 := by kernel_rfl
  rcases typ_slice Tryz.underlying22 h with rfl | rfl | ⟨es, hne, hl, rfl, h1, h2⟩
  · exact ⟨_, [], rfl, .inl ⟨rfl, rfl⟩⟩
  · rw [hc]; exact ⟨_, [], rfl, .inr (.inl ⟨rfl, rfl⟩)⟩
  · rw [hc]
    have hx : ∀ x ∈ es, ∃ c : RCmd, rcP x c := by
      intro x hx
      obtain ⟨c, v, e1, e2⟩ := arg_cmd (h1 x hx)
      have := h2 x hx
      rw [e1, mkE_struct Tryz.underlying35] at this
      exact ⟨c, v, this, e2⟩
    have : ∃ zs : List RCmd, es.length = zs.length ∧ ∀ (i : Nat) e c, es[i]? = some e → zs[i]? = some c → rcP e c := by
      clear h1 h2 hne hl h
      induction es with
      | nil => exact ⟨[], rfl, by simp⟩
      | cons x es ih =>
        obtain ⟨c, hc⟩ := hx x (by simp)
        obtain ⟨zs, h3, h4⟩ := ih fun y hy => hx y (by simp [hy])
        refine ⟨c :: zs, by simp [h3], fun i e d he hd => ?_⟩
        cases i with
        | zero => cases he; cases hd; exact hc
        | succ i => exact h4 i e d he hd
    obtain ⟨zs, h3, h4⟩ := this
    exact ⟨_, zs, rfl, .inr (.inr ⟨es, rfl, h3, h4⟩)⟩
abbrev argTs : List TypeId := [22, 35, 33, 3, 9]
theorem argTs_ok : argTs.all (tyOk Tryz.prog argTs) = true := by kernel_rfl

set_option maxRecDepth 20000 in
theorem rep_cmds {H : Type} {enc : TypeId × Value → H} {W : World} {r : Reach} {b0 : Nat} {v : Value} {d : DataW H} {ps : List MemPlace}
    (hval : Value.okWide Tryz.prog W r b0 22 v) (hd : DataW.Trod enc Tryz.prog W 0 (fun _ => true) true 22 v d ps) :
    ∃ p l, rcsP p l ∧ RepD (gh0 W) v (.p p) := by
  obtain ⟨x, h1, h2, _, h3⟩ := rep_any argTs_ok (by simp) hval hd
  obtain ⟨p, l, e, hp⟩ := arg_cmds h2
  have h4 := h3 fun fs e => by rw [Tryz.underlying22] at e; cases e
  have hx : x = p := by
    cases x <;> first | (simp only [PD.cells, List.cons.injEq, and_true] at e; exact e) | (cases h4)
  exact ⟨p, l, hp, hx ▸ h1⟩

end Go.Proofs.YtebbfckifhbkoaaGreatDoor
