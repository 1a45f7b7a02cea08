/-
  Regions whose order Go leaves open: whatever the order, the outcome is the text's.
-/
import Derived.Test.YtphnflkjgoobmaaDoorFwO
import Derived.Orders
namespace Go.Vs

variable {P : Program} {G : Nat → Option (List PD)}

def Opd.slots : Opd → List Nat
  | .t i => [i]
  | .c _ => []

def optSlots : Option Opd → List Nat
  | some x => x.slots
  | none => []

def SK.slots : SK → List Nat
  | .move x | .box x | .load _ x | .nilCheck x | .un _ x | .faddr x _ | .field x _ _ | .extract x _ | .len _ x | .conv _ x | .strid x | .toBytes _ x | .toStr x | .iface _ x => x.slots
  | .pick c a b => c.slots ++ a.slots ++ b.slots
  | .alloc _ => []
  | .build _ ps => ps.flatMap fun p => p.2.2.slots
  | .bslice _ _ _ ps => ps.flatMap fun p => p.2.slots
  | .store _ a v => a.slots ++ v.slots
  | .bin _ x y | .eqk _ _ x y | .eqs _ _ x y | .iaddr _ _ x y | .index _ x y | .append _ _ _ x y | .minmax _ x y | .makesl _ _ _ x y => x.slots ++ y.slots
  | .mkfn _ f c => f.flatMap Opd.slots ++ c.flatMap Opd.slots
  | .slice _ x lo hi => x.slots ++ optSlots lo ++ optSlots hi
  | .call f as => f.slots ++ as.flatMap Opd.slots

theorem Opd.ev_congr {e e' : Env} {x : Opd} (h : ∀ t ∈ x.slots, e.get t = e'.get t) : x.ev e = x.ev e' := by
  cases x with
  | t i => exact h i (by simp [Opd.slots])
  | c d => rfl

theorem evs_congr {e e' : Env} {xs : List Opd} (h : ∀ t ∈ xs.flatMap Opd.slots, e.get t = e'.get t) : xs.map (·.ev e) = xs.map (·.ev e') :=
  List.map_congr_left fun x hx => Opd.ev_congr fun t ht => h t (List.mem_flatMap.2 ⟨x, hx, ht⟩)

theorem evK_congr {e e' : Env} {H : Hp} {k : SK} (h : ∀ t ∈ k.slots, e.get t = e'.get t) : evK G e H k = evK G e' H k := by
  have two : ∀ x y : Opd, (∀ t ∈ x.slots ++ y.slots, e.get t = e'.get t) → x.ev e = x.ev e' ∧ y.ev e = y.ev e' := fun x y h =>
    ⟨Opd.ev_congr fun t ht => h t (by simp [ht]), Opd.ev_congr fun t ht => h t (by simp [ht])⟩
  cases k <;> simp only [SK.slots] at h <;> simp only [evK]
  case move => rw [Opd.ev_congr h]
  case box => rw [Opd.ev_congr h]
  case load => rw [Opd.ev_congr h]
  case nilCheck => rw [Opd.ev_congr h]
  case un => rw [Opd.ev_congr h]
  case faddr => rw [Opd.ev_congr h]
  case field => rw [Opd.ev_congr h]
  case extract => rw [Opd.ev_congr h]
  case len => rw [Opd.ev_congr h]
  case conv => rw [Opd.ev_congr h]
  case strid => rw [Opd.ev_congr h]
  case toBytes => rw [Opd.ev_congr h]
  case toStr => rw [Opd.ev_congr h]
  case iface => rw [Opd.ev_congr h]
  case store => obtain ⟨h1, h2⟩ := two _ _ h; rw [h1, h2]
  case bin => obtain ⟨h1, h2⟩ := two _ _ h; rw [h1, h2]
  case eqk => obtain ⟨h1, h2⟩ := two _ _ h; rw [h1, h2]
  case eqs => obtain ⟨h1, h2⟩ := two _ _ h; rw [h1, h2]
  case iaddr => obtain ⟨h1, h2⟩ := two _ _ h; rw [h1, h2]
  case index => obtain ⟨h1, h2⟩ := two _ _ h; rw [h1, h2]
  case append => obtain ⟨h1, h2⟩ := two _ _ h; rw [h1, h2]
  case minmax => obtain ⟨h1, h2⟩ := two _ _ h; rw [h1, h2]
  case pick c a b =>
    have h1 := Opd.ev_congr (x := c) fun t ht => h t (by simp [ht])
    have h2 := Opd.ev_congr (x := a) fun t ht => h t (by simp [ht])
    have h3 := Opd.ev_congr (x := b) fun t ht => h t (by simp [ht])
    rw [h1, h2, h3]
  case build zs ps =>
    have : (ps.map fun (x : Nat × Nat × Opd) => (x.1, x.2.1, x.2.2.ev e)) = ps.map fun x => (x.1, x.2.1, x.2.2.ev e') :=
      List.map_congr_left fun x hx => by rw [Opd.ev_congr fun t ht => h t (List.mem_flatMap.2 ⟨x, hx, ht⟩)]
    rw [this]
  case bslice sz len z ps =>
    have : (ps.map fun (x : Nat × Opd) => (x.1, x.2.ev e)) = ps.map fun x => (x.1, x.2.ev e') :=
      List.map_congr_left fun x hx => by rw [Opd.ev_congr fun t ht => h t (List.mem_flatMap.2 ⟨x, hx, ht⟩)]
    rw [this]
  case mkfn f first cap =>
    rw [evs_congr (xs := first) fun t ht => h t (List.mem_append_left _ ht), evs_congr (xs := cap) fun t ht => h t (List.mem_append_right _ ht)]
  case slice sz x lo hi =>
    have h1 := Opd.ev_congr (x := x) fun t ht => h t (by simp [ht])
    have h2 : lo.map (·.ev e) = lo.map (·.ev e') := by
      cases lo with
      | none => rfl
      | some y => simp only [Option.map_some]; rw [Opd.ev_congr (x := y) fun t ht => h t (by simp [optSlots, ht])]
    have h3 : hi.map (·.ev e) = hi.map (·.ev e') := by
      cases hi with
      | none => rfl
      | some y => simp only [Option.map_some]; rw [Opd.ev_congr (x := y) fun t ht => h t (by simp [optSlots, ht])]
    rw [h1, h2, h3]

theorem evKC_congr {c : CallR} {e e' : Env} {H : Hp} {k : SK} (h : ∀ t ∈ k.slots, e.get t = e'.get t) : evKC c G e H k = evKC c G e' H k := by
  by_cases hk : k.isCall = true
  · cases k <;> first | (cases hk; done) | skip
    rename_i f as
    simp only [SK.slots] at h
    simp only [evKC]
    rw [Opd.ev_congr (x := f) fun t ht => h t (List.mem_append_left _ ht), evs_congr (xs := as) fun t ht => h t (List.mem_append_right _ ht)]
  · rw [evKC_plain (by simpa using hk), evKC_plain (by simpa using hk), evK_congr h]

def SK.heapless : SK → Bool
  | .load _ _ | .alloc _ | .box _ | .store _ _ _ | .append _ _ _ _ _ | .toBytes _ _ | .call _ _ => false
  | _ => true

theorem evK_heapless {e : Env} {k : SK} (h : k.heapless = true) (H : Hp) : evK G e H k = (evK G e ⟨[], []⟩ k).map fun x => (x.1, H) := by
  cases k <;> first | (cases h; done) | skip
  all_goals
    simp only [evK]
    first
      | rfl
      | (simp only [Option.map_map]; rfl)
      | (split <;> first | rfl | (simp only [Option.map_map]; rfl) | (split <;> first | rfl | (simp only [Option.map_map]; rfl)))

/-- Where the class says so, an operation leaves the heap alone. -/
theorem evKC_same {c : CallR} {e : Env} {H H' : Hp} {k : SK} {d : D} (he : evKC c G e H k = some (.val d, H')) (hc : cls e k ≤ 1) (hl : H'.bx.length = H.bx.length) :
    H' = H ∧ (cls e k = 0 → ∀ H2, evKC c G e H2 k = some (.val d, H2)) := by
  by_cases hk : k.isCall = true
  · cases k <;> first | (cases hk; done) | skip
    rename_i f as
    simp only [cls] at hc ⊢
    split at hc
    · rename_i href
      rw [if_pos href]
      simp only [Bool.and_eq_true, List.isEmpty_iff] at href
      simp only [evKC] at he ⊢
      unfold callV at he ⊢
      split at he
      · rename_i g first cap hg
        have hr : D.refsL (first ++ List.map (fun x => Opd.ev e x) as ++ cap) = [] := by
          have := href.1
          have app : ∀ x y : List D, D.refsL (x ++ y) = D.refsL x ++ D.refsL y := by
            intro x y
            induction x with
            | nil => simp [D.refsL]
            | cons d x ih => simp [D.refsL, ih]
          rw [hg] at this
          simp only [D.refsL, D.refs, List.append_eq_nil_iff] at this
          rw [app, app, this.1.1, this.1.2, this.2]
          rfl
        have ht : D.toksL (first ++ List.map (fun x => Opd.ev e x) as ++ cap) = [] := by
          have := href.2
          have app : ∀ x y : List D, D.toksL (x ++ y) = D.toksL x ++ D.toksL y := by
            intro x y
            induction x with
            | nil => simp [D.toksL]
            | cons d x ih => simp [D.toksL, ih]
          rw [hg] at this
          simp only [D.toksL, D.toks, List.append_eq_nil_iff] at this
          rw [app, app, this.1.1, this.1.2, this.2]
          rfl
        have hreach : ∀ H0 : Hp, ∀ n, reach H0 n [] = [] := by
          intro H0 n
          cases n <;> simp [reach, boxRefs]
        unfold callD at he ⊢
        simp only [hr, ht, ins, hreach, boxToks, List.append_nil, nodupB, Bool.and_self, if_true, mapO] at he ⊢
        split at he
        · rename_i as' bx tk h1 h2 h3
          cases h2; cases h3
          split at he
          · rename_i rl Hl hcall
            have key : ∀ H0 : Hp, (Hl.bx.length = 0 ∨ True) → back [] [] H0 rl Hl = (match rl.ren (fun _ => none) (fun _ => none) with
                | some r' => some (r', H0)
                | none => match rl.ren (fun i => some (H0.bx.length + i)) (fun _ => none), mapO (D.renL (fun i => some (H0.bx.length + i)) fun _ => none) Hl.bx with
                  | some r', some (n0 :: nw) => some (r', ⟨H0.bx ++ (n0 :: nw), H0.tk⟩)
                  | _, _ => none) := by
              intro H0 _
              unfold back
              simp only [firstN, List.length_nil, Nat.zero_le, if_true, List.take_zero, List.getElem?_nil, mapO, putAll, Nat.not_lt_zero, if_false, Nat.sub_zero, List.drop_zero]
              cases rl.ren (fun _ => none) (fun _ => none) with
              | some r' => rfl
              | none =>
                cases rl.ren (fun i => some (H0.bx.length + i)) (fun _ => none) <;> cases mapO (D.renL (fun i => some (H0.bx.length + i)) fun _ => none) Hl.bx <;> first | rfl | (rename_i l; cases l <;> rfl)
            rw [key H (.inr trivial)] at he
            cases hren : rl.ren (fun _ => none) (fun _ => none) with
            | some r' =>
              rw [hren] at he
              cases he
              refine ⟨rfl, fun _ H2 => ?_⟩
              rw [key H2 (.inr trivial), hren]
            | none =>
              rw [hren] at he
              dsimp only at he
              split at he
              · cases he
                simp at hl
              · cases he
          · cases he
        · cases he
      · cases he
    · omega
  · have hk : k.isCall = false := by simpa using hk
    rw [evKC_plain hk] at he
    have pl : ∀ H2, evKC c G e H2 k = match evK G e H2 k with | some (d, H') => some (.val d, H') | none => none := fun H2 => evKC_plain hk
    split at he
    · rename_i d0 H0 hd
      cases he
      by_cases hl' : k.heapless = true
      · have q := evK_heapless (G := G) (e := e) hl' H
        rw [q] at hd
        obtain ⟨x, hx, hh⟩ := Option.map_eq_some_iff.1 hd
        cases hh
        refine ⟨rfl, fun _ H2 => ?_⟩
        rw [pl, evK_heapless hl' H2, hx]
        rfl
      · cases k <;> first | (exact absurd rfl hl') | (exfalso; simp only [cls] at hc; omega) | (exfalso; cases hk; done) | skip
        · rename_i n x
          simp only [cls] at hc ⊢
          simp only [evK] at hd
          obtain ⟨d', hd', hh⟩ := Option.map_eq_some_iff.1 hd
          cases hh
          refine ⟨rfl, fun h0 H2 => ?_⟩
          rw [pl]
          simp only [evK]
          unfold loadD at hd' ⊢
          split at h0
          · rename_i cs off hx
            rw [hx] at hd' ⊢
            dsimp only at hd' ⊢
            rw [hd']; rfl
          · rename_i g off hx
            rw [hx] at hd' ⊢
            dsimp only at hd' ⊢
            rw [hd']; rfl
          · omega
    · cases he

end Go.Vs
