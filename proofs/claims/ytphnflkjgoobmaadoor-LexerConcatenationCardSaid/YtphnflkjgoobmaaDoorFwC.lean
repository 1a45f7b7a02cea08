/-
  The evaluator's limit over all depths and all numbers of rounds; its equations.
-/
import Derived.Test.YtphnflkjgoobmaaDoorFwB
namespace Go.Vs

def CallR.le (c c' : CallR) : Prop := ∀ f a H r, c f a H = some r → c' f a H = some r

section
variable {c c' : CallR} (h : CallR.le c c')
include h

theorem callD_mono {f : Nat} {a : List D} {H : Hp} {r : Res × Hp} (e : callD c f a H = some r) : callD c' f a H = some r := by
  unfold callD at e ⊢
  dsimp only at e ⊢
  split at e
  · rename_i hn
    (try rw [if_pos hn])
    split at e
    · rename_i as bx tk h1 h2 h3
      try rw [h1, h2, h3]
      try dsimp only
      split at e
      · rename_i r' H' hc
        rw [h _ _ _ _ hc]
        exact e
      · cases e
    · cases e
  · cases e

theorem callV_mono {f : D} {a : List D} {H : Hp} {r : Res × Hp} (e : callV c f a H = some r) : callV c' f a H = some r := by
  unfold callV at e ⊢
  split at e
  · exact callD_mono h e
  · cases e

theorem evKC_mono {G : Nat → Option (List PD)} {env : Env} {H : Hp} {k : SK} {r : Res × Hp} (e : evKC c G env H k = some r) : evKC c' G env H k = some r := by
  unfold evKC at e ⊢
  split at e
  · exact callV_mono h e
  · exact e

theorem evOps_mono {G : Nat → Option (List PD)} : ∀ (ops : List SO) (env : Env) (H : Hp) (r : RO), evOps c G ops env H = some r → evOps c' G ops env H = some r
  | [], env, H, r, e => e
  | o :: ops, env, H, r, e => by
    unfold evOps at e ⊢
    split at e
    · rename_i hg
      try rw [hg]
      try dsimp only
      split at e
      · rename_i hk
        rw [evKC_mono h hk]
        exact evOps_mono ops _ _ _ e
      · rename_i hk
        rw [evKC_mono h hk]
        exact e
      · cases e
    · rename_i hg
      try rw [hg]
      exact evOps_mono ops _ _ _ e
    · cases e

theorem evDraw_mono {G : Nat → Option (List PD)} : ∀ (ops : List SO) (env : Env) (H : Hp) (r : Env × Hp × List Nat), evDraw c G ops env H = some r → evDraw c' G ops env H = some r
  | [], env, H, r, e => e
  | o :: ops, env, H, r, e => by
    unfold evDraw at e ⊢
    split at e
    · rename_i hg
      try rw [hg]
      try dsimp only
      split at e
      · rename_i hk
        rw [evKC_mono h hk]
        try dsimp only
        split at e
        · rename_i hr
          rw [evDraw_mono ops _ _ _ hr]
          exact e
        · cases e
      · cases e
    · rename_i hg
      try rw [hg]
      try dsimp only
      split at e
      · rename_i hr
        rw [evDraw_mono ops _ _ _ hr]
        exact e
      · cases e
    · cases e
end

def It.le (i i' : It) : Prop := ∀ b b', (∀ s r, b s = some r → b' s = some r) → ∀ s r, i b s = some r → i' b' s = some r

theorem iter_le {m m' : Nat} (hm : m ≤ m') : It.le (fun b s => iter b m s) (fun b s => iter b m' s) := by
  intro b b' hb
  induction m generalizing m' with
  | zero => intro s r e; cases e
  | succ m ih =>
    intro s r e
    obtain ⟨k, rfl⟩ : ∃ k, m' = k + 1 := ⟨m' - 1, by omega⟩
    simp only [iter] at e ⊢
    split at e
    · rename_i s' hs
      rw [hb _ _ hs]
      exact ih (by omega) _ _ e
    · rename_i hs
      cases hbs : b s with
      | none => rw [hbs] at e; cases e
      | some x =>
        rw [hb _ _ hbs]
        rw [hbs] at e
        obtain ⟨o, s'⟩ := x
        cases o with
        | norm => exact (hs _ hbs).elim
        | exit i => exact e
        | ret => exact e
        | pan d => exact e

theorem evS_mono {c c' : CallR} (h : CallR.le c c') {i i' : It} (hi : It.le i i') {G : Nat → Option (List PD)} :
    ∀ (sc : SC) (s : St) (r : Out × St), evS c G i sc s = some r → evS c' G i' sc s = some r
  | .skip, s, r, e => e
  | .exit _, s, r, e => e
  | .ret, s, r, e => e
  | .tok .., s, r, e => e
  | .scope b, s, r, e => evS_mono h hi b s r e
  | .loc b, s, r, e => by
    unfold evS at e ⊢
    obtain ⟨x, hx, rfl⟩ := Option.map_eq_some_iff.1 e
    rw [evS_mono h hi b s x hx]; rfl
  | .region keep ops, s, r, e => by
    unfold evS at e ⊢
    split at e
    · rename_i he; rw [evOps_mono h _ _ _ _ he]; exact e
    · rename_i he; rw [evOps_mono h _ _ _ _ he]; exact e
    · cases e
  | .draw keep pairs ops, s, r, e => by
    unfold evS at e ⊢
    split at e
    · rename_i he; rw [evDraw_mono h _ _ _ _ he]; exact e
    · cases e
  | .seq a b, s, r, e => by
    unfold evS at e ⊢
    split at e
    · rename_i he; rw [evS_mono h hi a _ _ he]; exact evS_mono h hi b _ _ e
    · rename_i hn
      rw [evS_mono h hi a _ _ e]
      obtain ⟨o, s'⟩ := r
      cases o with
      | norm => exact (hn _ e).elim
      | _ => rfl
  | .cond cc a b, s, r, e => by
    unfold evS at e ⊢
    split at e
    · rename_i t ht
      try rw [ht]
      try dsimp only
      cases t with
      | true => exact evS_mono h hi a _ _ e
      | false => exact evS_mono h hi b _ _ e
    · cases e
  | .block id b, s, r, e => by
    unfold evS at e ⊢
    split at e
    · rename_i he; rw [evS_mono h hi b _ _ he]; exact e
    · rename_i hn
      rw [evS_mono h hi b _ _ e]
      obtain ⟨o, s'⟩ := r
      cases o with
      | exit i => exact (hn _ _ e).elim
      | _ => rfl
  | .loop keep b, s, r, e => by
    unfold evS at e ⊢
    exact hi _ _ (fun s r e => evS_mono h hi b _ _ e) _ _ e

theorem evF_succ (p : Pg) : ∀ n, CallR.le (evF p n) (evF p (n + 1))
  | 0 => fun _ _ _ _ e => by cases e
  | n + 1 => fun f a H r e => by
    have ih := evF_succ p n
    unfold evF at e ⊢
    try dsimp only at e ⊢
    split at e
    · rename_i hl; (try rw [hl]); exact e
    · rename_i hl
      try rw [hl]
      try dsimp only
      split at e
      · rename_i fc hf
        try rw [hf]
        try dsimp only
        split at e
        · rename_i hlen
          (try rw [if_pos hlen])
          unfold finish at e
          split at e
          · rename_i s he
            rw [evS_mono ih (iter_le (Nat.le_succ n)) _ _ _ he]; exact e
          · rename_i s he
            rw [evS_mono ih (iter_le (Nat.le_succ n)) _ _ _ he]; exact e
          · rename_i d s he
            rw [evS_mono ih (iter_le (Nat.le_succ n)) _ _ _ he]; exact e
          · cases e
        · cases e
      · cases e

theorem evF_le (p : Pg) {n m : Nat} (h : n ≤ m) : CallR.le (evF p n) (evF p m) := by
  induction h with
  | refl => exact fun _ _ _ _ e => e
  | step _ ih => exact fun f a H r e => evF_succ p _ _ _ _ _ (ih f a H r e)

open Classical in
/-- What a call gives, at whatever depth. -/
noncomputable def call (p : Pg) : CallR := fun f a H =>
  if h : ∃ r n, evF p n f a H = some r then some h.choose else none

theorem call_iff {p : Pg} {f : Nat} {a : List D} {H : Hp} {r : Res × Hp} : call p f a H = some r ↔ ∃ n, evF p n f a H = some r := by
  unfold call
  constructor
  · intro e
    split at e
    · rename_i h
      obtain ⟨n, hn⟩ := h.choose_spec
      cases e
      exact ⟨n, hn⟩
    · cases e
  · rintro ⟨n, hn⟩
    have h : ∃ r n, evF p n f a H = some r := ⟨r, n, hn⟩
    rw [dif_pos h]
    obtain ⟨m, hm⟩ := h.choose_spec
    have h1 := evF_le p (Nat.le_max_left n m) _ _ _ _ hn
    have h2 := evF_le p (Nat.le_max_right n m) _ _ _ _ hm
    rw [h1] at h2
    exact h2.symm

open Classical in
noncomputable def iterX : It := fun b s => if h : ∃ r m, iter b m s = some r then some h.choose else none

theorem iterX_iff {b : St → Option (Out × St)} {s : St} {r : Out × St} : iterX b s = some r ↔ ∃ m, iter b m s = some r := by
  unfold iterX
  constructor
  · intro e
    split at e
    · rename_i h
      obtain ⟨n, hn⟩ := h.choose_spec
      cases e
      exact ⟨n, hn⟩
    · cases e
  · rintro ⟨n, hn⟩
    have h : ∃ r n, iter b n s = some r := ⟨r, n, hn⟩
    rw [dif_pos h]
    obtain ⟨m, hm⟩ := h.choose_spec
    have h1 := iter_le (Nat.le_max_left n m) b b (fun _ _ e => e) _ _ hn
    have h2 := iter_le (Nat.le_max_right n m) b b (fun _ _ e => e) _ _ hm
    dsimp only at h1 h2
    rw [h1] at h2
    exact h2.symm

/-- One round. -/
theorem iterX_norm {b : St → Option (Out × St)} {s s' : St} (h : b s = some (.norm, s')) : iterX b s = iterX b s' := by
  cases hx : iterX b s' with
  | some r =>
    obtain ⟨m, hm⟩ := iterX_iff.1 hx
    exact iterX_iff.2 ⟨m + 1, by simp only [iter, h]; exact hm⟩
  | none =>
    cases hy : iterX b s with
    | none => rfl
    | some r =>
      obtain ⟨m, hm⟩ := iterX_iff.1 hy
      cases m with
      | zero => cases hm
      | succ m =>
        simp only [iter, h] at hm
        rw [iterX_iff.2 ⟨m, hm⟩] at hx
        cases hx

/-- The last round. -/
theorem iterX_out {b : St → Option (Out × St)} {s s' : St} {o : Out} (h : b s = some (o, s')) (ho : o ≠ .norm) : iterX b s = some (o, s') :=
  iterX_iff.2 ⟨1, by
    simp only [iter, h]
    split
    · rename_i hh; cases hh; exact (ho rfl).elim
    · rfl⟩

section
variable {p : Pg} {G : Nat → Option (List PD)}

theorem evKC_fin {env : Env} {H : Hp} {k : SK} {r : Res × Hp} (e : evKC (call p) G env H k = some r) : ∃ n, evKC (evF p n) G env H k = some r := by
  unfold evKC at e ⊢
  split at e
  · rename_i f args
    unfold callV at e ⊢
    split at e
    · rename_i g first cap hf
      unfold callD at e ⊢
      dsimp only at e ⊢
      split at e
      · rename_i hn
        split at e
        · rename_i as bx tk h1 h2 h3
          split at e
          · rename_i r' H' hc
            obtain ⟨n, hn'⟩ := call_iff.1 hc
            refine ⟨n, ?_⟩
            (try rw [if_pos hn, h1, h2, h3])
            try dsimp only
            rw [hn']
            first | exact e | (rw [if_pos hn]; exact e)
          · cases e
        · cases e
      · cases e
    · cases e
  · exact ⟨0, e⟩

theorem evOps_fin : ∀ (ops : List SO) (env : Env) (H : Hp) (r : RO), evOps (call p) G ops env H = some r → ∃ n, evOps (evF p n) G ops env H = some r
  | [], env, H, r, e => ⟨0, e⟩
  | o :: ops, env, H, r, e => by
    unfold evOps at e
    split at e
    · rename_i hg
      split at e
      · rename_i hk
        obtain ⟨n, hn⟩ := evKC_fin hk
        obtain ⟨m, hm⟩ := evOps_fin ops _ _ _ e
        refine ⟨max n m, ?_⟩
        unfold evOps
        try rw [hg]
        try dsimp only
        rw [evKC_mono (evF_le p (Nat.le_max_left n m)) hn]
        exact evOps_mono (evF_le p (Nat.le_max_right n m)) _ _ _ _ hm
      · rename_i hk
        obtain ⟨n, hn⟩ := evKC_fin hk
        refine ⟨n, ?_⟩
        unfold evOps
        try rw [hg]
        try dsimp only
        rw [hn]
        exact e
      · cases e
    · rename_i hg
      obtain ⟨m, hm⟩ := evOps_fin ops _ _ _ e
      refine ⟨m, ?_⟩
      unfold evOps
      try rw [hg]
      exact hm
    · cases e

theorem evDraw_fin : ∀ (ops : List SO) (env : Env) (H : Hp) (r : Env × Hp × List Nat), evDraw (call p) G ops env H = some r → ∃ n, evDraw (evF p n) G ops env H = some r
  | [], env, H, r, e => ⟨0, e⟩
  | o :: ops, env, H, r, e => by
    unfold evDraw at e
    split at e
    · rename_i hg
      split at e
      · rename_i hk
        split at e
        · rename_i hr
          obtain ⟨n, hn⟩ := evKC_fin hk
          obtain ⟨m, hm⟩ := evDraw_fin ops _ _ _ hr
          refine ⟨max n m, ?_⟩
          unfold evDraw
          try rw [hg]
          try dsimp only
          rw [evKC_mono (evF_le p (Nat.le_max_left n m)) hn]
          try dsimp only
          rw [evDraw_mono (evF_le p (Nat.le_max_right n m)) _ _ _ _ hm]
          exact e
        · cases e
      · cases e
    · rename_i hg
      split at e
      · rename_i hr
        obtain ⟨m, hm⟩ := evDraw_fin ops _ _ _ hr
        refine ⟨m, ?_⟩
        unfold evDraw
        try rw [hg]
        try dsimp only
        rw [hm]
        exact e
      · cases e
    · cases e

abbrev evN (p : Pg) (G : Nat → Option (List PD)) (n : Nat) : SC → St → Option (Out × St) := evS (evF p n) G (fun b s => iter b n s)

theorem evN_le {n m : Nat} (h : n ≤ m) {sc : SC} {s : St} {r : Out × St} (e : evN p G n sc s = some r) : evN p G m sc s = some r :=
  evS_mono (evF_le p h) (iter_le h) sc s r e

theorem evS_fin : ∀ (sc : SC) (s : St) (r : Out × St), evS (call p) G iterX sc s = some r → ∃ n, evN p G n sc s = some r
  | .skip, s, r, e => ⟨0, e⟩
  | .exit _, s, r, e => ⟨0, e⟩
  | .ret, s, r, e => ⟨0, e⟩
  | .tok .., s, r, e => ⟨0, e⟩
  | .scope b, s, r, e => evS_fin b s r e
  | .loc b, s, r, e => by
    unfold evS at e
    obtain ⟨x, hx, rfl⟩ := Option.map_eq_some_iff.1 e
    obtain ⟨n, hn⟩ := evS_fin b s x hx
    refine ⟨n, ?_⟩
    unfold evN at hn ⊢
    unfold evS
    rw [hn]; rfl
  | .region keep ops, s, r, e => by
    unfold evS at e
    split at e
    · rename_i he
      obtain ⟨n, hn⟩ := evOps_fin _ _ _ _ he
      exact ⟨n, by unfold evN evS; rw [hn]; exact e⟩
    · rename_i he
      obtain ⟨n, hn⟩ := evOps_fin _ _ _ _ he
      exact ⟨n, by unfold evN evS; rw [hn]; exact e⟩
    · cases e
  | .draw keep pairs ops, s, r, e => by
    unfold evS at e
    split at e
    · rename_i he
      obtain ⟨n, hn⟩ := evDraw_fin _ _ _ _ he
      exact ⟨n, by unfold evN evS; rw [hn]; exact e⟩
    · cases e
  | .seq a b, s, r, e => by
    unfold evS at e
    split at e
    · rename_i he
      obtain ⟨n, hn⟩ := evS_fin a _ _ he
      obtain ⟨m, hm⟩ := evS_fin b _ _ e
      refine ⟨max n m, ?_⟩
      unfold evN evS
      have h1 := evN_le (Nat.le_max_left n m) hn
      unfold evN at h1
      rw [h1]
      exact evN_le (Nat.le_max_right n m) hm
    · rename_i hn
      obtain ⟨n, hn'⟩ := evS_fin a _ _ e
      refine ⟨n, ?_⟩
      unfold evN at hn' ⊢
      unfold evS
      rw [hn']
      obtain ⟨o, s'⟩ := r
      cases o with
      | norm => exact (hn _ e).elim
      | _ => rfl
  | .cond cc a b, s, r, e => by
    unfold evS at e
    split at e
    · rename_i t ht
      cases t with
      | true =>
        obtain ⟨n, hn⟩ := evS_fin a _ _ e
        exact ⟨n, by unfold evN evS; (try rw [ht]); exact hn⟩
      | false =>
        obtain ⟨n, hn⟩ := evS_fin b _ _ e
        exact ⟨n, by unfold evN evS; (try rw [ht]); exact hn⟩
    · cases e
  | .block id b, s, r, e => by
    unfold evS at e
    split at e
    · rename_i he
      obtain ⟨n, hn⟩ := evS_fin b _ _ he
      refine ⟨n, ?_⟩
      unfold evN at hn ⊢
      unfold evS; rw [hn]; exact e
    · rename_i hn
      obtain ⟨n, hn'⟩ := evS_fin b _ _ e
      refine ⟨n, ?_⟩
      unfold evN at hn' ⊢
      unfold evS
      rw [hn']
      obtain ⟨o, s'⟩ := r
      cases o with
      | exit i => exact (hn _ _ e).elim
      | _ => rfl
  | .loop keep b, s, r, e => by
    unfold evS at e
    obtain ⟨m, hm⟩ := iterX_iff.1 e
    clear e
    have key : ∀ m s, iter (fun s => evS (call p) G iterX b ⟨s.env.keep keep, s.hp⟩) m s = some r →
        ∃ n, iter (fun s => evN p G n b ⟨s.env.keep keep, s.hp⟩) n s = some r := by
      intro m
      induction m with
      | zero => intro s h; cases h
      | succ m ih =>
        intro s h
        simp only [iter] at h
        split at h
        · rename_i s' hb
          obtain ⟨n1, h1⟩ := evS_fin b _ _ hb
          obtain ⟨n2, h2⟩ := ih _ h
          refine ⟨max n1 n2 + 1, ?_⟩
          simp only [iter]
          rw [evN_le (Nat.le_succ_of_le (Nat.le_max_left n1 n2)) h1]
          exact iter_le (Nat.le_max_right n1 n2) _ _ (fun s r e => evN_le (Nat.le_succ_of_le (Nat.le_max_right n1 n2)) e) _ _ h2
        · rename_i hb
          obtain ⟨n1, h1⟩ := evS_fin b _ _ h
          refine ⟨n1 + 1, ?_⟩
          simp only [iter]
          rw [evN_le (Nat.le_succ n1) h1]
          obtain ⟨o, s'⟩ := r
          cases o with
          | norm => exact (hb _ h).elim
          | _ => rfl
    obtain ⟨n, hn⟩ := key m s hm
    exact ⟨n, by unfold evN evS; exact hn⟩

theorem finish_fin {fc : FC} {s : St} {r : Res × Hp} (e : finish G fc.res (evS (call p) G iterX fc.body s) = some r) : ∃ n, finish G fc.res (evN p G n fc.body s) = some r := by
  cases he : evS (call p) G iterX fc.body s with
  | none => rw [he] at e; cases e
  | some x =>
    obtain ⟨n, hn⟩ := evS_fin _ _ _ he
    exact ⟨n, by rw [hn, ← he]; exact e⟩

/-- A call of a function with a body. -/
theorem call_body {f : Nat} {fc : FC} {a : List D} {H : Hp} {r : Res × Hp} (hl : p.lib f a H = none) (hf : p.F f = some fc) (hn : a.length = fc.np)
    (e : finish p.G fc.res (evS (call p) p.G iterX fc.body ⟨entry 0 a, H⟩) = some r) : call p f a H = some r := by
  obtain ⟨n, hn'⟩ := finish_fin e
  refine call_iff.2 ⟨n + 1, ?_⟩
  unfold evF
  try dsimp only
  rw [hl, hf]
  try dsimp only
  rw [if_pos hn]
  exact hn'

theorem call_lib {f : Nat} {a : List D} {H : Hp} {r : Res × Hp} (hl : p.lib f a H = some r) : call p f a H = some r :=
  call_iff.2 ⟨1, by unfold evF; dsimp only; rw [hl]⟩

theorem call_of_evF {f : Nat} {a : List D} {H : Hp} {r : Res × Hp} (n : Nat) (h : evF p n f a H = some r) : call p f a H = some r := call_iff.2 ⟨n, h⟩
end

end Go.Vs
