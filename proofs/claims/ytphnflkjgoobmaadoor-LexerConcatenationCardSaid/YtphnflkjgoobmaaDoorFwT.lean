/-
  Functions: that where the evaluator ends, the call ends so.
-/
import Derived.Test.YtphnflkjgoobmaaDoorFwS
import Derived.Laws.ResultCell
namespace Go.Vs

variable {P : Program} {G : Nat → Option (List PD)} {γ : Gh} {H : Hp} {w : World}

theorem cells_rep {t : TypeId} {n : Option Nat} (ht : cellN P t = some n) {b base off : Nat} {ds : List D} {f : Nat → Value} (hcell : ∀ j, j < ds.length → w.cell? ⟨b, base + j, none⟩ = some (f j))
    (hr : ∀ j d, ds[j]? = some d → RepD γ (f j) d) (h1 : ∀ d ∈ ds, d.one = true) {d : D} (hd : cutAt ds off n id mkAgg = some d) : ∃ v, (loadVar t ⟨b, base + off, none⟩).run P w = .ok v w ∧ RepD γ v d := by
  unfold cutAt at hd
  split at hd
  · obtain ⟨d', hd', hh⟩ := Option.map_eq_some_iff.1 hd
    cases hh
    have hlt : off < ds.length := (List.getElem?_eq_some_iff.1 hd').1
    have q := run_loadVar (P := P) (w := w) ht (b := b) (off := base + off) (f := fun j => f (off + j)) (fun j hj => by
      rw [Nat.add_assoc]; exact hcell (off + j) (by simp at hj; omega))
    exact ⟨_, q, hr _ _ hd'⟩
  · rename_i k
    split at hd
    · rename_i hk
      cases hd
      have q := run_loadVar (P := P) (w := w) ht (b := b) (off := base + off) (f := fun j => f (off + j)) (fun j hj => by
        simp only [Option.getD_some] at hj
        rw [Nat.add_assoc]; exact hcell (off + j) (by omega))
      exact ⟨_, q, mkAgg_rep (rangeL_rep hk fun j d hj hd => hr _ _ hd) (fun d hd => h1 d (sub_mem hd))⟩
    · cases hd

theorem load_rep (I : Inv G γ H w) {t : TypeId} {n : Option Nat} (ht : cellN P t = some n) {v0 : Value} {d0 : D} (hv : RepD γ v0 d0) {d : D} (hd : loadD G H n d0 = some d) :
    ∃ ad v, v0 = .pointer (some ad) ∧ (loadVar t ad).run P w = .ok v w ∧ RepD γ v d := by
  unfold loadD at hd
  split at hd
  · rename_i i off
    split at hd
    · rename_i cs hcs
      cases hv with
      | box _ _ b hb =>
        obtain ⟨vs, T, q1, q2, q3⟩ := I.box i b cs hb hcs
        obtain ⟨v, h1, h2⟩ := cells_rep (P := P) (w := w) ht (b := b) (base := 0) (off := off) (ds := cs) (f := fun j => vs.getD j undef) (fun j hj => by
          have hj' : j < vs.size := by rw [q2.1]; exact hj
          simp [World.cell?, q1, hj', Array.getD_eq_getD_getElem?]) q2.2 q3 hd
        rw [Nat.zero_add] at h1
        exact ⟨_, v, rfl, h1, h2⟩
    · cases hd
  · rename_i cs off
    cases hv with
    | ro b base _ _ vs hm hr =>
      obtain ⟨v, h1, h2⟩ := cells_rep (P := P) (w := w) ht (b := b) (base := base) (off := off) (ds := cs.map .p) (f := vs) (fun j hj => I.mem _ _ _ (hm j (by simpa using hj))) (fun j d hd => by
        simp only [List.getElem?_map, Option.map_eq_some_iff] at hd
        obtain ⟨z, hz, rfl⟩ := hd
        exact .p _ _ (hr j z hz).1) (fun d hd => by
        obtain ⟨z, hz, rfl⟩ := List.mem_map.1 hd
        obtain ⟨j, hj⟩ := List.getElem?_of_mem hz
        exact (hr j z hj).2) (cutAt_p hd)
      exact ⟨_, v, rfl, h1, h2⟩
  · rename_i g off
    split at hd
    · rename_i cs hcs
      cases hv with
      | glob _ _ =>
        have hg := I.globs g cs hcs
        obtain ⟨v, h1, h2⟩ := cells_rep (P := P) (w := w) ht (b := g) (base := 0) (off := off) (ds := cs.map .p) (f := fun j => (γ.mem g j).getD undef) (fun j hj => by
          have hj : j < cs.length := by simpa using hj
          obtain ⟨_, v, q1, q2⟩ := hg j _ (List.getElem?_eq_getElem hj)
          rw [q1]; simp only [Nat.zero_add, Option.getD_some]
          exact I.mem _ _ _ q1) (fun j d hd => by
          simp only [List.getElem?_map, Option.map_eq_some_iff] at hd
          obtain ⟨z, hz, rfl⟩ := hd
          obtain ⟨_, v, q1, q2⟩ := hg j z hz
          rw [q1]; exact .p _ _ q2) (fun d hd => by
          obtain ⟨z, hz, rfl⟩ := List.mem_map.1 hd
          obtain ⟨j, hj⟩ := List.getElem?_of_mem hz
          exact (hg j z hj).1) (cutAt_p hd)
        rw [Nat.zero_add] at h1
        exact ⟨_, v, rfl, h1, h2⟩
    · cases hd
  · cases hd

def resOf (P : Program) : ResultVar → Option SRes
  | .tmp t => some (.t t)
  | .cell a t => (cellN P t).map (.cell a)

def res1 (tmps : Array Value) : ResultVar → Sem Value
  | .tmp t => pure (tmps.getD t undef)
  | .cell a t => do loadVar t (← asAddr (tmps.getD a undef))

theorem res1_ok (I : Inv G γ H w) {env : Env} {tmps : Array Value} (E : EnvRep γ env tmps) {rv : ResultVar} {r : SRes} (h : resOf P rv = some r) {d : D} (hd : evRes1 G env H r = some d) :
    ∃ v, (res1 tmps rv).run P w = .ok v w ∧ RepD γ v d := by
  cases rv with
  | tmp t =>
    cases h
    cases hd
    exact ⟨_, rfl, E t⟩
  | cell a t =>
    obtain ⟨n, hn, rfl⟩ := Option.map_eq_some_iff.1 h
    simp only [evRes1] at hd
    obtain ⟨ad, v, h1, h2, h3⟩ := load_rep (P := P) I hn (E a) hd
    refine ⟨v, ?_, h3⟩
    simp only [res1, h1, asAddr, Sem.run_bind, Sem.run_pure, Result.andThen_ok, h2]

theorem resL_ok (I : Inv G γ H w) {env : Env} {tmps : Array Value} (E : EnvRep γ env tmps) : ∀ {rvs : List ResultVar} {rs : List SRes}, mapO (resOf P) rvs = some rs → ∀ {ds : List D}, mapO (evRes1 G env H) rs = some ds →
    ∃ vs : List Value, (rvs.mapM (res1 tmps)).run P w = .ok vs w ∧ vs.length = ds.length ∧ ∀ (i : Nat) v d, vs[i]? = some v → ds[i]? = some d → RepD γ v d
  | [], rs, h, ds, hd => by
    simp only [mapO, Option.some.injEq] at h
    subst h
    simp only [mapO, Option.some.injEq] at hd
    subst hd
    exact ⟨[], rfl, rfl, fun i v d h => by simp at h⟩
  | rv :: rvs, rs, h, ds, hd => by
    simp only [mapO] at h
    split at h
    · rename_i r hr
      obtain ⟨rs', hrs, rfl⟩ := Option.map_eq_some_iff.1 h
      simp only [mapO] at hd
      split at hd
      · rename_i d hd1
        obtain ⟨ds', hds, rfl⟩ := Option.map_eq_some_iff.1 hd
        obtain ⟨v, h1, h2⟩ := res1_ok I E hr hd1
        obtain ⟨vs, h3, h4, h5⟩ := resL_ok I E hrs hds
        refine ⟨v :: vs, ?_, by simp [h4], fun i u e hu he => ?_⟩
        · simp only [List.mapM_cons, Sem.run_bind, h1, Result.andThen_ok, h3, Sem.run_pure]
        · match i with
          | 0 => simp only [List.getElem?_cons_zero, Option.some.injEq] at hu he; subst hu; subst he; exact h2
          | i + 1 => exact h5 i u e (by simpa using hu) (by simpa using he)
      · cases hd
    · cases h

theorem results_ok (I : Inv G γ H w) {env : Env} {tmps : Array Value} (E : EnvRep γ env tmps) {fn : Func} {rs : List SRes} (h : mapO (resOf P) fn.results.toList = some rs) {d : D} (hd : evRes G env H rs = some d) :
    ∃ v, (results fn tmps).run P w = .ok v w ∧ RepD γ v d := by
  have hrun : ∀ vs, (fn.results.toList.mapM (res1 tmps)).run P w = .ok vs w → (results fn tmps).run P w = .ok (if h : vs.toArray.size = 1 then vs.toArray[0] else .tuple vs.toArray) w := by
    intro vs hvs
    have : results fn tmps = (fn.results.mapM (res1 tmps)) >>= fun vs => pure (if h : vs.size = 1 then vs[0] else .tuple vs) := rfl
    rw [this, Array.mapM_eq_mapM_toList]
    simp only [Sem.run_bind, map_eq_pure_bind, hvs, Result.andThen_ok, Sem.run_pure]
  unfold evRes at hd
  split at hd
  · cases hd
    obtain ⟨vs, h1, h2, _⟩ := resL_ok I E h (ds := []) rfl
    have hv : vs = [] := List.length_eq_zero_iff.1 h2
    subst hv
    exact ⟨_, hrun _ h1, RepD.undef⟩
  · rename_i r
    obtain ⟨vs, h1, h2, h3⟩ := resL_ok I E h (ds := [d]) (by simp only [mapO, hd, Option.map_some])
    obtain ⟨v, rfl⟩ := List.length_eq_one_iff.1 h2
    exact ⟨v, by simpa using hrun _ h1, h3 0 v d rfl rfl⟩
  · rename_i rs0 hne1 hne2
    obtain ⟨ds, hds, rfl⟩ := Option.map_eq_some_iff.1 hd
    obtain ⟨vs, h1, h2, h3⟩ := resL_ok I E h hds
    have hl : rs.length = ds.length := (mapO_both hds).1
    have hne : ¬ vs.toArray.size = 1 := by
      intro hs
      simp at hs
      rw [← h2] at hl
      rw [hs] at hl
      obtain ⟨r, hr⟩ := List.length_eq_one_iff.1 hl
      exact hne2 r hr
    refine ⟨.tuple vs.toArray, ?_, ?_⟩
    · have := hrun _ h1
      rw [dif_neg hne] at this
      exact this
    · refine .tup _ _ (by simpa using h2) fun i d hd => ?_
      have hi : i < vs.length := by rw [h2]; exact (List.getElem?_eq_some_iff.1 hd).1
      have := h3 i vs[i] d (List.getElem?_eq_getElem hi) hd
      simpa [Array.getD_eq_getD_getElem?, hi] using this

/-- The function of the model, as the evaluator's. -/
structure FOk (P : Program) (f : Nat) (fc : FC) : Prop where
  ex : ∃ fn c, P.funcs[f]? = some fn ∧ (fn.name == "runtime.NumGoroutine") = false ∧ fn.body = some c ∧ fn.ntmps = fc.nt ∧ fc.np ≤ fc.nt ∧ mapO (resOf P) fn.results.toList = some fc.res ∧ compC P fc.nt fc.body c = some fc.body

def compF (P : Program) (fn : Func) (fc : FC) : Option FC :=
  if fn.name == "runtime.NumGoroutine" then none else
  match fn.body, mapO (resOf P) fn.results.toList with
  | some c, some res => if fn.ntmps = fc.nt ∧ fc.np ≤ fc.nt then (compC P fc.nt fc.body c).map fun b => ⟨fc.nt, fc.np, res, b, ()⟩ else none
  | _, _ => none

theorem FOk.of {f : Nat} {fn : Func} {fc : FC} (hf : P.funcs[f]? = some fn) (h : compF P fn fc = some fc) : FOk P f fc := by
  unfold compF at h
  split at h
  · cases h
  · rename_i hn
    split at h
    · rename_i c res hb hres
      split at h
      · rename_i hc
        obtain ⟨b, hb', heq⟩ := Option.map_eq_some_iff.1 h
        have e1 : res = fc.res := congrArg FC.res heq
        have e2 : b = fc.body := congrArg FC.body heq
        exact ⟨fn, c, hf, by simpa using hn, hb, hc.1, hc.2, by rw [hres, e1], by rw [hb', e2]⟩
      · cases h
    · cases h

theorem entry_get : ∀ (n : Nat) (l : List D) (t : Nat), (entry n l).get t = if n ≤ t ∧ t < n + l.length then l.getD (t - n) .dead else .dead
  | n, [], t => by simp only [entry, Env.get, List.length_nil]; rw [if_neg (by omega)]
  | n, d :: l, t => by
    simp only [entry, Env.get, List.length_cons]
    split
    · rename_i h; subst h; rw [if_pos (by omega), Nat.sub_self]; rfl
    · rename_i h
      rw [entry_get (n + 1) l t]
      by_cases hc : n + 1 ≤ t ∧ t < n + 1 + l.length
      · rw [if_pos hc, if_pos (by omega)]
        rw [show t - n = (t - (n + 1)) + 1 by omega]; rfl
      · rw [if_neg hc, if_neg (by omega)]

theorem entry_rep {vs : Array Value} {ds : List D} (h : RepL γ vs ds) (k : Nat) : EnvRep γ (entry 0 ds) (vs ++ Array.replicate k undef) := by
  intro t
  rw [entry_get]
  split
  · rename_i ht
    have hlt : t < ds.length := by omega
    have e : ds[t]? = some (ds.getD (t - 0) .dead) := by simp [List.getD_eq_getElem?_getD, hlt]
    have := h.2 t _ e
    have hv : t < vs.size := by rw [h.1]; exact hlt
    simpa [Array.getD_eq_getD_getElem?, Array.getElem?_append, hv] using this
  · exact .dead _

theorem finish_norm {res : List SRes} {x : Option (Out × St)} {r : Res} {H' : Hp} (h : finish G res x = some (r, H')) :
    (∃ s d, (x = some (.norm, s) ∨ x = some (.ret, s)) ∧ evRes G s.env s.hp res = some d ∧ r = .val d ∧ H' = s.hp) ∨ ∃ s d, x = some (.pan d, s) ∧ r = .pan d ∧ H' = s.hp := by
  unfold finish at h
  split at h
  · rename_i s
    split at h
    · rename_i d hd; cases h; exact .inl ⟨s, d, .inl rfl, hd, rfl, rfl⟩
    · cases h
  · rename_i s
    split at h
    · rename_i d hd; cases h; exact .inl ⟨s, d, .inr rfl, hd, rfl, rfl⟩
    · cases h
  · rename_i d s; cases h; exact .inr ⟨s, d, rfl, rfl, rfl⟩
  · cases h

theorem fun_ok {c : CallR} (S : Sound P G c) (hm : P.follows .mixedOrders = true) {it : It} (hit : ∀ b s r, it b s = some r → ∃ m, iter b m s = some r) {f : Nat} {fc : FC} (hf : FOk P f fc) {args : List D} {H : Hp} {r : Res} {H' : Hp}
    (hl : args.length = fc.np) (h : finish G fc.res (evS c G it fc.body ⟨entry 0 args, H⟩) = some (r, H')) : Meets P G f args H r H' := by
  obtain ⟨fn, cd, h1, h2, h3, h4, h5, h6, h7⟩ := hf.ex
  refine ⟨⟨fn, h1, h2, by rw [h3]; rfl⟩, fun γ w vs I hv => ?_⟩
  have hvs : vs.size = fc.np := by rw [hv.1, hl]
  refine calls_of_wp h1 h3 ?_
  have hsz : (vs ++ Array.replicate (fn.ntmps - vs.size) undef).size = fc.nt := by simp [h4, hvs]; omega
  rcases finish_norm h with ⟨s, d, hx, hd, rfl, rfl⟩ | ⟨s, d, hx, rfl, rfl⟩
  · have post : ∀ γ' (a' : Act) w', γ.le γ' → Frame γ H w γ' s.hp w' → Inv G γ' s.hp w' → a'.defers = [] → EnvRep γ' s.env a'.tmps → a'.defers = [] ∧ ∃ v, (results fn a'.tmps).run P w' = .ok v w' ∧ ∃ γ', γ.le γ' ∧ Frame γ H w γ' s.hp w' ∧ Inv G γ' s.hp w' ∧ Ends' γ' (.val d) (.returned v) := by
      intro γ' a' w' L F J hd' E
      obtain ⟨v, q1, q2⟩ := results_ok J E h6 hd
      exact ⟨hd', v, q1, γ', L, F, J, v, rfl, q2⟩
    rcases hx with hx | hx
    · exact code_wp S hm hit fc.body cd fc.body h7 _ γ ⟨entry 0 args, H⟩ _ w .norm s hx I (entry_rep hv _) hsz rfl fun γ' a' w' L F J hd' _ E => post γ' a' w' L F J hd' E
    · exact code_wp S hm hit fc.body cd fc.body h7 _ γ ⟨entry 0 args, H⟩ _ w .ret s hx I (entry_rep hv _) hsz rfl fun γ' a' w' L F J hd' _ E => post γ' a' w' L F J hd' E
  · exact code_wp S hm hit fc.body cd fc.body h7 _ γ ⟨entry 0 args, H⟩ _ w (.pan d) s hx I (entry_rep hv _) hsz rfl fun γ' a' w' L F J hd' v V => ⟨hd', γ', L, F, J, v, rfl, V⟩

/-- The evaluator's program is the model's. -/
structure PgOk (P : Program) (p : Pg) : Prop where
  mixed : P.follows .mixedOrders = true
  lib : Sound P p.G p.lib
  fn : ∀ f fc, p.F f = some fc → FOk P f fc

theorem evF_sound {p : Pg} (h : PgOk P p) : ∀ n, Sound P p.G (evF p n)
  | 0 => fun f args H r H' e => by simp only [evF] at e; cases e
  | n + 1 => fun f args H r H' e => by
    simp only [evF] at e
    split at e
    · rename_i r0 hr; cases e; exact h.lib f args H r H' hr
    · split at e
      · rename_i fc hfc
        split at e
        · rename_i hl
          exact fun_ok (evF_sound h n) h.mixed (it := fun b s => iter b n s) (fun b s r hr => ⟨n, hr⟩) (h.fn f fc hfc) hl e
        · cases e
      · cases e

/-- Where the limit of the evaluator ends, the call of the model ends so. -/
theorem call_sound {p : Pg} (h : PgOk P p) : Sound P p.G (call p) := fun f args H r H' e => by
  obtain ⟨n, hn⟩ := call_iff.1 e
  exact evF_sound h n f args H r H' hn

end Go.Vs
