/-
  A value-level evaluator for Go functions; the functions of this cut by it; plain laws. Part 3 of 5.
-/
import Derived.Test.YtalgjkpkkdljaaaDoorG2
import Derived.Laws.ResultCell
import Derived.Test.YtalgjkpkkdljaaaDoorG1
import Derived.Test.YtalgjkpkkdljaaaDoorProg
import Derived.KernelRfl

/-! Functions: that where the evaluator ends, the call ends so. -/
namespace Go.Vs

variable {P : Program} {W : World} {G : Nat → Option (List PD)} {γ : Gh} {H : Hp} {w : World}

theorem cells_rep {t : TypeId} {n : Option Nat} (ht : cellN P t = some n) {b base off : Nat} {ds : List D} {f : Nat → Value} (hcell : ∀ j, j < ds.length → w.cell? ⟨b, base + j, none⟩ = some (f j))
    (hr : ∀ j d, ds[j]? = some d → RepD γ (f j) d) (h1 : ∀ d ∈ ds, d.one = true) {d : D} (hd : cutAt ds off n id mkAgg = some d) : ∃ v, (loadVar t ⟨b, base + off, none⟩).run P w = .ok v w ∧ RepD γ v d := by
  unfold cutAt at hd
  split at hd
  · obtain ⟨d', hd', hh⟩ := Option.map_eq_some_iff.1 hd
    cases hh
    have hlt : off < ds.length := (List.getElem?_eq_some_iff.1 hd').1
    have q := run_loadVar (P := P) (w := w) ht (b := b) (off := base + off) (f := fun j => f (off + j)) (fun j hj => by
      rw [Nat.add_assoc]; exact hcell (off + j) (by simp at hj; omega))
    exact ⟨_, q, hr _ _ hd'⟩
  · rename_i k
    split at hd
    · rename_i hk
      cases hd
      have q := run_loadVar (P := P) (w := w) ht (b := b) (off := base + off) (f := fun j => f (off + j)) (fun j hj => by
        simp only [Option.getD_some] at hj
        rw [Nat.add_assoc]; exact hcell (off + j) (by omega))
      exact ⟨_, q, mkAgg_rep (rangeL_rep hk fun j d hj hd => hr _ _ hd) (fun d hd => h1 d (sub_mem hd))⟩
    · cases hd

theorem load_rep (I : Inv G γ H w) {t : TypeId} {n : Option Nat} (ht : cellN P t = some n) {v0 : Value} {d0 : D} (hv : RepD γ v0 d0) {d : D} (hd : loadD G H n d0 = some d) :
    ∃ ad v, v0 = .pointer (some ad) ∧ (loadVar t ad).run P w = .ok v w ∧ RepD γ v d := by
  unfold loadD at hd
  split at hd
  · rename_i i off
    split at hd
    · rename_i cs hcs
      split at hd
      · cases hd
      rename_i hm
      have hm : isMapC cs = false := by simpa using hm
      cases hv with
      | box _ _ b hb =>
        obtain ⟨vs, T, fr, q1, q2, q3, _⟩ := I.box i b cs hb hcs
        rw [viewC_of hm] at q1
        have q3 := q3 hm
        obtain ⟨v, h1, h2⟩ := cells_rep (P := P) (w := w) ht (b := b) (base := 0) (off := off) (ds := cs) (f := fun j => vs.getD j undef) (fun j hj => by
          have hj' : j < vs.size := by have := q2.1; omega
          simp [World.cell?, q1, hj', Array.getD_eq_getD_getElem?]) q2.2 q3 hd
        rw [Nat.zero_add] at h1
        exact ⟨_, v, rfl, h1, h2⟩
    · cases hd
  · rename_i cs off
    cases hv with
    | ro b base _ _ vs hm hr =>
      obtain ⟨v, h1, h2⟩ := cells_rep (P := P) (w := w) ht (b := b) (base := base) (off := off) (ds := cs.map .p) (f := vs) (fun j hj => I.mem _ _ _ (hm j (by simpa using hj))) (fun j d hd => by
        simp only [List.getElem?_map, Option.map_eq_some_iff] at hd
        obtain ⟨z, hz, rfl⟩ := hd
        exact .p _ _ (hr j z hz).1) (fun d hd => by
        obtain ⟨z, hz, rfl⟩ := List.mem_map.1 hd
        obtain ⟨j, hj⟩ := List.getElem?_of_mem hz
        exact (hr j z hj).2) (cutAt_p hd)
      exact ⟨_, v, rfl, h1, h2⟩
  · rename_i g off
    split at hd
    · rename_i cs hcs
      cases hv with
      | glob _ _ =>
        have hg := I.globs g cs hcs
        obtain ⟨v, h1, h2⟩ := cells_rep (P := P) (w := w) ht (b := g) (base := 0) (off := off) (ds := cs.map .p) (f := fun j => (γ.mem g j).getD undef) (fun j hj => by
          have hj : j < cs.length := by simpa using hj
          obtain ⟨_, v, q1, q2⟩ := hg j _ (List.getElem?_eq_getElem hj)
          rw [q1]; simp only [Nat.zero_add, Option.getD_some]
          exact I.mem _ _ _ q1) (fun j d hd => by
          simp only [List.getElem?_map, Option.map_eq_some_iff] at hd
          obtain ⟨z, hz, rfl⟩ := hd
          obtain ⟨_, v, q1, q2⟩ := hg j z hz
          rw [q1]; exact .p _ _ q2) (fun d hd => by
          obtain ⟨z, hz, rfl⟩ := List.mem_map.1 hd
          obtain ⟨j, hj⟩ := List.getElem?_of_mem hz
          exact (hg j z hj).1) (cutAt_p hd)
        rw [Nat.zero_add] at h1
        exact ⟨_, v, rfl, h1, h2⟩
    · cases hd
  · cases hd

def resOf (P : Program) : ResultVar → Option SRes
  | .tmp t => some (.t t)
  | .cell a t => (cellN P t).map (.cell a)

def res1 (tmps : Array Value) : ResultVar → Sem Value
  | .tmp t => pure (tmps.getD t undef)
  | .cell a t => do loadVar t (← asAddr (tmps.getD a undef))

theorem res1_ok (I : Inv G γ H w) {env : Env} {tmps : Array Value} (E : EnvRep γ env tmps) {rv : ResultVar} {r : SRes} (h : resOf P rv = some r) {d : D} (hd : evRes1 G env H r = some d) :
    ∃ v, (res1 tmps rv).run P w = .ok v w ∧ RepD γ v d := by
  cases rv with
  | tmp t =>
    cases h
    cases hd
    exact ⟨_, rfl, E t⟩
  | cell a t =>
    obtain ⟨n, hn, rfl⟩ := Option.map_eq_some_iff.1 h
    simp only [evRes1] at hd
    obtain ⟨ad, v, h1, h2, h3⟩ := load_rep (P := P) I hn (E a) hd
    refine ⟨v, ?_, h3⟩
    simp only [res1, h1, asAddr, Sem.run_bind, Sem.run_pure, Result.andThen_ok, h2]

theorem resL_ok (I : Inv G γ H w) {env : Env} {tmps : Array Value} (E : EnvRep γ env tmps) : ∀ {rvs : List ResultVar} {rs : List SRes}, mapO (resOf P) rvs = some rs → ∀ {ds : List D}, mapO (evRes1 G env H) rs = some ds →
    ∃ vs : List Value, (rvs.mapM (res1 tmps)).run P w = .ok vs w ∧ vs.length = ds.length ∧ ∀ (i : Nat) v d, vs[i]? = some v → ds[i]? = some d → RepD γ v d
  | [], rs, h, ds, hd => by
    simp only [mapO, Option.some.injEq] at h
    subst h
    simp only [mapO, Option.some.injEq] at hd
    subst hd
    exact ⟨[], rfl, rfl, fun i v d h => by simp at h⟩
  | rv :: rvs, rs, h, ds, hd => by
    simp only [mapO] at h
    split at h
    · rename_i r hr
      obtain ⟨rs', hrs, rfl⟩ := Option.map_eq_some_iff.1 h
      simp only [mapO] at hd
      split at hd
      · rename_i d hd1
        obtain ⟨ds', hds, rfl⟩ := Option.map_eq_some_iff.1 hd
        obtain ⟨v, h1, h2⟩ := res1_ok I E hr hd1
        obtain ⟨vs, h3, h4, h5⟩ := resL_ok I E hrs hds
        refine ⟨v :: vs, ?_, by simp [h4], fun i u e hu he => ?_⟩
        · simp only [List.mapM_cons, Sem.run_bind, h1, Result.andThen_ok, h3, Sem.run_pure]
        · match i with
          | 0 => simp only [List.getElem?_cons_zero, Option.some.injEq] at hu he; subst hu; subst he; exact h2
          | i + 1 => exact h5 i u e (by simpa using hu) (by simpa using he)
      · cases hd
    · cases h

theorem results_ok (I : Inv G γ H w) {env : Env} {tmps : Array Value} (E : EnvRep γ env tmps) {fn : Func} {rs : List SRes} (h : mapO (resOf P) fn.results.toList = some rs) {d : D} (hd : evRes G env H rs = some d) :
    ∃ v, (results fn tmps).run P w = .ok v w ∧ RepD γ v d := by
  have hrun : ∀ vs, (fn.results.toList.mapM (res1 tmps)).run P w = .ok vs w → (results fn tmps).run P w = .ok (if h : vs.toArray.size = 1 then vs.toArray[0] else .tuple vs.toArray) w := by
    intro vs hvs
    have : results fn tmps = (fn.results.mapM (res1 tmps)) >>= fun vs => pure (if h : vs.size = 1 then vs[0] else .tuple vs) := rfl
    rw [this, Array.mapM_eq_mapM_toList]
    simp only [Sem.run_bind, map_eq_pure_bind, hvs, Result.andThen_ok, Sem.run_pure]
  unfold evRes at hd
  split at hd
  · cases hd
    obtain ⟨vs, h1, h2, _⟩ := resL_ok I E h (ds := []) rfl
    have hv : vs = [] := List.length_eq_zero_iff.1 h2
    subst hv
    exact ⟨_, hrun _ h1, RepD.undef⟩
  · rename_i r
    obtain ⟨vs, h1, h2, h3⟩ := resL_ok I E h (ds := [d]) (by simp only [mapO, hd, Option.map_some])
    obtain ⟨v, rfl⟩ := List.length_eq_one_iff.1 h2
    exact ⟨v, by simpa using hrun _ h1, h3 0 v d rfl rfl⟩
  · rename_i rs0 hne1 hne2
    obtain ⟨ds, hds, rfl⟩ := Option.map_eq_some_iff.1 hd
    obtain ⟨vs, h1, h2, h3⟩ := resL_ok I E h hds
    have hl : rs.length = ds.length := (mapO_both hds).1
    have hne : ¬ vs.toArray.size = 1 := by
      intro hs
      simp at hs
      rw [← h2] at hl
      rw [hs] at hl
      obtain ⟨r, hr⟩ := List.length_eq_one_iff.1 hl
      exact hne2 r hr
    refine ⟨.tuple vs.toArray, ?_, ?_⟩
    · have := hrun _ h1
      rw [dif_neg hne] at this
      exact this
    · refine .tup _ _ (by simpa using h2) fun i d hd => ?_
      have hi : i < vs.length := by rw [h2]; exact (List.getElem?_eq_some_iff.1 hd).1
      have := h3 i vs[i] d (List.getElem?_eq_getElem hi) hd
      simpa [Array.getD_eq_getD_getElem?, hi] using this

/-- The function of the model, as the evaluator's. -/
structure FOk (P : Program) (f : Nat) (fc : FC) : Prop where
  ex : ∃ fn c, P.funcs[f]? = some fn ∧ (fn.name == "runtime.NumGoroutine") = false ∧ fn.body = some c ∧ fn.ntmps = fc.nt ∧ fc.np ≤ fc.nt ∧ mapO (resOf P) fn.results.toList = some fc.res ∧ compC P fc.nt fc.body c = some fc.body

def compF (P : Program) (fn : Func) (fc : FC) : Option FC :=
  if fn.name == "runtime.NumGoroutine" then none else
  match fn.body, mapO (resOf P) fn.results.toList with
  | some c, some res => if fn.ntmps = fc.nt ∧ fc.np ≤ fc.nt then (compC P fc.nt fc.body c).map fun b => ⟨fc.nt, fc.np, res, b, fc.frz⟩ else none
  | _, _ => none

theorem FOk.of {f : Nat} {fn : Func} {fc : FC} (hf : P.funcs[f]? = some fn) (h : compF P fn fc = some fc) : FOk P f fc := by
  unfold compF at h
  split at h
  · cases h
  · rename_i hn
    split at h
    · rename_i c res hb hres
      split at h
      · rename_i hc
        obtain ⟨b, hb', heq⟩ := Option.map_eq_some_iff.1 h
        have e1 : res = fc.res := congrArg FC.res heq
        have e2 : b = fc.body := congrArg FC.body heq
        exact ⟨fn, c, hf, by simpa using hn, hb, hc.1, hc.2, by rw [hres, e1], by rw [hb', e2]⟩
      · cases h
    · cases h

theorem entry_get : ∀ (n : Nat) (l : List D) (t : Nat), (entry n l).get t = if n ≤ t ∧ t < n + l.length then l.getD (t - n) .dead else .dead
  | n, [], t => by simp only [entry, Env.get, List.length_nil]; rw [if_neg (by omega)]
  | n, d :: l, t => by
    simp only [entry, Env.get, List.length_cons]
    split
    · rename_i h; subst h; rw [if_pos (by omega), Nat.sub_self]; rfl
    · rename_i h
      rw [entry_get (n + 1) l t]
      by_cases hc : n + 1 ≤ t ∧ t < n + 1 + l.length
      · rw [if_pos hc, if_pos (by omega)]
        rw [show t - n = (t - (n + 1)) + 1 by omega]; rfl
      · rw [if_neg hc, if_neg (by omega)]

theorem entry_rep {vs : Array Value} {ds : List D} (h : RepL γ vs ds) (k : Nat) : EnvRep γ (entry 0 ds) (vs ++ Array.replicate k undef) := by
  intro t
  rw [entry_get]
  split
  · rename_i ht
    have hlt : t < ds.length := by omega
    have e : ds[t]? = some (ds.getD (t - 0) .dead) := by simp [List.getD_eq_getElem?_getD, hlt]
    have := h.2 t _ e
    have hv : t < vs.size := by rw [h.1]; exact hlt
    simpa [Array.getD_eq_getD_getElem?, Array.getElem?_append, hv] using this
  · exact .dead _

theorem finish_norm {res : List SRes} {x : Option (Out × St)} {r : Res} {H' : Hp} (h : finish G res x = some (r, H')) :
    (∃ s d, (x = some (.norm, s) ∨ x = some (.ret, s)) ∧ evRes G s.env s.hp res = some d ∧ r = .val d ∧ H' = s.hp) ∨ ∃ s d, x = some (.pan d, s) ∧ r = .pan d ∧ H' = s.hp := by
  unfold finish at h
  split at h
  · rename_i s
    split at h
    · rename_i d hd; cases h; exact .inl ⟨s, d, .inl rfl, hd, rfl, rfl⟩
    · cases h
  · rename_i s
    split at h
    · rename_i d hd; cases h; exact .inl ⟨s, d, .inr rfl, hd, rfl, rfl⟩
    · cases h
  · rename_i d s; cases h; exact .inr ⟨s, d, rfl, rfl, rfl⟩
  · cases h

theorem fun_ok {c : CallR} (S : Sound P W G c) (hm : P.follows .mixedOrders = true) {it : It} (hit : ∀ b s r, it b s = some r → ∃ m, iter b m s = some r) {f : Nat} {fc : FC} (hf : FOk P f fc) {args : List D} {H : Hp} {r : Res} {H' : Hp}
    (hl : args.length = fc.np) (h : finish G fc.res (evS c G it fc.body ⟨entry 0 args, H⟩) = some (r, H')) : Meets P W G f args H r H' := by
  obtain ⟨fn, cd, h1, h2, h3, h4, h5, h6, h7⟩ := hf.ex
  refine ⟨⟨fn, h1, h2, by rw [h3]; rfl⟩, fun γ w vs I hv => ?_⟩
  have hvs : vs.size = fc.np := by rw [hv.1, hl]
  refine calls_of_wp h1 h3 ?_
  have hsz : (vs ++ Array.replicate (fn.ntmps - vs.size) undef).size = fc.nt := by simp [h4, hvs]; omega
  rcases finish_norm h with ⟨s, d, hx, hd, rfl, rfl⟩ | ⟨s, d, hx, rfl, rfl⟩
  · have post : ∀ γ' (a' : Act) w', γ.le γ' → Frame γ H w γ' s.hp w' → InvS W G γ' s.hp w' → a'.defers = [] → EnvRep γ' s.env a'.tmps → a'.defers = [] ∧ ∃ v, (results fn a'.tmps).run P w' = .ok v w' ∧ ∃ γ', γ.le γ' ∧ Frame γ H w γ' s.hp w' ∧ InvS W G γ' s.hp w' ∧ Ends' γ' (.val d) (.returned v) := by
      intro γ' a' w' L F J hd' E
      obtain ⟨v, q1, q2⟩ := results_ok J.toInv E h6 hd
      exact ⟨hd', v, q1, γ', L, F, J, v, rfl, q2⟩
    rcases hx with hx | hx
    · exact code_wp S hm hit fc.body cd fc.body h7 _ γ ⟨entry 0 args, H⟩ _ w .norm s hx I (entry_rep hv _) hsz rfl fun γ' a' w' L F J hd' _ E => post γ' a' w' L F J hd' E
    · exact code_wp S hm hit fc.body cd fc.body h7 _ γ ⟨entry 0 args, H⟩ _ w .ret s hx I (entry_rep hv _) hsz rfl fun γ' a' w' L F J hd' _ E => post γ' a' w' L F J hd' E
  · exact code_wp S hm hit fc.body cd fc.body h7 _ γ ⟨entry 0 args, H⟩ _ w (.pan d) s hx I (entry_rep hv _) hsz rfl fun γ' a' w' L F J hd' v V => ⟨hd', γ', L, F, J, v, rfl, V⟩

theorem ends_seal (J : Inv G γ H w) {nb : Nat} {r r' : Res} {e : Ending} (E : Ends' γ r e) (h : (r.frz nb H).ren (below nb) some = some r') : Ends' (γ.sealC w nb) r' e := by
  refine resRen (sealC_ren γ w nb) h ?_
  cases r with
  | val d =>
    obtain ⟨v, rfl, hv⟩ := E
    exact ⟨v, rfl, frz_rep J 8 (hv.mono (Gh.sealM_le J nb))⟩
  | pan d =>
    obtain ⟨v, rfl, hv⟩ := E
    exact ⟨v, rfl, frz_rep J 8 (hv.mono (Gh.sealM_le J nb))⟩

theorem seal_ok (I : Inv G γ H w) {γ' : Gh} {Hx : Hp} {w' : World} (L : γ.le γ') (F : Frame γ H w γ' Hx w') (J : Inv G γ' Hx w') {r : Res} {e : Ending} (E : Ends' γ' r e) {r' : Res} {H' : Hp} (h : sealF H.bx.length (r, Hx) = (r', H')) :
    ∃ γ'', γ.le γ'' ∧ Frame γ H w γ'' H' w' ∧ Inv G γ'' H' w' ∧ Ends' γ'' r' e := by
  unfold sealF at h
  dsimp only at h
  split at h
  · rename_i bx r1 hbx hr
    split at h
    · rename_i hnb
      cases h
      obtain ⟨L2, F2, J2⟩ := seal_core I L F J hbx hnb
      exact ⟨_, L2, F2, J2, ends_seal J E hr⟩
    · cases h
      exact ⟨γ', L, F, J, E⟩
  · cases h
    exact ⟨γ', L, F, J, E⟩

theorem close_ok {f : Nat} {args : List D} {H : Hp} {frz : Bool} {x : Option (Res × Hp)} {r : Res} {H' : Hp} (h : closeF frz H.bx.length x = some (r, H')) (hx : ∀ r0 H0, x = some (r0, H0) → Meets P W G f args H r0 H0) : Meets P W G f args H r H' := by
  unfold closeF at h
  split at h
  · obtain ⟨y, hy, hs⟩ := Option.map_eq_some_iff.1 h
    obtain ⟨r0, H0⟩ := y
    obtain ⟨hent, hm⟩ := hx r0 H0 hy
    refine ⟨hent, fun γ w vs I hv => (hm γ w vs I hv).mono ?_⟩
    rintro e w' ⟨γ', L, F, J, E⟩
    obtain ⟨γ2, L2, F2, J2, E2⟩ := seal_ok I.toInv L F J.toInv E hs
    exact ⟨γ2, L2, F2, I.up L2 F2 J2, E2⟩
  · exact hx r H' h

/-- The evaluator's program is the model's. -/
structure PgOk (P : Program) (W : World) (p : Pg) : Prop where
  mixed : P.follows .mixedOrders = true
  lib : Sound P W p.G p.lib
  fn : ∀ f fc, p.F f = some fc → FOk P f fc

theorem evF_sound {p : Pg} (h : PgOk P W p) : ∀ n, Sound P W p.G (evF p n)
  | 0 => fun f args H r H' e => by simp only [evF] at e; cases e
  | n + 1 => fun f args H r H' e => by
    simp only [evF] at e
    split at e
    · rename_i r0 hr; cases e; exact h.lib f args H r H' hr
    · split at e
      · rename_i fc hfc
        split at e
        · rename_i hl
          exact close_ok e fun r0 H0 h0 => fun_ok (evF_sound h n) h.mixed (it := fun b s => iter b n s) (fun b s r hr => ⟨n, hr⟩) (h.fn f fc hfc) hl h0
        · cases e
      · cases e

/-- Where the limit of the evaluator ends, the call of the model ends so. -/
theorem call_sound {p : Pg} (h : PgOk P W p) : Sound P W p.G (call p) := fun f args H r H' e => by
  obtain ⟨n, hn⟩ := call_iff.1 e
  exact evF_sound h n f args H r H' hn

end Go.Vs

/-! The evaluator, step by step: equations that stop where a condition is not known. -/
namespace Go.Vs

variable {c : CallR} {G : Nat → Option (List PD)}

/-! Regions in text order. -/
def opsX (c : CallR) (G : Nat → Option (List PD)) (keep : List Nat) (ops : List SO) (env : Env) (H : Hp) : Option (Out × St) :=
  match evOps c G ops env H with
  | some (.ok env H) => some (.norm, ⟨env.keep keep, H⟩)
  | some (.pan d H) => some (.pan d, ⟨[], H⟩)
  | none => none

def opsV (c : CallR) (G : Nat → Option (List PD)) (keep : List Nat) (x : Option (Res × Hp)) (dst : Option Nat) (r : List SO) (env : Env) : Option (Out × St) :=
  match x with
  | some (.val d, H') => opsX c G keep r (put dst d env) H'
  | some (.pan d, H') => some (.pan d, ⟨[], H'⟩)
  | none => none

def opsG (c : CallR) (G : Nat → Option (List PD)) (keep : List Nat) (g : Option Bool) (o : SO) (r : List SO) (env : Env) (H : Hp) : Option (Out × St) :=
  match g with
  | some true => opsV c G keep (evKC c G env H o.k) o.dst r env
  | some false => opsX c G keep r (put o.dst .undef env) H
  | none => none

@[simp] theorem evS_region (it : It) (keep : List Nat) (ops : List SO) (env : Env) (H : Hp) : evS c G it (.region keep ops) ⟨env, H⟩ = opsX c G keep ops env H := rfl
@[simp] theorem opsX_nil (keep : List Nat) (env : Env) (H : Hp) : opsX c G keep [] env H = some (.norm, ⟨env.keep keep, H⟩) := rfl
theorem opsX_cons (keep : List Nat) (o : SO) (r : List SO) (env : Env) (H : Hp) : opsX c G keep (o :: r) env H = opsG c G keep (evGuard env o.g) o r env H := by
  unfold opsX opsG
  simp only [evOps]
  cases evGuard env o.g with
  | none => rfl
  | some b =>
    cases b with
    | false => rfl
    | true =>
      unfold opsV
      cases evKC c G env H o.k with
      | none => rfl
      | some x =>
        obtain ⟨y, H'⟩ := x
        cases y <;> rfl
@[simp] theorem opsX_free (keep : List Nat) (dst : Option Nat) (k : SK) (r : List SO) (env : Env) (H : Hp) : opsX c G keep (⟨dst, k, none⟩ :: r) env H = opsV c G keep (evKC c G env H k) dst r env := opsX_cons ..
@[simp] theorem opsX_guard (keep : List Nat) (dst : Option Nat) (k : SK) (g : Nat × Bool) (r : List SO) (env : Env) (H : Hp) : opsX c G keep (⟨dst, k, some g⟩ :: r) env H = opsG c G keep (evGuard env (some g)) ⟨dst, k, some g⟩ r env H := opsX_cons ..
@[simp] theorem opsV_val (keep : List Nat) (d : D) (H' : Hp) (dst : Option Nat) (r : List SO) (env : Env) : opsV c G keep (some (.val d, H')) dst r env = opsX c G keep r (put dst d env) H' := rfl
@[simp] theorem opsG_true (keep : List Nat) (o : SO) (r : List SO) (env : Env) (H : Hp) : opsG c G keep (some true) o r env H = opsV c G keep (evKC c G env H o.k) o.dst r env := rfl
@[simp] theorem opsG_false (keep : List Nat) (o : SO) (r : List SO) (env : Env) (H : Hp) : opsG c G keep (some false) o r env H = opsX c G keep r (put o.dst .undef env) H := rfl

/-! Regions in an open order. -/
def drX (c : CallR) (G : Nat → Option (List PD)) (keep : List Nat) (pairs : List (Nat × Nat)) (ops : List SO) (env : Env) (H : Hp) (acc : List (Nat × Nat)) : Option (Out × St) :=
  match evDraw c G ops env H with
  | some (env, H, cs) => if pairs.all (fun p => !clash ((acc ++ cs).getD p.1 (0, 0)) ((acc ++ cs).getD p.2 (0, 0))) && insOk (acc ++ cs) then some (.norm, ⟨env.keep keep, H⟩) else none
  | none => none

def drV (c : CallR) (G : Nat → Option (List PD)) (keep : List Nat) (pairs : List (Nat × Nat)) (x : Option (Res × Hp)) (o : SO) (r : List SO) (env : Env) (H : Hp) (acc : List (Nat × Nat)) : Option (Out × St) :=
  match x with
  | some (.val d, H') => drX c G keep pairs r (put o.dst d env) H' (acc ++ [clsP env H H' o.k])
  | _ => none

def drG (c : CallR) (G : Nat → Option (List PD)) (keep : List Nat) (pairs : List (Nat × Nat)) (g : Option Bool) (o : SO) (r : List SO) (env : Env) (H : Hp) (acc : List (Nat × Nat)) : Option (Out × St) :=
  match g with
  | some true => drV c G keep pairs (evKC c G env H o.k) o r env H acc
  | some false => drX c G keep pairs r (put o.dst .undef env) H (acc ++ [(0, 0)])
  | none => none

@[simp] theorem evS_draw (it : It) (keep : List Nat) (pairs : List (Nat × Nat)) (ops : List SO) (env : Env) (H : Hp) : evS c G it (.draw keep pairs ops) ⟨env, H⟩ = drX c G keep pairs ops env H [] := rfl
@[simp] theorem drX_nil (keep : List Nat) (pairs : List (Nat × Nat)) (env : Env) (H : Hp) (acc : List (Nat × Nat)) : drX c G keep pairs [] env H acc = if pairs.all (fun p => !clash (acc.getD p.1 (0, 0)) (acc.getD p.2 (0, 0))) && insOk acc then some (.norm, ⟨env.keep keep, H⟩) else none := by
  simp only [drX, evDraw, List.append_nil]
theorem drX_cons (keep : List Nat) (pairs : List (Nat × Nat)) (o : SO) (r : List SO) (env : Env) (H : Hp) (acc : List (Nat × Nat)) : drX c G keep pairs (o :: r) env H acc = drG c G keep pairs (evGuard env o.g) o r env H acc := by
  unfold drX drG
  simp only [evDraw]
  cases evGuard env o.g with
  | none => rfl
  | some b =>
    cases b with
    | false =>
      unfold drX
      cases evDraw c G r (put o.dst .undef env) H with
      | none => rfl
      | some x => obtain ⟨e, h, cs⟩ := x; simp only [List.append_assoc, List.singleton_append]
    | true =>
      unfold drV drX
      cases evKC c G env H o.k with
      | none => rfl
      | some x =>
        obtain ⟨y, H'⟩ := x
        cases y with
        | pan d => rfl
        | val d =>
          dsimp only
          cases evDraw c G r (put o.dst d env) H' with
          | none => rfl
          | some x => obtain ⟨e, h, cs⟩ := x; simp only [List.append_assoc, List.singleton_append]
@[simp] theorem drX_free (keep : List Nat) (pairs : List (Nat × Nat)) (dst : Option Nat) (k : SK) (r : List SO) (env : Env) (H : Hp) (acc : List (Nat × Nat)) : drX c G keep pairs (⟨dst, k, none⟩ :: r) env H acc = drV c G keep pairs (evKC c G env H k) ⟨dst, k, none⟩ r env H acc := drX_cons ..
@[simp] theorem drX_guard (keep : List Nat) (pairs : List (Nat × Nat)) (dst : Option Nat) (k : SK) (g : Nat × Bool) (r : List SO) (env : Env) (H : Hp) (acc : List (Nat × Nat)) : drX c G keep pairs (⟨dst, k, some g⟩ :: r) env H acc = drG c G keep pairs (evGuard env (some g)) ⟨dst, k, some g⟩ r env H acc := drX_cons ..
@[simp] theorem drV_val (keep : List Nat) (pairs : List (Nat × Nat)) (d : D) (H' : Hp) (o : SO) (r : List SO) (env : Env) (H : Hp) (acc : List (Nat × Nat)) : drV c G keep pairs (some (.val d, H')) o r env H acc = drX c G keep pairs r (put o.dst d env) H' (acc ++ [clsP env H H' o.k]) := rfl
@[simp] theorem drG_true (keep : List Nat) (pairs : List (Nat × Nat)) (o : SO) (r : List SO) (env : Env) (H : Hp) (acc : List (Nat × Nat)) : drG c G keep pairs (some true) o r env H acc = drV c G keep pairs (evKC c G env H o.k) o r env H acc := rfl
@[simp] theorem drG_false (keep : List Nat) (pairs : List (Nat × Nat)) (o : SO) (r : List SO) (env : Env) (H : Hp) (acc : List (Nat × Nat)) : drG c G keep pairs (some false) o r env H acc = drX c G keep pairs r (put o.dst .undef env) H (acc ++ [(0, 0)]) := rfl

/-! Code. -/
noncomputable def seqK (c : CallR) (G : Nat → Option (List PD)) (x : Option (Out × St)) (b : SC) : Option (Out × St) :=
  match x with
  | some (.norm, s') => evS c G iterX b s'
  | r => r

noncomputable def condK (c : CallR) (G : Nat → Option (List PD)) (t : D) (a b : SC) (s : St) : Option (Out × St) :=
  match t with
  | .p (.bool t) => if t then evS c G iterX a s else evS c G iterX b s
  | _ => none

def blockK (id : Nat) (x : Option (Out × St)) : Option (Out × St) :=
  match x with
  | some (.exit i, s') => if i = id then some (.norm, s') else some (.exit i, s')
  | r => r

noncomputable def loopK (c : CallR) (G : Nat → Option (List PD)) (keep : List Nat) (b : SC) (s : St) : Option (Out × St) := iterX (fun s => evS c G iterX b ⟨s.env.keep keep, s.hp⟩) s

def locK (nb nt : Nat) (x : Option (Out × St)) : Option (Out × St) := x.map (locD nb nt)

def loczK (nb nt : Nat) (x : Option (Out × St)) : Option (Out × St) := x.map fun x => locD nb nt (sealS nb x)

def tokbK (x : Option St) : Option (Out × St) := x.map fun s => (.norm, s)

def tokK (slot : Nat) (x : Option (D × Hp)) (env : Env) : Option (Out × St) :=
  match x with
  | some (d, H) => some (.norm, ⟨(slot, d) :: env, H⟩)
  | none => none

@[simp] theorem evS_skip (s : St) : evS c G iterX .skip s = some (.norm, s) := rfl
@[simp] theorem evS_exit (id : Nat) (s : St) : evS c G iterX (.exit id) s = some (.exit id, s) := rfl
@[simp] theorem evS_ret (s : St) : evS c G iterX .ret s = some (.ret, s) := rfl
@[simp] theorem evS_scope (b : SC) (s : St) : evS c G iterX (.scope b) s = evS c G iterX b s := rfl
@[simp] theorem evS_seq (a b : SC) (s : St) : evS c G iterX (.seq a b) s = seqK c G (evS c G iterX a s) b := rfl
@[simp] theorem evS_cond (x : Opd) (a b : SC) (env : Env) (H : Hp) : evS c G iterX (.cond x a b) ⟨env, H⟩ = condK c G (x.ev env) a b ⟨env, H⟩ := rfl
@[simp] theorem evS_block (id : Nat) (b : SC) (s : St) : evS c G iterX (.block id b) s = blockK id (evS c G iterX b s) := rfl
theorem iterX_same {f : St → Option (Out × St)} {s s' : St} (h : f s = f s') : iterX f s = iterX f s' := by
  have key : ∀ m, iter f m s = iter f m s' := by
    intro m
    cases m with
    | zero => rfl
    | succ m => simp only [iter, h]
  cases hx : iterX f s' with
  | some r =>
    obtain ⟨m, hm⟩ := iterX_iff.1 hx
    exact iterX_iff.2 ⟨m, by rw [key]; exact hm⟩
  | none =>
    cases hy : iterX f s with
    | none => rfl
    | some r =>
      obtain ⟨m, hm⟩ := iterX_iff.1 hy
      rw [key] at hm
      rw [iterX_iff.2 ⟨m, hm⟩] at hx
      cases hx
theorem get_keep_mem {ks : List Nat} {e : Env} {t : Nat} (h : t ∈ ks) : (e.keep ks).get t = e.get t := by
  induction ks with
  | nil => cases h
  | cons k ks ih =>
    show (if k = t then e.get k else Env.get (List.map (fun t => (t, e.get t)) ks) t) = _
    split
    · rename_i hk; rw [hk]
    · rename_i hk
      have : t ∈ ks := by
        rcases List.mem_cons.1 h with h | h
        · exact absurd h.symm hk
        · exact h
      exact ih this
theorem keep_keep (ks : List Nat) (e : Env) : (e.keep ks).keep ks = e.keep ks :=
  List.map_congr_left fun t ht => by rw [get_keep_mem ht]
@[simp] theorem evS_loop (keep : List Nat) (b : SC) (env : Env) (H : Hp) : evS c G iterX (.loop keep b) ⟨env, H⟩ = loopK c G keep b ⟨env.keep keep, H⟩ :=
  iterX_same (by dsimp only; rw [keep_keep])
@[simp] theorem evS_loc (b : SC) (env : Env) (H : Hp) : evS c G iterX (.loc b) ⟨env, H⟩ = locK H.bx.length H.tk.length (evS c G iterX b ⟨env, H⟩) := rfl
@[simp] theorem evS_tok (slot e sz : Nat) (env : Env) (H : Hp) : evS c G iterX (.tok slot e sz) ⟨env, H⟩ = tokK slot (tokD e sz (env.get slot) H) env := rfl
@[simp] theorem evS_locz (b : SC) (env : Env) (H : Hp) : evS c G iterX (.locz b) ⟨env, H⟩ = loczK H.bx.length H.tk.length (evS c G iterX b ⟨env, H⟩) := rfl
@[simp] theorem evS_tokb (slot off e sz : Nat) (s : St) : evS c G iterX (.tokb slot off e sz) s = tokbK (tokbD slot off e sz s) := rfl
@[simp] theorem tokbK_some (s : St) : tokbK (some s) = some (.norm, s) := rfl
@[simp] theorem loczK_some (nb nt : Nat) (x : Out × St) : loczK nb nt (some x) = some (locD nb nt (sealS nb x)) := rfl
@[simp] theorem seqK_norm (s : St) (b : SC) : seqK c G (some (.norm, s)) b = evS c G iterX b s := rfl
@[simp] theorem seqK_exit (id : Nat) (s : St) (b : SC) : seqK c G (some (.exit id, s)) b = some (.exit id, s) := rfl
@[simp] theorem seqK_ret (s : St) (b : SC) : seqK c G (some (.ret, s)) b = some (.ret, s) := rfl
@[simp] theorem seqK_pan (d : D) (s : St) (b : SC) : seqK c G (some (.pan d, s)) b = some (.pan d, s) := rfl
@[simp] theorem condK_true (a b : SC) (s : St) : condK c G (.p (.bool true)) a b s = evS c G iterX a s := rfl
@[simp] theorem condK_false (a b : SC) (s : St) : condK c G (.p (.bool false)) a b s = evS c G iterX b s := rfl
@[simp] theorem blockK_norm (id : Nat) (s : St) : blockK id (some (.norm, s)) = some (.norm, s) := rfl
@[simp] theorem blockK_ret (id : Nat) (s : St) : blockK id (some (.ret, s)) = some (.ret, s) := rfl
@[simp] theorem blockK_pan (id : Nat) (d : D) (s : St) : blockK id (some (.pan d, s)) = some (.pan d, s) := rfl
@[simp] theorem blockK_exit (id i : Nat) (s : St) : blockK id (some (.exit i, s)) = if i = id then some (.norm, s) else some (.exit i, s) := rfl
@[simp] theorem locK_some (nb nt : Nat) (x : Out × St) : locK nb nt (some x) = some (locD nb nt x) := rfl
@[simp] theorem tokK_some (slot : Nat) (d : D) (H : Hp) (env : Env) : tokK slot (some (d, H)) env = some (.norm, ⟨(slot, d) :: env, H⟩) := rfl

theorem loopK_norm {keep : List Nat} {b : SC} {env : Env} {H : Hp} {s' : St} (h : evS c G iterX b ⟨env.keep keep, H⟩ = some (.norm, s')) : loopK c G keep b ⟨env, H⟩ = loopK c G keep b s' := iterX_norm h
theorem loopK_out {keep : List Nat} {b : SC} {env : Env} {H : Hp} {o : Out} {s' : St} (h : evS c G iterX b ⟨env.keep keep, H⟩ = some (o, s')) (ho : o ≠ .norm) : loopK c G keep b ⟨env, H⟩ = some (o, s') := iterX_out h ho

/-! Numbers. -/
@[simp] theorem intBin_add (k : IntKind) (a b : Int) : intBin .add k a b = some (.int k (k.wrap (a + b))) := rfl
@[simp] theorem intBin_sub (k : IntKind) (a b : Int) : intBin .sub k a b = some (.int k (k.wrap (a - b))) := rfl
@[simp] theorem intBin_mul (k : IntKind) (a b : Int) : intBin .mul k a b = some (.int k (k.wrap (a * b))) := rfl
@[simp] theorem intBin_quo (k : IntKind) (a b : Int) : intBin .quo k a b = if b = 0 then none else some (.int k (k.wrap (a.tdiv b))) := rfl
@[simp] theorem intBin_rem (k : IntKind) (a b : Int) : intBin .rem k a b = if b = 0 then none else some (.int k (a.tmod b)) := rfl
@[simp] theorem intBin_eql (k : IntKind) (a b : Int) : intBin .eql k a b = some (.bool (a == b)) := rfl
@[simp] theorem intBin_neq (k : IntKind) (a b : Int) : intBin .neq k a b = some (.bool (a != b)) := rfl
@[simp] theorem intBin_lss (k : IntKind) (a b : Int) : intBin .lss k a b = some (.bool (decide (a < b))) := rfl
@[simp] theorem intBin_leq (k : IntKind) (a b : Int) : intBin .leq k a b = some (.bool (decide (a ≤ b))) := rfl
@[simp] theorem intBin_gtr (k : IntKind) (a b : Int) : intBin .gtr k a b = some (.bool (decide (a > b))) := rfl
@[simp] theorem intBin_geq (k : IntKind) (a b : Int) : intBin .geq k a b = some (.bool (decide (a ≥ b))) := rfl
theorem wrap64 {n : Int} (h1 : -9223372036854775808 ≤ n) (h2 : n < 9223372036854775808) : IntKind.i64.wrap n = n := by
  simp [IntKind.wrap, IntKind.bits, IntKind.signed]
  omega

/-! Calls. -/
@[simp] theorem evKC_call (f : Opd) (args : List Opd) (env : Env) (H : Hp) : evKC c G env H (.call f args) = callV c (f.ev env) (args.map (·.ev env)) H := rfl
@[simp] theorem callV_fn (g : Nat) (first cap args : List D) (H : Hp) : callV c (.fn g first cap) args H = callD c g (first ++ args ++ cap) H := rfl

/-- A call on data alone, of a function that gives back data alone. -/
theorem callD_pure {f : Nat} {args : List D} {H : Hp} {d : D} {Hl : Hp} {d' : D} (h : c f args ⟨[], []⟩ = some (.val d, Hl)) (hr : D.refsL args = []) (ht : D.toksL args = []) (ha : D.renL (idx []) (idx []) args = some args)
    (hd : d.ren (fun _ => none) (fun _ => none) = some d') : callD c f args H = some (.val d', H) := by
  have hreach : ∀ n, reach H n [] = [] := by
    intro n
    cases n <;> simp [reach, boxRefs]
  unfold callD
  simp only [hr, ht, ins, hreach, boxToks, List.append_nil, nodupB, Bool.and_self, if_true, mapO, ha, h]
  unfold back
  simp only [firstN, List.length_nil, Nat.zero_le, if_true, List.take_zero, List.getElem?_nil, mapO, putAll, Res.ren, hd, Option.map_some]

end Go.Vs

/-! The functions of the cut, as the evaluator's (printed by a program of ours), each checked against the program's. -/
namespace Go.Proofs.YtalgjkpkkdljaaaDoor
open Go.Vs

/-- armature/armaturelaw03.PrinterMatchesReference -/
def fc3 : FC where
  nt := 72
  np := 4
  res := [.t 8]
  body :=
    (.seq
      (.region [4, 5, 6, 7] [
          ⟨some 4, .box (.t 0), none⟩,
          ⟨some 5, .box (.t 1), none⟩,
          ⟨some 6, .box (.t 2), none⟩,
          ⟨some 7, .box (.t 3), none⟩,
          ⟨some 8, .move (.c (.p (.bool false))), none⟩])
      (.seq
        (.region [4, 5, 6, 7, 9] [
            ⟨some 12, .call (.c (.fn 6 [] [])) [], none⟩,
            ⟨some 9, .move (.t 12), none⟩])
        (.seq
          (.seq
            (.region [4, 5, 6, 7, 9, 30] [
                ⟨some 13, .load (some 5) (.t 4), none⟩,
                ⟨some 14, .call (.c (.fn 7 [] [])) [(.t 13)], none⟩,
                ⟨some 15, .un .not (.t 14), none⟩,
                ⟨some 16, .move (.t 15), none⟩,
                ⟨some 17, .load (some 5) (.t 5), some (16, false)⟩,
                ⟨some 18, .call (.c (.fn 7 [] [])) [(.t 17)], some (16, false)⟩,
                ⟨some 19, .un .not (.t 18), some (16, false)⟩,
                ⟨some 20, .pick (.t 16) (.c (.p (.bool true))) (.t 19), none⟩,
                ⟨some 21, .move (.t 20), none⟩,
                ⟨some 22, .load (some 4) (.t 6), some (21, false)⟩,
                ⟨some 23, .call (.c (.fn 8 [] [])) [(.t 22)], some (21, false)⟩,
                ⟨some 24, .un .not (.t 23), some (21, false)⟩,
                ⟨some 25, .pick (.t 21) (.c (.p (.bool true))) (.t 24), none⟩,
                ⟨some 26, .move (.t 25), none⟩,
                ⟨some 27, .load (some 4) (.t 7), some (26, false)⟩,
                ⟨some 28, .call (.c (.fn 8 [] [])) [(.t 27)], some (26, false)⟩,
                ⟨some 29, .un .not (.t 28), some (26, false)⟩,
                ⟨some 30, .pick (.t 26) (.c (.p (.bool true))) (.t 29), none⟩])
            (.cond (.t 30)
              (.seq
                (.region [8] [
                    ⟨some 31, .move (.t 9), none⟩,
                    ⟨some 8, .move (.t 31), none⟩])
                .ret)
              .skip))
          (.seq
            (.seq
              (.draw [4, 6, 9, 47] [(0, 1), (0, 3), (1, 3), (2, 3), (0, 4), (1, 4), (2, 4), (3, 4), (8, 9), (8, 11), (9, 11), (10, 11), (8, 12), (9, 12), (10, 12), (11, 12)] [
                  ⟨some 32, .load (some 5) (.t 4), none⟩,
                  ⟨some 33, .load (some 5) (.t 5), none⟩,
                  ⟨some 34, .call (.c (.fn 9 [] [])) [(.t 32), (.t 33)], none⟩,
                  ⟨some 35, .load (some 5) (.t 4), none⟩,
                  ⟨some 36, .load (some 5) (.t 5), none⟩,
                  ⟨some 37, .call (.c (.fn 10 [] [])) [(.t 35), (.t 36)], none⟩,
                  ⟨some 38, .eqk 0 true (.t 34) (.t 37), none⟩,
                  ⟨some 39, .move (.t 38), none⟩,
                  ⟨some 40, .load (some 4) (.t 6), some (39, false)⟩,
                  ⟨some 41, .load (some 4) (.t 7), some (39, false)⟩,
                  ⟨some 42, .call (.c (.fn 11 [] [])) [(.t 40), (.t 41)], some (39, false)⟩,
                  ⟨some 43, .load (some 4) (.t 6), some (39, false)⟩,
                  ⟨some 44, .load (some 4) (.t 7), some (39, false)⟩,
                  ⟨some 45, .call (.c (.fn 12 [] [])) [(.t 43), (.t 44)], some (39, false)⟩,
                  ⟨some 46, .eqk 0 true (.t 42) (.t 45), some (39, false)⟩,
                  ⟨some 47, .pick (.t 39) (.c (.p (.bool true))) (.t 46), none⟩])
              (.cond (.t 47)
                (.seq
                  (.region [8] [
                      ⟨some 8, .move (.c (.p (.bool false))), none⟩])
                  .ret)
                .skip))
            (.seq
              (.region [4, 6, 9, 10] [
                  ⟨some 48, .load (some 5) (.t 4), none⟩,
                  ⟨some 49, .call (.c (.fn 13 [] [])) [(.t 48)], none⟩,
                  ⟨some 10, .move (.t 49), none⟩])
              (.seq
                (.seq
                  (.draw [6, 9, 57] [(2, 4), (3, 4)] [
                      ⟨some 50, .move (.t 10), none⟩,
                      ⟨some 51, .move (.t 50), none⟩,
                      ⟨some 52, .load (some 5) (.t 4), some (51, true)⟩,
                      ⟨some 53, .call (.c (.fn 14 [] [])) [(.t 52)], some (51, true)⟩,
                      ⟨some 54, .load (some 5) (.t 4), some (51, true)⟩,
                      ⟨some 55, .call (.c (.fn 15 [] [])) [(.t 54)], some (51, true)⟩,
                      ⟨some 56, .bin .neq (.t 53) (.t 55), some (51, true)⟩,
                      ⟨some 57, .pick (.t 51) (.t 56) (.c (.p (.bool false))), none⟩])
                  (.cond (.t 57)
                    (.seq
                      (.region [8] [
                          ⟨some 8, .move (.c (.p (.bool false))), none⟩])
                      .ret)
                    .skip))
                (.seq
                  (.region [6, 9, 11] [
                      ⟨some 58, .load (some 4) (.t 6), none⟩,
                      ⟨some 59, .call (.c (.fn 16 [] [])) [(.t 58)], none⟩,
                      ⟨some 11, .move (.t 59), none⟩])
                  (.seq
                    (.draw [8] [(5, 7), (6, 7)] [
                        ⟨some 60, .move (.t 9), none⟩,
                        ⟨some 61, .move (.t 60), none⟩,
                        ⟨some 62, .move (.t 11), some (61, true)⟩,
                        ⟨some 63, .un .not (.t 62), some (61, true)⟩,
                        ⟨some 64, .move (.t 63), some (61, true)⟩,
                        ⟨some 65, .load (some 4) (.t 6), some (64, false)⟩,
                        ⟨some 66, .call (.c (.fn 17 [] [])) [(.t 65)], some (64, false)⟩,
                        ⟨some 67, .load (some 4) (.t 6), some (64, false)⟩,
                        ⟨some 68, .call (.c (.fn 18 [] [])) [(.t 67)], some (64, false)⟩,
                        ⟨some 69, .bin .eql (.t 66) (.t 68), some (64, false)⟩,
                        ⟨some 70, .pick (.t 64) (.c (.p (.bool true))) (.t 69), some (61, true)⟩,
                        ⟨some 71, .pick (.t 61) (.t 70) (.c (.p (.bool false))), none⟩,
                        ⟨some 8, .move (.t 71), none⟩])
                    .ret))))))))

theorem ok3 : FOk Tryd.prog 3 fc3 := FOk.of Tryd.func3 (by kernel_rfl)

/-- armature/armaturelaw03.PrinterInjective -/
def fc4 : FC where
  nt := 32
  np := 2
  res := [.t 4]
  body :=
    (.seq
      (.region [2, 3] [
          ⟨some 2, .box (.t 0), none⟩,
          ⟨some 3, .box (.t 1), none⟩,
          ⟨some 4, .move (.c (.p (.bool false))), none⟩])
      (.seq
        (.region [2, 3, 5] [
            ⟨some 8, .call (.c (.fn 6 [] [])) [], none⟩,
            ⟨some 5, .move (.t 8), none⟩])
        (.seq
          (.region [2, 3, 5, 6] [
              ⟨some 9, .load (some 5) (.t 2), none⟩,
              ⟨some 10, .call (.c (.fn 19 [] [])) [(.t 9)], none⟩,
              ⟨some 6, .move (.t 10), none⟩])
          (.seq
            (.region [2, 3, 5, 6, 7] [
                ⟨some 11, .load (some 5) (.t 3), none⟩,
                ⟨some 12, .call (.c (.fn 19 [] [])) [(.t 11)], none⟩,
                ⟨some 7, .move (.t 12), none⟩])
            (.seq
              (.seq
                (.region [2, 3, 5, 18] [
                    ⟨some 13, .move (.t 6), none⟩,
                    ⟨some 14, .un .not (.t 13), none⟩,
                    ⟨some 15, .move (.t 14), none⟩,
                    ⟨some 16, .move (.t 7), some (15, false)⟩,
                    ⟨some 17, .un .not (.t 16), some (15, false)⟩,
                    ⟨some 18, .pick (.t 15) (.c (.p (.bool true))) (.t 17), none⟩])
                (.cond (.t 18)
                  (.seq
                    (.region [4] [
                        ⟨some 19, .move (.t 5), none⟩,
                        ⟨some 4, .move (.t 19), none⟩])
                    .ret)
                  .skip))
              (.seq
                (.draw [4] [(2, 3), (2, 5), (3, 5), (4, 5), (2, 7), (3, 7), (4, 7), (5, 7), (6, 7)] [
                    ⟨some 20, .move (.t 5), none⟩,
                    ⟨some 21, .move (.t 20), none⟩,
                    ⟨some 22, .load (some 5) (.t 2), some (21, true)⟩,
                    ⟨some 23, .load (some 5) (.t 3), some (21, true)⟩,
                    ⟨some 24, .call (.c (.fn 9 [] [])) [(.t 22), (.t 23)], some (21, true)⟩,
                    ⟨some 25, .load (some 5) (.t 2), some (21, true)⟩,
                    ⟨some 26, .call (.c (.fn 14 [] [])) [(.t 25)], some (21, true)⟩,
                    ⟨some 27, .load (some 5) (.t 3), some (21, true)⟩,
                    ⟨some 28, .call (.c (.fn 14 [] [])) [(.t 27)], some (21, true)⟩,
                    ⟨some 29, .bin .eql (.t 26) (.t 28), some (21, true)⟩,
                    ⟨some 30, .eqk 0 false (.t 24) (.t 29), some (21, true)⟩,
                    ⟨some 31, .pick (.t 21) (.t 30) (.c (.p (.bool false))), none⟩,
                    ⟨some 4, .move (.t 31), none⟩])
                .ret))))))

theorem ok4 : FOk Tryd.prog 4 fc4 := FOk.of Tryd.func4 (by kernel_rfl)

/-- armature/armaturelaw03.PrinterEquality -/
def fc5 : FC where
  nt := 105
  np := 6
  res := [.t 12]
  body :=
    (.seq
      (.region [5, 6, 7, 8, 9, 10] [
          ⟨some 6, .box (.t 0), none⟩,
          ⟨some 7, .box (.t 1), none⟩,
          ⟨some 8, .box (.t 2), none⟩,
          ⟨some 9, .box (.t 3), none⟩,
          ⟨some 10, .box (.t 4), none⟩,
          ⟨some 12, .move (.c (.p (.bool false))), none⟩])
      (.seq
        (.region [5, 6, 7, 8, 9, 10, 13] [
            ⟨some 17, .call (.c (.fn 6 [] [])) [], none⟩,
            ⟨some 13, .move (.t 17), none⟩])
        (.seq
          (.seq
            (.region [5, 6, 7, 8, 9, 10, 13, 40] [
                ⟨some 18, .load (some 5) (.t 6), none⟩,
                ⟨some 19, .call (.c (.fn 7 [] [])) [(.t 18)], none⟩,
                ⟨some 20, .un .not (.t 19), none⟩,
                ⟨some 21, .move (.t 20), none⟩,
                ⟨some 22, .load (some 5) (.t 7), some (21, false)⟩,
                ⟨some 23, .call (.c (.fn 7 [] [])) [(.t 22)], some (21, false)⟩,
                ⟨some 24, .un .not (.t 23), some (21, false)⟩,
                ⟨some 25, .pick (.t 21) (.c (.p (.bool true))) (.t 24), none⟩,
                ⟨some 26, .move (.t 25), none⟩,
                ⟨some 27, .load (some 5) (.t 8), some (26, false)⟩,
                ⟨some 28, .call (.c (.fn 7 [] [])) [(.t 27)], some (26, false)⟩,
                ⟨some 29, .un .not (.t 28), some (26, false)⟩,
                ⟨some 30, .pick (.t 26) (.c (.p (.bool true))) (.t 29), none⟩,
                ⟨some 31, .move (.t 30), none⟩,
                ⟨some 32, .load (some 4) (.t 9), some (31, false)⟩,
                ⟨some 33, .call (.c (.fn 8 [] [])) [(.t 32)], some (31, false)⟩,
                ⟨some 34, .un .not (.t 33), some (31, false)⟩,
                ⟨some 35, .pick (.t 31) (.c (.p (.bool true))) (.t 34), none⟩,
                ⟨some 36, .move (.t 35), none⟩,
                ⟨some 37, .load (some 4) (.t 10), some (36, false)⟩,
                ⟨some 38, .call (.c (.fn 8 [] [])) [(.t 37)], some (36, false)⟩,
                ⟨some 39, .un .not (.t 38), some (36, false)⟩,
                ⟨some 40, .pick (.t 36) (.c (.p (.bool true))) (.t 39), none⟩])
            (.cond (.t 40)
              (.seq
                (.region [12] [
                    ⟨some 41, .move (.t 13), none⟩,
                    ⟨some 12, .move (.t 41), none⟩])
                .ret)
              .skip))
          (.seq
            (.region [5, 6, 7, 8, 9, 10, 13, 14] [
                ⟨some 42, .load (some 5) (.t 6), none⟩,
                ⟨some 43, .load (some 5) (.t 7), none⟩,
                ⟨some 44, .call (.c (.fn 9 [] [])) [(.t 42), (.t 43)], none⟩,
                ⟨some 14, .move (.t 44), none⟩])
            (.seq
              (.region [5, 6, 7, 8, 9, 10, 13, 14, 15] [
                  ⟨some 45, .load (some 5) (.t 7), none⟩,
                  ⟨some 46, .load (some 5) (.t 8), none⟩,
                  ⟨some 47, .call (.c (.fn 9 [] [])) [(.t 45), (.t 46)], none⟩,
                  ⟨some 15, .move (.t 47), none⟩])
              (.seq
                (.region [5, 6, 7, 9, 10, 13, 14, 15, 16] [
                    ⟨some 48, .load (some 5) (.t 6), none⟩,
                    ⟨some 49, .load (some 5) (.t 8), none⟩,
                    ⟨some 50, .call (.c (.fn 9 [] [])) [(.t 48), (.t 49)], none⟩,
                    ⟨some 16, .move (.t 50), none⟩])
                (.seq
                  (.seq
                    (.region [5, 6, 9, 10, 13, 81] [
                        ⟨some 51, .load (some 5) (.t 6), none⟩,
                        ⟨some 52, .load (some 5) (.t 6), none⟩,
                        ⟨some 53, .call (.c (.fn 9 [] [])) [(.t 51), (.t 52)], none⟩,
                        ⟨some 54, .un .not (.t 53), none⟩,
                        ⟨some 55, .move (.t 54), none⟩,
                        ⟨some 56, .move (.t 14), some (55, false)⟩,
                        ⟨some 57, .load (some 5) (.t 7), some (55, false)⟩,
                        ⟨some 58, .load (some 5) (.t 6), some (55, false)⟩,
                        ⟨some 59, .call (.c (.fn 9 [] [])) [(.t 57), (.t 58)], some (55, false)⟩,
                        ⟨some 60, .eqk 0 true (.t 56) (.t 59), some (55, false)⟩,
                        ⟨some 61, .pick (.t 55) (.c (.p (.bool true))) (.t 60), none⟩,
                        ⟨some 62, .move (.t 61), none⟩,
                        ⟨some 63, .move (.t 14), some (62, false)⟩,
                        ⟨some 64, .move (.t 63), some (62, false)⟩,
                        ⟨some 65, .move (.t 15), some (64, true)⟩,
                        ⟨some 66, .pick (.t 64) (.t 65) (.c (.p (.bool false))), some (62, false)⟩,
                        ⟨some 67, .move (.t 66), some (62, false)⟩,
                        ⟨some 68, .move (.t 16), some (67, true)⟩,
                        ⟨some 69, .un .not (.t 68), some (67, true)⟩,
                        ⟨some 70, .pick (.t 67) (.t 69) (.c (.p (.bool false))), some (62, false)⟩,
                        ⟨some 71, .pick (.t 62) (.c (.p (.bool true))) (.t 70), none⟩,
                        ⟨some 72, .move (.t 71), none⟩,
                        ⟨some 73, .move (.t 14), some (72, false)⟩,
                        ⟨some 74, .move (.t 73), some (72, false)⟩,
                        ⟨some 75, .move (.t 16), some (74, true)⟩,
                        ⟨some 76, .pick (.t 74) (.t 75) (.c (.p (.bool false))), some (72, false)⟩,
                        ⟨some 77, .move (.t 76), some (72, false)⟩,
                        ⟨some 78, .move (.t 15), some (77, true)⟩,
                        ⟨some 79, .un .not (.t 78), some (77, true)⟩,
                        ⟨some 80, .pick (.t 77) (.t 79) (.c (.p (.bool false))), some (72, false)⟩,
                        ⟨some 81, .pick (.t 72) (.c (.p (.bool true))) (.t 80), none⟩])
                    (.cond (.t 81)
                      (.seq
                        (.region [12] [
                            ⟨some 12, .move (.c (.p (.bool false))), none⟩])
                        .ret)
                      .skip))
                  (.seq
                    (.draw [12] [(2, 3), (2, 6), (10, 11), (15, 16), (15, 18), (16, 18), (17, 18), (15, 19), (16, 19), (17, 19), (18, 19)] [
                        ⟨some 82, .move (.t 13), none⟩,
                        ⟨some 83, .move (.t 82), none⟩,
                        ⟨some 84, .load (some 5) (.t 6), some (83, true)⟩,
                        ⟨some 85, .load (some 5) (.t 6), some (83, true)⟩,
                        ⟨some 86, .move (.t 5), some (83, true)⟩,
                        ⟨some 87, .conv .i64 (.t 86), some (83, true)⟩,
                        ⟨some 88, .call (.c (.fn 20 [] [])) [(.t 85), (.t 87)], some (83, true)⟩,
                        ⟨some 89, .call (.c (.fn 9 [] [])) [(.t 84), (.t 88)], some (83, true)⟩,
                        ⟨some 90, .pick (.t 83) (.t 89) (.c (.p (.bool false))), none⟩,
                        ⟨some 91, .move (.t 90), none⟩,
                        ⟨some 92, .load (some 4) (.t 9), some (91, true)⟩,
                        ⟨some 93, .load (some 4) (.t 9), some (91, true)⟩,
                        ⟨some 94, .call (.c (.fn 11 [] [])) [(.t 92), (.t 93)], some (91, true)⟩,
                        ⟨some 95, .pick (.t 91) (.t 94) (.c (.p (.bool false))), none⟩,
                        ⟨some 96, .move (.t 95), none⟩,
                        ⟨some 97, .load (some 4) (.t 9), some (96, true)⟩,
                        ⟨some 98, .load (some 4) (.t 10), some (96, true)⟩,
                        ⟨some 99, .call (.c (.fn 11 [] [])) [(.t 97), (.t 98)], some (96, true)⟩,
                        ⟨some 100, .load (some 4) (.t 10), some (96, true)⟩,
                        ⟨some 101, .load (some 4) (.t 9), some (96, true)⟩,
                        ⟨some 102, .call (.c (.fn 11 [] [])) [(.t 100), (.t 101)], some (96, true)⟩,
                        ⟨some 103, .eqk 0 false (.t 99) (.t 102), some (96, true)⟩,
                        ⟨some 104, .pick (.t 96) (.t 103) (.c (.p (.bool false))), none⟩,
                        ⟨some 12, .move (.t 104), none⟩])
                    .ret))))))))

theorem ok5 : FOk Tryd.prog 5 fc5 := FOk.of Tryd.func5 (by kernel_rfl)

/-- armature/armaturelaw03.head -/
def fc6 : FC where
  nt := 120
  np := 0
  res := [.t 0]
  body :=
    (.seq
      (.region [] [
          ⟨some 0, .move (.c (.p (.bool false))), none⟩])
      (.seq
        (.region [1] [
            ⟨some 10, .call (.c (.fn 21 [] [])) [(.c (.p (.str [65])))], none⟩,
            ⟨some 11, .call (.c (.fn 22 [] [])) [(.c (.p (.str [112])))], none⟩,
            ⟨some 12, .bslice 24 5 2 (.agg [.int .i64 0, .str [], .int .i64 0, .nils, .int .i64 0]) [(0, (.t 10)), (1, (.t 11))], none⟩,
            ⟨some 13, .build [.int .i64 0, .str [], .int .i64 0, .nils, .int .i64 0] [(0, 1, (.c (.p (.int .i64 45)))), (1, 1, (.c (.p (.str [120])))), (3, 1, (.t 12))], none⟩,
            ⟨some 1, .alloc [.int .i64 0, .str [], .int .i64 0, .nils, .int .i64 0], none⟩,
            ⟨none, .store 5 (.t 1) (.t 13), none⟩])
        (.seq
          (.region [1, 2] [
              ⟨some 14, .build [.int .i64 0, .str [], .int .i64 0, .nils, .int .i64 0] [(0, 1, (.c (.p (.int .i64 30))))], none⟩,
              ⟨some 15, .build [.int .i64 0, .str [], .int .i64 0, .nils, .int .i64 0] [(0, 1, (.c (.p (.int .i64 31))))], none⟩,
              ⟨some 16, .call (.c (.fn 23 [] [])) [(.c (.p (.int .i64 41))), (.t 14), (.t 15)], none⟩,
              ⟨some 17, .bslice 24 5 1 (.agg [.int .i64 0, .str [], .int .i64 0, .nils, .int .i64 0]) [(0, (.t 16))], none⟩,
              ⟨some 18, .build [.int .i64 0, .str [], .int .i64 0, .nils, .int .i64 0] [(0, 1, (.c (.p (.int .i64 40)))), (3, 1, (.t 17))], none⟩,
              ⟨some 2, .alloc [.int .i64 0, .str [], .int .i64 0, .nils, .int .i64 0], none⟩,
              ⟨none, .store 5 (.t 2) (.t 18), none⟩])
          (.seq
            (.region [1, 2, 3] [
                ⟨some 19, .call (.c (.fn 21 [] [])) [(.c (.p (.str [97])))], none⟩,
                ⟨some 20, .call (.c (.fn 21 [] [])) [(.c (.p (.str [98])))], none⟩,
                ⟨some 21, .call (.c (.fn 21 [] [])) [(.c (.p (.str [99])))], none⟩,
                ⟨some 22, .call (.c (.fn 23 [] [])) [(.c (.p (.int .i64 8))), (.t 20), (.t 21)], none⟩,
                ⟨some 23, .call (.c (.fn 23 [] [])) [(.c (.p (.int .i64 8))), (.t 19), (.t 22)], none⟩,
                ⟨some 3, .alloc [.int .i64 0, .str [], .int .i64 0, .nils, .int .i64 0], none⟩,
                ⟨none, .store 5 (.t 3) (.t 23), none⟩])
            (.seq
              (.region [1, 2, 3, 4] [
                  ⟨some 24, .call (.c (.fn 21 [] [])) [(.c (.p (.str [97])))], none⟩,
                  ⟨some 25, .call (.c (.fn 21 [] [])) [(.c (.p (.str [98])))], none⟩,
                  ⟨some 26, .bslice 24 5 1 (.agg [.int .i64 0, .str [], .int .i64 0, .nils, .int .i64 0]) [(0, (.t 25))], none⟩,
                  ⟨some 27, .build [.int .i64 0, .str [], .int .i64 0, .nils, .int .i64 0] [(0, 1, (.c (.p (.int .i64 11)))), (3, 1, (.t 26))], none⟩,
                  ⟨some 28, .call (.c (.fn 23 [] [])) [(.c (.p (.int .i64 9))), (.t 24), (.t 27)], none⟩,
                  ⟨some 29, .bslice 24 5 1 (.agg [.int .i64 0, .str [], .int .i64 0, .nils, .int .i64 0]) [(0, (.t 28))], none⟩,
                  ⟨some 30, .build [.int .i64 0, .str [], .int .i64 0, .nils, .int .i64 0] [(0, 1, (.c (.p (.int .i64 5)))), (3, 1, (.t 29))], none⟩,
                  ⟨some 4, .alloc [.int .i64 0, .str [], .int .i64 0, .nils, .int .i64 0], none⟩,
                  ⟨none, .store 5 (.t 4) (.t 30), none⟩])
              (.seq
                (.region [1, 2, 3, 4, 5] [
                    ⟨some 31, .build [.int .i64 0, .str [], .int .i64 0, .nils, .int .i64 0] [(0, 1, (.c (.p (.int .i64 20)))), (2, 1, (.c (.p (.int .i64 (-3)))))], none⟩,
                    ⟨some 32, .call (.c (.fn 21 [] [])) [(.c (.p (.str [97])))], none⟩,
                    ⟨some 33, .build [.int .i64 0, .str [], .int .i64 0, .nils, .int .i64 0] [(0, 1, (.c (.p (.int .i64 2)))), (2, 1, (.c (.p (.int .i64 2))))], none⟩,
                    ⟨some 34, .call (.c (.fn 23 [] [])) [(.c (.p (.int .i64 6))), (.t 32), (.t 33)], none⟩,
                    ⟨some 35, .bslice 24 5 1 (.agg [.int .i64 0, .str [], .int .i64 0, .nils, .int .i64 0]) [(0, (.t 34))], none⟩,
                    ⟨some 36, .build [.int .i64 0, .str [], .int .i64 0, .nils, .int .i64 0] [(0, 1, (.c (.p (.int .i64 21)))), (3, 1, (.t 35))], none⟩,
                    ⟨some 37, .call (.c (.fn 23 [] [])) [(.c (.p (.int .i64 39))), (.t 31), (.t 36)], none⟩,
                    ⟨some 5, .alloc [.int .i64 0, .str [], .int .i64 0, .nils, .int .i64 0], none⟩,
                    ⟨none, .store 5 (.t 5) (.t 37), none⟩])
                (.seq
                  (.draw [1, 2, 3, 4, 5, 6] [(8, 11), (8, 12), (11, 12), (8, 13), (8, 17), (11, 17), (12, 17), (13, 17)] [
                      ⟨some 38, .build [.str [], .bool false] [(0, 1, (.c (.p (.str [65])))), (1, 1, (.c (.p (.bool true))))], none⟩,
                      ⟨some 39, .build [.str [], .bool false] [(0, 1, (.c (.p (.str [66]))))], none⟩,
                      ⟨some 40, .bslice 45 2 2 (.agg [.str [], .bool false]) [(0, (.t 38)), (1, (.t 39))], none⟩,
                      ⟨some 41, .bslice 3 1 2 (.int .i64 0) [(0, (.c (.p (.int .i64 0)))), (1, (.c (.p (.int .i64 1))))], none⟩,
                      ⟨some 42, .build [.str [], .nils, .bool false] [(0, 1, (.c (.p (.str [102])))), (1, 1, (.t 41)), (2, 1, (.c (.p (.bool true))))], none⟩,
                      ⟨some 43, .bslice 48 3 1 (.agg [.str [], .nils, .bool false]) [(0, (.t 42))], none⟩,
                      ⟨some 44, .build [.str [], .int .i64 0] [(0, 1, (.c (.p (.str [120])))), (1, 1, (.c (.p (.int .i64 1))))], none⟩,
                      ⟨some 45, .bslice 50 2 1 (.agg [.str [], .int .i64 0]) [(0, (.t 44))], none⟩,
                      ⟨some 46, .load (some 5) (.t 5), none⟩,
                      ⟨some 47, .build [.str [], .nils, .int .i64 0, .str [], .int .i64 0, .nils, .int .i64 0] [(0, 1, (.c (.p (.str [112])))), (1, 1, (.t 45)), (2, 5, (.t 46))], none⟩,
                      ⟨some 48, .bslice 53 7 1 (.agg [.str [], .nils, .int .i64 0, .str [], .int .i64 0, .nils, .int .i64 0]) [(0, (.t 47))], none⟩,
                      ⟨some 49, .load (some 5) (.t 1), none⟩,
                      ⟨some 50, .call (.c (.fn 22 [] [])) [(.c (.p (.str [113])))], none⟩,
                      ⟨some 51, .call (.c (.fn 23 [] [])) [(.c (.p (.int .i64 41))), (.t 49), (.t 50)], none⟩,
                      ⟨some 52, .build [.str [], .int .i64 0, .str [], .int .i64 0, .nils, .int .i64 0] [(0, 1, (.c (.p (.str [113])))), (1, 5, (.t 51))], none⟩,
                      ⟨some 53, .bslice 55 6 1 (.agg [.str [], .int .i64 0, .str [], .int .i64 0, .nils, .int .i64 0]) [(0, (.t 52))], none⟩,
                      ⟨some 54, .build [.nils, .nils, .nils, .nils] [(0, 1, (.t 40)), (1, 1, (.t 43)), (2, 1, (.t 48)), (3, 1, (.t 53))], none⟩,
                      ⟨some 6, .alloc [.nils, .nils, .nils, .nils], none⟩,
                      ⟨none, .store 4 (.t 6) (.t 54), none⟩])
                  (.seq
                    (.draw [1, 2, 3, 4, 5, 6, 7] [(0, 1), (6, 7)] [
                        ⟨some 55, .load (some 5) (.t 1), none⟩,
                        ⟨some 56, .call (.c (.fn 22 [] [])) [(.c (.p (.str [113])))], none⟩,
                        ⟨some 57, .call (.c (.fn 23 [] [])) [(.c (.p (.int .i64 41))), (.t 55), (.t 56)], none⟩,
                        ⟨some 58, .call (.c (.fn 14 [] [])) [(.t 57)], none⟩,
                        ⟨some 59, .bin .eql (.t 58) (.c (.p (.str [40, 97, 108, 108, 32, 120, 58, 32, 65, 32, 124, 32, 112, 91, 93, 41, 32, 38, 38, 32, 113, 91, 93]))), none⟩,
                        ⟨some 60, .move (.t 59), none⟩,
                        ⟨some 61, .call (.c (.fn 22 [] [])) [(.c (.p (.str [113])))], some (60, true)⟩,
                        ⟨some 62, .load (some 5) (.t 1), some (60, true)⟩,
                        ⟨some 63, .call (.c (.fn 23 [] [])) [(.c (.p (.int .i64 41))), (.t 61), (.t 62)], some (60, true)⟩,
                        ⟨some 64, .call (.c (.fn 14 [] [])) [(.t 63)], some (60, true)⟩,
                        ⟨some 65, .bin .eql (.t 64) (.c (.p (.str [113, 91, 93, 32, 38, 38, 32, 97, 108, 108, 32, 120, 58, 32, 65, 32, 124, 32, 112, 91, 93]))), some (60, true)⟩,
                        ⟨some 66, .pick (.t 60) (.t 65) (.c (.p (.bool false))), none⟩,
                        ⟨some 7, .move (.t 66), none⟩])
                    (.seq
                      (.region [1, 2, 6, 7, 8] [
                          ⟨some 67, .load (some 5) (.t 2), none⟩,
                          ⟨some 68, .call (.c (.fn 14 [] [])) [(.t 67)], none⟩,
                          ⟨some 69, .bin .eql (.t 68) (.c (.p (.str [110, 111, 116, 32, 40, 116, 114, 117, 101, 32, 38, 38, 32, 102, 97, 108, 115, 101, 41]))), none⟩,
                          ⟨some 70, .move (.t 69), none⟩,
                          ⟨some 71, .load (some 5) (.t 3), some (70, true)⟩,
                          ⟨some 72, .call (.c (.fn 14 [] [])) [(.t 71)], some (70, true)⟩,
                          ⟨some 73, .bin .eql (.t 72) (.c (.p (.str [97, 32, 45, 32, 40, 98, 32, 45, 32, 99, 41]))), some (70, true)⟩,
                          ⟨some 74, .pick (.t 70) (.t 73) (.c (.p (.bool false))), none⟩,
                          ⟨some 75, .move (.t 74), none⟩,
                          ⟨some 76, .load (some 5) (.t 4), some (75, true)⟩,
                          ⟨some 77, .call (.c (.fn 14 [] [])) [(.t 76)], some (75, true)⟩,
                          ⟨some 78, .bin .eql (.t 77) (.c (.p (.str [40, 97, 46, 126, 98, 41, 39]))), some (75, true)⟩,
                          ⟨some 79, .pick (.t 75) (.t 78) (.c (.p (.bool false))), none⟩,
                          ⟨some 80, .move (.t 79), none⟩,
                          ⟨some 81, .load (some 5) (.t 5), some (80, true)⟩,
                          ⟨some 82, .call (.c (.fn 14 [] [])) [(.t 81)], some (80, true)⟩,
                          ⟨some 83, .bin .eql (.t 82) (.c (.p (.str [45, 51, 32, 60, 32, 35, 40, 97, 32, 43, 32, 110, 111, 110, 101, 91, 50, 93, 41]))), some (80, true)⟩,
                          ⟨some 84, .pick (.t 80) (.t 83) (.c (.p (.bool false))), none⟩,
                          ⟨some 8, .move (.t 84), none⟩])
                      (.seq
                        (.region [1, 2, 6, 7, 8, 9] [
                            ⟨some 85, .load (some 4) (.t 6), none⟩,
                            ⟨some 86, .call (.c (.fn 17 [] [])) [(.t 85)], none⟩,
                            ⟨some 87, .bin .eql (.t 86) (.c (.p (.str [115, 111, 114, 116, 32, 65, 32, 111, 114, 100, 101, 114, 101, 100, 59, 10, 115, 111, 114, 116, 32, 66, 59, 10, 118, 97, 114, 32, 102, 105, 101, 108, 100, 32, 102, 58, 32, 65, 32, 45, 62, 32, 66, 59, 10, 112, 114, 101, 100, 32, 112, 91, 120, 58, 32, 66, 93, 32, 123, 32, 45, 51, 32, 60, 32, 35, 40, 97, 32, 43, 32, 110, 111, 110, 101, 91, 50, 93, 41, 32, 125, 10, 102, 97, 99, 116, 32, 113, 32, 123, 32, 40, 97, 108, 108, 32, 120, 58, 32, 65, 32, 124, 32, 112, 91, 93, 41, 32, 38, 38, 32, 113, 91, 93, 32, 125, 10]))), none⟩,
                            ⟨some 9, .move (.t 87), none⟩])
                        (.seq
                          (.draw [0] [(8, 9), (8, 10), (16, 17), (22, 23)] [
                              ⟨some 88, .move (.t 7), none⟩,
                              ⟨some 89, .move (.t 88), none⟩,
                              ⟨some 90, .move (.t 8), some (89, true)⟩,
                              ⟨some 91, .pick (.t 89) (.t 90) (.c (.p (.bool false))), none⟩,
                              ⟨some 92, .move (.t 91), none⟩,
                              ⟨some 93, .move (.t 9), some (92, true)⟩,
                              ⟨some 94, .pick (.t 92) (.t 93) (.c (.p (.bool false))), none⟩,
                              ⟨some 95, .move (.t 94), none⟩,
                              ⟨some 96, .load (some 5) (.t 1), some (95, true)⟩,
                              ⟨some 97, .call (.c (.fn 21 [] [])) [(.c (.p (.str [65])))], some (95, true)⟩,
                              ⟨some 98, .call (.c (.fn 22 [] [])) [(.c (.p (.str [112])))], some (95, true)⟩,
                              ⟨some 99, .bslice 24 5 2 (.agg [.int .i64 0, .str [], .int .i64 0, .nils, .int .i64 0]) [(0, (.t 97)), (1, (.t 98))], some (95, true)⟩,
                              ⟨some 100, .build [.int .i64 0, .str [], .int .i64 0, .nils, .int .i64 0] [(0, 1, (.c (.p (.int .i64 45)))), (1, 1, (.c (.p (.str [120])))), (4, 1, (.c (.p (.int .i64 7)))), (3, 1, (.t 99))], some (95, true)⟩,
                              ⟨some 101, .call (.c (.fn 9 [] [])) [(.t 96), (.t 100)], some (95, true)⟩,
                              ⟨some 102, .pick (.t 95) (.t 101) (.c (.p (.bool false))), none⟩,
                              ⟨some 103, .move (.t 102), none⟩,
                              ⟨some 104, .load (some 5) (.t 1), some (103, true)⟩,
                              ⟨some 105, .load (some 5) (.t 2), some (103, true)⟩,
                              ⟨some 106, .call (.c (.fn 9 [] [])) [(.t 104), (.t 105)], some (103, true)⟩,
                              ⟨some 107, .un .not (.t 106), some (103, true)⟩,
                              ⟨some 108, .pick (.t 103) (.t 107) (.c (.p (.bool false))), none⟩,
                              ⟨some 109, .move (.t 108), none⟩,
                              ⟨some 110, .load (some 4) (.t 6), some (109, true)⟩,
                              ⟨some 111, .load (some 4) (.t 6), some (109, true)⟩,
                              ⟨some 112, .call (.c (.fn 11 [] [])) [(.t 110), (.t 111)], some (109, true)⟩,
                              ⟨some 113, .pick (.t 109) (.t 112) (.c (.p (.bool false))), none⟩,
                              ⟨some 114, .move (.t 113), none⟩,
                              ⟨some 115, .load (some 4) (.t 6), some (114, true)⟩,
                              ⟨some 116, .build [.nils, .nils, .nils, .nils] [], some (114, true)⟩,
                              ⟨some 117, .call (.c (.fn 11 [] [])) [(.t 115), (.t 116)], some (114, true)⟩,
                              ⟨some 118, .un .not (.t 117), some (114, true)⟩,
                              ⟨some 119, .pick (.t 114) (.t 118) (.c (.p (.bool false))), none⟩,
                              ⟨some 0, .move (.t 119), none⟩])
                          .ret)))))))))))

theorem ok6 : FOk Tryd.prog 6 fc6 := FOk.of Tryd.func6 (by kernel_rfl)

/-- armature/armatureref03.Small -/
def fc7 : FC where
  nt := 6
  np := 1
  res := [.t 2]
  body :=
    (.seq
      (.region [1] [
          ⟨some 1, .box (.t 0), none⟩,
          ⟨some 2, .move (.c (.p (.bool false))), none⟩])
      (.seq
        (.region [2] [
            ⟨some 3, .load (some 5) (.t 1), none⟩,
            ⟨some 4, .call (.c (.fn 24 [] [])) [(.t 3), (.c (.p (.int .i64 400)))], none⟩,
            ⟨some 5, .bin .leq (.t 4) (.c (.p (.int .i64 400))), none⟩,
            ⟨some 2, .move (.t 5), none⟩])
        .ret))

theorem ok7 : FOk Tryd.prog 7 fc7 := FOk.of Tryd.func7 (by kernel_rfl)

/-- armature/armaturelaw03.modest -/
def fc8_b0 : SC :=
    (.seq
      (.seq
        (.region [1, 3, 34] [
            ⟨some 30, .move (.t 3), none⟩,
            ⟨some 31, .faddr (.t 1) 1, none⟩,
            ⟨some 32, .load none (.t 31), none⟩,
            ⟨some 33, .len 1 (.t 32), none⟩,
            ⟨some 34, .bin .lss (.t 30) (.t 33), none⟩])
        (.cond (.t 34)
          .skip
          (.exit 0)))
      (.seq
        (.block 1
          (.seq
            (.region [1, 3, 44] [
                ⟨some 37, .faddr (.t 1) 1, none⟩,
                ⟨some 38, .load none (.t 37), none⟩,
                ⟨some 39, .move (.t 3), none⟩,
                ⟨some 40, .iaddr none 3 (.t 38) (.t 39), none⟩,
                ⟨some 41, .faddr (.t 40) 1, none⟩,
                ⟨some 42, .load none (.t 41), none⟩,
                ⟨some 43, .len 1 (.t 42), none⟩,
                ⟨some 44, .bin .gtr (.t 43) (.c (.p (.int .i64 20))), none⟩])
            (.cond (.t 44)
              (.seq
                (.region [2] [
                    ⟨some 2, .move (.c (.p (.bool false))), none⟩])
                .ret)
              .skip)))
        (.region [1, 3] [
            ⟨some 35, .move (.t 3), none⟩,
            ⟨some 36, .bin .add (.t 35) (.c (.p (.int .i64 1))), none⟩,
            ⟨some 3, .move (.t 36), none⟩])))

def fc8_b1 : SC :=
    (.loc
      (.seq
        (.seq
          (.region [1, 4, 49] [
              ⟨some 45, .move (.t 4), none⟩,
              ⟨some 46, .faddr (.t 1) 2, none⟩,
              ⟨some 47, .load none (.t 46), none⟩,
              ⟨some 48, .len 1 (.t 47), none⟩,
              ⟨some 49, .bin .lss (.t 45) (.t 48), none⟩])
          (.cond (.t 49)
            .skip
            (.exit 2)))
        (.seq
          (.block 3
            (.seq
              (.region [1, 4, 5] [
                  ⟨some 52, .faddr (.t 1) 2, none⟩,
                  ⟨some 53, .load none (.t 52), none⟩,
                  ⟨some 54, .move (.t 4), none⟩,
                  ⟨some 55, .iaddr none 7 (.t 53) (.t 54), none⟩,
                  ⟨some 56, .faddr (.t 55) 2, none⟩,
                  ⟨some 57, .load (some 5) (.t 56), none⟩,
                  ⟨some 58, .call (.c (.fn 7 [] [])) [(.t 57)], none⟩,
                  ⟨some 5, .move (.t 58), none⟩])
              (.seq
                (.region [1, 4, 70] [
                    ⟨some 59, .move (.t 5), none⟩,
                    ⟨some 60, .un .not (.t 59), none⟩,
                    ⟨some 61, .move (.t 60), none⟩,
                    ⟨some 62, .faddr (.t 1) 2, some (61, false)⟩,
                    ⟨some 63, .load none (.t 62), some (61, false)⟩,
                    ⟨some 64, .move (.t 4), some (61, false)⟩,
                    ⟨some 65, .iaddr none 7 (.t 63) (.t 64), some (61, false)⟩,
                    ⟨some 66, .faddr (.t 65) 1, some (61, false)⟩,
                    ⟨some 67, .load none (.t 66), some (61, false)⟩,
                    ⟨some 68, .len 1 (.t 67), some (61, false)⟩,
                    ⟨some 69, .bin .gtr (.t 68) (.c (.p (.int .i64 20))), some (61, false)⟩,
                    ⟨some 70, .pick (.t 61) (.c (.p (.bool true))) (.t 69), none⟩])
                (.cond (.t 70)
                  (.seq
                    (.region [2] [
                        ⟨some 2, .move (.c (.p (.bool false))), none⟩])
                    .ret)
                  .skip))))
          (.region [1, 4] [
              ⟨some 50, .move (.t 4), none⟩,
              ⟨some 51, .bin .add (.t 50) (.c (.p (.int .i64 1))), none⟩,
              ⟨some 4, .move (.t 51), none⟩]))))

def fc8_b2 : SC :=
    (.loc
      (.seq
        (.seq
          (.region [1, 6, 75] [
              ⟨some 71, .move (.t 6), none⟩,
              ⟨some 72, .faddr (.t 1) 3, none⟩,
              ⟨some 73, .load none (.t 72), none⟩,
              ⟨some 74, .len 1 (.t 73), none⟩,
              ⟨some 75, .bin .lss (.t 71) (.t 74), none⟩])
          (.cond (.t 75)
            .skip
            (.exit 4)))
        (.seq
          (.block 5
            (.seq
              (.region [1, 6, 7] [
                  ⟨some 78, .faddr (.t 1) 3, none⟩,
                  ⟨some 79, .load none (.t 78), none⟩,
                  ⟨some 80, .move (.t 6), none⟩,
                  ⟨some 81, .iaddr none 6 (.t 79) (.t 80), none⟩,
                  ⟨some 82, .faddr (.t 81) 1, none⟩,
                  ⟨some 83, .load (some 5) (.t 82), none⟩,
                  ⟨some 84, .call (.c (.fn 7 [] [])) [(.t 83)], none⟩,
                  ⟨some 7, .move (.t 84), none⟩])
              (.seq
                (.region [1, 6, 86] [
                    ⟨some 85, .move (.t 7), none⟩,
                    ⟨some 86, .un .not (.t 85), none⟩])
                (.cond (.t 86)
                  (.seq
                    (.region [2] [
                        ⟨some 2, .move (.c (.p (.bool false))), none⟩])
                    .ret)
                  .skip))))
          (.region [1, 6] [
              ⟨some 76, .move (.t 6), none⟩,
              ⟨some 77, .bin .add (.t 76) (.c (.p (.int .i64 1))), none⟩,
              ⟨some 6, .move (.t 77), none⟩]))))

def fc8 : FC where
  nt := 87
  np := 1
  res := [.t 2]
  body :=
    (.seq
      (.region [1] [
          ⟨some 1, .box (.t 0), none⟩,
          ⟨some 2, .move (.c (.p (.bool false))), none⟩])
      (.seq
        (.seq
          (.region [1, 29] [
              ⟨some 8, .faddr (.t 1) 0, none⟩,
              ⟨some 9, .load none (.t 8), none⟩,
              ⟨some 10, .len 1 (.t 9), none⟩,
              ⟨some 11, .bin .gtr (.t 10) (.c (.p (.int .i64 20))), none⟩,
              ⟨some 12, .move (.t 11), none⟩,
              ⟨some 13, .faddr (.t 1) 1, some (12, false)⟩,
              ⟨some 14, .load none (.t 13), some (12, false)⟩,
              ⟨some 15, .len 1 (.t 14), some (12, false)⟩,
              ⟨some 16, .bin .gtr (.t 15) (.c (.p (.int .i64 20))), some (12, false)⟩,
              ⟨some 17, .pick (.t 12) (.c (.p (.bool true))) (.t 16), none⟩,
              ⟨some 18, .move (.t 17), none⟩,
              ⟨some 19, .faddr (.t 1) 2, some (18, false)⟩,
              ⟨some 20, .load none (.t 19), some (18, false)⟩,
              ⟨some 21, .len 1 (.t 20), some (18, false)⟩,
              ⟨some 22, .bin .gtr (.t 21) (.c (.p (.int .i64 20))), some (18, false)⟩,
              ⟨some 23, .pick (.t 18) (.c (.p (.bool true))) (.t 22), none⟩,
              ⟨some 24, .move (.t 23), none⟩,
              ⟨some 25, .faddr (.t 1) 3, some (24, false)⟩,
              ⟨some 26, .load none (.t 25), some (24, false)⟩,
              ⟨some 27, .len 1 (.t 26), some (24, false)⟩,
              ⟨some 28, .bin .gtr (.t 27) (.c (.p (.int .i64 20))), some (24, false)⟩,
              ⟨some 29, .pick (.t 24) (.c (.p (.bool true))) (.t 28), none⟩])
          (.cond (.t 29)
            (.seq
              (.region [2] [
                  ⟨some 2, .move (.c (.p (.bool false))), none⟩])
              .ret)
            .skip))
        (.seq
          (.seq
            (.region [1, 3] [
                ⟨some 3, .move (.c (.p (.int .i64 0))), none⟩])
            (.block 0
              (.loop [1, 3]
                fc8_b0)))
          (.seq
            (.seq
              (.region [1, 4] [
                  ⟨some 4, .move (.c (.p (.int .i64 0))), none⟩])
              (.block 2
                (.loop [1, 4]
                  fc8_b1)))
            (.seq
              (.seq
                (.region [1, 6] [
                    ⟨some 6, .move (.c (.p (.int .i64 0))), none⟩])
                (.block 4
                  (.loop [1, 6]
                    fc8_b2)))
              (.seq
                (.region [2] [
                    ⟨some 2, .move (.c (.p (.bool true))), none⟩])
                .ret))))))

theorem ok8 : FOk Tryd.prog 8 fc8 := FOk.of Tryd.func8 (by kernel_rfl)

/-- armature/printer.EqualNodes -/
def fc9 : FC where
  nt := 31
  np := 2
  res := [.t 4]
  body :=
    (.seq
      (.region [2, 3] [
          ⟨some 2, .box (.t 0), none⟩,
          ⟨some 3, .box (.t 1), none⟩,
          ⟨some 4, .move (.c (.p (.bool false))), none⟩])
      (.seq
        (.region [4] [
            ⟨some 5, .faddr (.t 2) 0, none⟩,
            ⟨some 6, .load none (.t 5), none⟩,
            ⟨some 7, .faddr (.t 3) 0, none⟩,
            ⟨some 8, .load none (.t 7), none⟩,
            ⟨some 9, .bin .eql (.t 6) (.t 8), none⟩,
            ⟨some 10, .move (.t 9), none⟩,
            ⟨some 11, .faddr (.t 2) 1, some (10, true)⟩,
            ⟨some 12, .load none (.t 11), some (10, true)⟩,
            ⟨some 13, .faddr (.t 3) 1, some (10, true)⟩,
            ⟨some 14, .load none (.t 13), some (10, true)⟩,
            ⟨some 15, .bin .eql (.t 12) (.t 14), some (10, true)⟩,
            ⟨some 16, .pick (.t 10) (.t 15) (.c (.p (.bool false))), none⟩,
            ⟨some 17, .move (.t 16), none⟩,
            ⟨some 18, .faddr (.t 2) 2, some (17, true)⟩,
            ⟨some 19, .load none (.t 18), some (17, true)⟩,
            ⟨some 20, .faddr (.t 3) 2, some (17, true)⟩,
            ⟨some 21, .load none (.t 20), some (17, true)⟩,
            ⟨some 22, .bin .eql (.t 19) (.t 21), some (17, true)⟩,
            ⟨some 23, .pick (.t 17) (.t 22) (.c (.p (.bool false))), none⟩,
            ⟨some 24, .move (.t 23), none⟩,
            ⟨some 25, .faddr (.t 2) 3, some (24, true)⟩,
            ⟨some 26, .load none (.t 25), some (24, true)⟩,
            ⟨some 27, .faddr (.t 3) 3, some (24, true)⟩,
            ⟨some 28, .load none (.t 27), some (24, true)⟩,
            ⟨some 29, .call (.c (.fn 25 [] [])) [(.t 26), (.t 28), (.c (.fn 9 [] []))], some (24, true)⟩,
            ⟨some 30, .pick (.t 24) (.t 29) (.c (.p (.bool false))), none⟩,
            ⟨some 4, .move (.t 30), none⟩])
        .ret))

theorem ok9 : FOk Tryd.prog 9 fc9 := FOk.of Tryd.func9 (by kernel_rfl)

/-- armature/armatureref03.EqualNodes -/
def fc10_b0 : SC :=
    (.loc
      (.seq
        (.seq
          (.region [2, 3, 5, 39] [
              ⟨some 35, .move (.t 5), none⟩,
              ⟨some 36, .faddr (.t 2) 3, none⟩,
              ⟨some 37, .load none (.t 36), none⟩,
              ⟨some 38, .len 1 (.t 37), none⟩,
              ⟨some 39, .bin .lss (.t 35) (.t 38), none⟩])
          (.cond (.t 39)
            .skip
            (.exit 0)))
        (.seq
          (.block 1
            (.seq
              (.draw [2, 3, 5, 6] [(1, 6), (4, 6), (1, 9), (4, 9)] [
                  ⟨some 42, .faddr (.t 2) 3, none⟩,
                  ⟨some 43, .load none (.t 42), none⟩,
                  ⟨some 44, .move (.t 5), none⟩,
                  ⟨some 45, .iaddr none 5 (.t 43) (.t 44), none⟩,
                  ⟨some 46, .load (some 5) (.t 45), none⟩,
                  ⟨some 47, .faddr (.t 3) 3, none⟩,
                  ⟨some 48, .load none (.t 47), none⟩,
                  ⟨some 49, .move (.t 5), none⟩,
                  ⟨some 50, .iaddr none 5 (.t 48) (.t 49), none⟩,
                  ⟨some 51, .load (some 5) (.t 50), none⟩,
                  ⟨some 52, .call (.c (.fn 10 [] [])) [(.t 46), (.t 51)], none⟩,
                  ⟨some 6, .move (.t 52), none⟩])
              (.seq
                (.region [2, 3, 5, 54] [
                    ⟨some 53, .move (.t 6), none⟩,
                    ⟨some 54, .un .not (.t 53), none⟩])
                (.cond (.t 54)
                  (.seq
                    (.region [4] [
                        ⟨some 4, .move (.c (.p (.bool false))), none⟩])
                    .ret)
                  .skip))))
          (.region [2, 3, 5] [
              ⟨some 40, .move (.t 5), none⟩,
              ⟨some 41, .bin .add (.t 40) (.c (.p (.int .i64 1))), none⟩,
              ⟨some 5, .move (.t 41), none⟩]))))

def fc10 : FC where
  nt := 55
  np := 2
  res := [.t 4]
  body :=
    (.seq
      (.region [2, 3] [
          ⟨some 2, .box (.t 0), none⟩,
          ⟨some 3, .box (.t 1), none⟩,
          ⟨some 4, .move (.c (.p (.bool false))), none⟩])
      (.seq
        (.seq
          (.region [2, 3, 34] [
              ⟨some 7, .faddr (.t 2) 0, none⟩,
              ⟨some 8, .load none (.t 7), none⟩,
              ⟨some 9, .faddr (.t 3) 0, none⟩,
              ⟨some 10, .load none (.t 9), none⟩,
              ⟨some 11, .bin .neq (.t 8) (.t 10), none⟩,
              ⟨some 12, .move (.t 11), none⟩,
              ⟨some 13, .faddr (.t 2) 1, some (12, false)⟩,
              ⟨some 14, .load none (.t 13), some (12, false)⟩,
              ⟨some 15, .faddr (.t 3) 1, some (12, false)⟩,
              ⟨some 16, .load none (.t 15), some (12, false)⟩,
              ⟨some 17, .bin .neq (.t 14) (.t 16), some (12, false)⟩,
              ⟨some 18, .pick (.t 12) (.c (.p (.bool true))) (.t 17), none⟩,
              ⟨some 19, .move (.t 18), none⟩,
              ⟨some 20, .faddr (.t 2) 2, some (19, false)⟩,
              ⟨some 21, .load none (.t 20), some (19, false)⟩,
              ⟨some 22, .faddr (.t 3) 2, some (19, false)⟩,
              ⟨some 23, .load none (.t 22), some (19, false)⟩,
              ⟨some 24, .bin .neq (.t 21) (.t 23), some (19, false)⟩,
              ⟨some 25, .pick (.t 19) (.c (.p (.bool true))) (.t 24), none⟩,
              ⟨some 26, .move (.t 25), none⟩,
              ⟨some 27, .faddr (.t 2) 3, some (26, false)⟩,
              ⟨some 28, .load none (.t 27), some (26, false)⟩,
              ⟨some 29, .len 1 (.t 28), some (26, false)⟩,
              ⟨some 30, .faddr (.t 3) 3, some (26, false)⟩,
              ⟨some 31, .load none (.t 30), some (26, false)⟩,
              ⟨some 32, .len 1 (.t 31), some (26, false)⟩,
              ⟨some 33, .bin .neq (.t 29) (.t 32), some (26, false)⟩,
              ⟨some 34, .pick (.t 26) (.c (.p (.bool true))) (.t 33), none⟩])
          (.cond (.t 34)
            (.seq
              (.region [4] [
                  ⟨some 4, .move (.c (.p (.bool false))), none⟩])
              .ret)
            .skip))
        (.seq
          (.seq
            (.region [2, 3, 5] [
                ⟨some 5, .move (.c (.p (.int .i64 0))), none⟩])
            (.block 0
              (.loop [2, 3, 5]
                fc10_b0)))
          (.seq
            (.region [4] [
                ⟨some 4, .move (.c (.p (.bool true))), none⟩])
            .ret))))

theorem ok10 : FOk Tryd.prog 10 fc10 := FOk.of Tryd.func10 (by kernel_rfl)

/-- armature/printer.EqualSpecs -/
def fc11 : FC where
  nt := 37
  np := 2
  res := [.t 4]
  body :=
    (.seq
      (.region [2, 3] [
          ⟨some 2, .box (.t 0), none⟩,
          ⟨some 3, .box (.t 1), none⟩,
          ⟨some 4, .move (.c (.p (.bool false))), none⟩])
      (.seq
        (.region [2, 3, 5] [
            ⟨some 5, .move (.c (.fn 26 [] [])), none⟩])
        (.seq
          (.region [2, 3, 5, 6] [
              ⟨some 6, .move (.c (.fn 28 [] [])), none⟩])
          (.seq
            (.region [2, 3, 5, 6, 7] [
                ⟨some 7, .move (.c (.fn 30 [] [])), none⟩])
            (.seq
              (.region [4] [
                  ⟨some 8, .faddr (.t 2) 0, none⟩,
                  ⟨some 9, .load none (.t 8), none⟩,
                  ⟨some 10, .faddr (.t 3) 0, none⟩,
                  ⟨some 11, .load none (.t 10), none⟩,
                  ⟨some 12, .call (.c (.fn 31 [] [])) [(.t 9), (.t 11)], none⟩,
                  ⟨some 13, .move (.t 12), none⟩,
                  ⟨some 14, .faddr (.t 2) 1, some (13, true)⟩,
                  ⟨some 15, .load none (.t 14), some (13, true)⟩,
                  ⟨some 16, .faddr (.t 3) 1, some (13, true)⟩,
                  ⟨some 17, .load none (.t 16), some (13, true)⟩,
                  ⟨some 18, .move (.t 5), some (13, true)⟩,
                  ⟨some 19, .call (.c (.fn 32 [] [])) [(.t 15), (.t 17), (.t 18)], some (13, true)⟩,
                  ⟨some 20, .pick (.t 13) (.t 19) (.c (.p (.bool false))), none⟩,
                  ⟨some 21, .move (.t 20), none⟩,
                  ⟨some 22, .faddr (.t 2) 2, some (21, true)⟩,
                  ⟨some 23, .load none (.t 22), some (21, true)⟩,
                  ⟨some 24, .faddr (.t 3) 2, some (21, true)⟩,
                  ⟨some 25, .load none (.t 24), some (21, true)⟩,
                  ⟨some 26, .move (.t 6), some (21, true)⟩,
                  ⟨some 27, .call (.c (.fn 33 [] [])) [(.t 23), (.t 25), (.t 26)], some (21, true)⟩,
                  ⟨some 28, .pick (.t 21) (.t 27) (.c (.p (.bool false))), none⟩,
                  ⟨some 29, .move (.t 28), none⟩,
                  ⟨some 30, .faddr (.t 2) 3, some (29, true)⟩,
                  ⟨some 31, .load none (.t 30), some (29, true)⟩,
                  ⟨some 32, .faddr (.t 3) 3, some (29, true)⟩,
                  ⟨some 33, .load none (.t 32), some (29, true)⟩,
                  ⟨some 34, .move (.t 7), some (29, true)⟩,
                  ⟨some 35, .call (.c (.fn 34 [] [])) [(.t 31), (.t 33), (.t 34)], some (29, true)⟩,
                  ⟨some 36, .pick (.t 29) (.t 35) (.c (.p (.bool false))), none⟩,
                  ⟨some 4, .move (.t 36), none⟩])
              .ret)))))

theorem ok11 : FOk Tryd.prog 11 fc11 := FOk.of Tryd.func11 (by kernel_rfl)

/-- armature/armatureref03.EqualSpecs -/
def fc12_b0 : SC :=
    (.seq
      (.seq
        (.region [2, 3, 5, 51] [
            ⟨some 47, .move (.t 5), none⟩,
            ⟨some 48, .faddr (.t 2) 0, none⟩,
            ⟨some 49, .load none (.t 48), none⟩,
            ⟨some 50, .len 1 (.t 49), none⟩,
            ⟨some 51, .bin .lss (.t 47) (.t 50), none⟩])
        (.cond (.t 51)
          .skip
          (.exit 0)))
      (.seq
        (.block 1
          (.seq
            (.draw [2, 3, 5, 64] [(1, 6), (4, 6), (1, 9), (4, 9)] [
                ⟨some 54, .faddr (.t 2) 0, none⟩,
                ⟨some 55, .load none (.t 54), none⟩,
                ⟨some 56, .move (.t 5), none⟩,
                ⟨some 57, .iaddr none 2 (.t 55) (.t 56), none⟩,
                ⟨some 58, .load (some 2) (.t 57), none⟩,
                ⟨some 59, .faddr (.t 3) 0, none⟩,
                ⟨some 60, .load none (.t 59), none⟩,
                ⟨some 61, .move (.t 5), none⟩,
                ⟨some 62, .iaddr none 2 (.t 60) (.t 61), none⟩,
                ⟨some 63, .load (some 2) (.t 62), none⟩,
                ⟨some 64, .eqs true [2, 0] (.t 58) (.t 63), none⟩])
            (.cond (.t 64)
              (.seq
                (.region [4] [
                    ⟨some 4, .move (.c (.p (.bool false))), none⟩])
                .ret)
              .skip)))
        (.region [2, 3, 5] [
            ⟨some 52, .move (.t 5), none⟩,
            ⟨some 53, .bin .add (.t 52) (.c (.p (.int .i64 1))), none⟩,
            ⟨some 5, .move (.t 53), none⟩])))

def fc12_b1 : SC :=
    (.loc
      (.seq
        (.seq
          (.region [2, 3, 6, 69] [
              ⟨some 65, .move (.t 6), none⟩,
              ⟨some 66, .faddr (.t 2) 1, none⟩,
              ⟨some 67, .load none (.t 66), none⟩,
              ⟨some 68, .len 1 (.t 67), none⟩,
              ⟨some 69, .bin .lss (.t 65) (.t 68), none⟩])
          (.cond (.t 69)
            .skip
            (.exit 2)))
        (.seq
          (.block 3
            (.seq
              (.draw [2, 3, 6, 7] [(1, 7), (5, 7), (1, 11), (5, 11)] [
                  ⟨some 72, .faddr (.t 2) 1, none⟩,
                  ⟨some 73, .load none (.t 72), none⟩,
                  ⟨some 74, .move (.t 6), none⟩,
                  ⟨some 75, .iaddr none 3 (.t 73) (.t 74), none⟩,
                  ⟨some 76, .faddr (.t 75) 1, none⟩,
                  ⟨some 77, .load none (.t 76), none⟩,
                  ⟨some 78, .faddr (.t 3) 1, none⟩,
                  ⟨some 79, .load none (.t 78), none⟩,
                  ⟨some 80, .move (.t 6), none⟩,
                  ⟨some 81, .iaddr none 3 (.t 79) (.t 80), none⟩,
                  ⟨some 82, .faddr (.t 81) 1, none⟩,
                  ⟨some 83, .load none (.t 82), none⟩,
                  ⟨some 84, .call (.c (.fn 35 [] [])) [(.t 77), (.t 83)], none⟩,
                  ⟨some 7, .move (.t 84), none⟩])
              (.seq
                (.draw [2, 3, 6, 116] [(4, 10), (8, 10), (4, 14), (8, 14), (19, 25), (23, 25), (19, 29), (23, 29)] [
                    ⟨some 85, .move (.t 7), none⟩,
                    ⟨some 86, .un .not (.t 85), none⟩,
                    ⟨some 87, .move (.t 86), none⟩,
                    ⟨some 88, .faddr (.t 2) 1, some (87, false)⟩,
                    ⟨some 89, .load none (.t 88), some (87, false)⟩,
                    ⟨some 90, .move (.t 6), some (87, false)⟩,
                    ⟨some 91, .iaddr none 3 (.t 89) (.t 90), some (87, false)⟩,
                    ⟨some 92, .faddr (.t 91) 0, some (87, false)⟩,
                    ⟨some 93, .load none (.t 92), some (87, false)⟩,
                    ⟨some 94, .faddr (.t 3) 1, some (87, false)⟩,
                    ⟨some 95, .load none (.t 94), some (87, false)⟩,
                    ⟨some 96, .move (.t 6), some (87, false)⟩,
                    ⟨some 97, .iaddr none 3 (.t 95) (.t 96), some (87, false)⟩,
                    ⟨some 98, .faddr (.t 97) 0, some (87, false)⟩,
                    ⟨some 99, .load none (.t 98), some (87, false)⟩,
                    ⟨some 100, .bin .neq (.t 93) (.t 99), some (87, false)⟩,
                    ⟨some 101, .pick (.t 87) (.c (.p (.bool true))) (.t 100), none⟩,
                    ⟨some 102, .move (.t 101), none⟩,
                    ⟨some 103, .faddr (.t 2) 1, some (102, false)⟩,
                    ⟨some 104, .load none (.t 103), some (102, false)⟩,
                    ⟨some 105, .move (.t 6), some (102, false)⟩,
                    ⟨some 106, .iaddr none 3 (.t 104) (.t 105), some (102, false)⟩,
                    ⟨some 107, .faddr (.t 106) 2, some (102, false)⟩,
                    ⟨some 108, .load none (.t 107), some (102, false)⟩,
                    ⟨some 109, .faddr (.t 3) 1, some (102, false)⟩,
                    ⟨some 110, .load none (.t 109), some (102, false)⟩,
                    ⟨some 111, .move (.t 6), some (102, false)⟩,
                    ⟨some 112, .iaddr none 3 (.t 110) (.t 111), some (102, false)⟩,
                    ⟨some 113, .faddr (.t 112) 2, some (102, false)⟩,
                    ⟨some 114, .load none (.t 113), some (102, false)⟩,
                    ⟨some 115, .eqk 0 true (.t 108) (.t 114), some (102, false)⟩,
                    ⟨some 116, .pick (.t 102) (.c (.p (.bool true))) (.t 115), none⟩])
                (.cond (.t 116)
                  (.seq
                    (.region [4] [
                        ⟨some 4, .move (.c (.p (.bool false))), none⟩])
                    .ret)
                  .skip))))
          (.region [2, 3, 6] [
              ⟨some 70, .move (.t 6), none⟩,
              ⟨some 71, .bin .add (.t 70) (.c (.p (.int .i64 1))), none⟩,
              ⟨some 6, .move (.t 71), none⟩]))))

def fc12_b2 : SC :=
    (.loc
      (.seq
        (.seq
          (.region [2, 3, 8, 121] [
              ⟨some 117, .move (.t 8), none⟩,
              ⟨some 118, .faddr (.t 2) 2, none⟩,
              ⟨some 119, .load none (.t 118), none⟩,
              ⟨some 120, .len 1 (.t 119), none⟩,
              ⟨some 121, .bin .lss (.t 117) (.t 120), none⟩])
          (.cond (.t 121)
            .skip
            (.exit 4)))
        (.seq
          (.block 5
            (.seq
              (.draw [2, 3, 8, 9] [(1, 7), (5, 7), (1, 11), (5, 11)] [
                  ⟨some 124, .faddr (.t 2) 2, none⟩,
                  ⟨some 125, .load none (.t 124), none⟩,
                  ⟨some 126, .move (.t 8), none⟩,
                  ⟨some 127, .iaddr none 7 (.t 125) (.t 126), none⟩,
                  ⟨some 128, .faddr (.t 127) 1, none⟩,
                  ⟨some 129, .load none (.t 128), none⟩,
                  ⟨some 130, .faddr (.t 3) 2, none⟩,
                  ⟨some 131, .load none (.t 130), none⟩,
                  ⟨some 132, .move (.t 8), none⟩,
                  ⟨some 133, .iaddr none 7 (.t 131) (.t 132), none⟩,
                  ⟨some 134, .faddr (.t 133) 1, none⟩,
                  ⟨some 135, .load none (.t 134), none⟩,
                  ⟨some 136, .call (.c (.fn 36 [] [])) [(.t 129), (.t 135)], none⟩,
                  ⟨some 9, .move (.t 136), none⟩])
              (.seq
                (.draw [2, 3, 8, 9, 10] [(1, 7), (5, 7), (1, 11), (5, 11)] [
                    ⟨some 137, .faddr (.t 2) 2, none⟩,
                    ⟨some 138, .load none (.t 137), none⟩,
                    ⟨some 139, .move (.t 8), none⟩,
                    ⟨some 140, .iaddr none 7 (.t 138) (.t 139), none⟩,
                    ⟨some 141, .faddr (.t 140) 2, none⟩,
                    ⟨some 142, .load (some 5) (.t 141), none⟩,
                    ⟨some 143, .faddr (.t 3) 2, none⟩,
                    ⟨some 144, .load none (.t 143), none⟩,
                    ⟨some 145, .move (.t 8), none⟩,
                    ⟨some 146, .iaddr none 7 (.t 144) (.t 145), none⟩,
                    ⟨some 147, .faddr (.t 146) 2, none⟩,
                    ⟨some 148, .load (some 5) (.t 147), none⟩,
                    ⟨some 149, .call (.c (.fn 10 [] [])) [(.t 142), (.t 148)], none⟩,
                    ⟨some 10, .move (.t 149), none⟩])
                (.seq
                  (.draw [2, 3, 8, 170] [(8, 14), (12, 14), (8, 18), (12, 18)] [
                      ⟨some 150, .move (.t 9), none⟩,
                      ⟨some 151, .un .not (.t 150), none⟩,
                      ⟨some 152, .move (.t 151), none⟩,
                      ⟨some 153, .move (.t 10), some (152, false)⟩,
                      ⟨some 154, .un .not (.t 153), some (152, false)⟩,
                      ⟨some 155, .pick (.t 152) (.c (.p (.bool true))) (.t 154), none⟩,
                      ⟨some 156, .move (.t 155), none⟩,
                      ⟨some 157, .faddr (.t 2) 2, some (156, false)⟩,
                      ⟨some 158, .load none (.t 157), some (156, false)⟩,
                      ⟨some 159, .move (.t 8), some (156, false)⟩,
                      ⟨some 160, .iaddr none 7 (.t 158) (.t 159), some (156, false)⟩,
                      ⟨some 161, .faddr (.t 160) 0, some (156, false)⟩,
                      ⟨some 162, .load none (.t 161), some (156, false)⟩,
                      ⟨some 163, .faddr (.t 3) 2, some (156, false)⟩,
                      ⟨some 164, .load none (.t 163), some (156, false)⟩,
                      ⟨some 165, .move (.t 8), some (156, false)⟩,
                      ⟨some 166, .iaddr none 7 (.t 164) (.t 165), some (156, false)⟩,
                      ⟨some 167, .faddr (.t 166) 0, some (156, false)⟩,
                      ⟨some 168, .load none (.t 167), some (156, false)⟩,
                      ⟨some 169, .bin .neq (.t 162) (.t 168), some (156, false)⟩,
                      ⟨some 170, .pick (.t 156) (.c (.p (.bool true))) (.t 169), none⟩])
                  (.cond (.t 170)
                    (.seq
                      (.region [4] [
                          ⟨some 4, .move (.c (.p (.bool false))), none⟩])
                      .ret)
                    .skip)))))
          (.region [2, 3, 8] [
              ⟨some 122, .move (.t 8), none⟩,
              ⟨some 123, .bin .add (.t 122) (.c (.p (.int .i64 1))), none⟩,
              ⟨some 8, .move (.t 123), none⟩]))))

def fc12_b3 : SC :=
    (.loc
      (.seq
        (.seq
          (.region [2, 3, 11, 175] [
              ⟨some 171, .move (.t 11), none⟩,
              ⟨some 172, .faddr (.t 2) 3, none⟩,
              ⟨some 173, .load none (.t 172), none⟩,
              ⟨some 174, .len 1 (.t 173), none⟩,
              ⟨some 175, .bin .lss (.t 171) (.t 174), none⟩])
          (.cond (.t 175)
            .skip
            (.exit 6)))
        (.seq
          (.block 7
            (.seq
              (.draw [2, 3, 11, 12] [(1, 7), (5, 7), (1, 11), (5, 11)] [
                  ⟨some 178, .faddr (.t 2) 3, none⟩,
                  ⟨some 179, .load none (.t 178), none⟩,
                  ⟨some 180, .move (.t 11), none⟩,
                  ⟨some 181, .iaddr none 6 (.t 179) (.t 180), none⟩,
                  ⟨some 182, .faddr (.t 181) 1, none⟩,
                  ⟨some 183, .load (some 5) (.t 182), none⟩,
                  ⟨some 184, .faddr (.t 3) 3, none⟩,
                  ⟨some 185, .load none (.t 184), none⟩,
                  ⟨some 186, .move (.t 11), none⟩,
                  ⟨some 187, .iaddr none 6 (.t 185) (.t 186), none⟩,
                  ⟨some 188, .faddr (.t 187) 1, none⟩,
                  ⟨some 189, .load (some 5) (.t 188), none⟩,
                  ⟨some 190, .call (.c (.fn 10 [] [])) [(.t 183), (.t 189)], none⟩,
                  ⟨some 12, .move (.t 190), none⟩])
              (.seq
                (.draw [2, 3, 11, 207] [(4, 10), (8, 10), (4, 14), (8, 14)] [
                    ⟨some 191, .move (.t 12), none⟩,
                    ⟨some 192, .un .not (.t 191), none⟩,
                    ⟨some 193, .move (.t 192), none⟩,
                    ⟨some 194, .faddr (.t 2) 3, some (193, false)⟩,
                    ⟨some 195, .load none (.t 194), some (193, false)⟩,
                    ⟨some 196, .move (.t 11), some (193, false)⟩,
                    ⟨some 197, .iaddr none 6 (.t 195) (.t 196), some (193, false)⟩,
                    ⟨some 198, .faddr (.t 197) 0, some (193, false)⟩,
                    ⟨some 199, .load none (.t 198), some (193, false)⟩,
                    ⟨some 200, .faddr (.t 3) 3, some (193, false)⟩,
                    ⟨some 201, .load none (.t 200), some (193, false)⟩,
                    ⟨some 202, .move (.t 11), some (193, false)⟩,
                    ⟨some 203, .iaddr none 6 (.t 201) (.t 202), some (193, false)⟩,
                    ⟨some 204, .faddr (.t 203) 0, some (193, false)⟩,
                    ⟨some 205, .load none (.t 204), some (193, false)⟩,
                    ⟨some 206, .bin .neq (.t 199) (.t 205), some (193, false)⟩,
                    ⟨some 207, .pick (.t 193) (.c (.p (.bool true))) (.t 206), none⟩])
                (.cond (.t 207)
                  (.seq
                    (.region [4] [
                        ⟨some 4, .move (.c (.p (.bool false))), none⟩])
                    .ret)
                  .skip))))
          (.region [2, 3, 11] [
              ⟨some 176, .move (.t 11), none⟩,
              ⟨some 177, .bin .add (.t 176) (.c (.p (.int .i64 1))), none⟩,
              ⟨some 11, .move (.t 177), none⟩]))))

def fc12 : FC where
  nt := 208
  np := 2
  res := [.t 4]
  body :=
    (.seq
      (.region [2, 3] [
          ⟨some 2, .box (.t 0), none⟩,
          ⟨some 3, .box (.t 1), none⟩,
          ⟨some 4, .move (.c (.p (.bool false))), none⟩])
      (.seq
        (.seq
          (.region [2, 3, 46] [
              ⟨some 13, .faddr (.t 2) 0, none⟩,
              ⟨some 14, .load none (.t 13), none⟩,
              ⟨some 15, .len 1 (.t 14), none⟩,
              ⟨some 16, .faddr (.t 3) 0, none⟩,
              ⟨some 17, .load none (.t 16), none⟩,
              ⟨some 18, .len 1 (.t 17), none⟩,
              ⟨some 19, .bin .neq (.t 15) (.t 18), none⟩,
              ⟨some 20, .move (.t 19), none⟩,
              ⟨some 21, .faddr (.t 2) 1, some (20, false)⟩,
              ⟨some 22, .load none (.t 21), some (20, false)⟩,
              ⟨some 23, .len 1 (.t 22), some (20, false)⟩,
              ⟨some 24, .faddr (.t 3) 1, some (20, false)⟩,
              ⟨some 25, .load none (.t 24), some (20, false)⟩,
              ⟨some 26, .len 1 (.t 25), some (20, false)⟩,
              ⟨some 27, .bin .neq (.t 23) (.t 26), some (20, false)⟩,
              ⟨some 28, .pick (.t 20) (.c (.p (.bool true))) (.t 27), none⟩,
              ⟨some 29, .move (.t 28), none⟩,
              ⟨some 30, .faddr (.t 2) 2, some (29, false)⟩,
              ⟨some 31, .load none (.t 30), some (29, false)⟩,
              ⟨some 32, .len 1 (.t 31), some (29, false)⟩,
              ⟨some 33, .faddr (.t 3) 2, some (29, false)⟩,
              ⟨some 34, .load none (.t 33), some (29, false)⟩,
              ⟨some 35, .len 1 (.t 34), some (29, false)⟩,
              ⟨some 36, .bin .neq (.t 32) (.t 35), some (29, false)⟩,
              ⟨some 37, .pick (.t 29) (.c (.p (.bool true))) (.t 36), none⟩,
              ⟨some 38, .move (.t 37), none⟩,
              ⟨some 39, .faddr (.t 2) 3, some (38, false)⟩,
              ⟨some 40, .load none (.t 39), some (38, false)⟩,
              ⟨some 41, .len 1 (.t 40), some (38, false)⟩,
              ⟨some 42, .faddr (.t 3) 3, some (38, false)⟩,
              ⟨some 43, .load none (.t 42), some (38, false)⟩,
              ⟨some 44, .len 1 (.t 43), some (38, false)⟩,
              ⟨some 45, .bin .neq (.t 41) (.t 44), some (38, false)⟩,
              ⟨some 46, .pick (.t 38) (.c (.p (.bool true))) (.t 45), none⟩])
          (.cond (.t 46)
            (.seq
              (.region [4] [
                  ⟨some 4, .move (.c (.p (.bool false))), none⟩])
              .ret)
            .skip))
        (.seq
          (.seq
            (.region [2, 3, 5] [
                ⟨some 5, .move (.c (.p (.int .i64 0))), none⟩])
            (.block 0
              (.loop [2, 3, 5]
                fc12_b0)))
          (.seq
            (.seq
              (.region [2, 3, 6] [
                  ⟨some 6, .move (.c (.p (.int .i64 0))), none⟩])
              (.block 2
                (.loop [2, 3, 6]
                  fc12_b1)))
            (.seq
              (.seq
                (.region [2, 3, 8] [
                    ⟨some 8, .move (.c (.p (.int .i64 0))), none⟩])
                (.block 4
                  (.loop [2, 3, 8]
                    fc12_b2)))
              (.seq
                (.seq
                  (.region [2, 3, 11] [
                      ⟨some 11, .move (.c (.p (.int .i64 0))), none⟩])
                  (.block 6
                    (.loop [2, 3, 11]
                      fc12_b3)))
                (.seq
                  (.region [4] [
                      ⟨some 4, .move (.c (.p (.bool true))), none⟩])
                  .ret)))))))

theorem ok12 : FOk Tryd.prog 12 fc12 := FOk.of Tryd.func12 (by kernel_rfl)

/-- armature/armatureref02.ValidNode -/
def fc13 : FC where
  nt := 10
  np := 1
  res := [.t 2]
  body :=
    (.seq
      (.region [1] [
          ⟨some 1, .box (.t 0), none⟩,
          ⟨some 2, .move (.c (.p (.bool false))), none⟩])
      (.seq
        (.region [2] [
            ⟨some 3, .load (some 5) (.t 1), none⟩,
            ⟨some 4, .call (.c (.fn 37 [] [])) [(.t 3), (.c (.p (.int .i64 400)))], none⟩,
            ⟨some 5, .bin .leq (.t 4) (.c (.p (.int .i64 400))), none⟩,
            ⟨some 6, .move (.t 5), none⟩,
            ⟨some 7, .load (some 5) (.t 1), some (6, true)⟩,
            ⟨some 8, .call (.c (.fn 38 [] [])) [(.t 7), (.c (.p (.int .i64 24)))], some (6, true)⟩,
            ⟨some 9, .pick (.t 6) (.t 8) (.c (.p (.bool false))), none⟩,
            ⟨some 2, .move (.t 9), none⟩])
        .ret))

theorem ok13 : FOk Tryd.prog 13 fc13 := FOk.of Tryd.func13 (by kernel_rfl)

/-- armature/printer.Formula -/
def fc14 : FC where
  nt := 12
  np := 1
  res := [.t 2]
  body :=
    (.seq
      (.region [1] [
          ⟨some 1, .box (.t 0), none⟩,
          ⟨some 2, .move (.c (.p (.str []))), none⟩])
      (.seq
        (.region [1, 3] [
            ⟨some 4, .call (.c (.fn 39 [] [])) [], none⟩,
            ⟨some 3, .move (.t 4), none⟩])
        (.seq
          (.tokb 3 1 5 1)
          (.seq
            (.region [3] [
                ⟨some 5, .move (.t 3), none⟩,
                ⟨some 6, .load (some 5) (.t 1), none⟩,
                ⟨some 7, .call (.c (.fn 40 [] [])) [(.t 5), (.t 6), (.c (.p (.bool true)))], none⟩])
            (.seq
              (.region [2] [
                  ⟨some 8, .move (.t 3), none⟩,
                  ⟨some 9, .nilCheck (.t 8), none⟩,
                  ⟨some 10, .faddr (.t 9) 0, none⟩,
                  ⟨some 11, .call (.c (.fn 41 [] [])) [(.t 10)], none⟩,
                  ⟨some 2, .move (.t 11), none⟩])
              .ret)))))

theorem ok14 : FOk Tryd.prog 14 fc14 := FOk.of Tryd.func14 (by kernel_rfl)

/-- armature/armatureref03.Formula -/
def fc15 : FC where
  nt := 5
  np := 1
  res := [.t 2]
  body :=
    (.seq
      (.region [1] [
          ⟨some 1, .box (.t 0), none⟩,
          ⟨some 2, .move (.c (.p (.str []))), none⟩])
      (.seq
        (.region [2] [
            ⟨some 3, .load (some 5) (.t 1), none⟩,
            ⟨some 4, .call (.c (.fn 42 [] [])) [(.t 3), (.c (.p (.bool true)))], none⟩,
            ⟨some 2, .move (.t 4), none⟩])
        .ret))

theorem ok15 : FOk Tryd.prog 15 fc15 := FOk.of Tryd.func15 (by kernel_rfl)

/-- armature/armatureref03.Printable -/
def fc16_b0 : SC :=
    (.loc
      (.seq
        (.seq
          (.region [1, 3, 41] [
              ⟨some 37, .move (.t 3), none⟩,
              ⟨some 38, .faddr (.t 1) 1, none⟩,
              ⟨some 39, .load none (.t 38), none⟩,
              ⟨some 40, .len 1 (.t 39), none⟩,
              ⟨some 41, .bin .lss (.t 37) (.t 40), none⟩])
          (.cond (.t 41)
            .skip
            (.exit 0)))
        (.seq
          (.block 1
            (.seq
              (.region [1, 3, 4] [
                  ⟨some 44, .faddr (.t 1) 1, none⟩,
                  ⟨some 45, .load none (.t 44), none⟩,
                  ⟨some 46, .move (.t 3), none⟩,
                  ⟨some 47, .iaddr none 3 (.t 45) (.t 46), none⟩,
                  ⟨some 48, .load (some 3) (.t 47), none⟩,
                  ⟨some 4, .alloc [.str [], .nils, .bool false], none⟩,
                  ⟨none, .store 3 (.t 4) (.t 48), none⟩])
              (.seq
                (.region [1, 3, 4, 5] [
                    ⟨some 49, .faddr (.t 4) 0, none⟩,
                    ⟨some 50, .load none (.t 49), none⟩,
                    ⟨some 51, .call (.c (.fn 44 [] [])) [(.t 50)], none⟩,
                    ⟨some 52, .move (.t 51), none⟩,
                    ⟨some 53, .load (some 4) (.t 1), some (52, true)⟩,
                    ⟨some 54, .faddr (.t 4) 1, some (52, true)⟩,
                    ⟨some 55, .load none (.t 54), some (52, true)⟩,
                    ⟨some 56, .call (.c (.fn 45 [] [])) [(.t 53), (.t 55)], some (52, true)⟩,
                    ⟨some 57, .pick (.t 52) (.t 56) (.c (.p (.bool false))), none⟩,
                    ⟨some 5, .move (.t 57), none⟩])
                (.seq
                  (.region [1, 3, 71] [
                      ⟨some 58, .move (.t 5), none⟩,
                      ⟨some 59, .un .not (.t 58), none⟩,
                      ⟨some 60, .move (.t 59), none⟩,
                      ⟨some 61, .faddr (.t 4) 1, some (60, false)⟩,
                      ⟨some 62, .load none (.t 61), some (60, false)⟩,
                      ⟨some 63, .len 1 (.t 62), some (60, false)⟩,
                      ⟨some 64, .bin .lss (.t 63) (.c (.p (.int .i64 1))), some (60, false)⟩,
                      ⟨some 65, .pick (.t 60) (.c (.p (.bool true))) (.t 64), none⟩,
                      ⟨some 66, .move (.t 65), none⟩,
                      ⟨some 67, .faddr (.t 4) 1, some (66, false)⟩,
                      ⟨some 68, .load none (.t 67), some (66, false)⟩,
                      ⟨some 69, .len 1 (.t 68), some (66, false)⟩,
                      ⟨some 70, .bin .gtr (.t 69) (.c (.p (.int .i64 3))), some (66, false)⟩,
                      ⟨some 71, .pick (.t 66) (.c (.p (.bool true))) (.t 70), none⟩])
                  (.cond (.t 71)
                    (.seq
                      (.region [2] [
                          ⟨some 2, .move (.c (.p (.bool false))), none⟩])
                      .ret)
                    .skip)))))
          (.region [1, 3] [
              ⟨some 42, .move (.t 3), none⟩,
              ⟨some 43, .bin .add (.t 42) (.c (.p (.int .i64 1))), none⟩,
              ⟨some 3, .move (.t 43), none⟩]))))

def fc16_b1 : SC :=
    (.loc
      (.seq
        (.seq
          (.region [1, 6, 76] [
              ⟨some 72, .move (.t 6), none⟩,
              ⟨some 73, .faddr (.t 1) 2, none⟩,
              ⟨some 74, .load none (.t 73), none⟩,
              ⟨some 75, .len 1 (.t 74), none⟩,
              ⟨some 76, .bin .lss (.t 72) (.t 75), none⟩])
          (.cond (.t 76)
            .skip
            (.exit 2)))
        (.seq
          (.block 3
            (.seq
              (.region [1, 6, 7] [
                  ⟨some 79, .faddr (.t 1) 2, none⟩,
                  ⟨some 80, .load none (.t 79), none⟩,
                  ⟨some 81, .move (.t 6), none⟩,
                  ⟨some 82, .iaddr none 7 (.t 80) (.t 81), none⟩,
                  ⟨some 83, .faddr (.t 82) 0, none⟩,
                  ⟨some 84, .load none (.t 83), none⟩,
                  ⟨some 85, .call (.c (.fn 44 [] [])) [(.t 84)], none⟩,
                  ⟨some 86, .move (.t 85), none⟩,
                  ⟨some 87, .faddr (.t 1) 2, some (86, true)⟩,
                  ⟨some 88, .load none (.t 87), some (86, true)⟩,
                  ⟨some 89, .move (.t 6), some (86, true)⟩,
                  ⟨some 90, .iaddr none 7 (.t 88) (.t 89), some (86, true)⟩,
                  ⟨some 91, .faddr (.t 90) 2, some (86, true)⟩,
                  ⟨some 92, .load (some 5) (.t 91), some (86, true)⟩,
                  ⟨some 93, .call (.c (.fn 46 [] [])) [(.t 92)], some (86, true)⟩,
                  ⟨some 94, .pick (.t 86) (.t 93) (.c (.p (.bool false))), none⟩,
                  ⟨some 7, .move (.t 94), none⟩])
              (.seq
                (.draw [1, 6, 107] [(3, 5), (3, 9)] [
                    ⟨some 95, .move (.t 7), none⟩,
                    ⟨some 96, .un .not (.t 95), none⟩,
                    ⟨some 97, .move (.t 96), none⟩,
                    ⟨some 98, .load (some 4) (.t 1), some (97, false)⟩,
                    ⟨some 99, .faddr (.t 1) 2, some (97, false)⟩,
                    ⟨some 100, .load none (.t 99), some (97, false)⟩,
                    ⟨some 101, .move (.t 6), some (97, false)⟩,
                    ⟨some 102, .iaddr none 7 (.t 100) (.t 101), some (97, false)⟩,
                    ⟨some 103, .faddr (.t 102) 1, some (97, false)⟩,
                    ⟨some 104, .load none (.t 103), some (97, false)⟩,
                    ⟨some 105, .call (.c (.fn 47 [] [])) [(.t 98), (.t 104)], some (97, false)⟩,
                    ⟨some 106, .un .not (.t 105), some (97, false)⟩,
                    ⟨some 107, .pick (.t 97) (.c (.p (.bool true))) (.t 106), none⟩])
                (.cond (.t 107)
                  (.seq
                    (.region [2] [
                        ⟨some 2, .move (.c (.p (.bool false))), none⟩])
                    .ret)
                  .skip))))
          (.region [1, 6] [
              ⟨some 77, .move (.t 6), none⟩,
              ⟨some 78, .bin .add (.t 77) (.c (.p (.int .i64 1))), none⟩,
              ⟨some 6, .move (.t 78), none⟩]))))

def fc16_b2 : SC :=
    (.loc
      (.seq
        (.seq
          (.region [1, 8, 112] [
              ⟨some 108, .move (.t 8), none⟩,
              ⟨some 109, .faddr (.t 1) 3, none⟩,
              ⟨some 110, .load none (.t 109), none⟩,
              ⟨some 111, .len 1 (.t 110), none⟩,
              ⟨some 112, .bin .lss (.t 108) (.t 111), none⟩])
          (.cond (.t 112)
            .skip
            (.exit 4)))
        (.seq
          (.block 5
            (.seq
              (.region [1, 8, 9] [
                  ⟨some 115, .faddr (.t 1) 3, none⟩,
                  ⟨some 116, .load none (.t 115), none⟩,
                  ⟨some 117, .move (.t 8), none⟩,
                  ⟨some 118, .iaddr none 6 (.t 116) (.t 117), none⟩,
                  ⟨some 119, .faddr (.t 118) 0, none⟩,
                  ⟨some 120, .load none (.t 119), none⟩,
                  ⟨some 121, .call (.c (.fn 44 [] [])) [(.t 120)], none⟩,
                  ⟨some 122, .move (.t 121), none⟩,
                  ⟨some 123, .faddr (.t 1) 3, some (122, true)⟩,
                  ⟨some 124, .load none (.t 123), some (122, true)⟩,
                  ⟨some 125, .move (.t 8), some (122, true)⟩,
                  ⟨some 126, .iaddr none 6 (.t 124) (.t 125), some (122, true)⟩,
                  ⟨some 127, .faddr (.t 126) 1, some (122, true)⟩,
                  ⟨some 128, .load (some 5) (.t 127), some (122, true)⟩,
                  ⟨some 129, .call (.c (.fn 46 [] [])) [(.t 128)], some (122, true)⟩,
                  ⟨some 130, .pick (.t 122) (.t 129) (.c (.p (.bool false))), none⟩,
                  ⟨some 9, .move (.t 130), none⟩])
              (.seq
                (.region [1, 8, 132] [
                    ⟨some 131, .move (.t 9), none⟩,
                    ⟨some 132, .un .not (.t 131), none⟩])
                (.cond (.t 132)
                  (.seq
                    (.region [2] [
                        ⟨some 2, .move (.c (.p (.bool false))), none⟩])
                    .ret)
                  .skip))))
          (.region [1, 8] [
              ⟨some 113, .move (.t 8), none⟩,
              ⟨some 114, .bin .add (.t 113) (.c (.p (.int .i64 1))), none⟩,
              ⟨some 8, .move (.t 114), none⟩]))))

def fc16 : FC where
  nt := 133
  np := 1
  res := [.t 2]
  body :=
    (.seq
      (.region [1] [
          ⟨some 1, .box (.t 0), none⟩,
          ⟨some 2, .move (.c (.p (.bool false))), none⟩])
      (.seq
        (.seq
          (.region [1, 36] [
              ⟨some 10, .faddr (.t 1) 0, none⟩,
              ⟨some 11, .load none (.t 10), none⟩,
              ⟨some 12, .len 1 (.t 11), none⟩,
              ⟨some 13, .bin .gtr (.t 12) (.c (.p (.int .i64 4))), none⟩,
              ⟨some 14, .move (.t 13), none⟩,
              ⟨some 15, .faddr (.t 1) 1, some (14, false)⟩,
              ⟨some 16, .load none (.t 15), some (14, false)⟩,
              ⟨some 17, .len 1 (.t 16), some (14, false)⟩,
              ⟨some 18, .bin .gtr (.t 17) (.c (.p (.int .i64 6))), some (14, false)⟩,
              ⟨some 19, .pick (.t 14) (.c (.p (.bool true))) (.t 18), none⟩,
              ⟨some 20, .move (.t 19), none⟩,
              ⟨some 21, .faddr (.t 1) 2, some (20, false)⟩,
              ⟨some 22, .load none (.t 21), some (20, false)⟩,
              ⟨some 23, .len 1 (.t 22), some (20, false)⟩,
              ⟨some 24, .bin .gtr (.t 23) (.c (.p (.int .i64 8))), some (20, false)⟩,
              ⟨some 25, .pick (.t 20) (.c (.p (.bool true))) (.t 24), none⟩,
              ⟨some 26, .move (.t 25), none⟩,
              ⟨some 27, .faddr (.t 1) 3, some (26, false)⟩,
              ⟨some 28, .load none (.t 27), some (26, false)⟩,
              ⟨some 29, .len 1 (.t 28), some (26, false)⟩,
              ⟨some 30, .bin .gtr (.t 29) (.c (.p (.int .i64 16))), some (26, false)⟩,
              ⟨some 31, .pick (.t 26) (.c (.p (.bool true))) (.t 30), none⟩,
              ⟨some 32, .move (.t 31), none⟩,
              ⟨some 33, .load (some 4) (.t 1), some (32, false)⟩,
              ⟨some 34, .call (.c (.fn 43 [] [])) [(.t 33)], some (32, false)⟩,
              ⟨some 35, .un .not (.t 34), some (32, false)⟩,
              ⟨some 36, .pick (.t 32) (.c (.p (.bool true))) (.t 35), none⟩])
          (.cond (.t 36)
            (.seq
              (.region [2] [
                  ⟨some 2, .move (.c (.p (.bool false))), none⟩])
              .ret)
            .skip))
        (.seq
          (.seq
            (.region [1, 3] [
                ⟨some 3, .move (.c (.p (.int .i64 0))), none⟩])
            (.block 0
              (.loop [1, 3]
                fc16_b0)))
          (.seq
            (.seq
              (.region [1, 6] [
                  ⟨some 6, .move (.c (.p (.int .i64 0))), none⟩])
              (.block 2
                (.loop [1, 6]
                  fc16_b1)))
            (.seq
              (.seq
                (.region [1, 8] [
                    ⟨some 8, .move (.c (.p (.int .i64 0))), none⟩])
                (.block 4
                  (.loop [1, 8]
                    fc16_b2)))
              (.seq
                (.region [2] [
                    ⟨some 2, .move (.c (.p (.bool true))), none⟩])
                .ret))))))

theorem ok16 : FOk Tryd.prog 16 fc16 := FOk.of Tryd.func16 (by kernel_rfl)

/-- armature/printer.Spec -/
def fc17_b0 : SC :=
    (.loc
      (.seq
        (.region [1, 3, 4, 16, 17, 18, 19] [
            ⟨some 19, .bin .lss (.t 18) (.t 17), none⟩])
        (.seq
          (.cond (.t 19)
            .skip
            (.exit 0))
          (.seq
            (.block 1
              (.seq
                (.region [1, 3, 4, 6, 16, 17, 18] [
                    ⟨some 20, .iaddr none 2 (.t 16) (.t 18), none⟩,
                    ⟨some 21, .load (some 2) (.t 20), none⟩,
                    ⟨some 6, .alloc [.str [], .bool false], none⟩,
                    ⟨none, .store 2 (.t 6) (.t 21), none⟩])
                (.seq
                  (.draw [1, 3, 4, 6, 16, 17, 18] [(0, 4)] [
                      ⟨some 22, .load none (.t 3), none⟩,
                      ⟨some 23, .nilCheck (.t 22), none⟩,
                      ⟨some 24, .faddr (.t 23) 0, none⟩,
                      ⟨some 25, .faddr (.t 6) 0, none⟩,
                      ⟨some 26, .load none (.t 25), none⟩,
                      ⟨some 27, .bin .add (.c (.p (.str [115, 111, 114, 116, 32]))) (.t 26), none⟩,
                      ⟨some 28, .call (.c (.fn 49 [] [])) [(.t 24), (.t 27)], none⟩])
                  (.seq
                    (.seq
                      (.region [1, 3, 4, 16, 17, 18, 30] [
                          ⟨some 29, .faddr (.t 6) 1, none⟩,
                          ⟨some 30, .load none (.t 29), none⟩])
                      (.cond (.t 30)
                        (.region [1, 3, 4, 16, 17, 18] [
                            ⟨some 31, .load none (.t 3), none⟩,
                            ⟨some 32, .nilCheck (.t 31), none⟩,
                            ⟨some 33, .faddr (.t 32) 0, none⟩,
                            ⟨some 34, .call (.c (.fn 49 [] [])) [(.t 33), (.c (.p (.str [32, 111, 114, 100, 101, 114, 101, 100])))], none⟩])
                        .skip))
                    (.region [1, 3, 4, 16, 17, 18] [
                        ⟨some 35, .load none (.t 3), none⟩,
                        ⟨some 36, .nilCheck (.t 35), none⟩,
                        ⟨some 37, .faddr (.t 36) 0, none⟩,
                        ⟨some 38, .call (.c (.fn 49 [] [])) [(.t 37), (.c (.p (.str [59, 10])))], none⟩])))))
            (.region [1, 3, 4, 16, 17, 18] [
                ⟨some 39, .bin .add (.t 18) (.c (.p (.int .i64 1))), none⟩,
                ⟨some 18, .move (.t 39), none⟩])))))

def fc17_b1 : SC :=
    (.loc
      (.seq
        (.region [1, 3, 4, 41, 42, 43, 44] [
            ⟨some 44, .bin .lss (.t 43) (.t 42), none⟩])
        (.seq
          (.cond (.t 44)
            .skip
            (.exit 2))
          (.seq
            (.block 3
              (.seq
                (.region [1, 3, 4, 8, 41, 42, 43] [
                    ⟨some 45, .iaddr none 3 (.t 41) (.t 43), none⟩,
                    ⟨some 46, .load (some 3) (.t 45), none⟩,
                    ⟨some 8, .alloc [.str [], .nils, .bool false], none⟩,
                    ⟨none, .store 3 (.t 8) (.t 46), none⟩])
                (.seq
                  (.seq
                    (.region [1, 3, 4, 8, 41, 42, 43, 48] [
                        ⟨some 47, .faddr (.t 8) 2, none⟩,
                        ⟨some 48, .load none (.t 47), none⟩])
                    (.cond (.t 48)
                      (.region [1, 3, 4, 8, 41, 42, 43] [
                          ⟨some 49, .load none (.t 3), none⟩,
                          ⟨some 50, .nilCheck (.t 49), none⟩,
                          ⟨some 51, .faddr (.t 50) 0, none⟩,
                          ⟨some 52, .call (.c (.fn 49 [] [])) [(.t 51), (.c (.p (.str [118, 97, 114, 32])))], none⟩])
                      .skip))
                  (.seq
                    (.draw [1, 3, 4, 8, 41, 42, 43] [(0, 4)] [
                        ⟨some 53, .load none (.t 3), none⟩,
                        ⟨some 54, .nilCheck (.t 53), none⟩,
                        ⟨some 55, .faddr (.t 54) 0, none⟩,
                        ⟨some 56, .faddr (.t 8) 0, none⟩,
                        ⟨some 57, .load none (.t 56), none⟩,
                        ⟨some 58, .bin .add (.c (.p (.str [102, 105, 101, 108, 100, 32]))) (.t 57), none⟩,
                        ⟨some 59, .bin .add (.t 58) (.c (.p (.str [58, 32]))), none⟩,
                        ⟨some 60, .call (.c (.fn 49 [] [])) [(.t 55), (.t 59)], none⟩])
                    (.seq
                      (.region [1, 3, 4, 41, 42, 43] [
                          ⟨some 61, .load none (.t 3), none⟩,
                          ⟨some 62, .faddr (.t 8) 1, none⟩,
                          ⟨some 63, .load none (.t 62), none⟩,
                          ⟨some 64, .mkfn 51 [] [(.t 3), (.t 4)], none⟩,
                          ⟨some 65, .call (.c (.fn 50 [] [])) [(.t 61), (.t 63), (.c (.p (.str [32, 45, 62, 32]))), (.t 64)], none⟩])
                      (.region [1, 3, 4, 41, 42, 43] [
                          ⟨some 66, .load none (.t 3), none⟩,
                          ⟨some 67, .nilCheck (.t 66), none⟩,
                          ⟨some 68, .faddr (.t 67) 0, none⟩,
                          ⟨some 69, .call (.c (.fn 49 [] [])) [(.t 68), (.c (.p (.str [59, 10])))], none⟩]))))))
            (.region [1, 3, 4, 41, 42, 43] [
                ⟨some 70, .bin .add (.t 43) (.c (.p (.int .i64 1))), none⟩,
                ⟨some 43, .move (.t 70), none⟩])))))

def fc17_b2 : SC :=
    (.loc
      (.seq
        (.region [1, 3, 4, 72, 73, 74, 75] [
            ⟨some 75, .bin .lss (.t 74) (.t 73), none⟩])
        (.seq
          (.cond (.t 75)
            .skip
            (.exit 4))
          (.seq
            (.block 5
              (.seq
                (.region [1, 3, 4, 10, 72, 73, 74] [
                    ⟨some 76, .iaddr none 7 (.t 72) (.t 74), none⟩,
                    ⟨some 77, .load (some 7) (.t 76), none⟩,
                    ⟨some 10, .alloc [.str [], .nils, .int .i64 0, .str [], .int .i64 0, .nils, .int .i64 0], none⟩,
                    ⟨none, .store 7 (.t 10) (.t 77), none⟩])
                (.seq
                  (.draw [1, 3, 4, 10, 72, 73, 74] [(0, 4)] [
                      ⟨some 78, .load none (.t 3), none⟩,
                      ⟨some 79, .nilCheck (.t 78), none⟩,
                      ⟨some 80, .faddr (.t 79) 0, none⟩,
                      ⟨some 81, .faddr (.t 10) 0, none⟩,
                      ⟨some 82, .load none (.t 81), none⟩,
                      ⟨some 83, .bin .add (.c (.p (.str [112, 114, 101, 100, 32]))) (.t 82), none⟩,
                      ⟨some 84, .bin .add (.t 83) (.c (.p (.str [91]))), none⟩,
                      ⟨some 85, .call (.c (.fn 49 [] [])) [(.t 80), (.t 84)], none⟩])
                  (.seq
                    (.region [1, 3, 4, 10, 72, 73, 74] [
                        ⟨some 86, .load none (.t 3), none⟩,
                        ⟨some 87, .faddr (.t 10) 1, none⟩,
                        ⟨some 88, .load none (.t 87), none⟩,
                        ⟨some 89, .mkfn 53 [] [(.t 3), (.t 4)], none⟩,
                        ⟨some 90, .call (.c (.fn 52 [] [])) [(.t 86), (.t 88), (.c (.p (.str [44, 32]))), (.t 89)], none⟩])
                    (.draw [1, 3, 4, 72, 73, 74] [(0, 4), (0, 5)] [
                        ⟨some 91, .load none (.t 3), none⟩,
                        ⟨some 92, .nilCheck (.t 91), none⟩,
                        ⟨some 93, .faddr (.t 92) 0, none⟩,
                        ⟨some 94, .faddr (.t 10) 2, none⟩,
                        ⟨some 95, .load (some 5) (.t 94), none⟩,
                        ⟨some 96, .call (.c (.fn 14 [] [])) [(.t 95)], none⟩,
                        ⟨some 97, .bin .add (.c (.p (.str [93, 32, 123, 32]))) (.t 96), none⟩,
                        ⟨some 98, .bin .add (.t 97) (.c (.p (.str [32, 125, 10]))), none⟩,
                        ⟨some 99, .call (.c (.fn 49 [] [])) [(.t 93), (.t 98)], none⟩])))))
            (.region [1, 3, 4, 72, 73, 74] [
                ⟨some 100, .bin .add (.t 74) (.c (.p (.int .i64 1))), none⟩,
                ⟨some 74, .move (.t 100), none⟩])))))

def fc17_b3 : SC :=
    (.loc
      (.seq
        (.region [3, 102, 103, 104, 105] [
            ⟨some 105, .bin .lss (.t 104) (.t 103), none⟩])
        (.seq
          (.cond (.t 105)
            .skip
            (.exit 6))
          (.seq
            (.block 7
              (.seq
                (.region [3, 12, 102, 103, 104] [
                    ⟨some 106, .iaddr none 6 (.t 102) (.t 104), none⟩,
                    ⟨some 107, .load (some 6) (.t 106), none⟩,
                    ⟨some 12, .alloc [.str [], .int .i64 0, .str [], .int .i64 0, .nils, .int .i64 0], none⟩,
                    ⟨none, .store 6 (.t 12) (.t 107), none⟩])
                (.draw [3, 102, 103, 104] [(0, 4), (0, 8), (4, 8), (0, 9), (4, 9)] [
                    ⟨some 108, .load none (.t 3), none⟩,
                    ⟨some 109, .nilCheck (.t 108), none⟩,
                    ⟨some 110, .faddr (.t 109) 0, none⟩,
                    ⟨some 111, .faddr (.t 12) 0, none⟩,
                    ⟨some 112, .load none (.t 111), none⟩,
                    ⟨some 113, .bin .add (.c (.p (.str [102, 97, 99, 116, 32]))) (.t 112), none⟩,
                    ⟨some 114, .bin .add (.t 113) (.c (.p (.str [32, 123, 32]))), none⟩,
                    ⟨some 115, .faddr (.t 12) 1, none⟩,
                    ⟨some 116, .load (some 5) (.t 115), none⟩,
                    ⟨some 117, .call (.c (.fn 14 [] [])) [(.t 116)], none⟩,
                    ⟨some 118, .bin .add (.t 114) (.t 117), none⟩,
                    ⟨some 119, .bin .add (.t 118) (.c (.p (.str [32, 125, 10]))), none⟩,
                    ⟨some 120, .call (.c (.fn 49 [] [])) [(.t 110), (.t 119)], none⟩])))
            (.region [3, 102, 103, 104] [
                ⟨some 121, .bin .add (.t 104) (.c (.p (.int .i64 1))), none⟩,
                ⟨some 104, .move (.t 121), none⟩])))))

def fc17 : FC where
  nt := 126
  np := 1
  res := [.t 2]
  body :=
    (.seq
      (.region [1] [
          ⟨some 1, .box (.t 0), none⟩,
          ⟨some 2, .move (.c (.p (.str []))), none⟩])
      (.seq
        (.region [1, 3, 13] [
            ⟨some 13, .call (.c (.fn 39 [] [])) [], none⟩,
            ⟨some 3, .alloc [.nilp], none⟩,
            ⟨none, .store 1 (.t 3) (.t 13), none⟩])
        (.seq
          (.tokb 13 1 5 1)
          (.seq
            (.region [1, 3, 4] [
                ⟨some 14, .mkfn 48 [] [(.t 1)], none⟩,
                ⟨some 4, .alloc [.nilf], none⟩,
                ⟨none, .store 1 (.t 4) (.t 14), none⟩])
            (.seq
              (.seq
                (.region [1, 3, 4, 16, 17, 18] [
                    ⟨some 15, .faddr (.t 1) 0, none⟩,
                    ⟨some 16, .load none (.t 15), none⟩,
                    ⟨some 17, .len 1 (.t 16), none⟩,
                    ⟨some 18, .move (.c (.p (.int .i64 0))), none⟩])
                (.block 0
                  (.loop [1, 3, 4, 16, 17, 18]
                    fc17_b0)))
              (.seq
                (.seq
                  (.region [1, 3, 4, 41, 42, 43] [
                      ⟨some 40, .faddr (.t 1) 1, none⟩,
                      ⟨some 41, .load none (.t 40), none⟩,
                      ⟨some 42, .len 1 (.t 41), none⟩,
                      ⟨some 43, .move (.c (.p (.int .i64 0))), none⟩])
                  (.block 2
                    (.loop [1, 3, 4, 41, 42, 43]
                      fc17_b1)))
                (.seq
                  (.seq
                    (.region [1, 3, 4, 72, 73, 74] [
                        ⟨some 71, .faddr (.t 1) 2, none⟩,
                        ⟨some 72, .load none (.t 71), none⟩,
                        ⟨some 73, .len 1 (.t 72), none⟩,
                        ⟨some 74, .move (.c (.p (.int .i64 0))), none⟩])
                    (.block 4
                      (.loop [1, 3, 4, 72, 73, 74]
                        fc17_b2)))
                  (.seq
                    (.seq
                      (.region [3, 102, 103, 104] [
                          ⟨some 101, .faddr (.t 1) 3, none⟩,
                          ⟨some 102, .load none (.t 101), none⟩,
                          ⟨some 103, .len 1 (.t 102), none⟩,
                          ⟨some 104, .move (.c (.p (.int .i64 0))), none⟩])
                      (.block 6
                        (.loop [3, 102, 103, 104]
                          fc17_b3)))
                    (.seq
                      (.region [2] [
                          ⟨some 122, .load none (.t 3), none⟩,
                          ⟨some 123, .nilCheck (.t 122), none⟩,
                          ⟨some 124, .faddr (.t 123) 0, none⟩,
                          ⟨some 125, .call (.c (.fn 41 [] [])) [(.t 124)], none⟩,
                          ⟨some 2, .move (.t 125), none⟩])
                      .ret)))))))))

theorem ok17 : FOk Tryd.prog 17 fc17 := FOk.of Tryd.func17 (by kernel_rfl)

/-- armature/armatureref03.Spec -/
def fc18_b0 : SC :=
    (.seq
      (.seq
        (.region [1, 3, 4, 12] [
            ⟨some 8, .move (.t 4), none⟩,
            ⟨some 9, .faddr (.t 1) 0, none⟩,
            ⟨some 10, .load none (.t 9), none⟩,
            ⟨some 11, .len 1 (.t 10), none⟩,
            ⟨some 12, .bin .lss (.t 8) (.t 11), none⟩])
        (.cond (.t 12)
          .skip
          (.exit 0)))
      (.seq
        (.block 1
          (.seq
            (.region [1, 3, 4] [
                ⟨some 15, .move (.t 3), none⟩,
                ⟨some 16, .bin .add (.t 15) (.c (.p (.str [115, 111, 114, 116, 32]))), none⟩,
                ⟨some 17, .faddr (.t 1) 0, none⟩,
                ⟨some 18, .load none (.t 17), none⟩,
                ⟨some 19, .move (.t 4), none⟩,
                ⟨some 20, .iaddr none 2 (.t 18) (.t 19), none⟩,
                ⟨some 21, .faddr (.t 20) 0, none⟩,
                ⟨some 22, .load none (.t 21), none⟩,
                ⟨some 23, .bin .add (.t 16) (.t 22), none⟩,
                ⟨some 3, .move (.t 23), none⟩])
            (.seq
              (.seq
                (.region [1, 3, 4, 29] [
                    ⟨some 24, .faddr (.t 1) 0, none⟩,
                    ⟨some 25, .load none (.t 24), none⟩,
                    ⟨some 26, .move (.t 4), none⟩,
                    ⟨some 27, .iaddr none 2 (.t 25) (.t 26), none⟩,
                    ⟨some 28, .faddr (.t 27) 1, none⟩,
                    ⟨some 29, .load none (.t 28), none⟩])
                (.cond (.t 29)
                  (.region [1, 3, 4] [
                      ⟨some 30, .move (.t 3), none⟩,
                      ⟨some 31, .bin .add (.t 30) (.c (.p (.str [32, 111, 114, 100, 101, 114, 101, 100]))), none⟩,
                      ⟨some 3, .move (.t 31), none⟩])
                  .skip))
              (.region [1, 3, 4] [
                  ⟨some 32, .move (.t 3), none⟩,
                  ⟨some 33, .bin .add (.t 32) (.c (.p (.str [59, 10]))), none⟩,
                  ⟨some 3, .move (.t 33), none⟩]))))
        (.region [1, 3, 4] [
            ⟨some 13, .move (.t 4), none⟩,
            ⟨some 14, .bin .add (.t 13) (.c (.p (.int .i64 1))), none⟩,
            ⟨some 4, .move (.t 14), none⟩])))

def fc18_b1 : SC :=
    (.loc
      (.seq
        (.seq
          (.region [1, 3, 5, 38] [
              ⟨some 34, .move (.t 5), none⟩,
              ⟨some 35, .faddr (.t 1) 1, none⟩,
              ⟨some 36, .load none (.t 35), none⟩,
              ⟨some 37, .len 1 (.t 36), none⟩,
              ⟨some 38, .bin .lss (.t 34) (.t 37), none⟩])
          (.cond (.t 38)
            .skip
            (.exit 2)))
        (.seq
          (.block 3
            (.draw [1, 3, 5] [(1, 3), (1, 6)] [
                ⟨some 41, .move (.t 3), none⟩,
                ⟨some 42, .load (some 4) (.t 1), none⟩,
                ⟨some 43, .faddr (.t 1) 1, none⟩,
                ⟨some 44, .load none (.t 43), none⟩,
                ⟨some 45, .move (.t 5), none⟩,
                ⟨some 46, .iaddr none 3 (.t 44) (.t 45), none⟩,
                ⟨some 47, .load (some 3) (.t 46), none⟩,
                ⟨some 48, .call (.c (.fn 54 [] [])) [(.t 42), (.t 47)], none⟩,
                ⟨some 49, .bin .add (.t 41) (.t 48), none⟩,
                ⟨some 3, .move (.t 49), none⟩]))
          (.region [1, 3, 5] [
              ⟨some 39, .move (.t 5), none⟩,
              ⟨some 40, .bin .add (.t 39) (.c (.p (.int .i64 1))), none⟩,
              ⟨some 5, .move (.t 40), none⟩]))))

def fc18_b2 : SC :=
    (.loc
      (.seq
        (.seq
          (.region [1, 3, 6, 54] [
              ⟨some 50, .move (.t 6), none⟩,
              ⟨some 51, .faddr (.t 1) 2, none⟩,
              ⟨some 52, .load none (.t 51), none⟩,
              ⟨some 53, .len 1 (.t 52), none⟩,
              ⟨some 54, .bin .lss (.t 50) (.t 53), none⟩])
          (.cond (.t 54)
            .skip
            (.exit 4)))
        (.seq
          (.block 5
            (.draw [1, 3, 6] [(1, 3), (1, 6)] [
                ⟨some 57, .move (.t 3), none⟩,
                ⟨some 58, .load (some 4) (.t 1), none⟩,
                ⟨some 59, .faddr (.t 1) 2, none⟩,
                ⟨some 60, .load none (.t 59), none⟩,
                ⟨some 61, .move (.t 6), none⟩,
                ⟨some 62, .iaddr none 7 (.t 60) (.t 61), none⟩,
                ⟨some 63, .load (some 7) (.t 62), none⟩,
                ⟨some 64, .call (.c (.fn 55 [] [])) [(.t 58), (.t 63)], none⟩,
                ⟨some 65, .bin .add (.t 57) (.t 64), none⟩,
                ⟨some 3, .move (.t 65), none⟩]))
          (.region [1, 3, 6] [
              ⟨some 55, .move (.t 6), none⟩,
              ⟨some 56, .bin .add (.t 55) (.c (.p (.int .i64 1))), none⟩,
              ⟨some 6, .move (.t 56), none⟩]))))

def fc18_b3 : SC :=
    (.loc
      (.seq
        (.seq
          (.region [1, 3, 7, 70] [
              ⟨some 66, .move (.t 7), none⟩,
              ⟨some 67, .faddr (.t 1) 3, none⟩,
              ⟨some 68, .load none (.t 67), none⟩,
              ⟨some 69, .len 1 (.t 68), none⟩,
              ⟨some 70, .bin .lss (.t 66) (.t 69), none⟩])
          (.cond (.t 70)
            .skip
            (.exit 6)))
        (.seq
          (.block 7
            (.draw [1, 3, 7] [(3, 11), (7, 11), (3, 15), (7, 15), (3, 16), (7, 16)] [
                ⟨some 73, .move (.t 3), none⟩,
                ⟨some 74, .bin .add (.t 73) (.c (.p (.str [102, 97, 99, 116, 32]))), none⟩,
                ⟨some 75, .faddr (.t 1) 3, none⟩,
                ⟨some 76, .load none (.t 75), none⟩,
                ⟨some 77, .move (.t 7), none⟩,
                ⟨some 78, .iaddr none 6 (.t 76) (.t 77), none⟩,
                ⟨some 79, .faddr (.t 78) 0, none⟩,
                ⟨some 80, .load none (.t 79), none⟩,
                ⟨some 81, .bin .add (.t 74) (.t 80), none⟩,
                ⟨some 82, .bin .add (.t 81) (.c (.p (.str [32, 123, 32]))), none⟩,
                ⟨some 83, .faddr (.t 1) 3, none⟩,
                ⟨some 84, .load none (.t 83), none⟩,
                ⟨some 85, .move (.t 7), none⟩,
                ⟨some 86, .iaddr none 6 (.t 84) (.t 85), none⟩,
                ⟨some 87, .faddr (.t 86) 1, none⟩,
                ⟨some 88, .load (some 5) (.t 87), none⟩,
                ⟨some 89, .call (.c (.fn 15 [] [])) [(.t 88)], none⟩,
                ⟨some 90, .bin .add (.t 82) (.t 89), none⟩,
                ⟨some 91, .bin .add (.t 90) (.c (.p (.str [32, 125, 10]))), none⟩,
                ⟨some 3, .move (.t 91), none⟩]))
          (.region [1, 3, 7] [
              ⟨some 71, .move (.t 7), none⟩,
              ⟨some 72, .bin .add (.t 71) (.c (.p (.int .i64 1))), none⟩,
              ⟨some 7, .move (.t 72), none⟩]))))

def fc18 : FC where
  nt := 93
  np := 1
  res := [.t 2]
  body :=
    (.seq
      (.region [1] [
          ⟨some 1, .box (.t 0), none⟩,
          ⟨some 2, .move (.c (.p (.str []))), none⟩])
      (.seq
        (.region [1, 3] [
            ⟨some 3, .move (.c (.p (.str []))), none⟩])
        (.seq
          (.seq
            (.region [1, 3, 4] [
                ⟨some 4, .move (.c (.p (.int .i64 0))), none⟩])
            (.block 0
              (.loop [1, 3, 4]
                fc18_b0)))
          (.seq
            (.seq
              (.region [1, 3, 5] [
                  ⟨some 5, .move (.c (.p (.int .i64 0))), none⟩])
              (.block 2
                (.loop [1, 3, 5]
                  fc18_b1)))
            (.seq
              (.seq
                (.region [1, 3, 6] [
                    ⟨some 6, .move (.c (.p (.int .i64 0))), none⟩])
                (.block 4
                  (.loop [1, 3, 6]
                    fc18_b2)))
              (.seq
                (.seq
                  (.region [1, 3, 7] [
                      ⟨some 7, .move (.c (.p (.int .i64 0))), none⟩])
                  (.block 6
                    (.loop [1, 3, 7]
                      fc18_b3)))
                (.seq
                  (.region [2] [
                      ⟨some 92, .move (.t 3), none⟩,
                      ⟨some 2, .move (.t 92), none⟩])
                  .ret)))))))

theorem ok18 : FOk Tryd.prog 18 fc18 := FOk.of Tryd.func18 (by kernel_rfl)

/-- armature/armaturelaw03.formula -/
def fc19 : FC where
  nt := 13
  np := 1
  res := [.t 2]
  body :=
    (.seq
      (.region [1] [
          ⟨some 1, .box (.t 0), none⟩,
          ⟨some 2, .move (.c (.p (.bool false))), none⟩])
      (.seq
        (.region [1, 3] [
            ⟨some 4, .load (some 5) (.t 1), none⟩,
            ⟨some 5, .call (.c (.fn 13 [] [])) [(.t 4)], none⟩,
            ⟨some 3, .move (.t 5), none⟩])
        (.seq
          (.region [2] [
              ⟨some 6, .move (.t 3), none⟩,
              ⟨some 7, .move (.t 6), none⟩,
              ⟨some 8, .faddr (.t 1) 0, some (7, true)⟩,
              ⟨some 9, .load none (.t 8), some (7, true)⟩,
              ⟨some 10, .call (.c (.fn 56 [] [])) [(.t 9)], some (7, true)⟩,
              ⟨some 11, .bin .eql (.t 10) (.c (.p (.int .u8 102))), some (7, true)⟩,
              ⟨some 12, .pick (.t 7) (.t 11) (.c (.p (.bool false))), none⟩,
              ⟨some 2, .move (.t 12), none⟩])
          .ret)))

theorem ok19 : FOk Tryd.prog 19 fc19 := FOk.of Tryd.func19 (by kernel_rfl)

/-- armature/armaturelaw03.moved -/
def fc20_b0 : SC :=
    (.loc
      (.seq
        (.seq
          (.region [1, 2, 4, 5, 6, 23] [
              ⟨some 19, .move (.t 6), none⟩,
              ⟨some 20, .faddr (.t 2) 3, none⟩,
              ⟨some 21, .load none (.t 20), none⟩,
              ⟨some 22, .len 1 (.t 21), none⟩,
              ⟨some 23, .bin .lss (.t 19) (.t 22), none⟩])
          (.cond (.t 23)
            .skip
            (.exit 0)))
        (.seq
          (.block 1
            (.seq
              (.region [1, 2, 4, 5, 6, 7] [
                  ⟨some 26, .faddr (.t 2) 3, none⟩,
                  ⟨some 27, .load none (.t 26), none⟩,
                  ⟨some 28, .move (.t 6), none⟩,
                  ⟨some 29, .iaddr none 5 (.t 27) (.t 28), none⟩,
                  ⟨some 30, .load (some 5) (.t 29), none⟩,
                  ⟨some 31, .move (.t 1), none⟩,
                  ⟨some 32, .move (.t 6), none⟩,
                  ⟨some 33, .bin .add (.t 31) (.t 32), none⟩,
                  ⟨some 34, .call (.c (.fn 20 [] [])) [(.t 30), (.t 33)], none⟩,
                  ⟨some 7, .alloc [.int .i64 0, .str [], .int .i64 0, .nils, .int .i64 0], none⟩,
                  ⟨none, .store 5 (.t 7) (.t 34), none⟩])
              (.region [1, 2, 4, 5, 6] [
                  ⟨some 35, .faddr (.t 5) 3, none⟩,
                  ⟨some 36, .load none (.t 35), none⟩,
                  ⟨some 37, .load (some 5) (.t 7), none⟩,
                  ⟨some 38, .bslice 24 5 1 (.agg [.int .i64 0, .str [], .int .i64 0, .nils, .int .i64 0]) [(0, (.t 37))], none⟩,
                  ⟨some 39, .append 24 5 64 (.t 36) (.t 38), none⟩,
                  ⟨some 40, .faddr (.t 5) 3, none⟩,
                  ⟨none, .store 1 (.t 40) (.t 39), none⟩])))
          (.region [1, 2, 4, 5, 6] [
              ⟨some 24, .move (.t 6), none⟩,
              ⟨some 25, .bin .add (.t 24) (.c (.p (.int .i64 1))), none⟩,
              ⟨some 6, .move (.t 25), none⟩]))))

def fc20 : FC where
  nt := 42
  np := 2
  res := [.cell 4 (some 5)]
  body :=
    (.seq
      (.region [1, 2, 4] [
          ⟨some 2, .box (.t 0), none⟩,
          ⟨some 4, .alloc [.int .i64 0, .str [], .int .i64 0, .nils, .int .i64 0], none⟩])
      (.seq
        (.region [1, 2, 4, 5] [
            ⟨some 8, .faddr (.t 2) 0, none⟩,
            ⟨some 9, .load none (.t 8), none⟩,
            ⟨some 10, .faddr (.t 2) 1, none⟩,
            ⟨some 11, .load none (.t 10), none⟩,
            ⟨some 12, .faddr (.t 2) 2, none⟩,
            ⟨some 13, .load none (.t 12), none⟩,
            ⟨some 14, .faddr (.t 2) 4, none⟩,
            ⟨some 15, .load none (.t 14), none⟩,
            ⟨some 16, .move (.t 1), none⟩,
            ⟨some 17, .bin .add (.t 15) (.t 16), none⟩,
            ⟨some 18, .build [.int .i64 0, .str [], .int .i64 0, .nils, .int .i64 0] [(0, 1, (.t 9)), (1, 1, (.t 11)), (2, 1, (.t 13)), (4, 1, (.t 17))], none⟩,
            ⟨some 5, .alloc [.int .i64 0, .str [], .int .i64 0, .nils, .int .i64 0], none⟩,
            ⟨none, .store 5 (.t 5) (.t 18), none⟩])
        (.seq
          (.tokb 5 3 24 5)
          (.seq
            (.seq
              (.region [1, 2, 4, 5, 6] [
                  ⟨some 6, .move (.c (.p (.int .i64 0))), none⟩])
              (.block 0
                (.loop [1, 2, 4, 5, 6]
                  fc20_b0)))
            (.seq
              (.region [4] [
                  ⟨some 41, .load (some 5) (.t 5), none⟩,
                  ⟨none, .store 5 (.t 4) (.t 41), none⟩])
              .ret)))))

theorem ok20 : FOk Tryd.prog 20 fc20 := FOk.of Tryd.func20 (by kernel_rfl)

/-- armature/armaturelaw03.name -/
def fc21 : FC where
  nt := 5
  np := 1
  res := [.cell 2 (some 5)]
  body :=
    (.seq
      (.region [0, 2] [
          ⟨some 2, .alloc [.int .i64 0, .str [], .int .i64 0, .nils, .int .i64 0], none⟩])
      (.seq
        (.region [2] [
            ⟨some 3, .move (.t 0), none⟩,
            ⟨some 4, .build [.int .i64 0, .str [], .int .i64 0, .nils, .int .i64 0] [(0, 1, (.c (.p (.int .i64 1)))), (1, 1, (.t 3))], none⟩,
            ⟨none, .store 5 (.t 2) (.t 4), none⟩])
        .ret))

theorem ok21 : FOk Tryd.prog 21 fc21 := FOk.of Tryd.func21 (by kernel_rfl)

/-- armature/armaturelaw03.call -/
def fc22 : FC where
  nt := 5
  np := 1
  res := [.cell 2 (some 5)]
  body :=
    (.seq
      (.region [0, 2] [
          ⟨some 2, .alloc [.int .i64 0, .str [], .int .i64 0, .nils, .int .i64 0], none⟩])
      (.seq
        (.region [2] [
            ⟨some 3, .move (.t 0), none⟩,
            ⟨some 4, .build [.int .i64 0, .str [], .int .i64 0, .nils, .int .i64 0] [(0, 1, (.c (.p (.int .i64 47)))), (1, 1, (.t 3))], none⟩,
            ⟨none, .store 5 (.t 2) (.t 4), none⟩])
        .ret))

theorem ok22 : FOk Tryd.prog 22 fc22 := FOk.of Tryd.func22 (by kernel_rfl)

/-- armature/armaturelaw03.both -/
def fc23 : FC where
  nt := 12
  np := 3
  res := [.cell 6 (some 5)]
  body :=
    (.seq
      (.region [0, 4, 5, 6] [
          ⟨some 4, .box (.t 1), none⟩,
          ⟨some 5, .box (.t 2), none⟩,
          ⟨some 6, .alloc [.int .i64 0, .str [], .int .i64 0, .nils, .int .i64 0], none⟩])
      (.seq
        (.region [6] [
            ⟨some 7, .move (.t 0), none⟩,
            ⟨some 8, .load (some 5) (.t 4), none⟩,
            ⟨some 9, .load (some 5) (.t 5), none⟩,
            ⟨some 10, .bslice 24 5 2 (.agg [.int .i64 0, .str [], .int .i64 0, .nils, .int .i64 0]) [(0, (.t 8)), (1, (.t 9))], none⟩,
            ⟨some 11, .build [.int .i64 0, .str [], .int .i64 0, .nils, .int .i64 0] [(0, 1, (.t 7)), (3, 1, (.t 10))], none⟩,
            ⟨none, .store 5 (.t 6) (.t 11), none⟩])
        .ret))

theorem ok23 : FOk Tryd.prog 23 fc23 := FOk.of Tryd.func23 (by kernel_rfl)

/-- armature/armatureref03.Count -/
def fc24_b0 : SC :=
    (.loc
      (.seq
        (.seq
          (.region [1, 2, 5, 6, 17] [
              ⟨some 8, .move (.t 6), none⟩,
              ⟨some 9, .faddr (.t 2) 3, none⟩,
              ⟨some 10, .load none (.t 9), none⟩,
              ⟨some 11, .len 1 (.t 10), none⟩,
              ⟨some 12, .bin .lss (.t 8) (.t 11), none⟩,
              ⟨some 13, .move (.t 12), none⟩,
              ⟨some 14, .move (.t 5), some (13, true)⟩,
              ⟨some 15, .move (.t 1), some (13, true)⟩,
              ⟨some 16, .bin .leq (.t 14) (.t 15), some (13, true)⟩,
              ⟨some 17, .pick (.t 13) (.t 16) (.c (.p (.bool false))), none⟩])
          (.cond (.t 17)
            .skip
            (.exit 0)))
        (.seq
          (.block 1
            (.seq
              (.region [1, 2, 5, 6, 7] [
                  ⟨some 20, .faddr (.t 2) 3, none⟩,
                  ⟨some 21, .load none (.t 20), none⟩,
                  ⟨some 22, .move (.t 6), none⟩,
                  ⟨some 23, .iaddr none 5 (.t 21) (.t 22), none⟩,
                  ⟨some 24, .load (some 5) (.t 23), none⟩,
                  ⟨some 25, .move (.t 1), none⟩,
                  ⟨some 26, .move (.t 5), none⟩,
                  ⟨some 27, .bin .sub (.t 25) (.t 26), none⟩,
                  ⟨some 28, .call (.c (.fn 24 [] [])) [(.t 24), (.t 27)], none⟩,
                  ⟨some 7, .move (.t 28), none⟩])
              (.region [1, 2, 5, 6] [
                  ⟨some 29, .move (.t 5), none⟩,
                  ⟨some 30, .move (.t 7), none⟩,
                  ⟨some 31, .bin .add (.t 29) (.t 30), none⟩,
                  ⟨some 5, .move (.t 31), none⟩])))
          (.region [1, 2, 5, 6] [
              ⟨some 18, .move (.t 6), none⟩,
              ⟨some 19, .bin .add (.t 18) (.c (.p (.int .i64 1))), none⟩,
              ⟨some 6, .move (.t 19), none⟩]))))

def fc24 : FC where
  nt := 33
  np := 2
  res := [.t 4]
  body :=
    (.seq
      (.region [1, 2] [
          ⟨some 2, .box (.t 0), none⟩,
          ⟨some 4, .move (.c (.p (.int .i64 0))), none⟩])
      (.seq
        (.region [1, 2, 5] [
            ⟨some 5, .move (.c (.p (.int .i64 1))), none⟩])
        (.seq
          (.seq
            (.region [1, 2, 5, 6] [
                ⟨some 6, .move (.c (.p (.int .i64 0))), none⟩])
            (.block 0
              (.loop [1, 2, 5, 6]
                fc24_b0)))
          (.seq
            (.region [4] [
                ⟨some 32, .move (.t 5), none⟩,
                ⟨some 4, .move (.t 32), none⟩])
            .ret))))

theorem ok24 : FOk Tryd.prog 24 fc24 := FOk.of Tryd.func24 (by kernel_rfl)

/-- slices.EqualFunc[[]armature/api.Node,[]armature/api.Node,armature/api.Node,armature/api.Node] -/
def fc25_b0 : SC :=
    (.loc
      (.seq
        (.region [1, 2, 15, 16, 17, 18] [
            ⟨some 18, .bin .lss (.t 17) (.t 16), none⟩])
        (.seq
          (.cond (.t 18)
            .skip
            (.exit 0))
          (.seq
            (.block 1
              (.seq
                (.region [1, 2, 7, 8, 15, 16, 17] [
                    ⟨some 19, .move (.t 17), none⟩,
                    ⟨some 20, .iaddr none 5 (.t 15) (.t 17), none⟩,
                    ⟨some 21, .load (some 5) (.t 20), none⟩,
                    ⟨some 8, .alloc [.int .i64 0, .str [], .int .i64 0, .nils, .int .i64 0], none⟩,
                    ⟨some 7, .move (.t 19), none⟩,
                    ⟨none, .store 5 (.t 8) (.t 21), none⟩])
                (.seq
                  (.region [1, 2, 8, 9, 15, 16, 17] [
                      ⟨some 22, .move (.t 1), none⟩,
                      ⟨some 23, .move (.t 7), none⟩,
                      ⟨some 24, .iaddr none 5 (.t 22) (.t 23), none⟩,
                      ⟨some 25, .load (some 5) (.t 24), none⟩,
                      ⟨some 9, .alloc [.int .i64 0, .str [], .int .i64 0, .nils, .int .i64 0], none⟩,
                      ⟨none, .store 5 (.t 9) (.t 25), none⟩])
                  (.seq
                    (.region [1, 2, 15, 16, 17, 30] [
                        ⟨some 26, .move (.t 2), none⟩,
                        ⟨some 27, .load (some 5) (.t 8), none⟩,
                        ⟨some 28, .load (some 5) (.t 9), none⟩,
                        ⟨some 29, .call (.t 26) [(.t 27), (.t 28)], none⟩,
                        ⟨some 30, .un .not (.t 29), none⟩])
                    (.cond (.t 30)
                      (.seq
                        (.region [6] [
                            ⟨some 6, .move (.c (.p (.bool false))), none⟩])
                        .ret)
                      .skip)))))
            (.region [1, 2, 15, 16, 17] [
                ⟨some 31, .bin .add (.t 17) (.c (.p (.int .i64 1))), none⟩,
                ⟨some 17, .move (.t 31), none⟩])))))

def fc25 : FC where
  nt := 32
  np := 3
  res := [.t 6]
  body :=
    (.seq
      (.region [0, 1, 2] [
          ⟨some 6, .move (.c (.p (.bool false))), none⟩])
      (.seq
        (.seq
          (.region [0, 1, 2, 14] [
              ⟨some 10, .move (.t 0), none⟩,
              ⟨some 11, .len 1 (.t 10), none⟩,
              ⟨some 12, .move (.t 1), none⟩,
              ⟨some 13, .len 1 (.t 12), none⟩,
              ⟨some 14, .bin .neq (.t 11) (.t 13), none⟩])
          (.cond (.t 14)
            (.seq
              (.region [6] [
                  ⟨some 6, .move (.c (.p (.bool false))), none⟩])
              .ret)
            .skip))
        (.seq
          (.seq
            (.region [1, 2, 15, 16, 17] [
                ⟨some 15, .move (.t 0), none⟩,
                ⟨some 16, .len 1 (.t 15), none⟩,
                ⟨some 17, .move (.c (.p (.int .i64 0))), none⟩])
            (.block 0
              (.loop [1, 2, 15, 16, 17]
                fc25_b0)))
          (.seq
            (.region [6] [
                ⟨some 6, .move (.c (.p (.bool true))), none⟩])
            .ret))))

theorem ok25 : FOk Tryd.prog 25 fc25 := FOk.of Tryd.func25 (by kernel_rfl)

/-- armature/printer.EqualSpecs$1 -/
def fc26 : FC where
  nt := 24
  np := 2
  res := [.t 4]
  body :=
    (.seq
      (.region [2, 3] [
          ⟨some 2, .box (.t 0), none⟩,
          ⟨some 3, .box (.t 1), none⟩,
          ⟨some 4, .move (.c (.p (.bool false))), none⟩])
      (.seq
        (.region [4] [
            ⟨some 5, .faddr (.t 2) 0, none⟩,
            ⟨some 6, .load none (.t 5), none⟩,
            ⟨some 7, .faddr (.t 3) 0, none⟩,
            ⟨some 8, .load none (.t 7), none⟩,
            ⟨some 9, .bin .eql (.t 6) (.t 8), none⟩,
            ⟨some 10, .move (.t 9), none⟩,
            ⟨some 11, .faddr (.t 2) 2, some (10, true)⟩,
            ⟨some 12, .load none (.t 11), some (10, true)⟩,
            ⟨some 13, .faddr (.t 3) 2, some (10, true)⟩,
            ⟨some 14, .load none (.t 13), some (10, true)⟩,
            ⟨some 15, .eqk 0 false (.t 12) (.t 14), some (10, true)⟩,
            ⟨some 16, .pick (.t 10) (.t 15) (.c (.p (.bool false))), none⟩,
            ⟨some 17, .move (.t 16), none⟩,
            ⟨some 18, .faddr (.t 2) 1, some (17, true)⟩,
            ⟨some 19, .load none (.t 18), some (17, true)⟩,
            ⟨some 20, .faddr (.t 3) 1, some (17, true)⟩,
            ⟨some 21, .load none (.t 20), some (17, true)⟩,
            ⟨some 22, .call (.c (.fn 27 [] [])) [(.t 19), (.t 21)], some (17, true)⟩,
            ⟨some 23, .pick (.t 17) (.t 22) (.c (.p (.bool false))), none⟩,
            ⟨some 4, .move (.t 23), none⟩])
        .ret))

theorem ok26 : FOk Tryd.prog 26 fc26 := FOk.of Tryd.func26 (by kernel_rfl)

/-- slices.Equal[[]int,int] -/
def fc27_b0 : SC :=
    (.seq
      (.region [0, 1, 12, 13, 14] [
          ⟨some 14, .bin .lss (.t 13) (.t 12), none⟩])
      (.seq
        (.cond (.t 14)
          .skip
          (.exit 0))
        (.seq
          (.block 1
            (.seq
              (.region [0, 1, 5, 12, 13] [
                  ⟨some 15, .move (.t 13), none⟩,
                  ⟨some 5, .move (.t 15), none⟩])
              (.seq
                (.draw [0, 1, 12, 13, 24] [(3, 7)] [
                    ⟨some 16, .move (.t 0), none⟩,
                    ⟨some 17, .move (.t 5), none⟩,
                    ⟨some 18, .iaddr none 1 (.t 16) (.t 17), none⟩,
                    ⟨some 19, .load none (.t 18), none⟩,
                    ⟨some 20, .move (.t 1), none⟩,
                    ⟨some 21, .move (.t 5), none⟩,
                    ⟨some 22, .iaddr none 1 (.t 20) (.t 21), none⟩,
                    ⟨some 23, .load none (.t 22), none⟩,
                    ⟨some 24, .bin .neq (.t 19) (.t 23), none⟩])
                (.cond (.t 24)
                  (.seq
                    (.region [4] [
                        ⟨some 4, .move (.c (.p (.bool false))), none⟩])
                    .ret)
                  .skip))))
          (.region [0, 1, 12, 13] [
              ⟨some 25, .bin .add (.t 13) (.c (.p (.int .i64 1))), none⟩,
              ⟨some 13, .move (.t 25), none⟩]))))

def fc27 : FC where
  nt := 26
  np := 2
  res := [.t 4]
  body :=
    (.seq
      (.region [0, 1] [
          ⟨some 4, .move (.c (.p (.bool false))), none⟩])
      (.seq
        (.seq
          (.region [0, 1, 10] [
              ⟨some 6, .move (.t 0), none⟩,
              ⟨some 7, .len 1 (.t 6), none⟩,
              ⟨some 8, .move (.t 1), none⟩,
              ⟨some 9, .len 1 (.t 8), none⟩,
              ⟨some 10, .bin .neq (.t 7) (.t 9), none⟩])
          (.cond (.t 10)
            (.seq
              (.region [4] [
                  ⟨some 4, .move (.c (.p (.bool false))), none⟩])
              .ret)
            .skip))
        (.seq
          (.seq
            (.region [0, 1, 12, 13] [
                ⟨some 11, .move (.t 0), none⟩,
                ⟨some 12, .len 1 (.t 11), none⟩,
                ⟨some 13, .move (.c (.p (.int .i64 0))), none⟩])
            (.block 0
              (.loop [0, 1, 12, 13]
                fc27_b0)))
          (.seq
            (.region [4] [
                ⟨some 4, .move (.c (.p (.bool true))), none⟩])
            .ret))))

theorem ok27 : FOk Tryd.prog 27 fc27 := FOk.of Tryd.func27 (by kernel_rfl)

/-- armature/printer.EqualSpecs$2 -/
def fc28 : FC where
  nt := 24
  np := 2
  res := [.t 4]
  body :=
    (.seq
      (.region [2, 3] [
          ⟨some 2, .box (.t 0), none⟩,
          ⟨some 3, .box (.t 1), none⟩,
          ⟨some 4, .move (.c (.p (.bool false))), none⟩])
      (.seq
        (.region [4] [
            ⟨some 5, .faddr (.t 2) 0, none⟩,
            ⟨some 6, .load none (.t 5), none⟩,
            ⟨some 7, .faddr (.t 3) 0, none⟩,
            ⟨some 8, .load none (.t 7), none⟩,
            ⟨some 9, .bin .eql (.t 6) (.t 8), none⟩,
            ⟨some 10, .move (.t 9), none⟩,
            ⟨some 11, .faddr (.t 2) 1, some (10, true)⟩,
            ⟨some 12, .load none (.t 11), some (10, true)⟩,
            ⟨some 13, .faddr (.t 3) 1, some (10, true)⟩,
            ⟨some 14, .load none (.t 13), some (10, true)⟩,
            ⟨some 15, .call (.c (.fn 29 [] [])) [(.t 12), (.t 14)], some (10, true)⟩,
            ⟨some 16, .pick (.t 10) (.t 15) (.c (.p (.bool false))), none⟩,
            ⟨some 17, .move (.t 16), none⟩,
            ⟨some 18, .faddr (.t 2) 2, some (17, true)⟩,
            ⟨some 19, .load (some 5) (.t 18), some (17, true)⟩,
            ⟨some 20, .faddr (.t 3) 2, some (17, true)⟩,
            ⟨some 21, .load (some 5) (.t 20), some (17, true)⟩,
            ⟨some 22, .call (.c (.fn 9 [] [])) [(.t 19), (.t 21)], some (17, true)⟩,
            ⟨some 23, .pick (.t 17) (.t 22) (.c (.p (.bool false))), none⟩,
            ⟨some 4, .move (.t 23), none⟩])
        .ret))

theorem ok28 : FOk Tryd.prog 28 fc28 := FOk.of Tryd.func28 (by kernel_rfl)

/-- slices.Equal[[]armature/api.Param,armature/api.Param] -/
def fc29_b0 : SC :=
    (.seq
      (.region [0, 1, 12, 13, 14] [
          ⟨some 14, .bin .lss (.t 13) (.t 12), none⟩])
      (.seq
        (.cond (.t 14)
          .skip
          (.exit 0))
        (.seq
          (.block 1
            (.seq
              (.region [0, 1, 5, 12, 13] [
                  ⟨some 15, .move (.t 13), none⟩,
                  ⟨some 5, .move (.t 15), none⟩])
              (.seq
                (.draw [0, 1, 12, 13, 24] [(3, 7)] [
                    ⟨some 16, .move (.t 0), none⟩,
                    ⟨some 17, .move (.t 5), none⟩,
                    ⟨some 18, .iaddr none 2 (.t 16) (.t 17), none⟩,
                    ⟨some 19, .load (some 2) (.t 18), none⟩,
                    ⟨some 20, .move (.t 1), none⟩,
                    ⟨some 21, .move (.t 5), none⟩,
                    ⟨some 22, .iaddr none 2 (.t 20) (.t 21), none⟩,
                    ⟨some 23, .load (some 2) (.t 22), none⟩,
                    ⟨some 24, .eqs true [2, 1] (.t 19) (.t 23), none⟩])
                (.cond (.t 24)
                  (.seq
                    (.region [4] [
                        ⟨some 4, .move (.c (.p (.bool false))), none⟩])
                    .ret)
                  .skip))))
          (.region [0, 1, 12, 13] [
              ⟨some 25, .bin .add (.t 13) (.c (.p (.int .i64 1))), none⟩,
              ⟨some 13, .move (.t 25), none⟩]))))

def fc29 : FC where
  nt := 26
  np := 2
  res := [.t 4]
  body :=
    (.seq
      (.region [0, 1] [
          ⟨some 4, .move (.c (.p (.bool false))), none⟩])
      (.seq
        (.seq
          (.region [0, 1, 10] [
              ⟨some 6, .move (.t 0), none⟩,
              ⟨some 7, .len 1 (.t 6), none⟩,
              ⟨some 8, .move (.t 1), none⟩,
              ⟨some 9, .len 1 (.t 8), none⟩,
              ⟨some 10, .bin .neq (.t 7) (.t 9), none⟩])
          (.cond (.t 10)
            (.seq
              (.region [4] [
                  ⟨some 4, .move (.c (.p (.bool false))), none⟩])
              .ret)
            .skip))
        (.seq
          (.seq
            (.region [0, 1, 12, 13] [
                ⟨some 11, .move (.t 0), none⟩,
                ⟨some 12, .len 1 (.t 11), none⟩,
                ⟨some 13, .move (.c (.p (.int .i64 0))), none⟩])
            (.block 0
              (.loop [0, 1, 12, 13]
                fc29_b0)))
          (.seq
            (.region [4] [
                ⟨some 4, .move (.c (.p (.bool true))), none⟩])
            .ret))))

theorem ok29 : FOk Tryd.prog 29 fc29 := FOk.of Tryd.func29 (by kernel_rfl)

/-- armature/printer.EqualSpecs$3 -/
def fc30 : FC where
  nt := 17
  np := 2
  res := [.t 4]
  body :=
    (.seq
      (.region [2, 3] [
          ⟨some 2, .box (.t 0), none⟩,
          ⟨some 3, .box (.t 1), none⟩,
          ⟨some 4, .move (.c (.p (.bool false))), none⟩])
      (.seq
        (.region [4] [
            ⟨some 5, .faddr (.t 2) 0, none⟩,
            ⟨some 6, .load none (.t 5), none⟩,
            ⟨some 7, .faddr (.t 3) 0, none⟩,
            ⟨some 8, .load none (.t 7), none⟩,
            ⟨some 9, .bin .eql (.t 6) (.t 8), none⟩,
            ⟨some 10, .move (.t 9), none⟩,
            ⟨some 11, .faddr (.t 2) 1, some (10, true)⟩,
            ⟨some 12, .load (some 5) (.t 11), some (10, true)⟩,
            ⟨some 13, .faddr (.t 3) 1, some (10, true)⟩,
            ⟨some 14, .load (some 5) (.t 13), some (10, true)⟩,
            ⟨some 15, .call (.c (.fn 9 [] [])) [(.t 12), (.t 14)], some (10, true)⟩,
            ⟨some 16, .pick (.t 10) (.t 15) (.c (.p (.bool false))), none⟩,
            ⟨some 4, .move (.t 16), none⟩])
        .ret))

theorem ok30 : FOk Tryd.prog 30 fc30 := FOk.of Tryd.func30 (by kernel_rfl)

/-- slices.Equal[[]armature/api.Sort,armature/api.Sort] -/
def fc31_b0 : SC :=
    (.seq
      (.region [0, 1, 12, 13, 14] [
          ⟨some 14, .bin .lss (.t 13) (.t 12), none⟩])
      (.seq
        (.cond (.t 14)
          .skip
          (.exit 0))
        (.seq
          (.block 1
            (.seq
              (.region [0, 1, 5, 12, 13] [
                  ⟨some 15, .move (.t 13), none⟩,
                  ⟨some 5, .move (.t 15), none⟩])
              (.seq
                (.draw [0, 1, 12, 13, 24] [(3, 7)] [
                    ⟨some 16, .move (.t 0), none⟩,
                    ⟨some 17, .move (.t 5), none⟩,
                    ⟨some 18, .iaddr none 2 (.t 16) (.t 17), none⟩,
                    ⟨some 19, .load (some 2) (.t 18), none⟩,
                    ⟨some 20, .move (.t 1), none⟩,
                    ⟨some 21, .move (.t 5), none⟩,
                    ⟨some 22, .iaddr none 2 (.t 20) (.t 21), none⟩,
                    ⟨some 23, .load (some 2) (.t 22), none⟩,
                    ⟨some 24, .eqs true [2, 0] (.t 19) (.t 23), none⟩])
                (.cond (.t 24)
                  (.seq
                    (.region [4] [
                        ⟨some 4, .move (.c (.p (.bool false))), none⟩])
                    .ret)
                  .skip))))
          (.region [0, 1, 12, 13] [
              ⟨some 25, .bin .add (.t 13) (.c (.p (.int .i64 1))), none⟩,
              ⟨some 13, .move (.t 25), none⟩]))))

def fc31 : FC where
  nt := 26
  np := 2
  res := [.t 4]
  body :=
    (.seq
      (.region [0, 1] [
          ⟨some 4, .move (.c (.p (.bool false))), none⟩])
      (.seq
        (.seq
          (.region [0, 1, 10] [
              ⟨some 6, .move (.t 0), none⟩,
              ⟨some 7, .len 1 (.t 6), none⟩,
              ⟨some 8, .move (.t 1), none⟩,
              ⟨some 9, .len 1 (.t 8), none⟩,
              ⟨some 10, .bin .neq (.t 7) (.t 9), none⟩])
          (.cond (.t 10)
            (.seq
              (.region [4] [
                  ⟨some 4, .move (.c (.p (.bool false))), none⟩])
              .ret)
            .skip))
        (.seq
          (.seq
            (.region [0, 1, 12, 13] [
                ⟨some 11, .move (.t 0), none⟩,
                ⟨some 12, .len 1 (.t 11), none⟩,
                ⟨some 13, .move (.c (.p (.int .i64 0))), none⟩])
            (.block 0
              (.loop [0, 1, 12, 13]
                fc31_b0)))
          (.seq
            (.region [4] [
                ⟨some 4, .move (.c (.p (.bool true))), none⟩])
            .ret))))

theorem ok31 : FOk Tryd.prog 31 fc31 := FOk.of Tryd.func31 (by kernel_rfl)

/-- slices.EqualFunc[[]armature/api.Field,[]armature/api.Field,armature/api.Field,armature/api.Field] -/
def fc32_b0 : SC :=
    (.loc
      (.seq
        (.region [1, 2, 15, 16, 17, 18] [
            ⟨some 18, .bin .lss (.t 17) (.t 16), none⟩])
        (.seq
          (.cond (.t 18)
            .skip
            (.exit 0))
          (.seq
            (.block 1
              (.seq
                (.region [1, 2, 7, 8, 15, 16, 17] [
                    ⟨some 19, .move (.t 17), none⟩,
                    ⟨some 20, .iaddr none 3 (.t 15) (.t 17), none⟩,
                    ⟨some 21, .load (some 3) (.t 20), none⟩,
                    ⟨some 8, .alloc [.str [], .nils, .bool false], none⟩,
                    ⟨some 7, .move (.t 19), none⟩,
                    ⟨none, .store 3 (.t 8) (.t 21), none⟩])
                (.seq
                  (.region [1, 2, 8, 9, 15, 16, 17] [
                      ⟨some 22, .move (.t 1), none⟩,
                      ⟨some 23, .move (.t 7), none⟩,
                      ⟨some 24, .iaddr none 3 (.t 22) (.t 23), none⟩,
                      ⟨some 25, .load (some 3) (.t 24), none⟩,
                      ⟨some 9, .alloc [.str [], .nils, .bool false], none⟩,
                      ⟨none, .store 3 (.t 9) (.t 25), none⟩])
                  (.seq
                    (.region [1, 2, 15, 16, 17, 30] [
                        ⟨some 26, .move (.t 2), none⟩,
                        ⟨some 27, .load (some 3) (.t 8), none⟩,
                        ⟨some 28, .load (some 3) (.t 9), none⟩,
                        ⟨some 29, .call (.t 26) [(.t 27), (.t 28)], none⟩,
                        ⟨some 30, .un .not (.t 29), none⟩])
                    (.cond (.t 30)
                      (.seq
                        (.region [6] [
                            ⟨some 6, .move (.c (.p (.bool false))), none⟩])
                        .ret)
                      .skip)))))
            (.region [1, 2, 15, 16, 17] [
                ⟨some 31, .bin .add (.t 17) (.c (.p (.int .i64 1))), none⟩,
                ⟨some 17, .move (.t 31), none⟩])))))

def fc32 : FC where
  nt := 32
  np := 3
  res := [.t 6]
  body :=
    (.seq
      (.region [0, 1, 2] [
          ⟨some 6, .move (.c (.p (.bool false))), none⟩])
      (.seq
        (.seq
          (.region [0, 1, 2, 14] [
              ⟨some 10, .move (.t 0), none⟩,
              ⟨some 11, .len 1 (.t 10), none⟩,
              ⟨some 12, .move (.t 1), none⟩,
              ⟨some 13, .len 1 (.t 12), none⟩,
              ⟨some 14, .bin .neq (.t 11) (.t 13), none⟩])
          (.cond (.t 14)
            (.seq
              (.region [6] [
                  ⟨some 6, .move (.c (.p (.bool false))), none⟩])
              .ret)
            .skip))
        (.seq
          (.seq
            (.region [1, 2, 15, 16, 17] [
                ⟨some 15, .move (.t 0), none⟩,
                ⟨some 16, .len 1 (.t 15), none⟩,
                ⟨some 17, .move (.c (.p (.int .i64 0))), none⟩])
            (.block 0
              (.loop [1, 2, 15, 16, 17]
                fc32_b0)))
          (.seq
            (.region [6] [
                ⟨some 6, .move (.c (.p (.bool true))), none⟩])
            .ret))))

theorem ok32 : FOk Tryd.prog 32 fc32 := FOk.of Tryd.func32 (by kernel_rfl)

/-- slices.EqualFunc[[]armature/api.Pred,[]armature/api.Pred,armature/api.Pred,armature/api.Pred] -/
def fc33_b0 : SC :=
    (.loc
      (.seq
        (.region [1, 2, 15, 16, 17, 18] [
            ⟨some 18, .bin .lss (.t 17) (.t 16), none⟩])
        (.seq
          (.cond (.t 18)
            .skip
            (.exit 0))
          (.seq
            (.block 1
              (.seq
                (.region [1, 2, 7, 8, 15, 16, 17] [
                    ⟨some 19, .move (.t 17), none⟩,
                    ⟨some 20, .iaddr none 7 (.t 15) (.t 17), none⟩,
                    ⟨some 21, .load (some 7) (.t 20), none⟩,
                    ⟨some 8, .alloc [.str [], .nils, .int .i64 0, .str [], .int .i64 0, .nils, .int .i64 0], none⟩,
                    ⟨some 7, .move (.t 19), none⟩,
                    ⟨none, .store 7 (.t 8) (.t 21), none⟩])
                (.seq
                  (.region [1, 2, 8, 9, 15, 16, 17] [
                      ⟨some 22, .move (.t 1), none⟩,
                      ⟨some 23, .move (.t 7), none⟩,
                      ⟨some 24, .iaddr none 7 (.t 22) (.t 23), none⟩,
                      ⟨some 25, .load (some 7) (.t 24), none⟩,
                      ⟨some 9, .alloc [.str [], .nils, .int .i64 0, .str [], .int .i64 0, .nils, .int .i64 0], none⟩,
                      ⟨none, .store 7 (.t 9) (.t 25), none⟩])
                  (.seq
                    (.region [1, 2, 15, 16, 17, 30] [
                        ⟨some 26, .move (.t 2), none⟩,
                        ⟨some 27, .load (some 7) (.t 8), none⟩,
                        ⟨some 28, .load (some 7) (.t 9), none⟩,
                        ⟨some 29, .call (.t 26) [(.t 27), (.t 28)], none⟩,
                        ⟨some 30, .un .not (.t 29), none⟩])
                    (.cond (.t 30)
                      (.seq
                        (.region [6] [
                            ⟨some 6, .move (.c (.p (.bool false))), none⟩])
                        .ret)
                      .skip)))))
            (.region [1, 2, 15, 16, 17] [
                ⟨some 31, .bin .add (.t 17) (.c (.p (.int .i64 1))), none⟩,
                ⟨some 17, .move (.t 31), none⟩])))))

def fc33 : FC where
  nt := 32
  np := 3
  res := [.t 6]
  body :=
    (.seq
      (.region [0, 1, 2] [
          ⟨some 6, .move (.c (.p (.bool false))), none⟩])
      (.seq
        (.seq
          (.region [0, 1, 2, 14] [
              ⟨some 10, .move (.t 0), none⟩,
              ⟨some 11, .len 1 (.t 10), none⟩,
              ⟨some 12, .move (.t 1), none⟩,
              ⟨some 13, .len 1 (.t 12), none⟩,
              ⟨some 14, .bin .neq (.t 11) (.t 13), none⟩])
          (.cond (.t 14)
            (.seq
              (.region [6] [
                  ⟨some 6, .move (.c (.p (.bool false))), none⟩])
              .ret)
            .skip))
        (.seq
          (.seq
            (.region [1, 2, 15, 16, 17] [
                ⟨some 15, .move (.t 0), none⟩,
                ⟨some 16, .len 1 (.t 15), none⟩,
                ⟨some 17, .move (.c (.p (.int .i64 0))), none⟩])
            (.block 0
              (.loop [1, 2, 15, 16, 17]
                fc33_b0)))
          (.seq
            (.region [6] [
                ⟨some 6, .move (.c (.p (.bool true))), none⟩])
            .ret))))

theorem ok33 : FOk Tryd.prog 33 fc33 := FOk.of Tryd.func33 (by kernel_rfl)

/-- slices.EqualFunc[[]armature/api.Fact,[]armature/api.Fact,armature/api.Fact,armature/api.Fact] -/
def fc34_b0 : SC :=
    (.loc
      (.seq
        (.region [1, 2, 15, 16, 17, 18] [
            ⟨some 18, .bin .lss (.t 17) (.t 16), none⟩])
        (.seq
          (.cond (.t 18)
            .skip
            (.exit 0))
          (.seq
            (.block 1
              (.seq
                (.region [1, 2, 7, 8, 15, 16, 17] [
                    ⟨some 19, .move (.t 17), none⟩,
                    ⟨some 20, .iaddr none 6 (.t 15) (.t 17), none⟩,
                    ⟨some 21, .load (some 6) (.t 20), none⟩,
                    ⟨some 8, .alloc [.str [], .int .i64 0, .str [], .int .i64 0, .nils, .int .i64 0], none⟩,
                    ⟨some 7, .move (.t 19), none⟩,
                    ⟨none, .store 6 (.t 8) (.t 21), none⟩])
                (.seq
                  (.region [1, 2, 8, 9, 15, 16, 17] [
                      ⟨some 22, .move (.t 1), none⟩,
                      ⟨some 23, .move (.t 7), none⟩,
                      ⟨some 24, .iaddr none 6 (.t 22) (.t 23), none⟩,
                      ⟨some 25, .load (some 6) (.t 24), none⟩,
                      ⟨some 9, .alloc [.str [], .int .i64 0, .str [], .int .i64 0, .nils, .int .i64 0], none⟩,
                      ⟨none, .store 6 (.t 9) (.t 25), none⟩])
                  (.seq
                    (.region [1, 2, 15, 16, 17, 30] [
                        ⟨some 26, .move (.t 2), none⟩,
                        ⟨some 27, .load (some 6) (.t 8), none⟩,
                        ⟨some 28, .load (some 6) (.t 9), none⟩,
                        ⟨some 29, .call (.t 26) [(.t 27), (.t 28)], none⟩,
                        ⟨some 30, .un .not (.t 29), none⟩])
                    (.cond (.t 30)
                      (.seq
                        (.region [6] [
                            ⟨some 6, .move (.c (.p (.bool false))), none⟩])
                        .ret)
                      .skip)))))
            (.region [1, 2, 15, 16, 17] [
                ⟨some 31, .bin .add (.t 17) (.c (.p (.int .i64 1))), none⟩,
                ⟨some 17, .move (.t 31), none⟩])))))

def fc34 : FC where
  nt := 32
  np := 3
  res := [.t 6]
  body :=
    (.seq
      (.region [0, 1, 2] [
          ⟨some 6, .move (.c (.p (.bool false))), none⟩])
      (.seq
        (.seq
          (.region [0, 1, 2, 14] [
              ⟨some 10, .move (.t 0), none⟩,
              ⟨some 11, .len 1 (.t 10), none⟩,
              ⟨some 12, .move (.t 1), none⟩,
              ⟨some 13, .len 1 (.t 12), none⟩,
              ⟨some 14, .bin .neq (.t 11) (.t 13), none⟩])
          (.cond (.t 14)
            (.seq
              (.region [6] [
                  ⟨some 6, .move (.c (.p (.bool false))), none⟩])
              .ret)
            .skip))
        (.seq
          (.seq
            (.region [1, 2, 15, 16, 17] [
                ⟨some 15, .move (.t 0), none⟩,
                ⟨some 16, .len 1 (.t 15), none⟩,
                ⟨some 17, .move (.c (.p (.int .i64 0))), none⟩])
            (.block 0
              (.loop [1, 2, 15, 16, 17]
                fc34_b0)))
          (.seq
            (.region [6] [
                ⟨some 6, .move (.c (.p (.bool true))), none⟩])
            .ret))))

theorem ok34 : FOk Tryd.prog 34 fc34 := FOk.of Tryd.func34 (by kernel_rfl)

/-- armature/armatureref03.ints -/
def fc35_b0 : SC :=
    (.seq
      (.seq
        (.region [0, 1, 5, 14] [
            ⟨some 11, .move (.t 5), none⟩,
            ⟨some 12, .move (.t 0), none⟩,
            ⟨some 13, .len 1 (.t 12), none⟩,
            ⟨some 14, .bin .lss (.t 11) (.t 13), none⟩])
        (.cond (.t 14)
          .skip
          (.exit 0)))
      (.seq
        (.block 1
          (.seq
            (.draw [0, 1, 5, 25] [(3, 7)] [
                ⟨some 17, .move (.t 0), none⟩,
                ⟨some 18, .move (.t 5), none⟩,
                ⟨some 19, .iaddr none 1 (.t 17) (.t 18), none⟩,
                ⟨some 20, .load none (.t 19), none⟩,
                ⟨some 21, .move (.t 1), none⟩,
                ⟨some 22, .move (.t 5), none⟩,
                ⟨some 23, .iaddr none 1 (.t 21) (.t 22), none⟩,
                ⟨some 24, .load none (.t 23), none⟩,
                ⟨some 25, .bin .neq (.t 20) (.t 24), none⟩])
            (.cond (.t 25)
              (.seq
                (.region [4] [
                    ⟨some 4, .move (.c (.p (.bool false))), none⟩])
                .ret)
              .skip)))
        (.region [0, 1, 5] [
            ⟨some 15, .move (.t 5), none⟩,
            ⟨some 16, .bin .add (.t 15) (.c (.p (.int .i64 1))), none⟩,
            ⟨some 5, .move (.t 16), none⟩])))

def fc35 : FC where
  nt := 26
  np := 2
  res := [.t 4]
  body :=
    (.seq
      (.region [0, 1] [
          ⟨some 4, .move (.c (.p (.bool false))), none⟩])
      (.seq
        (.seq
          (.region [0, 1, 10] [
              ⟨some 6, .move (.t 0), none⟩,
              ⟨some 7, .len 1 (.t 6), none⟩,
              ⟨some 8, .move (.t 1), none⟩,
              ⟨some 9, .len 1 (.t 8), none⟩,
              ⟨some 10, .bin .neq (.t 7) (.t 9), none⟩])
          (.cond (.t 10)
            (.seq
              (.region [4] [
                  ⟨some 4, .move (.c (.p (.bool false))), none⟩])
              .ret)
            .skip))
        (.seq
          (.seq
            (.region [0, 1, 5] [
                ⟨some 5, .move (.c (.p (.int .i64 0))), none⟩])
            (.block 0
              (.loop [0, 1, 5]
                fc35_b0)))
          (.seq
            (.region [4] [
                ⟨some 4, .move (.c (.p (.bool true))), none⟩])
            .ret))))

theorem ok35 : FOk Tryd.prog 35 fc35 := FOk.of Tryd.func35 (by kernel_rfl)

/-- armature/armatureref03.params -/
def fc36_b0 : SC :=
    (.seq
      (.seq
        (.region [0, 1, 5, 14] [
            ⟨some 11, .move (.t 5), none⟩,
            ⟨some 12, .move (.t 0), none⟩,
            ⟨some 13, .len 1 (.t 12), none⟩,
            ⟨some 14, .bin .lss (.t 11) (.t 13), none⟩])
        (.cond (.t 14)
          .skip
          (.exit 0)))
      (.seq
        (.block 1
          (.seq
            (.draw [0, 1, 5, 25] [(3, 7)] [
                ⟨some 17, .move (.t 0), none⟩,
                ⟨some 18, .move (.t 5), none⟩,
                ⟨some 19, .iaddr none 2 (.t 17) (.t 18), none⟩,
                ⟨some 20, .load (some 2) (.t 19), none⟩,
                ⟨some 21, .move (.t 1), none⟩,
                ⟨some 22, .move (.t 5), none⟩,
                ⟨some 23, .iaddr none 2 (.t 21) (.t 22), none⟩,
                ⟨some 24, .load (some 2) (.t 23), none⟩,
                ⟨some 25, .eqs true [2, 1] (.t 20) (.t 24), none⟩])
            (.cond (.t 25)
              (.seq
                (.region [4] [
                    ⟨some 4, .move (.c (.p (.bool false))), none⟩])
                .ret)
              .skip)))
        (.region [0, 1, 5] [
            ⟨some 15, .move (.t 5), none⟩,
            ⟨some 16, .bin .add (.t 15) (.c (.p (.int .i64 1))), none⟩,
            ⟨some 5, .move (.t 16), none⟩])))

def fc36 : FC where
  nt := 26
  np := 2
  res := [.t 4]
  body :=
    (.seq
      (.region [0, 1] [
          ⟨some 4, .move (.c (.p (.bool false))), none⟩])
      (.seq
        (.seq
          (.region [0, 1, 10] [
              ⟨some 6, .move (.t 0), none⟩,
              ⟨some 7, .len 1 (.t 6), none⟩,
              ⟨some 8, .move (.t 1), none⟩,
              ⟨some 9, .len 1 (.t 8), none⟩,
              ⟨some 10, .bin .neq (.t 7) (.t 9), none⟩])
          (.cond (.t 10)
            (.seq
              (.region [4] [
                  ⟨some 4, .move (.c (.p (.bool false))), none⟩])
              .ret)
            .skip))
        (.seq
          (.seq
            (.region [0, 1, 5] [
                ⟨some 5, .move (.c (.p (.int .i64 0))), none⟩])
            (.block 0
              (.loop [0, 1, 5]
                fc36_b0)))
          (.seq
            (.region [4] [
                ⟨some 4, .move (.c (.p (.bool true))), none⟩])
            .ret))))

theorem ok36 : FOk Tryd.prog 36 fc36 := FOk.of Tryd.func36 (by kernel_rfl)

/-- armature/armatureref02.count -/
def fc37_b0 : SC :=
    (.loc
      (.seq
        (.seq
          (.region [1, 2, 5, 6, 16] [
              ⟨some 7, .move (.t 6), none⟩,
              ⟨some 8, .faddr (.t 2) 3, none⟩,
              ⟨some 9, .load none (.t 8), none⟩,
              ⟨some 10, .len 1 (.t 9), none⟩,
              ⟨some 11, .bin .lss (.t 7) (.t 10), none⟩,
              ⟨some 12, .move (.t 11), none⟩,
              ⟨some 13, .move (.t 5), some (12, true)⟩,
              ⟨some 14, .move (.t 1), some (12, true)⟩,
              ⟨some 15, .bin .leq (.t 13) (.t 14), some (12, true)⟩,
              ⟨some 16, .pick (.t 12) (.t 15) (.c (.p (.bool false))), none⟩])
          (.cond (.t 16)
            .skip
            (.exit 0)))
        (.seq
          (.block 1
            (.region [1, 2, 5, 6] [
                ⟨some 19, .move (.t 5), none⟩,
                ⟨some 20, .faddr (.t 2) 3, none⟩,
                ⟨some 21, .load none (.t 20), none⟩,
                ⟨some 22, .move (.t 6), none⟩,
                ⟨some 23, .iaddr none 5 (.t 21) (.t 22), none⟩,
                ⟨some 24, .load (some 5) (.t 23), none⟩,
                ⟨some 25, .move (.t 1), none⟩,
                ⟨some 26, .move (.t 5), none⟩,
                ⟨some 27, .bin .sub (.t 25) (.t 26), none⟩,
                ⟨some 28, .call (.c (.fn 37 [] [])) [(.t 24), (.t 27)], none⟩,
                ⟨some 29, .bin .add (.t 19) (.t 28), none⟩,
                ⟨some 5, .move (.t 29), none⟩]))
          (.region [1, 2, 5, 6] [
              ⟨some 17, .move (.t 6), none⟩,
              ⟨some 18, .bin .add (.t 17) (.c (.p (.int .i64 1))), none⟩,
              ⟨some 6, .move (.t 18), none⟩]))))

def fc37 : FC where
  nt := 31
  np := 2
  res := [.t 4]
  body :=
    (.seq
      (.region [1, 2] [
          ⟨some 2, .box (.t 0), none⟩,
          ⟨some 4, .move (.c (.p (.int .i64 0))), none⟩])
      (.seq
        (.region [1, 2, 5] [
            ⟨some 5, .move (.c (.p (.int .i64 1))), none⟩])
        (.seq
          (.seq
            (.region [1, 2, 5, 6] [
                ⟨some 6, .move (.c (.p (.int .i64 0))), none⟩])
            (.block 0
              (.loop [1, 2, 5, 6]
                fc37_b0)))
          (.seq
            (.region [4] [
                ⟨some 30, .move (.t 5), none⟩,
                ⟨some 4, .move (.t 30), none⟩])
            .ret))))

theorem ok37 : FOk Tryd.prog 37 fc37 := FOk.of Tryd.func37 (by kernel_rfl)

/-- armature/armatureref02.formed -/
def fc38_b0 : SC :=
    (.loc
      (.seq
        (.seq
          (.region [1, 2, 5, 25] [
              ⟨some 21, .move (.t 5), none⟩,
              ⟨some 22, .faddr (.t 2) 3, none⟩,
              ⟨some 23, .load none (.t 22), none⟩,
              ⟨some 24, .len 1 (.t 23), none⟩,
              ⟨some 25, .bin .lss (.t 21) (.t 24), none⟩])
          (.cond (.t 25)
            .skip
            (.exit 0)))
        (.seq
          (.block 1
            (.seq
              (.region [1, 2, 5, 36] [
                  ⟨some 28, .faddr (.t 2) 3, none⟩,
                  ⟨some 29, .load none (.t 28), none⟩,
                  ⟨some 30, .move (.t 5), none⟩,
                  ⟨some 31, .iaddr none 5 (.t 29) (.t 30), none⟩,
                  ⟨some 32, .load (some 5) (.t 31), none⟩,
                  ⟨some 33, .move (.t 1), none⟩,
                  ⟨some 34, .bin .sub (.t 33) (.c (.p (.int .i64 1))), none⟩,
                  ⟨some 35, .call (.c (.fn 38 [] [])) [(.t 32), (.t 34)], none⟩,
                  ⟨some 36, .un .not (.t 35), none⟩])
              (.cond (.t 36)
                (.seq
                  (.region [4] [
                      ⟨some 4, .move (.c (.p (.bool false))), none⟩])
                  .ret)
                .skip)))
          (.region [1, 2, 5] [
              ⟨some 26, .move (.t 5), none⟩,
              ⟨some 27, .bin .add (.t 26) (.c (.p (.int .i64 1))), none⟩,
              ⟨some 5, .move (.t 27), none⟩]))))

def fc38 : FC where
  nt := 37
  np := 2
  res := [.t 4]
  body :=
    (.seq
      (.region [1, 2] [
          ⟨some 2, .box (.t 0), none⟩,
          ⟨some 4, .move (.c (.p (.bool false))), none⟩])
      (.seq
        (.seq
          (.region [1, 2, 20] [
              ⟨some 6, .move (.t 1), none⟩,
              ⟨some 7, .bin .lss (.t 6) (.c (.p (.int .i64 1))), none⟩,
              ⟨some 8, .move (.t 7), none⟩,
              ⟨some 9, .load (some 5) (.t 2), some (8, false)⟩,
              ⟨some 10, .call (.c (.fn 57 [] [])) [(.t 9)], some (8, false)⟩,
              ⟨some 11, .un .not (.t 10), some (8, false)⟩,
              ⟨some 12, .pick (.t 8) (.c (.p (.bool true))) (.t 11), none⟩,
              ⟨some 13, .move (.t 12), none⟩,
              ⟨some 14, .faddr (.t 2) 0, some (13, false)⟩,
              ⟨some 15, .load none (.t 14), some (13, false)⟩,
              ⟨some 16, .faddr (.t 2) 3, some (13, false)⟩,
              ⟨some 17, .load none (.t 16), some (13, false)⟩,
              ⟨some 18, .call (.c (.fn 58 [] [])) [(.t 15), (.t 17)], some (13, false)⟩,
              ⟨some 19, .un .not (.t 18), some (13, false)⟩,
              ⟨some 20, .pick (.t 13) (.c (.p (.bool true))) (.t 19), none⟩])
          (.cond (.t 20)
            (.seq
              (.region [4] [
                  ⟨some 4, .move (.c (.p (.bool false))), none⟩])
              .ret)
            .skip))
        (.seq
          (.seq
            (.region [1, 2, 5] [
                ⟨some 5, .move (.c (.p (.int .i64 0))), none⟩])
            (.block 0
              (.loop [1, 2, 5]
                fc38_b0)))
          (.seq
            (.region [4] [
                ⟨some 4, .move (.c (.p (.bool true))), none⟩])
            .ret))))

theorem ok38 : FOk Tryd.prog 38 fc38 := FOk.of Tryd.func38 (by kernel_rfl)

/-- armature/printer.newPrinter -/
def fc39 : FC where
  nt := 5
  np := 0
  res := [.t 0]
  body :=
    (.seq
      (.region [] [
          ⟨some 0, .move (.c (.p (.nilp))), none⟩])
      (.seq
        (.region [0] [
            ⟨some 1, .call (.c (.fn 59 [] [])) [], none⟩,
            ⟨some 2, .call (.c (.fn 60 [] [])) [], none⟩,
            ⟨some 3, .build [.nilp, .nils, .nilm, .nilm] [(2, 1, (.t 1)), (3, 1, (.t 2))], none⟩,
            ⟨some 4, .boxB 78 (.t 3), none⟩,
            ⟨some 0, .move (.t 4), none⟩])
        .ret))

theorem ok39 : FOk Tryd.prog 39 fc39 := FOk.of Tryd.func39 (by kernel_rfl)

/-- (*armature/printer.printer).node -/
def fc40 : FC where
  nt := 173
  np := 3
  res := []
  body :=
    (.seq
      (.region [0, 2, 4] [
          ⟨some 4, .box (.t 1), none⟩])
      (.seq
        (.seq
          (.draw [0, 2, 4, 6, 7] [(3, 5), (3, 10), (5, 10), (6, 10)] [
              ⟨some 11, .move (.t 0), none⟩,
              ⟨some 12, .nilCheck (.t 11), none⟩,
              ⟨some 13, .faddr (.t 12) 2, none⟩,
              ⟨some 14, .load none (.t 13), none⟩,
              ⟨some 15, .faddr (.t 4) 0, none⟩,
              ⟨some 16, .load none (.t 15), none⟩,
              ⟨some 17, .mapget 13 (.agg [.str [], .int .i64 0, .int .i64 0, .int .i64 0]) true (.t 14) (.t 16), none⟩,
              ⟨some 10, .move (.t 17), none⟩,
              ⟨some 18, .extract (.t 10) 0, none⟩,
              ⟨some 19, .extract (.t 10) 1, none⟩,
              ⟨some 6, .alloc [.str [], .int .i64 0, .int .i64 0, .int .i64 0], none⟩,
              ⟨none, .store 4 (.t 6) (.t 18), none⟩,
              ⟨some 7, .move (.t 19), none⟩])
          (.seq
            (.region [0, 2, 4, 6, 20] [
                ⟨some 20, .move (.t 7), none⟩])
            (.cond (.t 20)
              (.seq
                (.draw [0, 2, 4, 6] [(1, 5), (2, 5)] [
                    ⟨some 21, .move (.t 0), none⟩,
                    ⟨some 22, .load (some 5) (.t 4), none⟩,
                    ⟨some 23, .call (.c (.fn 62 [] [])) [(.t 22), (.c (.p (.int .i64 0)))], none⟩,
                    ⟨some 24, .faddr (.t 6) 2, none⟩,
                    ⟨some 25, .iaddr (some 2) 1 (.t 24) (.c (.p (.int .i64 0))), none⟩,
                    ⟨some 26, .load none (.t 25), none⟩,
                    ⟨some 27, .call (.c (.fn 61 [] [])) [(.t 21), (.t 23), (.t 26), (.c (.p (.bool false)))], none⟩])
                (.seq
                  (.draw [0, 2, 4, 6] [] [
                      ⟨some 28, .move (.t 0), none⟩,
                      ⟨some 29, .nilCheck (.t 28), none⟩,
                      ⟨some 30, .faddr (.t 29) 0, none⟩,
                      ⟨some 31, .faddr (.t 6) 0, none⟩,
                      ⟨some 32, .load none (.t 31), none⟩,
                      ⟨some 33, .call (.c (.fn 49 [] [])) [(.t 30), (.t 32)], none⟩])
                  (.seq
                    (.draw [] [(1, 5), (2, 5)] [
                        ⟨some 34, .move (.t 0), none⟩,
                        ⟨some 35, .load (some 5) (.t 4), none⟩,
                        ⟨some 36, .call (.c (.fn 62 [] [])) [(.t 35), (.c (.p (.int .i64 1)))], none⟩,
                        ⟨some 37, .faddr (.t 6) 2, none⟩,
                        ⟨some 38, .iaddr (some 2) 1 (.t 37) (.c (.p (.int .i64 1))), none⟩,
                        ⟨some 39, .load none (.t 38), none⟩,
                        ⟨some 40, .move (.t 2), none⟩,
                        ⟨some 41, .call (.c (.fn 61 [] [])) [(.t 34), (.t 36), (.t 39), (.t 40)], none⟩])
                    .ret)))
              .skip)))
        (.seq
          (.seq
            (.draw [0, 2, 4, 8, 9] [(3, 5), (3, 10), (5, 10), (6, 10)] [
                ⟨some 43, .move (.t 0), none⟩,
                ⟨some 44, .nilCheck (.t 43), none⟩,
                ⟨some 45, .faddr (.t 44) 3, none⟩,
                ⟨some 46, .load none (.t 45), none⟩,
                ⟨some 47, .faddr (.t 4) 0, none⟩,
                ⟨some 48, .load none (.t 47), none⟩,
                ⟨some 49, .mapget 13 (.agg [.str [], .int .i64 0, .int .i64 0, .int .i64 0]) true (.t 46) (.t 48), none⟩,
                ⟨some 42, .move (.t 49), none⟩,
                ⟨some 50, .extract (.t 42) 0, none⟩,
                ⟨some 51, .extract (.t 42) 1, none⟩,
                ⟨some 8, .alloc [.str [], .int .i64 0, .int .i64 0, .int .i64 0], none⟩,
                ⟨none, .store 4 (.t 8) (.t 50), none⟩,
                ⟨some 9, .move (.t 51), none⟩])
            (.seq
              (.region [0, 2, 4, 8, 52] [
                  ⟨some 52, .move (.t 9), none⟩])
              (.cond (.t 52)
                (.seq
                  (.draw [0, 2, 4, 8] [] [
                      ⟨some 53, .move (.t 0), none⟩,
                      ⟨some 54, .nilCheck (.t 53), none⟩,
                      ⟨some 55, .faddr (.t 54) 0, none⟩,
                      ⟨some 56, .faddr (.t 8) 0, none⟩,
                      ⟨some 57, .load none (.t 56), none⟩,
                      ⟨some 58, .call (.c (.fn 49 [] [])) [(.t 55), (.t 57)], none⟩])
                  (.seq
                    (.draw [] [(1, 5), (2, 5)] [
                        ⟨some 59, .move (.t 0), none⟩,
                        ⟨some 60, .load (some 5) (.t 4), none⟩,
                        ⟨some 61, .call (.c (.fn 62 [] [])) [(.t 60), (.c (.p (.int .i64 0)))], none⟩,
                        ⟨some 62, .faddr (.t 8) 2, none⟩,
                        ⟨some 63, .iaddr (some 2) 1 (.t 62) (.c (.p (.int .i64 0))), none⟩,
                        ⟨some 64, .load none (.t 63), none⟩,
                        ⟨some 65, .move (.t 2), none⟩,
                        ⟨some 66, .call (.c (.fn 61 [] [])) [(.t 59), (.t 61), (.t 64), (.t 65)], none⟩])
                    .ret))
                .skip)))
          (.seq
            (.region [0, 4, 68] [
                ⟨some 67, .faddr (.t 4) 0, none⟩,
                ⟨some 68, .load none (.t 67), none⟩])
            (.block 0
              (.seq
                (.region [0, 4, 68, 78] [
                    ⟨some 79, .bin .eql (.t 68) (.c (.p (.int .i64 1))), none⟩,
                    ⟨some 78, .move (.t 79), none⟩])
                (.cond (.t 78)
                  (.draw [] [] [
                      ⟨some 80, .move (.t 0), none⟩,
                      ⟨some 81, .nilCheck (.t 80), none⟩,
                      ⟨some 82, .faddr (.t 81) 0, none⟩,
                      ⟨some 83, .faddr (.t 4) 1, none⟩,
                      ⟨some 84, .load none (.t 83), none⟩,
                      ⟨some 85, .call (.c (.fn 49 [] [])) [(.t 82), (.t 84)], none⟩])
                  (.seq
                    (.region [0, 4, 68, 86] [
                        ⟨some 87, .bin .eql (.t 68) (.c (.p (.int .i64 2))), none⟩,
                        ⟨some 86, .move (.t 87), none⟩])
                    (.cond (.t 86)
                      (.seq
                        (.region [0, 4] [
                            ⟨some 88, .move (.t 0), none⟩,
                            ⟨some 89, .nilCheck (.t 88), none⟩,
                            ⟨some 90, .faddr (.t 89) 0, none⟩,
                            ⟨some 91, .call (.c (.fn 49 [] [])) [(.t 90), (.c (.p (.str [110, 111, 110, 101])))], none⟩])
                        (.seq
                          (.region [0, 4, 94] [
                              ⟨some 92, .faddr (.t 4) 2, none⟩,
                              ⟨some 93, .load none (.t 92), none⟩,
                              ⟨some 94, .bin .neq (.t 93) (.c (.p (.int .i64 1))), none⟩])
                          (.cond (.t 94)
                            (.draw [] [] [
                                ⟨some 95, .move (.t 0), none⟩,
                                ⟨some 96, .nilCheck (.t 95), none⟩,
                                ⟨some 97, .faddr (.t 96) 0, none⟩,
                                ⟨some 98, .faddr (.t 4) 2, none⟩,
                                ⟨some 99, .load none (.t 98), none⟩,
                                ⟨some 100, .call (.c (.fn 63 [] [])) [(.t 99)], none⟩,
                                ⟨some 101, .bin .add (.c (.p (.str [91]))) (.t 100), none⟩,
                                ⟨some 102, .bin .add (.t 101) (.c (.p (.str [93]))), none⟩,
                                ⟨some 103, .call (.c (.fn 49 [] [])) [(.t 97), (.t 102)], none⟩])
                            .skip)))
                      (.seq
                        (.region [0, 4, 68, 104] [
                            ⟨some 105, .bin .eql (.t 68) (.c (.p (.int .i64 20))), none⟩,
                            ⟨some 104, .move (.t 105), none⟩])
                        (.cond (.t 104)
                          (.draw [] [] [
                              ⟨some 106, .move (.t 0), none⟩,
                              ⟨some 107, .nilCheck (.t 106), none⟩,
                              ⟨some 108, .faddr (.t 107) 0, none⟩,
                              ⟨some 109, .faddr (.t 4) 2, none⟩,
                              ⟨some 110, .load none (.t 109), none⟩,
                              ⟨some 111, .call (.c (.fn 63 [] [])) [(.t 110)], none⟩,
                              ⟨some 112, .call (.c (.fn 49 [] [])) [(.t 108), (.t 111)], none⟩])
                          (.seq
                            (.region [0, 4, 68, 113] [
                                ⟨some 114, .bin .eql (.t 68) (.c (.p (.int .i64 5))), none⟩,
                                ⟨some 113, .move (.t 114), none⟩])
                            (.cond (.t 113)
                              (.seq
                                (.region [0] [
                                    ⟨some 115, .move (.t 0), none⟩,
                                    ⟨some 116, .load (some 5) (.t 4), none⟩,
                                    ⟨some 117, .call (.c (.fn 62 [] [])) [(.t 116), (.c (.p (.int .i64 0)))], none⟩,
                                    ⟨some 118, .call (.c (.fn 61 [] [])) [(.t 115), (.t 117), (.c (.p (.int .i64 14))), (.c (.p (.bool false)))], none⟩])
                                (.region [] [
                                    ⟨some 119, .move (.t 0), none⟩,
                                    ⟨some 120, .nilCheck (.t 119), none⟩,
                                    ⟨some 121, .faddr (.t 120) 0, none⟩,
                                    ⟨some 122, .call (.c (.fn 64 [] [])) [(.t 121), (.c (.p (.int .u8 39)))], none⟩]))
                              (.seq
                                (.region [0, 4, 68, 123] [
                                    ⟨some 124, .bin .eql (.t 68) (.c (.p (.int .i64 45))), none⟩,
                                    ⟨some 123, .move (.t 124), none⟩])
                                (.cond (.t 123)
                                  (.seq
                                    (.region [0, 4] [
                                        ⟨some 125, .move (.t 0), none⟩,
                                        ⟨some 126, .nilCheck (.t 125), none⟩,
                                        ⟨some 127, .faddr (.t 126) 0, none⟩,
                                        ⟨some 128, .call (.c (.fn 49 [] [])) [(.t 127), (.c (.p (.str [97, 108, 108, 32])))], none⟩])
                                    (.region [] [
                                        ⟨some 129, .move (.t 0), none⟩,
                                        ⟨some 130, .load (some 5) (.t 4), none⟩,
                                        ⟨some 131, .call (.c (.fn 65 [] [])) [(.t 129), (.t 130)], none⟩]))
                                  (.seq
                                    (.region [0, 4, 68, 132] [
                                        ⟨some 133, .bin .eql (.t 68) (.c (.p (.int .i64 46))), none⟩,
                                        ⟨some 132, .move (.t 133), none⟩])
                                    (.cond (.t 132)
                                      (.seq
                                        (.region [0, 4] [
                                            ⟨some 134, .move (.t 0), none⟩,
                                            ⟨some 135, .nilCheck (.t 134), none⟩,
                                            ⟨some 136, .faddr (.t 135) 0, none⟩,
                                            ⟨some 137, .call (.c (.fn 49 [] [])) [(.t 136), (.c (.p (.str [115, 111, 109, 101, 32])))], none⟩])
                                        (.region [] [
                                            ⟨some 138, .move (.t 0), none⟩,
                                            ⟨some 139, .load (some 5) (.t 4), none⟩,
                                            ⟨some 140, .call (.c (.fn 65 [] [])) [(.t 138), (.t 139)], none⟩]))
                                      (.seq
                                        (.region [0, 4, 68, 141] [
                                            ⟨some 142, .bin .eql (.t 68) (.c (.p (.int .i64 15))), none⟩,
                                            ⟨some 141, .move (.t 142), none⟩])
                                        (.cond (.t 141)
                                          (.seq
                                            (.region [0, 4] [
                                                ⟨some 143, .move (.t 0), none⟩,
                                                ⟨some 144, .nilCheck (.t 143), none⟩,
                                                ⟨some 145, .faddr (.t 144) 0, none⟩,
                                                ⟨some 146, .call (.c (.fn 64 [] [])) [(.t 145), (.c (.p (.int .u8 123)))], none⟩])
                                            (.seq
                                              (.region [0] [
                                                  ⟨some 147, .move (.t 0), none⟩,
                                                  ⟨some 148, .load (some 5) (.t 4), none⟩,
                                                  ⟨some 149, .call (.c (.fn 65 [] [])) [(.t 147), (.t 148)], none⟩])
                                              (.region [] [
                                                  ⟨some 150, .move (.t 0), none⟩,
                                                  ⟨some 151, .nilCheck (.t 150), none⟩,
                                                  ⟨some 152, .faddr (.t 151) 0, none⟩,
                                                  ⟨some 153, .call (.c (.fn 64 [] [])) [(.t 152), (.c (.p (.int .u8 125)))], none⟩])))
                                          (.seq
                                            (.region [0, 4, 154] [
                                                ⟨some 155, .bin .eql (.t 68) (.c (.p (.int .i64 47))), none⟩,
                                                ⟨some 154, .move (.t 155), none⟩])
                                            (.cond (.t 154)
                                              (.seq
                                                (.draw [0, 4] [] [
                                                    ⟨some 156, .move (.t 0), none⟩,
                                                    ⟨some 157, .nilCheck (.t 156), none⟩,
                                                    ⟨some 158, .faddr (.t 157) 0, none⟩,
                                                    ⟨some 159, .faddr (.t 4) 1, none⟩,
                                                    ⟨some 160, .load none (.t 159), none⟩,
                                                    ⟨some 161, .bin .add (.t 160) (.c (.p (.str [91]))), none⟩,
                                                    ⟨some 162, .call (.c (.fn 49 [] [])) [(.t 158), (.t 161)], none⟩])
                                                (.seq
                                                  (.region [0] [
                                                      ⟨some 163, .move (.t 0), none⟩,
                                                      ⟨some 164, .faddr (.t 4) 3, none⟩,
                                                      ⟨some 165, .load none (.t 164), none⟩,
                                                      ⟨some 166, .move (.t 0), none⟩,
                                                      ⟨some 167, .mkfn 67 [(.t 166)] [], none⟩,
                                                      ⟨some 168, .call (.c (.fn 66 [] [])) [(.t 163), (.t 165), (.c (.p (.str [44, 32]))), (.t 167)], none⟩])
                                                  (.region [] [
                                                      ⟨some 169, .move (.t 0), none⟩,
                                                      ⟨some 170, .nilCheck (.t 169), none⟩,
                                                      ⟨some 171, .faddr (.t 170) 0, none⟩,
                                                      ⟨some 172, .call (.c (.fn 64 [] [])) [(.t 171), (.c (.p (.int .u8 93)))], none⟩])))
                                              (.draw [] [(4, 5), (4, 6), (5, 6), (4, 7), (5, 7), (6, 7), (3, 10), (4, 10), (5, 10), (6, 10), (7, 10)] [
                                                  ⟨some 69, .move (.t 0), none⟩,
                                                  ⟨some 70, .nilCheck (.t 69), none⟩,
                                                  ⟨some 71, .faddr (.t 70) 0, none⟩,
                                                  ⟨some 72, .mkmap 13, none⟩,
                                                  ⟨none, .mapins 13 (.t 72) (.c (.p (.int .i64 3))) (.c (.p (.str [117, 110, 105, 118]))), none⟩,
                                                  ⟨none, .mapins 13 (.t 72) (.c (.p (.int .i64 4))) (.c (.p (.str [105, 100, 101, 110]))), none⟩,
                                                  ⟨none, .mapins 13 (.t 72) (.c (.p (.int .i64 30))) (.c (.p (.str [116, 114, 117, 101]))), none⟩,
                                                  ⟨none, .mapins 13 (.t 72) (.c (.p (.int .i64 31))) (.c (.p (.str [102, 97, 108, 115, 101]))), none⟩,
                                                  ⟨some 73, .move (.t 72), none⟩,
                                                  ⟨some 74, .faddr (.t 4) 0, none⟩,
                                                  ⟨some 75, .load none (.t 74), none⟩,
                                                  ⟨some 76, .mapget 13 (.str []) false (.t 73) (.t 75), none⟩,
                                                  ⟨some 77, .call (.c (.fn 49 [] [])) [(.t 71), (.t 76)], none⟩]))))))))))))))))))))))

theorem ok40 : FOk Tryd.prog 40 fc40 := FOk.of Tryd.func40 (by kernel_rfl)

/-- (*strings.Builder).String -/
def fc41 : FC where
  nt := 14
  np := 1
  res := [.t 2]
  body :=
    (.seq
      (.region [0] [
          ⟨some 2, .move (.c (.p (.str []))), none⟩])
      (.seq
        (.draw [2] [(3, 8), (4, 8)] [
            ⟨some 3, .move (.t 0), none⟩,
            ⟨some 4, .nilCheck (.t 3), none⟩,
            ⟨some 5, .faddr (.t 4) 1, none⟩,
            ⟨some 6, .load none (.t 5), none⟩,
            ⟨some 7, .sdata (.t 6), none⟩,
            ⟨some 8, .move (.t 0), none⟩,
            ⟨some 9, .nilCheck (.t 8), none⟩,
            ⟨some 10, .faddr (.t 9) 1, none⟩,
            ⟨some 11, .load none (.t 10), none⟩,
            ⟨some 12, .len 1 (.t 11), none⟩,
            ⟨some 13, .ustr 5 (.t 7) (.t 12), none⟩,
            ⟨some 2, .move (.t 13), none⟩])
        .ret))

theorem ok41 : FOk Tryd.prog 41 fc41 := FOk.of Tryd.func41 (by kernel_rfl)

/-- armature/armatureref03.text -/
def fc42_b0 : SC :=
    (.loc
      (.seq
        (.seq
          (.region [2, 6, 7, 89] [
              ⟨some 85, .move (.t 7), none⟩,
              ⟨some 86, .faddr (.t 2) 3, none⟩,
              ⟨some 87, .load none (.t 86), none⟩,
              ⟨some 88, .len 1 (.t 87), none⟩,
              ⟨some 89, .bin .lss (.t 85) (.t 88), none⟩])
          (.cond (.t 89)
            .skip
            (.exit 1)))
        (.seq
          (.block 2
            (.seq
              (.seq
                (.region [2, 6, 7, 93] [
                    ⟨some 92, .move (.t 7), none⟩,
                    ⟨some 93, .bin .gtr (.t 92) (.c (.p (.int .i64 0))), none⟩])
                (.cond (.t 93)
                  (.region [2, 6, 7] [
                      ⟨some 94, .move (.t 6), none⟩,
                      ⟨some 95, .bin .add (.t 94) (.c (.p (.str [44, 32]))), none⟩,
                      ⟨some 6, .move (.t 95), none⟩])
                  .skip))
              (.region [2, 6, 7] [
                  ⟨some 96, .move (.t 6), none⟩,
                  ⟨some 97, .faddr (.t 2) 3, none⟩,
                  ⟨some 98, .load none (.t 97), none⟩,
                  ⟨some 99, .move (.t 7), none⟩,
                  ⟨some 100, .iaddr none 5 (.t 98) (.t 99), none⟩,
                  ⟨some 101, .load (some 5) (.t 100), none⟩,
                  ⟨some 102, .call (.c (.fn 72 [] [])) [(.t 101), (.c (.p (.int .i64 8))), (.c (.p (.bool true)))], none⟩,
                  ⟨some 103, .bin .add (.t 96) (.t 102), none⟩,
                  ⟨some 6, .move (.t 103), none⟩])))
          (.region [2, 6, 7] [
              ⟨some 90, .move (.t 7), none⟩,
              ⟨some 91, .bin .add (.t 90) (.c (.p (.int .i64 1))), none⟩,
              ⟨some 7, .move (.t 91), none⟩]))))

def fc42 : FC where
  nt := 109
  np := 2
  res := [.t 4]
  body :=
    (.seq
      (.region [1, 2] [
          ⟨some 2, .box (.t 0), none⟩,
          ⟨some 4, .move (.c (.p (.str []))), none⟩])
      (.seq
        (.seq
          (.region [1, 2, 11] [
              ⟨some 8, .faddr (.t 2) 0, none⟩,
              ⟨some 9, .load none (.t 8), none⟩,
              ⟨some 10, .call (.c (.fn 68 [] [])) [(.t 9)], none⟩,
              ⟨some 11, .bin .neq (.t 10) (.c (.p (.str []))), none⟩])
          (.cond (.t 11)
            (.seq
              (.region [4] [
                  ⟨some 12, .load (some 5) (.t 2), none⟩,
                  ⟨some 13, .move (.t 1), none⟩,
                  ⟨some 14, .call (.c (.fn 69 [] [])) [(.t 12), (.t 13)], none⟩,
                  ⟨some 4, .move (.t 14), none⟩])
              .ret)
            .skip))
        (.seq
          (.seq
            (.region [1, 2, 18] [
                ⟨some 15, .faddr (.t 2) 0, none⟩,
                ⟨some 16, .load none (.t 15), none⟩,
                ⟨some 17, .call (.c (.fn 70 [] [])) [(.t 16)], none⟩,
                ⟨some 18, .bin .neq (.t 17) (.c (.p (.str []))), none⟩])
            (.cond (.t 18)
              (.seq
                (.region [1, 2, 5] [
                    ⟨some 19, .faddr (.t 2) 0, none⟩,
                    ⟨some 20, .load none (.t 19), none⟩,
                    ⟨some 21, .call (.c (.fn 71 [] [])) [(.t 20)], none⟩,
                    ⟨some 5, .move (.t 21), none⟩])
                (.seq
                  (.seq
                    (.region [1, 2, 5, 23] [
                        ⟨some 22, .move (.t 5), none⟩,
                        ⟨some 23, .bin .eql (.t 22) (.c (.p (.int .i64 7))), none⟩])
                    (.cond (.t 23)
                      (.region [1, 2, 5] [
                          ⟨some 5, .move (.c (.p (.int .i64 8))), none⟩])
                      .skip))
                  (.seq
                    (.draw [4] [(1, 4), (2, 4), (1, 6), (2, 6)] [
                        ⟨some 24, .faddr (.t 2) 0, none⟩,
                        ⟨some 25, .load none (.t 24), none⟩,
                        ⟨some 26, .call (.c (.fn 70 [] [])) [(.t 25)], none⟩,
                        ⟨some 27, .faddr (.t 2) 3, none⟩,
                        ⟨some 28, .load none (.t 27), none⟩,
                        ⟨some 29, .iaddr none 5 (.t 28) (.c (.p (.int .i64 0))), none⟩,
                        ⟨some 30, .load (some 5) (.t 29), none⟩,
                        ⟨some 31, .move (.t 5), none⟩,
                        ⟨some 32, .move (.t 1), none⟩,
                        ⟨some 33, .call (.c (.fn 72 [] [])) [(.t 30), (.t 31), (.t 32)], none⟩,
                        ⟨some 34, .bin .add (.t 26) (.t 33), none⟩,
                        ⟨some 4, .move (.t 34), none⟩])
                    .ret)))
              .skip))
          (.seq
            (.seq
              (.region [2, 36] [
                  ⟨some 35, .faddr (.t 2) 0, none⟩,
                  ⟨some 36, .load none (.t 35), none⟩])
              (.block 0
                (.seq
                  (.region [2, 36, 37] [
                      ⟨some 38, .bin .eql (.t 36) (.c (.p (.int .i64 1))), none⟩,
                      ⟨some 37, .move (.t 38), none⟩])
                  (.cond (.t 37)
                    (.seq
                      (.region [4] [
                          ⟨some 39, .faddr (.t 2) 1, none⟩,
                          ⟨some 40, .load none (.t 39), none⟩,
                          ⟨some 4, .move (.t 40), none⟩])
                      .ret)
                    (.seq
                      (.region [2, 36, 41] [
                          ⟨some 42, .bin .eql (.t 36) (.c (.p (.int .i64 2))), none⟩,
                          ⟨some 41, .move (.t 42), none⟩])
                      (.cond (.t 41)
                        (.seq
                          (.seq
                            (.region [2, 45] [
                                ⟨some 43, .faddr (.t 2) 2, none⟩,
                                ⟨some 44, .load none (.t 43), none⟩,
                                ⟨some 45, .bin .eql (.t 44) (.c (.p (.int .i64 1))), none⟩])
                            (.cond (.t 45)
                              (.seq
                                (.region [4] [
                                    ⟨some 4, .move (.c (.p (.str [110, 111, 110, 101]))), none⟩])
                                .ret)
                              .skip))
                          (.seq
                            (.region [4] [
                                ⟨some 46, .faddr (.t 2) 2, none⟩,
                                ⟨some 47, .load none (.t 46), none⟩,
                                ⟨some 48, .call (.c (.fn 73 [] [])) [(.t 47)], none⟩,
                                ⟨some 49, .bin .add (.c (.p (.str [110, 111, 110, 101, 91]))) (.t 48), none⟩,
                                ⟨some 50, .bin .add (.t 49) (.c (.p (.str [93]))), none⟩,
                                ⟨some 4, .move (.t 50), none⟩])
                            .ret))
                        (.seq
                          (.region [2, 36, 51] [
                              ⟨some 52, .bin .eql (.t 36) (.c (.p (.int .i64 20))), none⟩,
                              ⟨some 51, .move (.t 52), none⟩])
                          (.cond (.t 51)
                            (.seq
                              (.region [4] [
                                  ⟨some 53, .faddr (.t 2) 2, none⟩,
                                  ⟨some 54, .load none (.t 53), none⟩,
                                  ⟨some 55, .call (.c (.fn 73 [] [])) [(.t 54)], none⟩,
                                  ⟨some 4, .move (.t 55), none⟩])
                              .ret)
                            (.seq
                              (.region [2, 36, 56] [
                                  ⟨some 57, .bin .eql (.t 36) (.c (.p (.int .i64 5))), none⟩,
                                  ⟨some 56, .move (.t 57), none⟩])
                              (.cond (.t 56)
                                (.seq
                                  (.region [4] [
                                      ⟨some 58, .faddr (.t 2) 3, none⟩,
                                      ⟨some 59, .load none (.t 58), none⟩,
                                      ⟨some 60, .iaddr none 5 (.t 59) (.c (.p (.int .i64 0))), none⟩,
                                      ⟨some 61, .load (some 5) (.t 60), none⟩,
                                      ⟨some 62, .call (.c (.fn 72 [] [])) [(.t 61), (.c (.p (.int .i64 14))), (.c (.p (.bool false)))], none⟩,
                                      ⟨some 63, .bin .add (.t 62) (.c (.p (.str [39]))), none⟩,
                                      ⟨some 4, .move (.t 63), none⟩])
                                  .ret)
                                (.seq
                                  (.region [2, 36, 64] [
                                      ⟨some 65, .bin .eql (.t 36) (.c (.p (.int .i64 45))), none⟩,
                                      ⟨some 64, .move (.t 65), none⟩])
                                  (.cond (.t 64)
                                    (.seq
                                      (.region [4] [
                                          ⟨some 66, .load (some 5) (.t 2), none⟩,
                                          ⟨some 67, .call (.c (.fn 74 [] [])) [(.t 66)], none⟩,
                                          ⟨some 68, .bin .add (.c (.p (.str [97, 108, 108, 32]))) (.t 67), none⟩,
                                          ⟨some 4, .move (.t 68), none⟩])
                                      .ret)
                                    (.seq
                                      (.region [2, 36, 69] [
                                          ⟨some 70, .bin .eql (.t 36) (.c (.p (.int .i64 46))), none⟩,
                                          ⟨some 69, .move (.t 70), none⟩])
                                      (.cond (.t 69)
                                        (.seq
                                          (.region [4] [
                                              ⟨some 71, .load (some 5) (.t 2), none⟩,
                                              ⟨some 72, .call (.c (.fn 74 [] [])) [(.t 71)], none⟩,
                                              ⟨some 73, .bin .add (.c (.p (.str [115, 111, 109, 101, 32]))) (.t 72), none⟩,
                                              ⟨some 4, .move (.t 73), none⟩])
                                          .ret)
                                        (.seq
                                          (.region [2, 36, 74] [
                                              ⟨some 75, .bin .eql (.t 36) (.c (.p (.int .i64 15))), none⟩,
                                              ⟨some 74, .move (.t 75), none⟩])
                                          (.cond (.t 74)
                                            (.seq
                                              (.region [4] [
                                                  ⟨some 76, .load (some 5) (.t 2), none⟩,
                                                  ⟨some 77, .call (.c (.fn 74 [] [])) [(.t 76)], none⟩,
                                                  ⟨some 78, .bin .add (.c (.p (.str [123]))) (.t 77), none⟩,
                                                  ⟨some 79, .bin .add (.t 78) (.c (.p (.str [125]))), none⟩,
                                                  ⟨some 4, .move (.t 79), none⟩])
                                              .ret)
                                            (.seq
                                              (.region [2, 80] [
                                                  ⟨some 81, .bin .eql (.t 36) (.c (.p (.int .i64 47))), none⟩,
                                                  ⟨some 80, .move (.t 81), none⟩])
                                              (.cond (.t 80)
                                                (.seq
                                                  (.region [2, 6] [
                                                      ⟨some 82, .faddr (.t 2) 1, none⟩,
                                                      ⟨some 83, .load none (.t 82), none⟩,
                                                      ⟨some 84, .bin .add (.t 83) (.c (.p (.str [91]))), none⟩,
                                                      ⟨some 6, .move (.t 84), none⟩])
                                                  (.seq
                                                    (.seq
                                                      (.region [2, 6, 7] [
                                                          ⟨some 7, .move (.c (.p (.int .i64 0))), none⟩])
                                                      (.block 1
                                                        (.loop [2, 6, 7]
                                                          fc42_b0)))
                                                    (.seq
                                                      (.region [4] [
                                                          ⟨some 104, .move (.t 6), none⟩,
                                                          ⟨some 105, .bin .add (.t 104) (.c (.p (.str [93]))), none⟩,
                                                          ⟨some 4, .move (.t 105), none⟩])
                                                      .ret)))
                                                .skip))))))))))))))))))
            (.seq
              (.region [4] [
                  ⟨some 106, .faddr (.t 2) 0, none⟩,
                  ⟨some 107, .load none (.t 106), none⟩,
                  ⟨some 108, .call (.c (.fn 75 [] [])) [(.t 107)], none⟩,
                  ⟨some 4, .move (.t 108), none⟩])
              .ret)))))

theorem ok42 : FOk Tryd.prog 42 fc42 := FOk.of Tryd.func42 (by kernel_rfl)

/-- armature/armatureref03.named -/
def fc43_b0 : SC :=
    (.seq
      (.seq
        (.region [1, 3, 5, 24] [
            ⟨some 22, .move (.t 5), none⟩,
            ⟨some 23, .move (.t 3), none⟩,
            ⟨some 24, .bin .lss (.t 22) (.t 23), none⟩])
        (.cond (.t 24)
          .skip
          (.exit 2)))
      (.seq
        (.block 3
          (.seq
            (.draw [1, 3, 5, 39] [(1, 7), (5, 7), (1, 11), (5, 11)] [
                ⟨some 27, .faddr (.t 1) 0, none⟩,
                ⟨some 28, .load none (.t 27), none⟩,
                ⟨some 29, .move (.t 3), none⟩,
                ⟨some 30, .iaddr none 2 (.t 28) (.t 29), none⟩,
                ⟨some 31, .faddr (.t 30) 0, none⟩,
                ⟨some 32, .load none (.t 31), none⟩,
                ⟨some 33, .faddr (.t 1) 0, none⟩,
                ⟨some 34, .load none (.t 33), none⟩,
                ⟨some 35, .move (.t 5), none⟩,
                ⟨some 36, .iaddr none 2 (.t 34) (.t 35), none⟩,
                ⟨some 37, .faddr (.t 36) 0, none⟩,
                ⟨some 38, .load none (.t 37), none⟩,
                ⟨some 39, .bin .eql (.t 32) (.t 38), none⟩])
            (.cond (.t 39)
              (.seq
                (.region [2] [
                    ⟨some 2, .move (.c (.p (.bool false))), none⟩])
                .ret)
              .skip)))
        (.region [1, 3, 5] [
            ⟨some 25, .move (.t 5), none⟩,
            ⟨some 26, .bin .add (.t 25) (.c (.p (.int .i64 1))), none⟩,
            ⟨some 5, .move (.t 26), none⟩])))

def fc43_b1 : SC :=
    (.loc
      (.seq
        (.seq
          (.region [1, 3, 10] [
              ⟨some 6, .move (.t 3), none⟩,
              ⟨some 7, .faddr (.t 1) 0, none⟩,
              ⟨some 8, .load none (.t 7), none⟩,
              ⟨some 9, .len 1 (.t 8), none⟩,
              ⟨some 10, .bin .lss (.t 6) (.t 9), none⟩])
          (.cond (.t 10)
            .skip
            (.exit 0)))
        (.seq
          (.block 1
            (.seq
              (.region [1, 3, 4] [
                  ⟨some 13, .faddr (.t 1) 0, none⟩,
                  ⟨some 14, .load none (.t 13), none⟩,
                  ⟨some 15, .move (.t 3), none⟩,
                  ⟨some 16, .iaddr none 2 (.t 14) (.t 15), none⟩,
                  ⟨some 17, .faddr (.t 16) 0, none⟩,
                  ⟨some 18, .load none (.t 17), none⟩,
                  ⟨some 19, .call (.c (.fn 44 [] [])) [(.t 18)], none⟩,
                  ⟨some 4, .move (.t 19), none⟩])
              (.seq
                (.seq
                  (.region [1, 3, 21] [
                      ⟨some 20, .move (.t 4), none⟩,
                      ⟨some 21, .un .not (.t 20), none⟩])
                  (.cond (.t 21)
                    (.seq
                      (.region [2] [
                          ⟨some 2, .move (.c (.p (.bool false))), none⟩])
                      .ret)
                    .skip))
                (.seq
                  (.region [1, 3, 5] [
                      ⟨some 5, .move (.c (.p (.int .i64 0))), none⟩])
                  (.block 2
                    (.loop [1, 3, 5]
                      fc43_b0))))))
          (.region [1, 3] [
              ⟨some 11, .move (.t 3), none⟩,
              ⟨some 12, .bin .add (.t 11) (.c (.p (.int .i64 1))), none⟩,
              ⟨some 3, .move (.t 12), none⟩]))))

def fc43 : FC where
  nt := 40
  np := 1
  res := [.t 2]
  body :=
    (.seq
      (.region [1] [
          ⟨some 1, .box (.t 0), none⟩,
          ⟨some 2, .move (.c (.p (.bool false))), none⟩])
      (.seq
        (.seq
          (.region [1, 3] [
              ⟨some 3, .move (.c (.p (.int .i64 0))), none⟩])
          (.block 0
            (.loop [1, 3]
              fc43_b1)))
        (.seq
          (.region [2] [
              ⟨some 2, .move (.c (.p (.bool true))), none⟩])
          .ret)))

theorem ok43 : FOk Tryd.prog 43 fc43 := FOk.of Tryd.func43 (by kernel_rfl)

/-- armature/armatureref02.Name -/
def fc44_b0 : SC :=
    (.seq
      (.seq
        (.region [0, 3, 21] [
            ⟨some 18, .move (.t 3), none⟩,
            ⟨some 19, .move (.t 0), none⟩,
            ⟨some 20, .len 0 (.t 19), none⟩,
            ⟨some 21, .bin .lss (.t 18) (.t 20), none⟩])
        (.cond (.t 21)
          .skip
          (.exit 0)))
      (.seq
        (.block 1
          (.seq
            (.region [0, 3, 4] [
                ⟨some 24, .move (.t 0), none⟩,
                ⟨some 25, .move (.t 3), none⟩,
                ⟨some 26, .index none (.t 24) (.t 25), none⟩,
                ⟨some 4, .move (.t 26), none⟩])
            (.seq
              (.region [0, 3, 4, 5] [
                  ⟨some 27, .move (.t 4), none⟩,
                  ⟨some 28, .bin .geq (.t 27) (.c (.p (.int .u8 97))), none⟩,
                  ⟨some 29, .move (.t 28), none⟩,
                  ⟨some 30, .move (.t 4), some (29, true)⟩,
                  ⟨some 31, .bin .leq (.t 30) (.c (.p (.int .u8 122))), some (29, true)⟩,
                  ⟨some 32, .pick (.t 29) (.t 31) (.c (.p (.bool false))), none⟩,
                  ⟨some 33, .move (.t 32), none⟩,
                  ⟨some 34, .move (.t 4), some (33, false)⟩,
                  ⟨some 35, .bin .geq (.t 34) (.c (.p (.int .u8 65))), some (33, false)⟩,
                  ⟨some 36, .move (.t 35), some (33, false)⟩,
                  ⟨some 37, .move (.t 4), some (36, true)⟩,
                  ⟨some 38, .bin .leq (.t 37) (.c (.p (.int .u8 90))), some (36, true)⟩,
                  ⟨some 39, .pick (.t 36) (.t 38) (.c (.p (.bool false))), some (33, false)⟩,
                  ⟨some 40, .pick (.t 33) (.c (.p (.bool true))) (.t 39), none⟩,
                  ⟨some 5, .move (.t 40), none⟩])
              (.seq
                (.region [0, 3, 58] [
                    ⟨some 41, .move (.t 5), none⟩,
                    ⟨some 42, .un .not (.t 41), none⟩,
                    ⟨some 43, .move (.t 42), none⟩,
                    ⟨some 44, .move (.t 3), some (43, true)⟩,
                    ⟨some 45, .bin .eql (.t 44) (.c (.p (.int .i64 0))), some (43, true)⟩,
                    ⟨some 46, .move (.t 45), some (43, true)⟩,
                    ⟨some 47, .move (.t 4), some (46, false)⟩,
                    ⟨some 48, .bin .neq (.t 47) (.c (.p (.int .u8 95))), some (46, false)⟩,
                    ⟨some 49, .move (.t 48), some (46, false)⟩,
                    ⟨some 50, .move (.t 4), some (49, true)⟩,
                    ⟨some 51, .bin .lss (.t 50) (.c (.p (.int .u8 48))), some (49, true)⟩,
                    ⟨some 52, .move (.t 51), some (49, true)⟩,
                    ⟨some 53, .move (.t 4), some (52, false)⟩,
                    ⟨some 54, .bin .gtr (.t 53) (.c (.p (.int .u8 57))), some (52, false)⟩,
                    ⟨some 55, .pick (.t 52) (.c (.p (.bool true))) (.t 54), some (49, true)⟩,
                    ⟨some 56, .pick (.t 49) (.t 55) (.c (.p (.bool false))), some (46, false)⟩,
                    ⟨some 57, .pick (.t 46) (.c (.p (.bool true))) (.t 56), some (43, true)⟩,
                    ⟨some 58, .pick (.t 43) (.t 57) (.c (.p (.bool false))), none⟩])
                (.cond (.t 58)
                  (.seq
                    (.region [2] [
                        ⟨some 2, .move (.c (.p (.bool false))), none⟩])
                    .ret)
                  .skip)))))
        (.region [0, 3] [
            ⟨some 22, .move (.t 3), none⟩,
            ⟨some 23, .bin .add (.t 22) (.c (.p (.int .i64 1))), none⟩,
            ⟨some 3, .move (.t 23), none⟩])))

def fc44 : FC where
  nt := 59
  np := 1
  res := [.t 2]
  body :=
    (.seq
      (.region [0] [
          ⟨some 2, .move (.c (.p (.bool false))), none⟩])
      (.seq
        (.seq
          (.region [0, 17] [
              ⟨some 6, .move (.t 0), none⟩,
              ⟨some 7, .len 0 (.t 6), none⟩,
              ⟨some 8, .bin .eql (.t 7) (.c (.p (.int .i64 0))), none⟩,
              ⟨some 9, .move (.t 8), none⟩,
              ⟨some 10, .move (.t 0), some (9, false)⟩,
              ⟨some 11, .len 0 (.t 10), some (9, false)⟩,
              ⟨some 12, .bin .gtr (.t 11) (.c (.p (.int .i64 16))), some (9, false)⟩,
              ⟨some 13, .pick (.t 9) (.c (.p (.bool true))) (.t 12), none⟩,
              ⟨some 14, .move (.t 13), none⟩,
              ⟨some 15, .move (.t 0), some (14, false)⟩,
              ⟨some 16, .call (.c (.fn 76 [] [])) [(.t 15)], some (14, false)⟩,
              ⟨some 17, .pick (.t 14) (.c (.p (.bool true))) (.t 16), none⟩])
          (.cond (.t 17)
            (.seq
              (.region [2] [
                  ⟨some 2, .move (.c (.p (.bool false))), none⟩])
              .ret)
            .skip))
        (.seq
          (.seq
            (.region [0, 3] [
                ⟨some 3, .move (.c (.p (.int .i64 0))), none⟩])
            (.block 0
              (.loop [0, 3]
                fc44_b0)))
          (.seq
            (.region [2] [
                ⟨some 2, .move (.c (.p (.bool true))), none⟩])
            .ret))))

theorem ok44 : FOk Tryd.prog 44 fc44 := FOk.of Tryd.func44 (by kernel_rfl)

/-- armature/armatureref03.indices -/
def fc45_b0 : SC :=
    (.seq
      (.seq
        (.region [1, 2, 5, 9] [
            ⟨some 6, .move (.t 5), none⟩,
            ⟨some 7, .move (.t 1), none⟩,
            ⟨some 8, .len 1 (.t 7), none⟩,
            ⟨some 9, .bin .lss (.t 6) (.t 8), none⟩])
        (.cond (.t 9)
          .skip
          (.exit 0)))
      (.seq
        (.block 1
          (.seq
            (.draw [1, 2, 5, 26] [(9, 11)] [
                ⟨some 12, .move (.t 1), none⟩,
                ⟨some 13, .move (.t 5), none⟩,
                ⟨some 14, .iaddr none 1 (.t 12) (.t 13), none⟩,
                ⟨some 15, .load none (.t 14), none⟩,
                ⟨some 16, .bin .lss (.t 15) (.c (.p (.int .i64 0))), none⟩,
                ⟨some 17, .move (.t 16), none⟩,
                ⟨some 18, .move (.t 1), some (17, false)⟩,
                ⟨some 19, .move (.t 5), some (17, false)⟩,
                ⟨some 20, .iaddr none 1 (.t 18) (.t 19), some (17, false)⟩,
                ⟨some 21, .load none (.t 20), some (17, false)⟩,
                ⟨some 22, .faddr (.t 2) 0, some (17, false)⟩,
                ⟨some 23, .load none (.t 22), some (17, false)⟩,
                ⟨some 24, .len 1 (.t 23), some (17, false)⟩,
                ⟨some 25, .bin .geq (.t 21) (.t 24), some (17, false)⟩,
                ⟨some 26, .pick (.t 17) (.c (.p (.bool true))) (.t 25), none⟩])
            (.cond (.t 26)
              (.seq
                (.region [4] [
                    ⟨some 4, .move (.c (.p (.bool false))), none⟩])
                .ret)
              .skip)))
        (.region [1, 2, 5] [
            ⟨some 10, .move (.t 5), none⟩,
            ⟨some 11, .bin .add (.t 10) (.c (.p (.int .i64 1))), none⟩,
            ⟨some 5, .move (.t 11), none⟩])))

def fc45 : FC where
  nt := 27
  np := 2
  res := [.t 4]
  body :=
    (.seq
      (.region [1, 2] [
          ⟨some 2, .box (.t 0), none⟩,
          ⟨some 4, .move (.c (.p (.bool false))), none⟩])
      (.seq
        (.seq
          (.region [1, 2, 5] [
              ⟨some 5, .move (.c (.p (.int .i64 0))), none⟩])
          (.block 0
            (.loop [1, 2, 5]
              fc45_b0)))
        (.seq
          (.region [4] [
              ⟨some 4, .move (.c (.p (.bool true))), none⟩])
          .ret)))

theorem ok45 : FOk Tryd.prog 45 fc45 := FOk.of Tryd.func45 (by kernel_rfl)

/-- armature/armatureref03.formula -/
def fc46 : FC where
  nt := 13
  np := 1
  res := [.t 2]
  body :=
    (.seq
      (.region [1] [
          ⟨some 1, .box (.t 0), none⟩,
          ⟨some 2, .move (.c (.p (.bool false))), none⟩])
      (.seq
        (.region [1, 3] [
            ⟨some 4, .load (some 5) (.t 1), none⟩,
            ⟨some 5, .call (.c (.fn 13 [] [])) [(.t 4)], none⟩,
            ⟨some 3, .move (.t 5), none⟩])
        (.seq
          (.region [2] [
              ⟨some 6, .move (.t 3), none⟩,
              ⟨some 7, .move (.t 6), none⟩,
              ⟨some 8, .faddr (.t 1) 0, some (7, true)⟩,
              ⟨some 9, .load none (.t 8), some (7, true)⟩,
              ⟨some 10, .call (.c (.fn 56 [] [])) [(.t 9)], some (7, true)⟩,
              ⟨some 11, .bin .eql (.t 10) (.c (.p (.int .u8 102))), some (7, true)⟩,
              ⟨some 12, .pick (.t 7) (.t 11) (.c (.p (.bool false))), none⟩,
              ⟨some 2, .move (.t 12), none⟩])
          .ret)))

theorem ok46 : FOk Tryd.prog 46 fc46 := FOk.of Tryd.func46 (by kernel_rfl)

/-- armature/armatureref03.typed -/
def fc47_b0 : SC :=
    (.loc
      (.seq
        (.seq
          (.region [1, 2, 5, 10] [
              ⟨some 7, .move (.t 5), none⟩,
              ⟨some 8, .move (.t 1), none⟩,
              ⟨some 9, .len 1 (.t 8), none⟩,
              ⟨some 10, .bin .lss (.t 7) (.t 9), none⟩])
          (.cond (.t 10)
            .skip
            (.exit 0)))
        (.seq
          (.block 1
            (.seq
              (.draw [1, 2, 5, 6] [(7, 12)] [
                  ⟨some 13, .move (.t 1), none⟩,
                  ⟨some 14, .move (.t 5), none⟩,
                  ⟨some 15, .iaddr none 2 (.t 13) (.t 14), none⟩,
                  ⟨some 16, .faddr (.t 15) 0, none⟩,
                  ⟨some 17, .load none (.t 16), none⟩,
                  ⟨some 18, .call (.c (.fn 44 [] [])) [(.t 17)], none⟩,
                  ⟨some 19, .move (.t 18), none⟩,
                  ⟨some 20, .load (some 4) (.t 2), some (19, true)⟩,
                  ⟨some 21, .move (.t 1), some (19, true)⟩,
                  ⟨some 22, .move (.t 5), some (19, true)⟩,
                  ⟨some 23, .iaddr none 2 (.t 21) (.t 22), some (19, true)⟩,
                  ⟨some 24, .faddr (.t 23) 1, some (19, true)⟩,
                  ⟨some 25, .load none (.t 24), some (19, true)⟩,
                  ⟨some 26, .bslice 3 1 1 (.int .i64 0) [(0, (.t 25))], some (19, true)⟩,
                  ⟨some 27, .call (.c (.fn 45 [] [])) [(.t 20), (.t 26)], some (19, true)⟩,
                  ⟨some 28, .pick (.t 19) (.t 27) (.c (.p (.bool false))), none⟩,
                  ⟨some 6, .move (.t 28), none⟩])
              (.seq
                (.region [1, 2, 5, 30] [
                    ⟨some 29, .move (.t 6), none⟩,
                    ⟨some 30, .un .not (.t 29), none⟩])
                (.cond (.t 30)
                  (.seq
                    (.region [4] [
                        ⟨some 4, .move (.c (.p (.bool false))), none⟩])
                    .ret)
                  .skip))))
          (.region [1, 2, 5] [
              ⟨some 11, .move (.t 5), none⟩,
              ⟨some 12, .bin .add (.t 11) (.c (.p (.int .i64 1))), none⟩,
              ⟨some 5, .move (.t 12), none⟩]))))

def fc47 : FC where
  nt := 31
  np := 2
  res := [.t 4]
  body :=
    (.seq
      (.region [1, 2] [
          ⟨some 2, .box (.t 0), none⟩,
          ⟨some 4, .move (.c (.p (.bool false))), none⟩])
      (.seq
        (.seq
          (.region [1, 2, 5] [
              ⟨some 5, .move (.c (.p (.int .i64 0))), none⟩])
          (.block 0
            (.loop [1, 2, 5]
              fc47_b0)))
        (.seq
          (.region [4] [
              ⟨some 4, .move (.c (.p (.bool true))), none⟩])
          .ret)))

theorem ok47 : FOk Tryd.prog 47 fc47 := FOk.of Tryd.func47 (by kernel_rfl)

/-- armature/printer.Spec$1 -/
def fc48 : FC where
  nt := 19
  np := 2
  res := [.t 3]
  body :=
    (.seq
      (.region [0, 1] [
          ⟨some 3, .move (.c (.p (.str []))), none⟩])
      (.seq
        (.seq
          (.region [0, 1, 12] [
              ⟨some 4, .move (.t 0), none⟩,
              ⟨some 5, .bin .lss (.t 4) (.c (.p (.int .i64 0))), none⟩,
              ⟨some 6, .move (.t 5), none⟩,
              ⟨some 7, .move (.t 0), some (6, false)⟩,
              ⟨some 8, .faddr (.t 1) 0, some (6, false)⟩,
              ⟨some 9, .load none (.t 8), some (6, false)⟩,
              ⟨some 10, .len 1 (.t 9), some (6, false)⟩,
              ⟨some 11, .bin .geq (.t 7) (.t 10), some (6, false)⟩,
              ⟨some 12, .pick (.t 6) (.c (.p (.bool true))) (.t 11), none⟩])
          (.cond (.t 12)
            (.seq
              (.region [3] [
                  ⟨some 3, .move (.c (.p (.str []))), none⟩])
              .ret)
            .skip))
        (.seq
          (.region [3] [
              ⟨some 13, .faddr (.t 1) 0, none⟩,
              ⟨some 14, .load none (.t 13), none⟩,
              ⟨some 15, .move (.t 0), none⟩,
              ⟨some 16, .iaddr none 2 (.t 14) (.t 15), none⟩,
              ⟨some 17, .faddr (.t 16) 0, none⟩,
              ⟨some 18, .load none (.t 17), none⟩,
              ⟨some 3, .move (.t 18), none⟩])
          .ret)))

theorem ok48 : FOk Tryd.prog 48 fc48 := FOk.of Tryd.func48 (by kernel_rfl)

/-- (*strings.Builder).WriteString -/
def fc49 : FC where
  nt := 19
  np := 2
  res := [.t 4, .t 5]
  body :=
    (.seq
      (.region [0, 1] [
          ⟨some 4, .move (.c (.p (.int .i64 0))), none⟩,
          ⟨some 5, .move (.c (.p (.nili))), none⟩])
      (.seq
        (.region [0, 1] [
            ⟨some 6, .move (.t 0), none⟩,
            ⟨some 7, .call (.c (.fn 77 [] [])) [(.t 6)], none⟩])
        (.seq
          (.region [1] [
              ⟨some 8, .move (.t 0), none⟩,
              ⟨some 9, .move (.t 0), none⟩,
              ⟨some 10, .nilCheck (.t 9), none⟩,
              ⟨some 11, .faddr (.t 10) 1, none⟩,
              ⟨some 12, .load none (.t 11), none⟩,
              ⟨some 13, .move (.t 1), none⟩,
              ⟨some 14, .append 5 1 1 (.t 12) (.t 13), none⟩,
              ⟨some 15, .nilCheck (.t 8), none⟩,
              ⟨some 16, .faddr (.t 15) 1, none⟩,
              ⟨none, .store 1 (.t 16) (.t 14), none⟩])
          (.seq
            (.region [4, 5] [
                ⟨some 17, .move (.t 1), none⟩,
                ⟨some 18, .len 0 (.t 17), none⟩,
                ⟨some 4, .move (.t 18), none⟩,
                ⟨some 5, .move (.c (.p (.nili))), none⟩])
            .ret))))

theorem ok49 : FOk Tryd.prog 49 fc49 := FOk.of Tryd.func49 (by kernel_rfl)

/-- armature/printer.list[int] -/
def fc50_b0 : SC :=
    (.loc
      (.seq
        (.region [0, 2, 3, 10, 11, 12, 13] [
            ⟨some 13, .bin .lss (.t 12) (.t 11), none⟩])
        (.seq
          (.cond (.t 13)
            .skip
            (.exit 0))
          (.seq
            (.block 1
              (.seq
                (.region [0, 2, 3, 8, 9, 10, 11, 12] [
                    ⟨some 14, .move (.t 12), none⟩,
                    ⟨some 15, .iaddr none 1 (.t 10) (.t 12), none⟩,
                    ⟨some 16, .load none (.t 15), none⟩,
                    ⟨some 8, .move (.t 14), none⟩,
                    ⟨some 9, .move (.t 16), none⟩])
                (.seq
                  (.seq
                    (.region [0, 2, 3, 9, 10, 11, 12, 18] [
                        ⟨some 17, .move (.t 8), none⟩,
                        ⟨some 18, .bin .gtr (.t 17) (.c (.p (.int .i64 0))), none⟩])
                    (.cond (.t 18)
                      (.region [0, 2, 3, 9, 10, 11, 12] [
                          ⟨some 19, .move (.t 0), none⟩,
                          ⟨some 20, .nilCheck (.t 19), none⟩,
                          ⟨some 21, .faddr (.t 20) 0, none⟩,
                          ⟨some 22, .move (.t 2), none⟩,
                          ⟨some 23, .call (.c (.fn 49 [] [])) [(.t 21), (.t 22)], none⟩])
                      .skip))
                  (.region [0, 2, 3, 10, 11, 12] [
                      ⟨some 24, .move (.t 3), none⟩,
                      ⟨some 25, .move (.t 9), none⟩,
                      ⟨some 26, .call (.t 24) [(.t 25)], none⟩]))))
            (.region [0, 2, 3, 10, 11, 12] [
                ⟨some 27, .bin .add (.t 12) (.c (.p (.int .i64 1))), none⟩,
                ⟨some 12, .move (.t 27), none⟩])))))

def fc50 : FC where
  nt := 28
  np := 4
  res := []
  body :=
    (.seq
      (.region [0, 2, 3, 10, 11, 12] [
          ⟨some 10, .move (.t 1), none⟩,
          ⟨some 11, .len 1 (.t 10), none⟩,
          ⟨some 12, .move (.c (.p (.int .i64 0))), none⟩])
      (.block 0
        (.loop [0, 2, 3, 10, 11, 12]
          fc50_b0)))

theorem ok50 : FOk Tryd.prog 50 fc50 := FOk.of Tryd.func50 (by kernel_rfl)

/-- armature/printer.Spec$2 -/
def fc51 : FC where
  nt := 11
  np := 3
  res := []
  body :=
    (.draw [] [(0, 3), (0, 5)] [
        ⟨some 4, .load none (.t 1), none⟩,
        ⟨some 5, .nilCheck (.t 4), none⟩,
        ⟨some 6, .faddr (.t 5) 0, none⟩,
        ⟨some 7, .load none (.t 2), none⟩,
        ⟨some 8, .move (.t 0), none⟩,
        ⟨some 9, .call (.t 7) [(.t 8)], none⟩,
        ⟨some 10, .call (.c (.fn 49 [] [])) [(.t 6), (.t 9)], none⟩])

theorem ok51 : FOk Tryd.prog 51 fc51 := FOk.of Tryd.func51 (by kernel_rfl)

end Go.Proofs.YtalgjkpkkdljaaaDoor
