/-
  Calls, and regions whose order is the text's.
-/
import Derived.Test.YtphnflkjgoobmaaDoorFwN
namespace Go.Vs

variable {P : Program} {G : Nat → Option (List PD)} {γ : Gh} {H : Hp} {w : World} {env : Env} {a : Act} {o : Oper}

/-- How a call ends. -/
def Ends' (γ : Gh) (r : Res) (e : Ending) : Prop :=
  match r with
  | .val d => ∃ v, e = .returned v ∧ RepD γ v d
  | .pan d => ∃ v, e = .panicked [{ v, recovered := false }] ∧ RepD γ v d

def Enters (P : Program) (f : Nat) : Prop := ∃ fn, P.funcs[f]? = some fn ∧ (fn.name == "runtime.NumGoroutine") = false ∧ fn.body.isNone = false

/-- The function, called so, gives this. -/
def Meets (P : Program) (G : Nat → Option (List PD)) (f : Nat) (args : List D) (H : Hp) (r : Res) (H' : Hp) : Prop :=
  Enters P f ∧ ∀ γ w vs, Inv G γ H w → RepL γ vs args → Calls P f vs w fun e w' => ∃ γ', γ.le γ' ∧ Frame γ H w γ' H' w' ∧ Inv G γ' H' w' ∧ Ends' γ' r e

def Sound (P : Program) (G : Nat → Option (List PD)) (c : CallR) : Prop := ∀ f args H r H', c f args H = some (r, H') → Meets P G f args H r H'

theorem resRen {γ1 γ2 : Gh} {bi ti : Nat → Option Nat} (R : Ren γ1 γ2 bi ti) {r r' : Res} (h : r.ren bi ti = some r') {e : Ending} (he : Ends' γ1 r e) : Ends' γ2 r' e := by
  cases r with
  | val d =>
    obtain ⟨d', hd, rfl⟩ := Option.map_eq_some_iff.1 h
    obtain ⟨v, rfl, hv⟩ := he
    exact ⟨v, rfl, ren_rep R hv hd⟩
  | pan d =>
    obtain ⟨d', hd, rfl⟩ := Option.map_eq_some_iff.1 h
    obtain ⟨v, rfl, hv⟩ := he
    exact ⟨v, rfl, ren_rep R hv hd⟩

theorem callD_sound {c : CallR} (S : Sound P G c) {f : Nat} {args : List D} {H : Hp} {r : Res} {H' : Hp} (h : callD c f args H = some (r, H')) : Meets P G f args H r H' := by
  unfold callD at h
  dsimp only at h
  generalize hids : reach H H.bx.length (ins [] (D.refsL args)) = ids at h
  generalize htks : ins [] (D.toksL args ++ boxToks H ids) = tks at h
  split at h
  · rename_i hn
    have hni := nodupB_iff (Bool.and_eq_true_iff.1 hn).1
    have hnt := nodupB_iff (Bool.and_eq_true_iff.1 hn).2
    split at h
    · rename_i as bx tk h1 h2 h3
      split at h
      · rename_i rl Hl hc
        obtain ⟨hent, hcall⟩ := S f as ⟨bx, tk⟩ rl Hl hc
        refine ⟨hent, fun γ w vs I r0 => ?_⟩
        refine (hcall (γ.part ids tks) w vs (part_inv hni hnt h2 h3 I) (renL_rep part_ren r0 h1)).mono ?_
        rintro e w' ⟨γl, L, F, J, E⟩
        unfold back at h
        split at h
        · rename_i bxc tkc hb1 hb2
          obtain ⟨m1, rfl⟩ := firstN_some hb1
          obtain ⟨m2, rfl⟩ := firstN_some hb2
          dsimp only at h
          split at h
          · rename_i r' bx' q1 q2
            cases h
            obtain ⟨R, w1, w2, w3⟩ := whole_ok hni hnt h2 h3 I L F J false (bi := fun i => ids[i]?) m1 m2 (fun i j hij => .inl ⟨(List.getElem?_eq_some_iff.1 hij).1, hij⟩) q2 (nw := []) rfl
            simp only [List.append_nil] at w2 w3
            exact ⟨_, w1, w2, w3, resRen R q1 E⟩
          · split at h
            · rename_i r' bx' n0 nw q1 q2 q3
              cases h
              obtain ⟨R, w1, w2, w3⟩ := whole_ok hni hnt h2 h3 I L F J true (bi := fun i => if i < ids.length then ids[i]? else some (H.bx.length + (i - ids.length))) m1 m2 (fun i j hij => by
                split at hij
                · rename_i hlt; exact .inl ⟨hlt, hij⟩
                · rename_i hge; cases hij; exact .inr ⟨rfl, by omega, rfl⟩) q2 (nw := n0 :: nw) q3
              exact ⟨_, w1, w2, w3, resRen R q1 E⟩
            · cases h
        · cases h
      · cases h
    · cases h
  · cases h

theorem run_enter {f : Nat} (h : Enters P f) (args : Array Value) (w : World) : (callFunc f args).run P w = .ok (.enter f args) w := by
  obtain ⟨fn, h1, h2, h3⟩ := h
  unfold callFunc
  simp only [Sem.run_bind, run_program, Result.andThen_ok, h1, h2, h3, Bool.false_eq_true, if_false, Sem.run_pure]

theorem RepL.append {γ : Gh} {a b : Array Value} {x y : List D} (h : RepL γ a x) (k : RepL γ b y) : RepL γ (a ++ b) (x ++ y) := by
  refine ⟨by simp [h.1, k.1], fun i d hd => ?_⟩
  have h1 := h.1
  by_cases hi : i < x.length
  · rw [List.getElem?_append_left hi] at hd
    have := h.2 i d hd
    have e : (a ++ b).getD i undef = a.getD i undef := by simp [Array.getD_eq_getD_getElem?, Array.getElem?_append, h1, hi]
    rw [e]; exact this
  · rw [List.getElem?_append_right (by omega)] at hd
    have := k.2 _ d hd
    have e : (a ++ b).getD i undef = b.getD (i - x.length) undef := by
      simp only [Array.getD_eq_getD_getElem?]
      rw [Array.getElem?_append_right (by omega), h1]
    rw [e]; exact this

/-- A call, as the operation of a region. -/
theorem call_wp {c : CallR} (S : Sound P G c) (I : Inv G γ H w) (E : EnvRep γ env a.tmps) {f : Operand} {args : Array Operand} {ts : Array TypeId} (ho : o.op = .call { callee := .value f, args, argTypes := ts }) {f' : Opd} {args' : List Opd} (hf : opdOf f = some f')
    (ha : mapO opdOf args.toList = some args') {r : Res} {H' : Hp} (he : callV c (f'.ev env) (args'.map (·.ev env)) H = some (r, H')) {K : Act → World → Prop} {Q : Exit → Act → World → Prop}
    (hK : ∀ v γ' w' d, r = .val d → γ.le γ' → Frame γ H w γ' H' w' → Inv G γ' H' w' → RepD γ' v d → K (a.put o.dst v) w')
    (hQ : ∀ v γ' w' d, r = .pan d → γ.le γ' → Frame γ H w γ' H' w' → Inv G γ' H' w' → RepD γ' v d → Q (.panic [{ v, recovered := false }]) a w') : o.wp P a w K Q := by
  have hfr := opdOf_rep E hf
  have har := opds_rep E ha
  unfold callV at he
  split at he
  · rename_i g first cap hg
    rw [hg] at hfr
    obtain ⟨as, cs, hv, r1, r2⟩ := hfr.fn_inv
    obtain ⟨hent, hm⟩ := callD_sound S he
    have hargs : RepL γ (as ++ args.map a.eval ++ cs) (first ++ args'.map (·.ev env) ++ cap) := (r1.append har).append r2
    have hrun : (execOp a.eval o).run P w = .ok (.enter g (as ++ args.map a.eval ++ cs)) w := by
      simp [execOp, ho, resolve, hv, Deferred.ofValue, invoke, run_enter hent]
    unfold Oper.wp
    rw [hrun, Oper.upon_enter]
    refine (hm γ w _ I hargs).mono ?_
    rintro e w' ⟨γ', L, F, J, En⟩
    cases r with
    | val d =>
      obtain ⟨v, rfl, hv'⟩ := En
      exact hK v γ' w' d rfl L F J hv'
    | pan d =>
      obtain ⟨v, rfl, hv'⟩ := En
      exact hQ v γ' w' d rfl L F J hv'
  · cases he

/-- An operation of the evaluator, for an operation of the model. -/
structure OpOf (P : Program) (ops : Array Oper) (nt : Nat) (o : Oper) (so : SO) : Prop where
  k : kOp P o.op = some so.k
  dst : so.dst = o.dst
  lt : ∀ t, o.dst = some t → t < nt
  g : so.g = match o.guard with
    | none => none
    | some (j, want) => match (ops[j]?).bind (·.dst) with
      | some t => some (t, want)
      | none => none
  gd : ∀ j want, o.guard = some (j, want) → ((ops[j]?).bind (·.dst)).isSome = true

theorem callK_some {op : Op} {r : Option SK} (h : callK op = some r) : ∃ f0 as0 ts, op = .call { callee := .value f0, args := as0, argTypes := ts } ∧
    r = (match opdOf f0, mapO opdOf as0.toList with | some g, some xs => some (.call g xs) | _, _ => none) := by
  cases op with
  | call c =>
    obtain ⟨callee, as, ts⟩ := c
    cases callee with
    | value g =>
      refine ⟨g, as, ts, rfl, ?_⟩
      simp only [callK] at h
      split at h <;> cases h <;> simp_all
    | _ => cases h
  | _ => cases h

theorem evKC_plain {c : CallR} {k : SK} (hk : k.isCall = false) : evKC c G env H k = match evK G env H k with | some (d, H') => some (.val d, H') | none => none := by
  cases k <;> first | rfl | cases hk

/-- An operation, call or not. -/
theorem op_wp {c : CallR} (S : Sound P G c) (I : Inv G γ H w) (E : EnvRep γ env a.tmps) {k : SK} (hk : kOp P o.op = some k) {r : Res} {H' : Hp} (he : evKC c G env H k = some (r, H')) {K : Act → World → Prop} {Q : Exit → Act → World → Prop}
    (hK : ∀ v γ' w' d, r = .val d → γ.le γ' → Frame γ H w γ' H' w' → Inv G γ' H' w' → RepD γ' v d → K (a.put o.dst v) w')
    (hQ : ∀ v γ' w' d, r = .pan d → γ.le γ' → Frame γ H w γ' H' w' → Inv G γ' H' w' → RepD γ' v d → Q (.panic [{ v, recovered := false }]) a w') : o.wp P a w K Q := by
  unfold kOp at hk
  split at hk
  · rename_i r0 hr0
    obtain ⟨f0, as0, ts, ho, hr⟩ := callK_some hr0
    subst hk
    split at hr
    · rename_i g xs h1 h2
      cases hr
      exact call_wp S I E ho h1 h2 he hK hQ
    · cases hr
  · split at hk
    · rename_i k' hk'
      split at hk
      · cases hk
      · rename_i hc
        cases hk
        rw [evKC_plain (by simpa using hc)] at he
        split at he
        · rename_i d H1 hd
          cases he
          obtain ⟨v, w', γ', hrun, L, F, J, V⟩ := op_done I E hk' hd
          have hk2 := hK v γ' w' d rfl L F J V
          unfold Oper.wp
          rcases hrun with h | ⟨h, rfl⟩
          · rw [h]; exact hk2
          · rw [h]; exact hk2
        · cases he
    · cases hk

theorem EnvRep.put' {γ : Gh} {env : Env} {nt : Nat} (E : EnvRep γ env a.tmps) (hn : a.tmps.size = nt) {dst : Option Nat} (hd : ∀ t, dst = some t → t < nt) {v : Value} {d : D} (h : RepD γ v d) :
    EnvRep γ (Go.Vs.put dst d env) (a.put dst v).tmps ∧ (a.put dst v).tmps.size = nt ∧ (a.put dst v).defers = a.defers := by
  cases dst with
  | none => exact ⟨E, hn, rfl⟩
  | some t => exact ⟨E.put (by rw [hn]; exact hd t rfl) h, by simp [Act.put, hn], rfl⟩

theorem guard_ok {ops : Array Oper} {nt : Nat} {so : SO} (h : OpOf P ops nt o so) (E : EnvRep γ env a.tmps) (hn : a.tmps.size = nt) (hlt : ∀ (j : Nat) o' t, ops[j]? = some o' → o'.dst = some t → t < nt) {b : Bool} (hg : evGuard env so.g = some b) :
    Region.wanted o (yielded ops a.tmps) = b := by
  have h1 := h.g
  have h2 := h.gd
  cases hgd : o.guard with
  | none =>
    rw [hgd] at h1
    rw [h1] at hg
    simp only [evGuard] at hg
    cases hg
    simp [Region.wanted, hgd]
  | some jw =>
    obtain ⟨j, want⟩ := jw
    rw [hgd] at h1
    obtain ⟨t, ht⟩ := Option.isSome_iff_exists.1 (h2 j want hgd)
    simp only [ht] at h1
    rw [h1] at hg
    simp only [evGuard] at hg
    have hr := E t
    have htl : t < a.tmps.size := by
      rw [hn]
      obtain ⟨o', ho', hd⟩ := Option.bind_eq_some_iff.1 ht
      exact hlt j o' t ho' hd
    have hval : a.tmps[t]? = some (a.tmps.getD t undef) := by simp [Array.getD_eq_getD_getElem?, htl]
    simp only [Region.wanted, hgd, yielded, ht, Option.bind_some, hval]
    split at hg
    · rename_i bb hb
      rw [hb] at hr
      rw [hr.p_inv.bool_inv]
      cases hg
      cases bb <;> cases want <;> rfl
    · rename_i hb
      rw [hb] at hr
      generalize a.tmps.getD t undef = v at hr
      cases hr
      cases hg
      rfl
    · cases hg

/-- The operations of a region, one behind the other. -/
theorem ops_wp {c : CallR} (S : Sound P G c) {ops : Array Oper} {nt : Nat} (hlt : ∀ (j : Nat) o' t, ops[j]? = some o' → o'.dst = some t → t < nt) {Q : Exit → Act → World → Prop} :
    ∀ (l : List Oper) (sl : List SO) (γ : Gh) (env : Env) (H : Hp) (a : Act) (w : World), l.length = sl.length → (∀ (i : Nat) o so, l[i]? = some o → sl[i]? = some so → OpOf P ops nt o so) →
      Inv G γ H w → EnvRep γ env a.tmps → a.tmps.size = nt → ∀ r, evOps c G sl env H = some r →
      (∀ γ' env' H' a' w', r = .ok env' H' → γ.le γ' → Frame γ H w γ' H' w' → Inv G γ' H' w' → EnvRep γ' env' a'.tmps → a'.tmps.size = nt → a'.defers = a.defers → Q .normal a' w') →
      (∀ γ' d H' v a' w', r = .pan d H' → γ.le γ' → Frame γ H w γ' H' w' → Inv G γ' H' w' → RepD γ' v d → a'.defers = a.defers → Q (.panic [{ v, recovered := false }]) a' w') →
      wpList P ops Q l a w
  | [], sl, γ, env, H, a, w, hl, _, I, E, hn, r, he, hok, _ => by
    cases sl with
    | cons => simp at hl
    | nil =>
      simp only [evOps] at he
      cases he
      exact wpList_nil (hok γ env H a w rfl (.refl γ) (.refl γ H w) I E hn rfl)
  | o :: l, sl, γ, env, H, a, w, hl, hof, I, E, hn, r, he, hok, hpan => by
    cases sl with
    | nil => simp at hl
    | cons so sl =>
      have ho := hof 0 o so rfl rfl
      have hrest : ∀ (i : Nat) o so', l[i]? = some o → sl[i]? = some so' → OpOf P ops nt o so' := fun i o so' h1 h2 => hof (i + 1) o so' (by simpa using h1) (by simpa using h2)
      have hll : l.length = sl.length := by simpa using hl
      simp only [evOps] at he
      split at he
      · rename_i hg
        have hw := guard_ok ho E hn hlt hg
        refine wpList_step fun K hK => ?_
        rw [if_pos hw]
        split at he
        · rename_i d H1 hd
          refine op_wp S I E ho.k hd (fun v γ' w' d' hr L F J V => ?_) (fun v γ' w' d' hr _ _ _ _ => by cases hr)
          cases hr
          obtain ⟨p1, p2, p3⟩ := (E.mono L).put' hn (dst := o.dst) ho.lt V
          rw [ho.dst] at he
          refine hK _ _ (ops_wp S hlt l sl γ' _ _ _ w' hll hrest J p1 p2 r he (fun γ2 env' H' a' w2 h1 h2 h3 h4 h5 h6 h7 => hok γ2 env' H' a' w2 h1 (L.trans h2) (F.trans h3) h4 h5 h6 (h7.trans p3)) (fun γ2 d2 H' v2 a' w2 h1 h2 h3 h4 h5 h6 => hpan γ2 d2 H' v2 a' w2 h1 (L.trans h2) (F.trans h3) h4 h5 (h6.trans p3)))
        · rename_i d H1 hd
          cases he
          exact op_wp S I E ho.k hd (fun v γ' w' d' hr _ _ _ _ => by cases hr) (fun v γ' w' d' hr L F J V => by cases hr; exact hpan γ' d H1 v a w' rfl L F J V rfl)
        · cases he
      · rename_i hg
        have hw := guard_ok ho E hn hlt hg
        refine wpList_step fun K hK => ?_
        rw [if_neg (by simp [hw])]
        obtain ⟨p1, p2, p3⟩ := E.put' hn (dst := o.dst) ho.lt (v := undef) RepD.undef
        rw [ho.dst] at he
        exact hK _ _ (ops_wp S hlt l sl γ _ _ _ w hll hrest I p1 p2 r he (fun γ2 env' H' a' w2 h1 h2 h3 h4 h5 h6 h7 => hok γ2 env' H' a' w2 h1 h2 h3 h4 h5 h6 (h7.trans p3)) (fun γ2 d2 H' v2 a' w2 h1 h2 h3 h4 h5 h6 => hpan γ2 d2 H' v2 a' w2 h1 h2 h3 h4 h5 (h6.trans p3)))
      · cases he

end Go.Vs
