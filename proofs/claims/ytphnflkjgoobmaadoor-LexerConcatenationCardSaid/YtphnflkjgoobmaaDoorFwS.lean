/-
  Code: from the model's code to the evaluator's, and that where the evaluator ends, the code ends so.
-/
import Derived.Test.YtphnflkjgoobmaaDoorFwR
import Derived.LoopN
import Derived.Scope
namespace Go.Vs

variable {P : Program} {G : Nat → Option (List PD)}

def soOf (P : Program) (nt : Nat) (ops : Array Oper) (o : Oper) : Option SO :=
  match kOp P o.op with
  | none => none
  | some k =>
    if (match o.dst with | some t => decide (t < nt) | none => true) then
      match o.guard with
      | none => some ⟨o.dst, k, none⟩
      | some (j, want) => match (ops[j]?).bind (·.dst) with
        | some t => some ⟨o.dst, k, some (t, want)⟩
        | none => none
    else none

theorem soOf_ok {nt : Nat} {ops : Array Oper} {o : Oper} {so : SO} (h : soOf P nt ops o = some so) : OpOf P ops nt o so := by
  obtain ⟨dst, op, type, pos, after, guard⟩ := o
  unfold soOf at h
  cases hk : kOp P op with
  | none => simp only [hk] at h; cases h
  | some k =>
    simp only [hk] at h
    generalize hd : (match dst with | some t => decide (t < nt) | none => true) = bb at h
    cases bb with
    | true =>
      rw [if_pos rfl] at h
      have hlt : ∀ t, dst = some t → t < nt := fun t ht => by subst ht; simpa using hd
      cases guard with
      | none =>
        cases h
        exact ⟨hk, rfl, hlt, rfl, fun j want hj => by cases hj⟩
      | some jw =>
        obtain ⟨j, want⟩ := jw
        cases ht : (ops[j]?).bind (·.dst) with
        | none => simp only [ht] at h; cases h
        | some t =>
          simp only [ht] at h
          cases h
          exact ⟨hk, rfl, hlt, by simp only [ht], fun j' want' hj => by cases hj; rw [ht]; rfl⟩
    | false =>
      rw [if_neg (by simp)] at h
      cases h

def compO (P : Program) (nt : Nat) (ops : Array Oper) : Option (List SO) := mapO (soOf P nt ops) ops.toList

theorem mapO_both {α β : Type} {f : α → Option β} : ∀ {l : List α} {r : List β}, mapO f l = some r → l.length = r.length ∧ ∀ (i : Nat) a b, l[i]? = some a → r[i]? = some b → f a = some b
  | [], r, h => by simp only [mapO, Option.some.injEq] at h; subst h; exact ⟨rfl, fun i a b h => by simp at h⟩
  | x :: l, r, h => by
    simp only [mapO] at h
    split at h
    · rename_i y hy
      obtain ⟨r', hr, rfl⟩ := Option.map_eq_some_iff.1 h
      obtain ⟨h1, h2⟩ := mapO_both hr
      refine ⟨by simp [h1], fun i a b ha hb => ?_⟩
      match i with
      | 0 => simp only [List.getElem?_cons_zero, Option.some.injEq] at ha hb; subst ha; subst hb; exact hy
      | i + 1 => exact h2 i a b (by simpa using ha) (by simpa using hb)
    · cases h

structure OpsOf (P : Program) (nt : Nat) (ops : Array Oper) (sl : List SO) : Prop where
  len : ops.size = sl.length
  of : ∀ (i : Nat) o so, ops[i]? = some o → sl[i]? = some so → OpOf P ops nt o so
  lt : ∀ (j : Nat) o' t, ops[j]? = some o' → o'.dst = some t → t < nt

theorem compO_ok {nt : Nat} {ops : Array Oper} {sl : List SO} (h : compO P nt ops = some sl) : OpsOf P nt ops sl := by
  obtain ⟨h1, h2⟩ := mapO_both h
  have hlen : ops.size = sl.length := by simpa using h1
  have hof : ∀ (i : Nat) o so, ops[i]? = some o → sl[i]? = some so → OpOf P ops nt o so := fun i o so ho hs => soOf_ok (h2 i o so (by simpa using ho) hs)
  refine ⟨hlen, hof, fun j o' t ho hd => ?_⟩
  have hj : j < sl.length := by rw [← hlen]; exact (Array.getElem?_eq_some_iff.1 ho).1
  exact (hof j o' sl[j] ho (List.getElem?_eq_getElem hj)).lt t hd

def compC (P : Program) (nt : Nat) : SC → Code → Option SC
  | .loc b, c => (compC P nt b c).map .loc
  | .skip, .skip => some .skip
  | .skip, .label _ => some .skip
  | .region keep _, .region _ ops false => (compO P nt ops).map (.region keep)
  | .draw keep pairs _, .region _ ops true => match compO P nt ops with
    | some sl => if drawOk pairs ops.toList sl then some (.draw keep pairs sl) else none
    | none => none
  | .seq (.tok s e z) b, c => if s < nt ∧ 0 < z then (compC P nt b c).map (.seq (.tok s e z)) else none
  | .seq a b, .seq x y => match compC P nt a x, compC P nt b y with
    | some a', some b' => some (.seq a' b')
    | _, _ => none
  | .cond _ a b, .cond c x y => match opdOf c, compC P nt a x, compC P nt b y with
    | some c', some a', some b' => some (.cond c' a' b')
    | _, _, _ => none
  | .block _ b, .block id x => (compC P nt b x).map (.block id)
  | .loop keep b, .loop x => (compC P nt b x).map (.loop keep)
  | .scope b, .scope x => (compC P nt b x).map .scope
  | .exit _, .exit id => some (.exit id)
  | .ret, .ret => some .ret
  | _, _ => none

/-- What is wanted behind the code. -/
def Post (G : Nat → Option (List PD)) (nt : Nat) (df : List Deferred) (Q : Exit → Act → World → Prop) (γ : Gh) (H : Hp) (w : World) (out : Out) (s' : St) : Prop :=
  ∀ γ' a' w', γ.le γ' → Frame γ H w γ' s'.hp w' → Inv G γ' s'.hp w' → a'.defers = df →
    match out with
    | .norm => a'.tmps.size = nt → EnvRep γ' s'.env a'.tmps → Q .normal a' w'
    | .exit id => a'.tmps.size = nt → EnvRep γ' s'.env a'.tmps → Q (.exit id) a' w'
    | .ret => a'.tmps.size = nt → EnvRep γ' s'.env a'.tmps → Q .ret a' w'
    | .pan d => ∀ v, RepD γ' v d → Q (.panic [{ v, recovered := false }]) a' w'

theorem Post.later {nt : Nat} {df : List Deferred} {Q : Exit → Act → World → Prop} {γ γ1 : Gh} {H H1 : Hp} {w w1 : World} {out : Out} {s' : St} (h : Post G nt df Q γ H w out s') (L : γ.le γ1) (F : Frame γ H w γ1 H1 w1) : Post G nt df Q γ1 H1 w1 out s' :=
  fun γ' a' w' l f => h γ' a' w' (L.trans l) (F.trans f)

theorem Post.other {nt : Nat} {df : List Deferred} {Q Q' : Exit → Act → World → Prop} {γ : Gh} {H : Hp} {w : World} {out : Out} {s' : St} (h : Post G nt df Q γ H w out s')
    (hq : ∀ e a w, (match out with | .norm => e = .normal | .exit id => e = .exit id | .ret => e = .ret | .pan _ => ∃ ch, e = .panic ch) → Q e a w → Q' e a w) : Post G nt df Q' γ H w out s' := by
  intro γ' a' w' h1 h2 h3 h5
  have := h γ' a' w' h1 h2 h3 h5
  cases out with
  | norm => exact fun m e => hq _ _ _ rfl (this m e)
  | exit id => exact fun m e => hq _ _ _ rfl (this m e)
  | ret => exact fun m e => hq _ _ _ rfl (this m e)
  | pan d => exact fun v hv => hq _ _ _ ⟨_, rfl⟩ (this v hv)

theorem tok_ok {γ : Gh} {H H' : Hp} {w : World} {v : Value} {d d' : D} {e sz : Nat} (I : Inv G γ H w) (h : tokD e sz d H = some (d', H')) (hv : RepD γ v d) : ∃ γ', γ.le γ' ∧ Frame γ H w γ' H' w ∧ Inv G γ' H' w ∧ RepD γ' v d' := by
  unfold tokD at h
  split at h
  · cases h
    have hvv := hv.p_inv.nils_inv
    subst hvv
    let row : Row := ⟨e, sz, fun n => if n = 0 then some none else none⟩
    obtain ⟨b1, b2, b3⟩ := I.addTok row 0 none rfl (fun n x hx => by
      simp only [row] at hx
      split at hx
      · omega
      · cases hx) rfl (fun _ _ h => by cases h)
    refine ⟨_, b1, b2, b3, ?_⟩
    exact .tsl _ _ _ _ _ row none (by show (γ.rows ++ [row])[H.tk.length]? = _; rw [← I.lenT]; simp) rfl rfl (.sl0 _ _ _) rfl rfl
  · rename_i sz' es
    split at h
    · rename_i hc
      obtain ⟨rfl, _⟩ := hc
      cases h
      cases hv with
      | fsl b n sz es' hlen hrep =>
        subst hlen
        let row : Row := ⟨e, sz', fun n => if n = es.length then some (some (b, es.length)) else none⟩
        obtain ⟨b1, b2, b3⟩ := I.addTok row es.length (some (b, es.length)) (by simp [row]) (fun n x hx => by
          simp only [row] at hx
          split at hx
          · omega
          · cases hx) ⟨Nat.le_refl _, fun h => by omega⟩ (fun _ _ h => by cases h; rfl)
        refine ⟨_, b1, b2, b3, ?_⟩
        exact .tsl _ _ _ _ _ row (some (b, es.length)) (by show (γ.rows ++ [row])[H.tk.length]? = _; rw [← I.lenT]; simp) rfl rfl (hrep.mono b1.mem) (by simp [row]) rfl
    · cases h
  · rename_i t e' sz' es
    split at h
    · rename_i hc
      obtain ⟨rfl, rfl⟩ := hc
      cases h
      exact ⟨γ, .refl γ, .refl γ H w, I, hv⟩
    · cases h
  · cases h

theorem EnvRep.tok {γ γ' : Gh} {env : Env} {tmps : Array Value} (E : EnvRep γ env tmps) (L : γ.le γ') {s : Nat} {d : D} (h : RepD γ' (tmps.getD s undef) d) : EnvRep γ' ((s, d) :: env) tmps := fun t => by
  simp only [Env.get]
  split
  · rename_i hs; subst hs; exact h
  · exact (E t).mono L

def Gh.cut (γ : Gh) (nb nt : Nat) : Gh := { γ with boxes := γ.boxes.take nb, rows := γ.rows.take nt }

theorem below_some {n i j : Nat} (h : below n i = some j) : i < n ∧ j = i := by
  unfold below at h
  split at h
  · rename_i hi; cases h; exact ⟨hi, rfl⟩
  · cases h

theorem cut_ren (γ : Gh) (nb nt : Nat) : Ren γ (γ.cut nb nt) (below nb) (below nt) := by
  refine ⟨fun _ _ _ h => h, fun i j b hi hb => ?_, fun t u row ht hr => ?_⟩
  · obtain ⟨h1, rfl⟩ := below_some hi
    show (γ.boxes.take nb)[j]? = some b
    rw [List.getElem?_take_of_lt h1]; exact hb
  · obtain ⟨h1, rfl⟩ := below_some ht
    refine ⟨row, ?_, rfl, rfl, fun _ _ h => h⟩
    show (γ.rows.take nt)[u]? = some row
    rw [List.getElem?_take_of_lt h1]; exact hr

theorem take_get {α : Type} {l : List α} {n i : Nat} {a : α} (h : (l.take n)[i]? = some a) : i < n ∧ l[i]? = some a := by
  rw [List.getElem?_take] at h
  split at h
  · exact ⟨‹_›, h⟩
  · cases h

theorem cut_free {γ : Gh} {H : Hp} {bx : List (List D)} {nb nt : Nat} {t b : Nat} (h : Free (γ.cut nb nt) ⟨bx, H.tk.take nt⟩ t b) : Free γ H t b := by
  obtain ⟨row, f, cap, h1, h2, h3, h4⟩ := h
  exact ⟨row, f, cap, (take_get h1).2, (take_get h2).2, h3, h4⟩

theorem cut_inv {γ : Gh} {H : Hp} {w : World} (J : Inv G γ H w) {nb nt : Nat} (hb : nb ≤ H.bx.length) (ht : nt ≤ H.tk.length) {bx : List (List D)} (hr : mapO (D.renL (below nb) (below nt)) (H.bx.take nb) = some bx) :
    Inv G (γ.cut nb nt) ⟨bx, H.tk.take nt⟩ w := by
  obtain ⟨hl, hg⟩ := mapO_both hr
  have hl' : bx.length = nb := by rw [← hl]; simp; omega
  refine ⟨J.mem, J.globs, ?_, (List.take_sublist _ _).nodup J.nodup, fun i b cs h1 h2 => ?_, fun b o h => J.boxmem b o (List.mem_of_mem_take h), ?_, fun t row f h1 h2 => ?_, fun t row f h1 h2 => J.rowmax t row f (take_get h1).2 (take_get h2).2, fun t t' b h h' => J.free t t' b (cut_free h) (cut_free h')⟩
  · have := J.lenB
    show (γ.boxes.take nb).length = bx.length
    rw [hl']; simp; omega
  · obtain ⟨hi, h1'⟩ := take_get h1
    have hc : (H.bx.take nb)[i]? = some (H.bx[i]'(by omega)) := by rw [List.getElem?_take_of_lt hi]; exact List.getElem?_eq_getElem _
    have hren := hg i _ cs hc h2
    obtain ⟨vs, T, q1, q2, q3⟩ := J.box i b _ h1' (List.getElem?_eq_getElem (by omega))
    exact ⟨vs, T, q1, renL_rep (cut_ren γ nb nt) q2 hren, renL_ones hren q3⟩
  · have := J.lenT
    show (γ.rows.take nt).length = (H.tk.take nt).length
    simp; omega
  · obtain ⟨r, q1, q2⟩ := J.row t row f (take_get h1).2 (take_get h2).2
    refine ⟨r, q1, ?_⟩
    cases r with
    | none => exact q2
    | some bc =>
      refine ⟨q2.1, fun hf => ?_⟩
      obtain ⟨cur, fr, a1, a2, a3, a4, a5, a6⟩ := q2.2 hf
      exact ⟨cur, fr, a1, a2, a3, a4, a5, fun h => a6 (List.mem_of_mem_take h)⟩

theorem loc_post {nt : Nat} {df : List Deferred} {Q : Exit → Act → World → Prop} {γ : Gh} {H : Hp} {w : World} (I : Inv G γ H w) {x : Out × St} (h : Post G nt df Q γ H w (locD H.bx.length H.tk.length x).1 (locD H.bx.length H.tk.length x).2) : Post G nt df Q γ H w x.1 x.2 := by
  unfold locD at h
  split at h
  · rename_i hc
    split at h
    · rename_i bx o hbx ho
      intro γ' a' w' L F J hd
      have R := cut_ren γ' H.bx.length H.tk.length
      have L2 : γ.le (γ'.cut H.bx.length H.tk.length) := by
        refine ⟨L.mem, fun i b hi => ?_, fun t r ht => ?_⟩
        · have hi' : i < H.bx.length := by rw [← I.lenB]; exact (List.getElem?_eq_some_iff.1 hi).1
          show (γ'.boxes.take H.bx.length)[i]? = some b
          rw [List.getElem?_take_of_lt hi']; exact L.boxes i b hi
        · have ht' : t < H.tk.length := by rw [← I.lenT]; exact (List.getElem?_eq_some_iff.1 ht).1
          obtain ⟨r', q1, q2⟩ := L.rows t r ht
          refine ⟨r', ?_, q2⟩
          show (γ'.rows.take H.tk.length)[t]? = some r'
          rw [List.getElem?_take_of_lt ht']; exact q1
      have F2 : Frame γ H w (γ'.cut H.bx.length H.tk.length) ⟨bx, x.2.hp.tk.take H.tk.length⟩ w' :=
        ⟨F.os, F.tape, F.output, F.size, F.blk, F.mem, fun b hb => F.box b (List.mem_of_mem_take hb), fun t b hb => F.fre t b (cut_free hb)⟩
      have J2 := cut_inv J hc.1 hc.2 hbx
      have := h _ a' w' L2 F2 J2 hd
      have hE : EnvRep γ' x.2.env a'.tmps → EnvRep (γ'.cut H.bx.length H.tk.length) (x.2.env.map fun y => (y.1, (y.2.ren (below H.bx.length) (below H.tk.length)).getD .dead)) a'.tmps := fun E t => by
        have hget : ∀ (e : Env), Env.get (e.map fun y => (y.1, (y.2.ren (below H.bx.length) (below H.tk.length)).getD .dead)) t = ((e.get t).ren (below H.bx.length) (below H.tk.length)).getD .dead := by
          intro e
          induction e with
          | nil => rfl
          | cons y e ih =>
            obtain ⟨s, d⟩ := y
            simp only [List.map_cons, Env.get]
            split
            · rfl
            · exact ih
        rw [hget]
        cases hren : (x.2.env.get t).ren (below H.bx.length) (below H.tk.length) with
        | none => exact .dead _
        | some d' => exact ren_rep R (E t) hren
      obtain ⟨xo, xs⟩ := x
      cases xo with
      | norm => cases ho; exact fun m E => this m (hE E)
      | exit id => cases ho; exact fun m E => this m (hE E)
      | ret => cases ho; exact fun m E => this m (hE E)
      | pan d =>
        obtain ⟨d', hd', rfl⟩ := Option.map_eq_some_iff.1 ho
        exact fun v hv => this v (ren_rep R hv hd')
    · exact h
  · exact h

theorem code_wp {c : CallR} (S : Sound P G c) (hm : P.follows .mixedOrders = true) {it : It} (hit : ∀ b s r, it b s = some r → ∃ m, iter b m s = some r) {nt : Nat} {df : List Deferred} :
    ∀ (sc : SC) (cd : Code) (sc' : SC), compC P nt sc cd = some sc' → ∀ (Q : Exit → Act → World → Prop) (γ : Gh) (s : St) (a : Act) (w : World) (out : Out) (s' : St), evS c G it sc' s = some (out, s') →
      Inv G γ s.hp w → EnvRep γ s.env a.tmps → a.tmps.size = nt → a.defers = df → Post G nt df Q γ s.hp w out s' → cd.wp P Q a w := by
  intro sc cd
  fun_induction compC P nt sc cd
  all_goals (intro sc' h Q γ s a w out s' he I E hn hd hp)
  case case1 b cd ih =>
    obtain ⟨b', hb, rfl⟩ := Option.map_eq_some_iff.1 h
    simp only [evS] at he
    obtain ⟨x, hx, heq⟩ := Option.map_eq_some_iff.1 he
    have h1 : out = (locD s.hp.bx.length s.hp.tk.length x).1 := by rw [heq]
    have h2 : s' = (locD s.hp.bx.length s.hp.tk.length x).2 := by rw [heq]
    rw [h1, h2] at hp
    exact ih b' hb Q γ s a w x.1 x.2 hx I E hn hd (loc_post I hp)
  case case2 =>
    cases h
    simp only [evS] at he
    cases he
    exact wp_skip (hp γ a w (.refl γ) (.refl γ _ w) I hd hn E)
  case case3 =>
    cases h
    simp only [evS] at he
    cases he
    exact wp_label (hp γ a w (.refl γ) (.refl γ _ w) I hd hn E)
  case case4 keep _ id ops =>
    obtain ⟨sl, hsl, rfl⟩ := Option.map_eq_some_iff.1 h
    have o := compO_ok hsl
    simp only [evS] at he
    have hl : ops.toList.length = sl.length := by simpa using o.len
    have hof : ∀ (i : Nat) x so, ops.toList[i]? = some x → sl[i]? = some so → OpOf P ops nt x so := fun i x so hx hs => o.of i x so (by simpa using hx) hs
    split at he
    · rename_i env' H' hev
      cases he
      refine wp_region_list (ops_wp S o.lt ops.toList sl γ s.env s.hp a w hl hof I E hn _ hev (fun γ' e2 H2 a' w' hr L F J E' hn' hd' => ?_) (fun γ' d H2 v a' w' hr _ _ _ _ _ => by cases hr))
      cases hr
      exact hp γ' a' w' L F J (hd'.trans hd) hn' (E'.keep keep)
    · rename_i d H' hev
      cases he
      refine wp_region_list (ops_wp S o.lt ops.toList sl γ s.env s.hp a w hl hof I E hn _ hev (fun γ' e2 H2 a' w' hr _ _ _ _ _ _ => by cases hr) (fun γ' d H2 v a' w' hr L F J V hd' => ?_))
      cases hr
      exact hp γ' a' w' L F J (hd'.trans hd) v V
    · cases he
  case case5 keep pairs _ id ops sl hsl hdr =>
    cases h
    have o := compO_ok hsl
    simp only [evS] at he
    split at he
    · rename_i env' H' cs hev
      split at he
      · rename_i hpr
        cases he
        refine wp_region_any hm (draw_wp S o.len o.of o.lt hdr hev hpr (w := w.drew) I.drew E hn fun γ' a' w' L F J E' hn' hd' => ?_)
        exact hp γ' a' w' L ((Frame.drew γ s.hp w).trans F) J (hd'.trans hd) hn' (E'.keep keep)
      · cases he
    · cases he
  case case8 st e z b cd hs ih =>
    obtain ⟨b', hb, rfl⟩ := Option.map_eq_some_iff.1 h
    simp only [evS] at he
    split at he
    · rename_i s1 h1
      split at h1
      · rename_i d H1 ht
        cases h1
        obtain ⟨γ1, L, F, J, V⟩ := tok_ok I ht (E st)
        exact ih b' hb Q γ1 _ a w out s' he J (E.tok L V) hn hd (hp.later L F)
      · cases h1
    · rename_i hne
      cases ht : tokD e z (s.env.get st) s.hp with
      | none => rw [ht] at he; cases he
      | some dh => exact (hne _ (by rw [ht])).elim
  case case10 sa sb x y _ a' b' hb ha iha ihb =>
    cases h
    simp only [evS] at he
    split at he
    · rename_i s1 h1
      refine wp_seq (iha a' ha _ γ s a w .norm s1 h1 I E hn hd fun γ' a2 w2 L F J hd' hn' E' => ?_)
      exact ihb b' hb Q γ' s1 a2 w2 out s' he J E' hn' hd' (hp.later L F)
    · rename_i hne
      refine wp_seq (iha a' ha _ γ s a w out s' he I E hn hd (hp.other fun e a w hx q => ?_))
      cases out with
      | norm => exact absurd he (hne s')
      | exit id => cases hx; exact q
      | ret => cases hx; exact q
      | pan d => obtain ⟨ch, rfl⟩ := hx; exact q
  case case12 _ sa sb cnd x y c' a' b' hb ha hc iha ihb =>
    cases h
    simp only [evS] at he
    split at he
    · rename_i t hcv
      have hr := opdOf_rep E hc
      rw [hcv] at hr
      have hv := hr.p_inv.bool_inv
      refine wp_cond hv ?_
      cases t with
      | true => exact iha a' ha Q γ s a w out s' he I E hn hd hp
      | false => exact ihb b' hb Q γ s a w out s' he I E hn hd hp
    · cases he
  case case14 _ sb id x ih =>
    obtain ⟨b', hb, rfl⟩ := Option.map_eq_some_iff.1 h
    simp only [evS] at he
    split at he
    · rename_i i s1 h1
      split at he
      · rename_i hi
        cases he
        refine wp_block (ih b' hb _ γ s a w _ _ h1 I E hn hd fun γ' a2 w2 L F J hd' hn' E' => ?_)
        simp only [Exit.inBlock, hi, if_true]
        exact hp γ' a2 w2 L F J hd' hn' E'
      · rename_i hi
        cases he
        refine wp_block (ih b' hb _ γ s a w _ _ h1 I E hn hd fun γ' a2 w2 L F J hd' hn' E' => ?_)
        simp only [Exit.inBlock, hi, if_false]
        exact hp γ' a2 w2 L F J hd' hn' E'
    · rename_i hne
      refine wp_block (ih b' hb _ γ s a w out s' he I E hn hd (hp.other fun e a w hx q => ?_))
      cases out with
      | norm => cases hx; exact q
      | exit id => exact absurd he (hne id s')
      | ret => cases hx; exact q
      | pan d => obtain ⟨ch, rfl⟩ := hx; exact q
  case case15 keep sb x ih =>
    obtain ⟨b', hb, rfl⟩ := Option.map_eq_some_iff.1 h
    simp only [evS] at he
    obtain ⟨m, hm⟩ := hit _ _ _ he
    refine wp_loop_rounds m ?_
    clear he
    induction m generalizing γ s a w with
    | zero => cases hm
    | succ m ihm =>
      simp only [iter] at hm
      split at hm
      · rename_i s1 h1
        refine ih b' hb _ γ _ a w .norm s1 h1 I (E.keep keep) hn hd fun γ' a2 w2 L F J hd' hn' E' => ?_
        exact ihm γ' s1 a2 w2 J E' hn' hd' (hp.later L F) hm
      · rename_i hne
        refine ih b' hb _ γ _ a w out s' hm I (E.keep keep) hn hd (hp.other fun e a w hx q => ?_)
        cases out with
        | norm => exact absurd hm (hne s')
        | exit id => cases hx; exact q
        | ret => cases hx; exact q
        | pan d => obtain ⟨ch, rfl⟩ := hx; exact q
  case case16 sb x ih =>
    obtain ⟨b', hb, rfl⟩ := Option.map_eq_some_iff.1 h
    simp only [evS] at he
    refine wp_scope_straight (ih b' hb _ γ s a w out s' he I E hn hd (hp.other fun e a w hx q => ?_))
    cases out with
    | norm => cases hx; exact q
    | exit id => cases hx; exact q
    | ret => cases hx; exact q
    | pan d => obtain ⟨ch, rfl⟩ := hx; exact q
  case case17 id _ =>
    cases h
    simp only [evS] at he
    cases he
    exact wp_exit (hp γ a w (.refl γ) (.refl γ _ w) I hd hn E)
  case case18 =>
    cases h
    simp only [evS] at he
    cases he
    exact wp_ret (hp γ a w (.refl γ) (.refl γ _ w) I hd hn E)
  all_goals cases h

end Go.Vs

