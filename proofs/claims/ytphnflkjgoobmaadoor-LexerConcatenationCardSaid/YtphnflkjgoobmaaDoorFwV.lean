/-
  The evaluator, step by step: equations that stop where a condition is not known.
-/
import Derived.Test.YtphnflkjgoobmaaDoorFwC
namespace Go.Vs

variable {c : CallR} {G : Nat → Option (List PD)}

/-! Regions in text order. -/
def opsX (c : CallR) (G : Nat → Option (List PD)) (keep : List Nat) (ops : List SO) (env : Env) (H : Hp) : Option (Out × St) :=
  match evOps c G ops env H with
  | some (.ok env H) => some (.norm, ⟨env.keep keep, H⟩)
  | some (.pan d H) => some (.pan d, ⟨[], H⟩)
  | none => none

def opsV (c : CallR) (G : Nat → Option (List PD)) (keep : List Nat) (x : Option (Res × Hp)) (dst : Option Nat) (r : List SO) (env : Env) : Option (Out × St) :=
  match x with
  | some (.val d, H') => opsX c G keep r (put dst d env) H'
  | some (.pan d, H') => some (.pan d, ⟨[], H'⟩)
  | none => none

def opsG (c : CallR) (G : Nat → Option (List PD)) (keep : List Nat) (g : Option Bool) (o : SO) (r : List SO) (env : Env) (H : Hp) : Option (Out × St) :=
  match g with
  | some true => opsV c G keep (evKC c G env H o.k) o.dst r env
  | some false => opsX c G keep r (put o.dst .undef env) H
  | none => none

@[simp] theorem evS_region (it : It) (keep : List Nat) (ops : List SO) (env : Env) (H : Hp) : evS c G it (.region keep ops) ⟨env, H⟩ = opsX c G keep ops env H := rfl
@[simp] theorem opsX_nil (keep : List Nat) (env : Env) (H : Hp) : opsX c G keep [] env H = some (.norm, ⟨env.keep keep, H⟩) := rfl
theorem opsX_cons (keep : List Nat) (o : SO) (r : List SO) (env : Env) (H : Hp) : opsX c G keep (o :: r) env H = opsG c G keep (evGuard env o.g) o r env H := by
  unfold opsX opsG
  simp only [evOps]
  cases evGuard env o.g with
  | none => rfl
  | some b =>
    cases b with
    | false => rfl
    | true =>
      unfold opsV
      cases evKC c G env H o.k with
      | none => rfl
      | some x =>
        obtain ⟨y, H'⟩ := x
        cases y <;> rfl
@[simp] theorem opsX_free (keep : List Nat) (dst : Option Nat) (k : SK) (r : List SO) (env : Env) (H : Hp) : opsX c G keep (⟨dst, k, none⟩ :: r) env H = opsV c G keep (evKC c G env H k) dst r env := opsX_cons ..
@[simp] theorem opsX_guard (keep : List Nat) (dst : Option Nat) (k : SK) (g : Nat × Bool) (r : List SO) (env : Env) (H : Hp) : opsX c G keep (⟨dst, k, some g⟩ :: r) env H = opsG c G keep (evGuard env (some g)) ⟨dst, k, some g⟩ r env H := opsX_cons ..
@[simp] theorem opsV_val (keep : List Nat) (d : D) (H' : Hp) (dst : Option Nat) (r : List SO) (env : Env) : opsV c G keep (some (.val d, H')) dst r env = opsX c G keep r (put dst d env) H' := rfl
@[simp] theorem opsG_true (keep : List Nat) (o : SO) (r : List SO) (env : Env) (H : Hp) : opsG c G keep (some true) o r env H = opsV c G keep (evKC c G env H o.k) o.dst r env := rfl
@[simp] theorem opsG_false (keep : List Nat) (o : SO) (r : List SO) (env : Env) (H : Hp) : opsG c G keep (some false) o r env H = opsX c G keep r (put o.dst .undef env) H := rfl

/-! Regions in an open order. -/
def drX (c : CallR) (G : Nat → Option (List PD)) (keep : List Nat) (pairs : List (Nat × Nat)) (ops : List SO) (env : Env) (H : Hp) (acc : List Nat) : Option (Out × St) :=
  match evDraw c G ops env H with
  | some (env, H, cs) => if pairs.all (fun p => !clash ((acc ++ cs).getD p.1 0) ((acc ++ cs).getD p.2 0)) then some (.norm, ⟨env.keep keep, H⟩) else none
  | none => none

def drV (c : CallR) (G : Nat → Option (List PD)) (keep : List Nat) (pairs : List (Nat × Nat)) (x : Option (Res × Hp)) (o : SO) (r : List SO) (env : Env) (H : Hp) (acc : List Nat) : Option (Out × St) :=
  match x with
  | some (.val d, H') => drX c G keep pairs r (put o.dst d env) H' (acc ++ [if cls env o.k = 0 then (if H'.bx.length = H.bx.length then 0 else 2) else cls env o.k])
  | _ => none

def drG (c : CallR) (G : Nat → Option (List PD)) (keep : List Nat) (pairs : List (Nat × Nat)) (g : Option Bool) (o : SO) (r : List SO) (env : Env) (H : Hp) (acc : List Nat) : Option (Out × St) :=
  match g with
  | some true => drV c G keep pairs (evKC c G env H o.k) o r env H acc
  | some false => drX c G keep pairs r (put o.dst .undef env) H (acc ++ [0])
  | none => none

@[simp] theorem evS_draw (it : It) (keep : List Nat) (pairs : List (Nat × Nat)) (ops : List SO) (env : Env) (H : Hp) : evS c G it (.draw keep pairs ops) ⟨env, H⟩ = drX c G keep pairs ops env H [] := rfl
@[simp] theorem drX_nil (keep : List Nat) (pairs : List (Nat × Nat)) (env : Env) (H : Hp) (acc : List Nat) : drX c G keep pairs [] env H acc = if pairs.all (fun p => !clash (acc.getD p.1 0) (acc.getD p.2 0)) then some (.norm, ⟨env.keep keep, H⟩) else none := by
  simp only [drX, evDraw, List.append_nil]
theorem drX_cons (keep : List Nat) (pairs : List (Nat × Nat)) (o : SO) (r : List SO) (env : Env) (H : Hp) (acc : List Nat) : drX c G keep pairs (o :: r) env H acc = drG c G keep pairs (evGuard env o.g) o r env H acc := by
  unfold drX drG
  simp only [evDraw]
  cases evGuard env o.g with
  | none => rfl
  | some b =>
    cases b with
    | false =>
      unfold drX
      cases evDraw c G r (put o.dst .undef env) H with
      | none => rfl
      | some x => obtain ⟨e, h, cs⟩ := x; simp only [List.append_assoc, List.singleton_append]
    | true =>
      unfold drV drX
      cases evKC c G env H o.k with
      | none => rfl
      | some x =>
        obtain ⟨y, H'⟩ := x
        cases y with
        | pan d => rfl
        | val d =>
          dsimp only
          cases evDraw c G r (put o.dst d env) H' with
          | none => rfl
          | some x => obtain ⟨e, h, cs⟩ := x; simp only [List.append_assoc, List.singleton_append]
@[simp] theorem drX_free (keep : List Nat) (pairs : List (Nat × Nat)) (dst : Option Nat) (k : SK) (r : List SO) (env : Env) (H : Hp) (acc : List Nat) : drX c G keep pairs (⟨dst, k, none⟩ :: r) env H acc = drV c G keep pairs (evKC c G env H k) ⟨dst, k, none⟩ r env H acc := drX_cons ..
@[simp] theorem drX_guard (keep : List Nat) (pairs : List (Nat × Nat)) (dst : Option Nat) (k : SK) (g : Nat × Bool) (r : List SO) (env : Env) (H : Hp) (acc : List Nat) : drX c G keep pairs (⟨dst, k, some g⟩ :: r) env H acc = drG c G keep pairs (evGuard env (some g)) ⟨dst, k, some g⟩ r env H acc := drX_cons ..
@[simp] theorem drV_val (keep : List Nat) (pairs : List (Nat × Nat)) (d : D) (H' : Hp) (o : SO) (r : List SO) (env : Env) (H : Hp) (acc : List Nat) : drV c G keep pairs (some (.val d, H')) o r env H acc = drX c G keep pairs r (put o.dst d env) H' (acc ++ [if cls env o.k = 0 then (if H'.bx.length = H.bx.length then 0 else 2) else cls env o.k]) := rfl
@[simp] theorem drG_true (keep : List Nat) (pairs : List (Nat × Nat)) (o : SO) (r : List SO) (env : Env) (H : Hp) (acc : List Nat) : drG c G keep pairs (some true) o r env H acc = drV c G keep pairs (evKC c G env H o.k) o r env H acc := rfl
@[simp] theorem drG_false (keep : List Nat) (pairs : List (Nat × Nat)) (o : SO) (r : List SO) (env : Env) (H : Hp) (acc : List Nat) : drG c G keep pairs (some false) o r env H acc = drX c G keep pairs r (put o.dst .undef env) H (acc ++ [0]) := rfl

/-! Code. -/
noncomputable def seqK (c : CallR) (G : Nat → Option (List PD)) (x : Option (Out × St)) (b : SC) : Option (Out × St) :=
  match x with
  | some (.norm, s') => evS c G iterX b s'
  | r => r

noncomputable def condK (c : CallR) (G : Nat → Option (List PD)) (t : D) (a b : SC) (s : St) : Option (Out × St) :=
  match t with
  | .p (.bool t) => if t then evS c G iterX a s else evS c G iterX b s
  | _ => none

def blockK (id : Nat) (x : Option (Out × St)) : Option (Out × St) :=
  match x with
  | some (.exit i, s') => if i = id then some (.norm, s') else some (.exit i, s')
  | r => r

noncomputable def loopK (c : CallR) (G : Nat → Option (List PD)) (keep : List Nat) (b : SC) (s : St) : Option (Out × St) := iterX (fun s => evS c G iterX b ⟨s.env.keep keep, s.hp⟩) s

def locK (nb nt : Nat) (x : Option (Out × St)) : Option (Out × St) := x.map (locD nb nt)

def tokK (slot : Nat) (x : Option (D × Hp)) (env : Env) : Option (Out × St) :=
  match x with
  | some (d, H) => some (.norm, ⟨(slot, d) :: env, H⟩)
  | none => none

@[simp] theorem evS_skip (s : St) : evS c G iterX .skip s = some (.norm, s) := rfl
@[simp] theorem evS_exit (id : Nat) (s : St) : evS c G iterX (.exit id) s = some (.exit id, s) := rfl
@[simp] theorem evS_ret (s : St) : evS c G iterX .ret s = some (.ret, s) := rfl
@[simp] theorem evS_scope (b : SC) (s : St) : evS c G iterX (.scope b) s = evS c G iterX b s := rfl
@[simp] theorem evS_seq (a b : SC) (s : St) : evS c G iterX (.seq a b) s = seqK c G (evS c G iterX a s) b := rfl
@[simp] theorem evS_cond (x : Opd) (a b : SC) (env : Env) (H : Hp) : evS c G iterX (.cond x a b) ⟨env, H⟩ = condK c G (x.ev env) a b ⟨env, H⟩ := rfl
@[simp] theorem evS_block (id : Nat) (b : SC) (s : St) : evS c G iterX (.block id b) s = blockK id (evS c G iterX b s) := rfl
theorem iterX_same {f : St → Option (Out × St)} {s s' : St} (h : f s = f s') : iterX f s = iterX f s' := by
  have key : ∀ m, iter f m s = iter f m s' := by
    intro m
    cases m with
    | zero => rfl
    | succ m => simp only [iter, h]
  cases hx : iterX f s' with
  | some r =>
    obtain ⟨m, hm⟩ := iterX_iff.1 hx
    exact iterX_iff.2 ⟨m, by rw [key]; exact hm⟩
  | none =>
    cases hy : iterX f s with
    | none => rfl
    | some r =>
      obtain ⟨m, hm⟩ := iterX_iff.1 hy
      rw [key] at hm
      rw [iterX_iff.2 ⟨m, hm⟩] at hx
      cases hx
theorem get_keep_mem {ks : List Nat} {e : Env} {t : Nat} (h : t ∈ ks) : (e.keep ks).get t = e.get t := by
  induction ks with
  | nil => cases h
  | cons k ks ih =>
    show (if k = t then e.get k else Env.get (List.map (fun t => (t, e.get t)) ks) t) = _
    split
    · rename_i hk; rw [hk]
    · rename_i hk
      have : t ∈ ks := by
        rcases List.mem_cons.1 h with h | h
        · exact absurd h.symm hk
        · exact h
      exact ih this
theorem keep_keep (ks : List Nat) (e : Env) : (e.keep ks).keep ks = e.keep ks :=
  List.map_congr_left fun t ht => by rw [get_keep_mem ht]
@[simp] theorem evS_loop (keep : List Nat) (b : SC) (env : Env) (H : Hp) : evS c G iterX (.loop keep b) ⟨env, H⟩ = loopK c G keep b ⟨env.keep keep, H⟩ :=
  iterX_same (by dsimp only; rw [keep_keep])
@[simp] theorem evS_loc (b : SC) (env : Env) (H : Hp) : evS c G iterX (.loc b) ⟨env, H⟩ = locK H.bx.length H.tk.length (evS c G iterX b ⟨env, H⟩) := rfl
@[simp] theorem evS_tok (slot e sz : Nat) (env : Env) (H : Hp) : evS c G iterX (.tok slot e sz) ⟨env, H⟩ = tokK slot (tokD e sz (env.get slot) H) env := rfl
@[simp] theorem seqK_norm (s : St) (b : SC) : seqK c G (some (.norm, s)) b = evS c G iterX b s := rfl
@[simp] theorem seqK_exit (id : Nat) (s : St) (b : SC) : seqK c G (some (.exit id, s)) b = some (.exit id, s) := rfl
@[simp] theorem seqK_ret (s : St) (b : SC) : seqK c G (some (.ret, s)) b = some (.ret, s) := rfl
@[simp] theorem seqK_pan (d : D) (s : St) (b : SC) : seqK c G (some (.pan d, s)) b = some (.pan d, s) := rfl
@[simp] theorem condK_true (a b : SC) (s : St) : condK c G (.p (.bool true)) a b s = evS c G iterX a s := rfl
@[simp] theorem condK_false (a b : SC) (s : St) : condK c G (.p (.bool false)) a b s = evS c G iterX b s := rfl
@[simp] theorem blockK_norm (id : Nat) (s : St) : blockK id (some (.norm, s)) = some (.norm, s) := rfl
@[simp] theorem blockK_ret (id : Nat) (s : St) : blockK id (some (.ret, s)) = some (.ret, s) := rfl
@[simp] theorem blockK_pan (id : Nat) (d : D) (s : St) : blockK id (some (.pan d, s)) = some (.pan d, s) := rfl
@[simp] theorem blockK_exit (id i : Nat) (s : St) : blockK id (some (.exit i, s)) = if i = id then some (.norm, s) else some (.exit i, s) := rfl
@[simp] theorem locK_some (nb nt : Nat) (x : Out × St) : locK nb nt (some x) = some (locD nb nt x) := rfl
@[simp] theorem tokK_some (slot : Nat) (d : D) (H : Hp) (env : Env) : tokK slot (some (d, H)) env = some (.norm, ⟨(slot, d) :: env, H⟩) := rfl

theorem loopK_norm {keep : List Nat} {b : SC} {env : Env} {H : Hp} {s' : St} (h : evS c G iterX b ⟨env.keep keep, H⟩ = some (.norm, s')) : loopK c G keep b ⟨env, H⟩ = loopK c G keep b s' := iterX_norm h
theorem loopK_out {keep : List Nat} {b : SC} {env : Env} {H : Hp} {o : Out} {s' : St} (h : evS c G iterX b ⟨env.keep keep, H⟩ = some (o, s')) (ho : o ≠ .norm) : loopK c G keep b ⟨env, H⟩ = some (o, s') := iterX_out h ho

/-! Numbers. -/
@[simp] theorem intBin_add (k : IntKind) (a b : Int) : intBin .add k a b = some (.int k (k.wrap (a + b))) := rfl
@[simp] theorem intBin_sub (k : IntKind) (a b : Int) : intBin .sub k a b = some (.int k (k.wrap (a - b))) := rfl
@[simp] theorem intBin_mul (k : IntKind) (a b : Int) : intBin .mul k a b = some (.int k (k.wrap (a * b))) := rfl
@[simp] theorem intBin_quo (k : IntKind) (a b : Int) : intBin .quo k a b = if b = 0 then none else some (.int k (k.wrap (a.tdiv b))) := rfl
@[simp] theorem intBin_rem (k : IntKind) (a b : Int) : intBin .rem k a b = if b = 0 then none else some (.int k (a.tmod b)) := rfl
@[simp] theorem intBin_eql (k : IntKind) (a b : Int) : intBin .eql k a b = some (.bool (a == b)) := rfl
@[simp] theorem intBin_neq (k : IntKind) (a b : Int) : intBin .neq k a b = some (.bool (a != b)) := rfl
@[simp] theorem intBin_lss (k : IntKind) (a b : Int) : intBin .lss k a b = some (.bool (decide (a < b))) := rfl
@[simp] theorem intBin_leq (k : IntKind) (a b : Int) : intBin .leq k a b = some (.bool (decide (a ≤ b))) := rfl
@[simp] theorem intBin_gtr (k : IntKind) (a b : Int) : intBin .gtr k a b = some (.bool (decide (a > b))) := rfl
@[simp] theorem intBin_geq (k : IntKind) (a b : Int) : intBin .geq k a b = some (.bool (decide (a ≥ b))) := rfl
theorem wrap64 {n : Int} (h1 : -9223372036854775808 ≤ n) (h2 : n < 9223372036854775808) : IntKind.i64.wrap n = n := by
  simp [IntKind.wrap, IntKind.bits, IntKind.signed]
  omega

/-! Calls. -/
@[simp] theorem evKC_call (f : Opd) (args : List Opd) (env : Env) (H : Hp) : evKC c G env H (.call f args) = callV c (f.ev env) (args.map (·.ev env)) H := rfl
@[simp] theorem callV_fn (g : Nat) (first cap args : List D) (H : Hp) : callV c (.fn g first cap) args H = callD c g (first ++ args ++ cap) H := rfl

/-- A call on data alone, of a function that gives back data alone. -/
theorem callD_pure {f : Nat} {args : List D} {H : Hp} {d : D} {Hl : Hp} {d' : D} (h : c f args ⟨[], []⟩ = some (.val d, Hl)) (hr : D.refsL args = []) (ht : D.toksL args = []) (ha : D.renL (idx []) (idx []) args = some args)
    (hd : d.ren (fun _ => none) (fun _ => none) = some d') : callD c f args H = some (.val d', H) := by
  have hreach : ∀ n, reach H n [] = [] := by
    intro n
    cases n <;> simp [reach, boxRefs]
  unfold callD
  simp only [hr, ht, ins, hreach, boxToks, List.append_nil, nodupB, Bool.and_self, if_true, mapO, ha, h]
  unfold back
  simp only [firstN, List.length_nil, Nat.zero_le, if_true, List.take_zero, List.getElem?_nil, mapO, putAll, Res.ren, hd, Option.map_some]

end Go.Vs
