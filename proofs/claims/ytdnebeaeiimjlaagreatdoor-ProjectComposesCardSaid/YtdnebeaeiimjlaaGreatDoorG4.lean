/-
  A value-level evaluator for Go functions; the functions of this cut by it; plain laws. Text G4.
-/
import Derived.Test.YtdnebeaeiimjlaaGreatDoorG3
import Derived.Test.YtdnebeaeiimjlaaGreatDoorG1
import Derived.Carry
import Derived.ChangeSlices
import Derived.ChangeMaps5
import Derived.RowKit
import Derived.SizedLaws
import Derived.Handed

namespace Go.Vs
structure Cf where
 /-- Functions whose literals are rows of their own. -/
 bg : List Nat
 /-- Functions that do not seal what they give. -/
 nofz : List Nat
 /-- Ranges over functions: function, iterator. -/
 rg : List (Nat × Nat)
 gens : Nat → List D → List D → Hp → Option (List (List D))
 /-- Functions whose rows that grow are plain data. -/
 ap : List Nat
 /-- Loops whose row that grows begins with a token: function, slot, type, size. -/
 tk : List (Nat × Nat × Nat × Nat)
 /-- Functions whose rounds keep what they make. -/
 nl : List Nat
 /-- Functions where one variable made in an open order is made ahead. -/
 m1 : List Nat := []
def insS (x : Nat) : List Nat → List Nat
 | [] => [x]
 | y :: l => if x < y then x :: y :: l else if x = y then y :: l else y :: insS x l
def uniS (a b : List Nat) : List Nat := b.foldr insS a
def lopsS (ops : List SO) (out : List Nat) : List Nat := ops.foldr (fun o l => uniS (match o.dst with | some t => l.filter (fun x => !Nat.beq x t) | none => l) o.uses) out
def exitsS : SC → List Nat
 | .exit i => [i]
 | .seq a b | .cond _ a b | .rangef _ _ _ _ a b => exitsS a ++ exitsS b
 | .block _ b | .loop _ b | .scope b | .loc b | .locz b => exitsS b
 | _ => []
def hasRetS : SC → Bool
 | .ret => true
 | .seq a b | .cond _ a b | .rangef _ _ _ _ a b => hasRetS a || hasRetS b
 | .block _ b | .loop _ b | .scope b | .loc b | .locz b => hasRetS b
 | _ => false
def lookS (id : Nat) : List (Nat × List Nat) → List Nat
 | [] => []
 | (i, l) :: r => if i = id then l else lookS id r
def liveS (fin : List Nat) : SC → List (Nat × List Nat) → List Nat → List Nat × SC
 | .skip, _, out => (out, .skip)
 | .region _ ops, _, out => (lopsS ops out, .region out ops)
 | .draw _ pairs ops, _, out => (lopsS ops out, .draw out pairs ops)
 | .seq a b, ex, out =>
  match liveS fin b ex out with
  | (l1, b') => match liveS fin a ex l1 with
   | (l0, a') => (l0, .seq a' b')
 | .cond c a b, ex, out =>
  match liveS fin a ex out, liveS fin b ex out with
  | (la, a'), (lb, b') => (uniS (uniS la lb) c.slots, .cond c a' b')
 | .block id b, ex, out =>
  match liveS fin b ((id, out) :: ex) out with
  | (l, b') => (l, .block id b')
 | .loop _ b, ex, _ =>
  match liveS fin b ex [] with
  | (l1, _) => match liveS fin b ex l1 with
   | (l2, b') => (uniS l1 l2, .loop (uniS l1 l2) b')
 | .rangef f gn g ps a b, ex, out =>
  match liveS [] b [] [] with
  | (l1, b') => match liveS [] a [] l1 with
   | (l0, a') => (uniS (uniS (uniS (uniS out (l0.filter fun x => !ps.contains x)) ((exitsS b).flatMap fun i => lookS i ex)) g.slots) (if hasRetS b then fin else []), .rangef f gn g ps a' b')
 | .tok s e z, _, out => (uniS out [s], .tok s e z)
 | .tokb s o e z, _, out => (uniS out [s], .tokb s o e z)
 | .stuck, _, _ => ([], .stuck)
 | .locz b, ex, out => match liveS fin b ex out with | (l, b') => (l, .locz b')
 | .scope b, ex, out => match liveS fin b ex out with | (l, b') => (l, .scope b')
 | .loc b, ex, out => match liveS fin b ex out with | (l, b') => (l, .loc b')
 | .exit id, ex, _ => (lookS id ex, .exit id)
 | .ret, _, _ => (fin, .ret)
def anyC (p : Op → Bool) : Code → Bool
 | .region _ ops _ => ops.toList.any fun o => p o.op
 | .seq a b | .cond _ a b | .rangeFunc _ _ a b => anyC p a || anyC p b
 | .block _ b | .loop b | .scope b => anyC p b
 | _ => false
def growsO : Op → Bool
 | .call c => match c.callee with
  | .builtin .append => true
  | _ => false
 | _ => false
def makesO : Op → Bool
 | .alloc _ | .box _ _ | .buildSlice _ _ _ | .makeSlice _ _ _ => true
 | .call c => match c.callee with
  | .builtin .len => false
  | .builtin .cap => false
  | _ => true
 | _ => false
def hintS (cf : Cf) (fi : Nat) (o : Oper) : SO :=
 ⟨none, match o.op with
  | .buildSlice _ _ _ => if cf.bg.contains fi then .bsliceG 0 0 0 .nilp [] else .stuck
  | .call c => match c.callee with
   | .builtin .append => if cf.ap.contains fi then .append 0 0 0 (.t 0) (.t 0) else .appendg 0 0 0 (.t 0) (.t 0)
   | _ => .stuck
  | _ => .stuck, none⟩
def locS (nl : Bool) (b : Code) (x : SC) : SC := if !nl && anyC makesO b && !anyC growsO b then .loc x else x
def findT (fi : Nat) : List (Nat × Nat × Nat × Nat) → Option (Nat × Nat × Nat)
 | [] => none
 | (i, x) :: r => if i = fi then some x else findT fi r
def findS (fi : Nat) : List (Nat × Nat) → Option Nat
 | [] => none
 | (i, x) :: r => if i = fi then some x else findS fi r
def drySO : Op → Bool
 | .move _ | .assign _ | .pick _ _ _ | .build _ _ | .nilCheck _ | .binOp _ _ _ _ _ | .unOp _ _ _ | .makeInterface _ _ | .makeFunc _ _ _ | .slice _ _ _ _ _ | .fieldAddr _ _ _ | .field _ _ _ | .indexAddr _ _ _ | .index _ _ _ | .extract _ _ => true
 | .call c => match c.callee with
  | .builtin .len => true
  | .builtin .cap => true
  | _ => false
 | _ => false
def pairsAt (ms : List Nat) (i : Nat) : Nat → List Oper → List (Nat × Nat)
 | _, [] => []
 | j, o :: r => if decide (i ≤ j) || drySO o.op || rel ms i j then (if decide (i ≤ j) then [] else pairsAt ms i (j + 1) r) else (j, i) :: pairsAt ms i (j + 1) r
def pairsS (ms : List Nat) (ops : List Oper) : Nat → List Oper → List (Nat × Nat)
 | _, [] => []
 | i, o :: r => if drySO o.op then pairsS ms ops (i + 1) r else pairsAt ms i 0 ops ++ pairsS ms ops (i + 1) r
def alS (ext : Bool) (o : Oper) : Bool := match o.op with
 | .alloc _ => (predsOf o).isEmpty
 | .makeSlice _ _ _ => ext
 | _ => false
def mksS (ext : Bool) : Nat → List Oper → List Nat
 | _, [] => []
 | i, o :: r => if alS ext o && o.guard.isNone then i :: mksS ext (i + 1) r else mksS ext (i + 1) r
def ndO (ops : List Oper) (j : Nat) : Bool := match ops[j]? with
 | some o => !drySO o.op
 | none => false
def pairsM (least : Nat) (ms : List Nat) (ops : List Oper) (c : List Nat) : List (Nat × Nat) :=
 if decide (least ≤ c.length) && c.all (fun a => lateOk ms (c.map fun i => (1000000 + i, 0)) (ndO ops) a 0 ops && (List.range a).all fun j => !rel ms a j || !ndO ops j) then (c.map fun i => (1000000 + i, 0)) ++ (pairsS ms ops 0 ops).filter fun p => !c.contains p.2
 else pairsS ms ops 0 ops
def pairsX (ext : Bool) (ms : List Nat) (ops : List Oper) : List (Nat × Nat) := pairsM (if ext then 1 else 2) ms ops (mksS ext 0 ops)
def skS (cf : Cf) (fi : Nat) : Code → SC
 | .skip => .skip
 | .region _ ops draw => if draw then .draw [] (pairsX (cf.m1.contains fi) (masksOf ops.toList []) ops.toList) (ops.toList.map (hintS cf fi)) else .region [] (ops.toList.map (hintS cf fi))
 | .seq a b => .seq (skS cf fi a) (skS cf fi b)
 | .cond _ a b => .cond (.t 0) (skS cf fi a) (skS cf fi b)
 | .block id b => .block id (skS cf fi b)
 | .loop b => match findT fi cf.tk with
  | some (s, e, z) => .seq (.tok s e z) (.loop [] (.loc (skS cf fi b)))
  | none => .loop [] (locS (cf.nl.contains fi) b (skS cf fi b))
 | .exit id => .exit id
 | .scope b => .scope (skS cf fi b)
 | .ret => .ret
 | .rangeFunc _ ps a b => match findS fi cf.rg with
  | some f => .rangef f (cf.gens f) (.t 0) ps.toList (skS cf fi a) (locS (cf.nl.contains fi) b (skS cf fi b))
  | none => .stuck
 | .label _ => .skip
 | _ => .stuck
theorem noR_live : ∀ (sc : SC) (fin : List Nat) (ex : List (Nat × List Nat)) (out : List Nat), (liveS fin sc ex out).2.noR = sc.noR := by
 intro sc
 induction sc with
 | seq a b iha ihb => intro fin ex out; show ((liveS fin a ex (liveS fin b ex out).1).2.noR && (liveS fin b ex out).2.noR) = _; rw [iha, ihb]; rfl
 | cond c a b iha ihb => intro fin ex out; show ((liveS fin a ex out).2.noR && (liveS fin b ex out).2.noR) = _; rw [iha, ihb]; rfl
 | block id b ih => intro fin ex out; show (liveS fin b ((id, out) :: ex) out).2.noR = _; rw [ih]; rfl
 | loop k b ih => intro fin ex out; show (liveS fin b ex (liveS fin b ex []).1).2.noR = _; rw [ih]; rfl
 | locz b ih => intro fin ex out; show (liveS fin b ex out).2.noR = _; rw [ih]; rfl
 | scope b ih => intro fin ex out; show (liveS fin b ex out).2.noR = _; rw [ih]; rfl
 | loc b ih => intro fin ex out; show (liveS fin b ex out).2.noR = _; rw [ih]; rfl
 | _ => intros; rfl
theorem compC_seq {P : Program} {nt : Nat} {a b a' b' : SC} {x y : Code} (ha : compC P nt a x = some a') (hb : compC P nt b y = some b') : compC P nt (.seq a b) (.seq x y) = some (.seq a' b') := by
 cases a
 case tok => cases x <;> simp [compC] at ha
 case tokb => cases x <;> simp [compC] at ha
 all_goals (show (match compC P nt _ x, compC P nt b y with | some a', some b' => some (SC.seq a' b') | _, _ => none) = _; rw [ha, hb])
theorem live_comp {P : Program} {nt : Nat} (sk : SC) (c : Code) : ∀ sc, compC P nt sk c = some sc → ∀ (fin : List Nat) (ex : List (Nat × List Nat)) (out : List Nat), ∃ sk', compC P nt sk' c = some (liveS fin sc ex out).2 := by
 fun_induction compC P nt sk c
 all_goals (intro sc h fin ex out)
 all_goals try (cases h; done)
 case case1 ih =>
  obtain ⟨b', hb, rfl⟩ := Option.map_eq_some_iff.1 h
  obtain ⟨k, hk⟩ := ih b' hb fin ex out
  exact ⟨.loc k, by simp only [compC, hk]; rfl⟩
 case case2 => cases h; exact ⟨.skip, rfl⟩
 case case3 => cases h; exact ⟨.skip, rfl⟩
 case case4 keep hs id ops hn =>
  obtain ⟨sl, hsl, rfl⟩ := Option.map_eq_some_iff.1 h
  exact ⟨.region out hs, by simp only [compC, hn, hsl, if_true]; rfl⟩
 case case6 keep pairs hs id ops sl hsl hn =>
  cases h
  exact ⟨.draw out pairs hs, by simp only [compC, hsl, hn, if_true]; rfl⟩
 case case9 f gen g0 ps0 a b g ps x y g' a' b' hb ha hg hn iha ihb =>
  cases h
  obtain ⟨kb, hkb⟩ := ihb b' hb [] [] []
  obtain ⟨ka, hka⟩ := iha a' ha [] [] (liveS [] b' [] []).1
  refine ⟨.rangef f gen (.t 0) [] ka kb, ?_⟩
  have h1 : ((liveS [] a' [] (liveS [] b' [] []).1).2.noR && (liveS [] b' [] []).2.noR && ps.toList.all fun p => decide (p < nt)) = true := by rw [noR_live, noR_live]; exact hn
  simp only [compC, hg, hka, hkb, h1, if_true]
  rfl
 case case12 s e z b c hc ih =>
  obtain ⟨b', hb, rfl⟩ := Option.map_eq_some_iff.1 h
  obtain ⟨k, hk⟩ := ih b' hb fin ex out
  exact ⟨.seq (.tok s e z) k, by simp only [compC, hk, if_pos hc]; rfl⟩
 case case14 s off e z b c hc ih =>
  obtain ⟨b', hb, rfl⟩ := Option.map_eq_some_iff.1 h
  obtain ⟨k, hk⟩ := ih b' hb fin ex out
  exact ⟨.seq (.tokb s off e z) k, by simp only [compC, hk, if_pos hc]; rfl⟩
 case case16 a b x y n1 n2 a' b' hb ha iha ihb =>
  cases h
  obtain ⟨kb, hkb⟩ := ihb b' hb fin ex out
  obtain ⟨ka, hka⟩ := iha a' ha fin ex (liveS fin b' ex out).1
  exact ⟨.seq ka kb, compC_seq hka hkb⟩
 case case18 c0 a b c x y g' a' b' hb ha hg iha ihb =>
  cases h
  obtain ⟨kb, hkb⟩ := ihb b' hb fin ex out
  obtain ⟨ka, hka⟩ := iha a' ha fin ex out
  exact ⟨.cond (.t 0) ka kb, by simp only [compC, hg, hka, hkb]; rfl⟩
 case case20 id0 b id x ih =>
  obtain ⟨b', hb, rfl⟩ := Option.map_eq_some_iff.1 h
  obtain ⟨k, hk⟩ := ih b' hb fin ((id, out) :: ex) out
  exact ⟨.block 0 k, by simp only [compC, hk]; rfl⟩
 case case21 keep b x ih =>
  obtain ⟨b', hb, rfl⟩ := Option.map_eq_some_iff.1 h
  obtain ⟨k, hk⟩ := ih b' hb fin ex (liveS fin b' ex []).1
  exact ⟨.loop (uniS (liveS fin b' ex []).1 (liveS fin b' ex (liveS fin b' ex []).1).1) k, by simp only [compC, hk]; rfl⟩
 case case22 b x ih =>
  obtain ⟨b', hb, rfl⟩ := Option.map_eq_some_iff.1 h
  obtain ⟨k, hk⟩ := ih b' hb fin ex out
  exact ⟨.scope k, by simp only [compC, hk]; rfl⟩
 case case23 => cases h; exact ⟨.exit 0, rfl⟩
 case case24 => cases h; exact ⟨.ret, rfl⟩
 case case25 ih =>
  obtain ⟨b', hb, rfl⟩ := Option.map_eq_some_iff.1 h
  obtain ⟨k, hk⟩ := ih b' hb fin ex out
  exact ⟨.locz k, by simp only [compC, hk]; rfl⟩
 case case26 => cases h; exact ⟨.stuck, by simp only [compC]; rfl⟩
def autoF (P : Program) (cf : Cf) (fi : Nat) (f : Func) : Option FC :=
 if f.name == "runtime.NumGoroutine" then none else
 match f.body, mapO (resOf P) f.results.toList with
 | some c, some res => if f.params.size + f.nfree ≤ f.ntmps then (match compC P f.ntmps (skS cf fi c) c with
  | some b => some ⟨f.ntmps, f.params.size + f.nfree, res, (liveS (res.map fun | .t i => i | .cell i _ => i) b [] (res.map fun | .t i => i | .cell i _ => i)).2, !cf.nofz.contains fi, none⟩
  | none => none) else none
 | _, _ => none
theorem autoF_ok {P : Program} {cf : Cf} {fi : Nat} {f : Func} {fc : FC} (hf : P.funcs[fi]? = some f) (h : autoF P cf fi f = some fc) : FOk0 P fi fc := by
 unfold autoF at h
 split at h
 ·cases h
 ·rename_i hn
  split at h
  ·rename_i c res hb hres
   split at h
   ·rename_i hle
    split at h
    ·rename_i b hcomp
     cases h
     exact ⟨f, c, hf, by simpa using hn, hb, rfl, hle, hres, live_comp _ _ _ hcomp _ _ _⟩
    ·cases h
   ·cases h
  ·cases h
variable {c : CallR} {G : Nat → Option (List PD)}
def opsX (c : CallR) (G : Nat → Option (List PD)) (keep : List Nat) (ops : List SO) (env : Env) (H : Hp) : Option (Out × St) :=
 match evOps c G ops env H with
 | some (.ok env H) => some (.norm, ⟨env.keep keep, H⟩)
 | some (.pan d env H) => some (.pan d, ⟨env, H⟩)
 | none => none
def opsV (c : CallR) (G : Nat → Option (List PD)) (keep : List Nat) (x : Option (Res × Hp)) (dst : Option Nat) (r : List SO) (env : Env) : Option (Out × St) :=
 match x with
 | some (.val d, H') => opsX c G keep r (put dst d env) H'
 | some (.pan d, H') => some (.pan d, ⟨env, H'⟩)
 | none => none
def opsG (c : CallR) (G : Nat → Option (List PD)) (keep : List Nat) (g : Option Bool) (o : SO) (r : List SO) (env : Env) (H : Hp) : Option (Out × St) :=
 match g with
 | some true => opsV c G keep (evKC c G env H o.k) o.dst r env
 | some false => opsX c G keep r (put o.dst .undef env) H
 | none => none

@[simp] theorem evS_region (it : It) (keep : List Nat) (ops : List SO) (env : Env) (H : Hp) : evS c G it (.region keep ops) ⟨env, H⟩ = opsX c G keep ops env H := rfl
@[simp] theorem opsX_nil (keep : List Nat) (env : Env) (H : Hp) : opsX c G keep [] env H = some (.norm, ⟨env.keep keep, H⟩) := rfl
theorem opsX_cons (keep : List Nat) (o : SO) (r : List SO) (env : Env) (H : Hp) : opsX c G keep (o :: r) env H = opsG c G keep (evGuard env o.g) o r env H := by
 unfold opsX opsG
 simp only [evOps]
 cases evGuard env o.g with
 | none => rfl
 | some b =>
  cases b with
  | false => rfl
  | true =>
   unfold opsV
   cases evKC c G env H o.k with
   | none => rfl
   | some x =>
    obtain ⟨y, H'⟩ := x
    cases y <;> rfl
@[simp] theorem opsX_free (keep : List Nat) (dst : Option Nat) (k : SK) (r : List SO) (env : Env) (H : Hp) : opsX c G keep (⟨dst, k, none⟩ :: r) env H = opsV c G keep (evKC c G env H k) dst r env := opsX_cons ..
@[simp] theorem opsX_guard (keep : List Nat) (dst : Option Nat) (k : SK) (g : Nat × Bool) (r : List SO) (env : Env) (H : Hp) : opsX c G keep (⟨dst, k, some g⟩ :: r) env H = opsG c G keep (evGuard env (some g)) ⟨dst, k, some g⟩ r env H := opsX_cons ..
@[simp] theorem opsV_val (keep : List Nat) (d : D) (H' : Hp) (dst : Option Nat) (r : List SO) (env : Env) : opsV c G keep (some (.val d, H')) dst r env = opsX c G keep r (put dst d env) H' := rfl
@[simp] theorem opsV_pan (keep : List Nat) (d : D) (H' : Hp) (dst : Option Nat) (r : List SO) (env : Env) : opsV c G keep (some (.pan d, H')) dst r env = some (.pan d, ⟨env, H'⟩) := rfl
@[simp] theorem opsG_true (keep : List Nat) (o : SO) (r : List SO) (env : Env) (H : Hp) : opsG c G keep (some true) o r env H = opsV c G keep (evKC c G env H o.k) o.dst r env := rfl
@[simp] theorem opsG_false (keep : List Nat) (o : SO) (r : List SO) (env : Env) (H : Hp) : opsG c G keep (some false) o r env H = opsX c G keep r (put o.dst .undef env) H := rfl
def drP (c : CallR) (G : Nat → Option (List PD)) (pairs : List (Nat × Nat)) (un : Env) (d : D) (H' : Hp) (o : SO) (r : List SO) (env : Env) (H : Hp) (acc : List (Nat × Nat)) : Option (Out × St) :=
 match evRest c G pairs acc.length (acc.length + 1) o.dst.toList r (put o.dst .undef env) H with
 | some cs => if pairsOk pairs (acc ++ (0, 0) :: cs) && panOk pairs (acc ++ (0, 0) :: cs) acc.length then some (.pan d, ⟨un, H'⟩) else none
 | none => none
def drX (c : CallR) (G : Nat → Option (List PD)) (keep : List Nat) (pairs : List (Nat × Nat)) (un : Env) (ops : List SO) (env : Env) (H : Hp) (acc : List (Nat × Nat)) : Option (Out × St) :=
 match evDraw c G ops env H with
 | some (env, H, cs) => if pairsOk pairs (acc ++ cs) then some (.norm, ⟨env.keep keep, H⟩) else none
 | none => match evDrawP c G pairs acc.length ops env H with
  | some (d, H', cs, k) => if pairsOk pairs (acc ++ cs) && panOk pairs (acc ++ cs) k then some (.pan d, ⟨un, H'⟩) else none
  | none => none
def drV (c : CallR) (G : Nat → Option (List PD)) (keep : List Nat) (pairs : List (Nat × Nat)) (un : Env) (x : Option (Res × Hp)) (o : SO) (r : List SO) (env : Env) (H : Hp) (acc : List (Nat × Nat)) : Option (Out × St) :=
 match x with
 | some (.val d, H') => drX c G keep pairs un r (put o.dst d env) H' (acc ++ [clsP env H H' o.k])
 | some (.pan d, H') => drP c G pairs un d H' o r env H acc
 | none => none
def drG (c : CallR) (G : Nat → Option (List PD)) (keep : List Nat) (pairs : List (Nat × Nat)) (un : Env) (g : Option Bool) (o : SO) (r : List SO) (env : Env) (H : Hp) (acc : List (Nat × Nat)) : Option (Out × St) :=
 match g with
 | some true => drV c G keep pairs un (evKC c G env H o.k) o r env H acc
 | some false => drX c G keep pairs un r (put o.dst .undef env) H (acc ++ [(0, 0)])
 | none => none

@[simp] theorem evS_draw (it : It) (keep : List Nat) (pairs : List (Nat × Nat)) (ops : List SO) (env : Env) (H : Hp) : evS c G it (.draw keep pairs ops) ⟨env, H⟩ = drX c G keep pairs (unwritten ops env) ops env H [] := rfl
theorem drX_end (keep : List Nat) (pairs : List (Nat × Nat)) (un env : Env) (H : Hp) (acc : List (Nat × Nat)) : drX c G keep pairs un [] env H acc = if pairsOk pairs acc then some (.norm, ⟨env.keep keep, H⟩) else none := by
 simp only [drX, evDraw, List.append_nil]
@[simp] theorem drX_nil (keep : List Nat) (pairs : List (Nat × Nat)) (un env : Env) (H : Hp) (acc : List (Nat × Nat)) : drX c G keep pairs un [] env H acc = if pairs.all (fun p => !clash (acc.getD p.1 (0, 0)) (acc.getD p.2 (0, 0))) && insOk acc then some (.norm, ⟨env.keep keep, H⟩) else none :=
 drX_end ..
theorem drX_step {keep : List Nat} {pairs : List (Nat × Nat)} {un : Env} {o : SO} {r : List SO} {env env' : Env} {H H' : Hp} {acc : List (Nat × Nat)} {x : Nat × Nat}
    (h1 : evDraw c G (o :: r) env H = match evDraw c G r env' H' with | some (e, h, cs) => some (e, h, x :: cs) | none => none)
    (h2 : ∀ i, evDrawP c G pairs i (o :: r) env H = (evDrawP c G pairs (i + 1) r env' H').map fun y => (y.1, y.2.1, x :: y.2.2.1, y.2.2.2)) :
    drX c G keep pairs un (o :: r) env H acc = drX c G keep pairs un r env' H' (acc ++ [x]) := by
 unfold drX
 rw [h1, h2]
 cases evDraw c G r env' H' with
 | some z => obtain ⟨e, h, cs⟩ := z; simp only [List.append_assoc, List.singleton_append]
 | none =>
  simp only [List.length_append, List.length_singleton]
  cases evDrawP c G pairs (acc.length + 1) r env' H' with
  | none => rfl
  | some z => obtain ⟨d, h, cs, k⟩ := z; simp only [Option.map_some, List.append_assoc, List.singleton_append]
theorem drX_cons (keep : List Nat) (pairs : List (Nat × Nat)) (un : Env) (o : SO) (r : List SO) (env : Env) (H : Hp) (acc : List (Nat × Nat)) : drX c G keep pairs un (o :: r) env H acc = drG c G keep pairs un (evGuard env o.g) o r env H acc := by
 cases hg : evGuard env o.g with
 | none =>
  unfold drX drG
  simp only [evDraw, evDrawP, hg]
 | some b =>
  cases b with
  | false => exact drX_step (by simp only [evDraw, hg]; cases evDraw c G r (put o.dst .undef env) H <;> rfl) (fun i => by simp only [evDrawP, hg])
  | true =>
   unfold drG drV
   dsimp only
   cases hk : evKC c G env H o.k with
   | none =>
    unfold drX
    simp only [evDraw, evDrawP, hg, hk]
   | some x =>
    obtain ⟨y, H'⟩ := x
    cases y with
    | val d => exact drX_step (by simp only [evDraw, hg, hk]; cases evDraw c G r (put o.dst d env) H' <;> rfl) (fun i => by simp only [evDrawP, hg, hk])
    | pan d =>
     unfold drX drP
     simp only [evDraw, evDrawP, hg, hk]
     cases evRest c G pairs acc.length (acc.length + 1) o.dst.toList r (put o.dst .undef env) H <;> rfl
@[simp] theorem drX_free (keep : List Nat) (pairs : List (Nat × Nat)) (un : Env) (dst : Option Nat) (k : SK) (r : List SO) (env : Env) (H : Hp) (acc : List (Nat × Nat)) : drX c G keep pairs un (⟨dst, k, none⟩ :: r) env H acc = drV c G keep pairs un (evKC c G env H k) ⟨dst, k, none⟩ r env H acc := drX_cons ..
@[simp] theorem drX_guard (keep : List Nat) (pairs : List (Nat × Nat)) (un : Env) (dst : Option Nat) (k : SK) (g : Nat × Bool) (r : List SO) (env : Env) (H : Hp) (acc : List (Nat × Nat)) : drX c G keep pairs un (⟨dst, k, some g⟩ :: r) env H acc = drG c G keep pairs un (evGuard env (some g)) ⟨dst, k, some g⟩ r env H acc := drX_cons ..
@[simp] theorem drV_val (keep : List Nat) (pairs : List (Nat × Nat)) (un : Env) (d : D) (H' : Hp) (o : SO) (r : List SO) (env : Env) (H : Hp) (acc : List (Nat × Nat)) : drV c G keep pairs un (some (.val d, H')) o r env H acc = drX c G keep pairs un r (put o.dst d env) H' (acc ++ [clsP env H H' o.k]) := rfl
@[simp] theorem drV_pan (keep : List Nat) (pairs : List (Nat × Nat)) (un : Env) (d : D) (H' : Hp) (o : SO) (r : List SO) (env : Env) (H : Hp) (acc : List (Nat × Nat)) : drV c G keep pairs un (some (.pan d, H')) o r env H acc = drP c G pairs un d H' o r env H acc := rfl
@[simp] theorem drG_true (keep : List Nat) (pairs : List (Nat × Nat)) (un : Env) (o : SO) (r : List SO) (env : Env) (H : Hp) (acc : List (Nat × Nat)) : drG c G keep pairs un (some true) o r env H acc = drV c G keep pairs un (evKC c G env H o.k) o r env H acc := rfl
@[simp] theorem drG_false (keep : List Nat) (pairs : List (Nat × Nat)) (un : Env) (o : SO) (r : List SO) (env : Env) (H : Hp) (acc : List (Nat × Nat)) : drG c G keep pairs un (some false) o r env H acc = drX c G keep pairs un r (put o.dst .undef env) H (acc ++ [(0, 0)]) := rfl

noncomputable def seqK (c : CallR) (G : Nat → Option (List PD)) (x : Option (Out × St)) (b : SC) : Option (Out × St) :=
 match x with
 | some (.norm, s') => evS c G iterX b s'
 | r => r

noncomputable def condK (c : CallR) (G : Nat → Option (List PD)) (t : D) (a b : SC) (s : St) : Option (Out × St) :=
 match t with
 | .p (.bool t) => if t then evS c G iterX a s else evS c G iterX b s
 | _ => none
def blockK (id : Nat) (x : Option (Out × St)) : Option (Out × St) :=
 match x with
 | some (.exit i, s') => if i = id then some (.norm, s') else some (.exit i, s')
 | r => r

noncomputable def loopK (c : CallR) (G : Nat → Option (List PD)) (keep : List Nat) (b : SC) (s : St) : Option (Out × St) := iterX (fun s => evS c G iterX b ⟨s.env.keep keep, s.hp⟩) s
def locK (nb nt : Nat) (x : Option (Out × St)) : Option (Out × St) := x.map (locD nb nt)
def loczK (nb nt : Nat) (x : Option (Out × St)) : Option (Out × St) := x.map fun x => locD nb nt (sealS nb x)
def tokbK (x : Option St) : Option (Out × St) := x.map fun s => (.norm, s)
def tokK (slot : Nat) (x : Option (D × Hp)) (env : Env) : Option (Out × St) :=
 match x with
 | some (d, H) => some (.norm, ⟨(slot, d) :: env, H⟩)
 | none => none

@[simp] theorem evS_skip (s : St) : evS c G iterX .skip s = some (.norm, s) := rfl
@[simp] theorem evS_exit (id : Nat) (s : St) : evS c G iterX (.exit id) s = some (.exit id, s) := rfl
@[simp] theorem evS_ret (s : St) : evS c G iterX .ret s = some (.ret, s) := rfl
@[simp] theorem evS_scope (b : SC) (s : St) : evS c G iterX (.scope b) s = evS c G iterX b s := rfl
@[simp] theorem evS_seq (a b : SC) (s : St) : evS c G iterX (.seq a b) s = seqK c G (evS c G iterX a s) b := rfl
@[simp] theorem evS_cond (x : Opd) (a b : SC) (env : Env) (H : Hp) : evS c G iterX (.cond x a b) ⟨env, H⟩ = condK c G (x.ev env) a b ⟨env, H⟩ := rfl
@[simp] theorem evS_block (id : Nat) (b : SC) (s : St) : evS c G iterX (.block id b) s = blockK id (evS c G iterX b s) := rfl
theorem iterX_same {f : St → Option (Out × St)} {s s' : St} (h : f s = f s') : iterX f s = iterX f s' := by
 have key : ∀ m, iter f m s = iter f m s' := by
  intro m
  cases m with
  | zero => rfl
  | succ m => simp only [iter, h]
 cases hx : iterX f s' with
 | some r =>
  obtain ⟨m, hm⟩ := iterX_iff.1 hx
  exact iterX_iff.2 ⟨m, by rw [key]; exact hm⟩
 | none =>
  cases hy : iterX f s with
  | none => rfl
  | some r =>
   obtain ⟨m, hm⟩ := iterX_iff.1 hy
   rw [key] at hm
   rw [iterX_iff.2 ⟨m, hm⟩] at hx
   cases hx
theorem get_keep_mem {ks : List Nat} {e : Env} {t : Nat} (h : t ∈ ks) : (e.keep ks).get t = e.get t := by
 induction ks with
 | nil => cases h
 | cons k ks ih =>
  show (if k = t then e.get k else Env.get (List.map (fun t => (t, e.get t)) ks) t) = _
  split
  ·rename_i hk; rw [hk]
  ·rename_i hk
   have : t ∈ ks := by
    rcases List.mem_cons.1 h with h | h
    ·exact absurd h.symm hk
    ·exact h
   exact ih this
theorem keep_keep (ks : List Nat) (e : Env) : (e.keep ks).keep ks = e.keep ks :=
 List.map_congr_left fun t ht => by rw [get_keep_mem ht]
@[simp] theorem evS_loop (keep : List Nat) (b : SC) (env : Env) (H : Hp) : evS c G iterX (.loop keep b) ⟨env, H⟩ = loopK c G keep b ⟨env.keep keep, H⟩ :=
 iterX_same (by dsimp only; rw [keep_keep])
@[simp] theorem evS_loc (b : SC) (env : Env) (H : Hp) : evS c G iterX (.loc b) ⟨env, H⟩ = locK H.bx.length H.tk.length (evS c G iterX b ⟨env, H⟩) := rfl
@[simp] theorem evS_tok (slot e sz : Nat) (env : Env) (H : Hp) : evS c G iterX (.tok slot e sz) ⟨env, H⟩ = tokK slot (tokD e sz (env.get slot) H) env := rfl
noncomputable def rangeK (c : CallR) (G : Nat → Option (List PD)) (xs : Option (List (List D))) (asg b : SC) (env : Env) (ps : List Nat) (kb : Hp → Bool) (H : Hp) : Option (Out × St) :=
 match xs with
 | some xs => evRounds (evS c G iterX asg) (evS c G iterX b) env ps kb xs H
 | none => none

@[simp] theorem evS_rangef (f : Nat) (gen : List D → List D → Hp → Option (List (List D))) (g : Opd) (ps : List Nat) (asg b : SC) (env : Env) (H : Hp) : evS c G iterX (.rangef f gen g ps asg b) ⟨env, H⟩ = rangeK c G (genD f gen (g.ev env) H) asg b env ps (keepB (capIds (g.ev env) H) H) H := rfl
@[simp] theorem genD_fn (f : Nat) (gen : List D → List D → Hp → Option (List (List D))) (fi cap : List D) (H : Hp) : genD f gen (.fn f fi cap) H = gen fi cap H := by simp [genD]

@[simp] theorem evS_locz (b : SC) (env : Env) (H : Hp) : evS c G iterX (.locz b) ⟨env, H⟩ = loczK H.bx.length H.tk.length (evS c G iterX b ⟨env, H⟩) := rfl
@[simp] theorem evS_tokb (slot off e sz : Nat) (s : St) : evS c G iterX (.tokb slot off e sz) s = tokbK (tokbD slot off e sz s) := rfl
@[simp] theorem tokbK_some (s : St) : tokbK (some s) = some (.norm, s) := rfl
@[simp] theorem loczK_some (nb nt : Nat) (x : Out × St) : loczK nb nt (some x) = some (locD nb nt (sealS nb x)) := rfl
@[simp] theorem seqK_norm (s : St) (b : SC) : seqK c G (some (.norm, s)) b = evS c G iterX b s := rfl
@[simp] theorem seqK_exit (id : Nat) (s : St) (b : SC) : seqK c G (some (.exit id, s)) b = some (.exit id, s) := rfl
@[simp] theorem seqK_ret (s : St) (b : SC) : seqK c G (some (.ret, s)) b = some (.ret, s) := rfl
@[simp] theorem seqK_pan (d : D) (s : St) (b : SC) : seqK c G (some (.pan d, s)) b = some (.pan d, s) := rfl
@[simp] theorem condK_true (a b : SC) (s : St) : condK c G (.p (.bool true)) a b s = evS c G iterX a s := rfl
@[simp] theorem condK_false (a b : SC) (s : St) : condK c G (.p (.bool false)) a b s = evS c G iterX b s := rfl
@[simp] theorem blockK_norm (id : Nat) (s : St) : blockK id (some (.norm, s)) = some (.norm, s) := rfl
@[simp] theorem blockK_ret (id : Nat) (s : St) : blockK id (some (.ret, s)) = some (.ret, s) := rfl
@[simp] theorem blockK_pan (id : Nat) (d : D) (s : St) : blockK id (some (.pan d, s)) = some (.pan d, s) := rfl
@[simp] theorem blockK_exit (id i : Nat) (s : St) : blockK id (some (.exit i, s)) = if i = id then some (.norm, s) else some (.exit i, s) := rfl
@[simp] theorem locK_some (nb nt : Nat) (x : Out × St) : locK nb nt (some x) = some (locD nb nt x) := rfl
@[simp] theorem tokK_some (slot : Nat) (d : D) (H : Hp) (env : Env) : tokK slot (some (d, H)) env = some (.norm, ⟨(slot, d) :: env, H⟩) := rfl
theorem loopK_norm {keep : List Nat} {b : SC} {env : Env} {H : Hp} {s' : St} (h : evS c G iterX b ⟨env.keep keep, H⟩ = some (.norm, s')) : loopK c G keep b ⟨env, H⟩ = loopK c G keep b s' := iterX_norm h
theorem loopK_out {keep : List Nat} {b : SC} {env : Env} {H : Hp} {o : Out} {s' : St} (h : evS c G iterX b ⟨env.keep keep, H⟩ = some (o, s')) (ho : o ≠ .norm) : loopK c G keep b ⟨env, H⟩ = some (o, s') := iterX_out h ho

@[simp] theorem intBin_add (k : IntKind) (a b : Int) : intBin .add k a b = some (.int k (k.wrap (a + b))) := rfl
@[simp] theorem intBin_sub (k : IntKind) (a b : Int) : intBin .sub k a b = some (.int k (k.wrap (a - b))) := rfl
@[simp] theorem intBin_mul (k : IntKind) (a b : Int) : intBin .mul k a b = some (.int k (k.wrap (a * b))) := rfl
@[simp] theorem intBin_quo (k : IntKind) (a b : Int) : intBin .quo k a b = if b = 0 then none else some (.int k (k.wrap (a.tdiv b))) := rfl
@[simp] theorem intBin_rem (k : IntKind) (a b : Int) : intBin .rem k a b = if b = 0 then none else some (.int k (a.tmod b)) := rfl
@[simp] theorem intBin_eql (k : IntKind) (a b : Int) : intBin .eql k a b = some (.bool (a == b)) := rfl
@[simp] theorem intBin_neq (k : IntKind) (a b : Int) : intBin .neq k a b = some (.bool (a != b)) := rfl
@[simp] theorem intBin_lss (k : IntKind) (a b : Int) : intBin .lss k a b = some (.bool (decide (a < b))) := rfl
@[simp] theorem intBin_leq (k : IntKind) (a b : Int) : intBin .leq k a b = some (.bool (decide (a ≤ b))) := rfl
@[simp] theorem intBin_gtr (k : IntKind) (a b : Int) : intBin .gtr k a b = some (.bool (decide (a > b))) := rfl
@[simp] theorem intBin_geq (k : IntKind) (a b : Int) : intBin .geq k a b = some (.bool (decide (a ≥ b))) := rfl
theorem wrap64 {n : Int} (h1 : -9223372036854775808 ≤ n) (h2 : n < 9223372036854775808) : IntKind.i64.wrap n = n := by
 simp [IntKind.wrap, IntKind.bits, IntKind.signed]
 omega

@[simp] theorem evKC_call (f : Opd) (args : List Opd) (env : Env) (H : Hp) : evKC c G env H (.call f args) = callV c (f.ev env) (args.map (·.ev env)) H := rfl
@[simp] theorem evKC_panic (x : Opd) (env : Env) (H : Hp) : evKC c G env H (.panic x) = panicD (x.ev env) H := rfl
@[simp] theorem callV_fn (g : Nat) (first cap args : List D) (H : Hp) : callV c (.fn g first cap) args H = callD c g (first ++ args ++ cap) H := rfl
theorem callD_pure {f : Nat} {args : List D} {H : Hp} {d : D} {Hl : Hp} {d' : D} (h : c f args ⟨[], []⟩ = some (.val d, Hl)) (hr : D.refsL args = []) (ht : D.toksL args = []) (ha : D.renL (idx []) (idx []) args = some args)
    (hd : d.ren (fun _ => none) (fun _ => none) = some d') : callD c f args H = some (.val d', H) := by
 have hreach : ∀ n, reach H n [] = [] := by
  intro n
  cases n <;> simp [reach, boxRefs]
 unfold callD
 simp only [hr, ht, ins, hreach, boxToks, List.append_nil, nodupB, Bool.and_self, if_true, mapO, ha, h]
 unfold back
 simp only [firstN, List.length_nil, Nat.zero_le, if_true, List.take_zero, List.getElem?_nil, mapO, putAll, Res.ren, hd, Option.map_some]

end Go.Vs

namespace Go.Vs

variable {P : Program} {W : World} {G : Nat → Option (List PD)} {γ : Gh} {H : Hp} {w : World}
theorem wpR_of_wp {fid : Nat} {c : Code} {Q : Exit → Act → World → Prop} {a : Act} {w : World} (h : c.wp P Q a w) : wpR none fid P c Q a w :=
 wpR_of_in (ro := none) ((wpIn_wide (n := 0)).2 h)
def LvM (P : Program) (fn : Func) (tmps : Array Value) (R : Ending → World → Prop) : List Deferred → FrameMode → World → Prop
 | [], u, w => Leaves P fn tmps R [] u w
 | d :: ds, u, w => (u ≠ .run ∧ ∃ r w', d.target = .collected r ∧ (Instr.takeDeferred r).run P w = .ok [] w' ∧ LvM P fn tmps R ds u w') ∨ Leaves P fn tmps R (d :: ds) u w
theorem lvM_of {fn : Func} {tmps : Array Value} {R : Ending → World → Prop} {ds : List Deferred} {u : FrameMode} {w : World} (h : Leaves P fn tmps R ds u w) : LvM P fn tmps R ds u w := by
 cases ds with
 | nil => exact h
 | cons d ds => exact .inr h
theorem lvM_steps {fn : Func} {tmps : Array Value} {R : Ending → World → Prop} : ∀ (ds : List Deferred) (u : FrameMode) (w : World) (fr : Go.Frame) (cs : List Go.Frame), fr.mode = u → fr.defers = ds → fr.tmps = tmps → P.funcs[fr.fn]? = some fn → fr.kind = .normal → LvM P fn tmps R ds u w →
    ∃ e w' fr', R e w' ∧ Comes P (lone fr cs w) (lone fr' cs w') e ∧ fr'.fn = fr.fn ∧ fr'.leaving P w' e
 | [], u, w, fr, cs, h1, h2, h3, h4, h5, h => leaves_steps [] u w fr cs h1 h2 h3 h4 h5 h
 | d :: ds, u, w, fr, cs, h1, h2, h3, h4, h5, h => by
  rcases h with ⟨hu, r, w1, ht, hk, h⟩ | h
  ·have hs := step_collected (cs := cs) (by rw [h1]; exact hu) h2 ht hk
   obtain ⟨e, w', fr', q1, q2, q3, q4⟩ := lvM_steps ds u w1 ({ fr with defers := [] ++ ds } : Go.Frame) cs h1 rfl h3 h4 h5 h
   exact ⟨e, w', fr', q1, Comes.of_steps (.one hs) q2, q3, q4⟩
  ·exact leaves_steps (d :: ds) u w fr cs h1 h2 h3 h4 h5 h
def bodyM (P : Program) (fn : Func) (R : Ending → World → Prop) : Exit → Act → World → Prop
 | .normal, a, w | .ret, a, w => LvM P fn a.tmps R a.defers .returning w
 | .panic chain, a, w => LvM P fn a.tmps R a.defers (.panicking chain) w
 | .outgrown, _, w => R .outgrown w
 | _, _, _ => False
theorem calls_of_R {f : FuncId} {fn : Func} {c : Code} {args : Array Value} {w : World} {R : Ending → World → Prop} (hf : P.funcs[f]? = some fn) (hb : fn.body = some c)
    (h : wpR none f P c (bodyM P fn R) { tmps := args ++ Array.replicate (fn.ntmps - args.size) undef, defers := [] } w) : Calls P f args w R := by
 intro cs
 obtain ⟨b, hb0⟩ : ∃ b : Go.Frame, b = { (default : Go.Frame) with fn := f, kind := .normal, roundOf := none } := ⟨_, rfl⟩
 have b1 : b.roundOf = none := by rw [hb0]
 have b2 : b.fn = f := by rw [hb0]
 have b3 : b.kind = .normal := by rw [hb0]
 have henter : Go.Frame.enter P f args .normal = b.atR { tmps := args ++ Array.replicate (fn.ntmps - args.size) undef, defers := [] } [.code c] := by
  rw [hb0]; simp [Go.Frame.enter, Go.Frame.atR, hf, hb]
 obtain ⟨e, a1, w1, hq, harr⟩ := h b [] cs b1 b2
 rw [henter]
 have leave : ∀ (u : FrameMode) (todo : List Item), LvM P fn a1.tmps R a1.defers u w1 → ∃ e w' fr', R e w' ∧ Comes P (lone ({ b.atR a1 todo with mode := u } : Go.Frame) cs w1) (lone fr' cs w') e ∧ fr'.fn = f ∧ fr'.leaving P w' e := by
  intro u todo hl
  obtain ⟨e, w', fr', h1, h2, h3, h4⟩ := lvM_steps a1.defers u w1 ({ b.atR a1 todo with mode := u } : Go.Frame) cs rfl rfl rfl (by show P.funcs[b.fn]? = _; rw [b2]; exact hf) b3 hl
  exact ⟨e, w', fr', h1, h2, h3.trans b2, h4⟩
 cases e with
 | normal =>
  obtain ⟨e, w', fr', h1, h2, h3, h4⟩ := leave .returning [] hq
  exact ⟨e, w', fr', h1, Comes.of_steps (Steps.trans (StepsIn.steps harr) (.one (stepR_end b1))) h2, h3, h4⟩
 | ret =>
  obtain ⟨todo, hs⟩ := harr.1 b1
  obtain ⟨e, w', fr', h1, h2, h3, h4⟩ := leave .returning todo hq
  exact ⟨e, w', fr', h1, Comes.of_steps (StepsIn.steps hs) h2, h3, h4⟩
 | panic ch =>
  obtain ⟨todo, hs⟩ := harr
  obtain ⟨e, w', fr', h1, h2, h3, h4⟩ := leave (.panicking ch) todo hq
  exact ⟨e, w', fr', h1, Comes.of_steps (StepsIn.steps hs) h2, h3, h4⟩
 | outgrown => exact ⟨.outgrown, w1, b, hq, harr.resolve_left (by rw [b3]; simp), b2, trivial⟩
 | exit id => exact hq.elim
 | goto l => exact hq.elim
theorem leaves_marks {fn : Func} {tmps : Array Value} {R : Ending → World → Prop} {ds : List Deferred} {u : FrameMode} {B : Nat} {K : World → Prop} (hu : u ≠ .run) (hK : ∀ w, K w → LvM P fn tmps R ds u w)
    (hT : ∀ w m, K w → B ≤ m → w.heap[m]? = some (.deferred (some [])) → K (w.putObj m (.deferred none))) : ∀ (ms : List Nat) (w : World), K w → ms.Nodup → (∀ m ∈ ms, B ≤ m ∧ w.heap[m]? = some (.deferred (some []))) → LvM P fn tmps R (ms.map mark ++ ds) u w
 | [], w, h, _, _ => hK w h
 | m :: ms, w, h, hn, hm => by
  obtain ⟨h1, h2⟩ := List.nodup_cons.1 hn
  obtain ⟨g1, g2⟩ := hm m (by simp)
  refine .inl ⟨hu, m, w.putObj m (.deferred none), rfl, run_takeDeferred g2, ?_⟩
  refine leaves_marks hu hK hT ms _ (hT w m h g1 g2) h2 fun k hk => ?_
  obtain ⟨k1, k2⟩ := hm k (by simp [hk])
  exact ⟨k1, (World.putObj_heap_other (fun e => h1 (by rw [← e]; exact hk))).trans k2⟩
def wpLR (fid : Nat) (P : Program) : List Code → (Exit → Act → World → Prop) → Act → World → Prop
 | [], Q, a, w => Q .normal a w
 | c :: r, Q, a, w => wpR none fid P c (Exit.then (wpLR fid P r Q) Q) a w
theorem wpLR_mono {fid : Nat} : ∀ (x : List Code) {Q Q' : Exit → Act → World → Prop} {a : Act} {w : World}, wpLR fid P x Q a w → (∀ e a w, Q e a w → Q' e a w) → wpLR fid P x Q' a w
 | [], Q, Q', a, w, h, k => k _ _ _ h
 | c :: x, Q, Q', a, w, h, k => by
  refine wpR_mono (P := P) h fun e a w q => ?_
  cases e with
  | normal => exact wpLR_mono x q k
  | _ => exact k _ _ _ q
theorem wpLR_app {fid : Nat} : ∀ (x y : List Code) (Q : Exit → Act → World → Prop) (a : Act) (w : World), wpLR fid P (x ++ y) Q a w → wpLR fid P x (Exit.then (wpLR fid P y Q) Q) a w
 | [], y, Q, a, w, h => h
 | c :: x, y, Q, a, w, h => by
  refine wpR_mono (P := P) h fun e a w q => ?_
  cases e with
  | normal => exact wpLR_app x y Q a w q
  | _ => exact q
theorem wpLR_app' {fid : Nat} : ∀ (x y : List Code) (Q : Exit → Act → World → Prop) (a : Act) (w : World), wpLR fid P x (Exit.then (wpLR fid P y Q) Q) a w → wpLR fid P (x ++ y) Q a w
 | [], y, Q, a, w, h => h
 | c :: x, y, Q, a, w, h => by
  refine wpR_mono (P := P) h fun e a w q => ?_
  cases e with
  | normal => exact wpLR_app' x y Q a w q
  | _ => exact q
theorem wpR_spine {fid : Nat} : ∀ (c : Code) {Q : Exit → Act → World → Prop} {a : Act} {w : World}, wpLR fid P (spine c) Q a w → wpR none fid P c Q a w := by
 intro c
 induction c with
 | seq x y ihx ihy =>
  intro Q a w h
  refine wpR_seq (ihx (wpLR_mono (spine x) (wpLR_app (spine x) (spine y) Q a w h) fun e a w q => ?_))
  cases e with
  | normal => exact ihy q
  | _ => exact q
 | _ =>
  intro Q a w h
  refine wpR_mono (P := P) h fun e a w q => ?_
  cases e with
  | normal => exact q
  | _ => exact q
theorem wpLR_of_wpL {fid : Nat} : ∀ (x : List Code) {Q : Exit → Act → World → Prop} {a : Act} {w : World}, wpL P x Q a w → wpLR fid P x Q a w
 | [], Q, a, w, h => h
 | c :: x, Q, a, w, h => by
  refine wpR_mono (wpR_of_wp (fid := fid) h) fun e a w q => ?_
  cases e with
  | normal => exact wpLR_of_wpL x q
  | _ => exact q
theorem compSp_wpR {c : CallR} (S : Sound P W G c) (hm : P.follows .mixedOrders = true) {it : It} (hit : ∀ b s r, it b s = some r → ∃ m, iter b m s = some r) {nt fid B : Nat} {fnc : Func} (hfn : P.funcs[fid]? = some fnc) {df : List Deferred} (sc : SC) (cd : List Code) :
    ∀ (sc' : SC), compSp P nt sc cd = some sc' → sc'.gens P W G → ∀ (Q : Exit → Act → World → Prop) (γ : Gh) (s : St) (a : Act) (w : World) (out : Out) (s' : St), (∀ a w, ¬ Q .outgrown a w) → evS c G it sc' s = some (out, s') →
     InvS W G γ s.hp w → EnvRep γ s.env a.tmps → a.tmps.size = nt → Dfs (some B) df a.defers w → Post W G nt (some B) df Q γ s.hp w out s' → wpLR fid P cd Q a w := by
 fun_induction compSp P nt sc cd
 all_goals (intro sc' h hG Q γ s a w out s' hQ he I E hn hd hp)
 case case1 x y c0 d r x' y' hy hx ih =>
  cases h
  simp only [evS] at he
  split at he
  ·rename_i s1 h1
   refine code_wpR S hm hit x c0 x' hx (ro := none) hG.1 (.inr ⟨rfl, ⟨B, rfl⟩, fnc, hfn⟩) _ γ s a w .norm s1 hQ h1 I E hn hd fun γ' a2 w2 L F J hd' hn' E' => ?_
   exact ih y' hy hG.2 Q γ' s1 a2 w2 out s' hQ he J E' hn' hd' (hp.later L F)
  ·rename_i hne
   refine code_wpR S hm hit x c0 x' hx (ro := none) hG.1 (.inr ⟨rfl, ⟨B, rfl⟩, fnc, hfn⟩) _ γ s a w out s' hQ he I E hn hd (hp.other fun e a w hx q => ?_)
   cases out with
   | norm => exact absurd he (hne s')
   | exit id => cases hx; exact q
   | ret => cases hx; exact q
   | pan d => obtain ⟨ch, rfl⟩ := hx; exact q
 case case3 =>
  refine code_wpR S hm hit _ _ sc' h (ro := none) hG (.inr ⟨rfl, ⟨B, rfl⟩, fnc, hfn⟩) _ γ s a w out s' hQ he I E hn hd (hp.other fun e a w hx q => ?_)
  cases e <;> exact q
 all_goals cases h
theorem bodyM_of {fn : Func} {R : Ending → World → Prop} {e : Exit} {a : Act} {w : World} (h : bodyPostD P fn R e a w) : bodyM P fn R e a w := by
 cases e with
 | normal => exact lvM_of h
 | ret => exact lvM_of h
 | panic ch => exact lvM_of h
 | outgrown => exact h
 | exit id => exact h
 | goto t => exact h
theorem dfr_okR {c : CallR} (S : Sound P W G c) (hm : P.follows .mixedOrders = true) {it : It} (hit : ∀ b s r, it b s = some r → ∃ m, iter b m s = some r) {T : Nat → Option (Nat × FC)} (hT : ∀ f x, T f = some x → DOk P f x.1 x.2) {f : Nat} {fc : FC} (hf : FOk0 P f fc) {x : Dfr} (hx : fc.dfr = some x) (hnp : x.pre.all SC.noR = true) (hG : fc.body.gens P W G)
    {args : List D} {H : Hp} {r : Res} {H' : Hp} (hl : args.length = fc.np) (h : runF c T G it fc ⟨entry 0 args, H⟩ = some (r, H')) : Meets P W G f args H r H' := by
 obtain ⟨fn, cd, h1, h2, h3, h4, h5, h6, h7⟩ := hf.ex
 rw [hx] at h7
 dsimp only at h7
 refine ⟨⟨fn, h1, h2, by rw [h3]; rfl⟩, fun γ w vs I hv => ?_⟩
 have hvs : vs.size = fc.np := by rw [hv.1, hl]
 have hsz : (vs ++ Array.replicate (fn.ntmps - vs.size) undef).size = fc.nt := by simp [h4, hvs]; omega
 refine calls_of_R h1 h3 (wpR_spine cd ?_)
 generalize hR : (fun (e : Ending) (w' : World) => ∃ γ', γ.le γ' ∧ Frame γ H w γ' H' w' ∧ InvS W G γ' H' w' ∧ Ends' γ' r e) = R
 have hQo : ∀ (a : Act) (w' : World), ¬ bodyM P fn R .outgrown a w' := by
  rintro a w' q
  have q : R .outgrown w' := q
  rw [← hR] at q
  obtain ⟨_, _, _, _, q⟩ := q
  exact no_out q
 unfold compDfr at h7
 split at h7
 ·rename_i id ops rest hdrop
  split at h7
  ·rename_i o hback
   split at h7
   ·rename_i f0 as0 ts0 hop hgd
    split at h7
    ·rename_i pre sl f' as' b hpre hsl hf' has' hb
     split at h7
     ·rename_i hdst
      simp only [Option.some.injEq, Prod.mk.injEq] at h7
      obtain ⟨hx', hbody⟩ := h7
      have e1 : x.pre = pre := by rw [← hx']
      have e2 : x.ops = sl.dropLast := by rw [← hx']
      have e3 : x.f = f' := by rw [← hx']
      have e4 : x.as = as' := by rw [← hx']
      rw [← e1] at hpre
      rw [← e3] at hf'
      rw [← e4] at has'
      rw [hbody] at hb
      rw [← List.take_append_drop x.pre.length (spine cd), hdrop]
      refine wpLR_app' _ _ _ _ _ ?_
      unfold runF at h
      rw [hx] at h
      dsimp only at h
      split at h
      ·rename_i s1 hs1
       -- what comes before
       refine wpLR_of_wpL _ (compLs_wp S hm hit _ _ _ hpre hnp _ γ ⟨entry 0 args, H⟩ _ w .norm s1 hQo hs1 I (entry_rep hv _) hsz (df := []) rfl fun γ1 a1 w1 L1 F1 J1 hd1 hn1 E1 => ?_)
       show wpLR f P (.region id ops false :: rest) _ a1 w1
       have hd1 : a1.defers = [] := hd1
       have ok := compO_ok hsl
       obtain ⟨hll, hof⟩ := compL_both hsl
       have hlast : ops.toList = ops.toList.dropLast ++ [o] := by
        have hb' : ops.toList.getLast? = some o := by
         rw [Array.getLast?_toList]; exact hback
        have hne : ops.toList ≠ [] := by intro e; rw [e] at hb'; cases hb'
        have hg : ops.toList.getLast hne = o := by
         rw [List.getLast?_eq_some_getLast hne] at hb'
         exact Option.some.inj hb'
        rw [← hg]; exact (List.dropLast_concat_getLast hne).symm
       have hlen2 : ops.toList.dropLast.length = x.ops.length := by rw [e2, List.length_dropLast, List.length_dropLast, hll]
       have hof2 : ∀ (i : Nat) a so, ops.toList.dropLast[i]? = some a → x.ops[i]? = some so → OpOf P ops fc.nt a so := fun i a so ha hso => by
        rw [e2] at hso
        rw [List.getElem?_dropLast] at ha hso
        split at ha
        ·split at hso
         ·obtain ⟨_, q⟩ := hof i a so ha hso
          exact soOf_ok q
         ·cases hso
        ·cases ha
       show wpR none f P (Code.region id ops false) _ a1 w1
       refine wpR_of_wp (wp_region_list ?_)
       rw [hlast]
       split at h
       ·rename_i env2 H2 hops
        refine ops_wpR S ok.lt [o] ops.toList.dropLast x.ops γ1 s1.env s1.hp a1 w1 hlen2 hof2 J1 E1 hn1 _ hops (fun γ2 e2' H2' a2 w2 hr L2 F2 J2 E2 hn2 hd2 => ?_) (fun γ2 d2 e2' H2' v2 a2 w2 hr _ _ _ _ _ _ _ => by cases hr)
        cases hr
        -- the deferral
        have hd2' : a2.defers = [] := hd2.trans hd1
        have hfr := opdOf_rep E2 hf'
        have har := opds_rep E2 has'
        have hw : Region.wanted o (yielded ops a2.tmps) = true := by simp [Region.wanted, hgd]
        -- what the body gives
        have tail : ∀ (out : Out) (s2 : St) (rv : D), evS c G it fc.body ⟨env2.keep x.keep, H2⟩ = some (out, s2) → ((rv = .p .nili ∧ (out = .norm ∨ out = .ret)) ∨ out = .pan rv) → endDfr c T G it fc.res (x.f.ev env2) (x.as.map (·.ev env2)) rv s2 = some (r, H') →
            wpList P ops (Exit.then (wpLR f P rest (bodyM P fn R)) (bodyM P fn R)) [o] a2 w2 := by
         intro out s2 rv hb2 hout hend
         unfold endDfr at hend
         split at hend
         ·rename_i g first cap hfv
          rw [hfv] at hfr
          generalize hfval : a2.eval f0 = fval at hfr
          cases hfr with
          | fn _ fa ca _ _ flen frep clen crep =>
           have rfa : RepL γ2 fa first := ⟨flen, frep⟩
           have rca : RepL γ2 ca cap := ⟨clen, crep⟩
           have hrun : (execOp a2.eval o).run P w2 = .ok (.defer { target := .fn (.func g) ca, args := fa ++ as0.map a2.eval }) w2 := by
            simp [execOp, hop, resolve, hfval, Deferred.ofValue]
           simp only [wpList]
           rw [if_pos hw]
           left
           unfold Oper.wp
           rw [hrun]
           show wpLR f P rest (bodyM P fn R) (Act.put ({ tmps := a2.tmps, defers := { target := .fn (.func g) ca, args := fa ++ as0.map a2.eval } :: a2.defers } : Act) o.dst undef) w2
           have hput : ∀ (z : Act), z.put o.dst undef = z := fun z => by
            have : o.dst = none := by simpa using hdst
            rw [this]; rfl
           rw [hput, hd2']
           split at hend
           ·rename_i dd H3 hcall
            obtain ⟨d, hfd, rfl, rfl⟩ : ∃ d, evRes G s2.env H3 fc.res = some d ∧ r = .val d ∧ H' = H3 := by
             rcases finish_norm hend with ⟨s, d, hs, hd, hr1, hr2⟩ | ⟨s, d, hs, _, _⟩
             ·rcases hs with hs | hs
              ·cases hs
              ·cases hs; exact ⟨d, hd, hr1, hr2⟩
             ·cases hs
            -- the deferred call, wherever the body ends
            have leave : ∀ γ3 (a3 : Act) w3 (v3 : Value) (u : FrameMode), γ2.le γ3 → Frame γ2 H2 w2 γ3 s2.hp w3 → InvS W G γ3 s2.hp w3 → EnvRep γ3 s2.env a3.tmps → RepD γ3 v3 rv →
                ((u = .returning ∧ v3 = .nilIface) ∨ u = .panicking [{ v := v3, recovered := false }]) → Leaves P fn a3.tmps R [{ target := .fn (.func g) ca, args := fa ++ as0.map a2.eval }] u w3 := by
             intro γ3 a3 w3 v3 u L3 F3 J3 E3 V3 hu
             have hargs : RepL γ3 (#[v3] ++ (fa ++ as0.map a2.eval ++ ca)) (rv :: (first ++ x.as.map (·.ev env2) ++ cap)) := by
              have hrest := ((rfa.mono L3).append (har.mono L3)).append (rca.mono L3)
              have h0 : RepL γ3 #[v3] [rv] := ⟨rfl, fun i d hd => by
               match i with
               | 0 => simp only [List.getElem?_cons_zero, Option.some.injEq] at hd; subst hd; exact V3
               | i + 1 => simp at hd⟩
              exact h0.append hrest
             have hdc := callD_gen (C := fun vs w R => DCalls P g vs w R) (fun _ _ _ _ h q => h.mono q) (fun as H r H' hc => def_ok (W := W) S hm hit hT as H r H' hc) hcall γ3 w3 _ J3 hargs
             obtain ⟨hent, hret, hpan⟩ := hdc v3 _ rfl
             have fin : ∀ u' w4, settle u' = .returning → (∃ γ4, γ3.le γ4 ∧ Frame γ3 s2.hp w3 γ4 H' w4 ∧ InvS W G γ4 H' w4 ∧ ∃ v, RepD γ4 v dd) → Leaves P fn a3.tmps R [] (settle u') w4 := by
              rintro u' w4 hs ⟨γ4, L4, F4, J4, _⟩
              rw [hs]
              obtain ⟨v, q1, q2⟩ := results_ok J4.toInv (E3.mono L4) h6 hfd
              refine ⟨v, q1, ?_⟩
              rw [← hR]
              exact ⟨γ4, L1.trans (L2.trans (L3.trans L4)), F1.trans L1.base (F2.trans L2.base (F3.trans L3.base F4)), J4, v, rfl, q2⟩
             refine leaves_cons (f := g) (args := fa ++ as0.map a2.eval ++ ca) ?_ (by simp only [invoke]; exact run_enter hent _ _) ?_
             ·rcases hu with ⟨rfl, _⟩ | rfl <;> simp
             ·rcases hu with ⟨rfl, h0⟩ | rfl
              ·refine (hret h0).mono ?_
               rintro e u' w4 ⟨rfl, γ4, L4, F4, J4, v4, rfl, V4⟩
               exact fin _ _ rfl ⟨γ4, L4, F4, J4, v4, V4⟩
              ·refine hpan.mono ?_
               rintro e u' w4 ⟨rfl, γ4, L4, F4, J4, v4, rfl, V4⟩
               exact fin _ _ (by simp [settle]) ⟨γ4, L4, F4, J4, v4, V4⟩
            refine compSp_wpR S hm hit h1 _ _ _ hb hG _ γ2 ⟨env2.keep x.keep, H2⟩ _ w2 out s2 hQo hb2 J2 (E2.keep _) hn2 (B := w2.heap.size) (df := [{ target := .fn (.func g) ca, args := fa ++ as0.map a2.eval }]) ⟨Nat.le_refl _, [], rfl, List.nodup_nil, fun _ h => (List.not_mem_nil h).elim⟩ ?_
            intro γ3 a3 w3 L3 F3 J3 hd3
            obtain ⟨hB3, ms, hms, hnd, hmh⟩ := hd3
            have go : ∀ (v3 : Value) (u : FrameMode), EnvRep γ3 s2.env a3.tmps → RepD γ3 v3 rv → ((u = .returning ∧ v3 = .nilIface) ∨ u = .panicking [{ v := v3, recovered := false }]) → LvM P fn a3.tmps R a3.defers u w3 := by
             intro v3 u E3 V3 hu
             rw [hms]
             refine leaves_marks (K := fun w4 => Frame γ2 H2 w2 γ3 s2.hp w4 ∧ InvS W G γ3 s2.hp w4) (B := w2.heap.size) (by rcases hu with ⟨rfl, _⟩ | rfl <;> simp) (fun w4 h4 => lvM_of (leave γ3 a3 w4 v3 u L3 h4.1 h4.2 E3 V3 hu)) (fun w4 m h4 hm1 hm2 => ⟨h4.1.turn hm1 _, h4.2.turn hm2 rfl (Nat.le_trans J2.blw.size hm1) _⟩) ms w3 ⟨F3, J3⟩ hnd hmh
            rcases hout with ⟨rfl, rfl | rfl⟩ | rfl
            ·intro hn3 E3
             exact go .nilIface .returning E3 (.p _ _ .nili) (.inl ⟨rfl, rfl⟩)
            ·intro hn3 E3
             exact go .nilIface .returning E3 (.p _ _ .nili) (.inl ⟨rfl, rfl⟩)
            ·intro hn3 E3 v3 V3
             exact go v3 _ E3 V3 (.inr rfl)
           ·cases hend
         ·cases hend
        split at h
        ·rename_i s2 hb2; exact tail _ s2 _ hb2 (.inl ⟨rfl, .inl rfl⟩) h
        ·rename_i s2 hb2; exact tail _ s2 _ hb2 (.inl ⟨rfl, .inr rfl⟩) h
        ·rename_i d2 s2 hb2; exact tail _ s2 _ hb2 (.inr rfl) h
        ·cases h
       ·rename_i d2 env2 H2 hops
        cases h
        refine ops_wpR S ok.lt [o] ops.toList.dropLast x.ops γ1 s1.env s1.hp a1 w1 hlen2 hof2 J1 E1 hn1 _ hops (fun γ2 e2' H2' a2 w2 hr _ _ _ _ _ _ => by cases hr) (fun γ2 d2 e2' H2' v2 a2 w2 hr L2 F2 J2 V2 E2 hn2 hd2 => ?_)
        cases hr
        show LvM P fn a2.tmps R a2.defers (.panicking [{ v := v2, recovered := false }]) w2
        rw [hd2.trans hd1]
        show R (.panicked _) w2
        rw [← hR]
        exact ⟨γ2, L1.trans L2, F1.trans L1.base F2, J2, v2, rfl, V2⟩
       ·cases h
      ·rename_i hne
       obtain ⟨out, s, hxx, hp⟩ := finish_fun (W := W) (γ := γ) (H := H) (w := w) h6 h
       refine wpLR_of_wpL _ (compLs_wp S hm hit _ _ _ hpre hnp _ γ ⟨entry 0 args, H⟩ _ w out s hQo hxx I (entry_rep hv _) hsz (df := []) rfl (hp.other fun e a w hx q => ?_))
       subst hR
       cases out with
       | norm => exact absurd hxx (hne s)
       | exit id => cases hx; exact bodyM_of (body_D q)
       | ret => cases hx; exact bodyM_of (body_D q)
       | pan d => obtain ⟨ch, rfl⟩ := hx; exact bodyM_of (body_D q)
     ·cases h7
    ·cases h7
   ·cases h7
  ·cases h7
 ·cases h7

end Go.Vs

namespace Go.Vs

variable {P : Program} {W : World} {G : Nat → Option (List PD)} {γ : Gh} {H : Hp} {w : World}
theorem fun_okR {c : CallR} (S : Sound P W G c) (hm : P.follows .mixedOrders = true) {it : It} (hit : ∀ b s r, it b s = some r → ∃ m, iter b m s = some r) {f : Nat} {fc : FC} (hf : FOk0 P f fc) (hnd : fc.dfr = none) (hG : fc.body.gens P W G) {args : List D} {H : Hp} {r : Res} {H' : Hp}
    (hl : args.length = fc.np) (h : finish G fc.res (evS c G it fc.body ⟨entry 0 args, H⟩) = some (r, H')) : Meets P W G f args H r H' := by
 obtain ⟨fn, cd, h1, h2, h3, h4, h5, h6, h7⟩ := hf.ex
 rw [hnd] at h7
 obtain ⟨sk, h7⟩ := h7
 refine ⟨⟨fn, h1, h2, by rw [h3]; rfl⟩, fun γ w vs I hv => ?_⟩
 have hvs : vs.size = fc.np := by rw [hv.1, hl]
 have hsz : (vs ++ Array.replicate (fn.ntmps - vs.size) undef).size = fc.nt := by simp [h4, hvs]; omega
 refine calls_of_R h1 h3 ?_
 obtain ⟨out, s, hx, hp⟩ := finish_fun (W := W) (γ := γ) (H := H) (w := w) h6 h
 generalize hR : (fun (e : Ending) (w' : World) => ∃ γ', γ.le γ' ∧ Frame γ H w γ' H' w' ∧ InvS W G γ' H' w' ∧ Ends' γ' r e) = R at hp
 have hQo : ∀ (a : Act) (w' : World), ¬ bodyM P fn R .outgrown a w' := by
  rintro a w' q
  have q : R .outgrown w' := q
  rw [← hR] at q
  obtain ⟨_, _, _, _, q⟩ := q
  exact no_out q
 refine code_wpR S hm hit sk cd fc.body h7 (ro := none) (fid := f) (mk := some w.heap.size) (df := []) hG (.inr ⟨rfl, ⟨_, rfl⟩, fn, h1⟩) (bodyM P fn R) γ ⟨entry 0 args, H⟩ _ w out s hQo hx I (entry_rep hv _) hsz ⟨Nat.le_refl _, [], rfl, List.nodup_nil, fun _ h => (List.not_mem_nil h).elim⟩ ?_
 intro γ' a' w' L F J hd
 obtain ⟨hB, ms, hms, hnd', hmh⟩ := hd
 have go : ∀ (u : FrameMode), u ≠ .run → (∀ w4, Frame γ H w γ' s.hp w4 → InvS W G γ' s.hp w4 → Leaves P fn a'.tmps R [] u w4) → LvM P fn a'.tmps R a'.defers u w' := by
  intro u hu hlv
  rw [hms]
  exact leaves_marks (K := fun w4 => Frame γ H w γ' s.hp w4 ∧ InvS W G γ' s.hp w4) (B := w.heap.size) hu (fun w4 h4 => lvM_of (hlv w4 h4.1 h4.2)) (fun w4 m h4 hm1 hm2 => ⟨h4.1.turn hm1 _, h4.2.turn hm2 rfl (Nat.le_trans I.blw.size hm1) _⟩) ms w' ⟨F, J⟩ hnd' hmh
 cases out with
 | norm =>
  intro hn E
  refine go .returning (by simp) fun w4 F4 J4 => ?_
  have q := hp γ' { a' with defers := [] } w4 L F4 J4 rfl hn E
  exact body_D q
 | ret =>
  intro hn E
  refine go .returning (by simp) fun w4 F4 J4 => ?_
  have q := hp γ' { a' with defers := [] } w4 L F4 J4 rfl hn E
  exact body_D q
 | exit id =>
  intro hn E
  exact (hp γ' { a' with defers := [] } w' L F J rfl hn E).elim
 | pan d =>
  intro hn E v V
  refine go (.panicking [{ v := v, recovered := false }]) (by simp) fun w4 F4 J4 => ?_
  have q := hp γ' { a' with defers := [] } w4 L F4 J4 rfl hn E v V
  exact body_D q
structure FGood (P : Program) (W : World) (G : Nat → Option (List PD)) (f : Nat) (fc : FC) : Prop where
 ok : FOk0 P f fc
 gens : fc.body.gens P W G
 pre : ∀ x, fc.dfr = some x → x.pre.all SC.noR = true
theorem FOk.good {f : Nat} {fc : FC} (h : FOk P f fc) : FGood P W G f fc := by
 have h1 := h.nr
 unfold FC.noR at h1
 rw [Bool.and_eq_true] at h1
 refine ⟨h.toFOk0, SC.gens_of h1.1, fun x hx => ?_⟩
 have h2 := h1.2
 rw [hx] at h2
 exact h2
theorem FOk0.good {f : Nat} {fc : FC} (h : FOk0 P f fc) (hd : fc.dfr = none) (hg : fc.body.gens P W G) : FGood P W G f fc := ⟨h, hg, fun x hx => by rw [hd] at hx; cases hx⟩
structure PgOk (P : Program) (W : World) (p : Pg) : Prop where
 mixed : P.follows .mixedOrders = true
 lib : Sound P W p.G p.lib
 fn : ∀ f fc, p.F f = some fc → FGood P W p.G f fc
 dfn : ∀ f x, p.D f = some x → DOk P f x.1 x.2 := by (intro _ _ h; cases h)
theorem evF_sound {p : Pg} (h : PgOk P W p) : ∀ n, Sound P W p.G (evF p n)
 | 0 => fun f args H r H' e => by simp only [evF] at e; cases e
 | n + 1 => fun f args H r H' e => by
  simp only [evF] at e
  split at e
  ·rename_i r0 hr; cases e; exact h.lib f args H r H' hr
  ·split at e
   ·rename_i fc hfc
    have g := h.fn f fc hfc
    split at e
    ·rename_i hl
     refine close_ok e fun r0 H0 h0 => ?_
     cases hd : fc.dfr with
     | none =>
      unfold runF at h0
      rw [hd] at h0
      exact fun_okR (evF_sound h n) h.mixed (it := fun b s => iter b n s) (fun b s r hr => ⟨n, hr⟩) g.ok hd g.gens hl h0
     | some x => exact dfr_okR (evF_sound h n) h.mixed (it := fun b s => iter b n s) (fun b s r hr => ⟨n, hr⟩) h.dfn g.ok hd (g.pre x hd) g.gens hl h0
    ·cases e
   ·cases e
theorem call_sound {p : Pg} (h : PgOk P W p) : Sound P W p.G (call p) := fun f args H r H' e => by
 obtain ⟨n, hn⟩ := call_iff.1 e
 exact evF_sound h n f args H r H' hn

end Go.Vs

namespace Go.Vs
open Go.RowKit Go.ChangeShapes Go.WideShapes

variable {P : Program}
def gh0 (W : World) : Gh := ⟨W.heap.size, fun _ => none, fun b o => W.cell? ⟨b, o, none⟩, [], []⟩
structure GlobOk (G : Nat → Option (List PD)) (W : World) : Prop where
 ok : ∀ g cs, G g = some cs → ∀ j c, cs[j]? = some c → c.one = true ∧ ∃ v, W.cell? ⟨g, j, none⟩ = some v ∧ RepP (gh0 W).mem v c
theorem inv0 {G : Nat → Option (List PD)} {W : World} (h : GlobOk G W) : Inv G (gh0 W) ⟨[], []⟩ W := by
 refine ⟨Nat.le_refl _, fun _ _ _ h => by simp [gh0] at h, fun t row n b cap h _ => by simp [gh0] at h, fun _ _ _ h => h, h.ok, rfl, fun i j b ci cj h1 _ _ _ _ _ => by simp [gh0] at h1, fun i b cs hb _ => ?_, fun b o hb => ?_, fun i b h1 _ => by simp [gh0] at h1, rfl, fun t row f hr _ => ?_, fun t row f hr _ => ?_, fun t t' b hf _ => ?_⟩
 ·simp [gh0] at hb
 ·have := hb.mem; simp [gh0] at this
 ·simp [gh0] at hr
 ·simp [gh0] at hr
 ·obtain ⟨row, f, cap, hr, _⟩ := hf
  simp [gh0] at hr
theorem owned0 {W : World} {b : Nat} (h : Owned (gh0 W) ⟨[], []⟩ b) : False := by
 rcases h with h | ⟨t, row, f, cap, hr, _⟩
 ·have := h.mem; simp [gh0] at this
 ·simp [gh0] at hr
theorem invS0 {G : Nat → Option (List PD)} {W : World} (h : GlobOk G W) : InvS W G (gh0 W) ⟨[], []⟩ W :=
 ⟨inv0 h, rfl, Below.refl _ W, fun _ h => (owned0 h).elim⟩
theorem below_frame {W W' : World} {γ' : Gh} {H' : Hp} (F : Frame (gh0 W) ⟨[], []⟩ W γ' H' W') : Below W.heap.size W W' :=
 ⟨F.os, F.tape, F.output, F.size, fun k hk => (F.blk k hk owned0).1 hk⟩
theorem law_calls {p : Pg} {W : World} (h : PgOk P W p) {f : Nat} {ds : List D} {H' : Hp} (hc : call p f ds ⟨[], []⟩ = some (.val (.p (.bool true)), H')) {args : Array Value} (hg : GlobOk p.G W) (hr : RepL (gh0 W) args ds) :
    Calls P f args W fun e W' => e = .returned (.bool true) ∧ Below W.heap.size W W' := by
 obtain ⟨_, m⟩ := call_sound h f ds ⟨[], []⟩ _ _ hc
 refine (m (gh0 W) W args (invS0 hg) hr).mono ?_
 rintro e W' ⟨γ', L, F, J, v, rfl, hv⟩
 rw [hv.p_inv.bool_inv]
 exact ⟨rfl, below_frame F⟩

section
variable {H : Type} {enc : TypeId × Value → H}
theorem trodAll_below (hl : laidOutB P = true) {W W' : World} (B : Below W.heap.size W W') : ∀ {ts : List TypeId} {vs : List Value} {ds : List (DataW H)} {ps : List MemPlace}, (∀ t ∈ ts, P.readableRec t = true ∧ t < P.types.size) →
    DataW.TrodAll enc P W 0 (fun _ => true) true ts vs ds ps → (∀ x ∈ ps, x.block < W.heap.size) → DataW.TrodAll enc P W' 0 (fun b => decide (b < W.heap.size)) true ts vs ds ps
 | [], [], [], _, _, h, _ => h
 | t :: ts, v :: vs, d :: ds, ps, ht, ⟨p, q, h1, h2, e⟩, hlt => by
  subst e
  exact ⟨p, q, Below.trod hl (ht t (by simp)).1 (ht t (by simp)).2 h1 B fun x hx => hlt x (by simp [hx]), trodAll_below hl B (fun u hu => ht u (by simp [hu])) h2 fun x hx => hlt x (by simp [hx]), rfl⟩
 | [], [], _ :: _, _, _, h, _ => h.elim
 | [], _ :: _, _, _, _, h, _ => by cases h
 | _ :: _, [], _, _, _, h, _ => by cases h
 | _ :: _, _ :: _, [], _, _, h, _ => by cases h
theorem post_law {fn : Func} {s : ChangeSpec} {apart fresh handsOn : Bool} {W W' : World} {args : Array Value} {ds : List (DataW H)} {before : List MemPlace} {tb : TypeId} (hl : laidOutB P = true)
    (hts : ∀ t ∈ fn.params.toList, P.readableRec t = true ∧ t < P.types.size) (hv : s.vars = []) (hW : DataW.Whole enc P fn.params.toList s.vars apart W args.toList ds [] before) (hr : fn.resultTypes = #[tb]) (hb : P.underlying tb = some .bool)
    (hs : s.fn H (ds ++ []) = { results := [.lit (.bool true)], args := ds }) (B : Below W.heap.size W W') : s.post enc P fn apart fresh handsOn false W args (.bool true) W' := by
 have hlt := hW.lt
 obtain ⟨p, q, hA, hV, he, hz, hn⟩ := hW
 have hq : q = [] := by rw [hv] at hV; exact hV
 refine ⟨ds, [], before, [], p, [], ⟨p, q, hA, hV, he, hz, hn⟩, ?_, ?_, ?_, ?_, fun h => by cases h⟩
 ·rw [hs, hr]
  exact trodAll_mk1 (shut_bool hb true)
 ·rw [hs]
  refine trodAll_below hl B hts hA fun x hx => by simpa using hlt x (by rw [he]; simp [hx])
 ·rw [hs, hv]; rfl
 ·refine World.keptBut_mono (fun x hx => ?_) (B.frame (fun _ => False))
  cases hx

end
theorem rep_ints {H : Type} {enc : TypeId × Value → H} {t e : TypeId} {k : IntKind} (ht : P.underlying t = some (.slice e)) (he : P.underlying e = some (.int k)) (hc : P.cellsOf e = 1) {W : World} {r : Reach} {b0 : Nat} {v : Value} {d : DataW H} {ps : List MemPlace}
    (hval : Value.okWide P W r b0 t v) (hd : DataW.Trod enc P W 0 (fun _ => true) true t v d ps) :
    ∃ x : PD, RepD (gh0 W) v (.p x) ∧ (x = .nils ∨ ∃ zs : List Int, x = .slice 1 (zs.map (PD.int k)) ∧ ∀ n ∈ zs, (Lit.int k n).wf = true) := by
 obtain ⟨a0, n0, c0, rfl⟩ := okWide_slice ht hval
 obtain ⟨fuel, hf⟩ := hd
 rcases open_ints ht he hc hf with ⟨h1, _⟩ | ⟨a, len, cap, zs, h1, _, hlc, _, hlen, _, hcell, hwf⟩
 ·simp [Value.cells] at h1
  obtain ⟨rfl, rfl, rfl⟩ := h1
  exact ⟨.nils, .p _ _ .nils, .inl rfl⟩
 ·simp [Value.cells] at h1
  obtain ⟨rfl, rfl, rfl⟩ := h1
  simp only [if_true] at hlen
  refine ⟨.slice 1 ((zs.take n0).map (PD.int k)), .p _ _ ?_, .inr ⟨zs.take n0, rfl, fun n hn => hwf n (List.mem_of_mem_take hn)⟩⟩
  by_cases hn : n0 = 0
  ·subst hn
   simpa using RepP.sl0 (m := (gh0 W).mem) (some a) c0 1
  ·have hl : ((zs.take n0).map (PD.int k)).length = n0 := by simp; omega
   have h0 := hcell 0 (by omega)
   obtain ⟨b, o, sp⟩ := a
   have hsp : sp = none := by
    cases sp with
    | none => rfl
    | some q =>
     exfalso
     unfold World.cell? Addr.add at h0
     split at h0
     ·simp at h0
     ·cases h0
   subst hsp
   have := RepP.sl (m := (gh0 W).mem) b o c0 1 ((zs.take n0).map (PD.int k)) (fun i _ => .int k (zs.getD i 0)) (by omega) (fun e he => by
    obtain ⟨n, _, rfl⟩ := List.mem_map.1 he; rfl) (fun e he c hc => by
    obtain ⟨n, _, rfl⟩ := List.mem_map.1 he
    simp only [PD.cells, List.mem_singleton] at hc; subst hc; rfl) (fun i j hi hj => by
    have hj0 : j = 0 := by omega
    subst hj0
    have := hcell i (by simp at hi; omega)
    simp only [Addr.add_lit] at this
    simpa [gh0] using this) (fun i e j c hi hj => by
    simp only [List.getElem?_map, Option.map_eq_some_iff] at hi
    obtain ⟨n, hn, rfl⟩ := hi
    obtain ⟨h1, h2⟩ := take_get hn
    match j with
    | 0 =>
     simp only [PD.cells, List.getElem?_cons_zero, Option.some.injEq] at hj
     subst hj
     have : zs.getD i 0 = n := by simp [List.getD_eq_getElem?_getD, h2]
     rw [this]; exact .int k n
    | j + 1 => simp [PD.cells] at hj)
   rw [hl] at this
   exact this

end Go.Vs

namespace Go.Vs
theorem lenD_str (s : List UInt8) : lenD 0 (.p (.str s)) = some s.length := rfl
theorem lenD_nils : lenD 1 (.p .nils) = some 0 := rfl
theorem lenD_sl (sz : Nat) (es : List PD) : lenD 1 (.p (.slice sz es)) = some es.length := rfl
theorem lenD_fsl (e0 sz : Nat) (es : List PD) : lenD 1 (.fsl e0 sz es) = some es.length := rfl
theorem lenD_tsl (t e sz : Nat) (es : List PD) : lenD 1 (.tsl t e sz es) = some es.length := rfl
theorem repL_nil {γ : Gh} : RepL γ #[] [] := ⟨rfl, fun i x hx => by simp at hx⟩
theorem repL_cons {γ : Gh} {v : Value} {d : D} {vs : List Value} {ds : List D} (h : RepD γ v d) (k : RepL γ ⟨vs⟩ ds) : RepL γ ⟨v :: vs⟩ (d :: ds) := by
 refine ⟨by have := k.1; simpa using this, fun i x hx => ?_⟩
 match i with
 | 0 => simp only [List.getElem?_cons_zero, Option.some.injEq] at hx; subst hx; exact h
 | i + 1 => simpa using k.2 i x (by simpa using hx)
inductive Sl (α : Type) where
 | nil
 | amb
 | of (l : List α)
def Sl.map {α β : Type} (f : α → β) : Sl α → Sl β
 | .nil => .nil
 | .amb => .amb
 | .of l => .of (l.map f)
def slP (sz : Nat) : Sl PD → PD
 | .nil => .nils
 | .amb => .slice sz []
 | .of [] => .emp sz
 | .of (e :: es) => .slice sz (e :: es)
def els {α : Type} : Sl α → List α
 | .of l => l
 | _ => []
theorem els_map {α β : Type} (f : α → β) (o : Sl α) : els (o.map f) = (els o).map f := by cases o <;> rfl
theorem len_slP (sz : Nat) (o : Sl PD) : lenD 1 (.p (slP sz o)) = some (els o).length := by
 match o with
 | .nil => rfl
 | .amb => rfl
 | .of [] => rfl
 | .of (e :: es) => rfl
theorem ia_slP {sz : Nat} {o : Sl PD} {k : Nat} (h : k < (els o).length) : iaddrD none sz (.p (slP sz o)) (k : Int) = some (.ro ((els o)[k]).cells 0) := by
 match o with
 | .nil => simp [els] at h
 | .amb => simp [els] at h
 | .of [] => simp [els] at h
 | .of (e :: es) =>
  have h' : k < (e :: es).length := h
  simp only [slP, iaddrD, D.elems?, els]
  simp [List.getElem?_eq_getElem h']
theorem len_map {α : Type} (sz : Nat) (f : α → PD) (o : Sl α) : lenD 1 (.p (slP sz (o.map f))) = some (els o).length := by
 rw [len_slP, els_map, List.length_map]
theorem ia_map {α : Type} {sz : Nat} {f : α → PD} {o : Sl α} {k : Nat} (h : k < (els o).length) : iaddrD none sz (.p (slP sz (o.map f))) (k : Int) = some (.ro (f (els o)[k]).cells 0) := by
 have h' : k < (els (o.map f)).length := by rw [els_map, List.length_map]; exact h
 rw [ia_slP h']
 simp [els_map]
theorem one_slP (sz : Nat) (o : Sl PD) : (D.p (slP sz o)).one = true := by
 match o with
 | .nil => rfl
 | .amb => rfl
 | .of [] => rfl
 | .of (_ :: _) => rfl
theorem pone_slP (sz : Nat) (o : Sl PD) : (slP sz o).one = true := by
 match o with
 | .nil => rfl
 | .amb => rfl
 | .of [] => rfl
 | .of (_ :: _) => rfl

@[simp] theorem one_int (k : IntKind) (n : Int) : (D.p (.int k n)).one = true := rfl
@[simp] theorem one_bool (b : Bool) : (D.p (.bool b)).one = true := rfl
@[simp] theorem one_str (s : List UInt8) : (D.p (.str s)).one = true := rfl
@[simp] theorem one_slice (sz : Nat) (es : List PD) : (D.p (.slice sz es)).one = true := rfl
@[simp] theorem pone_slice (sz : Nat) (es : List PD) : (PD.slice sz es).one = true := rfl
@[simp] theorem one_nils : (D.p .nils).one = true := rfl
@[simp] theorem one_nilp : (D.p .nilp).one = true := rfl
@[simp] theorem one_box (i o : Nat) : (D.box i o).one = true := rfl
@[simp] theorem one_mapr (i : Nat) : (D.mapr i).one = true := rfl
@[simp] theorem one_tsl (t e sz : Nat) (es : List PD) : (D.tsl t e sz es).one = true := rfl
@[simp] theorem one_fsl (e sz : Nat) (es : List PD) : (D.fsl e sz es).one = true := rfl
@[simp] theorem one_msl (i o n : Nat) (c : Option Nat) (sz : Nat) : (D.msl i o n c sz).one = true := rfl
@[simp] theorem pone_int (k : IntKind) (n : Int) : (PD.int k n).one = true := rfl
@[simp] theorem pone_str (s : List UInt8) : (PD.str s).one = true := rfl
@[simp] theorem pone_bool (b : Bool) : (PD.bool b).one = true := rfl
@[simp] theorem pone_nils : PD.nils.one = true := rfl

@[simp] theorem renL_p (f g : Nat → Option Nat) : ∀ l : List PD, D.renL f g (l.map D.p) = some (l.map D.p)
 | [] => rfl
 | x :: l => by simp [D.renL, D.ren, renL_p f g l]

@[simp] theorem refsL_p : ∀ l : List PD, D.refsL (l.map D.p) = []
 | [] => rfl
 | x :: l => by simp [D.refsL, D.refs, refsL_p l]

@[simp] theorem toksL_p : ∀ l : List PD, D.toksL (l.map D.p) = []
 | [] => rfl
 | x :: l => by simp [D.toksL, D.toks, toksL_p l]
theorem inc64 {k : Nat} (h : k < 4611686018427387904) : IntKind.i64.wrap ((k : Int) + 1) = ((k + 1 : Nat) : Int) := by rw [wrap64 (by omega) (by omega)]; rfl
def Rec (n : Nat) (x : PD) : Prop := ∃ cs, x = .agg cs ∧ cs.length = n ∧ ∀ c ∈ cs, c.one = true

section
variable {c : CallR} {G : Nat → Option (List PD)} {sz : Nat} {zs : List PD} {g : Nat} {α : Type} {f : α → PD} {a b : Sl α} {r : α → α → Bool}
 (hz : zs.length = sz) (h0 : 0 < sz) (hzo : zs.all PD.one = true) (ha : ∀ x ∈ els a, Rec sz (f x)) (hb : ∀ x ∈ els b, Rec sz (f x))
 (hc : ∀ (k : Nat) (h1 : k < (els a).length) (h2 : k < (els b).length) H, callD c g [.p (f (els a)[k]), .p (f (els b)[k])] H = some (.val (.p (.bool (r (els a)[k] (els b)[k]))), H))
 (hl : (els a).length = (els b).length) (hn : (els a).length ≤ 4611686018427387904)
include hz h0 hzo ha hb hc hl hn

end

end Go.Vs

namespace Go.Vs
open Go.RowKit Go.ChangeShapes Go.WideShapes

variable {P : Program}
def mkE (P : Program) (e : TypeId) (xs : List PD) : PD :=
 match P.underlying e, xs with
 | some (.struct _), xs => .agg xs
 | _, [x] => x
 | _, xs => .agg xs

inductive TyP (P : Program) : TypeId → List PD → Prop where
 | bool (t : TypeId) (b : Bool) (ht : P.underlying t = some .bool) : TyP P t [.bool b]
 | int (t : TypeId) (k : IntKind) (n : Int) (ht : P.underlying t = some (.int k)) (hw : (Lit.int k n).wf = true) : TyP P t [.int k n]
 | str (t : TypeId) (s : List UInt8) (ht : P.underlying t = some .string) (hs : s.length ≤ maxLen) : TyP P t [.str s]
 | nils (t e : TypeId) (ht : P.underlying t = some (.slice e)) : TyP P t [.nils]
 | emp (t e : TypeId) (ht : P.underlying t = some (.slice e)) : TyP P t [.emp (P.cellsOf e)]
 | sl (t e : TypeId) (es : List PD) (hne : es ≠ []) (ht : P.underlying t = some (.slice e)) (hl : es.length ≤ maxLen) (h : ∀ x ∈ es, TyP P e x.cells) (hs : ∀ x ∈ es, x.cells.length = P.cellsOf e) (hm : ∀ x ∈ es, x = mkE P e x.cells) : TyP P t [.slice (P.cellsOf e) es]
 | struct (t : TypeId) (fs : Array Field) (parts : List (List PD)) (ht : P.underlying t = some (.struct fs)) (hl : parts.length = fs.size) (h : ∀ (i : Nat) f p, fs[i]? = some f → parts[i]? = some p → TyP P f.type p) (hs : ∀ (i : Nat) f p, fs[i]? = some f → parts[i]? = some p → p.length = P.cellsOf f.type) : TyP P t parts.flatten
def tiles (P : Program) (n : Nat) : Nat → List Field → Bool
 | i, [] => i == n
 | i, f :: r => f.offset == i && tiles P n (i + P.cellsOf f.type) r
def tyOk (P : Program) (ts : List TypeId) (t : TypeId) : Bool :=
 match P.underlying t with
 | some .bool => true
 | some (.int _) => true
 | some .string => true
 | some (.slice e) => ts.contains e && decide (0 < P.cellsOf e)
 | some (.struct fs) => tiles P (P.cellsOf t) 0 fs.toList && fs.toList.all fun f => ts.contains f.type
 | _ => false
def CellsRep (m : Mem) (cs : List Value) (xs : List PD) : Prop := xs.length = cs.length ∧ (∀ x ∈ xs, x.one = true) ∧ ∀ (i : Nat) c x, cs[i]? = some c → xs[i]? = some x → RepP m c x
theorem CellsRep.single {m : Mem} {c : Value} {x : PD} (h : RepP m c x) (h1 : x.one = true) : CellsRep m [c] [x] :=
 ⟨rfl, fun y hy => by simp at hy; subst hy; exact h1, fun i c' x' hc hx => by
  match i with
  | 0 => simp at hc hx; subst hc; subst hx; exact h
  | i + 1 => simp at hc⟩
theorem CellsRep.append {m : Mem} {cs ds : List Value} {xs ys : List PD} (h : CellsRep m cs xs) (k : CellsRep m ds ys) : CellsRep m (cs ++ ds) (xs ++ ys) := by
 obtain ⟨h1, h2, h3⟩ := h
 obtain ⟨k1, k2, k3⟩ := k
 refine ⟨by simp [h1, k1], fun x hx => ?_, fun i c x hc hx => ?_⟩
 ·rcases List.mem_append.1 hx with q | q
  ·exact h2 x q
  ·exact k2 x q
 ·by_cases hi : i < cs.length
  ·rw [List.getElem?_append_left hi] at hc
   rw [List.getElem?_append_left (by omega)] at hx
   exact h3 i c x hc hx
  ·rw [List.getElem?_append_right (by omega)] at hc
   rw [List.getElem?_append_right (by omega), h1] at hx
   exact k3 _ c x hc hx
theorem mkE_cells {e : TypeId} {xs : List PD} (h1 : ∀ x ∈ xs, x.one = true) : (mkE P e xs).cells = xs := by
 unfold mkE
 split
 ·rfl
 ·rename_i x _
  have := h1 x (by simp)
  cases x <;> first | rfl | cases this
 ·rfl

section
variable {H : Type} {enc : TypeId × Value → H} {W : World}
theorem tiles_le {n : Nat} : ∀ {l : List Field} {off : Nat}, tiles P n off l = true → off ≤ n ∧ ∀ f ∈ l, f.offset + P.cellsOf f.type ≤ n
 | [], off, h => by simp only [tiles, beq_iff_eq] at h; exact ⟨by omega, fun f hf => by simp at hf⟩
 | g :: l, off, h => by
  simp only [tiles, Bool.and_eq_true, beq_iff_eq] at h
  obtain ⟨h1, h2⟩ := tiles_le h.2
  refine ⟨by omega, fun f hf => ?_⟩
  rcases List.mem_cons.1 hf with rfl | hf
  ·have := h.1; omega
  ·exact h2 f hf

end

end Go.Vs

namespace Go.Vs
open Go.RowKit

variable {P : Program} {W : World} {G : Nat → Option (List PD)} {γ : Gh} {H : Hp} {w : World}
theorem repL_one {γ : Gh} {vs : Array Value} {d : D} (h : RepL γ vs [d]) : ∃ v, vs = #[v] ∧ RepD γ v d := by
 obtain ⟨hl, hr⟩ := h
 obtain ⟨l⟩ := vs
 match l, hl with
 | [v], _ =>
  have := hr 0 d rfl
  exact ⟨v, rfl, by simpa [Array.getD_eq_getD_getElem?] using this⟩

end Go.Vs

namespace Go
variable {H : Type} {enc : TypeId × Value → H}

end Go

namespace Go.Vs

variable {P : Program} {W : World} {G : Nat → Option (List PD)} {nt : Nat}
theorem gens_live : ∀ (sc : SC) (fin : List Nat) (ex : List (Nat × List Nat)) (out : List Nat), sc.gens P W G → (liveS fin sc ex out).2.gens P W G := by
 intro sc
 induction sc with
 | seq a b iha ihb => intro fin ex out h; exact ⟨iha _ _ _ h.1, ihb _ _ _ h.2⟩
 | cond c a b iha ihb => intro fin ex out h; exact ⟨iha _ _ _ h.1, ihb _ _ _ h.2⟩
 | rangef f gen g ps a b iha ihb => intro fin ex out h; exact ⟨h.1, iha _ _ _ h.2.1, ihb _ _ _ h.2.2⟩
 | block id b ih => intro fin ex out h; exact ih fin ((id, out) :: ex) out h
 | loop k b ih => intro fin ex out h; exact ih fin ex (liveS fin b ex []).1 h
 | locz b ih => intro fin ex out h; exact ih fin ex out h
 | scope b ih => intro fin ex out h; exact ih fin ex out h
 | loc b ih => intro fin ex out h; exact ih fin ex out h
 | _ => intros; trivial
theorem gens_comp (sk : SC) (c : Code) : ∀ sc, compC P nt sk c = some sc → sk.gens P W G → sc.gens P W G := by
 fun_induction compC P nt sk c
 all_goals (intro sc h hg)
 all_goals try (cases h; done)
 all_goals try (cases h; trivial)
 case case1 ih =>
  obtain ⟨b', hb, rfl⟩ := Option.map_eq_some_iff.1 h
  exact ih b' hb hg
 case case4 keep hs id ops hn =>
  obtain ⟨sl, hsl, rfl⟩ := Option.map_eq_some_iff.1 h
  trivial
 case case9 f gen g0 ps0 a b g ps x y g' a' b' hb ha hgg hn iha ihb =>
  cases h
  exact ⟨hg.1, iha a' ha hg.2.1, ihb b' hb hg.2.2⟩
 case case12 s e z b c hc ih =>
  obtain ⟨b', hb, rfl⟩ := Option.map_eq_some_iff.1 h
  exact ⟨trivial, ih b' hb hg.2⟩
 case case14 s off e z b c hc ih =>
  obtain ⟨b', hb, rfl⟩ := Option.map_eq_some_iff.1 h
  exact ⟨trivial, ih b' hb hg.2⟩
 case case16 a b x y n1 n2 a' b' hb ha iha ihb =>
  cases h
  exact ⟨iha a' ha hg.1, ihb b' hb hg.2⟩
 case case18 c0 a b c x y g' a' b' hb ha hgg iha ihb =>
  cases h
  exact ⟨iha a' ha hg.1, ihb b' hb hg.2⟩
 case case20 id0 b id x ih =>
  obtain ⟨b', hb, rfl⟩ := Option.map_eq_some_iff.1 h
  exact ih b' hb hg
 case case21 keep b x ih =>
  obtain ⟨b', hb, rfl⟩ := Option.map_eq_some_iff.1 h
  exact ih b' hb hg
 case case22 b x ih =>
  obtain ⟨b', hb, rfl⟩ := Option.map_eq_some_iff.1 h
  exact ih b' hb hg
 case case25 ih =>
  obtain ⟨b', hb, rfl⟩ := Option.map_eq_some_iff.1 h
  exact ih b' hb hg
theorem gens_locS {nl : Bool} {b : Code} {x : SC} (h : x.gens P W G) : (locS nl b x).gens P W G := by
 unfold locS
 split
 ·exact h
 ·exact h
theorem gens_sk {cf : Cf} {fi : Nat} (hg : ∀ f, findS fi cf.rg = some f → GenOk P W G f (cf.gens f)) : ∀ c : Code, (skS cf fi c).gens P W G := by
 intro c
 induction c with
 | seq a b iha ihb => exact ⟨iha, ihb⟩
 | cond c a b iha ihb => exact ⟨iha, ihb⟩
 | block id b ih => exact ih
 | loop b ih =>
  unfold skS
  split
  ·exact ⟨trivial, ih⟩
  ·exact gens_locS ih
 | scope b ih => exact ih
 | rangeFunc g ps a b iha ihb =>
  unfold skS
  split
  ·rename_i f hf
   exact ⟨hg f hf, iha, gens_locS ihb⟩
  ·trivial
 | region id ops draw =>
  unfold skS
  split <;> trivial
 | _ => trivial
theorem autoF_good {cf : Cf} {fi : Nat} {f : Func} {fc : FC} (hf : P.funcs[fi]? = some f) (h : autoF P cf fi f = some fc) (hg : ∀ g, findS fi cf.rg = some g → GenOk P W G g (cf.gens g)) : FGood P W G fi fc := by
 refine ⟨autoF_ok hf h, ?_, ?_⟩
 ·unfold autoF at h
  split at h
  ·cases h
  ·split at h
   ·split at h
    ·split at h
     ·rename_i b hcomp
      cases h
      exact gens_live _ _ _ _ (gens_comp _ _ _ hcomp (gens_sk hg _))
     ·cases h
    ·cases h
   ·cases h
 ·intro x hx
  unfold autoF at h
  split at h
  ·cases h
  ·split at h
   ·split at h
    ·split at h
     ·cases h
      cases hx
     ·cases h
    ·cases h
   ·cases h

end Go.Vs

namespace Go.Vs
variable {P : Program} {t e : TypeId} {xs : List PD}
theorem mkE_one {c : PD} (hn : ∀ fs, P.underlying e ≠ some (.struct fs)) : mkE P e [c] = c := by
 unfold mkE
 cases he : P.underlying e with
 | none => rfl
 | some d => cases d <;> first | exact absurd he (hn _) | rfl
theorem mkE_struct {fs : Array Field} (h : P.underlying e = some (.struct fs)) : mkE P e xs = .agg xs := by
 unfold mkE; rw [h]

end Go.Vs

namespace Go.Vs
open Go.RowKit Go.ChangeShapes Go.WideShapes

variable {P : Program}

inductive TyB (P : Program) : TypeId → List PD → Prop where
 | bool (t : TypeId) (b : Bool) (ht : P.underlying t = some .bool) : TyB P t [.bool b]
 | int (t : TypeId) (k : IntKind) (n : Int) (ht : P.underlying t = some (.int k)) (hw : (Lit.int k n).wf = true) : TyB P t [.int k n]
 | str (t : TypeId) (s : List UInt8) (ht : P.underlying t = some .string) (hs : s.length ≤ reachBytes) : TyB P t [.str s]
 | nils (t e : TypeId) (ht : P.underlying t = some (.slice e)) : TyB P t [.nils]
 | emp (t e : TypeId) (ht : P.underlying t = some (.slice e)) : TyB P t [.emp (P.cellsOf e)]
 | sl (t e : TypeId) (es : List PD) (hne : es ≠ []) (ht : P.underlying t = some (.slice e)) (hl : es.length * P.bytesOf e ≤ reachBytes) (h : ∀ x ∈ es, TyB P e x.cells) (hs : ∀ x ∈ es, x.cells.length = P.cellsOf e) (hm : ∀ x ∈ es, x = mkE P e x.cells) : TyB P t [.slice (P.cellsOf e) es]
 | struct (t : TypeId) (fs : Array Field) (parts : List (List PD)) (ht : P.underlying t = some (.struct fs)) (hl : parts.length = fs.size) (h : ∀ (i : Nat) f p, fs[i]? = some f → parts[i]? = some p → TyB P f.type p) (hs : ∀ (i : Nat) f p, fs[i]? = some f → parts[i]? = some p → p.length = P.cellsOf f.type) : TyB P t parts.flatten
theorem wAll_mem {H : Type} {P : Program} {e : TypeId} : ∀ {l : List (DataW H)} {d : DataW H} {w : Nat}, d ∈ l → w ∈ d.weights P e → w ∈ DataW.weightsAll P e l
 | x :: r, d, w, hd, hw => by
  simp only [DataW.weightsAll, List.mem_append]
  rcases List.mem_cons.1 hd with rfl | hd
  ·exact .inl hw
  ·exact .inr (wAll_mem hd hw)
theorem wEach_mem {H : Type} {P : Program} : ∀ {ts : List TypeId} {l : List (DataW H)} {i : Nat} {t : TypeId} {d : DataW H} {w : Nat}, ts[i]? = some t → l[i]? = some d → w ∈ d.weights P t → w ∈ DataW.weightsEach P ts l
 | t :: ts, x :: r, i, t', d, w, ht, hd, hw => by
  simp only [DataW.weightsEach, List.mem_append]
  cases i with
  | zero => cases ht; cases hd; exact .inl hw
  | succ i => exact .inr (wEach_mem (i := i) ht hd hw)
 | [], _, i, _, _, _, ht, _, _ => by simp at ht
 | _ :: _, [], i, _, _, _, _, hd, _ => by simp at hd
def Szd {H : Type} (P : Program) (t : TypeId) (d : DataW H) : Prop := ∀ w ∈ d.weights P t, w ≤ reachBytes

section
variable {H : Type} {enc : TypeId × Value → H} {W : World}
theorem fieldsB_read {n : Nat} {ts : List TypeId} (IH : ∀ t cs x, t ∈ ts → DataW.trod enc P W 0 (fun _ => true) true n t cs = some x → Szd P t x.1 → ∃ xs, CellsRep (gh0 W).mem cs xs ∧ TyB P t xs) (cs : List Value) :
    ∀ (l : List Field) (off : Nat), tiles P cs.length off l = true → (∀ f ∈ l, f.type ∈ ts) → (∀ f ∈ l, ∃ y, DataW.trod enc P W 0 (fun _ => true) true n f.type ((cs.drop f.offset).take (P.cellsOf f.type)) = some y ∧ Szd P f.type y.1) →
     off ≤ cs.length → (∀ f ∈ l, f.offset + P.cellsOf f.type ≤ cs.length) → ∃ parts : List (List PD), parts.length = l.length ∧ CellsRep (gh0 W).mem (cs.drop off) parts.flatten ∧ ∀ (i : Nat) f p, l[i]? = some f → parts[i]? = some p → TyB P f.type p ∧ p.length = P.cellsOf f.type
 | [], off, ht, _, _, hoff, _ => by
  simp only [tiles, beq_iff_eq] at ht
  refine ⟨[], rfl, ?_, fun i f p h => by simp at h⟩
  subst ht
  simp only [List.drop_length, List.flatten_nil]
  exact ⟨rfl, fun x hx => by simp at hx, fun i c x h => by simp at h⟩
 | f :: l, off, ht, hm, hr, hoff, hle => by
  simp only [tiles, Bool.and_eq_true, beq_iff_eq] at ht
  obtain ⟨h1, h2⟩ := ht
  obtain ⟨y, hy, hyz⟩ := hr f (by simp)
  obtain ⟨xs, q1, q2⟩ := IH _ _ _ (hm f (by simp)) hy hyz
  have hfl := hle f (by simp)
  obtain ⟨parts, p1, p2, p3⟩ := fieldsB_read IH cs l (off + P.cellsOf f.type) h2 (fun g hg => hm g (by simp [hg])) (fun g hg => hr g (by simp [hg])) (by omega) (fun g hg => hle g (by simp [hg]))
  have hlen : xs.length = P.cellsOf f.type := by rw [q1.1]; simp; omega
  refine ⟨xs :: parts, by simp [p1], ?_, fun i g p hg hp => ?_⟩
  ·have := q1.append p2
   rw [h1] at this
   have e : (cs.drop off).take (P.cellsOf f.type) ++ cs.drop (off + P.cellsOf f.type) = cs.drop off := by
    rw [← List.drop_drop]; exact List.take_append_drop _ _
   rw [e] at this
   simpa using this
  ·match i with
   | 0 => simp at hg hp; subst hg; subst hp; exact ⟨q2, hlen⟩
   | i + 1 => exact p3 i g p (by simpa using hg) (by simpa using hp)
theorem read_cellsB {ts : List TypeId} (hts : ts.all (tyOk P ts) = true) : ∀ (n : Nat) t cs x, t ∈ ts → DataW.trod enc P W 0 (fun _ => true) true n t cs = some x → Szd P t x.1 → ∃ xs, CellsRep (gh0 W).mem cs xs ∧ TyB P t xs
 | 0, t, cs, x, _, h, _ => by simp [DataW.trod] at h
 | n + 1, t, cs, x, hm, h, hz => by
  have hok := List.all_eq_true.1 hts t hm
  unfold tyOk at hok
  split at hok
  ·rename_i ht
   obtain ⟨b, rfl, _⟩ := DataW.trod_bool ht h
   exact ⟨[.bool b], .single (.bool b) rfl, .bool t b ht⟩
  ·rename_i k ht
   obtain ⟨m, rfl, _, hw⟩ := DataW.trod_int ht h
   exact ⟨[.int k m], .single (.int k m) rfl, .int t k m ht hw⟩
  ·rename_i ht
   obtain ⟨s, rfl, rfl, hl⟩ := DataW.trod_string ht h
   refine ⟨[.str s.data.toList], .single ?_ rfl, .str t _ ht (hz _ (by simp [DataW.weights]))⟩
   have : s = ⟨s.data.toList.toArray⟩ := by simp
   rw [this]
   exact .str _
  ·rename_i e ht
   simp only [Bool.and_eq_true, decide_eq_true_eq] at hok
   obtain ⟨hc, hpos⟩ := hok
   have hme : e ∈ ts := by simpa using hc
   rcases DataW.trod_slice ht h with ⟨rfl, _⟩ | ⟨a, len, cap, elems, rest, n', hn', rfl, rfl, _, hlc, hcm, hel, hget, _⟩
   ·exact ⟨[.nils], .single .nils rfl, .nils t e ht⟩
   ·have hn'' : n' = n := by omega
    subst hn''
    have each : ∀ i, i < len → ∃ ci xi, W.cells? 0 (a.add (i * P.cellsOf e)) (P.cellsOf e) = some ci ∧ CellsRep (gh0 W).mem ci xi ∧ TyB P e xi := fun i hi => by
     have := hget i hi
     rw [List.getElem?_eq_getElem (by omega)] at this
     obtain ⟨ci, h1, h2⟩ := Option.bind_eq_some_iff.1 this
     have hsz : Szd P e (elems[i]'(by omega)).1 := fun w hw => hz w (by
      simp only [DataW.weights, ht, List.mem_cons, List.mem_append]
      exact .inr (.inl (wAll_mem (List.mem_map_of_mem (List.getElem_mem (by omega))) hw)))
     obtain ⟨xi, h3, h4⟩ := read_cellsB hts n' e ci _ hme h2 hsz
     exact ⟨ci, xi, h1, h3, h4⟩
    let C : Nat → List Value := fun i => if hi : i < len then (each i hi).choose else []
    let X : Nat → List PD := fun i => if hi : i < len then (each i hi).choose_spec.choose else []
    have hCX : ∀ i, i < len → W.cells? 0 (a.add (i * P.cellsOf e)) (P.cellsOf e) = some (C i) ∧ CellsRep (gh0 W).mem (C i) (X i) ∧ TyB P e (X i) := fun i hi => by
     simp only [C, X, hi, dif_pos]
     exact (each i hi).choose_spec.choose_spec
    have hlen : ∀ i, i < len → (X i).length = P.cellsOf e ∧ (C i).length = P.cellsOf e := fun i hi => by
     obtain ⟨h1, h2, _⟩ := hCX i hi
     have := (World.cells?_some h1).2.1
     exact ⟨h2.1.trans this, this⟩
    have hmk : ∀ i, i < len → (mkE P e (X i)).cells = X i := fun i hi => mkE_cells (hCX i hi).2.1.2.1
    by_cases h0 : len = 0
    ·subst h0
     exact ⟨[.emp (P.cellsOf e)], .single (.emp a cap _) rfl, .emp t e ht⟩
    have hty : TyB P t [.slice (P.cellsOf e) ((List.range len).map fun i => mkE P e (X i))] := by
     have hsz := hz ((((elems.map (·.1)).length) + (rest.map (·.1)).length) * P.bytesOf e) (by simp only [DataW.weights, ht]; exact List.mem_cons_self)
     have hle : len * P.bytesOf e ≤ (((elems.map (·.1)).length) + (rest.map (·.1)).length) * P.bytesOf e := Nat.mul_le_mul_right _ (by rw [List.length_map]; omega)
     refine .sl t e _ (by simp [h0]) ht (by rw [List.length_map, List.length_range]; omega) (fun x hx => ?_) (fun x hx => ?_) (fun x hx => ?_)
     ·obtain ⟨i, hi, rfl⟩ := List.mem_map.1 hx
      have hi : i < len := by simpa using hi
      rw [hmk i hi]; exact (hCX i hi).2.2
     ·obtain ⟨i, hi, rfl⟩ := List.mem_map.1 hx
      have hi : i < len := by simpa using hi
      rw [hmk i hi]; exact (hlen i hi).1
     ·obtain ⟨i, hi, rfl⟩ := List.mem_map.1 hx
      have hi : i < len := by simpa using hi
      rw [hmk i hi]
    refine ⟨_, .single ?_ rfl, hty⟩
    ·have hf := (World.cells?_some (hCX 0 (by omega)).1).2.2 0 hpos
     have hC0 : (C 0)[0]? ≠ none := by
      have := (hlen 0 (by omega)).2
      rw [List.getElem?_eq_getElem (by omega)]; simp
     obtain ⟨b, o, sp⟩ := a
     have hsp : sp = none := by
      cases sp with
      | none => rfl
      | some q =>
       exfalso
       rw [← hf] at hC0
       apply hC0
       unfold World.cell? Addr.add
       split
       ·simp
       ·rfl
     subst hsp
     have hl : ((List.range len).map fun i => mkE P e (X i)).length = len := by simp
     have := RepP.sl (m := (gh0 W).mem) b o cap (P.cellsOf e) ((List.range len).map fun i => mkE P e (X i)) (fun i j => (C i).getD j undef) (by rw [hl]; exact hlc) (fun x hx => by
      obtain ⟨i, hi, rfl⟩ := List.mem_map.1 hx
      have hi : i < len := by simpa using hi
      rw [hmk i hi]; exact (hlen i hi).1) (fun x hx c hcm' => by
      obtain ⟨i, hi, rfl⟩ := List.mem_map.1 hx
      have hi : i < len := by simpa using hi
      rw [hmk i hi] at hcm'
      exact (hCX i hi).2.1.2.1 c hcm') (fun i j hi hj => by
      rw [hl] at hi
      have q := (World.cells?_some (hCX i hi).1).2.2 j hj
      simp only [Addr.add_lit] at q
      show W.cell? ⟨b, o + i * P.cellsOf e + j, none⟩ = _
      rw [q]
      have := (hlen i hi).2
      simp [List.getD_eq_getElem?_getD, List.getElem?_eq_getElem (show j < (C i).length by omega)]) (fun i x j c hi hj => by
      have hil : i < len := by have := (List.getElem?_eq_some_iff.1 hi).1; simpa using this
      have hx : x = mkE P e (X i) := by
       rw [List.getElem?_map, List.getElem?_range hil] at hi
       simpa using hi.symm
      subst hx
      rw [hmk i hil] at hj
      have hjl := (List.getElem?_eq_some_iff.1 hj).1
      have h1 := (hlen i hil).1
      have h2 := (hlen i hil).2
      have hcj : (C i)[j]? = some ((C i).getD j undef) := by simp [List.getD_eq_getElem?_getD, List.getElem?_eq_getElem (show j < (C i).length by omega)]
      exact (hCX i hil).2.1.2.2 j _ c hcj hj)
     rw [hl] at this
     exact this
  ·rename_i fs ht
   simp only [Bool.and_eq_true] at hok
   obtain ⟨htl, hall⟩ := hok
   obtain ⟨xs, n', hn', rfl, hl, hlx, hget⟩ := DataW.trod_struct ht h
   have hn'' : n' = n := by omega
   subst hn''
   rw [← hl] at htl
   have hmem : ∀ f ∈ fs.toList, f.type ∈ ts := fun f hf => by
    have := List.all_eq_true.1 hall f hf
    simpa using this
   obtain ⟨t1, t2⟩ := tiles_le htl
   obtain ⟨parts, p1, p2, p3⟩ := fieldsB_read (W := W) (enc := enc) (n := n') (ts := ts) (fun t cs x hm h hz => read_cellsB hts n' t cs x hm h hz) cs fs.toList 0 htl hmem (fun f hf => by
    obtain ⟨i, hi⟩ := List.getElem?_of_mem hf
    have hi' : fs[i]? = some f := by simpa using hi
    rw [hget i f hi']
    have hil : i < fs.size := (Array.getElem?_eq_some_iff.1 hi').1
    refine ⟨_, List.getElem?_eq_getElem (by omega), fun w hw => hz w ?_⟩
    simp only [DataW.weights, ht]
    exact wEach_mem (i := i) (by rw [List.getElem?_map, hi]; rfl) (by rw [List.getElem?_map, List.getElem?_eq_getElem (by omega)]; rfl) hw) t1 t2
   refine ⟨parts.flatten, by simpa using p2, .struct t fs parts ht (by simpa using p1) (fun i f p hf hp => (p3 i f p (by simpa using hf) hp).1) (fun i f p hf hp => (p3 i f p (by simpa using hf) hp).2)⟩
  ·cases hok
theorem rep_anyB {ts : List TypeId} (hts : ts.all (tyOk P ts) = true) {t : TypeId} (hm : t ∈ ts) {r : Reach} {b0 : Nat} {v : Value} {d : DataW H} {ps : List MemPlace} (hval : Value.okWide P W r b0 t v) (hd : DataW.Trod enc P W 0 (fun _ => true) true t v d ps) (hz : Szd P t d) :
    ∃ x : PD, RepD (gh0 W) v (.p x) ∧ TyB P t x.cells ∧ ((∃ fs, P.underlying t = some (.struct fs)) → x = .agg x.cells) ∧ ((∀ fs, P.underlying t ≠ some (.struct fs)) → x.one = true) := by
 obtain ⟨fuel, hf⟩ := hd
 obtain ⟨xs, q, hty⟩ := read_cellsB hts fuel t _ _ hm hf hz
 have hok := List.all_eq_true.1 hts t hm
 have one : (∀ fs, P.underlying t ≠ some (.struct fs)) → v.cells = #[v] → ∃ x : PD, RepD (gh0 W) v (.p x) ∧ TyB P t x.cells ∧ ((∃ fs, P.underlying t = some (.struct fs)) → x = .agg x.cells) ∧ ((∀ fs, P.underlying t ≠ some (.struct fs)) → x.one = true) := by
  intro hns hv
  rw [hv] at q
  obtain ⟨q1, q2, q3⟩ := q
  match xs, q1 with
  | [x], _ =>
   have h1 := q2 x (by simp)
   have hc : x.cells = [x] := by cases x <;> first | rfl | cases h1
   exact ⟨x, .p _ _ (q3 0 v x rfl rfl), by rw [hc]; exact hty, fun ⟨fs, h⟩ => absurd h (hns fs), fun _ => h1⟩
 unfold tyOk at hok
 split at hok
 ·rename_i ht
  obtain ⟨b, rfl⟩ := okWide_bool ht hval
  exact one (fun fs h => by rw [ht] at h; cases h) rfl
 ·rename_i k ht
  obtain ⟨m, rfl⟩ := okWide_int ht hval
  exact one (fun fs h => by rw [ht] at h; cases h) rfl
 ·rename_i ht
  obtain ⟨s, rfl⟩ := okWide_string ht hval
  exact one (fun fs h => by rw [ht] at h; cases h) rfl
 ·rename_i e ht
  obtain ⟨a, l, c, rfl⟩ := okWide_slice ht hval
  exact one (fun fs h => by rw [ht] at h; cases h) rfl
 ·rename_i fs ht
  obtain ⟨cs, rfl, _⟩ := okWide_struct ht hval
  obtain ⟨q1, q2, q3⟩ := q
  refine ⟨.agg xs, .p _ _ (.agg cs xs (by simpa [Value.cells] using q1.symm) q2 fun i x hx => ?_), hty, fun _ => rfl, fun h => absurd ht (h fs)⟩
  have hi : i < cs.size := by
   have := (List.getElem?_eq_some_iff.1 hx).1
   rw [q1] at this; simpa [Value.cells] using this
  refine q3 i _ x ?_ hx
  simp [Value.cells, Array.getD_eq_getD_getElem?, hi]
 ·cases hok
end

section
variable {t e : TypeId} {xs : List PD}
theorem tyb_slice (ht : P.underlying t = some (.slice e)) (h : TyB P t xs) : xs = [.nils] ∨ xs = [.emp (P.cellsOf e)] ∨
    ∃ es, es ≠ [] ∧ es.length * P.bytesOf e ≤ reachBytes ∧ xs = [.slice (P.cellsOf e) es] ∧ (∀ x ∈ es, TyB P e x.cells) ∧ ∀ x ∈ es, x = mkE P e x.cells := by
 cases h with
 | bool _ b hb => rw [ht] at hb; cases hb
 | int _ k n hb => rw [ht] at hb; cases hb
 | str _ s hb => rw [ht] at hb; cases hb
 | nils _ e' hb => exact .inl rfl
 | emp _ e' hb => rw [ht] at hb; cases hb; exact .inr (.inl rfl)
 | sl _ e' es hne hb hl h hs hm => rw [ht] at hb; cases hb; exact .inr (.inr ⟨es, hne, hl, rfl, h, hm⟩)
 | struct _ fs parts hb => rw [ht] at hb; cases hb
theorem tyb_int {k : IntKind} (ht : P.underlying t = some (.int k)) (h : TyB P t xs) : ∃ n, xs = [.int k n] ∧ (Lit.int k n).wf = true := by
 cases h with
 | bool _ b hb => rw [ht] at hb; cases hb
 | int _ k n hb hw => rw [ht] at hb; cases hb; exact ⟨n, rfl, hw⟩
 | str _ s hb => rw [ht] at hb; cases hb
 | nils _ e' hb => rw [ht] at hb; cases hb
 | emp _ e' hb => rw [ht] at hb; cases hb
 | sl _ e' es hne hb hl h hs hm => rw [ht] at hb; cases hb
 | struct _ fs parts hb => rw [ht] at hb; cases hb
theorem tyb_bool (ht : P.underlying t = some .bool) (h : TyB P t xs) : ∃ b, xs = [.bool b] := by
 cases h with
 | bool _ b hb => exact ⟨b, rfl⟩
 | int _ k n hb hw => rw [ht] at hb; cases hb
 | str _ s hb => rw [ht] at hb; cases hb
 | nils _ e' hb => rw [ht] at hb; cases hb
 | emp _ e' hb => rw [ht] at hb; cases hb
 | sl _ e' es hne hb hl h hs hm => rw [ht] at hb; cases hb
 | struct _ fs parts hb => rw [ht] at hb; cases hb
theorem tyb_str (ht : P.underlying t = some .string) (h : TyB P t xs) : ∃ s, xs = [.str s] ∧ s.length ≤ reachBytes := by
 cases h with
 | bool _ b hb => rw [ht] at hb; cases hb
 | int _ k n hb hw => rw [ht] at hb; cases hb
 | str _ s hb hs => exact ⟨s, rfl, hs⟩
 | nils _ e' hb => rw [ht] at hb; cases hb
 | emp _ e' hb => rw [ht] at hb; cases hb
 | sl _ e' es hne hb hl h hs hm => rw [ht] at hb; cases hb
 | struct _ fs parts hb => rw [ht] at hb; cases hb
theorem tyb_struct {fs : Array Field} (ht : P.underlying t = some (.struct fs)) (h : TyB P t xs) : ∃ parts : List (List PD), xs = parts.flatten ∧ parts.length = fs.size ∧
    ∀ (i : Nat) f p, fs[i]? = some f → parts[i]? = some p → TyB P f.type p := by
 cases h with
 | bool _ b hb => rw [ht] at hb; cases hb
 | int _ k n hb hw => rw [ht] at hb; cases hb
 | str _ s hb hs => rw [ht] at hb; cases hb
 | nils _ e' hb => rw [ht] at hb; cases hb
 | emp _ e' hb => rw [ht] at hb; cases hb
 | sl _ e' es hne hb hl h hs hm => rw [ht] at hb; cases hb
 | struct _ fs' parts hb hl h hs => rw [ht] at hb; cases hb; exact ⟨parts, rfl, hl, h⟩

end
theorem trodAll_at {H : Type} {enc : TypeId × Value → H} {W : World} : ∀ {ts : List TypeId} {vs : List Value} {ds : List (DataW H)} {ps : List MemPlace}, DataW.TrodAll enc P W 0 (fun _ => true) true ts vs ds ps →
    ∀ (j : Nat) t v, ts[j]? = some t → vs[j]? = some v → ∃ d p, DataW.Trod enc P W 0 (fun _ => true) true t v d p ∧ ds[j]? = some d
 | [], [], [], _, _, j, t, v, ht, _ => by simp at ht
 | t :: ts, v :: vs, d :: ds, ps, h, j, t', v', ht, hv => by
  obtain ⟨p, q, h1, h2, _⟩ := h
  cases j with
  | zero => cases ht; cases hv; exact ⟨d, p, h1, rfl⟩
  | succ j => exact trodAll_at h2 j t' v' ht hv
 | [], [], _ :: _, _, h, _, _, _, _, _ => h.elim
 | [], _ :: _, _, _, h, _, _, _, _, _ => by cases h
 | _ :: _, [], _, _, h, _, _, _, _, _ => by cases h
 | _ :: _, _ :: _, [], _, h, _, _, _, _, _ => by cases h
end Go.Vs

namespace Go
variable {H : Type} {enc : TypeId × Value → H}
theorem wEach_app {P : Program} : ∀ {ts us : List TypeId} {ds gs : List (DataW H)}, ts.length = ds.length → ∀ w ∈ DataW.weightsEach P ts ds, w ∈ DataW.weightsEach P (ts ++ us) (ds ++ gs)
 | [], _, [], _, _, w, h => by simp [DataW.weightsEach] at h
 | t :: ts, us, d :: ds, gs, hl, w, h => by
  simp only [DataW.weightsEach, List.mem_append, List.cons_append] at h ⊢
  exact h.imp id (wEach_app (by simpa using hl) w)
 | [], _, _ :: _, _, h, _, _ => by simp at h
 | _ :: _, _, [], _, h, _, _ => by simp at h
theorem trodAll_len {P : Program} {W : World} : ∀ {ts : List TypeId} {vs : List Value} {ds : List (DataW H)} {ps : List MemPlace}, DataW.TrodAll enc P W 0 (fun _ => true) true ts vs ds ps → ts.length = ds.length
 | [], [], [], _, _ => rfl
 | t :: ts, v :: vs, d :: ds, ps, h => by
  obtain ⟨p, q, _, h2, _⟩ := h
  simp [trodAll_len h2]
 | [], [], _ :: _, _, h => h.elim
 | [], _ :: _, _, _, h => by cases h
 | _ :: _, [], _, _, h => by cases h
 | _ :: _, _ :: _, [], _, h => by cases h
theorem returnsInHanded_and_sized {a : Assume} {C : Checked} {os : Os} {f : FuncId} {fn : Func} {s : ChangeSpec} {conds : List PathCond} {apart fresh handsOn again : Bool} {X : World → Array Value → Prop}
    (hX : ∀ (w w' : World) (args : Array Value), w.heap = w'.heap → X w args → X w' args)
    (own : ownKnob C.prog.godebug = none) (started : os.Started) (noInit : C.prog.inits.idxOf? f = none) (hfn : C.prog.funcs[f]? = some fn)
    (witness : ∃ (w : World) (tape : Tape) (i : Input), w.os = os ∧ (w.forCall tape i).Shaped C.prog ∧ i.vars = [] ∧ Input.okWide C.prog (w.forCall tape i) .any w.heap.size f i ∧
     ((s.pre enc C.prog fn conds apart (w.forCall tape i).memory i.args ∧ X (w.forCall tape i).memory i.args) ∧ sizedMet enc C.prog fn (OpenSpec.ofChange s) apart (w.forCall tape i).memory i.args) ∧ a.holds C.prog (lone (Frame.enter C.prog f i.args .normal) [] (w.forCall tape i)))
    (contract : ∀ (W : World) (base : Nat) (args : Array Value) (ds gs : List (DataW H)) (before : List MemPlace),
     (∀ (j : Nat) t v, fn.params[j]? = some t → args[j]? = some v → Value.okWide C.prog W .any base t v) →
     DataW.Whole enc C.prog fn.params.toList s.vars apart W args.toList ds gs before → (∀ (j : Nat) t v, fn.params[j]? = some t → args[j]? = some v → ∃ d p, DataW.Trod enc C.prog W 0 (fun _ => true) true t v d p ∧ Vs.Szd C.prog t d) → X W args → W.ShapedOpen C.prog →
     Calls C.prog f args W fun e W' => ∃ v, e = .returned v ∧ s.post enc C.prog fn apart fresh handsOn again W args v W') :
    ReturnsInHanded a C os f .any (fun w args => (s.pre enc C.prog fn conds apart w args ∧ X w args) ∧ sizedMet enc C.prog fn (OpenSpec.ofChange s) apart w args) (s.post enc C.prog fn apart fresh handsOn again) := by
 refine returnsInHanded_of_calls own started noInit witness ?_
 intro w tape i _ hsh _ hok hpre _
 obtain ⟨_, _, _, fn', hfn', _, _, _, _, hval⟩ := hok
 have e : fn' = fn := Option.some.inj (hfn'.symm.trans hfn)
 subst e
 obtain ⟨⟨⟨ds, gs, before, hw, _⟩, hx⟩, hsz⟩ := hpre
 obtain ⟨_, ds', gs', before', hw2, hall⟩ := hsz
 have hw3 := DataW.Whole.of_heap (w' := w.forCall tape i) (by rfl) hw2
 have hsized : ∀ (j : Nat) t v, fn'.params[j]? = some t → i.args[j]? = some v → ∃ d p, DataW.Trod enc C.prog (w.forCall tape i) 0 (fun _ => true) true t v d p ∧ Vs.Szd C.prog t d := by
  obtain ⟨p, q, hA, _⟩ := hw3
  intro j t v ht hv
  obtain ⟨d, p', h1, h2⟩ := Vs.trodAll_at hA j t v (by simpa using ht) (by simpa using hv)
  refine ⟨d, p', h1, fun w' hw' => ?_⟩
  have h3 := wEach_app (us := (OpenSpec.ofChange s).bare.plain.varTypes C.prog) (gs := gs') (trodAll_len hA) w' (Vs.wEach_mem (i := j) (by simpa using ht) h2 hw')
  exact of_decide_eq_true (List.all_eq_true.1 hall w' h3)
 have hw' := DataW.Whole.of_heap (w' := w.forCall tape i) (by rfl) hw
 refine (contract (w.forCall tape i) w.heap.size i.args ds gs before hval hw' hsized (hX _ _ _ (by rfl) hx) hsh).mono fun e W' ⟨v, he, hp⟩ => ?_
 subst he
 exact ChangeSpec.post_blind hp
end Go

namespace Go.Vs
def CallR.leD (c c' : CallR) : Prop := ∀ f a H r, callD c f a H = some r → callD c' f a H = some r

section
variable {c c' : CallR} (h : CallR.leD c c')
include h

end

section
variable {c c' : CallR} (h : CallR.leD c c') {i i' : It} (hi : It.le i i') {G : Nat → Option (List PD)} {T : Nat → Option (Nat × FC)}
include h hi

end
theorem call_runF {p : Pg} {f : Nat} {fc : FC} {a : List D} {H : Hp} {r : Res × Hp} (hl : p.lib f a H = none) (hf : p.F f = some fc) (hn : a.length = fc.np)
    (e : closeF fc.frz H.bx.length (runF (call p) p.D p.G iterX fc ⟨entry 0 a, H⟩) = some r) : call p f a H = some r := by
 cases hx : runF (call p) p.D p.G iterX fc ⟨entry 0 a, H⟩ with
 | none => rw [hx] at e; unfold closeF at e; split at e <;> cases e
 | some x =>
  obtain ⟨n, hn'⟩ := runF_fin hx
  refine call_iff.2 ⟨n + 1, ?_⟩
  unfold evF
  try dsimp only
  rw [hl, hf]
  try dsimp only
  rw [if_pos hn, hn', ← hx]
  exact e

end Go.Vs
