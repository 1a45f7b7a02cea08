/-
  A value-level evaluator for Go functions, continued: calls, regions, code, functions; the limit over all depths, and its equations.
-/
import Derived.Test.YtphnflkjgoobmaaDoorFwA
namespace Go.Vs

inductive Res where
  | val (d : D)
  | pan (d : D)

abbrev CallR := Nat → List D → Hp → Option (Res × Hp)

def mapO {α β : Type} (f : α → Option β) : List α → Option (List β)
  | [] => some []
  | a :: r => match f a with
    | some b => (mapO f r).map (b :: ·)
    | none => none

def idx (l : List Nat) (i : Nat) : Option Nat := match l with
  | [] => none
  | a :: r => if a = i then some 0 else (idx r i).map (· + 1)

mutual
def D.ren (bi ti : Nat → Option Nat) : D → Option D
  | .box i o => (bi i).map fun j => .box j o
  | .tsl t e sz es => match ti t with
    | some u => some (.tsl u e sz es)
    | none => some (.p (.slice sz es))
  | .agg cs => (D.renL bi ti cs).map .agg
  | .tup cs => (D.renL bi ti cs).map .tup
  | .fn f a c => match D.renL bi ti a, D.renL bi ti c with
    | some a', some c' => some (.fn f a' c')
    | _, _ => none
  | d => some d
def D.renL (bi ti : Nat → Option Nat) : List D → Option (List D)
  | [] => some []
  | d :: r => match d.ren bi ti with
    | some x => (D.renL bi ti r).map (x :: ·)
    | none => none
end

mutual
def D.refs : D → List Nat
  | .box i _ => [i]
  | .agg cs => D.refsL cs
  | .tup cs => D.refsL cs
  | .fn _ a c => D.refsL a ++ D.refsL c
  | _ => []
def D.refsL : List D → List Nat
  | [] => []
  | d :: r => d.refs ++ D.refsL r
end

mutual
def D.toks : D → List Nat
  | .tsl t _ _ _ => [t]
  | .agg cs => D.toksL cs
  | .tup cs => D.toksL cs
  | .fn _ a c => D.toksL a ++ D.toksL c
  | _ => []
def D.toksL : List D → List Nat
  | [] => []
  | d :: r => d.toks ++ D.toksL r
end

def ins (l : List Nat) : List Nat → List Nat
  | [] => l
  | x :: r => if l.contains x then ins l r else ins (l ++ [x]) r

def boxRefs (H : Hp) : List Nat → List Nat
  | [] => []
  | i :: r => (match H.bx[i]? with | some cs => D.refsL cs | none => []) ++ boxRefs H r

def boxToks (H : Hp) : List Nat → List Nat
  | [] => []
  | i :: r => (match H.bx[i]? with | some cs => D.toksL cs | none => []) ++ boxToks H r

def reach (H : Hp) : Nat → List Nat → List Nat
  | 0, ids => ids
  | n + 1, ids => match boxRefs H ids with
    | [] => ids
    | new => reach H n (ins ids new)

def putAll {α : Type} (l : List α) : List Nat → List α → List α
  | i :: is, x :: xs => putAll (l.set i x) is xs
  | _, _ => l

def Res.ren (bi ti : Nat → Option Nat) : Res → Option Res
  | .val d => (d.ren bi ti).map .val
  | .pan d => (d.ren bi ti).map .pan

def firstN {α : Type} (l : List α) (n : Nat) : Option (List α) := if n ≤ l.length then some (l.take n) else none

/-- From the callee's heap back into the caller's; what the callee made is dropped where nothing refers to it, else it is kept. -/
def back (ids tks : List Nat) (H : Hp) (r : Res) (H' : Hp) : Option (Res × Hp) :=
  match firstN H'.bx ids.length, firstN H'.tk tks.length with
  | some bx, some tk =>
    let ti := fun t => tks[t]?
    match r.ren (fun i => ids[i]?) ti, mapO (D.renL (fun i => ids[i]?) ti) bx with
    | some r', some bx' => some (r', ⟨putAll H.bx ids bx', putAll H.tk tks tk⟩)
    | _, _ =>
      let bi := fun i => if i < ids.length then ids[i]? else some (H.bx.length + (i - ids.length))
      match r.ren bi ti, mapO (D.renL bi ti) bx, mapO (D.renL bi ti) (H'.bx.drop ids.length) with
      | some r', some bx', some (n0 :: nw) => some (r', ⟨putAll H.bx ids bx' ++ (n0 :: nw), putAll H.tk tks tk⟩)
      | _, _, _ => none
  | _, _ => none

def nodupB : List Nat → Bool
  | [] => true
  | a :: r => !(r.contains a) && nodupB r

def callD (callO : CallR) (f : Nat) (args : List D) (H : Hp) : Option (Res × Hp) :=
  let ids := reach H H.bx.length (ins [] (D.refsL args))
  let tks := ins [] (D.toksL args ++ boxToks H ids)
  if nodupB ids && nodupB tks then
    match D.renL (idx ids) (idx tks) args, mapO (fun i => match H.bx[i]? with | some cs => D.renL (idx ids) (idx tks) cs | none => none) ids, mapO (fun t => H.tk[t]?) tks with
    | some as, some bx, some tk => match callO f as ⟨bx, tk⟩ with
      | some (r, H') => back ids tks H r H'
      | none => none
    | _, _, _ => none
  else none

def callV (callO : CallR) (f : D) (args : List D) (H : Hp) : Option (Res × Hp) :=
  match f with
  | .fn g first cap => callD callO g (first ++ args ++ cap) H
  | _ => none

def evKC (callO : CallR) (G : Nat → Option (List PD)) (env : Env) (H : Hp) : SK → Option (Res × Hp)
  | .call f args => callV callO (f.ev env) (args.map (·.ev env)) H
  | k => match evK G env H k with
    | some (d, H') => some (.val d, H')
    | none => none

def evGuard (env : Env) : Option (Nat × Bool) → Option Bool
  | none => some true
  | some (t, want) => match env.get t with
    | .p (.bool b) => some (b == want)
    | .undef => some false
    | _ => none

def put (dst : Option Nat) (d : D) (env : Env) : Env :=
  match dst with
  | some t => (t, d) :: env
  | none => env

inductive RO where
  | ok (env : Env) (H : Hp)
  | pan (d : D) (H : Hp)

def evOps (callO : CallR) (G : Nat → Option (List PD)) : List SO → Env → Hp → Option RO
  | [], env, H => some (.ok env H)
  | o :: r, env, H => match evGuard env o.g with
    | some true => match evKC callO G env H o.k with
      | some (.val d, H') => evOps callO G r (put o.dst d env) H'
      | some (.pan d, H') => some (.pan d H')
      | none => none
    | some false => evOps callO G r (put o.dst .undef env) H
    | none => none

/-- How an operation meets the heap: 0 not at all, 1 it reads, 2 it writes. -/
def cls (env : Env) : SK → Nat
  | .load _ x => match x.ev env with
    | .ro _ _ | .glob _ _ => 0
    | _ => 1
  | .alloc _ | .box _ | .store _ _ _ | .append _ _ _ _ _ | .toBytes _ _ => 2
  | .call f args => if (D.refsL (f.ev env :: args.map (·.ev env))).isEmpty && (D.toksL (f.ev env :: args.map (·.ev env))).isEmpty then 0 else 2
  | _ => 0

def clash (a b : Nat) : Bool := (a == 2 && b != 0) || (b == 2 && a != 0)

/-- In an order that Go leaves open: the same, and the classes of the operations. -/
def evDraw (callO : CallR) (G : Nat → Option (List PD)) : List SO → Env → Hp → Option (Env × Hp × List Nat)
  | [], env, H => some (env, H, [])
  | o :: r, env, H => match evGuard env o.g with
    | some true => match evKC callO G env H o.k with
      | some (.val d, H') =>
        match evDraw callO G r (put o.dst d env) H' with
        | some (e, h, cs) => some (e, h, (if cls env o.k = 0 then (if H'.bx.length = H.bx.length then 0 else 2) else cls env o.k) :: cs)
        | none => none
      | _ => none
    | some false => match evDraw callO G r (put o.dst .undef env) H with
      | some (e, h, cs) => some (e, h, 0 :: cs)
      | none => none
    | none => none

inductive Out where
  | norm
  | exit (id : Nat)
  | ret
  | pan (d : D)

def tokD (e sz : Nat) (d : D) (H : Hp) : Option (D × Hp) :=
  match d with
  | .p .nils => some (.tsl H.tk.length e sz [], { H with tk := H.tk ++ [0] })
  | .fsl sz' es => if sz' = sz ∧ es.length ≤ 140737488355328 then some (.tsl H.tk.length e sz es, { H with tk := H.tk ++ [es.length] }) else none
  | .tsl t e' sz' es => if e' = e ∧ sz' = sz then some (.tsl t e sz es, H) else none
  | _ => none

def iter (body : St → Option (Out × St)) : Nat → St → Option (Out × St)
  | 0, _ => none
  | m + 1, s => match body s with
    | some (.norm, s') => iter body m s'
    | r => r

def Out.ren (bi ti : Nat → Option Nat) : Out → Option Out
  | .pan d => (d.ren bi ti).map .pan
  | o => some o

def below (n i : Nat) : Option Nat := if i < n then some i else none

/-- What was made within is dropped where nothing that lasts refers to it; rows made within grow no more. -/
def locD (nb nt : Nat) (x : Out × St) : Out × St :=
  if nb ≤ x.2.hp.bx.length ∧ nt ≤ x.2.hp.tk.length then
    match mapO (D.renL (below nb) (below nt)) (x.2.hp.bx.take nb), x.1.ren (below nb) (below nt) with
    | some bx, some o => (o, ⟨x.2.env.map fun y => (y.1, (y.2.ren (below nb) (below nt)).getD .dead), ⟨bx, x.2.hp.tk.take nt⟩⟩)
    | _, _ => x
  else x

abbrev It := (St → Option (Out × St)) → St → Option (Out × St)

def evS (callO : CallR) (G : Nat → Option (List PD)) (it : It) : SC → St → Option (Out × St)
  | .skip, s => some (.norm, s)
  | .region keep ops, s => match evOps callO G ops s.env s.hp with
    | some (.ok env H) => some (.norm, ⟨env.keep keep, H⟩)
    | some (.pan d H) => some (.pan d, ⟨[], H⟩)
    | none => none
  | .draw keep pairs ops, s => match evDraw callO G ops s.env s.hp with
    | some (env, H, cs) => if pairs.all (fun p => !clash (cs.getD p.1 0) (cs.getD p.2 0)) then some (.norm, ⟨env.keep keep, H⟩) else none
    | none => none
  | .seq a b, s => match evS callO G it a s with
    | some (.norm, s') => evS callO G it b s'
    | r => r
  | .cond c a b, s => match c.ev s.env with
    | .p (.bool t) => if t then evS callO G it a s else evS callO G it b s
    | _ => none
  | .block id b, s => match evS callO G it b s with
    | some (.exit i, s') => if i = id then some (.norm, s') else some (.exit i, s')
    | r => r
  | .loop keep b, s => it (fun s => evS callO G it b ⟨s.env.keep keep, s.hp⟩) s
  | .tok slot e sz, s => match tokD e sz (s.env.get slot) s.hp with
    | some (d, H) => some (.norm, ⟨(slot, d) :: s.env, H⟩)
    | none => none
  | .scope b, s => evS callO G it b s
  | .loc b, s => (evS callO G it b s).map (locD s.hp.bx.length s.hp.tk.length)
  | .exit id, s => some (.exit id, s)
  | .ret, s => some (.ret, s)

structure Pg where
  F : Nat → Option FC
  G : Nat → Option (List PD)
  lib : CallR

def entry : Nat → List D → Env
  | _, [] => []
  | i, a :: r => (i, a) :: entry (i + 1) r

def evRes1 (G : Nat → Option (List PD)) (env : Env) (H : Hp) : SRes → Option D
  | .t i => some (env.get i)
  | .cell i n => loadD G H n (env.get i)

def evRes (G : Nat → Option (List PD)) (env : Env) (H : Hp) : List SRes → Option D
  | [] => some .undef
  | [r] => evRes1 G env H r
  | rs => (mapO (evRes1 G env H) rs).map .tup

def finish (G : Nat → Option (List PD)) (res : List SRes) : Option (Out × St) → Option (Res × Hp)
  | some (.norm, s) | some (.ret, s) => match evRes G s.env s.hp res with
    | some d => some (.val d, s.hp)
    | none => none
  | some (.pan d, s) => some (.pan d, s.hp)
  | _ => none

def evF (p : Pg) : Nat → CallR
  | 0 => fun _ _ _ => none
  | n + 1 => fun f args H => match p.lib f args H with
    | some r => some r
    | none => match p.F f with
      | some fc => if args.length = fc.np then finish p.G fc.res (evS (evF p n) p.G (fun b s => iter b n s) fc.body ⟨entry 0 args, H⟩) else none
      | none => none

end Go.Vs
