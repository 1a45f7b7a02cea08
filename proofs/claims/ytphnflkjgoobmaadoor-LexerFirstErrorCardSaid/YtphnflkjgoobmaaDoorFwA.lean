/-
  A value-level evaluator for Go functions: the data, the code, the evaluation. Nothing of a program stands here.
-/
import Derived.Calls
import Derived.Tactics
namespace Go.Vs

/-- Plain data: what a value reads as where it is never written again. -/
inductive PD where
  | bool (b : Bool)
  | int (k : IntKind) (n : Int)
  | str (s : List UInt8)
  | nilp
  | nils
  | nilf
  | nili
  | nilm
  | slice (sz : Nat) (es : List PD)
  | agg (cs : List PD)
  | iface (t : Nat) (x : PD)

instance : Inhabited PD := ⟨.nilp⟩

def PD.cells : PD → List PD
  | .agg cs => cs
  | x => [x]

def PD.one : PD → Bool
  | .agg _ => false
  | _ => true

/-- What a slot or a cell holds. -/
inductive D where
  | dead
  | undef
  | p (x : PD)
  | fsl (sz : Nat) (es : List PD)
  | tsl (t e sz : Nat) (es : List PD)
  | box (i off : Nat)
  | glob (g off : Nat)
  | ro (cs : List PD) (off : Nat)
  | agg (cs : List D)
  | tup (ds : List D)
  | fn (f : Nat) (first cap : List D)

instance : Inhabited D := ⟨.dead⟩

def D.cells : D → List D
  | .agg cs => cs
  | .p (.agg cs) => cs.map .p
  | d => [d]

def D.one : D → Bool
  | .dead | .undef | .agg _ | .tup _ => false
  | .p x => x.one
  | _ => true

def pures : List D → Option (List PD)
  | [] => some []
  | .p x :: r => (pures r).map (x :: ·)
  | _ => none

def mkAgg (ds : List D) : D :=
  match pures ds with
  | some cs => .p (.agg cs)
  | none => .agg ds

mutual
def D.asPD : D → Option PD
  | .p x => some x
  | .fsl sz es => some (.slice sz es)
  | .tsl _ _ sz es => some (.slice sz es)
  | .agg cs => (D.asPDL cs).map .agg
  | _ => none
def D.asPDL : List D → Option (List PD)
  | [] => some []
  | d :: r => match d.asPD with
    | some x => (D.asPDL r).map (x :: ·)
    | none => none
end

structure Hp where
  bx : List (List D)
  tk : List Nat

abbrev Env := List (Nat × D)

def Env.get : Env → Nat → D
  | [], _ => .dead
  | (s, d) :: e, t => if s = t then d else Env.get e t

def Env.keep (ks : List Nat) (e : Env) : Env := ks.map fun t => (t, e.get t)

structure St where
  env : Env
  hp : Hp

inductive Opd where
  | t (i : Nat)
  | c (d : D)

inductive SK where
  | move (x : Opd)
  | pick (c a b : Opd)
  | alloc (zs : List PD)
  | box (x : Opd)
  | build (zs : List PD) (parts : List (Nat × Nat × Opd))
  | bslice (sz : Nat) (len : Nat) (z : PD) (parts : List (Nat × Opd))
  | load (n : Option Nat) (x : Opd)
  | store (n : Nat) (a v : Opd)
  | nilCheck (x : Opd)
  | bin (op : BinOp) (x y : Opd)
  | eqk (kd : Nat) (neg : Bool) (x y : Opd)
  | eqs (neg : Bool) (tags : List Nat) (x y : Opd)
  | un (op : UnOp) (x : Opd)
  | mkfn (f : Nat) (first cap : List Opd)
  | slice (sz : Nat) (x : Opd) (lo hi : Option Opd)
  | faddr (x : Opd) (off : Nat)
  | field (x : Opd) (off : Nat) (n : Option Nat)
  | iaddr (len : Option Nat) (sz : Nat) (x i : Opd)
  | index (arr : Option (Nat × Nat × Bool)) (x i : Opd)
  | extract (x : Opd) (i : Nat)
  | len (kd : Nat) (x : Opd)
  | append (e sz bytes : Nat) (s x : Opd)
  | conv (k : IntKind) (x : Opd)
  | strid (x : Opd)
  | toBytes (e : Nat) (x : Opd)
  | toStr (x : Opd)
  | minmax (mx : Bool) (x y : Opd)
  | makesl (sz : Nat) (z : PD) (bytes : Nat) (n c : Opd)
  | iface (t : Nat) (x : Opd)
  | call (f : Opd) (args : List Opd)

structure SO where
  dst : Option Nat
  k : SK
  g : Option (Nat × Bool)

inductive SC where
  | skip
  | region (keep : List Nat) (ops : List SO)
  | draw (keep : List Nat) (pairs : List (Nat × Nat)) (ops : List SO)
  | seq (a b : SC)
  | cond (c : Opd) (a b : SC)
  | block (id : Nat) (b : SC)
  | loop (keep : List Nat) (b : SC)
  | tok (slot : Nat) (e sz : Nat)
  | scope (b : SC)
  | loc (b : SC)
  | exit (id : Nat)
  | ret

inductive Ex where
  | norm
  | exit (id : Nat)
  | ret

inductive SRes where
  | t (i : Nat)
  | cell (i : Nat) (n : Option Nat)

structure FC where
  nt : Nat
  np : Nat
  res : List SRes
  body : SC
  ints : Unit := ()

def Opd.ev (env : Env) : Opd → D
  | .t i => env.get i
  | .c d => d

abbrev CallO := Nat → List D → Hp → Option (D × Hp)

def intBin (op : BinOp) (k : IntKind) (a b : Int) : Option PD :=
  match op with
  | .add => some (.int k (k.wrap (a + b)))
  | .sub => some (.int k (k.wrap (a - b)))
  | .mul => some (.int k (k.wrap (a * b)))
  | .quo => if b = 0 then none else some (.int k (k.wrap (a.tdiv b)))
  | .rem => if b = 0 then none else some (.int k (a.tmod b))
  | .eql => some (.bool (a == b))
  | .neq => some (.bool (a != b))
  | .lss => some (.bool (decide (a < b)))
  | .leq => some (.bool (decide (a ≤ b)))
  | .gtr => some (.bool (decide (a > b)))
  | .geq => some (.bool (decide (a ≥ b)))
  | .and => some (.int k (k.wrap ((BitVec.ofInt k.bits a &&& BitVec.ofInt k.bits b).toNat)))
  | .or => some (.int k (k.wrap ((BitVec.ofInt k.bits a ||| BitVec.ofInt k.bits b).toNat)))
  | .xor => some (.int k (k.wrap ((BitVec.ofInt k.bits a ^^^ BitVec.ofInt k.bits b).toNat)))
  | .andNot => some (.int k (k.wrap ((BitVec.ofInt k.bits a &&& ~~~ BitVec.ofInt k.bits b).toNat)))
  | .shl => if b < 0 then none else some (.int k (k.wrap (a * 2 ^ (min b.toNat k.bits))))
  | .shr => if b < 0 then none else some (.int k (a.fdiv (2 ^ (min b.toNat k.bits))))

def strBin (op : BinOp) (a b : List UInt8) : Option PD :=
  match op with
  | .add => if a.length + b.length ≤ 140737488355328 then some (.str (a ++ b)) else none
  | .eql => some (.bool (a == b))
  | .neq => some (.bool (!(a == b)))
  | .lss => some (.bool (Op.bytesLess a b))
  | .leq => some (.bool (Op.bytesLess a b || a == b))
  | .gtr => some (.bool (!(Op.bytesLess a b || a == b)))
  | .geq => some (.bool (!Op.bytesLess a b))
  | _ => none

/-- Equality of plain cells of one kind: 0 bool, 1 int, 2 string. -/
def PD.eqv (tag : Nat) (a b : PD) : Option Bool :=
  match tag, a, b with
  | 0, .bool a, .bool b => some (a == b)
  | 1, .int k a, .int k' b => if k = k' then some (a == b) else none
  | 2, .str a, .str b => some (a == b)
  | _, _, _ => none

def eqvL : List Nat → List PD → List PD → Option Bool
  | [], [], [] => some true
  | t :: ts, a :: x, b :: y => match PD.eqv t a b, eqvL ts x y with
    | some e, some f => some (e && f)
    | _, _ => none
  | _, _, _ => none

def D.isNils : D → Option Bool
  | .p .nils => some true
  | .p (.slice _ (_ :: _)) => some false
  | .fsl _ _ => some false
  | .tsl _ _ _ (_ :: _) => some false
  | _ => none

/-- Equality: 0 bool, 1 pointers against nil, 2 slices against nil, 3 functions against nil. -/
def eqD (kd : Nat) (a b : D) : Option Bool :=
  match kd with
  | 0 => match a, b with
    | .p (.bool x), .p (.bool y) => some (x == y)
    | _, _ => none
  | 1 => match a, b with
    | .p .nilp, .p .nilp => some true
    | .box _ _, .p .nilp => some false
    | .ro _ _, .p .nilp => some false
    | .glob _ _, .p .nilp => some false
    | _, _ => none
  | 2 => match b with
    | .p .nils => a.isNils
    | _ => none
  | 3 => match a, b with
    | .p .nilf, .p .nilf => some true
    | .fn _ _ _, .p .nilf => some false
    | _, _ => none
  | _ => none

def binD (op : BinOp) (a b : D) : Option D :=
  match a, b with
  | .p (.int k x), .p (.int k' y) => if op = .shl ∨ op = .shr ∨ k = k' then (intBin op k x y).map .p else none
  | .p (.str x), .p (.str y) => (strBin op x y).map .p
  | _, _ => none

def unD (op : UnOp) (a : D) : Option D :=
  match op, a with
  | .not, .p (.bool b) => some (.p (.bool (!b)))
  | .neg, .p (.int k n) => some (.p (.int k (k.wrap (0 - n))))
  | _, _ => none

def D.asNat? : D → Option Nat
  | .p (.int _ n) => if 0 ≤ n then some n.toNat else none
  | _ => none

def D.asInt? : D → Option Int
  | .p (.int _ n) => some n
  | _ => none

/-- The elements of a slice, with the number of cells of one. -/
def D.elems? : D → Option (Nat × List PD)
  | .p (.slice sz es) => some (sz, es)
  | .fsl sz es => some (sz, es)
  | .tsl _ _ sz es => some (sz, es)
  | _ => none

def sub {α : Type} (l : List α) (lo hi : Nat) : List α := (l.take hi).drop lo

def cutAt {α : Type} (l : List α) (off : Nat) (n : Option Nat) (one : α → D) (many : List α → D) : Option D :=
  match n with
  | none => (l[off]?).map one
  | some k => if off + k ≤ l.length then some (many (sub l off (off + k))) else none

def splice (l : List D) (off : Nat) (cs : List D) : List D := l.take off ++ cs ++ l.drop (off + cs.length)

def fillD (cells : List D) : List (Nat × Nat × D) → Option (List D)
  | [] => some cells
  | (off, n, x) :: r => if x.cells.length = n ∧ off + n ≤ cells.length ∧ x.cells.all D.one then fillD (splice cells off x.cells) r else none

def fillE (sz : Nat) (es : List PD) : List (Nat × D) → Option (List PD)
  | [] => some es
  | (i, x) :: r => match x.asPD with
    | some y => if y.cells.length = sz ∧ y.cells.all PD.one ∧ i < es.length then fillE sz (es.set i y) r else none
    | none => none

def boundsD (n : Nat) (lo hi : Option D) : Option (Nat × Nat) :=
  match (match lo with | none => some 0 | some d => d.asNat?), (match hi with | none => some n | some d => d.asNat?) with
  | some l, some h => if l ≤ h ∧ h ≤ n then some (l, h) else none
  | _, _ => none

/-- A piece: of a string (size 0), or of a slice with elements of this size. -/
def sliceD (sz : Nat) (x : D) (lo hi : Option D) : Option D :=
  match sz with
  | 0 => match x with
    | .p (.str s) => (boundsD s.length lo hi).map fun b => .p (.str (sub s b.1 b.2))
    | _ => none
  | _ + 1 => match x with
    | .p .nils => (boundsD 0 lo hi).map fun _ => .p .nils
    | x => match x.elems? with
      | some (sz', es) => if sz' = sz then (boundsD es.length lo hi).map fun b => .p (.slice sz (sub es b.1 b.2)) else none
      | none => none

def iaddrD (len : Option Nat) (sz : Nat) (x : D) (i : Int) : Option D :=
  match len with
  | none => match x.elems? with
    | some (sz', es) => if sz' = sz ∧ 0 ≤ i then (es[i.toNat]?).map fun e => .ro e.cells 0 else none
    | none => none
  | some n => if 0 ≤ i ∧ i < n then
      match x with
      | .box b o => some (.box b (o + i.toNat * sz))
      | .glob g o => some (.glob g (o + i.toNat * sz))
      | .ro cs o => some (.ro cs (o + i.toNat * sz))
      | _ => none
    else none

def u8 (b : UInt8) : D := .p (.int .u8 b.toNat)

def indexD (arr : Option (Nat × Nat × Bool)) (x : D) (i : Int) : Option D :=
  match arr with
  | none => match x with
    | .p (.str s) => if 0 ≤ i then (s[i.toNat]?).map u8 else none
    | _ => none
  | some (n, sz, ag) => if 0 ≤ i ∧ i < n then
      match x with
      | .p (.agg cs) => cutAt cs (i.toNat * sz) (if ag then some sz else none) .p fun l => .p (.agg l)
      | .agg cs => cutAt cs (i.toNat * sz) (if ag then some sz else none) id mkAgg
      | _ => none
    else none

/-- The length: of a string (0), of a slice (1). -/
def lenD (kd : Nat) (x : D) : Option Nat :=
  match kd, x with
  | 0, .p (.str s) => some s.length
  | 1, .p .nils => some 0
  | 1, x => x.elems?.map fun e => e.2.length
  | _, _ => none

/-- What is appended: elements of the given size. -/
def srcD (sz : Nat) : D → Option (List PD)
  | .p (.str s) => if sz = 1 then some (s.map fun b => .int .u8 b.toNat) else none
  | .p .nils => some []
  | d => match d.elems? with
    | some (sz', es) => if sz' = sz then some es else none
    | none => none

/-- The bytes that become a string. -/
def srcB (d : D) : Option (List PD) :=
  match d with
  | .p .nils => some []
  | d => match d.elems? with
    | some (sz, es) => if sz = 1 then some es else none
    | none => none

def roomy (n bytes : Nat) : Bool := n ≤ 140737488355328 && n * bytes ≤ 140737488355328

def appendD (e sz bytes : Nat) (s : D) (xs : List PD) (H : Hp) : Option (D × Hp) :=
  match s with
  | .p .nils => if roomy xs.length bytes then some (.tsl H.tk.length e sz xs, { H with tk := H.tk ++ [xs.length] }) else none
  | .fsl sz' es => if sz' = sz ∧ roomy (es.length + xs.length) bytes then some (.tsl H.tk.length e sz (es ++ xs), { H with tk := H.tk ++ [es.length + xs.length] }) else none
  | .tsl t e' sz' es => if e' = e ∧ sz' = sz ∧ H.tk[t]? = some es.length ∧ roomy (es.length + xs.length) bytes then
      some (.tsl t e sz (es ++ xs), { H with tk := H.tk.set t (es.length + xs.length) }) else none
  | _ => none

def loadD (G : Nat → Option (List PD)) (H : Hp) (n : Option Nat) (x : D) : Option D :=
  match x with
  | .box i off => match H.bx[i]? with
    | some cs => cutAt cs off n id mkAgg
    | none => none
  | .ro cs off => cutAt cs off n .p fun l => .p (.agg l)
  | .glob g off => match G g with
    | some cs => cutAt cs off n .p fun l => .p (.agg l)
    | none => none
  | _ => none

def storeD (H : Hp) (n : Nat) (a v : D) : Option Hp :=
  match a with
  | .box i off => match H.bx[i]? with
    | some cs => if v.cells.length = n ∧ v.cells.all D.one ∧ off + n ≤ cs.length then some { H with bx := H.bx.set i (splice cs off v.cells) } else none
    | none => none
  | _ => none

def toBytesD (e : Nat) (x : D) (H : Hp) : Option (D × Hp) :=
  match x with
  | .p (.str s) => if s.length ≤ 140737488355328 then some (.tsl H.tk.length e 1 (s.map fun b => .int .u8 b.toNat), { H with tk := H.tk ++ [s.length] }) else none
  | _ => none

def bytesOf : List PD → Option (List UInt8)
  | [] => some []
  | .int .u8 n :: r => (bytesOf r).map (UInt8.ofNat n.toNat :: ·)
  | _ => none

def minmaxD (mx : Bool) (a b : D) : Option D :=
  match a, b with
  | .p (.int k x), .p (.int _ y) => some (.p (.int k (if mx then (if y > x then y else x) else (if y < x then y else x))))
  | _, _ => none

def evK (G : Nat → Option (List PD)) (env : Env) (H : Hp) : SK → Option (D × Hp)
  | .move x => some (x.ev env, H)
  | .pick c a b => match c.ev env with
    | .p (.bool t) => some (if t then a.ev env else b.ev env, H)
    | _ => none
  | .alloc zs => if zs.all PD.one then some (.box H.bx.length 0, { H with bx := H.bx ++ [zs.map .p] }) else none
  | .box x => if (x.ev env).cells.all D.one then some (.box H.bx.length 0, { H with bx := H.bx ++ [(x.ev env).cells] }) else none
  | .build zs parts => if zs.all PD.one then (fillD (zs.map .p) (parts.map fun (o, n, x) => (o, n, x.ev env))).map fun cs => (mkAgg cs, H) else none
  | .bslice sz len z parts => if z.cells.length = sz ∧ z.cells.all PD.one then (fillE sz (List.replicate len z) (parts.map fun (i, x) => (i, x.ev env))).map fun es => (.fsl sz es, H) else none
  | .load n x => (loadD G H n (x.ev env)).map fun d => (d, H)
  | .store n a v => (storeD H n (a.ev env) (v.ev env)).map fun H' => (.undef, H')
  | .nilCheck x => match x.ev env with
    | .box i o => some (.box i o, H)
    | .glob i o => some (.glob i o, H)
    | .ro i o => some (.ro i o, H)
    | .fn f a c => some (.fn f a c, H)
    | _ => none
  | .bin op x y => (binD op (x.ev env) (y.ev env)).map fun d => (d, H)
  | .eqk kd neg x y => (eqD kd (x.ev env) (y.ev env)).map fun r => (.p (.bool (if neg then !r else r)), H)
  | .eqs neg tags x y => match x.ev env, y.ev env with
    | .p (.agg a), .p (.agg b) => (eqvL tags a b).map fun r => (.p (.bool (if neg then !r else r)), H)
    | _, _ => none
  | .un op x => (unD op (x.ev env)).map fun d => (d, H)
  | .mkfn f first cap => some (.fn f (first.map (·.ev env)) (cap.map (·.ev env)), H)
  | .slice sz x lo hi => (sliceD sz (x.ev env) (lo.map (·.ev env)) (hi.map (·.ev env))).map fun d => (d, H)
  | .faddr x off => match x.ev env with
    | .box i o => some (.box i (o + off), H)
    | .glob g o => some (.glob g (o + off), H)
    | .ro cs o => some (.ro cs (o + off), H)
    | _ => none
  | .field x off n => match x.ev env with
    | .p (.agg cs) => (cutAt cs off n .p fun l => .p (.agg l)).map fun d => (d, H)
    | .agg cs => (cutAt cs off n id mkAgg).map fun d => (d, H)
    | _ => none
  | .iaddr len sz x i => match (i.ev env).asInt? with
    | some n => (iaddrD len sz (x.ev env) n).map fun d => (d, H)
    | none => none
  | .index arr x i => match (i.ev env).asInt? with
    | some n => (indexD arr (x.ev env) n).map fun d => (d, H)
    | none => none
  | .extract x i => match x.ev env with
    | .tup ds => (ds[i]?).map fun d => (d, H)
    | _ => none
  | .len kd x => (lenD kd (x.ev env)).map fun (n : Nat) => (.p (.int .i64 (n : Int)), H)
  | .append e sz bytes s x => match srcD sz (x.ev env) with
    | some xs => appendD e sz bytes (s.ev env) xs H
    | none => none
  | .conv k x => match (x.ev env).asInt? with
    | some n => some (.p (.int k (k.wrap n)), H)
    | none => none
  | .strid x => match x.ev env with
    | .p (.str s) => some (.p (.str s), H)
    | _ => none
  | .toBytes e x => toBytesD e (x.ev env) H
  | .toStr x => match srcB (x.ev env) with
    | some xs => (bytesOf xs).map fun s => (.p (.str s), H)
    | none => none
  | .minmax mx x y => (minmaxD mx (x.ev env) (y.ev env)).map fun d => (d, H)
  | .makesl .. => none
  | .iface t x => match (x.ev env).asPD with
    | some y => some (.p (.iface t y), H)
    | none => none
  | .call .. => none

end Go.Vs
