/-
  From the model's operations to the evaluator's, and that each of these does what the model does (no calls, no growing rows yet).
-/
import Derived.Test.YtphnflkjgoobmaaDoorFwE
import Derived.Laws.Slices
import Derived.Laws.Pointers
import Derived.Laws.Concat
namespace Go.Vs

def ofV1 : Value → Option PD
  | .bool b => some (.bool b)
  | .int k n => some (.int k n)
  | .string s => some (.str s.data.toList)
  | .pointer none => some .nilp
  | .slice none 0 0 => some .nils
  | .nilFunc => some .nilf
  | .nilIface => some .nili
  | .map none => some .nilm
  | _ => none

def ofV : Value → Option PD
  | .agg cs => (mapO ofV1 cs.toList).map .agg
  | v => ofV1 v

def opdOf : Operand → Option Opd
  | .tmp t => some (.t t)
  | .const v => (ofV v).map fun x => .c (.p x)
  | .global g => some (.c (.glob g 0))
  | .func f => some (.c (.fn f [] []))

def szOf (P : Program) (t : TypeId) : Option Nat := (P.info? t).map (·.size)

def cellN (P : Program) (t : TypeId) : Option (Option Nat) :=
  match P.underlying t, szOf P t with
  | some (.struct _), some n => some (some n)
  | some (.array _ _), some n => some (some n)
  | some _, some _ => some none
  | _, _ => none

def zeroOf (P : Program) (t : TypeId) : Option PD :=
  match P.info? t with
  | some i => match i.zero with
    | some z => ofV z
    | none => none
  | none => none

def tagOf (P : Program) (t : TypeId) : Option Nat :=
  match P.underlying t with
  | some .bool => some 0
  | some (.int _) => some 1
  | some .string => some 2
  | _ => none

def flatTags (P : Program) (i : Nat) : List Field → Option (List Nat)
  | [] => some []
  | f :: r => match tagOf P f.type with
    | some t => if f.offset = i ∧ (f.name == "_") = false then (flatTags P (i + 1) r).map (t :: ·) else none
    | none => none

def partsOf (P : Program) (place : Nat → Option (Nat × Nat)) : List (Nat × Operand) → Option (List (Nat × Nat × Opd))
  | [] => some []
  | (i, x) :: r => match place i, opdOf x with
    | some (o, n), some y => (partsOf P place r).map ((o, n, y) :: ·)
    | _, _ => none

def partsE : List (Nat × Operand) → Option (List (Nat × Opd))
  | [] => some []
  | (i, x) :: r => match opdOf x with
    | some y => (partsE r).map ((i, y) :: ·)
    | none => none

def optO : Option Operand → Option (Option Opd)
  | none => some none
  | some x => (opdOf x).map some

def fieldPlaces (P : Program) (fields : List Field) : Option (List (Nat × Nat)) := mapO (fun f => (szOf P f.type).map fun n => (f.offset, n)) fields

def appOk (du : TypeDesc) (e : TypeId) (i : TypeInfo) (z : Value) : Bool :=
  (match du with | .slice e' => e' == e | .string => i.size == 1 | _ => false) && z.cells.size == i.size && decide (0 < i.size)

def callOf (P : Program) (c : Call) : Option SK :=
  match c.callee with
  | .value f => match opdOf f, mapO opdOf c.args.toList with
    | some g, some as => some (.call g as)
    | _, _ => none
  | .invoke _ _ => none
  | .builtin b => match b, c.args.toList, c.argTypes.toList with
    | .len, [x], [t] => match P.underlying t, opdOf x with
      | some .string, some y => some (.len 0 y)
      | some (.slice _), some y => some (.len 1 y)
      | _, _ => none
    | .append, [s, x], [t, u] => match P.underlying t, P.underlying u, opdOf s, opdOf x with
      | some (.slice e), some du, some s', some x' => match P.info? e with
        | some i => match i.zero with
          | some z => if appOk du e i z then some (.append e i.size i.bytes s' x') else none
          | none => none
        | none => none
      | _, _, _, _ => none
    | .max, [x, y], _ => match opdOf x, opdOf y with
      | some a, some b => some (.minmax true a b)
      | _, _ => none
    | .min, [x, y], _ => match opdOf x, opdOf y with
      | some a, some b => some (.minmax false a b)
      | _, _ => none
    | _, _, _ => none

def kOf (P : Program) : Op → Option SK
  | .move x => (opdOf x).map .move
  | .assign x => (opdOf x).map .move
  | .pick c a b => match opdOf c, opdOf a, opdOf b with
    | some c, some a, some b => some (.pick c a b)
    | _, _, _ => none
  | .alloc e => (zeroOf P e).map fun z => .alloc z.cells
  | .box _ x => (opdOf x).map .box
  | .build t parts => match P.underlying t, zeroOf P t with
    | some (.struct fs), some (.agg zs) => match fieldPlaces P fs.toList with
      | some pl => (partsOf P (pl[·]?) parts.toList).map (.build zs)
      | none => none
    | some (.array _ e), some (.agg zs) => match szOf P e with
      | some n => (partsOf P (fun i => some (i * n, n)) parts.toList).map (.build zs)
      | none => none
    | _, _ => none
  | .buildSlice t len parts => match P.underlying t with
    | some (.slice e) => match szOf P e, zeroOf P e, partsE parts.toList with
      | some n, some z, some ps => if len * n ≤ 16777216 ∧ 0 < n then some (.bslice n len z ps) else none
      | _, _, _ => none
    | _ => none
  | .load t x => match cellN P t, opdOf x with
    | some n, some y => some (.load n y)
    | _, _ => none
  | .store t a v => match szOf P t, opdOf a, opdOf v with
    | some n, some a, some v => some (.store n a v)
    | _, _, _ => none
  | .nilCheck x => (opdOf x).map .nilCheck
  | .binOp op t x y _ => match opdOf x, opdOf y, P.underlying t with
    | some a, some b, some (.int _) => some (.bin op a b)
    | some a, some b, some .string => some (.bin op a b)
    | some a, some b, some .bool => if op = .eql ∨ op = .neq then some (.eqk 0 (op == .neq) a b) else none
    | some a, some b, some (.pointer _) => if op = .eql ∨ op = .neq then some (.eqk 1 (op == .neq) a b) else none
    | some a, some b, some (.slice _) => if op = .eql ∨ op = .neq then some (.eqk 2 (op == .neq) a b) else none
    | some a, some b, some (.func _ _ _) => if op = .eql ∨ op = .neq then some (.eqk 3 (op == .neq) a b) else none
    | some a, some b, some (.struct fs) =>
      if (op = .eql ∨ op = .neq) ∧ P.stoodInHeld t = false ∧ P.eqGuardType P.depth t = false then (flatTags P 0 fs.toList).map fun ts => .eqs (op == .neq) ts a b else none
    | _, _, _ => none
  | .unOp op _ x => (opdOf x).map (.un op)
  | .convert s d x => match P.underlying s, P.underlying d, opdOf x with
    | some (.int _), some (.int k), some y => some (.conv k y)
    | some .string, some .string, some y => some (.strid y)
    | some .string, some (.slice e), some y => match P.underlying e with
      | some (.int .u8) => some (.toBytes e y)
      | _ => none
    | some (.slice e), some .string, some y => match P.underlying e with
      | some (.int .u8) => some (.toStr y)
      | _ => none
    | _, _, _ => none
  | .makeFunc (.func f) first cap => match mapO opdOf first.toList, mapO opdOf cap.toList with
    | some a, some c => some (.mkfn f a c)
    | _, _ => none
  | .slice t x lo hi none => match P.underlying t, opdOf x, optO lo, optO hi with
    | some .string, some y, some l, some h => some (.slice 0 y l h)
    | some (.slice e), some y, some l, some h => match szOf P e with
      | some (n + 1) => some (.slice (n + 1) y l h)
      | _ => none
    | _, _, _, _ => none
  | .fieldAddr t x f => match P.underlying t, opdOf x with
    | some (.struct fs), some y => match fs[f]? with
      | some fd => match szOf P fd.type with
        | some (_ + 1) => some (.faddr y fd.offset)
        | _ => none
      | none => none
    | _, _ => none
  | .field t x f => match P.underlying t, opdOf x with
    | some (.struct fs), some y => match fs[f]? with
      | some fd => (cellN P fd.type).map fun n => .field y fd.offset n
      | none => none
    | _, _ => none
  | .indexAddr t x i => match P.underlying t, opdOf x, opdOf i with
    | some (.array n e), some y, some j => (szOf P e).map fun s => .iaddr (some n) s y j
    | some (.slice e), some y, some j => (szOf P e).map fun s => .iaddr none s y j
    | _, _, _ => none
  | .index t x i => match P.underlying t, opdOf x, opdOf i with
    | some (.array n e), some y, some j => match szOf P e, cellN P e with
      | some s, some c => some (.index (some (n, s, c.isSome)) y j)
      | _, _ => none
    | some .string, some y, some j => some (.index none y j)
    | _, _, _ => none
  | .extract x i => (opdOf x).map fun y => .extract y i
  | .makeInterface t x => match P.underlying t, opdOf x with
    | some (.interface _), _ => none
    | some _, some y => some (.iface t y)
    | _, _ => none
  | .call c => callOf P c
  | _ => none

def SK.isCall : SK → Bool
  | .call _ _ => true
  | _ => false

def callK : Op → Option (Option SK)
  | .call { callee := .value f, args := as, argTypes := _ } => match opdOf f, mapO opdOf as.toList with
    | some g, some xs => some (some (.call g xs))
    | _, _ => some none
  | _ => none

/-- The evaluator's operation. -/
def kOp (P : Program) (op : Op) : Option SK :=
  match callK op with
  | some r => r
  | none => match kOf P op with
    | some k => if k.isCall then none else some k
    | none => none

end Go.Vs
