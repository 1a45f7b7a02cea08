/-
  A value-level evaluator for Go functions; the functions of this cut by it; plain laws. Part 1 of 5.
-/
import Derived.Calls
import Derived.Tactics
import Derived.Laws.AppendOwn
import Derived.Laws.Slices
import Derived.Laws.Pointers
import Derived.Laws.Concat
import Derived.Laws.Strings
import Derived.Laws.BytesArg
import Derived.Laws.IdiomStrings
namespace Go.Vs
inductive PD where
 |bool (b:Bool)
 |int (k:IntKind) (n:Int)
 |str (s:List UInt8)
 |nilp
 |nils
 |nilf
 |nili
 |nilm
 |slice (sz:Nat) (es:List PD)
 |emp (sz:Nat)
 |agg (cs:List PD)
 |iface (t:Nat) (x:PD)
instance:Inhabited PD:=⟨.nilp⟩
def PD.cells:PD→List PD
 | .agg cs=>cs
 |x=>[x]
def PD.one:PD→Bool
 | .agg _=>false
 |_=>true
inductive D where
 |dead
 |undef
 |p (x:PD)
 |fsl (e sz:Nat) (es:List PD)
 |tsl (t e sz:Nat) (es:List PD)
 |box (i off:Nat)
 |glob (g off:Nat)
 |ro (cs:List PD) (off:Nat)
 |agg (cs:List D)
 |tup (ds:List D)
 |fn (f:Nat) (first cap:List D)
 |msl (i off n:Nat) (cap:Option Nat) (sz:Nat)
 |esl (sz:Nat)
 |ifc (t:Nat) (x:D)
 |dptr (x:D)
 |anyp
 |fresh (T n i:Nat)
 |mapr (i:Nat)
 |mapc (kd:Nat) (ks:List PD) (vs:List D)
instance:Inhabited D:=⟨.dead⟩
def D.cells:D→List D
 | .agg cs=>cs
 | .p (.agg cs)=>cs.map .p
 |d=>[d]
def D.one:D→Bool
 | .dead | .undef | .agg _ | .tup _ | .mapc _ _ _=>false
 | .p x=>x.one
 |_=>true
def isMapC:List D→Bool
 |[.mapc _ _ _]=>true
 |_=>false
def pures:List D→Option (List PD)
 |[]=>some []
 | .p x::r=>(pures r).map (x:: ·)
 |_=>none
def mkAgg(ds:List D):D:=
 match pures ds with
 |some cs=>.p (.agg cs)
 |none=>.agg ds
mutual
def D.asPD:D→Option PD
 | .p x=>some x
 | .fsl _ sz es=>some (match es with |[]=>.emp sz |_::_=>.slice sz es)
 | .tsl _ _ sz es=>some (.slice sz es)
 | .esl sz=>some (.slice sz [])
 | .ifc t d=>d.asPD.map (.iface t)
 | .agg cs=>(D.asPDL cs).map .agg
 |_=>none
def D.asPDL:List D→Option (List PD)
 |[]=>some []
 |d::r=>match d.asPD with
  |some x=>(D.asPDL r).map (x:: ·)
  |none=>none
end
structure Hp where
 bx:List (List D)
 tk:List Nat
abbrev Env:=List (Nat×D)
def Env.get:Env→Nat→D
 |[],_=>.dead
 |(s,d)::e,t=>if s=t then d else Env.get e t
def Env.keep(ks:List Nat)(e:Env):Env:=ks.map fun t=>(t,e.get t)
structure St where
 env:Env
 hp:Hp
inductive Opd where
 |t (i:Nat)
 |c (d:D)
inductive SK where
 |move (x:Opd)
 |pick (c a b:Opd)
 |alloc (zs:List PD)
 |box (x:Opd)
 |build (zs:List PD) (parts:List (Nat×Nat×Opd))
 |bslice (e sz:Nat) (len:Nat) (z:PD) (parts:List (Nat×Opd))
 |load (n:Option Nat) (x:Opd)
 |store (n:Nat) (a v:Opd)
 |nilCheck (x:Opd)
 |bin (op:BinOp) (x y:Opd)
 |eqk (kd:Nat) (neg:Bool) (x y:Opd)
 |eqs (neg:Bool) (tags:List Nat) (x y:Opd)
 |un (op:UnOp) (x:Opd)
 |mkfn (f:Nat) (first cap:List Opd)
 |slice (sz:Nat) (x:Opd) (lo hi:Option Opd)
 |slarr (n sz:Nat) (x:Opd) (lo hi:Option Opd)
 |sdata (x:Opd)
 |ustr (e:Nat) (x n:Opd)
 |copy (sz:Nat) (x y:Opd)
 |allocB (T:Nat) (zs:List PD)
 |boxB (T:Nat) (x:Opd)
 |stuck
 |cap (x:Opd)
 |appendm (e sz bytes:Nat) (s x:Opd)
 |tassert (t:Nat) (z:PD) (ok:Bool) (x:Opd)
 |mkmap (kd:Nat)
 |mapset (kd:Nat) (m k v:Opd)
 |mapins (kd:Nat) (m k v:Opd)
 |mapget (kd:Nat) (z:PD) (ok:Bool) (m k:Opd)
 |faddr (x:Opd) (off:Nat)
 |field (x:Opd) (off:Nat) (n:Option Nat)
 |iaddr (len:Option Nat) (sz:Nat) (x i:Opd)
 |index (arr:Option (Nat×Nat×Bool)) (x i:Opd)
 |extract (x:Opd) (i:Nat)
 |len (kd:Nat) (x:Opd)
 |append (e sz bytes:Nat) (s x:Opd)
 |conv (k:IntKind) (x:Opd)
 |strid (x:Opd)
 |toBytes (e:Nat) (x:Opd)
 |toStr (x:Opd)
 |minmax (mx:Bool) (x y:Opd)
 |makesl (sz:Nat) (z:PD) (bytes:Nat) (n c:Opd)
 |iface (t:Nat) (x:Opd)
 |call (f:Opd) (args:List Opd)
 |panic (x:Opd)
structure SO where
 dst:Option Nat
 k:SK
 g:Option (Nat×Bool)
inductive SC where
 |skip
 |region (keep:List Nat) (ops:List SO)
 |draw (keep:List Nat) (pairs:List (Nat×Nat)) (ops:List SO)
 |seq (a b:SC)
 |cond (c:Opd) (a b:SC)
 |block (id:Nat) (b:SC)
 |loop (keep:List Nat) (b:SC)
 |tok (slot:Nat) (e sz:Nat)
 |tokb (slot off e sz:Nat)
 |stuck
 |scope (b:SC)
 |loc (b:SC)
 |locz (b:SC)
 |exit (id:Nat)
 |ret
inductive Ex where
 |norm
 |exit (id:Nat)
 |ret
inductive SRes where
 |t (i:Nat)
 |cell (i:Nat) (n:Option Nat)
structure Dfr where
 pre:List SC
 keep:List Nat
 ops:List SO
 f:Opd
 as:List Opd
structure FC where
 nt:Nat
 np:Nat
 res:List SRes
 body:SC
 frz:Bool:=false
 dfr:Option Dfr:=none
@[simp] def zI(n:Int):Opd:=.c (.p (.int .i64 n))
@[simp] def zS(l:List UInt8):Opd:=.c (.p (.str l))
@[simp] def zB(b:Bool):Opd:=.c (.p (.bool b))
@[simp] def zo(d:Nat)(k:SK):SO:=⟨some d,k,none⟩
@[simp] def zv(k:SK):SO:=⟨none,k,none⟩
@[simp] def zg(d:Nat)(k:SK)(g:Nat)(b:Bool):SO:=⟨some d,k,some (g,b)⟩
@[simp] def zm(d s:Nat):SO:=⟨some d,.move (.t s),none⟩
@[simp] def zf(d s k:Nat):SO:=⟨some d,.faddr (.t s) k,none⟩
@[simp] def zl(d s:Nat):SO:=⟨some d,.load none (.t s),none⟩
@[simp] def zL(d n s:Nat):SO:=⟨some d,.load (some n) (.t s),none⟩
@[simp] def zs(n a b:Nat):SO:=⟨none,.store n (.t a) (.t b),none⟩
@[simp] def zn(d s:Nat):SO:=⟨some d,.nilCheck (.t s),none⟩
@[simp] def zi(d:Nat)(n:Int):SO:=⟨some d,.move (.c (.p (.int .i64 n))),none⟩
@[simp] def zc(d f:Nat)(l:List Opd):SO:=⟨some d,.call (.c (.fn f [] [])) l,none⟩
@[simp] def zx(d s k:Nat):SO:=⟨some d,.extract (.t s) k,none⟩
@[simp] def ze(d n s:Nat):SO:=⟨some d,.len n (.t s),none⟩
@[simp] def za(d a b:Nat):SO:=⟨some d,.pick (.t a) (.t b) (.c (.p (.bool false))),none⟩
@[simp] def zb(d a b:Nat):SO:=⟨some d,.pick (.t a) (.c (.p (.bool true))) (.t b),none⟩
def FC.plain(fc:FC):Bool:=!fc.frz&&fc.dfr.isNone
def FC.frozen(fc:FC):Bool:=fc.frz&&fc.dfr.isNone
def Opd.ev(env:Env):Opd→D
 | .t i=>env.get i
 | .c d=>d
def intBin(op:BinOp)(k:IntKind)(a b:Int):Option PD:=
 match op with
 | .add=>some (.int k (k.wrap (a+b)))
 | .sub=>some (.int k (k.wrap (a-b)))
 | .mul=>some (.int k (k.wrap (a*b)))
 | .quo=>if b=0 then none else some (.int k (k.wrap (a.tdiv b)))
 | .rem=>if b=0 then none else some (.int k (a.tmod b))
 | .eql=>some (.bool (a==b))
 | .neq=>some (.bool (a !=b))
 | .lss=>some (.bool (decide (a<b)))
 | .leq=>some (.bool (decide (a≤b)))
 | .gtr=>some (.bool (decide (a>b)))
 | .geq=>some (.bool (decide (a≥b)))
 | .and=>some (.int k (k.wrap ((BitVec.ofInt k.bits a&&& BitVec.ofInt k.bits b).toNat)))
 | .or=>some (.int k (k.wrap ((BitVec.ofInt k.bits a|||BitVec.ofInt k.bits b).toNat)))
 | .xor=>some (.int k (k.wrap ((BitVec.ofInt k.bits a ^^^ BitVec.ofInt k.bits b).toNat)))
 | .andNot=>some (.int k (k.wrap ((BitVec.ofInt k.bits a&&& ~~~ BitVec.ofInt k.bits b).toNat)))
 | .shl=>if b<0 then none else some (.int k (k.wrap (a*2 ^ (min b.toNat k.bits))))
 | .shr=>if b<0 then none else some (.int k (a.fdiv (2 ^ (min b.toNat k.bits))))
def strBin(op:BinOp)(a b:List UInt8):Option PD:=
 match op with
 | .add=>if a.length+b.length≤140737488355328 then some (.str (a++b)) else none
 | .eql=>some (.bool (a==b))
 | .neq=>some (.bool (!(a==b)))
 | .lss=>some (.bool (Op.bytesLess a b))
 | .leq=>some (.bool (Op.bytesLess a b||a==b))
 | .gtr=>some (.bool (!(Op.bytesLess a b||a==b)))
 | .geq=>some (.bool (!Op.bytesLess a b))
 |_=>none
def PD.eqv(tag:Nat)(a b:PD):Option Bool:=
 match tag,a,b with
 | 0,.bool a,.bool b=>some (a==b)
 | 1,.int k a,.int k' b=>if k=k' then some (a==b) else none
 | 2,.str a,.str b=>some (a==b)
 |_,_,_=>none
def eqvL:List Nat→List PD→List PD→Option Bool
 |[],[],[]=>some true
 |t::ts,a::x,b::y=>match PD.eqv t a b,eqvL ts x y with
  |some e,some f=>some (e&&f)
  |_,_=>none
 |_,_,_=>none
def D.isNils:D→Option Bool
 | .p .nils=>some true
 | .p (.slice _ (_::_))=>some false
 | .p (.emp _)=>some false
 | .fsl _ _ _=>some false
 | .tsl _ _ _ (_::_)=>some false
 | .msl _ _ _ _ _=>some false
 |_=>none
def eqD(kd:Nat)(a b:D):Option Bool:=
 match kd with
 | 0=>match a,b with
  | .p (.bool x),.p (.bool y)=>some (x==y)
  |_,_=>none
 | 1=>match a,b with
  | .p .nilp,.p .nilp=>some true
  | .box _ _,.p .nilp=>some false
  | .ro _ _,.p .nilp=>some false
  | .glob _ _,.p .nilp=>some false
  |_,_=>none
 | 2=>match b with
  | .p .nils=>a.isNils
  |_=>none
 | 3=>match a,b with
  | .p .nilf,.p .nilf=>some true
  | .fn _ _ _,.p .nilf=>some false
  |_,_=>none
 | 4=>match a,b with
  | .p .nili,.p .nili=>some true
  | .p (.iface _ _),.p .nili=>some false
  | .ifc _ _,.p .nili=>some false
  |_,_=>none
 |_=>none
def binD(op:BinOp)(a b:D):Option D:=
 match a,b with
 | .p (.int k x),.p (.int k' y)=>if op= .shl∨op= .shr∨k=k' then(intBin op k x y).map .p else none
 | .p (.str x),.p (.str y)=>(strBin op x y).map .p
 |_,_=>none
def unD(op:UnOp)(a:D):Option D:=
 match op,a with
 | .not,.p (.bool b)=>some (.p (.bool (!b)))
 | .neg,.p (.int k n)=>some (.p (.int k (k.wrap (0-n))))
 |_,_=>none
def D.asNat?:D→Option Nat
 | .p (.int _ n)=>if 0≤n then some n.toNat else none
 |_=>none
def D.asInt?:D→Option Int
 | .p (.int _ n)=>some n
 |_=>none
def D.elems?:D→Option (Nat×List PD)
 | .p (.slice sz es)=>some (sz,es)
 | .p (.emp sz)=>some (sz,[])
 | .fsl _ sz es=>some (sz,es)
 | .tsl _ _ sz es=>some (sz,es)
 | .esl sz=>some (sz,[])
 |_=>none
def sub{α:Type}(l:List α)(lo hi:Nat):List α:=(l.take hi).drop lo
def cutAt{α:Type}(l:List α)(off:Nat)(n:Option Nat)(one:α→D)(many:List α→D):Option D:=
 match n with
 |none=>(l[off]?).map one
 |some k=>if off+k≤l.length then some (many (sub l off (off+k))) else none
def splice(l:List D)(off:Nat)(cs:List D):List D:=l.take off++cs++l.drop (off+cs.length)
def fillD(cells:List D):List (Nat×Nat×D)→Option (List D)
 |[]=>some cells
 |(off,n,x)::r=>if x.cells.length=n∧off+n≤cells.length∧x.cells.all D.one then fillD (splice cells off x.cells) r else none
def fillE(sz:Nat)(es:List PD):List (Nat×D)→Option (List PD)
 |[]=>some es
 |(i,x)::r=>match x.asPD with
  |some y=>if y.cells.length=sz∧y.cells.all PD.one∧i<es.length then fillE sz (es.set i y) r else none
  |none=>none
def boundsD(n:Nat)(lo hi:Option D):Option (Nat×Nat):=
 match(match lo with |none=>some 0 |some d=>d.asNat?),(match hi with |none=>some n |some d=>d.asNat?) with
 |some l,some h=>if l≤h∧h≤n then some (l,h) else none
 |_,_=>none
def mslice(i off:Nat)(cap:Option Nat)(sz l h:Nat):D:=
 match cap with
 |some c=>if c≤l then .esl sz else .msl i (off+l*sz) (h-l) (some (c-l)) sz
 |none=>if l=h then .p (.slice sz []) else .msl i (off+l*sz) (h-l) none sz
def sliceD(sz:Nat)(x:D)(lo hi:Option D):Option D:=
 match sz with
 | 0=>match x with
  | .p (.str s)=>(boundsD s.length lo hi).map fun b=>.p (.str (sub s b.1 b.2))
  |_=>none
 |_+1=>match x with
  | .p .nils=>(boundsD 0 lo hi).map fun _=>.p .nils
  | .msl i off n cap sz'=>if sz'=sz then(boundsD n lo hi).map fun b=>mslice i off cap sz b.1 b.2 else none
  |x=>match x.elems? with
   |some (sz',es)=>if sz'=sz then(boundsD es.length lo hi).map fun b=>.p (.slice sz (sub es b.1 b.2)) else none
   |none=>none
def iaddrD(len:Option Nat)(sz:Nat)(x:D)(i:Int):Option D:=
 match len with
 |none=>match x with
  | .msl b off n _ sz'=>if sz'=sz∧0≤i∧i<n then some (.box b (off+i.toNat*sz)) else none
  |x=>match x.elems? with
   |some (sz',es)=>if sz'=sz∧0≤i then(es[i.toNat]?).map fun e=>.ro e.cells 0 else none
   |none=>none
 |some n=>if 0≤i∧i<n then
     match x with
     | .box b o=>some (.box b (o+i.toNat*sz))
     | .glob g o=>some (.glob g (o+i.toNat*sz))
     | .ro cs o=>some (.ro cs (o+i.toNat*sz))
     |_=>none
  else none
def u8(b:UInt8):D:=.p (.int .u8 b.toNat)
def indexD(arr:Option (Nat×Nat×Bool))(x:D)(i:Int):Option D:=
 match arr with
 |none=>match x with
  | .p (.str s)=>if 0≤i then(s[i.toNat]?).map u8 else none
  |_=>none
 |some (n,sz,ag)=>if 0≤i∧i<n then
     match x with
     | .p (.agg cs)=>cutAt cs (i.toNat*sz) (if ag then some sz else none) .p fun l=>.p (.agg l)
     | .agg cs=>cutAt cs (i.toNat*sz) (if ag then some sz else none) id mkAgg
     |_=>none
  else none
def lenD(kd:Nat)(x:D):Option Nat:=
 match kd,x with
 | 0,.p (.str s)=>some s.length
 | 1,.p .nils=>some 0
 | 1,.msl _ _ n _ _=>some n
 | 1,x=>x.elems?.map fun e=>e.2.length
 |_,_=>none
def chunks(sz:Nat):Nat→List PD→List PD
 | 0,_=>[]
 |n+1,cs=>(match sz,cs with
  | 1,c::_=>c
  |_,_=>.agg (cs.take sz))::chunks sz n (cs.drop sz)
def mread(H:Hp)(i off n sz:Nat):Option (List PD):=
 match H.bx[i]? with
 |some cs=>if isMapC cs=false∧off+n*sz≤cs.length then(D.asPDL (sub cs off (off+n*sz))).map (chunks sz n) else none
 |none=>none
def capD:D→Option Nat
 | .p .nils=>some 0
 | .esl _=>some 0
 | .fsl _ _ es=>some es.length
 | .msl _ _ _ (some c) _=>some c
 |_=>none
def srcD(sz:Nat):D→Option (List PD)
 | .p (.str s)=>if sz=1 then some (s.map fun b=>.int .u8 b.toNat) else none
 | .p .nils=>some []
 |d=>match d.elems? with
  |some (sz',es)=>if sz'=sz then some es else none
  |none=>none
def srcH(H:Hp)(sz:Nat)(d:D):Option (List PD):=
 match d with
 | .msl i off n _ sz'=>if sz'=sz then mread H i off n sz else none
 |d=>srcD sz d
def srcB(d:D):Option (List PD):=
 match d with
 | .p .nils=>some []
 |d=>match d.elems? with
  |some (sz,es)=>if sz=1 then some es else none
  |none=>none
def srcBH(H:Hp)(d:D):Option (List PD):=
 match d with
 | .msl i off n _ sz=>if sz=1 then mread H i off n 1 else none
 |d=>srcB d
def roomy(n bytes:Nat):Bool:=n≤140737488355328&&n*bytes≤140737488355328
def appendD(e sz bytes:Nat)(s:D)(xs:List PD)(H:Hp):Option (D×Hp):=
 match s with
 | .p .nils=>if roomy xs.length bytes then some (.tsl H.tk.length e sz xs,{H with tk:=H.tk++[xs.length]}) else none
 | .fsl e' sz' es=>if e'=e∧sz'=sz∧roomy (es.length+xs.length) bytes then some (.tsl H.tk.length e sz (es++xs),{H with tk:=H.tk++[es.length+xs.length]}) else none
 | .tsl t e' sz' es=>if e'=e∧sz'=sz∧H.tk[t]? =some es.length∧roomy (es.length+xs.length) bytes then
     some (.tsl t e sz (es++xs),{H with tk:=H.tk.set t (es.length+xs.length)}) else none
 |_=>none
def appendmD(sz bytes:Nat)(s:D)(xs:List PD)(H:Hp):Option (D×Hp):=
 match(match s with | .p .nils=>some [] | .esl sz'=>if sz'=sz then some [] else none | .fsl _ sz' es=>if sz'=sz then some es else none |_=>none) with
 |some es=>if xs.isEmpty then some (s,H) else
  if roomy (es.length+xs.length) bytes then some (.msl H.bx.length 0 (es.length+xs.length) none sz,{H with bx:=H.bx++[((es++xs).flatMap PD.cells).map .p]}) else none
 |none=>none
def makeslD(sz:Nat)(z:PD)(bytes:Nat)(n c:D)(H:Hp):Option (D×Hp):=
 match n.asNat?,c.asNat? with
 |some n,some c=>if n≤c∧roomy c bytes∧z.cells.length=sz∧z.cells.all PD.one then
     some (.msl H.bx.length 0 n (some c) sz,{H with bx:=H.bx++[((List.replicate c z).flatMap PD.cells).map .p]}) else none
 |_,_=>none
def tassertD(t:Nat)(z:PD)(ok:Bool)(x:D):Option D:=
 match x with
 | .p (.iface u y)=>if u=t then some (if ok then .tup [.p y,.p (.bool true)] else .p y) else if ok then some (.tup [.p z,.p (.bool false)]) else none
 | .ifc u y=>if u=t then some (if ok then .tup [y,.p (.bool true)] else y) else if ok then some (.tup [.p z,.p (.bool false)]) else none
 | .p .nili=>if ok then some (.tup [.p z,.p (.bool false)]) else none
 |_=>none
def bytesOf:List PD→Option (List UInt8)
 |[]=>some []
 | .int .u8 n::r=>(bytesOf r).map (UInt8.ofNat n.toNat:: ·)
 |_=>none
def sdataD(H:Hp)(x:D):Option D:=
 match x with
 | .p .nils=>some (.p .nilp)
 | .tsl t e sz es=>if es.isEmpty then(if H.tk[t]? =some 0 then some .anyp else none) else some (.dptr (.tsl t e sz es))
 | .fsl e sz es=>if es.isEmpty then none else some (.dptr (.fsl e sz es))
 |_=>none
def ustrD(H:Hp)(e:Nat)(x n:D):Option (D×Hp):=
 match n with
 | .p (.int .i64 m)=>match x with
  | .p .nilp=>if m=0 then some (.p (.str []),H) else none
  | .anyp=>if m=0 then some (.p (.str []),H) else none
  | .dptr (.tsl t e' sz es)=>if e'=e∧sz=1∧m=(es.length:Int)∧H.tk[t]? =some es.length∧es.length≤140737488355328 then(bytesOf es).map fun s=>(.p (.str s),H) else none
  |_=>none
 |_=>none
def copyD(H:Hp)(sz:Nat)(x y:D):Option (D×Hp):=
 match x,srcH H sz y with
 | .msl i off n _ sz',some xs=>if sz'=sz then
     (match H.bx[i]? with
     |some cs=>if isMapC cs=false∧off+min xs.length n*sz≤cs.length then
         some (.p (.int .i64 (min xs.length n:Nat)),{H with bx:=H.bx.set i (splice cs off (((xs.take n).flatMap PD.cells).map .p))}) else none
     |none=>none) else none
 |_,_=>none
def loadD(G:Nat→Option (List PD))(H:Hp)(n:Option Nat)(x:D):Option D:=
 match x with
 | .box i off=>match H.bx[i]? with
  |some cs=>if isMapC cs then none else cutAt cs off n id mkAgg
  |none=>none
 | .ro cs off=>cutAt cs off n .p fun l=>.p (.agg l)
 | .glob g off=>match G g with
  |some cs=>cutAt cs off n .p fun l=>.p (.agg l)
  |none=>none
 |_=>none
def storeD(H:Hp)(n:Nat)(a v:D):Option Hp:=
 match a with
 | .box i off=>match H.bx[i]? with
  |some cs=>if isMapC cs=false∧v.cells.length=n∧v.cells.all D.one∧off+n≤cs.length∧0<n then some {H with bx:=H.bx.set i (splice cs off v.cells)} else none
  |none=>none
 |_=>none
def toBytesD(_:Nat)(x:D)(H:Hp):Option (D×Hp):=
 match x with
 | .p (.str s)=>if s.length≤140737488355328 then some (.p (.slice 1 (s.map fun b=>.int .u8 b.toNat)),H) else none
 |_=>none
def minmaxD(mx:Bool)(a b:D):Option D:=
 match a,b with
 | .p (.int k x),.p (.int _ y)=>some (.p (.int k (if mx then(if y>x then y else x) else(if y<x then y else x))))
 |_,_=>none
def allocBD(T:Nat)(cs:List D)(H:Hp):Option (D×Hp):=
 match cs with
 | .p .nilp::r=>if r.all D.one then some (.box H.bx.length 0,{H with bx:=H.bx++[.fresh T (r.length+1) H.bx.length::r]}) else none
 |_=>none
def kindI:IntKind→Nat
 | .i8=>10 | .i16=>11 | .i32=>12 | .i64=>13 | .u8=>14 | .u16=>15 | .u32=>16 | .u64=>17
def keyKind:PD→Nat
 | .bool _=>0
 | .int k _=>kindI k
 | .str _=>2
 |_=>1
def keyCode:PD→Nat
 | .bool b=>if b then 1 else 0
 | .int _ n=>n.toNat
 | .str s=>s.foldl (fun a b=>a*257+b.toNat+1) 0
 |_=>0
def keyEq:PD→PD→Bool
 | .bool a,.bool b=>a==b
 | .int _ a,.int _ b=>a==b
 | .str a,.str b=>a==b
 |_,_=>false
def findK(k:PD):List PD→Option Nat
 |[]=>none
 |a::r=>if keyEq k a then some 0 else(findK k r).map (· +1)
def posK(c:Nat):List PD→Nat
 |[]=>0
 |a::r=>if c<keyCode a then 0 else posK c r+1
def insAt{α:Type}:Nat→α→List α→List α
 | 0,x,l=>x::l
 |_+1,x,[]=>[x]
 |n+1,x,a::l=>a::insAt n x l
def mapinsD(kd:Nat)(m k v:D)(H:Hp):Option (D×Hp):=
 match m,k with
 | .mapr i,.p k=>match H.bx[i]? with
  |some [.mapc kd' ks vs]=>if keyKind k=kd∧kd'=kd∧kd≠1∧findK k ks=none∧vs.length=ks.length then some (.undef,{H with bx:=H.bx.set i [.mapc kd (insAt (posK (keyCode k) ks) k ks) (insAt (posK (keyCode k) ks) v vs)]}) else none
  |_=>none
 |_,_=>none
def mapsetD(kd:Nat)(m k v:D)(H:Hp):Option (D×Hp):=
 match m,k with
 | .mapr i,.p k'=>match H.bx[i]? with
  |some [.mapc kd' ks vs]=>if keyKind k'=kd∧kd'=kd∧kd≠1 then(match findK k' ks with
   |some j=>some (.undef,{H with bx:=H.bx.set i [.mapc kd ks (vs.set j v)]})
   |none=>mapinsD kd m k v H) else none
  |_=>none
 |_,_=>none
def mapgetD(kd:Nat)(z:PD)(ok:Bool)(m k:D)(H:Hp):Option D:=
 match m,k with
 | .p .nilm,.p k=>if keyKind k=kd∧kd≠1 then some (if ok then .tup [.p z,.p (.bool false)] else .p z) else none
 | .mapr i,.p k=>match H.bx[i]? with
  |some [.mapc kd' ks vs]=>if keyKind k=kd∧kd'=kd∧kd≠1 then(match findK k ks with
   |some j=>(vs[j]?).map fun v=>if ok then .tup [v,.p (.bool true)] else v
   |none=>some (if ok then .tup [.p z,.p (.bool false)] else .p z)) else none
  |_=>none
 |_,_=>none
def evK(G:Nat→Option (List PD))(env:Env)(H:Hp):SK→Option (D×Hp)
 | .move x=>some (x.ev env,H)
 | .pick c a b=>match c.ev env with
  | .p (.bool t)=>some (if t then a.ev env else b.ev env,H)
  |_=>none
 | .alloc zs=>if zs.all PD.one then some (.box H.bx.length 0,{H with bx:=H.bx++[zs.map .p]}) else none
 | .box x=>if(x.ev env).cells.all D.one then some (.box H.bx.length 0,{H with bx:=H.bx++[(x.ev env).cells]}) else none
 | .build zs parts=>if zs.all PD.one then(fillD (zs.map .p) (parts.map fun(o,n,x)=>(o,n,x.ev env))).map fun cs=>(mkAgg cs,H) else none
 | .bslice e sz len z parts=>if z.cells.length=sz∧z.cells.all PD.one then(fillE sz (List.replicate len z) (parts.map fun(i,x)=>(i,x.ev env))).map fun es=>(.fsl e sz es,H) else none
 | .load n x=>(loadD G H n (x.ev env)).map fun d=>(d,H)
 | .store n a v=>(storeD H n (a.ev env) (v.ev env)).map fun H'=>(.undef,H')
 | .nilCheck x=>match x.ev env with
  | .box i o=>some (.box i o,H)
  | .glob i o=>some (.glob i o,H)
  | .ro i o=>some (.ro i o,H)
  | .fn f a c=>some (.fn f a c,H)
  |_=>none
 | .bin op x y=>(binD op (x.ev env) (y.ev env)).map fun d=>(d,H)
 | .eqk kd neg x y=>(eqD kd (x.ev env) (y.ev env)).map fun r=>(.p (.bool (if neg then !r else r)),H)
 | .eqs neg tags x y=>match x.ev env,y.ev env with
  | .p (.agg a),.p (.agg b)=>(eqvL tags a b).map fun r=>(.p (.bool (if neg then !r else r)),H)
  |_,_=>none
 | .un op x=>(unD op (x.ev env)).map fun d=>(d,H)
 | .mkfn f first cap=>some (.fn f (first.map (·.ev env)) (cap.map (·.ev env)),H)
 | .slice sz x lo hi=>(sliceD sz (x.ev env) (lo.map (·.ev env)) (hi.map (·.ev env))).map fun d=>(d,H)
 | .faddr x off=>match x.ev env with
  | .box i o=>some (.box i (o+off),H)
  | .glob g o=>some (.glob g (o+off),H)
  | .ro cs o=>some (.ro cs (o+off),H)
  |_=>none
 | .field x off n=>match x.ev env with
  | .p (.agg cs)=>(cutAt cs off n .p fun l=>.p (.agg l)).map fun d=>(d,H)
  | .agg cs=>(cutAt cs off n id mkAgg).map fun d=>(d,H)
  |_=>none
 | .iaddr len sz x i=>match(i.ev env).asInt? with
  |some n=>(iaddrD len sz (x.ev env) n).map fun d=>(d,H)
  |none=>none
 | .index arr x i=>match(i.ev env).asInt? with
  |some n=>(indexD arr (x.ev env) n).map fun d=>(d,H)
  |none=>none
 | .extract x i=>match x.ev env with
  | .tup ds=>(ds[i]?).map fun d=>(d,H)
  |_=>none
 | .len kd x=>(lenD kd (x.ev env)).map fun(n:Nat)=>(.p (.int .i64 (n:Int)),H)
 | .append e sz bytes s x=>match srcH H sz (x.ev env) with
  |some xs=>appendD e sz bytes (s.ev env) xs H
  |none=>none
 | .conv k x=>match(x.ev env).asInt? with
  |some n=>some (.p (.int k (k.wrap n)),H)
  |none=>none
 | .strid x=>match x.ev env with
  | .p (.str s)=>some (.p (.str s),H)
  |_=>none
 | .toBytes e x=>toBytesD e (x.ev env) H
 | .toStr x=>match srcBH H (x.ev env) with
  |some xs=>(bytesOf xs).map fun s=>(.p (.str s),H)
  |none=>none
 | .minmax mx x y=>(minmaxD mx (x.ev env) (y.ev env)).map fun d=>(d,H)
 | .makesl sz z bytes n c=>makeslD sz z bytes (n.ev env) (c.ev env) H
 | .iface t x=>match(x.ev env).asPD with
  |some y=>some (.p (.iface t y),H)
  |none=>some (.ifc t (x.ev env),H)
 | .slarr n sz x lo hi=>match x.ev env with
  | .box i o=>(boundsD n (lo.map (·.ev env)) (hi.map (·.ev env))).map fun b=>(mslice i o (some n) sz b.1 b.2,H)
  |_=>none
 | .sdata x=>(sdataD H (x.ev env)).map fun d=>(d,H)
 | .ustr e x n=>ustrD H e (x.ev env) (n.ev env)
 | .copy sz x y=>copyD H sz (x.ev env) (y.ev env)
 | .allocB T zs=>allocBD T (zs.map .p) H
 | .boxB T x=>allocBD T (x.ev env).cells H
 | .stuck=>none
 | .cap x=>(capD (x.ev env)).map fun(n:Nat)=>(.p (.int .i64 (n:Int)),H)
 | .appendm _ sz bytes s x=>match srcH H sz (x.ev env) with
  |some xs=>appendmD sz bytes (s.ev env) xs H
  |none=>none
 | .tassert t z ok x=>(tassertD t z ok (x.ev env)).map fun d=>(d,H)
 | .mkmap kd=>some (.mapr H.bx.length,{H with bx:=H.bx++[[.mapc kd [] []]]})
 | .mapset kd m k v=>mapsetD kd (m.ev env) (k.ev env) (v.ev env) H
 | .mapins kd m k v=>mapinsD kd (m.ev env) (k.ev env) (v.ev env) H
 | .mapget kd z ok m k=>(mapgetD kd z ok (m.ev env) (k.ev env) H).map fun d=>(d,H)
 | .call .. =>none
 | .panic _=>none
inductive Res where
 |val (d:D)
 |pan (d:D)
abbrev CallR:=Nat→List D→Hp→Option (Res×Hp)
def mapO{α β:Type}(f:α→Option β):List α→Option (List β)
 |[]=>some []
 |a::r=>match f a with
  |some b=>(mapO f r).map (b:: ·)
  |none=>none
def idx(l:List Nat)(i:Nat):Option Nat:=match l with
 |[]=>none
 |a::r=>if a=i then some 0 else(idx r i).map (· +1)
mutual
def D.ren(bi ti:Nat→Option Nat):D→Option D
 | .box i o=>(bi i).map fun j=>.box j o
 | .tsl t e sz es=>match ti t with
  |some u=>some (.tsl u e sz es)
  |none=>some (.p (.slice sz es))
 | .agg cs=>(D.renL bi ti cs).map .agg
 | .tup cs=>(D.renL bi ti cs).map .tup
 | .fn f a c=>match D.renL bi ti a,D.renL bi ti c with
  |some a',some c'=>some (.fn f a' c')
  |_,_=>none
 | .msl i off n c sz=>(bi i).map fun j=>.msl j off n c sz
 | .ifc t d=>(d.ren bi ti).map (.ifc t)
 | .dptr d=>(d.ren bi ti).map .dptr
 | .fresh T n i=>(bi i).map (.fresh T n ·)
 | .mapr i=>(bi i).map .mapr
 | .mapc kd ks vs=>(D.renL bi ti vs).map (.mapc kd ks)
 |d=>some d
def D.renL(bi ti:Nat→Option Nat):List D→Option (List D)
 |[]=>some []
 |d::r=>match d.ren bi ti with
  |some x=>(D.renL bi ti r).map (x:: ·)
  |none=>none
end
mutual
def D.refs:D→List Nat
 | .box i _=>[i]
 | .agg cs=>D.refsL cs
 | .tup cs=>D.refsL cs
 | .fn _ a c=>D.refsL a++D.refsL c
 | .msl i _ _ _ _=>[i]
 | .fresh _ _ i=>[i]
 | .mapr i=>[i]
 | .mapc _ _ vs=>D.refsL vs
 | .ifc _ d=>d.refs
 | .dptr d=>d.refs
 |_=>[]
def D.refsL:List D→List Nat
 |[]=>[]
 |d::r=>d.refs++D.refsL r
end
mutual
def D.toks:D→List Nat
 | .tsl t _ _ _=>[t]
 | .agg cs=>D.toksL cs
 | .tup cs=>D.toksL cs
 | .fn _ a c=>D.toksL a++D.toksL c
 | .ifc _ d=>d.toks
 | .dptr d=>d.toks
 | .mapc _ _ vs=>D.toksL vs
 |_=>[]
def D.toksL:List D→List Nat
 |[]=>[]
 |d::r=>d.toks++D.toksL r
end
def ins(l:List Nat):List Nat→List Nat
 |[]=>l
 |x::r=>if l.contains x then ins l r else ins (l++[x]) r
def boxRefs(H:Hp):List Nat→List Nat
 |[]=>[]
 |i::r=>(match H.bx[i]? with |some cs=>D.refsL cs |none=>[])++boxRefs H r
def boxToks(H:Hp):List Nat→List Nat
 |[]=>[]
 |i::r=>(match H.bx[i]? with |some cs=>D.toksL cs |none=>[])++boxToks H r
def reach(H:Hp):Nat→List Nat→List Nat
 | 0,ids=>ids
 |n+1,ids=>match boxRefs H ids with
  |[]=>ids
  |new=>reach H n (ins ids new)
def putAll{α:Type}(l:List α):List Nat→List α→List α
 |i::is,x::xs=>putAll (l.set i x) is xs
 |_,_=>l
def Res.ren(bi ti:Nat→Option Nat):Res→Option Res
 | .val d=>(d.ren bi ti).map .val
 | .pan d=>(d.ren bi ti).map .pan
def firstN{α:Type}(l:List α)(n:Nat):Option (List α):=if n≤l.length then some (l.take n) else none
def back(ids tks:List Nat)(H:Hp)(r:Res)(H':Hp):Option (Res×Hp):=
 match firstN H'.bx ids.length,firstN H'.tk tks.length with
 |some bx,some tk=>
  let ti:=fun t=>tks[t]?
  match r.ren (fun i=>ids[i]?) ti,mapO (D.renL (fun i=>ids[i]?) ti) bx with
  |some r',some bx'=>some (r',⟨putAll H.bx ids bx',putAll H.tk tks tk⟩)
  |_,_=>
   let bi:=fun i=>if i<ids.length then ids[i]? else some (H.bx.length+(i-ids.length))
   match r.ren bi ti,mapO (D.renL bi ti) bx,mapO (D.renL bi ti) (H'.bx.drop ids.length) with
   |some r',some bx',some (n0::nw)=>some (r',⟨putAll H.bx ids bx'++(n0::nw),putAll H.tk tks tk⟩)
   |_,_,_=>none
 |_,_=>none
def nodupB:List Nat→Bool
 |[]=>true
 |a::r=>!(r.contains a)&&nodupB r
def callD(callO:CallR)(f:Nat)(args:List D)(H:Hp):Option (Res×Hp):=
 let ids:=reach H H.bx.length (ins [] (D.refsL args))
 let tks:=ins [] (D.toksL args++boxToks H ids)
 if nodupB ids&&nodupB tks then
  match D.renL (idx ids) (idx tks) args,mapO (fun i=>match H.bx[i]? with |some cs=>D.renL (idx ids) (idx tks) cs |none=>none) ids,mapO (fun t=>H.tk[t]?) tks with
  |some as,some bx,some tk=>match callO f as ⟨bx,tk⟩ with
   |some (r,H')=>back ids tks H r H'
   |none=>none
  |_,_,_=>none
 else none
def callV(callO:CallR)(f:D)(args:List D)(H:Hp):Option (Res×Hp):=
 match f with
 | .fn g first cap=>callD callO g (first++args++cap) H
 |_=>none
def panicD(d:D)(H:Hp):Option (Res×Hp):=
 match d with
 | .p (.iface t y)=>some (.pan (.p (.iface t y)),H)
 | .ifc t y=>some (.pan (.ifc t y),H)
 |_=>none
def evKC(callO:CallR)(G:Nat→Option (List PD))(env:Env)(H:Hp):SK→Option (Res×Hp)
 | .call f args=>callV callO (f.ev env) (args.map (·.ev env)) H
 | .panic x=>panicD (x.ev env) H
 |k=>match evK G env H k with
  |some (d,H')=>some (.val d,H')
  |none=>none
def evGuard(env:Env):Option (Nat×Bool)→Option Bool
 |none=>some true
 |some (t,want)=>match env.get t with
  | .p (.bool b)=>some (b==want)
  | .undef=>some false
  |_=>none
def put(dst:Option Nat)(d:D)(env:Env):Env:=
 match dst with
 |some t=>(t,d)::env
 |none=>env
inductive RO where
 |ok (env:Env) (H:Hp)
 |pan (d:D) (env:Env) (H:Hp)
def evOps(callO:CallR)(G:Nat→Option (List PD)):List SO→Env→Hp→Option RO
 |[],env,H=>some (.ok env H)
 |o::r,env,H=>match evGuard env o.g with
  |some true=>match evKC callO G env H o.k with
   |some (.val d,H')=>evOps callO G r (put o.dst d env) H'
   |some (.pan d,H')=>some (.pan d env H')
   |none=>none
  |some false=>evOps callO G r (put o.dst .undef env) H
  |none=>none
def cls(env:Env):SK→Nat
 | .load _ x=>match x.ev env with
  | .ro _ _ | .glob _ _=>0
  |_=>1
 | .alloc _ | .box _ | .store _ _ _ | .append _ _ _ _ _ | .toBytes _ _ | .appendm _ _ _ _ _ | .makesl _ _ _ _ _ | .allocB _ _ | .boxB _ _ | .mkmap _ | .mapset _ _ _ _ | .mapins _ _ _ _=>2
 | .mapget _ _ _ _ _=>1
 | .toStr x=>match x.ev env with
  | .msl _ _ _ _ _=>1
  |_=>0
 | .copy _ _ _=>2
 | .sdata _ | .ustr _ _ _=>1
 | .panic _=>2
 | .call f args=>if(D.refsL (f.ev env::args.map (·.ev env))).isEmpty&&(D.toksL (f.ev env::args.map (·.ev env))).isEmpty then 0 else 2
 |_=>0
def clsR(n:Nat)(env:Env)(k:SK):Nat×Nat:=
 match k with
 | .load n x=>match x.ev env with
  | .box i _=>(3+2*i,0)
  |_=>(cls env (.load n x),0)
 | .store n a v=>match a.ev env with
  | .box i _=>(4+2*i,0)
  |_=>(cls env (.store n a v),0)
 | .mapget g z ok m k=>match m.ev env with
  | .mapr i=>(3+2*i,0)
  |_=>(cls env (.mapget g z ok m k),0)
 | .mapins kd m k v=>match m.ev env,k.ev env with
  | .mapr i,.p k=>if i<2000000000 then(4+2*i,keyCode k+1) else(2,0)
  |_,_=>(cls env (.mapins kd m k v),0)
 | .alloc _ | .box _ | .mkmap _=>(4+2*n,0)
 | .append _ _ _ _ _=>(4+2*1000000007,0)
 |k=>(cls env k,0)
mutual
def PD.eqb:PD→PD→Bool
 | .bool a,.bool b=>a==b
 | .int k a,.int l b=>decide (k=l)&&a==b
 | .str a,.str b=>a==b
 | .nilp,.nilp=>true
 | .nils,.nils=>true
 | .nilf,.nilf=>true
 | .nili,.nili=>true
 | .nilm,.nilm=>true
 | .slice s a,.slice t b=>s==t&&PD.eqbL a b
 | .emp s,.emp t=>s==t
 | .agg a,.agg b=>PD.eqbL a b
 | .iface s a,.iface t b=>s==t&&PD.eqb a b
 |_,_=>false
def PD.eqbL:List PD→List PD→Bool
 |[],[]=>true
 |a::x,b::y=>PD.eqb a b&&PD.eqbL x y
 |_,_=>false
end
mutual
def D.eqb:D→D→Bool
 | .dead,.dead=>true
 | .undef,.undef=>true
 | .p a,.p b=>PD.eqb a b
 | .fsl e s a,.fsl f t b=>e==f&&s==t&&PD.eqbL a b
 | .tsl u e s a,.tsl v f t b=>u==v&&e==f&&s==t&&PD.eqbL a b
 | .box i o,.box j q=>i==j&&o==q
 | .glob i o,.glob j q=>i==j&&o==q
 | .ro a o,.ro b q=>PD.eqbL a b&&o==q
 | .agg a,.agg b=>D.eqbL a b
 | .tup a,.tup b=>D.eqbL a b
 | .fn f a c,.fn g b d=>f==g&&D.eqbL a b&&D.eqbL c d
 | .msl i o n c s,.msl j q m d t=>i==j&&o==q&&n==m&&decide (c=d)&&s==t
 | .esl s,.esl t=>s==t
 | .ifc s a,.ifc t b=>s==t&&D.eqb a b
 | .dptr a,.dptr b=>D.eqb a b
 | .anyp,.anyp=>true
 | .fresh a b c,.fresh d e f=>a==d&&b==e&&c==f
 | .mapr i,.mapr j=>i==j
 | .mapc k a x,.mapc l b y=>k==l&&PD.eqbL a b&&D.eqbL x y
 |_,_=>false
def D.eqbL:List D→List D→Bool
 |[],[]=>true
 |a::x,b::y=>D.eqb a b&&D.eqbL x y
 |_,_=>false
end
def eqbLL:List (List D)→List (List D)→Bool
 |[],[]=>true
 |a::x,b::y=>D.eqbL a b&&eqbLL x y
 |_,_=>false
def hpEq(H H':Hp):Bool:=eqbLL H.bx H'.bx&&H.tk==H'.tk
mutual
theorem PD.eqb_eq:∀(a b:PD),PD.eqb a b=true→a=b
 |a,b,h=>by
  cases a<;>cases b<;>first |rfl |(simp[PD.eqb] at h;done) |skip
  all_goals simp only[PD.eqb,Bool.and_eq_true,beq_iff_eq,decide_eq_true_eq] at h
  all_goals first
   |(rw[h])
   |(rw[h.1,h.2])
   |(rw[h.1,PD.eqbL_eq _ _ h.2])
   |(rw[PD.eqbL_eq _ _ h])
   |(rw[h.1,PD.eqb_eq _ _ h.2])
theorem PD.eqbL_eq:∀(a b:List PD),PD.eqbL a b=true→a=b
 |[],[],_=>rfl
 |a::x,b::y,h=>by
  simp only[PD.eqbL,Bool.and_eq_true] at h
  rw[PD.eqb_eq a b h.1,PD.eqbL_eq x y h.2]
 |[],_::_,h=>by simp[PD.eqbL] at h
 |_::_,[],h=>by simp[PD.eqbL] at h
end
mutual
theorem D.eqb_eq:∀(a b:D),D.eqb a b=true→a=b
 |a,b,h=>by
  cases a<;>cases b<;>first |rfl |(simp[D.eqb] at h;done) |skip
  all_goals simp only[D.eqb,Bool.and_eq_true,beq_iff_eq,decide_eq_true_eq] at h
  all_goals first
   |(rw[h])
   |(rw[h.1,h.2])
   |(rw[PD.eqb_eq _ _ h])
   |(rw[h.1.1,h.1.2,PD.eqbL_eq _ _ h.2])
   |(rw[h.1.1.1,h.1.1.2,h.1.2,PD.eqbL_eq _ _ h.2])
   |(rw[PD.eqbL_eq _ _ h.1,h.2])
   |(rw[D.eqbL_eq _ _ h])
   |(rw[h.1.1,D.eqbL_eq _ _ h.1.2,D.eqbL_eq _ _ h.2])
   |(rw[h.1.1.1.1,h.1.1.1.2,h.1.1.2,h.1.2,h.2])
   |(rw[h.1,D.eqb_eq _ _ h.2])
   |(rw[D.eqb_eq _ _ h])
   |(rw[h.1.1,h.1.2,h.2])
   |(rw[h.1.1,PD.eqbL_eq _ _ h.1.2,D.eqbL_eq _ _ h.2])
theorem D.eqbL_eq:∀(a b:List D),D.eqbL a b=true→a=b
 |[],[],_=>rfl
 |a::x,b::y,h=>by
  simp only[D.eqbL,Bool.and_eq_true] at h
  rw[D.eqb_eq a b h.1,D.eqbL_eq x y h.2]
 |[],_::_,h=>by simp[D.eqbL] at h
 |_::_,[],h=>by simp[D.eqbL] at h
end
mutual
theorem PD.eqb_self:∀a:PD,PD.eqb a a=true
 | .slice s a=>by simp[PD.eqb,PD.eqbL_self a]
 | .agg a=>by simp[PD.eqb,PD.eqbL_self a]
 | .iface s a=>by simp[PD.eqb,PD.eqb_self a]
 | .bool _ | .int _ _ | .str _ | .nilp | .nils | .nilf | .nili | .nilm | .emp _=>by simp[PD.eqb]
theorem PD.eqbL_self:∀a:List PD,PD.eqbL a a=true
 |[]=>rfl
 |a::x=>by simp[PD.eqbL,PD.eqb_self a,PD.eqbL_self x]
end
mutual
theorem D.eqb_self:∀a:D,D.eqb a a=true
 | .p a=>by simp[D.eqb,PD.eqb_self a]
 | .fsl e s a=>by simp[D.eqb,PD.eqbL_self a]
 | .tsl u e s a=>by simp[D.eqb,PD.eqbL_self a]
 | .ro a o=>by simp[D.eqb,PD.eqbL_self a]
 | .agg a=>by simp[D.eqb,D.eqbL_self a]
 | .tup a=>by simp[D.eqb,D.eqbL_self a]
 | .fn f a c=>by simp[D.eqb,D.eqbL_self a,D.eqbL_self c]
 | .ifc s a=>by simp[D.eqb,D.eqb_self a]
 | .dptr a=>by simp[D.eqb,D.eqb_self a]
 | .mapc k a x=>by simp[D.eqb,PD.eqbL_self a,D.eqbL_self x]
 | .dead | .undef | .box _ _ | .glob _ _ | .msl _ _ _ _ _ | .esl _ | .anyp | .fresh _ _ _ | .mapr _=>by simp[D.eqb]
theorem D.eqbL_self:∀a:List D,D.eqbL a a=true
 |[]=>rfl
 |a::x=>by simp[D.eqbL,D.eqb_self a,D.eqbL_self x]
end
theorem eqbLL_eq:∀(a b:List (List D)),eqbLL a b=true→a=b
 |[],[],_=>rfl
 |a::x,b::y,h=>by
  simp only[eqbLL,Bool.and_eq_true] at h
  rw[D.eqbL_eq a b h.1,eqbLL_eq x y h.2]
 |[],_::_,h=>by simp[eqbLL] at h
 |_::_,[],h=>by simp[eqbLL] at h
theorem eqbLL_self:∀a:List (List D),eqbLL a a=true
 |[]=>rfl
 |a::x=>by simp[eqbLL,D.eqbL_self a,eqbLL_self x]
theorem hpEq_eq{H H':Hp}(h:hpEq H H'=true):H'=H:=by
 obtain⟨a,b⟩:=H
 obtain⟨c,d⟩:=H'
 simp only[hpEq,Bool.and_eq_true,beq_iff_eq] at h
 rw[eqbLL_eq a c h.1,h.2]
@[simp] theorem hpEq_self(H:Hp):hpEq H H=true:=by simp[hpEq,eqbLL_self]
def isCl:SK→Bool
 | .call _ _=>true
 |_=>false
def callIds(env:Env)(H:Hp):SK→List Nat
 | .call f as=>match f.ev env with
  | .fn _ first cap=>reach H H.bx.length (ins [] (D.refsL (first++as.map (·.ev env)++cap)))
  |_=>[]
 |_=>[]
def bnd:List Nat→Nat
 |[]=>0
 |i::r=>max (i+1) (bnd r)
def clsP(env:Env)(H H':Hp)(k:SK):Nat×Nat:=if cls env k=0 then(if H'.bx.length=H.bx.length then(0,0) else if H'.bx.length=H.bx.length+1 then(4+2*H.bx.length,0) else(2,0)) else if isCl k&&hpEq H H' then(1,0) else if isCl k&&decide (H'.bx.length=H.bx.length) then(4+2*(2000000000+bnd (callIds env H k)),0) else clsR H.bx.length env k
def isW(c:Nat):Bool:=c==2||(decide (4≤c)&&c%2==0)
def offB(x i:Nat):Bool:=if i<2000000000 then x !=i else decide (i-2000000000≤x)&&decide (x<2000000000)
def apartRW(a b:Nat):Bool:=decide (3≤a)&&a%2==1&&decide (4≤b)&&b%2==0&&offB ((a-3)/2) ((b-4)/2)
def apartWW(a b:Nat×Nat):Bool:=a.2 !=0&&b.2 !=0&&a.1==b.1&&a.2 !=b.2
def clash(a b:Nat×Nat):Bool:=(a.1 !=0&&b.1 !=0)&&(isW a.1||isW b.1)&& !(apartRW a.1 b.1||apartRW b.1 a.1)&& !apartWW a b
def insOk:List (Nat×Nat)→Bool
 |[]=>true
 |c::r=>(c.2==0|| !r.contains c)&&insOk r
def evDraw(callO:CallR)(G:Nat→Option (List PD)):List SO→Env→Hp→Option (Env×Hp×List (Nat×Nat))
 |[],env,H=>some (env,H,[])
 |o::r,env,H=>match evGuard env o.g with
  |some true=>match evKC callO G env H o.k with
   |some (.val d,H')=>
    match evDraw callO G r (put o.dst d env) H' with
    |some (e,h,cs)=>some (e,h,clsP env H H' o.k::cs)
    |none=>none
   |_=>none
  |some false=>match evDraw callO G r (put o.dst .undef env) H with
   |some (e,h,cs)=>some (e,h,(0,0)::cs)
   |none=>none
  |none=>none
def Opd.slots:Opd→List Nat
 | .t i=>[i]
 | .c _=>[]
def optSlots:Option Opd→List Nat
 |some x=>x.slots
 |none=>[]
def SK.slots:SK→List Nat
 | .move x | .box x | .load _ x | .nilCheck x | .un _ x | .faddr x _ | .field x _ _ | .extract x _ | .len _ x | .conv _ x | .strid x | .toBytes _ x | .toStr x | .iface _ x | .sdata x | .boxB _ x | .cap x | .tassert _ _ _ x | .panic x=>x.slots
 | .pick c a b=>c.slots++a.slots++b.slots
 | .alloc _ | .allocB _ _ | .stuck | .mkmap _=>[]
 | .mapset _ m k v | .mapins _ m k v=>m.slots++k.slots++v.slots
 | .mapget _ _ _ m k=>m.slots++k.slots
 | .build _ ps=>ps.flatMap fun p=>p.2.2.slots
 | .bslice _ _ _ _ ps=>ps.flatMap fun p=>p.2.slots
 | .store _ a v=>a.slots++v.slots
 | .bin _ x y | .eqk _ _ x y | .eqs _ _ x y | .iaddr _ _ x y | .index _ x y | .append _ _ _ x y | .minmax _ x y | .makesl _ _ _ x y | .appendm _ _ _ x y | .ustr _ x y | .copy _ x y=>x.slots++y.slots
 | .mkfn _ f c=>f.flatMap Opd.slots++c.flatMap Opd.slots
 | .slice _ x lo hi | .slarr _ _ x lo hi=>x.slots++optSlots lo++optSlots hi
 | .call f as=>f.slots++as.flatMap Opd.slots
def SK.heapless:SK→Bool
 | .load _ _ | .alloc _ | .box _ | .store _ _ _ | .append _ _ _ _ _ | .toBytes _ _ | .call _ _ | .appendm _ _ _ _ _ | .makesl _ _ _ _ _ | .allocB _ _ | .boxB _ _ | .toStr _ | .copy _ _ _ | .sdata _ | .ustr _ _ _ | .mkmap _ | .mapset _ _ _ _ | .mapins _ _ _ _ | .mapget _ _ _ _ _ | .panic _=>false
 |_=>true
def SO.uses(s:SO):List Nat:=s.k.slots++(match s.g with |some (t,_)=>[t] |none=>[])
def behind(pairs:List (Nat×Nat))(k i:Nat)(dead:List Nat)(o:SO):Bool:=o.uses.any dead.contains||(!o.k.heapless&& !pairs.contains (k,i))
def evRest(callO:CallR)(G:Nat→Option (List PD))(pairs:List (Nat×Nat))(k:Nat):Nat→List Nat→List SO→Env→Hp→Option (List (Nat×Nat))
 |_,_,[],_,_=>some []
 |i,dead,o::r,env,H=>
  if behind pairs k i dead o then(evRest callO G pairs k (i+1) (o.dst.toList++dead) r (put o.dst .undef env) H).map ((0,0):: ·)
  else match evGuard env o.g with
  |some true=>match evKC callO G env H o.k with
   |some (.val d,H')=>if isW (clsP env H H' o.k).1 then none else(evRest callO G pairs k (i+1) dead r (put o.dst d env) H').map (clsP env H H' o.k:: ·)
   |_=>none
  |some false=>(evRest callO G pairs k (i+1) dead r (put o.dst .undef env) H).map ((0,0):: ·)
  |none=>none
def evDrawP(callO:CallR)(G:Nat→Option (List PD))(pairs:List (Nat×Nat)):Nat→List SO→Env→Hp→Option (D×Hp×List (Nat×Nat)×Nat)
 |_,[],_,_=>none
 |i,o::r,env,H=>match evGuard env o.g with
  |some true=>match evKC callO G env H o.k with
   |some (.val d,H')=>(evDrawP callO G pairs (i+1) r (put o.dst d env) H').map fun x=>(x.1,x.2.1,clsP env H H' o.k::x.2.2.1,x.2.2.2)
   |some (.pan d,H')=>(evRest callO G pairs i (i+1) o.dst.toList r (put o.dst .undef env) H).map fun cs=>(d,H',(0,0)::cs,i)
   |none=>none
  |some false=>(evDrawP callO G pairs (i+1) r (put o.dst .undef env) H).map fun x=>(x.1,x.2.1,(0,0)::x.2.2.1,x.2.2.2)
  |none=>none
def pairsOk(pairs:List (Nat×Nat))(cs:List (Nat×Nat)):Bool:=pairs.all (fun p=>!clash (cs.getD p.1 (0,0)) (cs.getD p.2 (0,0)))&&insOk cs
def panOk(pairs:List (Nat×Nat))(cs:List (Nat×Nat))(k:Nat):Bool:=pairs.all fun p=>p.2 !=k|| !isW (cs.getD p.1 (0,0)).1
def unwritten(ops:List SO)(env:Env):Env:=env.filter fun y=>!ops.any fun o=>o.dst==some y.1
inductive Out where
 |norm
 |exit (id:Nat)
 |ret
 |pan (d:D)
def tokD(e sz:Nat)(d:D)(H:Hp):Option (D×Hp):=
 match d with
 | .p .nils=>some (.tsl H.tk.length e sz [],{H with tk:=H.tk++[0]})
 | .fsl e' sz' es=>if e'=e∧sz'=sz∧es.length≤140737488355328 then some (.tsl H.tk.length e sz es,{H with tk:=H.tk++[es.length]}) else none
 | .tsl t e' sz' es=>if e'=e∧sz'=sz then some (.tsl t e sz es,H) else none
 |_=>none
def tokbD(slot off e sz:Nat)(s:St):Option St:=
 match s.env.get slot with
 | .box i o=>match s.hp.bx[i]? with
  |some cs=>if isMapC cs then some s else match cs[o+off]? with
   |some d=>match tokD e sz d s.hp with
    |some (d',H)=>some ⟨s.env,{H with bx:=H.bx.set i (cs.set (o+off) d')}⟩
    |none=>some s
   |none=>none
  |none=>none
 |_=>some s
def iter(body:St→Option (Out×St)):Nat→St→Option (Out×St)
 | 0,_=>none
 |m+1,s=>match body s with
  |some (.norm,s')=>iter body m s'
  |r=>r
def Out.ren(bi ti:Nat→Option Nat):Out→Option Out
 | .pan d=>(d.ren bi ti).map .pan
 |o=>some o
def below(n i:Nat):Option Nat:=if i<n then some i else none
def locD(nb nt:Nat)(x:Out×St):Out×St:=
 if nb≤x.2.hp.bx.length∧nt≤x.2.hp.tk.length then
  match mapO (D.renL (below nb) (below nt)) (x.2.hp.bx.take nb),x.1.ren (below nb) (below nt) with
  |some bx,some o=>(o,⟨x.2.env.map fun y=>(y.1,(y.2.ren (below nb) (below nt)).getD .dead),⟨bx,x.2.hp.tk.take nt⟩⟩)
  |_,_=>x
 else x
def D.frz(k:Nat)(H:Hp):Nat→D→D
 | 0,d=>d
 |f+1,d=>match d with
  | .msl i off n c sz=>if k≤i then(match H.bx[i]? with
   |some cs=>if isMapC cs=false∧off+n*sz≤cs.length∧0<sz then(match D.asPDL ((sub cs off (off+n*sz)).map (D.frz k H f)) with
    |some ps=>.p (.slice sz (chunks sz n ps))
    |none=>.msl i off n c sz) else .msl i off n c sz
   |none=>.msl i off n c sz) else .msl i off n c sz
  | .box i off=>if k≤i then(match H.bx[i]? with
   |some cs=>if isMapC cs then .box i off else(match D.asPDL (cs.map (D.frz k H f)) with |some ps=>.ro ps off |none=>.box i off)
   |none=>.box i off) else .box i off
  | .agg cs=>mkAgg (cs.map (D.frz k H f))
  | .tup cs=>.tup (cs.map (D.frz k H f))
  | .ifc t d=>match D.frz k H f d with
   | .p y=>.p (.iface t y)
   |d'=>.ifc t d'
  | .fsl _ sz es=>.p (match es with |[]=>.emp sz |_::_=>.slice sz es)
  |d=>d
def Res.frz(k:Nat)(H:Hp):Res→Res
 | .val d=>.val (d.frz k H 8)
 | .pan d=>.pan (d.frz k H 8)
def Out.frz(k:Nat)(H:Hp):Out→Out
 | .pan d=>.pan (d.frz k H 8)
 |o=>o
def sealS(nb:Nat)(x:Out×St):Out×St:=
 match mapO (fun cs=>D.renL (below nb) some (cs.map (D.frz nb x.2.hp 8))) (x.2.hp.bx.take nb),(x.1.frz nb x.2.hp).ren (below nb) some with
 |some bx,some o=>if nb≤x.2.hp.bx.length then(o,⟨x.2.env.map fun y=>(y.1,((y.2.frz nb x.2.hp 8).ren (below nb) some).getD .dead),⟨bx,x.2.hp.tk⟩⟩) else x
 |_,_=>x
abbrev It:=(St→Option (Out×St))→St→Option (Out×St)
def evS(callO:CallR)(G:Nat→Option (List PD))(it:It):SC→St→Option (Out×St)
 | .skip,s=>some (.norm,s)
 | .region keep ops,s=>match evOps callO G ops s.env s.hp with
  |some (.ok env H)=>some (.norm,⟨env.keep keep,H⟩)
  |some (.pan d env H)=>some (.pan d,⟨env,H⟩)
  |none=>none
 | .draw keep pairs ops,s=>match evDraw callO G ops s.env s.hp with
  |some (env,H,cs)=>if pairs.all (fun p=>!clash (cs.getD p.1 (0,0)) (cs.getD p.2 (0,0)))&&insOk cs then some (.norm,⟨env.keep keep,H⟩) else none
  |none=>match evDrawP callO G pairs 0 ops s.env s.hp with
   |some (d,H,cs,k)=>if pairsOk pairs cs&&panOk pairs cs k then some (.pan d,⟨unwritten ops s.env,H⟩) else none
   |none=>none
 | .seq a b,s=>match evS callO G it a s with
  |some (.norm,s')=>evS callO G it b s'
  |r=>r
 | .cond c a b,s=>match c.ev s.env with
  | .p (.bool t)=>if t then evS callO G it a s else evS callO G it b s
  |_=>none
 | .block id b,s=>match evS callO G it b s with
  |some (.exit i,s')=>if i=id then some (.norm,s') else some (.exit i,s')
  |r=>r
 | .loop keep b,s=>it (fun s=>evS callO G it b ⟨s.env.keep keep,s.hp⟩) s
 | .tok slot e sz,s=>match tokD e sz (s.env.get slot) s.hp with
  |some (d,H)=>some (.norm,⟨(slot,d)::s.env,H⟩)
  |none=>none
 | .tokb slot off e sz,s=>(tokbD slot off e sz s).map fun s'=>(.norm,s')
 | .stuck,_=>none
 | .scope b,s=>evS callO G it b s
 | .loc b,s=>(evS callO G it b s).map (locD s.hp.bx.length s.hp.tk.length)
 | .locz b,s=>(evS callO G it b s).map fun x=>locD s.hp.bx.length s.hp.tk.length (sealS s.hp.bx.length x)
 | .exit id,s=>some (.exit id,s)
 | .ret,s=>some (.ret,s)
structure Pg where
 F:Nat→Option FC
 G:Nat→Option (List PD)
 lib:CallR
 D:Nat→Option (Nat×FC):=fun _=>none
def entry:Nat→List D→Env
 |_,[]=>[]
 |i,a::r=>(i,a)::entry (i+1) r
def evRes1(G:Nat→Option (List PD))(env:Env)(H:Hp):SRes→Option D
 | .t i=>some (env.get i)
 | .cell i n=>loadD G H n (env.get i)
def evRes(G:Nat→Option (List PD))(env:Env)(H:Hp):List SRes→Option D
 |[]=>some .undef
 |[r]=>evRes1 G env H r
 |rs=>(mapO (evRes1 G env H) rs).map .tup
def finish(G:Nat→Option (List PD))(res:List SRes):Option (Out×St)→Option (Res×Hp)
 |some (.norm,s) |some (.ret,s)=>match evRes G s.env s.hp res with
  |some d=>some (.val d,s.hp)
  |none=>none
 |some (.pan d,s)=>some (.pan d,s.hp)
 |_=>none
def sealF(nb:Nat)(x:Res×Hp):Res×Hp:=
 match mapO (fun cs=>D.renL (below nb) some (cs.map (D.frz nb x.2 8))) (x.2.bx.take nb),(x.1.frz nb x.2).ren (below nb) some with
 |some bx,some r=>if nb≤x.2.bx.length then(r,⟨bx,x.2.tk⟩) else x
 |_,_=>x
def closeF(frz:Bool)(nb:Nat)(x:Option (Res×Hp)):Option (Res×Hp):=if frz then x.map (sealF nb) else x
def evSeqL(callO:CallR)(G:Nat→Option (List PD))(it:It):List SC→St→Option (Out×St)
 |[],s=>some (.norm,s)
 |a::r,s=>match evS callO G it a s with
  |some (.norm,s')=>evSeqL callO G it r s'
  |x=>x
def evDef(callO:CallR)(T:Nat→Option (Nat×FC))(G:Nat→Option (List PD))(it:It):CallR:=fun f args H=>
 match T f,args with
 |some (dst,fc),rv::as=>if as.length=fc.np∧fc.plain=true then(match finish G fc.res (evS callO G it fc.body ⟨(dst,rv)::entry 0 as,H⟩) with
  |some (.val d,H')=>some (.val d,H')
  |_=>none) else none
 |_,_=>none
def endDfr(callO:CallR)(T:Nat→Option (Nat×FC))(G:Nat→Option (List PD))(it:It)(res:List SRes)(fv:D)(as:List D)(rv:D)(s:St):Option (Res×Hp):=
 match fv with
 | .fn g first cap=>match callD (evDef callO T G it) g (rv::(first++as++cap)) s.hp with
  |some (.val _,H)=>finish G res (some (.ret,⟨s.env,H⟩))
  |_=>none
 |_=>none
def runF(callO:CallR)(T:Nat→Option (Nat×FC))(G:Nat→Option (List PD))(it:It)(fc:FC)(s:St):Option (Res×Hp):=
 match fc.dfr with
 |none=>finish G fc.res (evS callO G it fc.body s)
 |some x=>match evSeqL callO G it x.pre s with
  |some (.norm,s1)=>match evOps callO G x.ops s1.env s1.hp with
   |some (.ok env H)=>match evS callO G it fc.body ⟨env.keep x.keep,H⟩ with
    |some (.norm,s2) |some (.ret,s2)=>endDfr callO T G it fc.res (x.f.ev env) (x.as.map (·.ev env)) (.p .nili) s2
    |some (.pan d,s2)=>endDfr callO T G it fc.res (x.f.ev env) (x.as.map (·.ev env)) d s2
    |_=>none
   |some (.pan d _ H)=>some (.pan d,H)
   |none=>none
  |r=>finish G fc.res r
def evF(p:Pg):Nat→CallR
 | 0=>fun _ _ _=>none
 |n+1=>fun f args H=>match p.lib f args H with
  |some r=>some r
  |none=>match p.F f with
   |some fc=>if args.length=fc.np then closeF fc.frz H.bx.length (runF (evF p n) p.D p.G (fun b s=>iter b n s) fc ⟨entry 0 args,H⟩) else none
   |none=>none
def CallR.le(c c':CallR):Prop:=∀f a H r,c f a H=some r→c' f a H=some r
section
variable {c c' : CallR} (h : CallR.le c c')
include h
theorem callD_mono{f:Nat}{a:List D}{H:Hp}{r:Res×Hp}(e:callD c f a H=some r):callD c' f a H=some r:=by
 unfold callD at e⊢
 dsimp only at e⊢
 split at e
 ·rename_i hn
  (try rw[if_pos hn])
  split at e
  ·rename_i as bx tk h1 h2 h3
   try rw[h1,h2,h3]
   try dsimp only
   split at e
   ·rename_i r' H' hc
    rw[h _ _ _ _ hc]
    exact e
   ·cases e
  ·cases e
 ·cases e
theorem callV_mono{f:D}{a:List D}{H:Hp}{r:Res×Hp}(e:callV c f a H=some r):callV c' f a H=some r:=by
 unfold callV at e⊢
 split at e
 ·exact callD_mono h e
 ·cases e
theorem evKC_mono{G:Nat→Option (List PD)}{env:Env}{H:Hp}{k:SK}{r:Res×Hp}(e:evKC c G env H k=some r):evKC c' G env H k=some r:=by
 unfold evKC at e⊢
 split at e
 ·exact callV_mono h e
 ·exact e
 ·exact e
theorem evOps_mono{G:Nat→Option (List PD)}:∀(ops:List SO) (env:Env) (H:Hp) (r:RO),evOps c G ops env H=some r→evOps c' G ops env H=some r
 |[],env,H,r,e=>e
 |o::ops,env,H,r,e=>by
  unfold evOps at e⊢
  split at e
  ·rename_i hg
   try rw[hg]
   try dsimp only
   split at e
   ·rename_i hk
    rw[evKC_mono h hk]
    exact evOps_mono ops _ _ _ e
   ·rename_i hk
    rw[evKC_mono h hk]
    exact e
   ·cases e
  ·rename_i hg
   try rw[hg]
   exact evOps_mono ops _ _ _ e
  ·cases e
theorem evDraw_mono{G:Nat→Option (List PD)}:∀(ops:List SO) (env:Env) (H:Hp) (r:Env×Hp×List (Nat×Nat)),evDraw c G ops env H=some r→evDraw c' G ops env H=some r
 |[],env,H,r,e=>e
 |o::ops,env,H,r,e=>by
  unfold evDraw at e⊢
  split at e
  ·rename_i hg
   try rw[hg]
   try dsimp only
   split at e
   ·rename_i hk
    rw[evKC_mono h hk]
    try dsimp only
    split at e
    ·rename_i hr
     rw[evDraw_mono ops _ _ _ hr]
     exact e
    ·cases e
   ·cases e
  ·rename_i hg
   try rw[hg]
   try dsimp only
   split at e
   ·rename_i hr
    rw[evDraw_mono ops _ _ _ hr]
    exact e
   ·cases e
  ·cases e
theorem evRest_mono{G:Nat→Option (List PD)}{pairs:List (Nat×Nat)}{k:Nat}:∀(ops:List SO) (i:Nat) (dead:List Nat) (env:Env) (H:Hp) (r:List (Nat×Nat)),evRest c G pairs k i dead ops env H=some r→evRest c' G pairs k i dead ops env H=some r
 |[],i,dead,env,H,r,e=>e
 |o::ops,i,dead,env,H,r,e=>by
  simp only[evRest] at e⊢
  split at e
  ·rename_i hb
   rw[if_pos hb]
   obtain⟨x,hx,rfl⟩:=Option.map_eq_some_iff.1 e
   rw[evRest_mono ops _ _ _ _ _ hx];rfl
  ·rename_i hb
   rw[if_neg hb]
   split at e
   ·rename_i hg
    split at e
    ·rename_i d H' hk
     rw[evKC_mono h hk]
     dsimp only
     split at e
     ·cases e
     ·rename_i hw
      rw[if_neg hw]
      obtain⟨x,hx,rfl⟩:=Option.map_eq_some_iff.1 e
      rw[evRest_mono ops _ _ _ _ _ hx];rfl
    ·cases e
   ·rename_i hg
    obtain⟨x,hx,rfl⟩:=Option.map_eq_some_iff.1 e
    rw[evRest_mono ops _ _ _ _ _ hx];rfl
   ·cases e
theorem evDrawP_mono{G:Nat→Option (List PD)}{pairs:List (Nat×Nat)}:∀(ops:List SO) (i:Nat) (env:Env) (H:Hp) (r:D×Hp×List (Nat×Nat)×Nat),evDrawP c G pairs i ops env H=some r→evDrawP c' G pairs i ops env H=some r
 |[],i,env,H,r,e=>e
 |o::ops,i,env,H,r,e=>by
  simp only[evDrawP] at e⊢
  split at e
  ·rename_i hg
   split at e
   ·rename_i d H' hk
    rw[evKC_mono h hk]
    dsimp only
    obtain⟨x,hx,rfl⟩:=Option.map_eq_some_iff.1 e
    rw[evDrawP_mono ops _ _ _ _ hx];rfl
   ·rename_i d H' hk
    rw[evKC_mono h hk]
    dsimp only
    obtain⟨x,hx,rfl⟩:=Option.map_eq_some_iff.1 e
    rw[evRest_mono h ops _ _ _ _ _ hx];rfl
   ·cases e
  ·rename_i hg
   obtain⟨x,hx,rfl⟩:=Option.map_eq_some_iff.1 e
   rw[evDrawP_mono ops _ _ _ _ hx];rfl
  ·cases e
end
theorem evDrawP_none{c:CallR}{G:Nat→Option (List PD)}{pairs:List (Nat×Nat)}:∀(ops:List SO) (i:Nat) (env:Env) (H:Hp) (r:D×Hp×List (Nat×Nat)×Nat),evDrawP c G pairs i ops env H=some r→evDraw c G ops env H=none
 |[],i,env,H,r,e=>by cases e
 |o::ops,i,env,H,r,e=>by
  simp only[evDrawP] at e
  simp only[evDraw]
  split at e
  ·rename_i hg
   split at e
   ·rename_i d H' hk
    rw[hk]
    obtain⟨x,hx,rfl⟩:=Option.map_eq_some_iff.1 e
    dsimp only
    rw[evDrawP_none ops _ _ _ _ hx]
   ·rename_i d H' hk
    rw[hk]
   ·cases e
  ·rename_i hg
   obtain⟨x,hx,rfl⟩:=Option.map_eq_some_iff.1 e
   rw[evDrawP_none ops _ _ _ _ hx]
  ·cases e
def It.le(i i':It):Prop:=∀b b',(∀s r,b s=some r→b' s=some r)→∀s r,i b s=some r→i' b' s=some r
theorem iter_le{m m':Nat}(hm:m≤m'):It.le (fun b s=>iter b m s) (fun b s=>iter b m' s):=by
 intro b b' hb
 induction m generalizing m' with
 |zero=>intro s r e;cases e
 |succ m ih=>
  intro s r e
  obtain⟨k,rfl⟩:∃k,m'=k+1:=⟨m'-1,by omega⟩
  simp only[iter] at e⊢
  split at e
  ·rename_i s' hs
   rw[hb _ _ hs]
   exact ih (by omega) _ _ e
  ·rename_i hs
   cases hbs:b s with
   |none=>rw[hbs] at e;cases e
   |some x=>
    rw[hb _ _ hbs]
    rw[hbs] at e
    obtain⟨o,s'⟩:=x
    cases o with
    |norm=>exact(hs _ hbs).elim
    |exit i=>exact e
    |ret=>exact e
    |pan d=>exact e
theorem evS_mono{c c':CallR}(h:CallR.le c c'){i i':It}(hi:It.le i i'){G:Nat→Option (List PD)}:
    ∀(sc:SC) (s:St) (r:Out×St),evS c G i sc s=some r→evS c' G i' sc s=some r
 | .skip,s,r,e=>e
 | .exit _,s,r,e=>e
 | .ret,s,r,e=>e
 | .tok ..,s,r,e=>e
 | .tokb ..,s,r,e=>e
 | .stuck,s,r,e=>e
 | .scope b,s,r,e=>evS_mono h hi b s r e
 | .loc b,s,r,e=>by
  unfold evS at e⊢
  obtain⟨x,hx,rfl⟩:=Option.map_eq_some_iff.1 e
  rw[evS_mono h hi b s x hx];rfl
 | .locz b,s,r,e=>by
  unfold evS at e⊢
  obtain⟨x,hx,rfl⟩:=Option.map_eq_some_iff.1 e
  rw[evS_mono h hi b s x hx];rfl
 | .region keep ops,s,r,e=>by
  unfold evS at e⊢
  split at e
  ·rename_i he;rw[evOps_mono h _ _ _ _ he];exact e
  ·rename_i he;rw[evOps_mono h _ _ _ _ he];exact e
  ·cases e
 | .draw keep pairs ops,s,r,e=>by
  simp only[evS] at e⊢
  split at e
  ·rename_i he;rw[evDraw_mono h _ _ _ _ he];exact e
  ·rename_i he
   split at e
   ·rename_i hp
    have hp':=evDrawP_mono h _ _ _ _ _ hp
    rw[evDrawP_none _ _ _ _ _ hp',hp'];exact e
   ·cases e
 | .seq a b,s,r,e=>by
  unfold evS at e⊢
  split at e
  ·rename_i he;rw[evS_mono h hi a _ _ he];exact evS_mono h hi b _ _ e
  ·rename_i hn
   rw[evS_mono h hi a _ _ e]
   obtain⟨o,s'⟩:=r
   cases o with
   |norm=>exact(hn _ e).elim
   |_=>rfl
 | .cond cc a b,s,r,e=>by
  unfold evS at e⊢
  split at e
  ·rename_i t ht
   try rw[ht]
   try dsimp only
   cases t with
   |true=>exact evS_mono h hi a _ _ e
   |false=>exact evS_mono h hi b _ _ e
  ·cases e
 | .block id b,s,r,e=>by
  unfold evS at e⊢
  split at e
  ·rename_i he;rw[evS_mono h hi b _ _ he];exact e
  ·rename_i hn
   rw[evS_mono h hi b _ _ e]
   obtain⟨o,s'⟩:=r
   cases o with
   |exit i=>exact(hn _ _ e).elim
   |_=>rfl
 | .loop keep b,s,r,e=>by
  unfold evS at e⊢
  exact hi _ _ (fun s r e=>evS_mono h hi b _ _ e) _ _ e
section
variable {c c' : CallR} (h : CallR.le c c') {i i' : It} (hi : It.le i i') {G : Nat → Option (List PD)} {T : Nat → Option (Nat × FC)}
include h hi
theorem evSeqL_mono:∀(l:List SC) (s:St) (r:Out×St),evSeqL c G i l s=some r→evSeqL c' G i' l s=some r
 |[],s,r,e=>e
 |a::l,s,r,e=>by
  simp only[evSeqL] at e⊢
  split at e
  ·rename_i he;rw[evS_mono h hi a _ _ he];exact evSeqL_mono l _ _ e
  ·rename_i hn
   rw[evS_mono h hi a _ _ e]
   obtain⟨o,s'⟩:=r
   cases o with
   |norm=>exact(hn _ e).elim
   |_=>rfl
theorem finish_mono{res:List SRes}{b:SC}{s:St}{r:Res×Hp}(e:finish G res (evS c G i b s)=some r):finish G res (evS c' G i' b s)=some r:=by
 cases he:evS c G i b s with
 |none=>rw[he] at e;cases e
 |some x=>rw[evS_mono h hi _ _ _ he,←he];exact e
theorem evDef_mono:CallR.le (evDef c T G i) (evDef c' T G i'):=by
 intro f a H r e
 unfold evDef at e⊢
 split at e
 ·split at e
  ·rename_i hl
   rw[if_pos hl]
   split at e
   ·rename_i hf
    rw[finish_mono h hi hf];exact e
   ·cases e
  ·cases e
 ·cases e
theorem endDfr_mono{res:List SRes}{fv:D}{as:List D}{rv:D}{s:St}{r:Res×Hp}(e:endDfr c T G i res fv as rv s=some r):endDfr c' T G i' res fv as rv s=some r:=by
 unfold endDfr at e⊢
 split at e
 ·split at e
  ·rename_i hc
   try dsimp only
   rw[callD_mono (evDef_mono h hi) hc];exact e
  ·cases e
 ·cases e
theorem runF_mono{fc:FC}{s:St}{r:Res×Hp}(e:runF c T G i fc s=some r):runF c' T G i' fc s=some r:=by
 unfold runF at e⊢
 split at e
 ·exact finish_mono h hi e
 ·rename_i x hx
  split at e
  ·rename_i hs
   try dsimp only
   rw[evSeqL_mono h hi _ _ _ hs]
   try dsimp only
   split at e
   ·rename_i ho
    rw[evOps_mono h _ _ _ _ ho]
    try dsimp only
    split at e
    ·rename_i hb;rw[evS_mono h hi _ _ _ hb];exact endDfr_mono h hi e
    ·rename_i hb;rw[evS_mono h hi _ _ _ hb];exact endDfr_mono h hi e
    ·rename_i hb;rw[evS_mono h hi _ _ _ hb];exact endDfr_mono h hi e
    ·cases e
   ·rename_i ho
    rw[evOps_mono h _ _ _ _ ho];exact e
   ·cases e
  ·rename_i hn
   try dsimp only
   cases hs:evSeqL c G i x.pre s with
   |none=>rw[hs] at e;cases e
   |some y=>
    rw[evSeqL_mono h hi _ _ _ hs]
    rw[hs] at e
    obtain⟨o,s'⟩:=y
    cases o with
    |norm=>exact(hn _ hs).elim
    |_=>exact e
end
theorem evF_succ(p:Pg):∀n,CallR.le (evF p n) (evF p (n+1))
 | 0=>fun _ _ _ _ e=>by cases e
 |n+1=>fun f a H r e=>by
  have ih:=evF_succ p n
  unfold evF at e⊢
  try dsimp only at e⊢
  split at e
  ·rename_i hl;(try rw[hl]);exact e
  ·rename_i hl
   try rw[hl]
   try dsimp only
   split at e
   ·rename_i fc hf
    try rw[hf]
    try dsimp only
    split at e
    ·rename_i hlen
     (try rw[if_pos hlen])
     cases he:runF (evF p n) p.D p.G (fun b s=>iter b n s) fc ⟨entry 0 a,H⟩ with
     |none=>rw[he] at e;unfold closeF at e;split at e<;>cases e
     |some x=>rw[runF_mono ih (iter_le (Nat.le_succ n)) he,←he];exact e
    ·cases e
   ·cases e
theorem evF_le(p:Pg){n m:Nat}(h:n≤m):CallR.le (evF p n) (evF p m):=by
 induction h with
 |refl=>exact fun _ _ _ _ e=>e
 |step _ ih=>exact fun f a H r e=>evF_succ p _ _ _ _ _ (ih f a H r e)
open Classical in
noncomputable def call (p:Pg):CallR:=fun f a H=>
 if h:∃r n,evF p n f a H=some r then some h.choose else none
theorem call_iff{p:Pg}{f:Nat}{a:List D}{H:Hp}{r:Res×Hp}:call p f a H=some r↔∃n,evF p n f a H=some r:=by
 unfold call
 constructor
 ·intro e
  split at e
  ·rename_i h
   obtain⟨n,hn⟩:=h.choose_spec
   cases e
   exact⟨n,hn⟩
  ·cases e
 ·rintro⟨n,hn⟩
  have h:∃r n,evF p n f a H=some r:=⟨r,n,hn⟩
  rw[dif_pos h]
  obtain⟨m,hm⟩:=h.choose_spec
  have h1:=evF_le p (Nat.le_max_left n m) _ _ _ _ hn
  have h2:=evF_le p (Nat.le_max_right n m) _ _ _ _ hm
  rw[h1] at h2
  exact h2.symm
open Classical in
noncomputable def iterX:It:=fun b s=>if h:∃r m,iter b m s=some r then some h.choose else none
theorem iterX_iff{b:St→Option (Out×St)}{s:St}{r:Out×St}:iterX b s=some r↔∃m,iter b m s=some r:=by
 unfold iterX
 constructor
 ·intro e
  split at e
  ·rename_i h
   obtain⟨n,hn⟩:=h.choose_spec
   cases e
   exact⟨n,hn⟩
  ·cases e
 ·rintro⟨n,hn⟩
  have h:∃r n,iter b n s=some r:=⟨r,n,hn⟩
  rw[dif_pos h]
  obtain⟨m,hm⟩:=h.choose_spec
  have h1:=iter_le (Nat.le_max_left n m) b b (fun _ _ e=>e) _ _ hn
  have h2:=iter_le (Nat.le_max_right n m) b b (fun _ _ e=>e) _ _ hm
  dsimp only at h1 h2
  rw[h1] at h2
  exact h2.symm
theorem iterX_norm{b:St→Option (Out×St)}{s s':St}(h:b s=some (.norm,s')):iterX b s=iterX b s':=by
 cases hx:iterX b s' with
 |some r=>
  obtain⟨m,hm⟩:=iterX_iff.1 hx
  exact iterX_iff.2 ⟨m+1,by simp only[iter,h];exact hm⟩
 |none=>
  cases hy:iterX b s with
  |none=>rfl
  |some r=>
   obtain⟨m,hm⟩:=iterX_iff.1 hy
   cases m with
   |zero=>cases hm
   |succ m=>
    simp only[iter,h] at hm
    rw[iterX_iff.2 ⟨m,hm⟩] at hx
    cases hx
theorem iterX_out{b:St→Option (Out×St)}{s s':St}{o:Out}(h:b s=some (o,s'))(ho:o≠.norm):iterX b s=some (o,s'):=
 iterX_iff.2 ⟨1,by
  simp only[iter,h]
  split
  ·rename_i hh;cases hh;exact(ho rfl).elim
  ·rfl⟩
section
variable {p : Pg} {G : Nat → Option (List PD)}
theorem evKC_fin{env:Env}{H:Hp}{k:SK}{r:Res×Hp}(e:evKC (call p) G env H k=some r):∃n,evKC (evF p n) G env H k=some r:=by
 unfold evKC at e⊢
 split at e
 ·rename_i f args
  unfold callV at e⊢
  split at e
  ·rename_i g first cap hf
   unfold callD at e⊢
   dsimp only at e⊢
   split at e
   ·rename_i hn
    split at e
    ·rename_i as bx tk h1 h2 h3
     split at e
     ·rename_i r' H' hc
      obtain⟨n,hn'⟩:=call_iff.1 hc
      refine⟨n,?_⟩
      (try rw[if_pos hn,h1,h2,h3])
      try dsimp only
      rw[hn']
      first |exact e |(rw[if_pos hn];exact e)
     ·cases e
    ·cases e
   ·cases e
  ·cases e
 ·exact⟨0,e⟩
 ·exact⟨0,e⟩
theorem evOps_fin:∀(ops:List SO) (env:Env) (H:Hp) (r:RO),evOps (call p) G ops env H=some r→∃n,evOps (evF p n) G ops env H=some r
 |[],env,H,r,e=>⟨0,e⟩
 |o::ops,env,H,r,e=>by
  unfold evOps at e
  split at e
  ·rename_i hg
   split at e
   ·rename_i hk
    obtain⟨n,hn⟩:=evKC_fin hk
    obtain⟨m,hm⟩:=evOps_fin ops _ _ _ e
    refine⟨max n m,?_⟩
    unfold evOps
    try rw[hg]
    try dsimp only
    rw[evKC_mono (evF_le p (Nat.le_max_left n m)) hn]
    exact evOps_mono (evF_le p (Nat.le_max_right n m)) _ _ _ _ hm
   ·rename_i hk
    obtain⟨n,hn⟩:=evKC_fin hk
    refine⟨n,?_⟩
    unfold evOps
    try rw[hg]
    try dsimp only
    rw[hn]
    exact e
   ·cases e
  ·rename_i hg
   obtain⟨m,hm⟩:=evOps_fin ops _ _ _ e
   refine⟨m,?_⟩
   unfold evOps
   try rw[hg]
   exact hm
  ·cases e
theorem evDraw_fin:∀(ops:List SO) (env:Env) (H:Hp) (r:Env×Hp×List (Nat×Nat)),evDraw (call p) G ops env H=some r→∃n,evDraw (evF p n) G ops env H=some r
 |[],env,H,r,e=>⟨0,e⟩
 |o::ops,env,H,r,e=>by
  unfold evDraw at e
  split at e
  ·rename_i hg
   split at e
   ·rename_i hk
    split at e
    ·rename_i hr
     obtain⟨n,hn⟩:=evKC_fin hk
     obtain⟨m,hm⟩:=evDraw_fin ops _ _ _ hr
     refine⟨max n m,?_⟩
     unfold evDraw
     try rw[hg]
     try dsimp only
     rw[evKC_mono (evF_le p (Nat.le_max_left n m)) hn]
     try dsimp only
     rw[evDraw_mono (evF_le p (Nat.le_max_right n m)) _ _ _ _ hm]
     exact e
    ·cases e
   ·cases e
  ·rename_i hg
   split at e
   ·rename_i hr
    obtain⟨m,hm⟩:=evDraw_fin ops _ _ _ hr
    refine⟨m,?_⟩
    unfold evDraw
    try rw[hg]
    try dsimp only
    rw[hm]
    exact e
   ·cases e
  ·cases e
theorem evRest_fin{pairs:List (Nat×Nat)}{k:Nat}:∀(ops:List SO) (i:Nat) (dead:List Nat) (env:Env) (H:Hp) (r:List (Nat×Nat)),evRest (call p) G pairs k i dead ops env H=some r→∃n,evRest (evF p n) G pairs k i dead ops env H=some r
 |[],i,dead,env,H,r,e=>⟨0,e⟩
 |o::ops,i,dead,env,H,r,e=>by
  simp only[evRest] at e⊢
  split at e
  ·rename_i hb
   obtain⟨x,hx,rfl⟩:=Option.map_eq_some_iff.1 e
   obtain⟨n,hn⟩:=evRest_fin ops _ _ _ _ _ hx
   exact⟨n,by rw[if_pos hb,hn];rfl⟩
  ·rename_i hb
   split at e
   ·rename_i hg
    split at e
    ·rename_i d H' hk
     obtain⟨n,hn⟩:=evKC_fin hk
     split at e
     ·cases e
     ·rename_i hw
      obtain⟨x,hx,rfl⟩:=Option.map_eq_some_iff.1 e
      obtain⟨m,hm⟩:=evRest_fin ops _ _ _ _ _ hx
      refine⟨max n m,?_⟩
      rw[if_neg hb,evKC_mono (evF_le p (Nat.le_max_left n m)) hn]
      dsimp only
      rw[if_neg hw,evRest_mono (evF_le p (Nat.le_max_right n m)) _ _ _ _ _ _ hm];rfl
    ·cases e
   ·rename_i hg
    obtain⟨x,hx,rfl⟩:=Option.map_eq_some_iff.1 e
    obtain⟨n,hn⟩:=evRest_fin ops _ _ _ _ _ hx
    exact⟨n,by rw[if_neg hb,hn];rfl⟩
   ·cases e
theorem evDrawP_fin{pairs:List (Nat×Nat)}:∀(ops:List SO) (i:Nat) (env:Env) (H:Hp) (r:D×Hp×List (Nat×Nat)×Nat),evDrawP (call p) G pairs i ops env H=some r→∃n,evDrawP (evF p n) G pairs i ops env H=some r
 |[],i,env,H,r,e=>⟨0,e⟩
 |o::ops,i,env,H,r,e=>by
  simp only[evDrawP] at e⊢
  split at e
  ·rename_i hg
   split at e
   ·rename_i d H' hk
    obtain⟨n,hn⟩:=evKC_fin hk
    obtain⟨x,hx,rfl⟩:=Option.map_eq_some_iff.1 e
    obtain⟨m,hm⟩:=evDrawP_fin ops _ _ _ _ hx
    refine⟨max n m,?_⟩
    rw[evKC_mono (evF_le p (Nat.le_max_left n m)) hn]
    dsimp only
    rw[evDrawP_mono (evF_le p (Nat.le_max_right n m)) _ _ _ _ _ hm];rfl
   ·rename_i d H' hk
    obtain⟨n,hn⟩:=evKC_fin hk
    obtain⟨x,hx,rfl⟩:=Option.map_eq_some_iff.1 e
    obtain⟨m,hm⟩:=evRest_fin ops _ _ _ _ _ hx
    refine⟨max n m,?_⟩
    rw[evKC_mono (evF_le p (Nat.le_max_left n m)) hn]
    dsimp only
    rw[evRest_mono (evF_le p (Nat.le_max_right n m)) _ _ _ _ _ _ hm];rfl
   ·cases e
  ·rename_i hg
   obtain⟨x,hx,rfl⟩:=Option.map_eq_some_iff.1 e
   obtain⟨n,hn⟩:=evDrawP_fin ops _ _ _ _ hx
   exact⟨n,by rw[hn];rfl⟩
  ·cases e
abbrev evN(p:Pg)(G:Nat→Option (List PD))(n:Nat):SC→St→Option (Out×St):=evS (evF p n) G (fun b s=>iter b n s)
theorem evN_le{n m:Nat}(h:n≤m){sc:SC}{s:St}{r:Out×St}(e:evN p G n sc s=some r):evN p G m sc s=some r:=
 evS_mono (evF_le p h) (iter_le h) sc s r e
theorem evS_fin:∀(sc:SC) (s:St) (r:Out×St),evS (call p) G iterX sc s=some r→∃n,evN p G n sc s=some r
 | .skip,s,r,e=>⟨0,e⟩
 | .exit _,s,r,e=>⟨0,e⟩
 | .ret,s,r,e=>⟨0,e⟩
 | .tok ..,s,r,e=>⟨0,e⟩
 | .tokb ..,s,r,e=>⟨0,e⟩
 | .stuck,s,r,e=>⟨0,e⟩
 | .scope b,s,r,e=>evS_fin b s r e
 | .loc b,s,r,e=>by
  unfold evS at e
  obtain⟨x,hx,rfl⟩:=Option.map_eq_some_iff.1 e
  obtain⟨n,hn⟩:=evS_fin b s x hx
  refine⟨n,?_⟩
  unfold evN at hn⊢
  unfold evS
  rw[hn];rfl
 | .locz b,s,r,e=>by
  unfold evS at e
  obtain⟨x,hx,rfl⟩:=Option.map_eq_some_iff.1 e
  obtain⟨n,hn⟩:=evS_fin b s x hx
  refine⟨n,?_⟩
  unfold evN at hn⊢
  unfold evS
  rw[hn];rfl
 | .region keep ops,s,r,e=>by
  unfold evS at e
  split at e
  ·rename_i he
   obtain⟨n,hn⟩:=evOps_fin _ _ _ _ he
   exact⟨n,by unfold evN evS;rw[hn];exact e⟩
  ·rename_i he
   obtain⟨n,hn⟩:=evOps_fin _ _ _ _ he
   exact⟨n,by unfold evN evS;rw[hn];exact e⟩
  ·cases e
 | .draw keep pairs ops,s,r,e=>by
  simp only[evS] at e
  split at e
  ·rename_i he
   obtain⟨n,hn⟩:=evDraw_fin _ _ _ _ he
   exact⟨n,by unfold evN;simp only[evS];rw[hn];exact e⟩
  ·rename_i he
   split at e
   ·rename_i hp
    obtain⟨n,hn⟩:=evDrawP_fin _ _ _ _ _ hp
    exact⟨n,by unfold evN;simp only[evS];rw[evDrawP_none _ _ _ _ _ hn,hn];exact e⟩
   ·cases e
 | .seq a b,s,r,e=>by
  unfold evS at e
  split at e
  ·rename_i he
   obtain⟨n,hn⟩:=evS_fin a _ _ he
   obtain⟨m,hm⟩:=evS_fin b _ _ e
   refine⟨max n m,?_⟩
   unfold evN evS
   have h1:=evN_le (Nat.le_max_left n m) hn
   unfold evN at h1
   rw[h1]
   exact evN_le (Nat.le_max_right n m) hm
  ·rename_i hn
   obtain⟨n,hn'⟩:=evS_fin a _ _ e
   refine⟨n,?_⟩
   unfold evN at hn'⊢
   unfold evS
   rw[hn']
   obtain⟨o,s'⟩:=r
   cases o with
   |norm=>exact(hn _ e).elim
   |_=>rfl
 | .cond cc a b,s,r,e=>by
  unfold evS at e
  split at e
  ·rename_i t ht
   cases t with
   |true=>
    obtain⟨n,hn⟩:=evS_fin a _ _ e
    exact⟨n,by unfold evN evS;(try rw[ht]);exact hn⟩
   |false=>
    obtain⟨n,hn⟩:=evS_fin b _ _ e
    exact⟨n,by unfold evN evS;(try rw[ht]);exact hn⟩
  ·cases e
 | .block id b,s,r,e=>by
  unfold evS at e
  split at e
  ·rename_i he
   obtain⟨n,hn⟩:=evS_fin b _ _ he
   refine⟨n,?_⟩
   unfold evN at hn⊢
   unfold evS;rw[hn];exact e
  ·rename_i hn
   obtain⟨n,hn'⟩:=evS_fin b _ _ e
   refine⟨n,?_⟩
   unfold evN at hn'⊢
   unfold evS
   rw[hn']
   obtain⟨o,s'⟩:=r
   cases o with
   |exit i=>exact(hn _ _ e).elim
   |_=>rfl
 | .loop keep b,s,r,e=>by
  unfold evS at e
  obtain⟨m,hm⟩:=iterX_iff.1 e
  clear e
  have key:∀m s,iter (fun s=>evS (call p) G iterX b ⟨s.env.keep keep,s.hp⟩) m s=some r→
      ∃n,iter (fun s=>evN p G n b ⟨s.env.keep keep,s.hp⟩) n s=some r:=by
   intro m
   induction m with
   |zero=>intro s h;cases h
   |succ m ih=>
    intro s h
    simp only[iter] at h
    split at h
    ·rename_i s' hb
     obtain⟨n1,h1⟩:=evS_fin b _ _ hb
     obtain⟨n2,h2⟩:=ih _ h
     refine⟨max n1 n2+1,?_⟩
     simp only[iter]
     rw[evN_le (Nat.le_succ_of_le (Nat.le_max_left n1 n2)) h1]
     exact iter_le (Nat.le_max_right n1 n2) _ _ (fun s r e=>evN_le (Nat.le_succ_of_le (Nat.le_max_right n1 n2)) e) _ _ h2
    ·rename_i hb
     obtain⟨n1,h1⟩:=evS_fin b _ _ h
     refine⟨n1+1,?_⟩
     simp only[iter]
     rw[evN_le (Nat.le_succ n1) h1]
     obtain⟨o,s'⟩:=r
     cases o with
     |norm=>exact(hb _ h).elim
     |_=>rfl
  obtain⟨n,hn⟩:=key m s hm
  exact⟨n,by unfold evN evS;exact hn⟩
theorem finish_fin{fc:FC}{s:St}{r:Res×Hp}(e:finish G fc.res (evS (call p) G iterX fc.body s)=some r):∃n,finish G fc.res (evN p G n fc.body s)=some r:=by
 cases he:evS (call p) G iterX fc.body s with
 |none=>rw[he] at e;cases e
 |some x=>
  obtain⟨n,hn⟩:=evS_fin _ _ _ he
  exact⟨n,by rw[hn,←he];exact e⟩
theorem call_body{f:Nat}{fc:FC}{a:List D}{H:Hp}{r:Res×Hp}(hl:p.lib f a H=none)(hf:p.F f=some fc)(hn:a.length=fc.np)
    (hz:fc.plain=true) (e:finish p.G fc.res (evS (call p) p.G iterX fc.body ⟨entry 0 a,H⟩)=some r):call p f a H=some r:=by
 obtain⟨n,hn'⟩:=finish_fin e
 have hz:fc.frz=false∧fc.dfr=none:=by
  unfold FC.plain at hz
  simpa using hz
 refine call_iff.2 ⟨n+1,?_⟩
 unfold evF
 try dsimp only
 rw[hl,hf]
 try dsimp only
 rw[if_pos hn,hz.1]
 unfold runF
 rw[hz.2]
 exact hn'
theorem call_lib{f:Nat}{a:List D}{H:Hp}{r:Res×Hp}(hl:p.lib f a H=some r):call p f a H=some r:=
 call_iff.2 ⟨1,by unfold evF;dsimp only;rw[hl]⟩
theorem call_of_evF{f:Nat}{a:List D}{H:Hp}{r:Res×Hp}(n:Nat)(h:evF p n f a H=some r):call p f a H=some r:=call_iff.2 ⟨n,h⟩
end
end Go.Vs
namespace Go.Vs
abbrev Mem:=Nat→Nat→Option Value
inductive RepP (m:Mem):Value→PD→Prop where
 |bool (b:Bool):RepP m (.bool b) (.bool b)
 |int (k:IntKind) (n:Int):RepP m (.int k n) (.int k n)
 |str (s:List UInt8):RepP m (.string ⟨s.toArray⟩) (.str s)
 |nilp:RepP m (.pointer none) .nilp
 |nils:RepP m (.slice none 0 0) .nils
 |nilf:RepP m .nilFunc .nilf
 |nili:RepP m .nilIface .nili
 |nilm:RepP m (.map none) .nilm
 |sl0 (a:Option Addr) (cap sz:Nat):RepP m (.slice a 0 cap) (.slice sz [])
 |sl (b o cap sz:Nat) (es:List PD) (vs:Nat→Nat→Value) (hc:es.length≤cap) (hsz:∀e∈es,e.cells.length=sz)
     (hone:∀e∈es,∀c∈e.cells,c.one=true) (hm:∀i j,i<es.length→j<sz→m b (o+i*sz+j)=some (vs i j))
     (hr:∀i e j c,es[i]? =some e→e.cells[j]? =some c→RepP m (vs i j) c):RepP m (.slice (some ⟨b,o,none⟩) es.length cap) (.slice sz es)
 |emp (a:Addr) (cap sz:Nat):RepP m (.slice (some a) 0 cap) (.emp sz)
 |agg (cs:Array Value) (ds:List PD) (hl:cs.size=ds.length) (hone:∀d∈ds,d.one=true) (hr:∀i d,ds[i]? =some d→RepP m (cs.getD i undef) d):RepP m (.agg cs) (.agg ds)
 |iface (t:Nat) (v:Value) (x:PD) (h:RepP m v x):RepP m (.iface t v) (.iface t x)
def Mem.le(m m':Mem):Prop:=∀b o v,m b o=some v→m' b o=some v
theorem RepP.mono{m m':Mem}(h:Mem.le m m'){v:Value}{d:PD}(r:RepP m v d):RepP m' v d:=by
 induction r with
 |bool b=>exact .bool b
 |int k n=>exact .int k n
 |str s=>exact .str s
 |nilp=>exact .nilp
 |nils=>exact .nils
 |nilf=>exact .nilf
 |nili=>exact .nili
 |nilm=>exact .nilm
 |sl0 a cap sz=>exact .sl0 a cap sz
 |sl b o cap sz es vs hc hsz hone hm hr ih=>exact .sl b o cap sz es vs hc hsz hone (fun i j hi hj=>h _ _ _ (hm i j hi hj)) ih
 |emp a cap sz=>exact .emp a cap sz
 |agg cs ds hl hone hr ih=>exact .agg cs ds hl hone ih
 |iface t v x _ ih=>exact .iface t v x ih
theorem RepP.one{m:Mem}{v:Value}{d:PD}(r:RepP m v d)(h:d.one=true):v.oneCell'=true:=by
 cases r<;>first |rfl |cases h
theorem RepP.cells{m:Mem}{v:Value}{d:PD}(r:RepP m v d):v.cells.size=d.cells.length∧∀i c,d.cells[i]? =some c→RepP m (v.cells.getD i undef) c∧c.one=true:=by
 cases r with
 |agg cs ds hl hone hr=>exact⟨hl,fun i c hc=>⟨hr i c hc,hone c (List.mem_of_getElem? hc)⟩⟩
 |_=>
  refine⟨rfl,fun i c hc=>?_⟩
  match i with
  | 0=>
   simp only[PD.cells,List.getElem?_cons_zero,Option.some.injEq] at hc
   subst hc
   refine⟨?_,rfl⟩
   first
    |exact .bool _ |exact .int _ _ |exact .str _ |exact .nilp |exact .nils |exact .nilf |exact .nili |exact .nilm |exact .sl0 _ _ _ |exact .emp _ _ _
    |exact .sl _ _ _ _ _ _ ‹_› ‹_› ‹_› ‹_› ‹_›
    |exact .iface _ _ _ ‹_›
  |i+1=>simp[PD.cells] at hc
structure Row where
 e:Nat
 sz:Nat
 st:Nat→Option (Option (Nat×Nat))
structure Gh where
 base:Nat
 tys:Nat→Option (Nat×Nat)
 mem:Mem
 boxes:List Nat
 rows:List Row
def rowVal(r:Option (Nat×Nat))(n:Nat):Value:=
 match r with
 |none=>.slice none 0 0
 |some (b,cap)=>.slice (some ⟨b,0,none⟩) n cap
inductive RepD (γ:Gh):Value→D→Prop where
 |dead (v:Value):RepD γ v .dead
 |undef:RepD γ undef .undef
 |p (v:Value) (x:PD) (h:RepP γ.mem v x):RepD γ v (.p x)
 |fsl (b n e sz:Nat) (es:List PD) (hb:γ.base≤b) (ht:γ.tys b=some (e,n*sz)) (hn:n=es.length) (h:RepP γ.mem (.slice (some ⟨b,0,none⟩) n n) (.slice sz es)):RepD γ (.slice (some ⟨b,0,none⟩) n n) (.fsl e sz es)
 |tsl (v:Value) (t e sz:Nat) (es:List PD) (row:Row) (r:Option (Nat×Nat)) (h1:γ.rows[t]? =some row) (h2:row.e=e) (h3:row.sz=sz)
     (h4:RepP γ.mem v (.slice sz es)) (h5:row.st es.length=some r) (h6:v=rowVal r es.length):RepD γ v (.tsl t e sz es)
 |box (i off b:Nat) (h:γ.boxes[i]? =some b):RepD γ (.pointer (some ⟨b,off,none⟩)) (.box i off)
 |glob (g off:Nat):RepD γ (.pointer (some ⟨g,off,none⟩)) (.glob g off)
 |ro (b o off:Nat) (cs:List PD) (vs:Nat→Value) (hm:∀j,j<cs.length→γ.mem b (o+j)=some (vs j)) (hr:∀j c,cs[j]? =some c→RepP γ.mem (vs j) c∧c.one=true):
     RepD γ (.pointer (some ⟨b,o+off,none⟩)) (.ro cs off)
 |agg (cs:Array Value) (ds:List D) (hl:cs.size=ds.length) (hone:∀d∈ds,d.one=true) (hr:∀i d,ds[i]? =some d→RepD γ (cs.getD i Go.undef) d):RepD γ (.agg cs) (.agg ds)
 |tup (cs:Array Value) (ds:List D) (hl:cs.size=ds.length) (hr:∀i d,ds[i]? =some d→RepD γ (cs.getD i Go.undef) d):RepD γ (.tuple cs) (.tup ds)
 |fn (f:Nat) (as cs:Array Value) (ds es:List D) (hl:as.size=ds.length) (hr:∀i d,ds[i]? =some d→RepD γ (as.getD i Go.undef) d)
     (kl:cs.size=es.length) (kr:∀i d,es[i]? =some d→RepD γ (cs.getD i Go.undef) d):RepD γ (.func (.func f) as cs) (.fn f ds es)
 |msl (i off n:Nat) (cap:Option Nat) (sz b c:Nat) (h:γ.boxes[i]? =some b) (hc:n≤c) (hcap:∀k,cap=some k→c=k):RepD γ (.slice (some ⟨b,off,none⟩) n c) (.msl i off n cap sz)
 |esl (a:Option Addr) (sz:Nat):RepD γ (.slice a 0 0) (.esl sz)
 |ifc (t:Nat) (v:Value) (d:D) (h:RepD γ v d):RepD γ (.iface t v) (.ifc t d)
 |dptr (b n cap:Nat) (d:D) (h:RepD γ (.slice (some ⟨b,0,none⟩) n cap) d) (hn:0<n) (hb:γ.base≤b):RepD γ (.pointer (some ⟨b,0,none⟩)) (.dptr d)
 |anyp (p:Option Addr):RepD γ (.pointer p) .anyp
 |fresh (T n i b:Nat) (h:γ.boxes[i]? =some b) (ht:γ.tys b=some (T,n)):RepD γ (.pointer none) (.fresh T n i)
 |mapr (i b:Nat) (h:γ.boxes[i]? =some b):RepD γ (.map (some b)) (.mapr i)
 |mapc (as cs:Array Value) (kd:Nat) (ks:List PD) (ds:List D) (s:Nat→Nat) (hl:as.size=ks.length) (kl:cs.size=ks.length) (dl:ds.length=ks.length)
     (hs:∀j,j<ks.length→s j<ks.length) (hj:∀j j',j<ks.length→j'<ks.length→s j=s j'→j=j') (hg:∀m,m<ks.length→∃j,j<ks.length∧s j=m)
     (hr:∀(j:Nat) x,ks[j]? =some x→RepP γ.mem (as.getD (s j) Go.undef) x∧keyKind x=kd) (hd:∀(j j':Nat) x y,ks[j]? =some x→ks[j']? =some y→keyEq x y=true→j=j')
     (kr:∀(j:Nat) d,ds[j]? =some d→RepD γ (cs.getD (s j) Go.undef) d):RepD γ (.func (.func 0) as cs) (.mapc kd ks ds)
def viewC(cs:List D)(o:Option Obj):Option Obj:=
 if isMapC cs then(match o with
  |some (.map es _)=>some (.cells #[.func (.func 0) (es.map (·.key)) (es.map (·.val))] 0 (0,0))
  |_=>none) else o
theorem viewC_of{cs:List D}(h:isMapC cs=false)(o:Option Obj):viewC cs o=o:=by simp[viewC,h]
theorem viewC_same{cs cs':List D}(h:isMapC cs'=isMapC cs)(o:Option Obj):viewC cs' o=viewC cs o:=by simp[viewC,h]
theorem viewC_ne{cs:List D}{o:Option Obj}{x:Obj}(h:viewC cs o=some x):∃y,o=some y:=by
 cases o with
 |some y=>exact⟨y,rfl⟩
 |none=>unfold viewC at h;split at h<;>cases h
theorem isMapC_one{cs:List D}(h:∀c∈cs,c.one=true):isMapC cs=false:=by
 unfold isMapC
 split
 ·rename_i kd ks vs
  have:=h (.mapc kd ks vs) (by simp)
  cases this
 ·rfl
structure Gh.le (γ γ':Gh):Prop where
 base:γ'.base=γ.base
 tys:∀b x,γ.tys b=some x→γ'.tys b=some x
 mem:Mem.le γ.mem γ'.mem
 boxes:∀(i b:Nat),γ.boxes[i]? =some b→γ'.boxes[i]? =some b
 rows:∀(t:Nat) r,γ.rows[t]? =some r→∃r',γ'.rows[t]? =some r'∧r'.e=r.e∧r'.sz=r.sz∧∀n x,r.st n=some x→r'.st n=some x
theorem Gh.le.refl(γ:Gh):γ.le γ:=⟨rfl,fun _ _ h=>h,fun _ _ _ h=>h,fun _ _ h=>h,fun _ r h=>⟨r,h,rfl,rfl,fun _ _ h=>h⟩⟩
theorem Gh.le.trans{a b c:Gh}(h:a.le b)(k:b.le c):a.le c:=
 ⟨k.base.trans h.base,fun _ _ x=>k.tys _ _ (h.tys _ _ x),fun _ _ _ x=>k.mem _ _ _ (h.mem _ _ _ x),fun _ _ x=>k.boxes _ _ (h.boxes _ _ x),fun t r x=>by
  obtain⟨r1,a1,a2,a3,a4⟩:=h.rows t r x
  obtain⟨r2,b1,b2,b3,b4⟩:=k.rows t r1 a1
  exact⟨r2,b1,b2.trans a2,b3.trans a3,fun n x hx=>b4 n x (a4 n x hx)⟩⟩
theorem RepD.mono{γ γ':Gh}(h:γ.le γ'){v:Value}{d:D}(r:RepD γ v d):RepD γ' v d:=by
 induction r with
 |dead v=>exact .dead v
 |undef=>exact .undef
 |p v x hx=>exact .p v x (hx.mono h.mem)
 |fsl b n e sz es hb ht hn hx=>exact .fsl b n e sz es (h.base▸hb) (h.tys _ _ ht) hn (hx.mono h.mem)
 |tsl v t e sz es row r h1 h2 h3 h4 h5 h6=>
  obtain⟨r',a1,a2,a3,a4⟩:=h.rows t row h1
  exact .tsl v t e sz es r' r a1 (a2.trans h2) (a3.trans h3) (h4.mono h.mem) (a4 _ _ h5) h6
 |box i off b hb=>exact .box i off b (h.boxes _ _ hb)
 |glob g off=>exact .glob g off
 |ro b o off cs vs hm hr=>exact .ro b o off cs vs (fun j hj=>h.mem _ _ _ (hm j hj)) (fun j c hc=>⟨(hr j c hc).1.mono h.mem,(hr j c hc).2⟩)
 |agg cs ds hl hone hr ih=>exact .agg cs ds hl hone ih
 |tup cs ds hl hr ih=>exact .tup cs ds hl ih
 |fn f as cs ds es hl hr kl kr ih ih'=>exact .fn f as cs ds es hl ih kl ih'
 |msl i off n cap sz b c hb hc hcap=>exact .msl i off n cap sz b c (h.boxes _ _ hb) hc hcap
 |esl a sz=>exact .esl a sz
 |ifc t v d _ ih=>exact .ifc t v d ih
 |dptr b n cap d _ hn hb ih=>exact .dptr b n cap d ih hn (h.base▸hb)
 |anyp p=>exact .anyp p
 |fresh T n i b hb ht=>exact .fresh T n i b (h.boxes _ _ hb) (h.tys _ _ ht)
 |mapr i b hb=>exact .mapr i b (h.boxes _ _ hb)
 |mapc as cs kd ks ds s hl kl dl hs hj hg hr hd kr ih=>exact .mapc as cs kd ks ds s hl kl dl hs hj hg (fun i x hx=>⟨(hr i x hx).1.mono h.mem,(hr i x hx).2⟩) hd ih
def RepL(γ:Gh)(vs:Array Value)(ds:List D):Prop:=vs.size=ds.length∧∀i d,ds[i]? =some d→RepD γ (vs.getD i undef) d
theorem RepL.mono{γ γ':Gh}(h:γ.le γ'){vs:Array Value}{ds:List D}(r:RepL γ vs ds):RepL γ' vs ds:=⟨r.1,fun i d hd=>(r.2 i d hd).mono h⟩
def RepB(γ:Gh)(vs:Array Value)(ds:List D):Prop:=ds.length≤vs.size∧∀i d,ds[i]? =some d→RepD γ (vs.getD i undef) d
theorem RepL.toB{γ:Gh}{vs:Array Value}{ds:List D}(r:RepL γ vs ds):RepB γ vs ds:=⟨Nat.le_of_eq r.1.symm,r.2⟩
theorem RepB.mono{γ γ':Gh}(h:γ.le γ'){vs:Array Value}{ds:List D}(r:RepB γ vs ds):RepB γ' vs ds:=⟨r.1,fun i d hd=>(r.2 i d hd).mono h⟩
theorem RepD.oneCell{γ:Gh}{v:Value}{d:D}(r:RepD γ v d)(h:d.one=true):v.oneCell'=true:=by
 cases r with
 |p v x hx=>exact hx.one h
 |tsl v t e sz es row r h1 h2 h3 h4 h5 h6=>exact h4.one rfl
 |_=>first |rfl |cases h
theorem RepD.cells{γ:Gh}{v:Value}{d:D}(r:RepD γ v d)(h:d.cells.all D.one=true):RepL γ v.cells d.cells∧∀c∈d.cells,c.one=true:=by
 have hall:∀c∈d.cells,c.one=true:=by simpa[List.all_eq_true] using h
 refine⟨?_,hall⟩
 have single:∀(v:Value) (d:D),d.cells=[d]→v.cells= #[v]→RepD γ v d→RepL γ v.cells d.cells:=by
  intro v d hd hv r
  rw[hd,hv]
  refine⟨rfl,fun i c hc=>?_⟩
  match i with
  | 0=>simp only[List.getElem?_cons_zero,Option.some.injEq] at hc;subst hc;exact r
  |i+1=>simp at hc
 have hv1:∀v:Value,v.oneCell'=true→v.cells= #[v]:=by intro v hv;cases v<;>first |rfl |cases hv
 cases r with
 |dead v=>simp[D.cells,D.one] at h
 |undef=>simp[D.cells,D.one] at h
 |p v x hx=>
  by_cases hone:x.one=true
  ·have hc:(D.p x).cells=[.p x]:=by cases x<;>first |rfl |cases hone
   exact single v _ hc (hv1 v (hx.one hone)) (.p v x hx)
  ·cases hx with
   |agg cs ds hl ho hr=>
    refine⟨by simp[D.cells,Value.cells,hl],fun i d hd=>?_⟩
    simp only[D.cells,List.getElem?_map,Option.map_eq_some_iff] at hd
    obtain⟨x,hx,rfl⟩:=hd
    exact .p _ _ (hr i x hx)
   |_=>simp[PD.one] at hone
 |agg cs ds hl ho hr=>exact⟨hl,hr⟩
 |tup cs ds hl hr=>simp[D.cells,D.one] at h
 |fsl b n e sz es hb ht hn hx=>exact single _ _ rfl rfl (.fsl b n e sz es hb ht hn hx)
 |tsl v t e sz es row r h1 h2 h3 h4 h5 h6=>exact single _ _ rfl (hv1 _ (h4.one rfl)) (.tsl v t e sz es row r h1 h2 h3 h4 h5 h6)
 |box i off b hb=>exact single _ _ rfl rfl (.box i off b hb)
 |glob g off=>exact single _ _ rfl rfl (.glob g off)
 |ro b o off cs vs hm hr=>exact single _ _ rfl rfl (.ro b o off cs vs hm hr)
 |fn f as cs ds es hl hr kl kr=>exact single _ _ rfl rfl (.fn f as cs ds es hl hr kl kr)
 |msl i off n cap sz b c hb hc hcap=>exact single _ _ rfl rfl (.msl i off n cap sz b c hb hc hcap)
 |esl a sz=>exact single _ _ rfl rfl (.esl a sz)
 |ifc t v d hd=>exact single _ _ rfl rfl (.ifc t v d hd)
 |dptr b n cap d hd hn hb=>exact single _ _ rfl rfl (.dptr b n cap d hd hn hb)
 |anyp p=>exact single _ _ rfl rfl (.anyp p)
 |fresh T n i b hb ht=>exact single _ _ rfl rfl (.fresh T n i b hb ht)
 |mapr i b hb=>exact single _ _ rfl rfl (.mapr i b hb)
 |mapc=>simp[D.cells,D.one] at h
def Free(γ:Gh)(H:Hp)(t b:Nat):Prop:=∃row f cap,γ.rows[t]? =some row∧H.tk[t]? =some f∧row.st f=some (some (b,cap))∧f<cap
def Owned(γ:Gh)(H:Hp)(b:Nat):Prop:=b∈γ.boxes∨∃t,Free γ H t b
def clear(fr:Nat×Nat)(m n:Nat):Prop:=∀k,m≤k→k<n→¬(fr.1≤k∧k<fr.2)
def Sim(m:Nat→Option Value)(o o':Option Obj):Prop:=
 o'=o∨∃cs T fr fr',o=some (.cells cs T fr)∧o'=some (.cells cs T fr')∧∀k,k<cs.size→fr'.1≤k∧k<fr'.2→(fr.1≤k∧k<fr.2)∨m k≠none
theorem Sim.refl(m:Nat→Option Value)(o:Option Obj):Sim m o o:=.inl rfl
theorem Sim.trans{m m':Nat→Option Value}{o o' o'':Option Obj}(h:Sim m o o')(k:Sim m' o' o'')(hm:∀j,m j≠none→m' j≠none):Sim m' o o'':=by
 rcases h with rfl |⟨cs,T,fr,fr',h1,h2,h3⟩
 ·exact k
 ·rcases k with rfl |⟨cs2,T2,fr2,fr2',k1,k2,k3⟩
  ·exact .inr ⟨cs,T,fr,fr',h1,h2,fun j hs hj=>(h3 j hs hj).imp id (hm j)⟩
  ·rw[h2] at k1
   cases k1
   exact .inr ⟨cs,T,fr,fr2',h1,k2,fun j hs hj=>by
    rcases k3 j hs hj with q |q
    ·exact(h3 j hs q).imp id (hm j)
    ·exact .inr q⟩
def RowOk(γ:Gh)(w:World)(row:Row)(f:Nat):Option (Nat×Nat)→Prop
 |none=>f=0
 |some (b,cap)=>(f≤cap∧γ.tys b=some (row.e,cap*row.sz))∧(f<cap→∃cur fr,w.heap[b]? =some (.cells cur row.e fr)∧clear fr (f*row.sz) cur.size∧cur.size=cap*row.sz∧cap≤maxLen∧(∀o,f*row.sz≤o→γ.mem b o=none)∧b∉γ.boxes)
structure Inv (G:Nat→Option (List PD)) (γ:Gh) (H:Hp) (w:World):Prop where
 size:γ.base≤w.heap.size
 tys:∀b T n,γ.tys b=some (T,n)→∃vs fr,w.heap[b]? =some (.cells vs T fr)∧vs.size=n∧fr.2≤n∧fr.1≤fr.2
 rowb:∀(t:Nat) row n b cap,γ.rows[t]? =some row→row.st n=some (some (b,cap))→γ.base≤b
 mem:∀b o v,γ.mem b o=some v→w.cell? ⟨b,o,none⟩=some v
 globs:∀g cs,G g=some cs→∀j c,cs[j]? =some c→c.one=true∧∃v,γ.mem g j=some v∧RepP γ.mem v c
 lenB:γ.boxes.length=H.bx.length
 nodup:γ.boxes.Nodup
 box:∀(i b:Nat) cs,γ.boxes[i]? =some b→H.bx[i]? =some cs→∃vs T fr,viewC cs w.heap[b]? =some (.cells vs T fr)∧RepB γ vs cs∧(isMapC cs=false→∀c∈cs,c.one=true)∧(cs≠[]→clear fr 0 vs.size)
 boxmem:∀b o,b∈γ.boxes→γ.mem b o=none
 lenT:γ.rows.length=H.tk.length
 row:∀(t:Nat) row f,γ.rows[t]? =some row→H.tk[t]? =some f→∃r,row.st f=some r∧RowOk γ w row f r
 rowmax:∀(t:Nat) row f,γ.rows[t]? =some row→H.tk[t]? =some f→∀n x,row.st n=some x→n≤f
 free:∀t t' b,Free γ H t b→Free γ H t' b→t=t'
structure Frame (γ:Gh) (H:Hp) (w:World) (γ':Gh) (H':Hp) (w':World):Prop where
 os:w'.os=w.os
 tape:w'.tape=w.tape
 output:w'.output=w.output
 size:w.heap.size≤w'.heap.size
 blk:∀b,b<w.heap.size→¬Owned γ H b→(b<γ.base→w'.heap[b]? =w.heap[b]?)∧Sim (γ'.mem b) (w.heap[b]?) (w'.heap[b]?)
 mem:∀b o,b<w.heap.size→¬Owned γ H b→γ'.mem b o=γ.mem b o
 box:∀b,b∈γ'.boxes→b∈γ.boxes∨w.heap.size≤b
 fre:∀t b,Free γ' H' t b→Free γ H t b∨w.heap.size≤b
theorem Frame.own{γ:Gh}{H:Hp}{w:World}{γ':Gh}{H':Hp}{w':World}(F:Frame γ H w γ' H' w')(b:Nat)(h:Owned γ' H' b):Owned γ H b∨w.heap.size≤b:=by
 rcases h with h |⟨t,h⟩
 ·rcases F.box b h with q |q
  ·exact .inl (.inl q)
  ·exact .inr q
 ·rcases F.fre t b h with q |q
  ·exact .inl (.inr ⟨t,q⟩)
  ·exact .inr q
theorem Frame.refl(γ:Gh)(H:Hp)(w:World):Frame γ H w γ H w:=⟨rfl,rfl,rfl,Nat.le_refl _,fun _ _ _=>⟨fun _=>rfl,.refl _ _⟩,fun _ _ _ _=>rfl,fun _ h=>.inl h,fun _ _ h=>.inl h⟩
theorem Frame.trans{γ γ1 γ2:Gh}{H H1 H2:Hp}{w w1 w2:World}(L:γ1.base=γ.base)(a:Frame γ H w γ1 H1 w1)(b:Frame γ1 H1 w1 γ2 H2 w2):Frame γ H w γ2 H2 w2:=by
 have key:∀k,k<w.heap.size→¬Owned γ H k→¬Owned γ1 H1 k:=fun k hk ho h1=>by
  rcases a.own k h1 with h |h
  ·exact ho h
  ·omega
 refine⟨b.os.trans a.os,b.tape.trans a.tape,b.output.trans a.output,Nat.le_trans a.size b.size,fun k hk ho=>?_,fun k o hk ho=>?_,fun k h2=>?_,fun t k h2=>?_⟩
 ·obtain⟨p1,p2⟩:=a.blk k hk ho
  obtain⟨q1,q2⟩:=b.blk k (Nat.lt_of_lt_of_le hk a.size) (key k hk ho)
  refine⟨fun hb=>(q1 (L▸hb)).trans (p1 hb),p2.trans q2 fun j hj=>?_⟩
  rw[b.mem k j (Nat.lt_of_lt_of_le hk a.size) (key k hk ho)];exact hj
 ·exact(b.mem k o (Nat.lt_of_lt_of_le hk a.size) (key k hk ho)).trans (a.mem k o hk ho)
 ·rcases b.box k h2 with h |h
  ·exact a.box k h
  ·exact .inr (Nat.le_trans a.size h)
 ·rcases b.fre t k h2 with h |h
  ·exact a.fre t k h
  ·exact .inr (Nat.le_trans a.size h)
theorem Inv.lt_of_box{G:Nat→Option (List PD)}{γ:Gh}{H:Hp}{w:World}(I:Inv G γ H w){b:Nat}(hb:b∈γ.boxes):b<w.heap.size:=by
 obtain⟨i,hi⟩:=List.getElem?_of_mem hb
 have hlt:i<H.bx.length:=by rw[←I.lenB];exact(List.getElem?_eq_some_iff.1 hi).1
 obtain⟨vs,T,fr,h,_⟩:=I.box i b _ hi (List.getElem?_eq_getElem hlt)
 obtain⟨y,hy⟩:=viewC_ne h
 exact(Array.getElem?_eq_some_iff.1 hy).1
theorem Inv.lt_of_free{G:Nat→Option (List PD)}{γ:Gh}{H:Hp}{w:World}(I:Inv G γ H w){t b:Nat}(hb:Free γ H t b):b<w.heap.size:=by
 obtain⟨row,f,cap,h1,h2,h3,h4⟩:=hb
 obtain⟨r,hr,hok⟩:=I.row t row f h1 h2
 rw[h3] at hr
 cases hr
 obtain⟨cur,fr,h,_⟩:=hok.2 h4
 exact(Array.getElem?_eq_some_iff.1 h).1
theorem Inv.lt_of_mem{G:Nat→Option (List PD)}{γ:Gh}{H:Hp}{w:World}(I:Inv G γ H w){b o:Nat}{v:Value}(h:γ.mem b o=some v):b<w.heap.size:=
 World.block_lt_of_cell? w _ (I.mem b o v h)
def EnvRep(γ:Gh)(env:Env)(tmps:Array Value):Prop:=∀t,RepD γ (tmps.getD t undef) (env.get t)
theorem EnvRep.mono{γ γ':Gh}(h:γ.le γ'){env:Env}{tmps:Array Value}(r:EnvRep γ env tmps):EnvRep γ' env tmps:=fun t=>(r t).mono h
theorem EnvRep.put{γ:Gh}{env:Env}{tmps:Array Value}(r:EnvRep γ env tmps){t:Nat}(ht:t<tmps.size){v:Value}{d:D}(h:RepD γ v d):
    EnvRep γ ((t,d)::env) (tmps.setIfInBounds t v):=by
 intro s
 simp only[Env.get]
 by_cases hs:t=s
 ·subst hs
  rw[if_pos rfl]
  simpa[Array.getD_eq_getD_getElem?,ht] using h
 ·rw[if_neg hs]
  have:=r s
  simpa[Array.getD_eq_getD_getElem?,Array.getElem?_setIfInBounds,hs] using this
theorem Env.get_keep(ks:List Nat)(e:Env)(t:Nat):(e.keep ks).get t=if t∈ks then e.get t else .dead:=by
 induction ks with
 |nil=>rfl
 |cons k ks ih=>
  have ih':Env.get (List.map (fun t=>(t,e.get t)) ks) t=if t∈ks then e.get t else .dead:=ih
  show(if k=t then e.get k else Env.get (List.map (fun t=>(t,e.get t)) ks) t)=_
  by_cases hk:k=t
  ·subst hk;simp
  ·rw[if_neg hk,ih']
   have :(t∈k::ks)↔t∈ks:=by simp[Ne.symm hk]
   simp only[this]
theorem EnvRep.keep{γ:Gh}{env:Env}{tmps:Array Value}(r:EnvRep γ env tmps)(ks:List Nat):EnvRep γ (env.keep ks) tmps:=by
 intro t
 rw[Env.get_keep]
 split
 ·exact r t
 ·exact .dead _
variable {G : Nat → Option (List PD)} {γ : Gh} {H : Hp} {w : World}
theorem heap_alloc(w:World)(o:Obj)(b:Nat):(w.alloc o).heap[b]? =if b=w.heap.size then some o else w.heap[b]?:=by
 show(w.heap.push o)[b]? =_
 rw[Array.getElem?_push]
theorem cell_eq{w w':World}{b o:Nat}(h:w'.heap[b]? =w.heap[b]?):w'.cell? ⟨b,o,none⟩=w.cell? ⟨b,o,none⟩:=by
 unfold World.cell?;rw[h]
theorem Free.congr{γ γ':Gh}{H H':Hp}(hr:∀(t:Nat) row,γ'.rows[t]? =some row→γ.rows[t]? =some row)(ht:∀(t f:Nat),H'.tk[t]? =some f→H.tk[t]? =some f){t b:Nat}(h:Free γ' H' t b):Free γ H t b:=by
 obtain⟨row,f,cap,h1,h2,h3,h4⟩:=h
 exact⟨row,f,cap,hr _ _ h1,ht _ _ h2,h3,h4⟩
theorem RowOk.keep{γ':Gh}{w':World}{row:Row}{f:Nat}{r:Option (Nat×Nat)}(h:RowOk γ w row f r)(ht:∀b x,γ.tys b=some x→γ'.tys b=some x)
    (hh:∀b cap,r=some (b,cap)→f<cap→w'.heap[b]? =w.heap[b]?) (hm:∀b cap,r=some (b,cap)→f<cap→∀o,γ'.mem b o=γ.mem b o) (hb:∀b cap,r=some (b,cap)→f<cap→b∉γ.boxes→b∉γ'.boxes):RowOk γ' w' row f r:=by
 match r,h with
 |none,h=>exact h
 |some (b,cap),⟨hle,h⟩=>
  refine⟨⟨hle.1,ht _ _ hle.2⟩,fun hlt=>?_⟩
  obtain⟨cur,fr,h1,h0,h2,h3,h4,h5⟩:=h hlt
  exact⟨cur,fr,(hh b cap rfl hlt).trans h1,h0,h2,h3,fun o ho=>(hm b cap rfl hlt o).trans (h4 o ho),hb b cap rfl hlt h5⟩
theorem RowOk.sim{γ':Gh}{w':World}{row:Row}{f:Nat}{r:Option (Nat×Nat)}(h:RowOk γ w row f r)(ht:∀b x,γ.tys b=some x→γ'.tys b=some x)
    (hh:∀b cap,r=some (b,cap)→f<cap→Sim (γ'.mem b) (w.heap[b]?) (w'.heap[b]?)) (hm:∀b cap,r=some (b,cap)→f<cap→∀o,γ'.mem b o=γ.mem b o) (hb:∀b cap,r=some (b,cap)→f<cap→b∉γ.boxes→b∉γ'.boxes):RowOk γ' w' row f r:=by
 match r,h with
 |none,h=>exact h
 |some (b,cap),⟨hle,h⟩=>
  refine⟨⟨hle.1,ht _ _ hle.2⟩,fun hlt=>?_⟩
  obtain⟨cur,fr,h1,h0,h2,h3,h4,h5⟩:=h hlt
  have h4':∀o,f*row.sz≤o→γ'.mem b o=none:=fun o ho=>(hm b cap rfl hlt o).trans (h4 o ho)
  rcases hh b cap rfl hlt with e |⟨cs,T,fr0,fr',e1,e2,e3⟩
  ·exact⟨cur,fr,e.trans h1,h0,h2,h3,h4',hb b cap rfl hlt h5⟩
  ·rw[h1] at e1
   cases e1
   refine⟨cur,fr',e2,fun k hk hk2 hf=>?_,h2,h3,h4',hb b cap rfl hlt h5⟩
   rcases e3 k hk2 hf with q |q
   ·exact h0 k hk hk2 q
   ·exact q (h4' k hk)
theorem Inv.lt_of_tys0{G:Nat→Option (List PD)}{γ:Gh}{H:Hp}{w:World}(I:Inv G γ H w){b:Nat}{x:Nat×Nat}(h:γ.tys b=some x):b<w.heap.size:=by
 obtain⟨us,fr,h2,h3⟩:=I.tys b x.1 x.2 h
 exact(Array.getElem?_eq_some_iff.1 h2).1
theorem Inv.newBoxT(I:Inv G γ H w){vs:Array Value}{cs:List D}(T:Nat)(hrr:∀γ':Gh,γ.le γ'→γ'.boxes[H.bx.length]? =some w.heap.size→γ'.tys w.heap.size=some (T,vs.size)→RepB γ' vs cs)(h1:∀c∈cs,c.one=true):
    ∃γ',γ.le γ'∧γ'.boxes[H.bx.length]? =some w.heap.size∧Frame γ H w γ' {H with bx:=H.bx++[cs]} (w.alloc (.cells vs T))∧Inv G γ' {H with bx:=H.bx++[cs]} (w.alloc (.cells vs T)):=by
 let γ':Gh:={γ with boxes:=γ.boxes++[w.heap.size],tys:=fun c=>if c=w.heap.size then some (T,vs.size) else γ.tys c}
 have hle:γ.le γ':=⟨rfl,fun c x h=>by
  have:=I.lt_of_tys0 h
  show(if c=w.heap.size then some (T,vs.size) else γ.tys c)=some x
  rw[if_neg (by omega)];exact h,fun _ _ _ h=>h,fun i b h=>by
  have hi:i<γ.boxes.length:=(List.getElem?_eq_some_iff.1 h).1
  show(γ.boxes++[w.heap.size])[i]? =some b
  rw[List.getElem?_append_left hi];exact h,fun t r h=>⟨r,h,rfl,rfl,fun _ _ h=>h⟩⟩
 have hfree:∀t b,Free γ' {H with bx:=H.bx++[cs]} t b→Free γ H t b:=fun t b h=>Free.congr (fun _ _ h=>h) (fun _ _ h=>h) h
 have hbx:γ'.boxes[H.bx.length]? =some w.heap.size:=by
  show(γ.boxes++[w.heap.size])[H.bx.length]? =_
  rw[←I.lenB];simp
 have hr:RepB γ' vs cs:=hrr γ' hle hbx (by show(if w.heap.size=w.heap.size then some (T,vs.size) else γ.tys w.heap.size)=_;rw[if_pos rfl])
 refine⟨γ',hle,hbx,?_,?_⟩
 ·refine⟨rfl,rfl,rfl,by simp,fun b hb _=>?_,fun b o _ _=>rfl,fun b hb=>?_,fun t b hb=>.inl (hfree t b hb)⟩
  ·rw[heap_alloc,if_neg (by omega)];exact⟨fun _=>rfl,.refl _ _⟩
  ·have hb:b∈γ.boxes++[w.heap.size]:=hb
   rcases List.mem_append.1 hb with h |h
   ·exact .inl h
   ·exact .inr (by simp at h;omega)
 ·constructor
  ·have:=I.size
   show γ.base≤(w.alloc (.cells vs T)).heap.size
   simp;omega
  ·intro b T' n hb
   have hb:(if b=w.heap.size then some (T,vs.size) else γ.tys b)=some (T',n):=hb
   by_cases he:b=w.heap.size
   ·rw[if_pos he] at hb
    cases hb
    exact⟨vs,(0,0),by rw[heap_alloc,if_pos he],rfl,Nat.zero_le _,Nat.le_refl _⟩
   ·rw[if_neg he] at hb
    obtain⟨us,fr,h2,h3⟩:=I.tys b T' n hb
    exact⟨us,fr,by rw[heap_alloc,if_neg he];exact h2,h3⟩
  ·exact I.rowb
  ·intro b o v h
   have hlt:=I.lt_of_mem h
   rw[cell_eq (w:=w) (by rw[heap_alloc,if_neg (by omega)])]
   exact I.mem b o v h
  ·exact I.globs
  ·show(γ.boxes++[w.heap.size]).length=(H.bx++[cs]).length
   simp[I.lenB]
  ·show(γ.boxes++[w.heap.size]).Nodup
   rw[List.nodup_append]
   refine⟨I.nodup,by simp,fun a ha b hb=>?_⟩
   simp at hb
   have:=I.lt_of_box ha
   omega
  ·intro i b cs' hb hc
   have hb:(γ.boxes++[w.heap.size])[i]? =some b:=hb
   have hc:(H.bx++[cs])[i]? =some cs':=hc
   by_cases hi:i<γ.boxes.length
   ·rw[List.getElem?_append_left hi] at hb
    rw[List.getElem?_append_left (by rw[←I.lenB];exact hi)] at hc
    obtain⟨vs',T',fr',a1,a2,a3⟩:=I.box i b cs' hb hc
    have:=I.lt_of_box (List.mem_of_getElem? hb)
    exact⟨vs',T',fr',by rw[heap_alloc,if_neg (by omega)];exact a1,a2.mono hle,a3⟩
   ·have hi':i=γ.boxes.length:=by
     have:=(List.getElem?_eq_some_iff.1 hb).1
     simp at this;omega
    subst hi'
    rw[List.getElem?_append_right (Nat.le_refl _)] at hb
    rw[I.lenB,List.getElem?_append_right (Nat.le_refl _)] at hc
    simp at hb hc
    subst hb;subst hc
    exact⟨vs,T,(0,0),by rw[heap_alloc,if_pos rfl,viewC_of (isMapC_one h1)],hr,fun _=>h1,fun _ k _ _ hk=>by omega⟩
  ·intro b o hb
   have hb:b∈γ.boxes++[w.heap.size]:=hb
   rcases List.mem_append.1 hb with h |h
   ·exact I.boxmem b o h
   ·simp at h
    subst h
    cases hm:γ.mem w.heap.size o with
    |none=>rfl
    |some v=>have:=I.lt_of_mem hm;omega
  ·exact I.lenT
  ·intro t row f h1 h2
   obtain⟨r,a1,a2⟩:=I.row t row f h1 h2
   refine⟨r,a1,a2.keep hle.tys (fun b cap hr hlt=>?_) (fun b cap hr hlt o=>rfl) (fun b cap hr hlt hb hb'=>?_)⟩
   ·have:=I.lt_of_free ⟨row,f,cap,h1,h2,hr▸a1,hlt⟩
    rw[heap_alloc,if_neg (by omega)]
   ·have hb':b∈γ.boxes++[w.heap.size]:=hb'
    have:=I.lt_of_free ⟨row,f,cap,h1,h2,hr▸a1,hlt⟩
    rcases List.mem_append.1 hb' with h |h
    ·exact hb h
    ·simp at h;omega
  ·exact I.rowmax
  ·intro t t' b h h'
   exact I.free t t' b (hfree t b h) (hfree t' b h')
theorem Inv.newBox(I:Inv G γ H w){vs:Array Value}{cs:List D}(T:Nat)(hr:RepB γ vs cs)(h1:∀c∈cs,c.one=true):
    ∃γ',γ.le γ'∧γ'.boxes[H.bx.length]? =some w.heap.size∧Frame γ H w γ' {H with bx:=H.bx++[cs]} (w.alloc (.cells vs T))∧Inv G γ' {H with bx:=H.bx++[cs]} (w.alloc (.cells vs T)):=
 I.newBoxT T (fun _ h _ _=>hr.mono h) h1
theorem Inv.allocObj(I:Inv G γ H w)(o:Obj):Frame γ H w γ H (w.alloc o)∧Inv G γ H (w.alloc o):=by
 refine⟨⟨rfl,rfl,rfl,by simp,fun b hb _=>?_,fun b o _ _=>rfl,fun b hb=>.inl hb,fun t b hb=>.inl hb⟩,?_⟩
 ·rw[heap_alloc,if_neg (by omega)];exact⟨fun _=>rfl,.refl _ _⟩
 ·constructor
  ·have:=I.size
   simp;omega
  ·intro b T' n hb
   obtain⟨us,fr,h2,h3⟩:=I.tys b T' n hb
   have:=(Array.getElem?_eq_some_iff.1 h2).1
   exact⟨us,fr,by rw[heap_alloc,if_neg (by omega)];exact h2,h3⟩
  ·exact I.rowb
  ·intro b o v h
   have hlt:=I.lt_of_mem h
   rw[cell_eq (w:=w) (by rw[heap_alloc,if_neg (by omega)])]
   exact I.mem b o v h
  ·exact I.globs
  ·exact I.lenB
  ·exact I.nodup
  ·intro i b cs' hb hc
   obtain⟨vs',T',fr',a1,a2,a3⟩:=I.box i b cs' hb hc
   have:=I.lt_of_box (List.mem_of_getElem? hb)
   exact⟨vs',T',fr',by rw[heap_alloc,if_neg (by omega)];exact a1,a2,a3⟩
  ·exact I.boxmem
  ·exact I.lenT
  ·intro t row f h1 h2
   obtain⟨r,a1,a2⟩:=I.row t row f h1 h2
   refine⟨r,a1,a2.keep (fun _ _ h=>h) (fun b cap hr hlt=>?_) (fun b cap hr hlt o=>rfl) (fun b cap hr hlt hb=>hb)⟩
   have:=I.lt_of_free ⟨row,f,cap,h1,h2,hr▸a1,hlt⟩
   rw[heap_alloc,if_neg (by omega)]
  ·exact I.rowmax
  ·exact I.free
def Gh.asPD(γ:Gh)(b T:Nat)(vs:Array Value):Gh:={γ with mem:=fun c o=>if c=b then vs[o]? else γ.mem c o,tys:=fun c=>if c=b then some (T,vs.size) else γ.tys c}
theorem Inv.lt_of_tys{G:Nat→Option (List PD)}{γ:Gh}{H:Hp}{w:World}(I:Inv G γ H w){b:Nat}{x:Nat×Nat}(h:γ.tys b=some x):b<w.heap.size:=by
 obtain⟨us,fr,h2,_⟩:=I.tys b x.1 x.2 h
 exact(Array.getElem?_eq_some_iff.1 h2).1
theorem Gh.le_seal(I:Inv G γ H w){b:Nat}(hb:w.heap.size≤b)(T:Nat)(vs:Array Value):γ.le (γ.asPD b T vs):=
 ⟨rfl,fun c x h=>by
  have:=I.lt_of_tys h
  show(if c=b then some (T,vs.size) else γ.tys c)=some x
  rw[if_neg (by omega)];exact h,fun c o v h=>by
  have:=I.lt_of_mem h
  show(if c=b then vs[o]? else γ.mem c o)=some v
  rw[if_neg (by omega)];exact h,fun _ _ h=>h,fun t r h=>⟨r,h,rfl,rfl,fun _ _ h=>h⟩⟩
theorem Inv.newRow(I:Inv G γ H w)(vs:Array Value)(T:Nat)(fr:Nat×Nat)(hfr0:fr.2≤vs.size∧fr.1≤fr.2):
    γ.le (γ.asPD w.heap.size T vs)∧Frame γ H w (γ.asPD w.heap.size T vs) H (w.alloc (.cells vs T fr))∧Inv G (γ.asPD w.heap.size T vs) H (w.alloc (.cells vs T fr)):=by
 have hle:=Gh.le_seal I (Nat.le_refl _) T vs
 have hne:∀b o v,γ.mem b o=some v→b≠w.heap.size:=fun b o v h=>by have:=I.lt_of_mem h;omega
 have hmem:∀b o,b≠w.heap.size→(γ.asPD w.heap.size T vs).mem b o=γ.mem b o:=fun b o h=>by simp[Gh.asPD,h]
 refine⟨hle,⟨rfl,rfl,rfl,by simp,fun b hb _=>?_,fun b o hb _=>hmem b o (by omega),fun b hb=>.inl hb,fun _ _ hb=>.inl hb⟩,?_⟩
 ·rw[heap_alloc,if_neg (by omega)];exact⟨fun _=>rfl,.refl _ _⟩
 ·constructor
  ·have:=I.size
   show γ.base≤(w.alloc (.cells vs T fr)).heap.size
   simp;omega
  ·intro b T' n hb
   have hb:(if b=w.heap.size then some (T,vs.size) else γ.tys b)=some (T',n):=hb
   by_cases he:b=w.heap.size
   ·rw[if_pos he] at hb
    cases hb
    exact⟨vs,fr,by rw[heap_alloc,if_pos he],rfl,hfr0⟩
   ·rw[if_neg he] at hb
    obtain⟨us,fr',h2,h3⟩:=I.tys b T' n hb
    exact⟨us,fr',by rw[heap_alloc,if_neg he];exact h2,h3⟩
  ·exact I.rowb
  ·intro b o v h
   by_cases hb:b=w.heap.size
   ·subst hb
    have h:vs[o]? =some v:=by simpa[Gh.asPD] using h
    have hh:(w.alloc (.cells vs T fr)).heap[w.heap.size]? =some (.cells vs T fr):=by rw[heap_alloc,if_pos rfl]
    unfold World.cell?
    simp only[hh]
    exact h
   ·rw[hmem b o hb] at h
    rw[cell_eq (w:=w) (by rw[heap_alloc,if_neg hb])]
    exact I.mem b o v h
  ·intro g cs hg j c hc
   obtain⟨h1,v,h2,h3⟩:=I.globs g cs hg j c hc
   exact⟨h1,v,hle.mem _ _ _ h2,h3.mono hle.mem⟩
  ·exact I.lenB
  ·exact I.nodup
  ·intro i b cs hb hc
   obtain⟨vs',T',fr',a1,a2,a3⟩:=I.box i b cs hb hc
   have:=I.lt_of_box (List.mem_of_getElem? hb)
   exact⟨vs',T',fr',by rw[heap_alloc,if_neg (by omega)];exact a1,a2.mono hle,a3⟩
  ·intro b o hb
   have:=I.lt_of_box hb
   rw[hmem b o (by omega)]
   exact I.boxmem b o hb
  ·exact I.lenT
  ·intro t row f h1 h2
   obtain⟨r,a1,a2⟩:=I.row t row f h1 h2
   refine⟨r,a1,a2.keep hle.tys (fun b cap hr hlt=>?_) (fun b cap hr hlt o=>?_) (fun b cap hr hlt hb=>hb)⟩
   ·have:=I.lt_of_free ⟨row,f,cap,h1,h2,hr▸a1,hlt⟩
    rw[heap_alloc,if_neg (by omega)]
   ·have:=I.lt_of_free ⟨row,f,cap,h1,h2,hr▸a1,hlt⟩
    exact hmem b o (by omega)
  ·exact I.rowmax
  ·exact I.free
def Gh.asPD0(γ:Gh)(b:Nat)(vs:Array Value):Gh:={γ with mem:=fun c o=>if c=b then vs[o]? else γ.mem c o}
theorem Gh.le_seal0(I:Inv G γ H w){b:Nat}(hb:w.heap.size≤b)(vs:Array Value):γ.le (γ.asPD0 b vs):=
 ⟨rfl,fun _ _ h=>h,fun c o v h=>by
  have:=I.lt_of_mem h
  show(if c=b then vs[o]? else γ.mem c o)=some v
  rw[if_neg (by omega)];exact h,fun _ _ h=>h,fun t r h=>⟨r,h,rfl,rfl,fun _ _ h=>h⟩⟩
theorem Inv.newRow0(I:Inv G γ H w)(vs:Array Value)(T:Nat)(fr:Nat×Nat):
    γ.le (γ.asPD0 w.heap.size vs)∧Frame γ H w (γ.asPD0 w.heap.size vs) H (w.alloc (.cells vs T fr))∧Inv G (γ.asPD0 w.heap.size vs) H (w.alloc (.cells vs T fr)):=by
 have hle:=Gh.le_seal0 I (Nat.le_refl _) vs
 have hne:∀b o v,γ.mem b o=some v→b≠w.heap.size:=fun b o v h=>by have:=I.lt_of_mem h;omega
 have hmem:∀b o,b≠w.heap.size→(γ.asPD0 w.heap.size vs).mem b o=γ.mem b o:=fun b o h=>by simp[Gh.asPD0,h]
 refine⟨hle,⟨rfl,rfl,rfl,by simp,fun b hb _=>?_,fun b o hb _=>hmem b o (by omega),fun b hb=>.inl hb,fun _ _ hb=>.inl hb⟩,?_⟩
 ·rw[heap_alloc,if_neg (by omega)];exact⟨fun _=>rfl,.refl _ _⟩
 ·constructor
  ·have:=I.size
   show γ.base≤(w.alloc (.cells vs T fr)).heap.size
   simp;omega
  ·intro b T' n hb
   have:=I.lt_of_tys hb
   obtain⟨us,fr',h2,h3⟩:=I.tys b T' n hb
   exact⟨us,fr',by rw[heap_alloc,if_neg (by omega)];exact h2,h3⟩
  ·exact I.rowb
  ·intro b o v h
   by_cases hb:b=w.heap.size
   ·subst hb
    have h:vs[o]? =some v:=by simpa[Gh.asPD0] using h
    have hh:(w.alloc (.cells vs T fr)).heap[w.heap.size]? =some (.cells vs T fr):=by rw[heap_alloc,if_pos rfl]
    unfold World.cell?
    simp only[hh]
    exact h
   ·rw[hmem b o hb] at h
    rw[cell_eq (w:=w) (by rw[heap_alloc,if_neg hb])]
    exact I.mem b o v h
  ·intro g cs hg j c hc
   obtain⟨h1,v,h2,h3⟩:=I.globs g cs hg j c hc
   exact⟨h1,v,hle.mem _ _ _ h2,h3.mono hle.mem⟩
  ·exact I.lenB
  ·exact I.nodup
  ·intro i b cs hb hc
   obtain⟨vs',T',fr',a1,a2,a3⟩:=I.box i b cs hb hc
   have:=I.lt_of_box (List.mem_of_getElem? hb)
   exact⟨vs',T',fr',by rw[heap_alloc,if_neg (by omega)];exact a1,a2.mono hle,a3⟩
  ·intro b o hb
   have:=I.lt_of_box hb
   rw[hmem b o (by omega)]
   exact I.boxmem b o hb
  ·exact I.lenT
  ·intro t row f h1 h2
   obtain⟨r,a1,a2⟩:=I.row t row f h1 h2
   refine⟨r,a1,a2.keep hle.tys (fun b cap hr hlt=>?_) (fun b cap hr hlt o=>?_) (fun b cap hr hlt hb=>hb)⟩
   ·have:=I.lt_of_free ⟨row,f,cap,h1,h2,hr▸a1,hlt⟩
    rw[heap_alloc,if_neg (by omega)]
   ·have:=I.lt_of_free ⟨row,f,cap,h1,h2,hr▸a1,hlt⟩
    exact hmem b o (by omega)
  ·exact I.rowmax
  ·exact I.free
theorem Inv.drew(I:Inv G γ H w):Inv G γ H w.drew:=⟨I.size,I.tys,I.rowb,I.mem,I.globs,I.lenB,I.nodup,I.box,I.boxmem,I.lenT,I.row,I.rowmax,I.free⟩
theorem Frame.drew(γ:Gh)(H:Hp)(w:World):Frame γ H w γ H w.drew:=⟨rfl,rfl,rfl,Nat.le_refl _,fun _ _ _=>⟨fun _=>rfl,.refl _ _⟩,fun _ _ _ _=>rfl,fun _ h=>.inl h,fun _ _ h=>.inl h⟩
theorem getElem?_splice(l:List D)(off:Nat)(cs:List D)(h:off+cs.length≤l.length)(j:Nat):
    (splice l off cs)[j]? =if j<off then l[j]? else if j<off+cs.length then cs[j-off]? else l[j]?:=by
 unfold splice
 by_cases h1:j<off
 ·rw[if_pos h1,List.append_assoc,List.getElem?_append_left (by simp;omega),List.getElem?_take,if_pos h1]
 ·rw[if_neg h1,List.append_assoc,List.getElem?_append_right (by simp;omega)]
  have hl:(l.take off).length=off:=by simp;omega
  rw[hl]
  by_cases h2:j<off+cs.length
  ·rw[if_pos h2,List.getElem?_append_left (by omega)]
  ·rw[if_neg h2,List.getElem?_append_right (by omega),List.getElem?_drop]
   congr 1;omega
theorem mem_splice{l:List D}{off:Nat}{cs:List D}{c:D}(h:c∈splice l off cs):c∈l∨c∈cs:=by
 unfold splice at h
 rcases List.mem_append.1 h with h |h
 ·rcases List.mem_append.1 h with h |h
  ·exact .inl (List.mem_of_mem_take h)
  ·exact .inr h
 ·exact .inl (List.mem_of_mem_drop h)
theorem length_splice(l:List D)(off:Nat)(cs:List D)(h:off+cs.length≤l.length):(splice l off cs).length=l.length:=by
 unfold splice;simp;omega
theorem RepB.splice{γ:Gh}{vs:Array Value}{cs:List D}(r:RepB γ vs cs){us:List Value}{ds:List D}(q:RepL γ us.toArray ds)(off:Nat)(h:off+ds.length≤cs.length):
    RepB γ (vs.toList.take off++us++vs.toList.drop (off+us.length)).toArray (Vs.splice cs off ds):=by
 have hul:us.length=ds.length:=by simpa using q.1
 have hvl:cs.length≤vs.toList.length:=by simpa using r.1
 have hvs:cs.length≤vs.size:=r.1
 refine⟨by rw[length_splice _ _ _ h];simp;omega,fun i d hd=>?_⟩
 rw[getElem?_splice _ _ _ h] at hd
 have hg:((vs.toList.take off++us++vs.toList.drop (off+us.length)).toArray.getD i undef)=((vs.toList.take off++us++vs.toList.drop (off+us.length))[i]?).getD undef:=by
  simp[Array.getD_eq_getD_getElem?]
 rw[hg]
 by_cases h1:i<off
 ·rw[if_pos h1] at hd
  rw[List.append_assoc,List.getElem?_append_left (by simp;omega),List.getElem?_take,if_pos h1]
  have:=r.2 i d hd
  simpa[Array.getD_eq_getD_getElem?] using this
 ·rw[if_neg h1] at hd
  rw[List.append_assoc,List.getElem?_append_right (by simp;omega)]
  have hl:(vs.toList.take off).length=off:=by simp;omega
  rw[hl]
  by_cases h2:i<off+ds.length
  ·rw[if_pos h2] at hd
   rw[List.getElem?_append_left (by omega)]
   have:=q.2 (i-off) d hd
   simpa[Array.getD_eq_getD_getElem?] using this
  ·rw[if_neg h2] at hd
   rw[List.getElem?_append_right (by omega),List.getElem?_drop]
   have e:off+us.length+(i-off-us.length)=i:=by omega
   rw[e]
   have:=r.2 i d hd
   simpa[Array.getD_eq_getD_getElem?] using this
theorem Inv.store(I:Inv G γ H w){i b off:Nat}{cs:List D}(hb:γ.boxes[i]? =some b)(hc:H.bx[i]? =some cs){us:List Value}{ds:List D}(q:RepL γ us.toArray ds)
    (h1:∀d∈ds,d.one=true) (hfit:off+ds.length≤cs.length) {vs:Array Value} {T:Nat} {fr:Nat×Nat} (hw:w.heap[b]? =some (.cells vs T fr)) (hfr:clear fr 0 vs.size) (hv:RepB γ vs cs) (hmc:isMapC cs=false):
    Frame γ H w γ {H with bx:=H.bx.set i (Vs.splice cs off ds)} (w.setRow b (vs.toList.take off++us++vs.toList.drop (off+us.length)).toArray)∧
     Inv G γ {H with bx:=H.bx.set i (Vs.splice cs off ds)} (w.setRow b (vs.toList.take off++us++vs.toList.drop (off+us.length)).toArray):=by
 have hmem:b∈γ.boxes:=List.mem_of_getElem? hb
 have hi:i<H.bx.length:=(List.getElem?_eq_some_iff.1 hc).1
 have hfree:∀t c,Free γ {H with bx:=H.bx.set i (Vs.splice cs off ds)} t c→Free γ H t c:=fun t c h=>Free.congr (fun _ _ h=>h) (fun _ _ h=>h) h
 refine⟨⟨rfl,rfl,rfl,by simp[World.setRow],fun c _ ho=>by rw[setRow_other w b c _ (fun e=>ho (.inl (e▸hmem)))];exact⟨fun _=>rfl,.refl _ _⟩,fun _ _ _ _=>rfl,fun c hc'=>.inl hc',fun t c h=>.inl (hfree t c h)⟩,?_⟩
 ·constructor
  ·have:=I.size
   simpa[World.setRow] using this
  ·intro c T' n hc'
   obtain⟨us',fr',h2,h3⟩:=I.tys c T' n hc'
   by_cases hcb:c=b
   ·subst hcb
    rw[hw] at h2
    cases h2
    have h5:us.length=ds.length:=by simpa using q.1
    have h6:=hv.1
    refine⟨_,_,setRow_heap w c vs _ _ _ hw,?_,h3.2⟩
    rw[←h3.1]
    simp;omega
   ·exact⟨us',fr',(setRow_other w b c _ hcb).trans h2,h3⟩
  ·exact I.rowb
  ·intro c o v h
   have hne:c≠b:=fun e=>by subst e;rw[I.boxmem c o hmem] at h;cases h
   rw[cell_eq (w:=w) (setRow_other w b c _ hne)]
   exact I.mem c o v h
  ·exact I.globs
  ·simp[I.lenB]
  ·exact I.nodup
  ·intro j c cs' hj hcs
   by_cases hij:i=j
   ·subst hij
    rw[hb] at hj
    cases hj
    have hcs:(H.bx.set i (Vs.splice cs off ds))[i]? =some cs':=hcs
    rw[List.getElem?_set_self hi] at hcs
    cases hcs
    have hsz:(vs.toList.take off++us++vs.toList.drop (off+us.length)).toArray.size=vs.size:=by
     have h2:us.length=ds.length:=by simpa using q.1
     have h3:=hv.1
     simp;omega
    have hall:∀c∈Vs.splice cs off ds,c.one=true:=fun c hc'=>by
     rcases mem_splice hc' with h |h
     ·obtain⟨_,_,_,_,_,a3,_⟩:=I.box i b cs hb hc
      exact a3 hmc c h
     ·exact h1 c h
    exact⟨_,T,fr,by rw[viewC_of (isMapC_one hall)];exact setRow_heap w b vs _ T fr hw,hv.splice q off hfit,fun _=>hall,fun _=>by rw[hsz];exact hfr⟩
   ·have hcs:(H.bx.set i (Vs.splice cs off ds))[j]? =some cs':=hcs
    rw[List.getElem?_set_ne hij] at hcs
    obtain⟨vs',T',fr',a1,a2,a3⟩:=I.box j c cs' hj hcs
    have hne:c≠b:=fun e=>by
     subst e
     have h1:=(List.getElem?_eq_some_iff.1 hb).1
     exact hij ((List.getElem?_inj h1 I.nodup).1 (hb.trans hj.symm))
    exact⟨vs',T',fr',by rw[setRow_other w b c _ hne];exact a1,a2,a3⟩
  ·exact I.boxmem
  ·exact I.lenT
  ·intro t row f h1 h2
   obtain⟨r,a1,a2⟩:=I.row t row f h1 h2
   refine⟨r,a1,?_⟩
   refine a2.keep (fun _ _ h=>h) (fun c cap hr hlt=>?_) (fun _ _ _ _ _=>rfl) (fun c cap hr hlt h=>h)
   have hne:c≠b:=fun e=>by
    subst e
    subst hr
    obtain⟨cur,_,_,_,_,_,_,hnb⟩:=a2.2 hlt
    exact hnb hmem
   exact setRow_other w b c _ hne
  ·exact I.rowmax
  ·intro t t' c h h'
   exact I.free t t' c (hfree t c h) (hfree t' c h')
theorem Inv.addTok(I:Inv G γ H w)(row:Row)(f:Nat)(r:Option (Nat×Nat))(h1:row.st f=some r)(hmx:∀n x,row.st n=some x→n≤f)
    (hok:RowOk γ w row f r) (hno:∀b cap,r=some (b,cap)→f=cap) (hbase:∀n b cap,row.st n=some (some (b,cap))→γ.base≤b):
    γ.le {γ with rows:=γ.rows++[row]}∧Frame γ H w {γ with rows:=γ.rows++[row]} {H with tk:=H.tk++[f]} w∧Inv G {γ with rows:=γ.rows++[row]} {H with tk:=H.tk++[f]} w:=by
 have hle:γ.le {γ with rows:=γ.rows++[row]}:=⟨rfl,fun _ _ h=>h,fun _ _ _ h=>h,fun _ _ h=>h,fun t r h=>⟨r,by
  have hi:=(List.getElem?_eq_some_iff.1 h).1
  show(γ.rows++[row])[t]? =some r
  rw[List.getElem?_append_left hi];exact h,rfl,rfl,fun _ _ h=>h⟩⟩
 have split :∀(t:Nat) row' f',(γ.rows++[row])[t]? =some row'→(H.tk++[f])[t]? =some f'→(γ.rows[t]? =some row'∧H.tk[t]? =some f')∨(row'=row∧f'=f):=by
  intro t row' f' a b
  by_cases ht:t<γ.rows.length
  ·rw[List.getElem?_append_left ht] at a
   rw[List.getElem?_append_left (by rw[←I.lenT];exact ht)] at b
   exact .inl ⟨a,b⟩
  ·have :t=γ.rows.length:=by
    have:=(List.getElem?_eq_some_iff.1 a).1
    simp at this;omega
   subst this
   rw[List.getElem?_append_right (Nat.le_refl _)] at a
   rw[I.lenT,List.getElem?_append_right (Nat.le_refl _)] at b
   simp at a b
   exact .inr ⟨a.symm,b.symm⟩
 have hfree:∀t b,Free {γ with rows:=γ.rows++[row]} {H with tk:=H.tk++[f]} t b→Free γ H t b:=by
  rintro t b ⟨row',f',cap,a1,a2,a3,a4⟩
  rcases split t row' f' a1 a2 with⟨b1,b2⟩ |⟨rfl,rfl⟩
  ·exact⟨row',f',cap,b1,b2,a3,a4⟩
  ·rw[h1] at a3
   cases a3
   have:=hno b cap rfl
   omega
 refine⟨hle,⟨rfl,rfl,rfl,Nat.le_refl _,fun _ _ _=>⟨fun _=>rfl,.refl _ _⟩,fun _ _ _ _=>rfl,fun b hb=>.inl hb,fun t b h=>.inl (hfree t b h)⟩,?_⟩
 ·constructor
  ·exact I.size
  ·intro b T' n hb
   exact I.tys b T' n hb
  ·intro t row' n b cap ht hs
   have ht:(γ.rows++[row])[t]? =some row':=ht
   by_cases hlt:t<γ.rows.length
   ·rw[List.getElem?_append_left hlt] at ht
    exact I.rowb t row' n b cap ht hs
   ·rw[List.getElem?_append_right (by omega)] at ht
    have :row=row':=by
     have h0:t-γ.rows.length=0:=by
      have:=(List.getElem?_eq_some_iff.1 ht).1
      simp at this;omega
     rw[h0] at ht
     simpa using ht
    subst this
    exact hbase n b cap hs
  ·exact I.mem
  ·exact I.globs
  ·exact I.lenB
  ·exact I.nodup
  ·intro i b cs hb hc
   obtain⟨vs',T',fr',a1,a2,a3⟩:=I.box i b cs hb hc
   exact⟨vs',T',fr',a1,a2.mono hle,a3⟩
  ·exact I.boxmem
  ·simp[I.lenT]
  ·intro t row' f' a b
   rcases split t row' f' a b with⟨b1,b2⟩ |⟨rfl,rfl⟩
   ·obtain⟨r',c1,c2⟩:=I.row t row' f' b1 b2
    exact⟨r',c1,c2.keep hle.tys (fun _ _ _ _=>rfl) (fun _ _ _ _ _=>rfl) (fun _ _ _ _ h=>h)⟩
   ·exact⟨r,h1,hok.keep hle.tys (fun _ _ _ _=>rfl) (fun _ _ _ _ _=>rfl) (fun _ _ _ _ h=>h)⟩
  ·intro t row' f' a b
   rcases split t row' f' a b with⟨b1,b2⟩ |⟨rfl,rfl⟩
   ·exact I.rowmax t row' f' b1 b2
   ·exact hmx
  ·intro t t' b h h'
   exact I.free t t' b (hfree t b h) (hfree t' b h')
def Row.grow(row:Row)(f' b cap:Nat):Row:={row with st:=fun n=>if n=f' then some (some (b,cap)) else row.st n}
def Gh.grow(γ:Gh)(t:Nat)(row:Row)(f' b cap:Nat)(cur:Array Value):Gh:=
 {γ with mem:=fun c o=>if c=b then(if o<f'*row.sz then cur[o]? else none) else γ.mem c o,rows:=γ.rows.set t (row.grow f' b cap),tys:=fun c=>if c=b then some (row.e,cap*row.sz) else γ.tys c}
theorem Inv.rowStep(I:Inv G γ H w){t f:Nat}{row:Row}(h1:γ.rows[t]? =some row)(h2:H.tk[t]? =some f){b cap f':Nat}{cur:Array Value}{fr:Nat×Nat}(hf:f<f')(hcap:f'≤cap)(hmax:cap≤maxLen)
    (hsz:cur.size=cap*row.sz) {w1:World} (hw1:w1.heap[b]? =some (.cells cur row.e fr)) (hun:clear fr (f'*row.sz) cur.size) (hoth:∀c,c≠b→w1.heap[c]? =w.heap[c]?) (hnb:b∉γ.boxes)
    (hold:∀o v,γ.mem b o=some v→o<f'*row.sz∧cur[o]? =some v) (hfree:∀t',t'≠t→¬Free γ H t' b) (hown:b=w.heap.size∨Free γ H t b) (hty:∀x,γ.tys b=some x→x=(row.e,cap*row.sz)) (hfr0:fr.2≤cap*row.sz∧fr.1≤fr.2)
    (hos:w1.os=w.os) (htape:w1.tape=w.tape) (hout:w1.output=w.output) (hsize:w.heap.size≤w1.heap.size):
    γ.le (γ.grow t row f' b cap cur)∧Frame γ H w (γ.grow t row f' b cap cur) {H with tk:=H.tk.set t f'} w1∧Inv G (γ.grow t row f' b cap cur) {H with tk:=H.tk.set t f'} w1:=by
 have htl:t<γ.rows.length:=(List.getElem?_eq_some_iff.1 h1).1
 have hmx:=I.rowmax t row f h1 h2
 have hmo:∀c o,c≠b→(γ.grow t row f' b cap cur).mem c o=γ.mem c o:=fun c o h=>by simp[Gh.grow,h]
 have hle:γ.le (γ.grow t row f' b cap cur):=by
  refine⟨rfl,fun c x h=>?_,fun c o v h=>?_,fun _ _ h=>h,fun s r hr=>?_⟩
  ·show(if c=b then some (row.e,cap*row.sz) else γ.tys c)=some x
   by_cases hc:c=b
   ·subst hc
    rw[if_pos rfl,hty x h]
   ·rw[if_neg hc];exact h
  ·by_cases hc:c=b
   ·subst hc
    obtain⟨a1,a2⟩:=hold o v h
    simp[Gh.grow,a1,a2]
   ·rw[hmo c o hc];exact h
  ·by_cases hs:t=s
   ·subst hs
    rw[h1] at hr
    cases hr
    refine⟨row.grow f' b cap,by simp[Gh.grow,htl],rfl,rfl,fun n x hx=>?_⟩
    have:=hmx n x hx
    simp only[Row.grow]
    rw[if_neg (by omega)];exact hx
   ·exact⟨r,by simp only[Gh.grow];rw[List.getElem?_set_ne hs];exact hr,rfl,rfl,fun _ _ h=>h⟩
 have split :∀(s:Nat) row' g,(γ.grow t row f' b cap cur).rows[s]? =some row'→(H.tk.set t f')[s]? =some g→(s=t∧row'=row.grow f' b cap∧g=f')∨(s≠t∧γ.rows[s]? =some row'∧H.tk[s]? =some g):=by
  intro s row' g a c
  simp only[Gh.grow] at a
  by_cases hs:t=s
  ·subst hs
   rw[List.getElem?_set_self htl] at a
   rw[List.getElem?_set_self (by rw[←I.lenT];exact htl)] at c
   cases a;cases c
   exact .inl ⟨rfl,rfl,rfl⟩
  ·rw[List.getElem?_set_ne hs] at a c
   exact .inr ⟨Ne.symm hs,a,c⟩
 have hfr:∀s c,Free (γ.grow t row f' b cap cur) {H with tk:=H.tk.set t f'} s c→(s=t∧c=b)∨(s≠t∧Free γ H s c):=by
  rintro s c ⟨row',g,cap',a1,a2,a3,a4⟩
  rcases split s row' g a1 a2 with⟨rfl,rfl,rfl⟩ |⟨b0,b1,b2⟩
  ·simp only[Row.grow,if_pos] at a3
   cases a3
   exact .inl ⟨rfl,rfl⟩
  ·exact .inr ⟨b0,row',g,cap',b1,b2,a3,a4⟩
 refine⟨hle,⟨hos,htape,hout,hsize,fun c hc ho=>?_,fun c o hc ho=>?_,fun c hc=>.inl hc,fun s c h=>?_⟩,?_⟩
 ·have :w1.heap[c]? =w.heap[c]?:=by
   refine hoth c fun e=>?_
   subst e
   rcases hown with h |h
   ·omega
   ·exact ho (.inr ⟨t,h⟩)
  rw[this];exact⟨fun _=>rfl,.refl _ _⟩
 ·refine hmo c o fun e=>?_
  subst e
  rcases hown with h |h
  ·omega
  ·exact ho (.inr ⟨t,h⟩)
 ·rcases hfr s c h with⟨rfl,rfl⟩ |⟨_,h⟩
  ·rcases hown with h |h
   ·exact .inr (by omega)
   ·exact .inl h
  ·exact .inl h
 ·constructor
  ·exact Nat.le_trans I.size hsize
  ·intro c T' n hc
   have hc:(if c=b then some (row.e,cap*row.sz) else γ.tys c)=some (T',n):=hc
   by_cases he:c=b
   ·rw[if_pos he] at hc
    cases hc
    subst he
    exact⟨cur,fr,hw1,hsz,hfr0⟩
   ·rw[if_neg he] at hc
    obtain⟨us,fr',h2,h3⟩:=I.tys c T' n hc
    exact⟨us,fr',(hoth c he).trans h2,h3⟩
  ·intro s row' n c cap' ht hs
   simp only[Gh.grow] at ht
   by_cases hst:t=s
   ·subst hst
    rw[List.getElem?_set_self htl] at ht
    cases ht
    simp only[Row.grow] at hs
    split at hs
    ·cases hs
     rcases hown with h |⟨row2,f2,cap2,q1,q2,q3,_⟩
     ·have:=I.size
      show γ.base≤_
      omega
     ·exact I.rowb t row2 _ _ _ q1 q3
    ·exact I.rowb t row n c cap' h1 hs
   ·rw[List.getElem?_set_ne hst] at ht
    exact I.rowb s row' n c cap' ht hs
  ·intro c o v h
   by_cases hc:c=b
   ·subst hc
    have h:(if o<f'*row.sz then cur[o]? else none)=some v:=by simpa[Gh.grow] using h
    split at h
    ·unfold World.cell?
     simp only[hw1]
     exact h
    ·cases h
   ·rw[hmo c o hc] at h
    rw[cell_eq (w:=w) (hoth c hc)]
    exact I.mem c o v h
  ·intro g cs hg j c hc
   obtain⟨a1,v,a2,a3⟩:=I.globs g cs hg j c hc
   exact⟨a1,v,hle.mem _ _ _ a2,a3.mono hle.mem⟩
  ·exact I.lenB
  ·exact I.nodup
  ·intro i c cs hb hc
   obtain⟨vs',T',fr',a1,a2,a3⟩:=I.box i c cs hb hc
   have hne:c≠b:=fun e=>hnb (e▸List.mem_of_getElem? hb)
   exact⟨vs',T',fr',by rw[hoth c hne];exact a1,a2.mono hle,a3⟩
  ·intro c o hc
   have hne:c≠b:=fun e=>hnb (e▸hc)
   rw[hmo c o hne]
   exact I.boxmem c o hc
  ·simp[Gh.grow,I.lenT]
  ·intro s row' g a c
   rcases split s row' g a c with⟨rfl,rfl,rfl⟩ |⟨b0,b1,b2⟩
   ·refine⟨some (b,cap),by simp[Row.grow],⟨hcap,by simp[Gh.grow,Row.grow]⟩,fun _=>⟨cur,fr,hw1,hun,hsz,hmax,fun o ho=>?_,hnb⟩⟩
    have ho:g*row.sz≤o:=ho
    simp only[Gh.grow,if_true]
    rw[if_neg (by omega)]
   ·obtain⟨r,c1,c2⟩:=I.row s row' g b1 b2
    refine⟨r,c1,c2.keep hle.tys (fun d cap' hr hlt=>?_) (fun d cap' hr hlt o=>?_) (fun _ _ _ _ h=>h)⟩
    ·refine hoth d fun e=>?_
     subst e
     exact hfree s b0 ⟨row',g,cap',b1,b2,hr▸c1,hlt⟩
    ·refine hmo d o fun e=>?_
     subst e
     exact hfree s b0 ⟨row',g,cap',b1,b2,hr▸c1,hlt⟩
  ·intro s row' g a c n x hx
   rcases split s row' g a c with⟨rfl,rfl,rfl⟩ |⟨b0,b1,b2⟩
   ·simp only[Row.grow] at hx
    split at hx
    ·omega
    ·have:=hmx n x hx;omega
   ·exact I.rowmax s row' g b1 b2 n x hx
  ·intro s s' c h h'
   rcases hfr s c h with⟨e1,e2⟩ |⟨hn,q⟩
   ·rcases hfr s' c h' with⟨e3,_⟩ |⟨hn',q'⟩
    ·rw[e1,e3]
    ·exact(hfree s' hn' (e2▸q')).elim
   ·rcases hfr s' c h' with⟨_,e2⟩ |⟨hn',q'⟩
    ·exact(hfree s hn (e2▸q)).elim
    ·exact I.free s s' c q q'
end Go.Vs
namespace Go.Vs
def ofV1:Value→Option PD
 | .bool b=>some (.bool b)
 | .int k n=>some (.int k n)
 | .string s=>some (.str s.data.toList)
 | .pointer none=>some .nilp
 | .slice none 0 0=>some .nils
 | .nilFunc=>some .nilf
 | .nilIface=>some .nili
 | .map none=>some .nilm
 |_=>none
def ofV:Value→Option PD
 | .agg cs=>(mapO ofV1 cs.toList).map .agg
 |v=>ofV1 v
def opdOf:Operand→Option Opd
 | .tmp t=>some (.t t)
 | .const v=>(ofV v).map fun x=>.c (.p x)
 | .global g=>some (.c (.glob g 0))
 | .func f=>some (.c (.fn f [] []))
def szOf(P:Program)(t:TypeId):Option Nat:=(P.info? t).map (·.size)
def cellN(P:Program)(t:TypeId):Option (Option Nat):=
 match P.underlying t,szOf P t with
 |some (.struct _),some n=>some (some n)
 |some (.array _ _),some n=>some (some n)
 |some _,some _=>some none
 |_,_=>none
def zeroOf(P:Program)(t:TypeId):Option PD:=
 match P.info? t with
 |some i=>match i.zero with
  |some z=>ofV z
  |none=>none
 |none=>none
def tagOf(P:Program)(t:TypeId):Option Nat:=
 match P.underlying t with
 |some .bool=>some 0
 |some (.int _)=>some 1
 |some .string=>some 2
 |_=>none
def kindD:TypeDesc→Option Nat
 | .bool=>some 0
 | .int k=>some (kindI k)
 | .string=>some 2
 |_=>none
def kindOf(P:Program)(t:TypeId):Option Nat:=(P.underlying t).bind kindD
def flatTags(P:Program)(i:Nat):List Field→Option (List Nat)
 |[]=>some []
 |f::r=>match tagOf P f.type with
  |some t=>if f.offset=i∧(f.name== "_")=false then(flatTags P (i+1) r).map (t:: ·) else none
  |none=>none
def partsOf(P:Program)(place:Nat→Option (Nat×Nat)):List (Nat×Operand)→Option (List (Nat×Nat×Opd))
 |[]=>some []
 |(i,x)::r=>match place i,opdOf x with
  |some (o,n),some y=>(partsOf P place r).map ((o,n,y):: ·)
  |_,_=>none
def partsE:List (Nat×Operand)→Option (List (Nat×Opd))
 |[]=>some []
 |(i,x)::r=>match opdOf x with
  |some y=>(partsE r).map ((i,y):: ·)
  |none=>none
def optO:Option Operand→Option (Option Opd)
 |none=>some none
 |some x=>(opdOf x).map some
def fieldPlaces(P:Program)(fields:List Field):Option (List (Nat×Nat)):=mapO (fun f=>(szOf P f.type).map fun n=>(f.offset,n)) fields
def appOk(du:TypeDesc)(e:TypeId)(i:TypeInfo)(z:Value):Bool:=
 (match du with | .slice e'=>e'==e | .string=>i.size==1 |_=>false)&&z.cells.size==i.size&&decide (0<i.size)
def callOf(P:Program)(c:Call):Option SK:=
 match c.callee with
 | .value f=>match opdOf f,mapO opdOf c.args.toList with
  |some g,some as=>some (.call g as)
  |_,_=>none
 | .invoke _ _=>none
 | .builtin b=>match b,c.args.toList,c.argTypes.toList with
  | .len,[x],[t]=>match P.underlying t,opdOf x with
   |some .string,some y=>some (.len 0 y)
   |some (.slice _),some y=>some (.len 1 y)
   |_,_=>none
  | .append,[s,x],[t,u]=>match P.underlying t,P.underlying u,opdOf s,opdOf x with
   |some (.slice e),some du,some s',some x'=>match P.info? e with
    |some i=>match i.zero with
     |some z=>if appOk du e i z then some (.append e i.size i.bytes s' x') else none
     |none=>none
    |none=>none
   |_,_,_,_=>none
  | .unsafeSliceData,[x],_=>(opdOf x).map .sdata
  | .unsafeString,[x,n],[t,_]=>match P.underlying t,opdOf x,opdOf n with
   |some (.pointer e),some x',some n'=>if P.cellsOf e==1 then some (.ustr e x' n') else none
   |_,_,_=>none
  | .max,[x,y],_=>match opdOf x,opdOf y with
   |some a,some b=>some (.minmax true a b)
   |_,_=>none
  | .min,[x,y],_=>match opdOf x,opdOf y with
   |some a,some b=>some (.minmax false a b)
   |_,_=>none
  |_,_,_=>none
def isC:Operand→Bool
 | .const _=>true
 |_=>false
def kOf(P:Program):Op→Option SK
 | .move x=>(opdOf x).map .move
 | .assign x=>(opdOf x).map .move
 | .pick c a b=>match opdOf c,opdOf a,opdOf b with
  |some c,some a,some b=>some (.pick c a b)
  |_,_,_=>none
 | .alloc e=>(zeroOf P e).map fun z=>.alloc z.cells
 | .box _ x=>(opdOf x).map .box
 | .build t parts=>match P.underlying t,zeroOf P t with
  |some (.struct fs),some (.agg zs)=>match fieldPlaces P fs.toList with
   |some pl=>(partsOf P (pl[·]?) parts.toList).map (.build zs)
   |none=>none
  |some (.array _ e),some (.agg zs)=>match szOf P e with
   |some n=>(partsOf P (fun i=>some (i*n,n)) parts.toList).map (.build zs)
   |none=>none
  |_,_=>none
 | .buildSlice t len parts=>match P.underlying t with
  |some (.slice e)=>match szOf P e,zeroOf P e,partsE parts.toList with
   |some n,some z,some ps=>if len*n≤16777216∧0<n then some (.bslice e n len z ps) else none
   |_,_,_=>none
  |_=>none
 | .load t x=>match cellN P t,opdOf x with
  |some n,some y=>some (.load n y)
  |_,_=>none
 | .store t a v=>match szOf P t,opdOf a,opdOf v with
  |some n,some a,some v=>some (.store n a v)
  |_,_,_=>none
 | .nilCheck x=>(opdOf x).map .nilCheck
 | .binOp op t x y _=>match opdOf x,opdOf y,P.underlying t with
  |some a,some b,some (.int _)=>some (.bin op a b)
  |some a,some b,some .string=>some (.bin op a b)
  |some a,some b,some .bool=>if op= .eql∨op= .neq then some (.eqk 0 (op== .neq) a b) else none
  |some a,some b,some (.pointer _)=>if op= .eql∨op= .neq then some (.eqk 1 (op== .neq) a b) else none
  |some a,some b,some (.slice _)=>if op= .eql∨op= .neq then some (.eqk 2 (op== .neq) a b) else none
  |some a,some b,some (.func _ _ _)=>if op= .eql∨op= .neq then some (.eqk 3 (op== .neq) a b) else none
  |some a,some b,some (.interface _)=>if(op= .eql∨op= .neq)∧isC y=true then some (.eqk 4 (op== .neq) a b) else none
  |some a,some b,some (.struct fs)=>
   if(op= .eql∨op= .neq)∧P.stoodInHeld t=false∧P.eqGuardType P.depth t=false then(flatTags P 0 fs.toList).map fun ts=>.eqs (op== .neq) ts a b else none
  |_,_,_=>none
 | .unOp op _ x=>(opdOf x).map (.un op)
 | .convert s d x=>match P.underlying s,P.underlying d,opdOf x with
  |some (.int _),some (.int k),some y=>some (.conv k y)
  |some .string,some .string,some y=>some (.strid y)
  |some .string,some (.slice e),some y=>match P.underlying e with
   |some (.int .u8)=>some (.toBytes e y)
   |_=>none
  |some (.slice e),some .string,some y=>match P.underlying e with
   |some (.int .u8)=>some (.toStr y)
   |_=>none
  |_,_,_=>none
 | .makeFunc (.func f) first cap=>match mapO opdOf first.toList,mapO opdOf cap.toList with
  |some a,some c=>some (.mkfn f a c)
  |_,_=>none
 | .slice t x lo hi none=>match P.underlying t,opdOf x,optO lo,optO hi with
  |some .string,some y,some l,some h=>some (.slice 0 y l h)
  |some (.slice e),some y,some l,some h=>match szOf P e with
   |some (n+1)=>some (.slice (n+1) y l h)
   |_=>none
  |_,_,_,_=>none
 | .fieldAddr t x f=>match P.underlying t,opdOf x with
  |some (.struct fs),some y=>match fs[f]? with
   |some fd=>match szOf P fd.type with
    |some (_+1)=>some (.faddr y fd.offset)
    |_=>none
   |none=>none
  |_,_=>none
 | .field t x f=>match P.underlying t,opdOf x with
  |some (.struct fs),some y=>match fs[f]? with
   |some fd=>(cellN P fd.type).map fun n=>.field y fd.offset n
   |none=>none
  |_,_=>none
 | .indexAddr t x i=>match P.underlying t,opdOf x,opdOf i with
  |some (.array n e),some y,some j=>(szOf P e).map fun s=>.iaddr (some n) s y j
  |some (.slice e),some y,some j=>(szOf P e).map fun s=>.iaddr none s y j
  |_,_,_=>none
 | .index t x i=>match P.underlying t,opdOf x,opdOf i with
  |some (.array n e),some y,some j=>match szOf P e,cellN P e with
   |some s,some c=>some (.index (some (n,s,c.isSome)) y j)
   |_,_=>none
  |some .string,some y,some j=>some (.index none y j)
  |_,_,_=>none
 | .extract x i=>(opdOf x).map fun y=>.extract y i
 | .makeInterface t x=>match P.underlying t,opdOf x with
  |some (.interface _),_=>none
  |some _,some y=>some (.iface t y)
  |_,_=>none
 | .call c=>callOf P c
 | .makeMap t none=>match P.underlying t with
  |some (.map kt _)=>(kindOf P kt).map .mkmap
  |_=>none
 | .mapUpdate t m k v=>match P.underlying t,opdOf m,opdOf k,opdOf v with
  |some (.map kt _),some m',some k',some v'=>(kindOf P kt).map fun g=>.mapset g m' k' v'
  |_,_,_,_=>none
 | .insert t m k v=>match P.underlying t,opdOf m,opdOf k,opdOf v with
  |some (.map kt _),some m',some k',some v'=>(kindOf P kt).map fun g=>.mapins g m' k' v'
  |_,_,_,_=>none
 | .typeAssert x _ t ok=>match P.underlying t,zeroOf P t,opdOf x with
  |some (.interface _),_,_=>none
  |some _,some z,some y=>some (.tassert t z ok y)
  |_,_,_=>none
 | .lookup t m k ok=>match P.underlying t,opdOf m,opdOf k with
  |some (.map kt et),some m',some k'=>match kindOf P kt,zeroOf P et with
   |some g,some z=>some (.mapget g z ok m' k')
   |_,_=>none
  |_,_,_=>none
 |_=>none
def SK.isCall:SK→Bool
 | .call _ _ | .panic _=>true
 |_=>false
def callK:Op→Option (Option SK)
 | .call {callee:=.value f,args:=as,argTypes:=_}=>match opdOf f,mapO opdOf as.toList with
  |some g,some xs=>some (some (.call g xs))
  |_,_=>some none
 | .panic x=>some ((opdOf x).map .panic)
 |_=>none
def kOp(P:Program)(op:Op):SK:=
 match callK op with
 |some r=>r.getD .stuck
 |none=>match kOf P op with
  |some k=>if k.isCall then .stuck else k
  |none=>.stuck
def isPtr(P:Program)(t:TypeId):Bool:=match P.underlying t with
 |some (.pointer _)=>true
 |_=>false
def kOk(P:Program)(o:Oper):SK→Bool
 | .sdata _=>isPtr P o.type
 |_=>true
def kRaw(P:Program)(op:Op)(h:Option SK):SK:=
 match h with
 |some (.appendm _ _ _ _ _)=>match op,kOp P op with
  | .call {callee:=.builtin .append,args:=_,argTypes:=_},.append e sz b s x=>.appendm e sz b s x
  |_,k=>k
 |some (.allocB _ _)=>match op,kOp P op with
  | .alloc t,.alloc zs=>.allocB t zs
  |_,k=>k
 |some (.boxB _ _)=>match op,kOp P op with
  | .box t _,.box x=>.boxB t x
  |_,k=>k
 |_=>kOp P op
def kHint(P:Program)(o:Oper)(h:Option SK):SK:=if kOk P o (kRaw P o.op h) then kRaw P o.op h else .stuck
variable {P : Program} {G : Nat → Option (List PD)} {γ : Gh} {H : Hp} {w : World} {env : Env} {a : Act} {o : Oper}
theorem mapO_get{α β:Type}{f:α→Option β}:∀{l:List α} {l':List β},mapO f l=some l'→l'.length=l.length∧∀(i:Nat) x,l[i]? =some x→∃y,f x=some y∧l'[i]? =some y
 |[],l',h=>by cases h;exact⟨rfl,fun i x h=>by simp at h⟩
 |x::r,l',h=>by
  unfold mapO at h
  split at h
  ·rename_i b hb
   obtain⟨r',hr,rfl⟩:=Option.map_eq_some_iff.1 h
   obtain⟨h1,h2⟩:=mapO_get hr
   refine⟨by simp[h1],fun i y hy=>?_⟩
   match i with
   | 0=>simp only[List.getElem?_cons_zero,Option.some.injEq] at hy;subst hy;exact⟨b,hb,rfl⟩
   |i+1=>exact h2 i y (by simpa using hy)
  ·cases h
theorem mapO_back{α β:Type}{f:α→Option β}{l:List α}{l':List β}(h:mapO f l=some l'){i:Nat}{y:β}(hy:l'[i]? =some y):∃x,l[i]? =some x∧f x=some y:=by
 obtain⟨h1,h2⟩:=mapO_get h
 have hi:i<l.length:=by rw[←h1];exact(List.getElem?_eq_some_iff.1 hy).1
 obtain⟨y',a1,a2⟩:=h2 i _ (List.getElem?_eq_getElem hi)
 rw[hy] at a2
 cases a2
 exact⟨_,List.getElem?_eq_getElem hi,a1⟩
theorem ofV1_rep(m:Mem){v:Value}{d:PD}(h:ofV1 v=some d):RepP m v d∧d.one=true:=by
 unfold ofV1 at h
 split at h
 ·cases h;exact⟨.bool _,rfl⟩
 ·cases h;exact⟨.int _ _,rfl⟩
 ·rename_i s
  cases h
  have :s=⟨s.data.toList.toArray⟩:=by cases s;simp
  exact⟨by have h:=RepP.str (m:=m) s.data.toList;rwa [←this] at h,rfl⟩
 ·cases h;exact⟨.nilp,rfl⟩
 ·cases h;exact⟨.nils,rfl⟩
 ·cases h;exact⟨.nilf,rfl⟩
 ·cases h;exact⟨.nili,rfl⟩
 ·cases h;exact⟨.nilm,rfl⟩
 ·cases h
theorem ofV_rep(m:Mem){v:Value}{d:PD}(h:ofV v=some d):RepP m v d:=by
 unfold ofV at h
 split at h
 ·rename_i cs
  obtain⟨ds,hd,rfl⟩:=Option.map_eq_some_iff.1 h
  obtain⟨h1,_⟩:=mapO_get hd
  refine .agg cs ds (by simpa using h1.symm) (fun d hd'=>?_) (fun i d hi=>?_)
  ·obtain⟨i,hi⟩:=List.getElem?_of_mem hd'
   obtain⟨x,_,a2⟩:=mapO_back hd hi
   exact(ofV1_rep m a2).2
  ·obtain⟨x,a1,a2⟩:=mapO_back hd hi
   have :cs.getD i undef=x:=by
    have a1:cs[i]? =some x:=by simpa using a1
    simp[Array.getD_eq_getD_getElem?,a1]
   rw[this]
   exact(ofV1_rep m a2).1
 ·exact(ofV1_rep m h).1
theorem opdOf_rep(E:EnvRep γ env a.tmps){x:Operand}{y:Opd}(h:opdOf x=some y):RepD γ (a.eval x) (y.ev env):=by
 cases x with
 |tmp t=>cases h;exact E t
 |const v=>
  obtain⟨d,hd,rfl⟩:=Option.map_eq_some_iff.1 h
  exact .p _ _ (ofV_rep _ hd)
 |global g=>cases h;exact .glob g 0
 |func f=>cases h;exact .fn f #[] #[] [] [] rfl (fun i d h=>by simp at h) rfl (fun i d h=>by simp at h)
theorem opds_rep(E:EnvRep γ env a.tmps){xs:Array Operand}{ys:List Opd}(h:mapO opdOf xs.toList=some ys):RepL γ (xs.map a.eval) (ys.map (·.ev env)):=by
 obtain⟨h1,_⟩:=mapO_get h
 refine⟨by simpa using h1.symm,fun i d hd=>?_⟩
 simp only[List.getElem?_map,Option.map_eq_some_iff] at hd
 obtain⟨y,hy,rfl⟩:=hd
 obtain⟨x,a1,a2⟩:=mapO_back h hy
 have a1:xs[i]? =some x:=by simpa using a1
 have :(xs.map a.eval).getD i undef=a.eval x:=by simp[Array.getD_eq_getD_getElem?,a1]
 rw[this]
 exact opdOf_rep E a2
theorem RepD.p_inv{γ:Gh}{v:Value}{x:PD}(h:RepD γ v (.p x)):RepP γ.mem v x:=by cases h with |p v x h=>exact h
theorem RepP.bool_inv{m:Mem}{v:Value}{b:Bool}(h:RepP m v (.bool b)):v= .bool b:=by cases h;rfl
theorem RepP.int_inv{m:Mem}{v:Value}{k:IntKind}{n:Int}(h:RepP m v (.int k n)):v= .int k n:=by cases h;rfl
theorem RepP.str_inv{m:Mem}{v:Value}{s:List UInt8}(h:RepP m v (.str s)):v= .string ⟨s.toArray⟩:=by cases h;rfl
theorem RepP.nils_inv{m:Mem}{v:Value}(h:RepP m v .nils):v= .slice none 0 0:=by cases h;rfl
theorem RepP.nilp_inv{m:Mem}{v:Value}(h:RepP m v .nilp):v= .pointer none:=by cases h;rfl
theorem RepP.nilf_inv{m:Mem}{v:Value}(h:RepP m v .nilf):v= .nilFunc:=by cases h;rfl
theorem RepP.agg_inv{m:Mem}{v:Value}{ds:List PD}(h:RepP m v (.agg ds)):∃cs:Array Value,v= .agg cs∧cs.size=ds.length∧(∀d∈ds,d.one=true)∧∀i d,ds[i]? =some d→RepP m (cs.getD i undef) d:=by
 cases h with
 |agg cs ds hl hone hr=>exact⟨cs,rfl,hl,hone,hr⟩
theorem RepD.tup_inv{γ:Gh}{v:Value}{ds:List D}(h:RepD γ v (.tup ds)):∃cs:Array Value,v= .tuple cs∧RepL γ cs ds:=by
 cases h with
 |tup cs ds hl hr=>exact⟨cs,rfl,hl,hr⟩
theorem RepD.fn_inv{γ:Gh}{v:Value}{f:Nat}{ds es:List D}(h:RepD γ v (.fn f ds es)):∃as cs:Array Value,v= .func (.func f) as cs∧RepL γ as ds∧RepL γ cs es:=by
 cases h with
 |fn f as cs ds es hl hr kl kr=>exact⟨as,cs,rfl,⟨hl,hr⟩,⟨kl,kr⟩⟩
def Done(P:Program)(G:Nat→Option (List PD))(γ:Gh)(H:Hp)(w:World)(a:Act)(o:Oper)(d:D)(H':Hp):Prop:=
 ∃v w' γ',((execOp a.eval o).run P w= .ok (.value v) w'∨((execOp a.eval o).run P w= .ok .skip w'∧v=undef))∧γ.le γ'∧Frame γ H w γ' H' w'∧Inv G γ' H' w'∧RepD γ' v d
theorem Done.same(I:Inv G γ H w){v:Value}{d:D}(hr:(execOp a.eval o).run P w= .ok (.value v) w)(h:RepD γ v d):Done P G γ H w a o d H:=
 ⟨v,w,γ,.inl hr,.refl γ,.refl γ H w,I,h⟩
theorem szOf_info{t:TypeId}{n:Nat}(h:szOf P t=some n):∃i,P.info? t=some i∧i.size=n:=Option.map_eq_some_iff.1 h
theorem run_szOf{t:TypeId}{n:Nat}(h:szOf P t=some n)(w:World):(sizeOf t).run P w= .ok n w:=by
 obtain⟨i,h1,h2⟩:=szOf_info h
 simp[sizeOf,typeInfo,h1,h2]
theorem run_zeroOf{t:TypeId}{z:PD}(h:zeroOf P t=some z)(w:World):∃v,(zeroValue t).run P w= .ok v w∧ofV v=some z:=by
 unfold zeroOf at h
 split at h
 ·rename_i i hi
  split at h
  ·rename_i v hv
   exact⟨v,by simp[zeroValue,typeInfo,hi,hv],h⟩
  ·cases h
 ·cases h
theorem cellN_some{t:TypeId}{n:Nat}(h:cellN P t=some (some n))(w:World):(isAgg t).run P w= .ok true w∧(sizeOf t).run P w= .ok n w:=by
 unfold cellN at h
 split at h
 ·rename_i hu hs;cases h;exact⟨by simp[isAgg,run_underlying hu],run_szOf hs w⟩
 ·rename_i hu hs;cases h;exact⟨by simp[isAgg,run_underlying hu],run_szOf hs w⟩
 ·cases h
 ·cases h
theorem cellN_none{t:TypeId}(h:cellN P t=some none)(w:World):(isAgg t).run P w= .ok false w:=by
 unfold cellN at h
 cases hu:P.underlying t with
 |none=>simp[hu] at h
 |some d=>
  cases hs:szOf P t with
  |none=>cases d<;>simp[hu,hs] at h
  |some n=>cases d<;>first |(simp[hu,hs] at h;done) |simp[isAgg,run_underlying hu]
theorem done_move(I:Inv G γ H w)(E:EnvRep γ env a.tmps){x:Operand}{y:Opd}(ho:o.op= .move x∨o.op= .assign x)(hx:opdOf x=some y):Done P G γ H w a o (y.ev env) H:=by
 refine .same I (v:=a.eval x) ?_ (opdOf_rep E hx)
 rcases ho with ho |ho<;>simp[execOp,ho]
theorem done_pick(I:Inv G γ H w)(E:EnvRep γ env a.tmps){c x y:Operand}{c' x' y':Opd}(ho:o.op= .pick c x y)(hc:opdOf c=some c')(hx:opdOf x=some x')(hy:opdOf y=some y')
    {t:Bool} (ht:c'.ev env= .p (.bool t)):Done P G γ H w a o (if t then x'.ev env else y'.ev env) H:=by
 have hcv:=opdOf_rep E hc
 rw[ht] at hcv
 have hb:a.eval c= .bool t:=hcv.p_inv.bool_inv
 cases t with
 |true=>exact .same I (v:=a.eval x) (by simp[execOp,ho,hb,asBool]) (opdOf_rep E hx)
 |false=>exact .same I (v:=a.eval y) (by simp[execOp,ho,hb,asBool]) (opdOf_rep E hy)
theorem RepD.addr{γ:Gh}{v:Value}{d:D}(h:RepD γ v d)(hd:(match d with | .box _ _ | .glob _ _ | .ro _ _=>true |_=>false)=true):∃b off,v= .pointer (some ⟨b,off,none⟩):=by
 cases h<;>first |(simp at hd;done) |exact⟨_,_,rfl⟩
theorem done_nilCheck(I:Inv G γ H w)(E:EnvRep γ env a.tmps){x:Operand}{y:Opd}(ho:o.op= .nilCheck x)(hx:opdOf x=some y){d:D}{H':Hp}
    (he:evK G env H (.nilCheck y)=some (d,H')):Done P G γ H w a o d H':=by
 have hr:=opdOf_rep E hx
 simp only[evK] at he
 split at he<;>cases he<;>rename_i hd<;>rw[hd] at hr
 ·refine .same I (v:=a.eval x) ?_ hr
  obtain⟨b,off,hv⟩:=hr.addr rfl
  simp[execOp,ho,hv]
 ·refine .same I (v:=a.eval x) ?_ hr
  obtain⟨b,off,hv⟩:=hr.addr rfl
  simp[execOp,ho,hv]
 ·refine .same I (v:=a.eval x) ?_ hr
  obtain⟨b,off,hv⟩:=hr.addr rfl
  simp[execOp,ho,hv]
 ·refine .same I (v:=a.eval x) ?_ hr
  obtain⟨as,cs,hv,_,_⟩:=hr.fn_inv
  simp[execOp,ho,hv]
theorem RepD.shift{γ:Gh}{b off:Nat}{d d':D}(h:RepD γ (.pointer (some ⟨b,off,none⟩)) d)(n:Nat)
    (hd:(match d with | .box i o=>some (D.box i (o+n)) | .glob g o=>some (D.glob g (o+n)) | .ro cs o=>some (D.ro cs (o+n)) |_=>none)=some d'):RepD γ (.pointer (some ⟨b,off+n,none⟩)) d':=by
 cases h with
 |box i off b hb=>cases hd;exact .box i _ b hb
 |glob=>cases hd;exact .glob _ _
 |ro b o off cs vs hm hr=>cases hd;rw[Nat.add_assoc];exact .ro b o _ cs vs hm hr
 |p v x h=>cases hd
 |dead=>cases hd
 |tsl v t e sz es row r h1 h2 h3 h4 h5 h6=>cases hd
 |dptr=>cases hd
 |anyp=>cases hd
theorem done_faddr(I:Inv G γ H w)(E:EnvRep γ env a.tmps){t:TypeId}{x:Operand}{f:Nat}{y:Opd}(ho:o.op= .fieldAddr t x f)(hx:opdOf x=some y)
    {fs:Array Field} {fd:Field} {n:Nat} (ht:P.underlying t=some (.struct fs)) (hf:fs[f]? =some fd) (hn:szOf P fd.type=some (n+1)) {d:D} {H':Hp}
    (he:evK G env H (.faddr y fd.offset)=some (d,H')):Done P G γ H w a o d H':=by
 have hr:=opdOf_rep E hx
 have hrun:∀b off,a.eval x= .pointer (some ⟨b,off,none⟩)→(execOp a.eval o).run P w= .ok (.value (.pointer (some ⟨b,off+fd.offset,none⟩))) w:=by
  intro b off hv
  simp[execOp,ho,hv,Instr.fieldAt,run_underlying ht,hf,Instr.sureAddr,fieldPlace,run_szOf hn,Addr.add_lit]
 simp only[evK] at he
 split at he<;>cases he<;>rename_i hd<;>rw[hd] at hr
 ·obtain⟨b,off,hv⟩:=hr.addr rfl
  rw[hv] at hr
  exact .same I (hrun b off hv) (hr.shift _ rfl)
 ·obtain⟨b,off,hv⟩:=hr.addr rfl
  rw[hv] at hr
  exact .same I (hrun b off hv) (hr.shift _ rfl)
 ·obtain⟨b,off,hv⟩:=hr.addr rfl
  rw[hv] at hr
  exact .same I (hrun b off hv) (hr.shift _ rfl)
theorem asInt?_rep{γ:Gh}{v:Value}{d:D}(h:RepD γ v d){n:Int}(hn:d.asInt?=some n):∃k,v= .int k n:=by
 unfold D.asInt? at hn
 split at hn
 ·cases hn
  cases h with
  |p v x h=>cases h;exact⟨_,rfl⟩
 ·cases hn
theorem asNat?_rep{γ:Gh}{v:Value}{d:D}(h:RepD γ v d){n:Nat}(hn:d.asNat?=some n):∃k,v= .int k (n:Int):=by
 unfold D.asNat? at hn
 split at hn
 ·split at hn
  ·rename_i k i h0
   cases hn
   cases h with
   |p v x h=>cases h;exact⟨k,by rw[Int.toNat_of_nonneg h0]⟩
  ·cases hn
 ·cases hn
theorem elems?_rep{γ:Gh}{v:Value}{d:D}(h:RepD γ v d){sz:Nat}{es:List PD}(he:d.elems?=some (sz,es)):RepP γ.mem v (.slice sz es):=by
 unfold D.elems? at he
 split at he
 ·cases he
  cases h with
  |p v x h=>exact h
 ·cases he
  cases h with
  |p v x h=>
   cases h with
   |emp a cap sz=>exact .sl0 _ _ _
 ·cases he
  cases h with
  |fsl b n e sz es hb ht hn h=>exact h
 ·cases he
  cases h with
  |tsl v t e sz es row r h1 h2 h3 h4 h5 h6=>exact h4
 ·cases he
  cases h with
  |esl a sz=>exact .sl0 a 0 sz
 ·cases he
theorem slice_inv{m:Mem}{v:Value}{sz:Nat}{es:List PD}(h:RepP m v (.slice sz es)):
    ∃(a:Option Addr) (cap:Nat),v= .slice a es.length cap∧es.length≤cap∧(es≠[]→∃(b o:Nat) (vs:Nat→Nat→Value),a=some ⟨b,o,none⟩∧(∀e∈es,e.cells.length=sz)∧(∀e∈es,∀c∈e.cells,c.one=true)∧
     (∀i j,i<es.length→j<sz→m b (o+i*sz+j)=some (vs i j))∧∀(i:Nat) (e:PD) (j:Nat) (c:PD),es[i]? =some e→e.cells[j]? =some c→RepP m (vs i j) c):=by
 cases h with
 |sl0 a cap sz=>exact⟨a,cap,rfl,Nat.zero_le _,fun h=>(h rfl).elim⟩
 |sl b o cap sz es vs hc hsz hone hm hr=>exact⟨_,cap,rfl,hc,fun _=>⟨b,o,vs,rfl,hsz,hone,hm,hr⟩⟩
theorem done_iaddr_slice(I:Inv G γ H w)(E:EnvRep γ env a.tmps){t e:TypeId}{x i:Operand}{y j:Opd}{s:Nat}(ho:o.op= .indexAddr t x i)(ht:P.underlying t=some (.slice e))(hs:szOf P e=some s)
    (hx:opdOf x=some y) (hi:opdOf i=some j) {d:D} {H':Hp} (he:evK G env H (.iaddr none s y j)=some (d,H')):Done P G γ H w a o d H':=by
 have hxr:=opdOf_rep E hx
 have hir:=opdOf_rep E hi
 simp only[evK] at he
 split at he
 ·rename_i n hn
  obtain⟨k,hiv⟩:=asInt?_rep hir hn
  obtain⟨d',hd,hh⟩:=Option.map_eq_some_iff.1 he
  cases hh
  simp only[iaddrD] at hd
  split at hd
  ·rename_i bb off nn cap sz' hel
   split at hd
   ·rename_i hc
    obtain⟨rfl,h0⟩:=hc
    cases hd
    rw[hel] at hxr
    generalize hv:a.eval x=v at hxr
    cases hxr with
    |msl _ _ _ _ _ b c hb hcc hcap=>
     refine .same I (v:=.pointer (some ⟨b,off+n.toNat*sz',none⟩)) ?_ (.box _ _ b hb)
     simp[execOp,ho,hv,hiv,Instr.indexAt,run_underlying ht,asIntOf,h0,run_szOf hs,Addr.add_lit]
   ·cases hd
  split at hd
  ·rename_i sz' es hel
   split at hd
   ·rename_i hc
    obtain⟨rfl,h0⟩:=hc
    obtain⟨el,hel',rfl⟩:=Option.map_eq_some_iff.1 hd
    have hlt:n.toNat<es.length:=(List.getElem?_eq_some_iff.1 hel').1
    obtain⟨ad,cap,hv,hcap,hne⟩:=slice_inv (elems?_rep hxr hel)
    obtain⟨b,off,vs,rfl,hsz,hone,hm,hr⟩:=hne (fun h=>by subst h;simp at hlt)
    have hn':0≤n∧n<(es.length:Int):=⟨h0,by omega⟩
    refine .same I (v:=.pointer (some ⟨b,off+n.toNat*sz'+0,none⟩)) ?_ ?_
    ·simp[execOp,ho,hv,hiv,Instr.indexAt,run_underlying ht,asIntOf,hn',run_szOf hs,Addr.add_lit]
    ·refine .ro b (off+n.toNat*sz') 0 el.cells (vs n.toNat) (fun jj hj=>hm _ _ hlt ?_) (fun jj c hc=>⟨hr _ _ _ _ hel' hc,?_⟩)
     ·rw[←hsz el (List.mem_of_getElem? hel')];exact hj
     ·exact hone el (List.mem_of_getElem? hel') c (List.mem_of_getElem? hc)
   ·cases hd
  ·cases hd
 ·cases he
theorem done_iaddr_array(I:Inv G γ H w)(E:EnvRep γ env a.tmps){t e:TypeId}{len:Nat}{x i:Operand}{y j:Opd}{s:Nat}(ho:o.op= .indexAddr t x i)(ht:P.underlying t=some (.array len e))(hs:szOf P e=some s)
    (hx:opdOf x=some y) (hi:opdOf i=some j) {d:D} {H':Hp} (he:evK G env H (.iaddr (some len) s y j)=some (d,H')):Done P G γ H w a o d H':=by
 have hxr:=opdOf_rep E hx
 have hir:=opdOf_rep E hi
 simp only[evK] at he
 split at he
 ·rename_i n hn
  obtain⟨k,hiv⟩:=asInt?_rep hir hn
  obtain⟨d',hd,hh⟩:=Option.map_eq_some_iff.1 he
  cases hh
  simp only[iaddrD] at hd
  split at hd
  ·rename_i hc
   have hrun:∀b off,a.eval x= .pointer (some ⟨b,off,none⟩)→(execOp a.eval o).run P w= .ok (.value (.pointer (some ⟨b,off+n.toNat*s,none⟩))) w:=by
    intro b off hv
    simp[execOp,ho,hv,hiv,Instr.indexAt,run_underlying ht,asIntOf,Instr.sureAddr,hc,run_szOf hs,Addr.add_lit]
   split at hd<;>cases hd<;>rename_i hdd<;>rw[hdd] at hxr
   ·obtain⟨b,off,hv⟩:=hxr.addr rfl
    rw[hv] at hxr
    exact .same I (hrun b off hv) (hxr.shift _ rfl)
   ·obtain⟨b,off,hv⟩:=hxr.addr rfl
    rw[hv] at hxr
    exact .same I (hrun b off hv) (hxr.shift _ rfl)
   ·obtain⟨b,off,hv⟩:=hxr.addr rfl
    rw[hv] at hxr
    exact .same I (hrun b off hv) (hxr.shift _ rfl)
  ·cases hd
 ·cases he
theorem pures_some:∀{ds:List D} {cs:List PD},pures ds=some cs→ds=cs.map .p
 |[],cs,h=>by cases h;rfl
 | .p x::r,cs,h=>by
  simp only[pures] at h
  obtain⟨cs',h',rfl⟩:=Option.map_eq_some_iff.1 h
  simp[pures_some h']
 | .dead::_,cs,h=>by cases h
 | .undef::_,cs,h=>by cases h
 | .fsl .. ::_,cs,h=>by cases h
 | .tsl .. ::_,cs,h=>by cases h
 | .box .. ::_,cs,h=>by cases h
 | .glob .. ::_,cs,h=>by cases h
 | .ro .. ::_,cs,h=>by cases h
 | .agg .. ::_,cs,h=>by cases h
 | .tup .. ::_,cs,h=>by cases h
 | .fn .. ::_,cs,h=>by cases h
theorem mkAgg_rep{γ:Gh}{vs:Array Value}{ds:List D}(h:RepL γ vs ds)(h1:∀d∈ds,d.one=true):RepD γ (.agg vs) (mkAgg ds):=by
 unfold mkAgg
 split
 ·rename_i cs hcs
  have he:=pures_some hcs
  subst he
  refine .p _ _ (.agg vs cs (by simpa using h.1) (fun d hd=>h1 (.p d) (List.mem_map_of_mem hd)) (fun i d hd=>?_))
  exact(h.2 i (.p d) (by simp[hd])).p_inv
 ·exact .agg vs ds h.1 h1 h.2
theorem sub_get{α:Type}(l:List α)(lo hi i:Nat):(sub l lo hi)[i]? =if lo+i<hi then l[lo+i]? else none:=by
 unfold sub
 rw[List.getElem?_drop,List.getElem?_take]
theorem sub_length{α:Type}(l:List α)(lo hi:Nat)(h:hi≤l.length):(sub l lo hi).length=hi-lo:=by unfold sub;simp;omega
theorem extract_rep{γ:Gh}{vs:Array Value}{ds:List D}(h:RepL γ vs ds){off k:Nat}(hk:off+k≤ds.length):RepL γ (vs.extract off (off+k)) (sub ds off (off+k)):=by
 have hs:=h.1
 refine⟨by rw[sub_length _ _ _ hk];simp;omega,fun i d hd=>?_⟩
 rw[sub_get] at hd
 split at hd
 ·have:=h.2 _ _ hd
  have hlt:off+i<vs.size:=by rw[hs];exact(List.getElem?_eq_some_iff.1 hd).1
  have e:(vs.extract off (off+k)).getD i undef=vs.getD (off+i) undef:=by
   simp[Array.getD_eq_getD_getElem?,Array.getElem?_extract]
   rw[if_pos (by omega)]
  rw[e];exact this
 ·cases hd
theorem repL_p{γ:Gh}{cs:Array Value}{ds:List PD}(hl:cs.size=ds.length)(hr:∀i d,ds[i]? =some d→RepP γ.mem (cs.getD i undef) d):RepL γ cs (ds.map .p):=by
 refine⟨by simpa using hl,fun i d hd=>?_⟩
 simp only[List.getElem?_map,Option.map_eq_some_iff] at hd
 obtain⟨x,hx,rfl⟩:=hd
 exact .p _ _ (hr i x hx)
theorem part_rep{t:TypeId}{n:Option Nat}(ht:cellN P t=some n){vs:Array Value}{ds:List D}(h:RepL γ vs ds)(h1:∀d∈ds,d.one=true){off:Nat}{d:D}
    (hd:cutAt ds off n id mkAgg=some d) (w:World):∃v,(part t vs off).run P w= .ok v w∧RepD γ v d:=by
 unfold cutAt at hd
 split at hd
 ·obtain⟨x,hx,rfl⟩:=Option.map_eq_some_iff.1 hd
  have hlt:off<vs.size:=by rw[h.1];exact(List.getElem?_eq_some_iff.1 hx).1
  refine⟨vs.getD off undef,?_,h.2 off x hx⟩
  simp[part,cellN_none ht,Array.getElem?_eq_getElem hlt,Array.getD_eq_getD_getElem?]
 ·rename_i k
  split at hd
  ·rename_i hk
   cases hd
   obtain⟨q1,q2⟩:=cellN_some ht w
   refine⟨.agg (vs.extract off (off+k)),by simp[part,q1,q2],mkAgg_rep (extract_rep h hk) (fun d hd=>h1 d ?_)⟩
   exact List.mem_of_mem_take (List.mem_of_mem_drop hd)
  ·cases hd
theorem cutAt_p{cs:List PD}{off:Nat}{n:Option Nat}{d:D}(h:cutAt cs off n .p (fun l=>.p (.agg l))=some d):cutAt (cs.map .p) off n id mkAgg=some d:=by
 unfold cutAt at h⊢
 split at h
 ·obtain⟨x,hx,rfl⟩:=Option.map_eq_some_iff.1 h
  simp[hx]
 ·rename_i k
  split at h
  ·rename_i hk
   cases h
   have hk':off+k≤(cs.map D.p).length:=by simpa using hk
   simp only[hk',if_true,Option.some.injEq]
   have :sub (cs.map D.p) off (off+k)=(sub cs off (off+k)).map .p:=by simp[sub,List.map_take,List.map_drop]
   rw[this]
   unfold mkAgg
   have hp:∀l:List PD,pures (l.map .p)=some l:=by
    intro l;induction l with
    |nil=>rfl
    |cons x r ih=>simp[pures,ih]
   rw[hp]
  ·cases h
theorem agg_repL{γ:Gh}{v:Value}{d:D}(h:RepD γ v d){ds:List D}(hd:d= .agg ds∨∃cs,d= .p (.agg cs)∧ds=cs.map .p):∃vs,v= .agg vs∧RepL γ vs ds∧∀d∈ds,d.one=true:=by
 rcases hd with rfl |⟨cs,rfl,rfl⟩
 ·cases h with
  |agg cs ds hl hone hr=>exact⟨cs,rfl,⟨hl,hr⟩,hone⟩
 ·cases h with
  |p v x h=>
   cases h with
   |agg vs ds hl hone hr=>exact⟨vs,rfl,repL_p hl hr,fun d hd=>by obtain⟨x,hx,rfl⟩:=List.mem_map.1 hd;exact hone x hx⟩
theorem done_field(I:Inv G γ H w)(E:EnvRep γ env a.tmps){t:TypeId}{x:Operand}{f:Nat}{y:Opd}(ho:o.op= .field t x f)(hx:opdOf x=some y)
    {fs:Array Field} {fd:Field} {n:Option Nat} (ht:P.underlying t=some (.struct fs)) (hf:fs[f]? =some fd) (hn:cellN P fd.type=some n) {d:D} {H':Hp}
    (he:evK G env H (.field y fd.offset n)=some (d,H')):Done P G γ H w a o d H':=by
 have hr:=opdOf_rep E hx
 have key:∀ds,(y.ev env= .agg ds∨∃cs,y.ev env= .p (.agg cs)∧ds=cs.map .p)→cutAt ds fd.offset n id mkAgg=some d→Done P G γ H w a o d H:=by
  intro ds hds hc
  obtain⟨vs,hv,h1,h2⟩:=agg_repL hr hds
  obtain⟨v,q1,q2⟩:=part_rep hn h1 h2 hc w
  exact .same I (v:=v) (by simp[execOp,ho,hv,Instr.field,run_underlying ht,hf,asAgg,q1]) q2
 simp only[evK] at he
 split at he
 ·rename_i cs hd
  obtain⟨d',hd',hh⟩:=Option.map_eq_some_iff.1 he
  cases hh
  exact key _ (.inr ⟨cs,hd,rfl⟩) (cutAt_p hd')
 ·rename_i cs hd
  obtain⟨d',hd',hh⟩:=Option.map_eq_some_iff.1 he
  cases hh
  exact key _ (.inl hd) hd'
 ·cases he
theorem done_extract(I:Inv G γ H w)(E:EnvRep γ env a.tmps){x:Operand}{i:Nat}{y:Opd}(ho:o.op= .extract x i)(hx:opdOf x=some y){d:D}{H':Hp}
    (he:evK G env H (.extract y i)=some (d,H')):Done P G γ H w a o d H':=by
 have hr:=opdOf_rep E hx
 simp only[evK] at he
 split at he
 ·rename_i ds hd
  obtain⟨d',hd',hh⟩:=Option.map_eq_some_iff.1 he
  cases hh
  rw[hd] at hr
  obtain⟨cs,hcs,hl,hr⟩:=hr.tup_inv
  have hlt:i<cs.size:=by rw[hl];exact(List.getElem?_eq_some_iff.1 hd').1
  refine .same I (v:=cs.getD i undef) ?_ (hr i d hd')
  simp[execOp,ho,hcs,Instr.extract,Array.getElem?_eq_getElem hlt,Array.getD_eq_getD_getElem?]
 ·cases he
theorem done_mkfn(I:Inv G γ H w)(E:EnvRep γ env a.tmps){f:Nat}{fi ca:Array Operand}{fi' ca':List Opd}(ho:o.op= .makeFunc (.func f) fi ca)(h1:mapO opdOf fi.toList=some fi')(h2:mapO opdOf ca.toList=some ca'):
    Done P G γ H w a o (.fn f (fi'.map (·.ev env)) (ca'.map (·.ev env))) H:=by
 obtain⟨a1,a2⟩:=opds_rep E h1
 obtain⟨b1,b2⟩:=opds_rep E h2
 exact .same I (v:=.func (.func f) (fi.map a.eval) (ca.map a.eval)) (by simp[execOp,ho,Instr.makeFunc]) (.fn f _ _ _ _ a1 a2 b1 b2)
theorem done_iface(I:Inv G γ H w){t:TypeId}{x:Operand}{y:Opd}(ho:o.op= .makeInterface t x)(ht:(P.underlying t).isSome)(hni:∀ms,P.underlying t≠some (.interface ms))
    {d:D} {H':Hp} (he:evK G env H (.iface t y)=some (d,H')) (hrep:RepD γ (a.eval x) (y.ev env)) (hseal:∀z,(y.ev env).asPD=some z→RepP γ.mem (a.eval x) z):Done P G γ H w a o d H':=by
 simp only[evK] at he
 split at he
 ·rename_i z hz
  cases he
  obtain⟨td,htd⟩:=Option.isSome_iff_exists.1 ht
  refine .same I (v:=.iface t (a.eval x)) ?_ (.p _ _ (.iface t _ z (hseal z hz)))
  have :(Instr.makeInterface t (a.eval x)).run P w= .ok (.iface t (a.eval x)) w:=by
   cases td<;>first |exact(hni _ htd).elim |simp[Instr.makeInterface,run_underlying htd]
  simp[execOp,ho,this]
 ·cases he
  obtain⟨td,htd⟩:=Option.isSome_iff_exists.1 ht
  refine .same I (v:=.iface t (a.eval x)) ?_ (.ifc t _ _ hrep)
  have :(Instr.makeInterface t (a.eval x)).run P w= .ok (.iface t (a.eval x)) w:=by
   cases td<;>first |exact(hni _ htd).elim |simp[Instr.makeInterface,run_underlying htd]
  simp[execOp,ho,this]
end Go.Vs
namespace Go.Vs
variable {P : Program} {G : Nat → Option (List PD)} {γ : Gh} {H : Hp} {w : World} {env : Env} {a : Act} {o : Oper}
theorem run_bits{op:BinOp}{k:IntKind}{x y:Int}{t:TypeId}{v:Value}(h:(Op.intBits op k x y).run P w= .ok v w)(ho:(match op with | .and | .or | .xor | .andNot=>true |_=>false)=true:=by rfl):
    (binOp op t (.int k x) (.int k y)).run P w= .ok v w:=by
 have :binOp op t (.int k x) (.int k y)=Op.intBits op k x y:=by
  cases op<;>first |(simp at ho;done) |simp only[binOp,ne_eq,not_true_eq_false,if_false]
 rw[this];exact h
theorem run_intBin{op:BinOp}{k k':IntKind}{x y:Int}{r:PD}(t:TypeId)(hk:op= .shl∨op= .shr∨k=k')(h:intBin op k x y=some r)(w:World):
    ∃v,(binOp op t (.int k x) (.int k' y)).run P w= .ok v w∧∀m,RepP m v r:=by
 have same:∀op:BinOp,¬(op= .shl∨op= .shr)→(op= .shl∨op= .shr∨k=k')→k=k':=by
  intro op h1 h2
  rcases h2 with h |h |h
  ·exact(h1 (.inl h)).elim
  ·exact(h1 (.inr h)).elim
  ·exact h
 cases op<;>simp only[intBin] at h
 case shl=>
  split at h
  ·cases h
  ·rename_i hn;cases h;exact⟨_,by simp[binOp,Op.shift,hn],fun m=>.int _ _⟩
 case shr=>
  split at h
  ·cases h
  ·rename_i hn;cases h;exact⟨_,by simp[binOp,Op.shift,hn],fun m=>.int _ _⟩
 case quo=>
  split at h
  ·cases h
  ·rename_i hn;cases h;cases same .quo (by simp) hk;exact⟨_,by simp[binOp,Op.intDiv,hn],fun m=>.int _ _⟩
 case rem=>
  split at h
  ·cases h
  ·rename_i hn;cases h;cases same .rem (by simp) hk;exact⟨_,by simp[binOp,Op.intDiv,hn],fun m=>.int _ _⟩
 case and=>cases h;cases same .and (by simp) hk;exact⟨_,run_bits rfl,fun m=>.int _ _⟩
 case or=>cases h;cases same .or (by simp) hk;exact⟨_,run_bits rfl,fun m=>.int _ _⟩
 case xor=>cases h;cases same .xor (by simp) hk;exact⟨_,run_bits rfl,fun m=>.int _ _⟩
 case andNot=>cases h;cases same .andNot (by simp) hk;exact⟨_,run_bits rfl,fun m=>.int _ _⟩
 case add=>cases h;cases same .add (by simp) hk;exact⟨_,by simp[binOp,Op.intArith],fun m=>.int _ _⟩
 case sub=>cases h;cases same .sub (by simp) hk;exact⟨_,by simp[binOp,Op.intArith],fun m=>.int _ _⟩
 case mul=>cases h;cases same .mul (by simp) hk;exact⟨_,by simp[binOp,Op.intArith],fun m=>.int _ _⟩
 case eql=>cases h;cases same .eql (by simp) hk;exact⟨_,by simp[binOp,Op.intCmp],fun m=>.bool _⟩
 case neq=>cases h;cases same .neq (by simp) hk;exact⟨_,by simp[binOp,Op.intCmp],fun m=>.bool _⟩
 case lss=>cases h;cases same .lss (by simp) hk;exact⟨_,by simp[binOp,Op.intCmp],fun m=>.bool _⟩
 case leq=>cases h;cases same .leq (by simp) hk;exact⟨_,by simp[binOp,Op.intCmp],fun m=>.bool _⟩
 case gtr=>cases h;cases same .gtr (by simp) hk;exact⟨_,by simp[binOp,Op.intCmp],fun m=>.bool _⟩
 case geq=>cases h;cases same .geq (by simp) hk;exact⟨_,by simp[binOp,Op.intCmp],fun m=>.bool _⟩
theorem run_strBin{op:BinOp}{x y:List UInt8}{r:PD}(t:TypeId)(h:strBin op x y=some r)(w:World):
    ∃v,(binOp op t (.string ⟨x.toArray⟩) (.string ⟨y.toArray⟩)).run P w= .ok v w∧∀m,RepP m v r:=by
 cases op<;>simp only[strBin] at h
 case add=>
  split at h
  ·rename_i hl
   cases h
   have hs:∀l:List UInt8,(⟨l.toArray⟩:ByteArray).size=l.length:=fun l=>by simp[ByteArray.size]
   refine⟨.string ⟨(x++y).toArray⟩,?_,fun m=>.str _⟩
   have e:(⟨x.toArray⟩:ByteArray)++⟨y.toArray⟩=⟨(x++y).toArray⟩:=by
    apply ByteArray.ext
    simp[ByteArray.data_append]
   have hb:(binOp .add t (.string ⟨x.toArray⟩) (.string ⟨y.toArray⟩):Sem Value)=Op.stringOp .add ⟨x.toArray⟩ ⟨y.toArray⟩:=rfl
   rw[hb,run_string_add_sum _ _ _ (by rw[hs,hs];omega),e]
  ·cases h
 case eql=>cases h;exact⟨_,by simp[binOp,Op.stringOp],fun m=>.bool _⟩
 case neq=>cases h;exact⟨_,by simp[binOp,Op.stringOp],fun m=>.bool _⟩
 case lss=>cases h;exact⟨_,by simp[binOp,Op.stringOp],fun m=>.bool _⟩
 case leq=>cases h;exact⟨_,by simp[binOp,Op.stringOp],fun m=>.bool _⟩
 case gtr=>cases h;exact⟨_,by simp[binOp,Op.stringOp],fun m=>.bool _⟩
 case geq=>cases h;exact⟨_,by simp[binOp,Op.stringOp],fun m=>.bool _⟩
 all_goals cases h
theorem run_eqGuard_ok{op:BinOp}{t:TypeId}{x y:Operand}{u v:Value}(h:¬(u= .nilIface∧v= .nilIface))(h2:∀cs ds,¬(u= .agg cs∧v= .agg ds))(w:World):(eqGuard op t x y u v).run P w= .ok () w:=by
 unfold eqGuard
 cases op<;>simp
 all_goals
  split
  ·exact(h ⟨rfl,rfl⟩).elim
  ·exact(h2 _ _ ⟨rfl,rfl⟩).elim
  ·simp
theorem done_bin(I:Inv G γ H w)(E:EnvRep γ env a.tmps){op:BinOp}{t yt:TypeId}{x y:Operand}{x' y':Opd}(ho:o.op= .binOp op t x y yt)(hx:opdOf x=some x')(hy:opdOf y=some y')
    {d:D} {H':Hp} (he:evK G env H (.bin op x' y')=some (d,H')):Done P G γ H w a o d H':=by
 have hxr:=opdOf_rep E hx
 have hyr:=opdOf_rep E hy
 simp only[evK] at he
 obtain⟨d',hd,hh⟩:=Option.map_eq_some_iff.1 he
 cases hh
 unfold binD at hd
 split at hd
 ·rename_i k p k' q e1 e2
  split at hd
  ·rename_i hk
   obtain⟨r,hr,rfl⟩:=Option.map_eq_some_iff.1 hd
   rw[e1] at hxr;rw[e2] at hyr
   obtain⟨v,q1,q2⟩:=run_intBin (P:=P) t hk hr w
   refine .same I (v:=v) ?_ (.p _ _ (q2 _))
   have e:=run_eqGuard_ok (P:=P) (op:=op) (t:=t) (x:=x) (y:=y) (u:=.int k p) (v:=.int k' q) (by simp) (by simp) w
   simp[execOp,ho,hxr.p_inv.int_inv,hyr.p_inv.int_inv,q1,e]
  ·cases hd
 ·rename_i p q e1 e2
  obtain⟨r,hr,rfl⟩:=Option.map_eq_some_iff.1 hd
  rw[e1] at hxr;rw[e2] at hyr
  obtain⟨v,q1,q2⟩:=run_strBin (P:=P) t hr w
  refine .same I (v:=v) ?_ (.p _ _ (q2 _))
  have e:=run_eqGuard_ok (P:=P) (op:=op) (t:=t) (x:=x) (y:=y) (u:=.string ⟨p.toArray⟩) (v:=.string ⟨q.toArray⟩) (by simp) (by simp) w
  simp[execOp,ho,hxr.p_inv.str_inv,hyr.p_inv.str_inv,q1,e]
 ·cases hd
theorem run_eqneq{op:BinOp}(hop:op= .eql∨op= .neq){t:TypeId}{u v:Value}{b:Bool}(hu:(match u with | .int _ _ | .float _ _ | .complex _ _ _ | .string _=>true |_=>false)=false)
    (h:(Op.equal t u v).run P w= .ok b w):(binOp op t u v).run P w= .ok (.bool (if op== .neq then !b else b)) w:=by
 rcases hop with rfl |rfl<;>cases u<;>first |(simp at hu;done) |(cases v<;>simp[binOp,h])
theorem equal_succ(t:TypeId)(u v:Value):Op.equal t u v=Op.equalIn (9999+1) t u v:=rfl
section
variable (d : Nat) (t : TypeId)
theorem run_eqIn_bool(ht:P.underlying t=some .bool)(x y:Bool):(Op.equalIn (d+1) t (.bool x) (.bool y)).run P w= .ok (x==y) w:=by simp[Op.equalIn,run_underlying ht]
theorem run_eqIn_int{k':IntKind}(ht:P.underlying t=some (.int k'))(k:IntKind)(x y:Int):(Op.equalIn (d+1) t (.int k x) (.int k y)).run P w= .ok (x==y) w:=by simp[Op.equalIn,run_underlying ht]
theorem run_eqIn_str(ht:P.underlying t=some .string)(x y:ByteArray):(Op.equalIn (d+1) t (.string x) (.string y)).run P w= .ok (x==y) w:=by simp[Op.equalIn,run_underlying ht]
theorem run_eqIn_ptr{e:TypeId}(ht:P.underlying t=some (.pointer e))(ad:Option Addr):(Op.equalIn (d+1) t (.pointer ad) (.pointer none)).run P w= .ok ad.isNone w:=by cases ad<;>simp[Op.equalIn,run_underlying ht]
theorem run_eqIn_slice{e:TypeId}(ht:P.underlying t=some (.slice e))(ad:Option Addr)(n c:Nat):(Op.equalIn (d+1) t (.slice ad n c) (.slice none 0 0)).run P w= .ok ad.isNone w:=by cases ad<;>simp[Op.equalIn,run_underlying ht]
theorem run_eqIn_nilf{p r:Array TypeId}{v:Bool}(ht:P.underlying t=some (.func p r v)):(Op.equalIn (d+1) t .nilFunc .nilFunc).run P w= .ok true w:=by simp[Op.equalIn,run_underlying ht]
theorem run_eqIn_fn{p r:Array TypeId}{v:Bool}(ht:P.underlying t=some (.func p r v))(f:Fn)(as cs:Array Value):(Op.equalIn (d+1) t (.func f as cs) .nilFunc).run P w= .ok false w:=by simp[Op.equalIn,run_underlying ht]
end
theorem isNils_rep{γ:Gh}{v:Value}{d:D}(h:RepD γ v d){r:Bool}(hr:d.isNils=some r):∃base n c,v= .slice base n c∧base.isNone=r:=by
 unfold D.isNils at hr
 split at hr
 ·cases hr;exact⟨none,0,0,h.p_inv.nils_inv,rfl⟩
 ·cases hr
  obtain⟨a,cap,hv,_,hne⟩:=slice_inv h.p_inv
  obtain⟨b,o,_,rfl,_⟩:=hne (by simp)
  exact⟨_,_,_,hv,rfl⟩
 ·cases hr
  cases h with
  |p v x h=>
   cases h with
   |emp a cap sz=>exact⟨_,_,_,rfl,rfl⟩
 ·cases hr
  cases h with
  |fsl b n e sz es hb ht hn hx=>exact⟨_,_,_,rfl,rfl⟩
 ·cases hr
  obtain⟨a,cap,hv,_,hne⟩:=slice_inv (elems?_rep h rfl)
  obtain⟨b,o,_,rfl,_⟩:=hne (by simp)
  exact⟨_,_,_,hv,rfl⟩
 ·cases hr
  cases h with
  |msl=>exact⟨_,_,_,rfl,rfl⟩
 ·cases hr
theorem done_eqk(I:Inv G γ H w)(E:EnvRep γ env a.tmps){op:BinOp}{t yt:TypeId}{x y:Operand}{x' y':Opd}{kd:Nat}(ho:o.op= .binOp op t x y yt)(hop:op= .eql∨op= .neq)(hx:opdOf x=some x')(hy:opdOf y=some y')
    (ht:(kd=0∧P.underlying t=some .bool)∨(kd=1∧∃e,P.underlying t=some (.pointer e))∨(kd=2∧∃e,P.underlying t=some (.slice e))∨(kd=3∧∃p r v,P.underlying t=some (.func p r v)))
    {d:D} {H':Hp} (he:evK G env H (.eqk kd (op== .neq) x' y')=some (d,H')):Done P G γ H w a o d H':=by
 have hxr:=opdOf_rep E hx
 have hyr:=opdOf_rep E hy
 simp only[evK] at he
 obtain⟨r,hd,hh⟩:=Option.map_eq_some_iff.1 he
 cases hh
 have fin:∀u v,a.eval x=u→a.eval y=v→(match u with | .int _ _ | .float _ _ | .complex _ _ _ | .string _=>true |_=>false)=false→(∀cs,u≠.agg cs)→u≠.nilIface→(Op.equal t u v).run P w= .ok r w→
     Done P G γ H w a o (.p (.bool (if op== .neq then !r else r))) H:=by
  intro u v hu hv h1 h2 h3 h4
  refine .same I (v:=.bool (if op== .neq then !r else r)) ?_ (.p _ _ (.bool _))
  have e:=run_eqGuard_ok (P:=P) (op:=op) (t:=t) (x:=x) (y:=y) (u:=u) (v:=v) (fun h=>h3 h.1) (fun cs _ h=>h2 cs h.1) w
  have q:=run_eqneq hop h1 h4
  simp[execOp,ho,hu,hv,e,q]
 rcases ht with⟨rfl,ht⟩ |⟨rfl,e,ht⟩ |⟨rfl,e,ht⟩ |⟨rfl,p,rr,vv,ht⟩
 ·simp only[eqD] at hd
  split at hd
  ·rename_i p q e1 e2
   cases hd
   rw[e1] at hxr;rw[e2] at hyr
   exact fin _ _ hxr.p_inv.bool_inv hyr.p_inv.bool_inv rfl (by simp) (by simp) (by rw[equal_succ];exact run_eqIn_bool _ _ ht _ _)
  ·cases hd
 ·simp only[eqD] at hd
  split at hd<;>cases hd<;>rename_i e1 e2<;>rw[e1] at hxr<;>rw[e2] at hyr
  ·exact fin _ _ hxr.p_inv.nilp_inv hyr.p_inv.nilp_inv rfl (by simp) (by simp) (by rw[equal_succ];exact run_eqIn_ptr _ _ ht _)
  all_goals
   obtain⟨b,off,hv⟩:=hxr.addr rfl
   exact fin _ _ hv hyr.p_inv.nilp_inv rfl (by simp) (by simp) (by rw[equal_succ];exact run_eqIn_ptr _ _ ht _)
 ·simp only[eqD] at hd
  split at hd
  ·rename_i e2
   rw[e2] at hyr
   obtain⟨base,n,c,hv,rfl⟩:=isNils_rep hxr hd
   exact fin _ _ hv hyr.p_inv.nils_inv rfl (by simp) (by simp) (by rw[equal_succ];exact run_eqIn_slice _ _ ht _ _ _)
  ·cases hd
 ·simp only[eqD] at hd
  split at hd<;>cases hd<;>rename_i e1 e2<;>rw[e1] at hxr<;>rw[e2] at hyr
  ·exact fin _ _ hxr.p_inv.nilf_inv hyr.p_inv.nilf_inv rfl (by simp) (by simp) (by rw[equal_succ];exact run_eqIn_nilf _ _ ht)
  ·obtain⟨as,cs,hv,_,_⟩:=hxr.fn_inv
   exact fin _ _ hv hyr.p_inv.nilf_inv rfl (by simp) (by simp) (by rw[equal_succ];exact run_eqIn_fn _ _ ht _ _ _)
theorem done_un(I:Inv G γ H w)(E:EnvRep γ env a.tmps){op:UnOp}{t:TypeId}{x:Operand}{x':Opd}(ho:o.op= .unOp op t x)(hx:opdOf x=some x')
    {d:D} {H':Hp} (he:evK G env H (.un op x')=some (d,H')):Done P G γ H w a o d H':=by
 have hxr:=opdOf_rep E hx
 simp only[evK] at he
 obtain⟨r,hd,hh⟩:=Option.map_eq_some_iff.1 he
 cases hh
 unfold unD at hd
 split at hd
 ·rename_i e1
  cases hd
  rw[e1] at hxr
  exact .same I (v:=_) (by simp[execOp,ho,hxr.p_inv.bool_inv,Op.unary]) (.p _ _ (.bool _))
 ·rename_i e1
  cases hd
  rw[e1] at hxr
  exact .same I (v:=_) (by simp[execOp,ho,hxr.p_inv.int_inv,Op.unary,Op.intArith]) (.p _ _ (.int _ _))
 ·cases hd
theorem done_conv(I:Inv G γ H w)(E:EnvRep γ env a.tmps){s t:TypeId}{x:Operand}{x':Opd}{k k':IntKind}(ho:o.op= .convert s t x)(hs:P.underlying s=some (.int k'))(ht:P.underlying t=some (.int k))(hx:opdOf x=some x')
    {d:D} {H':Hp} (he:evK G env H (.conv k x')=some (d,H')):Done P G γ H w a o d H':=by
 have hxr:=opdOf_rep E hx
 simp only[evK] at he
 split at he
 ·rename_i n hn
  cases he
  obtain⟨k0,hv⟩:=asInt?_rep hxr hn
  exact .same I (v:=.int k (k.wrap n)) (by simp[execOp,ho,hv,convert,run_underlying hs,run_underlying ht,Conv.intToInt]) (.p _ _ (.int _ _))
 ·cases he
theorem done_strid(I:Inv G γ H w)(E:EnvRep γ env a.tmps){s t:TypeId}{x:Operand}{x':Opd}(ho:o.op= .convert s t x)(hs:P.underlying s=some .string)(ht:P.underlying t=some .string)(hx:opdOf x=some x')
    {d:D} {H':Hp} (he:evK G env H (.strid x')=some (d,H')):Done P G γ H w a o d H':=by
 have hxr:=opdOf_rep E hx
 simp only[evK] at he
 split at he
 ·rename_i q hq
  cases he
  rw[hq] at hxr
  exact .same I (v:=.string ⟨q.toArray⟩) (by simp[execOp,ho,hxr.p_inv.str_inv,convert,run_underlying hs,run_underlying ht]) (.p _ _ (.str _))
 ·cases he
theorem done_minmax(I:Inv G γ H w)(E:EnvRep γ env a.tmps){mx:Bool}{x y:Operand}{x' y':Opd}{ts:Array TypeId}(ho:o.op= .call {callee:=.builtin (if mx then .max else .min),args:=#[x,y],argTypes:=ts})(hx:opdOf x=some x')(hy:opdOf y=some y')
    {d:D} {H':Hp} (he:evK G env H (.minmax mx x' y')=some (d,H')):Done P G γ H w a o d H':=by
 have hxr:=opdOf_rep E hx
 have hyr:=opdOf_rep E hy
 simp only[evK] at he
 obtain⟨r,hd,hh⟩:=Option.map_eq_some_iff.1 he
 cases hh
 unfold minmaxD at hd
 split at hd
 ·rename_i k p k' q e1 e2
  cases hd
  rw[e1] at hxr;rw[e2] at hyr
  refine .same I (v:=.int k (if mx=true then if q>p then q else p else if q<p then q else p)) ?_ (.p _ _ (.int _ _))
  cases mx
  ·simp[execOp,ho,resolve,invoke,builtin,hxr.p_inv.int_inv,hyr.p_inv.int_inv,Builtin.min_,Builtin.min2]
  ·simp[execOp,ho,resolve,invoke,builtin,hxr.p_inv.int_inv,hyr.p_inv.int_inv,Builtin.max_,Builtin.max2]
 ·cases hd
theorem done_len(I:Inv G γ H w)(E:EnvRep γ env a.tmps){x:Operand}{x':Opd}{t:TypeId}{kd:Nat}(ho:o.op= .call {callee:=.builtin .len,args:=#[x],argTypes:=#[t]})
    (ht:(kd=0∧P.underlying t=some .string)∨(kd=1∧∃e,P.underlying t=some (.slice e))) (hx:opdOf x=some x')
    {d:D} {H':Hp} (he:evK G env H (.len kd x')=some (d,H')):Done P G γ H w a o d H':=by
 have hxr:=opdOf_rep E hx
 simp only[evK] at he
 obtain⟨n,hn,hh⟩:=Option.map_eq_some_iff.1 he
 cases hh
 refine .same I (v:=.int .i64 n) ?_ (.p _ _ (.int _ _))
 rcases ht with⟨rfl,ht⟩ |⟨rfl,e,ht⟩
 ·unfold lenD at hn
  split at hn
  ·rename_i s _ hs
   cases hn
   rw[hs] at hxr
   have hs:(⟨s.toArray⟩:ByteArray).size=s.length:=by simp[ByteArray.size]
   simp[execOp,ho,resolve,invoke,builtin,hxr.p_inv.str_inv,Builtin.len_,run_underlying ht,goInt,hs]
  ·rename_i h0 _;cases h0
  ·rename_i h0 _;cases h0
  ·rename_i h0 _ _;cases h0
  ·cases hn
 ·have hv:∃base c,a.eval x= .slice base n c:=by
   unfold lenD at hn
   split at hn
   ·rename_i h0 _;cases h0
   ·rename_i hs;cases hn;rw[hs] at hxr;exact⟨none,0,hxr.p_inv.nils_inv⟩
   ·rename_i hs
    cases hn
    rw[hs] at hxr
    generalize a.eval x=v at hxr
    cases hxr with
    |msl i off n cap sz b c hb hc hcap=>exact⟨_,_,rfl⟩
   ·obtain⟨el,hel,rfl⟩:=Option.map_eq_some_iff.1 hn
    obtain⟨base,c,hv,_⟩:=slice_inv (elems?_rep hxr hel)
    exact⟨base,c,hv⟩
   ·cases hn
  obtain⟨base,c,hv⟩:=hv
  simp[execOp,ho,resolve,invoke,builtin,hv,Builtin.len_,run_underlying ht,goInt]
theorem boundsD_some{n l h:Nat}{lo hi:Option D}(e:boundsD n lo hi=some (l,h)):
    l≤h∧h≤n∧(match lo with |none=>l=0 |some d=>d.asNat?=some l)∧(match hi with |none=>h=n |some d=>d.asNat?=some h):=by
 unfold boundsD at e
 split at e
 ·rename_i l' h' e1 e2
  split at e
  ·rename_i hc
   cases e
   refine⟨hc.1,hc.2,?_,?_⟩
   ·cases lo with
    |none=>cases e1;rfl
    |some d=>exact e1
   ·cases hi with
    |none=>cases e2;rfl
    |some d=>exact e2
  ·cases e
 ·cases e
theorem run_bounds(E:EnvRep γ env a.tmps){lo hi:Option Operand}{lo' hi':Option Opd}(hlo:optO lo=some lo')(hhi:optO hi=some hi'){n l h:Nat}(hb:boundsD n (lo'.map (·.ev env)) (hi'.map (·.ev env))=some (l,h))
    (isSlice:Bool) (cap:Nat) (hc:n≤cap) (w:World):(Instr.sliceBounds isSlice n cap (lo.map a.eval) (hi.map a.eval) none).run P w= .ok (l,h,cap) w:=by
 obtain⟨h1,h2,h3,h4⟩:=boundsD_some hb
 have hhv:(hi=none∧h=n)∨∃x k,hi=some x∧a.eval x= .int k (h:Int):=by
  cases hi with
  |none=>cases hhi;exact .inl ⟨rfl,h4⟩
  |some x=>
   simp only[optO] at hhi
   obtain⟨y,hy,rfl⟩:=Option.map_eq_some_iff.1 hhi
   obtain⟨k,hk⟩:=asNat?_rep (opdOf_rep E hy) h4
   exact .inr ⟨x,k,rfl,hk⟩
 have hlv:(lo=none∧l=0)∨∃x k,lo=some x∧a.eval x= .int k (l:Int):=by
  cases lo with
  |none=>cases hlo;exact .inl ⟨rfl,h3⟩
  |some x=>
   simp only[optO] at hlo
   obtain⟨y,hy,rfl⟩:=Option.map_eq_some_iff.1 hlo
   obtain⟨k,hk⟩:=asNat?_rep (opdOf_rep E hy) h3
   exact .inr ⟨x,k,rfl,hk⟩
 have sb:∀(k:IntKind) (i y:Nat) (c:BoundsCode),i≤y→(Instr.sliceBound (.int k (i:Int)) y c).run P w= .ok i w:=by
  intro k i y c hi
  have:=run_sliceBound (P:=P) w k (i:Int) y c (by omega) (by omega)
  simpa using this
 rcases hhv with⟨rfl,rfl⟩ |⟨x,k,rfl,hx⟩<;>rcases hlv with⟨rfl,rfl⟩ |⟨x',k',rfl,hx'⟩
 ·simp[Instr.sliceBounds]
 ·simp[Instr.sliceBounds,hx',sb _ _ _ _ h1]
 ·simp[Instr.sliceBounds,hx,sb _ _ _ _ (Nat.le_trans h2 hc)]
 ·simp[Instr.sliceBounds,hx,hx',sb _ _ _ _ (Nat.le_trans h2 hc),sb _ _ _ _ h1]
theorem sub_mem{α:Type}{l:List α}{lo hi:Nat}{x:α}(h:x∈sub l lo hi):x∈l:=List.mem_of_mem_take (List.mem_of_mem_drop h)
theorem slice_piece{m:Mem}{ad:Option Addr}{cap sz:Nat}{es:List PD}(h:RepP m (.slice ad es.length cap) (.slice sz es)){l hh:Nat}(h1:l≤hh)(h2:hh≤es.length):
    RepP m (.slice (if cap=l then ad else ad.map (·.add (l*sz))) (hh-l) (cap-l)) (.slice sz (sub es l hh)):=by
 obtain⟨a',cap',hv,hcap,hne⟩:=slice_inv h
 cases hv
 have hlen:(sub es l hh).length=hh-l:=sub_length _ _ _ h2
 by_cases he:sub es l hh=[]
 ·have h0:hh-l=0:=by rw[←hlen,he];rfl
  rw[he,h0]
  exact .sl0 _ _ _
 ·have hpos:0<hh-l:=by
   rw[←hlen]
   exact List.length_pos_iff.2 he
  obtain⟨b,off,vs,rfl,hsz,hone,hm,hr⟩:=hne (fun e=>by subst e;simp at h2;omega)
  rw[if_neg (by omega)]
  have ead:(Option.map (fun x:Addr=>x.add (l*sz)) (some ⟨b,off,none⟩))=some ⟨b,off+l*sz,none⟩:=by simp[Addr.add_lit]
  rw[ead,←hlen]
  refine .sl b (off+l*sz) _ sz _ (fun i j=>vs (l+i) j) (by omega) (fun e he=>hsz e (sub_mem he)) (fun e he=>hone e (sub_mem he)) (fun i j hi hj=>?_) (fun i e j c he hc=>?_)
  ·have:=hm (l+i) j (by omega) hj
   rw[←this];congr 1;rw[Nat.add_mul];omega
  ·rw[sub_get] at he
   split at he
   ·exact hr _ _ _ _ he hc
   ·cases he
theorem done_slice_str(I:Inv G γ H w)(E:EnvRep γ env a.tmps){t:TypeId}{x:Operand}{lo hi:Option Operand}{x':Opd}{lo' hi':Option Opd}(ho:o.op= .slice t x lo hi none)(ht:P.underlying t=some .string)
    (hx:opdOf x=some x') (hlo:optO lo=some lo') (hhi:optO hi=some hi') {d:D} {H':Hp} (he:evK G env H (.slice 0 x' lo' hi')=some (d,H')):Done P G γ H w a o d H':=by
 have hxr:=opdOf_rep E hx
 simp only[evK] at he
 obtain⟨d',hd,hh⟩:=Option.map_eq_some_iff.1 he
 cases hh
 simp only[sliceD] at hd
 split at hd
 ·rename_i s hs
  obtain⟨⟨l,h⟩,hb,rfl⟩:=Option.map_eq_some_iff.1 hd
  rw[hs] at hxr
  have hb':=run_bounds (P:=P) E hlo hhi hb false s.length (Nat.le_refl _) w
  obtain⟨h1,h2,_⟩:=boundsD_some hb
  refine .same I (v:=.string ⟨(sub s l h).toArray⟩) ?_ (.p _ _ (.str _))
  have e:(⟨s.toArray⟩:ByteArray).extract l h=⟨(sub s l h).toArray⟩:=by
   apply ByteArray.ext
   rw[ByteArray.data_extract]
   apply Array.ext'
   simp[sub,List.take_drop,Nat.add_sub_cancel' h1]
  have hsz:(⟨s.toArray⟩:ByteArray).size=s.length:=by simp[ByteArray.size]
  rw[←hsz] at hb'
  simp[execOp,ho,hxr.p_inv.str_inv,Instr.sliceAt,Instr.slice,run_underlying ht,hb',e]
 ·cases hd
theorem mslice_rep{γ:Gh}{i off b n c:Nat}{cap:Option Nat}{sz l h:Nat}(hb:γ.boxes[i]? =some b)(hc:n≤c)(hcap:∀k,cap=some k→c=k)(h1:l≤h)(h2:h≤n):
    RepD γ (.slice (if c=l then some ⟨b,off,none⟩ else(some (⟨b,off,none⟩:Addr)).map (·.add (l*sz))) (h-l) (c-l)) (mslice i off cap sz l h):=by
 unfold mslice
 cases cap with
 |some k=>
  have hk:=hcap k rfl
  subst hk
  by_cases hcl:c≤l
  ·have e:c=l:=by omega
   have e2:h-l=0:=by omega
   subst e
   simp only[Nat.le_refl,if_true,e2,Nat.sub_self]
   exact .esl _ _
  ·simp only[hcl,if_false]
   rw[if_neg (by omega)]
   simp only[Option.map_some,Addr.add_lit]
   exact .msl _ _ _ _ _ b _ hb (by omega) (fun k hk=>by cases hk;rfl)
 |none=>
  by_cases hlh:l=h
  ·subst hlh
   simp only[if_true,Nat.sub_self]
   exact .p _ _ (.sl0 _ _ _)
  ·simp only[hlh,if_false]
   rw[if_neg (by omega)]
   simp only[Option.map_some,Addr.add_lit]
   exact .msl _ _ _ _ _ b _ hb (by omega) (fun k hk=>by cases hk)
theorem done_slice_sl(I:Inv G γ H w)(E:EnvRep γ env a.tmps){t e:TypeId}{n:Nat}{x:Operand}{lo hi:Option Operand}{x':Opd}{lo' hi':Option Opd}(ho:o.op= .slice t x lo hi none)(ht:P.underlying t=some (.slice e))(hn:szOf P e=some (n+1))
    (hx:opdOf x=some x') (hlo:optO lo=some lo') (hhi:optO hi=some hi') {d:D} {H':Hp} (he:evK G env H (.slice (n+1) x' lo' hi')=some (d,H')):Done P G γ H w a o d H':=by
 have hxr:=opdOf_rep E hx
 simp only[evK] at he
 obtain⟨d',hd,hh⟩:=Option.map_eq_some_iff.1 he
 cases hh
 have run:∀(base:Option Addr) (len cap l h:Nat),a.eval x= .slice base len cap→(Instr.sliceBounds true len cap (lo.map a.eval) (hi.map a.eval) none).run P w= .ok (l,h,cap) w→
     (execOp a.eval o).run P w= .ok (.value (.slice (if cap=l then base else base.map (·.add (l*(n+1)))) (h-l) (cap-l))) w:=by
  intro base len cap l h hv hb
  simp[execOp,ho,hv,Instr.sliceAt,Instr.slice,run_underlying ht,hb,run_szOf hn]
 simp only[sliceD] at hd
 split at hd
 ·rename_i hs
  rw[hs] at hxr
  obtain⟨⟨l,h⟩,hb,rfl⟩:=Option.map_eq_some_iff.1 hd
  obtain⟨h1,h2,_⟩:=boundsD_some hb
  have hl:l=0:=by omega
  have hh:h=0:=by omega
  subst hl;subst hh
  have r:=run none 0 0 0 0 hxr.p_inv.nils_inv (run_bounds E hlo hhi hb true 0 (Nat.le_refl _) w)
  exact .same I (v:=.slice none 0 0) (by simpa using r) (.p _ _ .nils)
 ·rename_i i off nn cap sz' hs
  split at hd
  ·rename_i hsz
   subst hsz
   rw[hs] at hxr
   obtain⟨⟨l,h⟩,hb,rfl⟩:=Option.map_eq_some_iff.1 hd
   obtain⟨h1,h2,_⟩:=boundsD_some hb
   generalize hv:a.eval x=v at hxr
   cases hxr with
   |msl _ _ _ _ _ b c hbx hc hcap=>
    exact .same I (run _ _ _ l h hv (run_bounds E hlo hhi hb true c hc w)) (mslice_rep hbx hc hcap h1 h2)
  ·cases hd
 ·split at hd
  ·rename_i sz' es hel
   split at hd
   ·rename_i hsz
    subst hsz
    obtain⟨⟨l,h⟩,hb,rfl⟩:=Option.map_eq_some_iff.1 hd
    obtain⟨h1,h2,_⟩:=boundsD_some hb
    have q:=elems?_rep hxr hel
    obtain⟨base,cap,hv,hcap,_⟩:=slice_inv q
    rw[hv] at q
    exact .same I (run base es.length cap l h hv (run_bounds E hlo hhi hb true cap hcap w)) (.p _ _ (slice_piece q h1 h2))
   ·cases hd
  ·cases hd
end Go.Vs
namespace Go.Vs
variable {P : Program} {G : Nat → Option (List PD)} {γ : Gh} {H : Hp} {w : World} {env : Env} {a : Act} {o : Oper}
theorem sealL_get:∀{ds:List D} {xs:List PD},D.asPDL ds=some xs→xs.length=ds.length∧∀(i:Nat) x,xs[i]? =some x→∃d,ds[i]? =some d∧d.asPD=some x
 |[],xs,h=>by simp only[D.asPDL] at h;cases h;exact⟨rfl,fun i x hx=>by simp at hx⟩
 |d::r,xs,h=>by
  simp only[D.asPDL] at h
  split at h
  ·rename_i x hx
   obtain⟨ys,hy,rfl⟩:=Option.map_eq_some_iff.1 h
   obtain⟨h1,h2⟩:=sealL_get hy
   refine⟨by simp[h1],fun i z hz=>?_⟩
   match i with
   | 0=>simp only[List.getElem?_cons_zero,Option.some.injEq] at hz;subst hz;exact⟨d,rfl,hx⟩
   |i+1=>exact h2 i z (by simpa using hz)
  ·cases h
theorem seal_one{d:D}{x:PD}(h:d.asPD=some x)(h1:d.one=true):x.one=true:=by
 cases d<;>simp only[D.asPD] at h<;>first |(cases h;done) |(rename_i es;cases es<;>(cases h;rfl)) |(cases h;first |rfl |exact h1) |(simp[D.one] at h1;done) |(obtain⟨z,_,rfl⟩:=Option.map_eq_some_iff.1 h;rfl)
theorem seal_rep{γ:Gh}{v:Value}{d:D}(r:RepD γ v d):∀{x:PD},d.asPD=some x→RepP γ.mem v x:=by
 induction r with
 |p v x hx=>intro y h;simp only[D.asPD] at h;cases h;exact hx
 |fsl b n e sz es hb ht hn hx=>
  intro y h
  simp only[D.asPD,Option.some.injEq] at h
  subst h
  cases es with
  |nil=>subst hn;exact .emp _ _ _
  |cons x es=>exact hx
 |esl a sz=>intro y h;simp only[D.asPD] at h;cases h;exact .sl0 _ _ _
 |ifc t v d _ ih=>
  intro y h
  simp only[D.asPD] at h
  obtain⟨z,hz,rfl⟩:=Option.map_eq_some_iff.1 h
  exact .iface t v z (ih hz)
 |tsl v t e sz es row r h1 h2 h3 h4 h5 h6=>intro y h;simp only[D.asPD] at h;cases h;exact h4
 |agg cs ds hl hone hr ih=>
  intro y h
  simp only[D.asPD] at h
  obtain⟨xs,hx,rfl⟩:=Option.map_eq_some_iff.1 h
  obtain⟨h1,h2⟩:=sealL_get hx
  refine .agg cs xs (hl.trans h1.symm) (fun x hx'=>?_) (fun i x hi=>?_)
  ·obtain⟨i,hi⟩:=List.getElem?_of_mem hx'
   obtain⟨d,a1,a2⟩:=h2 i x hi
   exact seal_one a2 (hone d (List.mem_of_getElem? a1))
  ·obtain⟨d,a1,a2⟩:=h2 i x hi
   exact ih i d a1 a2
 |_=>intro y h;simp only[D.asPD] at h;cases h
theorem bytes_beq(x y:List UInt8):((⟨x.toArray⟩:ByteArray)==⟨y.toArray⟩)=(x==y):=by
 have h:((⟨x.toArray⟩:ByteArray)==⟨y.toArray⟩)=(x.toArray==y.toArray):=rfl
 rw[h,Bool.eq_iff_iff]
 simp
theorem eqv_rep{t:TypeId}{tag:Nat}(ht:tagOf P t=some tag){m:Mem}{u v:Value}{x y:PD}(hu:RepP m u x)(hv:RepP m v y){r:Bool}(h:PD.eqv tag x y=some r)(d:Nat)(w:World):(Op.equalIn (d+1) t u v).run P w= .ok r w:=by
 unfold tagOf at ht
 split at ht<;>cases ht<;>rename_i hty
 ·simp only[PD.eqv] at h
  split at h<;>first |(cases h;done) |skip
  ·cases h;rw[hu.bool_inv,hv.bool_inv];exact run_eqIn_bool _ _ hty _ _
  ·rename_i h0;cases h0
  ·rename_i h0;cases h0
 ·simp only[PD.eqv] at h
  split at h<;>first |(cases h;done) |skip
  ·rename_i h0;cases h0
  ·split at h
   ·rename_i hk;subst hk;cases h;rw[hu.int_inv,hv.int_inv];exact run_eqIn_int _ _ hty _ _ _
   ·cases h
  ·rename_i h0;cases h0
 ·simp only[PD.eqv] at h
  split at h<;>first |(cases h;done) |skip
  ·rename_i h0;cases h0
  ·rename_i h0;cases h0
  ·cases h
   rw[hu.str_inv,hv.str_inv,run_eqIn_str _ _ hty,bytes_beq]
theorem tagOf_cell{t:TypeId}{tag:Nat}(ht:tagOf P t=some tag)(w:World):(isAgg t).run P w= .ok false w:=by
 unfold tagOf at ht
 split at ht<;>cases ht<;>rename_i hty<;>simp[isAgg,run_underlying hty]
def eqFields(dp:Nat)(xs ys:Array Value):List Field→Sem (Option Bool)
 |[]=>pure none
 |f::r=>do
  if f.name≠ "_" then
   if !(←Op.equalIn dp f.type (←part f.type xs f.offset) (←part f.type ys f.offset)) then return some false
  eqFields dp xs ys r
theorem run_eqFields{m:Mem}{xs ys:Array Value}{ps qs:List PD}(hx:∀i d,ps[i]? =some d→RepP m (xs.getD i undef) d)(hy:∀i d,qs[i]? =some d→RepP m (ys.getD i undef) d)
    (lx:xs.size=ps.length) (ly:ys.size=qs.length) (dp:Nat) (w:World):∀(fs:List Field) (i:Nat) (ts:List Nat) (r:Bool),flatTags P i fs=some ts→eqvL ts (ps.drop i) (qs.drop i)=some r→
     (eqFields (dp+1) xs ys fs).run P w= .ok (if r then none else some false) w
 |[],i,ts,r,h,he=>by
  simp only[flatTags] at h
  cases h
  have hr:r=true:=by
   cases hp:ps.drop i<;>cases hq:qs.drop i<;>rw[hp,hq] at he<;>simp[eqvL] at he
   exact he
  subst hr
  simp[eqFields]
 |f::fs,i,ts,r,h,he=>by
  simp only[flatTags] at h
  split at h
  ·rename_i tg htg
   split at h
   ·rename_i hc
    obtain⟨ts',hts,rfl⟩:=Option.map_eq_some_iff.1 h
    have hname:f.name≠ "_" :=by simpa using hc.2
    cases hp:ps.drop i with
    |nil=>rw[hp] at he;simp[eqvL] at he
    |cons p pr=>
     cases hq:qs.drop i with
     |nil=>rw[hp,hq] at he;simp[eqvL] at he
     |cons q qr=>
      rw[hp,hq] at he
      have e1:ps[i]? =some p:=by
       have:=congrArg (fun l=>l[0]?) hp
       simpa using this
      have e2:qs[i]? =some q:=by
       have:=congrArg (fun l=>l[0]?) hq
       simpa using this
      have d1:ps.drop (i+1)=pr:=by
       have:=congrArg (List.drop 1) hp
       simpa[List.drop_drop] using this
      have d2:qs.drop (i+1)=qr:=by
       have:=congrArg (List.drop 1) hq
       simpa[List.drop_drop] using this
      simp only[eqvL] at he
      split at he
      ·rename_i e g he1 he2
       cases he
       have l1:i<xs.size:=by rw[lx];exact(List.getElem?_eq_some_iff.1 e1).1
       have l2:i<ys.size:=by rw[ly];exact(List.getElem?_eq_some_iff.1 e2).1
       obtain⟨u,p1,ru⟩:∃u,(part f.type xs f.offset).run P w= .ok u w∧RepP m u p:=
        ⟨xs.getD i undef,by simp[part,tagOf_cell htg,hc.1,Array.getElem?_eq_getElem l1,Array.getD_eq_getD_getElem?],hx i p e1⟩
       obtain⟨v,p2,rv⟩:∃u,(part f.type ys f.offset).run P w= .ok u w∧RepP m u q:=
        ⟨ys.getD i undef,by simp[part,tagOf_cell htg,hc.1,Array.getElem?_eq_getElem l2,Array.getD_eq_getD_getElem?],hy i q e2⟩
       have q1:=eqv_rep htg ru rv he1 dp w
       cases e with
       |false=>simp[eqFields,hname,p1,p2,q1]
       |true=>
        have ih:=run_eqFields hx hy lx ly dp w fs (i+1) ts' g hts (by rw[d1,d2];exact he2)
        simp[eqFields,hname,p1,p2,q1,ih]
      ·cases he
   ·cases h
  ·cases h
theorem run_eqIn_struct{t:TypeId}{fs:Array Field}(ht:P.underlying t=some (.struct fs))(h1:P.stoodInHeld t=false){xs ys:Array Value}(n:Nat)(w:World){r:Bool}
    (h:(eqFields n xs ys fs.toList).run P w= .ok (if r then none else some false) w):(Op.equalIn (n+1) t (.agg xs) (.agg ys)).run P w= .ok r w:=by
 simp only[Op.equalIn,Sem.run_bind,run_underlying ht,Result.andThen_ok,run_program,h1,Bool.false_eq_true,if_false]
 rw[←Array.forIn_toList]
 have key:∀(l:List Field),(forIn l ((none:Option Bool),()) fun f __s=>
           if f.name≠ "_" then do
            let __do_lift ←part f.type xs f.offset
            let __do_lift_1 ←part f.type ys f.offset
            let __do_lift ←Op.equalIn n f.type __do_lift __do_lift_1
            if(!__do_lift)=true then pure (ForInStep.done (some false,())) else pure (ForInStep.yield (none,()))
           else pure (ForInStep.yield (none,())):Sem (Option Bool×Unit))=(do let x ←eqFields n xs ys l;pure (x,())):=by
  intro l
  induction l with
  |nil=>simp[eqFields]
  |cons f l ih=>
   rw[List.forIn_cons]
   simp only[eqFields]
   by_cases hf:f.name= "_"
   ·rw[if_neg (by simp[hf]),if_neg (by simp[hf])]
    simp only[pure_bind]
    exact ih
   ·rw[if_pos (by simp[hf]),if_pos (by simp[hf])]
    simp only[bind_assoc]
    congr 1;funext u;congr 1;funext v;congr 1;funext b
    cases b
    ·simp
    ·simp only[Bool.not_true,Bool.false_eq_true,if_false,pure_bind]
     exact ih
 rw[key]
 simp only[Sem.run_bind,h,Result.andThen_ok,Sem.run_pure]
 cases r<;>simp
theorem done_eqs(I:Inv G γ H w)(E:EnvRep γ env a.tmps){op:BinOp}{t yt:TypeId}{x y:Operand}{x' y':Opd}(ho:o.op= .binOp op t x y yt)(hop:op= .eql∨op= .neq)(hx:opdOf x=some x')(hy:opdOf y=some y')
    {fs:Array Field} (ht:P.underlying t=some (.struct fs)) (h1:P.stoodInHeld t=false) (h2:P.eqGuardType P.depth t=false) {ts:List Nat} (hts:flatTags P 0 fs.toList=some ts)
    {d:D} {H':Hp} (he:evK G env H (.eqs (op== .neq) ts x' y')=some (d,H')):Done P G γ H w a o d H':=by
 have hxr:=opdOf_rep E hx
 have hyr:=opdOf_rep E hy
 simp only[evK] at he
 split at he
 ·rename_i p q e1 e2
  obtain⟨r,hr,hh⟩:=Option.map_eq_some_iff.1 he
  cases hh
  rw[e1] at hxr;rw[e2] at hyr
  obtain⟨xs,hxv,lx,_,rx⟩:=hxr.p_inv.agg_inv
  obtain⟨ys,hyv,ly,_,ry⟩:=hyr.p_inv.agg_inv
  refine .same I (v:=.bool (if op== .neq then !r else r)) ?_ (.p _ _ (.bool _))
  have g:(eqGuard op t x y (.agg xs) (.agg ys)).run P w= .ok () w:=by
   unfold eqGuard
   rcases hop with rfl |rfl<;>simp[h2]
  have q:(Op.equal t (.agg xs) (.agg ys)).run P w= .ok r w:=by
   rw[equal_succ]
   have:=run_eqFields (P:=P) rx ry lx ly 9998 w fs.toList 0 ts r hts (by simpa using hr)
   exact run_eqIn_struct ht h1 9999 w this
  have q':=run_eqneq hop (u:=.agg xs) (v:=.agg ys) rfl q
  simp[execOp,ho,hxv,hyv,g,q']
 ·cases he
variable {P : Program} {G : Nat → Option (List PD)} {γ : Gh} {H : Hp} {w : World} {env : Env} {a : Act} {o : Oper}
theorem done_index_str(I:Inv G γ H w)(E:EnvRep γ env a.tmps){t:TypeId}{x i:Operand}{y j:Opd}(ho:o.op= .index t x i)(ht:P.underlying t=some .string)
    (hx:opdOf x=some y) (hi:opdOf i=some j) {d:D} {H':Hp} (he:evK G env H (.index none y j)=some (d,H')):Done P G γ H w a o d H':=by
 have hxr:=opdOf_rep E hx
 have hir:=opdOf_rep E hi
 simp only[evK] at he
 split at he
 ·rename_i n hn
  obtain⟨k,hiv⟩:=asInt?_rep hir hn
  obtain⟨d',hd,hh⟩:=Option.map_eq_some_iff.1 he
  cases hh
  simp only[indexD] at hd
  split at hd
  ·rename_i s hs
   split at hd
   ·rename_i h0
    obtain⟨c,hc,rfl⟩:=Option.map_eq_some_iff.1 hd
    rw[hs] at hxr
    have hlt:n.toNat<s.length:=(List.getElem?_eq_some_iff.1 hc).1
    have hval:s[n.toNat]=c:=(List.getElem?_eq_some_iff.1 hc).2
    refine .same I (v:=.int .u8 c.toNat) ?_ (.p _ _ (.int _ _))
    have hs':(⟨s.toArray⟩:ByteArray).size=s.length:=by simp[ByteArray.size]
    have hg:(⟨s.toArray⟩:ByteArray)[n.toNat]? =some c:=by
     rw[getElem?_pos _ _ (by rw[hs'];exact hlt),←hval]
     rfl
    simp[execOp,ho,hxr.p_inv.str_inv,hiv,Instr.index,run_underlying ht,asIntOf,h0,hg]
   ·cases hd
  ·cases hd
 ·cases he
theorem cellN_isSome{e:TypeId}{s:Nat}{c:Option Nat}(hs:szOf P e=some s)(hc:cellN P e=some c):c=if c.isSome then some s else none:=by
 cases c with
 |none=>rfl
 |some n=>
  have :n=s:=by
   unfold cellN at hc
   rw[hs] at hc
   split at hc<;>first |(cases hc;done) |skip
   ·rename_i h1 h2;cases h2;cases hc;rfl
   ·rename_i h1 h2;cases h2;cases hc;rfl
  subst this;rfl
theorem done_index_arr(I:Inv G γ H w)(E:EnvRep γ env a.tmps){t e:TypeId}{len s:Nat}{c:Option Nat}{x i:Operand}{y j:Opd}(ho:o.op= .index t x i)(ht:P.underlying t=some (.array len e))(hs:szOf P e=some s)(hc:cellN P e=some c)
    (hx:opdOf x=some y) (hi:opdOf i=some j) {d:D} {H':Hp} (he:evK G env H (.index (some (len,s,c.isSome)) y j)=some (d,H')):Done P G γ H w a o d H':=by
 have hxr:=opdOf_rep E hx
 have hir:=opdOf_rep E hi
 have hcc:=cellN_isSome hs hc
 simp only[evK] at he
 split at he
 ·rename_i n hn
  obtain⟨k,hiv⟩:=asInt?_rep hir hn
  obtain⟨d',hd,hh⟩:=Option.map_eq_some_iff.1 he
  cases hh
  simp only[indexD] at hd
  split at hd
  ·rename_i hb
   have key:∀ds,(y.ev env= .agg ds∨∃cs,y.ev env= .p (.agg cs)∧ds=cs.map .p)→cutAt ds (n.toNat*s) (if c.isSome=true then some s else none) id mkAgg=some d→Done P G γ H w a o d H:=by
    intro ds hds hcut
    obtain⟨vs,hv,h1,h2⟩:=agg_repL hxr hds
    rw[←hcc] at hcut
    obtain⟨v,q1,q2⟩:=part_rep hc h1 h2 hcut w
    exact .same I (v:=v) (by simp[execOp,ho,hv,hiv,Instr.index,run_underlying ht,asIntOf,hb,run_szOf hs,q1]) q2
   split at hd
   ·rename_i cs hcs;exact key _ (.inr ⟨cs,hcs,rfl⟩) (cutAt_p hd)
   ·rename_i cs hcs;exact key _ (.inl hcs) hd
   ·cases hd
  ·cases hd
 ·cases he
theorem run_storeCells_fr(g o:Nat)(t:TypeId)(fr:Nat×Nat):∀(vs:List Value) (i:Nat) (cur:Array Value) (w:World),w.heap[g]? =some (.cells cur t fr)→clear fr (o+i) cur.size→o+i+vs.length≤cur.size→(∀v∈vs,v.oneCell'=true)→
    (storeCells ⟨g,o,none⟩ vs i).run P w= .ok () (w.setRow g (cur.toList.take (o+i)++vs++cur.toList.drop (o+i+vs.length)).toArray)
 |[],i,cur,w,hg,_,_,_=>by
  simp only[storeCells,List.append_nil,List.length_nil,Nat.add_zero,List.take_append_drop,Array.toArray_toList]
  rw[setRow_self w g cur t fr hg]
  rfl
 |v::rest,i,cur,w,hg,hu,hl,h1=>by
  have hi:o+i<cur.size:=by simp at hl;omega
  have hadd:(⟨g,o,none⟩:Addr).add i=⟨g,o+i,none⟩:=Addr.add_lit _ _ _
  have hcell:w.cell? ⟨g,o+i,none⟩=some cur[o+i]:=by simp[World.cell?,hg,hi]
  have hfro:w.frozen? ⟨g,o+i,none⟩=false:=by
   have:=hu (o+i) (Nat.le_refl _) hi
   simp only[World.frozen?,hg]
   obtain⟨f1,f2⟩:=fr
   simp only at this⊢
   cases hd:(decide (f1≤o+i)&&decide (o+i<f2)) with
   |false=>rfl
   |true=>simp at hd;exact(this hd).elim
  have hst:(store ((⟨g,o,none⟩:Addr).add i) v).run P w= .ok () (w.setRow g (cur.setIfInBounds (o+i) v)):=by
   rw[hadd,run_store P w _ v _ (h1 v (by simp)),hcell]
   simp[hfro,setCell_eq_setRow w g (o+i) cur t fr v hg]
  have ih:=run_storeCells_fr g o t fr rest (i+1) (cur.setIfInBounds (o+i) v) (w.setRow g (cur.setIfInBounds (o+i) v)) (setRow_heap w g cur _ t _ hg) (fun k hk hk2=>hu k (by omega) (by simpa using hk2)) (by simp at hl⊢;omega) (fun x hx=>h1 x (by simp[hx]))
  simp only[storeCells,Sem.run_bind,hst,Result.andThen_ok,ih,setRow_setRow]
  congr 3
  have:=list_seg_step cur.toList (o+i) v rest (by simp at hl⊢;omega)
  have e1:o+(i+1)=o+i+1:=by omega
  have e2:o+i+(v::rest).length=o+i+(rest.length+1):=by simp
  rw[e1,e2]
  simpa[Array.toList_setIfInBounds] using this
theorem run_loadVar{t:TypeId}{n:Option Nat}(ht:cellN P t=some n){b off:Nat}{f:Nat→Value}(h:∀j,j<n.getD 1→w.cell? ⟨b,off+j,none⟩=some (f j)):
    (loadVar t ⟨b,off,none⟩).run P w= .ok (match n with |none=>f 0 |some k=>.agg ((List.range k).map f).toArray) w:=by
 cases n with
 |none=>
  have h0:=h 0 (by simp)
  simp only[Nat.add_zero] at h0
  simp[loadVar,cellN_none ht,h0]
 |some k=>
  obtain⟨q1,q2⟩:=cellN_some ht w
  have q:=run_loadCells (P:=P) w ⟨b,off,none⟩ k f (fun j hj=>by rw[Addr.add_lit];exact h j (by simpa using hj))
  simp[loadVar,q1,q2,q]
theorem rangeL_rep{γ:Gh}{ds:List D}{f:Nat→Value}{off k:Nat}(hk:off+k≤ds.length)(h:∀j d,j<k→ds[off+j]? =some d→RepD γ (f j) d):RepL γ ((List.range k).map f).toArray (sub ds off (off+k)):=by
 refine⟨by rw[sub_length _ _ _ hk];simp,fun i d hd=>?_⟩
 rw[sub_get] at hd
 split at hd
 ·rename_i hlt
  have hi:i<k:=by omega
  have e:(((List.range k).map f).toArray).getD i undef=f i:=by simp[Array.getD_eq_getD_getElem?,hi]
  rw[e]
  exact h i d hi hd
 ·cases hd
theorem load_cells(I:Inv G γ H w){t:TypeId}{x:Operand}{n:Option Nat}(ho:o.op= .load t x)(ht:cellN P t=some n){b base off:Nat}(hv:a.eval x= .pointer (some ⟨b,base+off,none⟩)){ds:List D}
    {f:Nat→Value} (hcell:∀j,j<ds.length→w.cell? ⟨b,base+j,none⟩=some (f j)) (hr:∀j d,ds[j]? =some d→RepD γ (f j) d) (h1:∀d∈ds,d.one=true) {d:D}
    (hd:cutAt ds off n id mkAgg=some d):Done P G γ H w a o d H:=by
 unfold cutAt at hd
 split at hd
 ·obtain⟨d',hd',rfl⟩:=Option.map_eq_some_iff.1 hd
  have hlt:=(List.getElem?_eq_some_iff.1 hd').1
  have q:=run_loadVar (P:=P) (w:=w) ht (b:=b) (off:=base+off) (f:=fun j=>f (off+j)) (fun j hj=>by
   have :j=0:=by simpa using hj
   subst this;exact hcell off hlt)
  exact .same I (v:=f off) (by simp[execOp,ho,hv,Instr.loadAt,Instr.sureAddr,q]) (hr off _ hd')
 ·rename_i k
  split at hd
  ·rename_i hk
   cases hd
   have q:=run_loadVar (P:=P) (w:=w) ht (b:=b) (off:=base+off) (f:=fun j=>f (off+j)) (fun j hj=>by
    have hj:j<k:=by simpa using hj
    rw[Nat.add_assoc];exact hcell (off+j) (by omega))
   refine .same I (v:=.agg ((List.range k).map fun j=>f (off+j)).toArray) (by simp[execOp,ho,hv,Instr.loadAt,Instr.sureAddr,q]) (mkAgg_rep (rangeL_rep hk fun j d hj hd=>hr _ _ hd) (fun d hd=>h1 d (sub_mem hd)))
  ·cases hd
theorem done_load(I:Inv G γ H w)(E:EnvRep γ env a.tmps){t:TypeId}{x:Operand}{y:Opd}{n:Option Nat}(ho:o.op= .load t x)(ht:cellN P t=some n)(hx:opdOf x=some y)
    {d:D} {H':Hp} (he:evK G env H (.load n y)=some (d,H')):Done P G γ H w a o d H':=by
 have hxr:=opdOf_rep E hx
 simp only[evK] at he
 obtain⟨d',hd,hh⟩:=Option.map_eq_some_iff.1 he
 cases hh
 unfold loadD at hd
 split at hd
 ·rename_i i off hp
  split at hd
  ·rename_i cs hcs
   rw[hp] at hxr
   split at hd
   ·cases hd
   rename_i hm
   have hm:isMapC cs=false:=by simpa using hm
   generalize hev:a.eval x=v at hxr
   cases hxr with
   |box _ _ b hb=>
    obtain⟨vs,T,fr,q1,q2,q3,_⟩:=I.box i b cs hb hcs
    rw[viewC_of hm] at q1
    have q3:=q3 hm
    refine load_cells I ho ht (b:=b) (base:=0) (off:=off) (by rw[hev,Nat.zero_add]) (ds:=cs) (f:=fun j=>vs.getD j undef) (fun j hj=>?_) q2.2 q3 hd
    have hj':j<vs.size:=Nat.lt_of_lt_of_le hj q2.1
    simp[World.cell?,q1,hj',Array.getD_eq_getD_getElem?]
  ·cases hd
 ·rename_i cs off hp
  rw[hp] at hxr
  generalize hev:a.eval x=v at hxr
  cases hxr with
  |ro b base _ _ vs hm hr=>
   refine load_cells I ho ht (b:=b) (base:=base) (off:=off) hev (ds:=cs.map .p) (f:=vs) (fun j hj=>I.mem _ _ _ (hm j (by simpa using hj))) (fun j d hd=>?_) (fun d hd=>?_) (cutAt_p hd)
   ·simp only[List.getElem?_map,Option.map_eq_some_iff] at hd
    obtain⟨z,hz,rfl⟩:=hd
    exact .p _ _ (hr j z hz).1
   ·obtain⟨z,hz,rfl⟩:=List.mem_map.1 hd
    obtain⟨j,hj⟩:=List.getElem?_of_mem hz
    exact(hr j z hj).2
 ·rename_i g off hp
  split at hd
  ·rename_i cs hcs
   rw[hp] at hxr
   generalize hev:a.eval x=v at hxr
   cases hxr with
   |glob _ _=>
    have hg:=I.globs g cs hcs
    refine load_cells I ho ht (b:=g) (base:=0) (off:=off) (by rw[hev,Nat.zero_add]) (ds:=cs.map .p) (f:=fun j=>(γ.mem g j).getD undef) (fun j hj=>?_) (fun j d hd=>?_) (fun d hd=>?_) (cutAt_p hd)
    ·have hj:j<cs.length:=by simpa using hj
     obtain⟨_,v,q1,q2⟩:=hg j _ (List.getElem?_eq_getElem hj)
     rw[q1];simp only[Nat.zero_add,Option.getD_some]
     exact I.mem _ _ _ q1
    ·simp only[List.getElem?_map,Option.map_eq_some_iff] at hd
     obtain⟨z,hz,rfl⟩:=hd
     obtain⟨_,v,q1,q2⟩:=hg j z hz
     rw[q1];exact .p _ _ q2
    ·obtain⟨z,hz,rfl⟩:=List.mem_map.1 hd
     obtain⟨j,hj⟩:=List.getElem?_of_mem hz
     exact(hg j z hj).1
  ·cases hd
 ·cases hd
theorem done_store(I:Inv G γ H w)(E:EnvRep γ env a.tmps){t:TypeId}{x y:Operand}{x' y':Opd}{n:Nat}(ho:o.op= .store t x y)(ht:szOf P t=some n)(hx:opdOf x=some x')(hy:opdOf y=some y')
    {d:D} {H':Hp} (he:evK G env H (.store n x' y')=some (d,H')):Done P G γ H w a o d H':=by
 have hxr:=opdOf_rep E hx
 have hyr:=opdOf_rep E hy
 simp only[evK] at he
 obtain⟨H1,hd,hh⟩:=Option.map_eq_some_iff.1 he
 cases hh
 unfold storeD at hd
 split at hd
 ·rename_i i off hp
  split at hd
  ·rename_i cs hcs
   split at hd
   ·rename_i hc
    obtain⟨hm,hl,h1,hfit,hnpos⟩:=hc
    cases hd
    rw[hp] at hxr
    generalize hev:a.eval x=v at hxr
    cases hxr with
    |box _ _ b hb=>
     obtain⟨vs,T,fr,q1,q2,q3,q4⟩:=I.box i b cs hb hcs
     rw[viewC_of hm] at q1
     have q4:=q4 (fun e=>by subst e;simp at hfit;omega)
     have q21:=q2.1
     obtain⟨r1,r2⟩:=hyr.cells h1
     have hus:(a.eval y).cells.size=n:=by rw[r1.1,hl]
     have one:∀u∈(a.eval y).cells.toList,u.oneCell'=true:=by
      intro u hu
      obtain⟨j,hj⟩:=List.getElem?_of_mem hu
      have hj':j<(y'.ev env).cells.length:=by rw[←r1.1];simpa using (List.getElem?_eq_some_iff.1 hj).1
      have q:=r1.2 j _ (List.getElem?_eq_getElem hj')
      have e:(a.eval y).cells.getD j undef=u:=by
       have :(a.eval y).cells[j]? =some u:=by simpa using hj
       simp[Array.getD_eq_getD_getElem?,this]
      rw[e] at q
      exact q.oneCell (r2 _ (List.getElem_mem hj'))
     have st:=run_storeCells_fr (P:=P) b off T fr (a.eval y).cells.toList 0 vs w q1 (fun k _ hk=>q4 k (Nat.zero_le _) hk) (by simp[hus];omega) one
     simp only[Nat.add_zero] at st
     have hl':(y'.ev env).cells.length=(a.eval y).cells.toList.length:=by rw[←r1.1];simp
     obtain⟨s1,s2⟩:=I.store hb hcs (us:=(a.eval y).cells.toList) (ds:=(y'.ev env).cells) (off:=off) (by simpa using r1) r2 (by rw[hl];exact hfit) q1 q4 q2 hm
     refine⟨undef,_,γ,.inr ⟨?_,rfl⟩,.refl γ,s1,s2,.undef⟩
     have e2:((a.eval y).cells.size≠n)=False:=by simp[hus]
     simp[execOp,ho,hev,Instr.storeAt,Instr.sureAddr,storeVar,run_szOf ht,hus,st]
   ·cases hd
  ·cases hd
 ·cases hd
theorem done_alloc(I:Inv G γ H w){e:TypeId}{z:PD}(ho:o.op= .alloc e)(hz:zeroOf P e=some z){d:D}{H':Hp}(he:evK G env H (.alloc z.cells)=some (d,H')):Done P G γ H w a o d H':=by
 simp only[evK] at he
 split at he
 ·rename_i h1
  cases he
  obtain⟨v,q1,q2⟩:=run_zeroOf hz w
  obtain⟨r1,r2⟩:=(ofV_rep γ.mem q2).cells
  obtain⟨γ',a1,a2,a3,a4⟩:=I.newBox (vs:=v.cells) (cs:=z.cells.map .p) e (repL_p r1 fun i d hd=>(r2 i d hd).1).toB (fun c hc=>by
   obtain⟨x,hx,rfl⟩:=List.mem_map.1 hc
   exact List.all_eq_true.1 h1 x hx)
  exact⟨.pointer (some ⟨w.heap.size,0,none⟩),_,γ',.inl (by simp[execOp,ho,Instr.alloc,q1,newVar,newRow]),a1,a3,a4,.box _ _ _ a2⟩
 ·cases he
theorem done_box(I:Inv G γ H w)(E:EnvRep γ env a.tmps){e:TypeId}{x:Operand}{y:Opd}(ho:o.op= .box e x)(hx:opdOf x=some y){d:D}{H':Hp}(he:evK G env H (.box y)=some (d,H')):Done P G γ H w a o d H':=by
 have hxr:=opdOf_rep E hx
 simp only[evK] at he
 split at he
 ·rename_i h1
  cases he
  obtain⟨r1,r2⟩:=hxr.cells h1
  obtain⟨γ',a1,a2,a3,a4⟩:=I.newBox (vs:=(a.eval x).cells) (cs:=(y.ev env).cells) e r1.toB r2
  exact⟨.pointer (some ⟨w.heap.size,0,none⟩),_,γ',.inl (by simp[execOp,ho,Instr.box,newVar,newRow]),a1,a3,a4,.box _ _ _ a2⟩
 ·cases he
theorem foldl_set(off:Nat):∀(us:List Value) (k:Nat) (cells:Array Value),
    ((us.zipIdx k).foldl (fun cs (x:Value×Nat)=>cs.setIfInBounds (off+x.2) x.1) cells).size=cells.size∧
     ∀i,((us.zipIdx k).foldl (fun cs (x:Value×Nat)=>cs.setIfInBounds (off+x.2) x.1) cells)[i]? =
      if off+k≤i∧i<off+k+us.length then(if i<cells.size then us[i-(off+k)]? else none) else cells[i]?
 |[],k,cells=>⟨rfl,fun i=>by simp;intro h1 h2;omega⟩
 |u::us,k,cells=>by
  simp only[List.zipIdx_cons,List.foldl_cons]
  obtain⟨h1,h2⟩:=foldl_set off us (k+1) (cells.setIfInBounds (off+k) u)
  refine⟨by rw[h1];simp,fun i=>?_⟩
  rw[h2]
  simp only[Array.size_setIfInBounds,List.length_cons]
  by_cases ha:off+(k+1)≤i∧i<off+(k+1)+us.length
  ·have hc:off+k≤i∧i<off+k+(us.length+1):=⟨by omega,by omega⟩
   have :i-(off+k)=(i-(off+(k+1)))+1:=by omega
   simp only[ha,hc,and_self,if_true,this,List.getElem?_cons_succ]
  ·rw[if_neg ha,Array.getElem?_setIfInBounds]
   by_cases hb:off+k=i
   ·subst hb
    simp
   ·have hc:¬(off+k≤i∧i<off+k+(us.length+1)):=by omega
    rw[if_neg hb,if_neg hc]
theorem lay_rep{γ:Gh}{cells:Array Value}{ds:List D}(r:RepL γ cells ds){us:Array Value}{xs:List D}(q:RepL γ us xs){off:Nat}(h:off+xs.length≤ds.length):
    RepL γ (us.zipIdx.foldl (fun cs (x:Value×Nat)=>cs.setIfInBounds (off+x.2) x.1) cells) (splice ds off xs):=by
 have e:us.zipIdx.foldl (fun cs (x:Value×Nat)=>cs.setIfInBounds (off+x.2) x.1) cells=(us.toList.zipIdx 0).foldl (fun cs (x:Value×Nat)=>cs.setIfInBounds (off+x.2) x.1) cells:=by
  rw[←Array.foldl_toList]
  simp
 rw[e]
 obtain⟨h1,h2⟩:=foldl_set off us.toList 0 cells
 have hul:us.size=xs.length:=q.1
 have hcl:cells.size=ds.length:=r.1
 refine⟨by rw[h1,length_splice _ _ _ h];exact r.1,fun i d hd=>?_⟩
 rw[getElem?_splice _ _ _ h] at hd
 have h2':=h2 i
 simp only[Nat.add_zero,Array.length_toList] at h2'
 by_cases a1:i<off
 ·rw[if_pos a1] at hd
  rw[if_neg (by omega)] at h2'
  have:=r.2 i d hd
  simpa[Array.getD_eq_getD_getElem?,h2'] using this
 ·rw[if_neg a1] at hd
  by_cases a2:i<off+xs.length
  ·rw[if_pos a2] at hd
   rw[if_pos (by omega),if_pos (by omega)] at h2'
   have:=q.2 (i-off) d hd
   simpa[Array.getD_eq_getD_getElem?,h2'] using this
  ·rw[if_neg a2] at hd
   rw[if_neg (by omega)] at h2'
   have:=r.2 i d hd
   simpa[Array.getD_eq_getD_getElem?,h2'] using this
theorem fill_rep(E:EnvRep γ env a.tmps){place:Nat→Option (Nat×Nat)}:∀(ps:List (Nat×Operand)) (qs:List (Nat×Nat×Opd)) (cells:Array Value) (ds ds':List D),partsOf P place ps=some qs→
    RepL γ cells ds→(∀d∈ds,d.one=true)→fillD ds (qs.map fun q=>(q.1,q.2.1,q.2.2.ev env))=some ds'→
    ∃cells',Instr.fill place cells (ps.map fun p=>(p.1,a.eval p.2))=some cells'∧RepL γ cells' ds'∧∀d∈ds',d.one=true
 |[],qs,cells,ds,ds',hp,r,h1,h=>by
  simp only[partsOf] at hp
  cases hp
  simp only[List.map_nil,fillD] at h
  cases h
  exact⟨cells,rfl,r,h1⟩
 |(i,x)::ps,qs,cells,ds,ds',hp,r,h1,h=>by
  simp only[partsOf] at hp
  split at hp
  ·rename_i off n y hpl hy
   obtain⟨qs',hq,rfl⟩:=Option.map_eq_some_iff.1 hp
   simp only[List.map_cons,fillD] at h
   split at h
   ·rename_i hc
    obtain⟨c1,c2,c3⟩:=hc
    have hyr:=opdOf_rep E hy
    obtain⟨r1,r2⟩:=hyr.cells c3
    have hsz:(a.eval x).cells.size=n:=by rw[r1.1,c1]
    have hcs:cells.size=ds.length:=r.1
    have lay:=lay_rep r r1 (off:=off) (by omega)
    obtain⟨cells',q1,q2,q3⟩:=fill_rep E ps qs' _ _ ds' hq lay (fun d hd=>by
     rcases mem_splice hd with h |h
     ·exact h1 d h
     ·exact r2 d h) h
    refine⟨cells',?_,q2,q3⟩
    simp only[List.map_cons,Instr.fill,hpl,hsz]
    rw[if_neg (by simp;omega)]
    exact q1
   ·cases h
  ·cases hp
theorem fieldPlaces_get{fs:List Field}{pl:List (Nat×Nat)}(h:fieldPlaces P fs=some pl)(w:World):(fs.mapM fun f=>(do pure (f.offset,←sizeOf f.type):Sem (Nat×Nat))).run P w= .ok pl w:=by
 unfold fieldPlaces at h
 induction fs generalizing pl with
 |nil=>simp only[mapO] at h;cases h;rfl
 |cons f fs ih=>
  simp only[mapO] at h
  split at h
  ·rename_i b hb
   obtain⟨pl',h',rfl⟩:=Option.map_eq_some_iff.1 h
   obtain⟨n,hn,rfl⟩:=Option.map_eq_some_iff.1 hb
   have:=ih h'
   simp[List.mapM_cons,run_szOf hn] at this⊢
   rw[this]
   simp
  ·cases h
theorem done_build(I:Inv G γ H w){t:TypeId}{parts:Array (Nat×Operand)}{zs:List PD}(ho:o.op= .build t parts)(hz:zeroOf P t=some (.agg zs)){ds:List D}{place:Nat→Option (Nat×Nat)}
    (hb:∀(z:Value) (cells':Array Value),(zeroValue t).run P w= .ok z w→Instr.fill place z.cells (parts.toList.map fun p=>(p.1,a.eval p.2))=some cells'→(execOp a.eval o).run P w= .ok (.value (.agg cells')) w)
    (hf:∀(cells:Array Value),RepL γ cells (zs.map .p)→∃cells',Instr.fill place cells (parts.toList.map fun p=>(p.1,a.eval p.2))=some cells'∧RepL γ cells' ds∧∀d∈ds,d.one=true):Done P G γ H w a o (mkAgg ds) H:=by
 have _:=ho
 obtain⟨z,q1,q2⟩:=run_zeroOf hz w
 obtain⟨r1,r2⟩:=(ofV_rep γ.mem q2).cells
 obtain⟨cells',p1,p2,p3⟩:=hf z.cells (repL_p r1 fun i d hd=>(r2 i d hd).1)
 exact .same I (v:=.agg cells') (hb z cells' q1 p1) (mkAgg_rep p2 p3)
theorem parts_map(parts:Array (Nat×Operand))(ρ:Operand→Value):(parts.map fun(x:Nat×Operand)=>(x.1,ρ x.2)).toList=parts.toList.map fun p=>(p.1,ρ p.2):=by simp
theorem done_build_struct(I:Inv G γ H w)(E:EnvRep γ env a.tmps){t:TypeId}{parts:Array (Nat×Operand)}{zs:List PD}{fs:Array Field}{pl:List (Nat×Nat)}{qs:List (Nat×Nat×Opd)}(ho:o.op= .build t parts)(ht:P.underlying t=some (.struct fs))
    (hz:zeroOf P t=some (.agg zs)) (hpl:fieldPlaces P fs.toList=some pl) (hq:partsOf P (pl[·]?) parts.toList=some qs) {d:D} {H':Hp} (he:evK G env H (.build zs qs)=some (d,H')):Done P G γ H w a o d H':=by
 simp only[evK] at he
 split at he
 ·rename_i h1
  obtain⟨ds,hds,hh⟩:=Option.map_eq_some_iff.1 he
  cases hh
  refine done_build I ho hz (place:=(pl[·]?)) (fun z cells' hz' hf=>?_) (fun cells hc=>?_)
  ·have hm:=fieldPlaces_get hpl w
   have hm':(fs.mapM fun f=>(do pure (f.offset,←sizeOf f.type):Sem (Nat×Nat))).run P w= .ok pl.toArray w:=by
    rw[Array.mapM_eq_mapM_toList]
    simp only[Sem.run_map,hm,Result.andThen_ok]
   have hg:∀i:Nat,pl.toArray[i]? =pl[i]?:=fun i=>by simp
   have hg':(fun i:Nat=>pl.toArray[i]?)=(fun i=>pl[i]?):=funext hg
   have hp:(parts.map fun(x:Nat×Operand)=>(x.1,a.eval x.2)).toList=parts.toList.map fun p=>(p.1,a.eval p.2):=parts_map parts a.eval
   simp only[execOp,ho,Instr.build,Sem.run_bind,hz',Result.andThen_ok,run_underlying ht,hm',hg',hp,hf,Sem.run_pure]
  ·exact fill_rep E parts.toList qs cells (zs.map .p) ds hq hc (fun d hd=>by
    obtain⟨x,hx,rfl⟩:=List.mem_map.1 hd
    exact List.all_eq_true.1 h1 x hx) hds
 ·cases he
theorem done_build_array(I:Inv G γ H w)(E:EnvRep γ env a.tmps){t e:TypeId}{len n:Nat}{parts:Array (Nat×Operand)}{zs:List PD}{qs:List (Nat×Nat×Opd)}(ho:o.op= .build t parts)(ht:P.underlying t=some (.array len e))
    (hz:zeroOf P t=some (.agg zs)) (hn:szOf P e=some n) (hq:partsOf P (fun i=>some (i*n,n)) parts.toList=some qs) {d:D} {H':Hp} (he:evK G env H (.build zs qs)=some (d,H')):Done P G γ H w a o d H':=by
 simp only[evK] at he
 split at he
 ·rename_i h1
  obtain⟨ds,hds,hh⟩:=Option.map_eq_some_iff.1 he
  cases hh
  refine done_build I ho hz (place:=fun i=>some (i*n,n)) (fun z cells' hz' hf=>?_) (fun cells hc=>?_)
  ·have hp:(parts.map fun(x:Nat×Operand)=>(x.1,a.eval x.2)).toList=parts.toList.map fun p=>(p.1,a.eval p.2):=parts_map parts a.eval
   simp only[execOp,ho,Instr.build,Sem.run_bind,hz',Result.andThen_ok,run_underlying ht,run_szOf hn,hp,hf,Sem.run_pure]
  ·exact fill_rep E parts.toList qs cells (zs.map .p) ds hq hc (fun d hd=>by
    obtain⟨x,hx,rfl⟩:=List.mem_map.1 hd
    exact List.all_eq_true.1 h1 x hx) hds
 ·cases he
def RepE(m:Mem)(sz:Nat)(cs:Array Value)(es:List PD):Prop:=
 cs.size=es.length*sz∧(∀e∈es,e.cells.length=sz∧∀c∈e.cells,c.one=true)∧∀(i:Nat) e (j:Nat) c,es[i]? =some e→e.cells[j]? =some c→RepP m (cs.getD (i*sz+j) undef) c
theorem RepE.set{m:Mem}{sz:Nat}{cs us:Array Value}{es:List PD}{e:PD}{i:Nat}(r:RepE m sz cs es)(hi:i<es.length)(hu:us.size=sz)(he:e.cells.length=sz)(h1:∀c∈e.cells,c.one=true)
    (hr:∀j c,e.cells[j]? =some c→RepP m (us.getD j undef) c):RepE m sz (us.zipIdx.foldl (fun cs (x:Value×Nat)=>cs.setIfInBounds (i*sz+x.2) x.1) cs) (es.set i e):=by
 have ee:us.zipIdx.foldl (fun cs (x:Value×Nat)=>cs.setIfInBounds (i*sz+x.2) x.1) cs=(us.toList.zipIdx 0).foldl (fun cs (x:Value×Nat)=>cs.setIfInBounds (i*sz+x.2) x.1) cs:=by
  rw[←Array.foldl_toList]
  simp
 rw[ee]
 obtain⟨h2,h3⟩:=foldl_set (i*sz) us.toList 0 cs
 obtain⟨r1,r2,r3⟩:=r
 refine⟨by rw[h2];simpa using r1,fun x hx=>?_,fun k x j c hk hc=>?_⟩
 ·rcases List.mem_or_eq_of_mem_set hx with h |rfl
  ·exact r2 x h
  ·exact⟨he,h1⟩
 ·have h3':=h3 (k*sz+j)
  simp only[Nat.add_zero,Array.length_toList] at h3'
  have hj:∀y:PD,y.cells[j]? =some c→y.cells.length=sz→j<sz:=fun y hy hl=>by rw[←hl];exact(List.getElem?_eq_some_iff.1 hy).1
  by_cases hik:i=k
  ·subst hik
   rw[List.getElem?_set_self hi] at hk
   cases hk
   have hj:=hj e hc he
   have hlt:i*sz+j<cs.size:=by
    rw[r1]
    calc i*sz+j<i*sz+sz:=by omega
     _=(i+1)*sz:=by rw[Nat.add_mul,Nat.one_mul]
     _≤es.length*sz:=Nat.mul_le_mul_right _ hi
   rw[if_pos ⟨by omega,by omega⟩,if_pos hlt] at h3'
   have:=hr j c hc
   have e3:i*sz+j-i*sz=j:=by omega
   rw[e3] at h3'
   simpa[Array.getD_eq_getD_getElem?,h3'] using this
  ·rw[List.getElem?_set_ne hik] at hk
   have hj:=hj x hc (r2 x (List.mem_of_getElem? hk)).1
   have hout:¬(i*sz≤k*sz+j∧k*sz+j<i*sz+us.size):=by
    rw[hu]
    intro hh
    have h1:i<k+1:=by
     apply Nat.lt_of_mul_lt_mul_right (a:=sz)
     rw[Nat.add_mul,Nat.one_mul];omega
    have h2:k<i+1:=by
     apply Nat.lt_of_mul_lt_mul_right (a:=sz)
     rw[Nat.add_mul,Nat.one_mul];omega
    omega
   rw[if_neg hout] at h3'
   have:=r3 k x j c hk hc
   simpa[Array.getD_eq_getD_getElem?,h3'] using this
theorem fillE_rep(E:EnvRep γ env a.tmps)(sz:Nat):∀(ps:List (Nat×Operand)) (qs:List (Nat×Opd)) (cells:Array Value) (es es':List PD),partsE ps=some qs→
    RepE γ.mem sz cells es→fillE sz es (qs.map fun q=>(q.1,q.2.ev env))=some es'→
    ∃cells',Instr.fill (fun i=>some (i*sz,sz)) cells (ps.map fun p=>(p.1,a.eval p.2))=some cells'∧RepE γ.mem sz cells' es'
 |[],qs,cells,es,es',hp,r,h=>by
  simp only[partsE] at hp
  cases hp
  simp only[List.map_nil,fillE] at h
  cases h
  exact⟨cells,rfl,r⟩
 |(i,x)::ps,qs,cells,es,es',hp,r,h=>by
  simp only[partsE] at hp
  split at hp
  ·rename_i y hy
   obtain⟨qs',hq,rfl⟩:=Option.map_eq_some_iff.1 hp
   simp only[List.map_cons,fillE] at h
   split at h
   ·rename_i z hz
    split at h
    ·rename_i hc
     obtain⟨c1,c2,c3⟩:=hc
     have hyr:=seal_rep (opdOf_rep E hy) hz
     obtain⟨r1,r2⟩:=hyr.cells
     have hsz:(a.eval x).cells.size=sz:=by rw[r1,c1]
     have hfit:i*sz+sz≤cells.size:=by
      rw[r.1]
      calc i*sz+sz=(i+1)*sz:=by rw[Nat.add_mul,Nat.one_mul]
       _≤es.length*sz:=Nat.mul_le_mul_right _ c3
     have lay:=r.set (us:=(a.eval x).cells) (e:=z) c3 hsz c1 (List.all_eq_true.1 c2) (fun j c hc=>(r2 j c hc).1)
     obtain⟨cells',q1,q2⟩:=fillE_rep E sz ps qs' _ _ es' hq lay h
     refine⟨cells',?_,q2⟩
     simp only[List.map_cons,Instr.fill,hsz]
     rw[if_neg (by simp;omega)]
     exact q1
    ·cases h
   ·cases h
  ·cases hp
theorem RepE.slice{m:Mem}{sz:Nat}{cs:Array Value}{es:List PD}(r:RepE m sz cs es){b cap:Nat}(hc:es.length≤cap)(hm:∀o,o<es.length*sz→m b o=cs[o]?):RepP m (.slice (some ⟨b,0,none⟩) es.length cap) (.slice sz es):=by
 obtain⟨r1,r2,r3⟩:=r
 refine .sl b 0 cap sz es (fun i j=>cs.getD (i*sz+j) undef) hc (fun e he=>(r2 e he).1) (fun e he=>(r2 e he).2) (fun i j hi hj=>?_) r3
 have hlt:i*sz+j<es.length*sz:=by
  calc i*sz+j<i*sz+sz:=by omega
   _=(i+1)*sz:=by rw[Nat.add_mul,Nat.one_mul]
   _≤es.length*sz:=Nat.mul_le_mul_right _ hi
 rw[Nat.zero_add,hm _ hlt]
 have :i*sz+j<cs.size:=by rw[r1];exact hlt
 simp[this,Array.getD_eq_getD_getElem?]
theorem RepE.mono{m m':Mem}(h:Mem.le m m'){sz:Nat}{cs:Array Value}{es:List PD}(r:RepE m sz cs es):RepE m' sz cs es:=⟨r.1,r.2.1,fun i e j c he hc=>(r.2.2 i e j c he hc).mono h⟩
theorem zeros_rep{m:Mem}{v:Value}{z:PD}(hz:RepP m v z){sz len:Nat}(h1:z.cells.length=sz)(h2:∀c∈z.cells,c.one=true):RepE m sz ((Array.range (len*sz)).map fun i=>v.cells[i%v.cells.size]!) (List.replicate len z):=by
 obtain⟨r1,r2⟩:=hz.cells
 refine⟨by simp,fun e he=>?_,fun i e j c he hc=>?_⟩
 ·obtain⟨_,rfl⟩:=List.mem_replicate.1 he
  exact⟨h1,h2⟩
 ·have he':=List.mem_replicate.1 (List.mem_of_getElem? he)
  obtain⟨_,rfl⟩:=he'
  have hi:i<len:=by have:=(List.getElem?_eq_some_iff.1 he).1;simpa using this
  have hj:j<sz:=by rw[←h1];exact(List.getElem?_eq_some_iff.1 hc).1
  have hlt:i*sz+j<len*sz:=by
   calc i*sz+j<i*sz+sz:=by omega
    _=(i+1)*sz:=by rw[Nat.add_mul,Nat.one_mul]
    _≤len*sz:=Nat.mul_le_mul_right _ hi
  have hmod:(i*sz+j)%v.cells.size=j:=by
   rw[r1,h1,Nat.add_comm,Nat.add_mul_mod_self_right,Nat.mod_eq_of_lt hj]
  have hj2:j<v.cells.size:=by rw[r1,h1];exact hj
  have:=(r2 j c hc).1
  have e:((Array.range (len*sz)).map fun i=>v.cells[i%v.cells.size]!).getD (i*sz+j) undef=v.cells.getD j undef:=by
   simp[Array.getD_eq_getD_getElem?,hlt,hmod,hj2]
  rw[e];exact this
theorem done_bslice(I:Inv G γ H w)(E:EnvRep γ env a.tmps){t e:TypeId}{len n:Nat}{parts:Array (Nat×Operand)}{z:PD}{qs:List (Nat×Opd)}(ho:o.op= .buildSlice t len parts)(ht:P.underlying t=some (.slice e))
    (hn:szOf P e=some n) (hz:zeroOf P e=some z) (hq:partsE parts.toList=some qs) (hlim:len*n≤16777216∧0<n) {d:D} {H':Hp} (he:evK G env H (.bslice e n len z qs)=some (d,H')):Done P G γ H w a o d H':=by
 simp only[evK] at he
 split at he
 ·rename_i h1
  obtain⟨es,hes,hh⟩:=Option.map_eq_some_iff.1 he
  cases hh
  obtain⟨v,q1,q2⟩:=run_zeroOf hz w
  have hv:=ofV_rep γ.mem q2
  have hp:(parts.map fun(x:Nat×Operand)=>(x.1,a.eval x.2)).toList=parts.toList.map fun p=>(p.1,a.eval p.2):=parts_map parts a.eval
  have zr:RepE γ.mem n ((Array.range (len*n)).map fun i=>(if len*n=0 then #[] else v.cells)[i%(if len*n=0 then(#[]:Array Value) else v.cells).size]!) (List.replicate len z):=by
   by_cases h0:len*n=0
   ·have :len=0:=by
     rcases Nat.mul_eq_zero.1 h0 with h |h
     ·exact h
     ·omega
    subst this
    refine⟨by simp,fun e he=>by simp at he,fun i e j c he _=>by simp at he⟩
   ·simp only[h0,if_false]
    exact zeros_rep hv h1.1 (List.all_eq_true.1 h1.2)
  obtain⟨cells',c1,c2⟩:=fillE_rep E n parts.toList qs _ _ es hq zr hes
  have hlen:es.length=len:=by
   have hsz:=c2.1
   have :∀(l:List (Nat×D)) (es es':List PD),fillE n es l=some es'→es'.length=es.length:=by
    intro l
    induction l with
    |nil=>intro es es' h;simp only[fillE] at h;cases h;rfl
    |cons x l ih=>
     intro es es' h
     obtain⟨i,y⟩:=x
     simp only[fillE] at h
     split at h
     ·split at h
      ·rw[ih _ _ h];simp
      ·cases h
     ·cases h
   rw[this _ _ _ hes];simp
  obtain⟨a1,a2,a3⟩:=I.newRow cells' e (0,0) ⟨Nat.zero_le _,Nat.le_refl _⟩
  have hrun:(execOp a.eval o).run P w= .ok (.value (.slice (some ⟨w.heap.size,0,none⟩) len len)) (w.alloc (.cells cells' e)):=by
   have e1:¬(len*n>2 ^ 24):=by have:=hlim.1;omega
   simp only[execOp,ho,Instr.buildSlice,Sem.run_bind,Result.andThen_ok,run_underlying ht,run_szOf hn,e1,if_false,hp]
   by_cases h0:len*n=0
   ·have hr:Array.range 0= #[]:=rfl
    simp only[h0,if_true,hr,Array.map_empty] at c1
    simp[h0,hr,c1,newRow]
   ·simp only[h0,if_false] at c1
    simp[h0,q1,c1,newRow]
  refine⟨_,_,_,.inl hrun,a1,a2,a3,?_⟩
  have:=(c2.mono a1.mem).slice (b:=w.heap.size) (cap:=es.length) (Nat.le_refl _) (fun o _=>by simp[Gh.asPD])
  rw[hlen] at this
  refine .fsl _ _ _ _ _ I.size ?_ hlen.symm this
  have hcs:=c2.1
  rw[hlen] at hcs
  simp[Gh.asPD,hcs]
 ·cases he
end Go.Vs
namespace Go.Vs
variable {P : Program} {G : Nat → Option (List PD)} {γ : Gh} {H : Hp} {w : World} {env : Env} {a : Act} {o : Oper}
structure Src (P:Program) (m:Mem) (w:World) (sz:Nat) (x:Value) (xs:List PD) (news:Array Value):Prop where
 len:∀w',(Builtin.lenOf x).run P w'= .ok xs.length w'
 cells:∀w',(∀ad,w'.cell? ad=w.cell? ad)→(Builtin.firstCells sz xs.length x).run P w'= .ok news w'
 rep:RepE m sz news xs
theorem RepE.one{m:Mem}{sz:Nat}{cs:Array Value}{es:List PD}(r:RepE m sz cs es)(hs:0<sz):∀v∈cs.toList,v.oneCell'=true:=by
 intro v hv
 obtain⟨k,hk⟩:=List.getElem?_of_mem hv
 have hk':cs[k]? =some v:=by simpa using hk
 have hlt:k<cs.size:=(Array.getElem?_eq_some_iff.1 hk').1
 obtain⟨r1,r2,r3⟩:=r
 have hi:k/sz<es.length:=by rw[Nat.div_lt_iff_lt_mul hs,←r1];exact hlt
 have he:=List.getElem?_eq_getElem hi
 obtain⟨e1,e2⟩:=r2 _ (List.getElem_mem hi)
 have hj:k%sz<(es[k/sz]).cells.length:=by rw[e1];exact Nat.mod_lt _ hs
 have hc:=List.getElem?_eq_getElem hj
 have q:=r3 _ _ _ _ he hc
 have ek:k/sz*sz+k%sz=k:=by rw[Nat.mul_comm];exact Nat.div_add_mod k sz
 rw[ek] at q
 have :cs.getD k undef=v:=by simp[Array.getD_eq_getD_getElem?,hk']
 rw[this] at q
 exact q.one (e2 _ (List.mem_of_getElem? hc))
theorem elems_src(I:Inv G γ H w){sz:Nat}(hs:0<sz){v:Value}{es:List PD}(h:RepP γ.mem v (.slice sz es)):∃news,Src P γ.mem w sz v es news:=by
 obtain⟨ad,cap,rfl,hcap,hne⟩:=slice_inv h
 by_cases h0:es=[]
 ·subst h0
  refine⟨#[],⟨fun w'=>by simp[Builtin.lenOf],fun w' _=>?_,by simp,fun e he=>by simp at he,fun i e j c he=>by simp at he⟩⟩
  cases ad<;>simp[Builtin.firstCells,loadCells,loadCellsFrom]
 ·obtain⟨b,off,vs,rfl,hsz,hone,hm,hr⟩:=hne h0
  refine⟨((List.range (es.length*sz)).map fun k=>vs (k/sz) (k%sz)).toArray,⟨fun w'=>by simp[Builtin.lenOf],fun w' hw'=>?_,?_⟩⟩
  ·refine run_firstCells_some (P:=P) w' sz es.length _ _ _ _ (by simp) (fun j v hj=>?_)
   have hlt:j<es.length*sz:=by have:=(List.getElem?_eq_some_iff.1 hj).1;simpa using this
   have hv:vs (j/sz) (j%sz)=v:=by simpa[hlt] using hj
   rw[Addr.add_lit,hw',←hv]
   have hi:j/sz<es.length:=by rw[Nat.div_lt_iff_lt_mul hs];exact hlt
   have:=I.mem _ _ _ (hm (j/sz) (j%sz) hi (Nat.mod_lt _ hs))
   have ej:off+j/sz*sz+j%sz=off+j:=by rw[Nat.add_assoc];congr 1;rw[Nat.mul_comm];exact Nat.div_add_mod j sz
   rw[ej] at this
   exact this
  ·refine⟨by simp,fun e he=>⟨hsz e he,hone e he⟩,fun i e j c he hc=>?_⟩
   have hi:i<es.length:=(List.getElem?_eq_some_iff.1 he).1
   have hj:j<sz:=by rw[←hsz e (List.mem_of_getElem? he)];exact(List.getElem?_eq_some_iff.1 hc).1
   have hlt:i*sz+j<es.length*sz:=by
    calc i*sz+j<i*sz+sz:=by omega
     _=(i+1)*sz:=by rw[Nat.add_mul,Nat.one_mul]
     _≤es.length*sz:=Nat.mul_le_mul_right _ hi
   have hd:(i*sz+j)/sz=i:=by rw[Nat.mul_comm,Nat.mul_add_div hs,Nat.div_eq_of_lt hj,Nat.add_zero]
   have hmm:(i*sz+j)%sz=j:=by rw[Nat.add_comm,Nat.add_mul_mod_self_right,Nat.mod_eq_of_lt hj]
   have ee:(((List.range (es.length*sz)).map fun k=>vs (k/sz) (k%sz)).toArray).getD (i*sz+j) undef=vs i j:=by
    simp[Array.getD_eq_getD_getElem?,hlt,hd,hmm]
   rw[ee]
   exact hr i _ _ c he hc
theorem src_of(I:Inv G γ H w){sz:Nat}(hs:0<sz){v:Value}{d:D}(r:RepD γ v d){xs:List PD}(h:srcD sz d=some xs):
    (∃news,Src P γ.mem w sz v xs news)∧((∃s,v= .string s)∨∃ad n c,v= .slice ad n c):=by
 unfold srcD at h
 split at h
 ·rename_i s
  split at h
  ·rename_i h1
   subst h1
   cases h
   rw[r.p_inv.str_inv]
   refine⟨⟨(s.map fun b=>Value.int .u8 b.toNat).toArray,⟨fun w'=>?_,fun w' _=>?_,by simp,fun e he=>?_,fun i e j c he hc=>?_⟩⟩,.inl ⟨_,rfl⟩⟩
   ·simp[Builtin.lenOf,ByteArray.size]
   ·have e:(⟨s.toArray⟩:ByteArray).extract 0 (List.map (fun b:UInt8=>PD.int IntKind.u8 (b.toNat:Int)) s).length=⟨s.toArray⟩:=by
     apply ByteArray.ext
     rw[ByteArray.data_extract]
     simp
    simp only[Builtin.firstCells,e]
    simp
   ·obtain⟨b,_,rfl⟩:=List.mem_map.1 he
    exact⟨rfl,fun c hc=>by simp[PD.cells] at hc;subst hc;rfl⟩
   ·simp only[List.getElem?_map,Option.map_eq_some_iff] at he
    obtain⟨b,hb,rfl⟩:=he
    match j with
    | 0=>
     simp only[PD.cells,List.getElem?_cons_zero,Option.some.injEq] at hc
     subst hc
     have :((s.map fun b=>Value.int .u8 b.toNat).toArray).getD (i*1+0) undef= .int .u8 b.toNat:=by simp[Array.getD_eq_getD_getElem?,hb]
     rw[this];exact .int _ _
    |j+1=>simp[PD.cells] at hc
  ·cases h
 ·cases h
  have h:=r.p_inv.nils_inv
  subst h
  refine⟨⟨#[],⟨fun w'=>by simp[Builtin.lenOf],fun w' _=>by simp[Builtin.firstCells],by simp,fun e he=>by simp at he,fun i e j c he=>by simp at he⟩⟩,.inr ⟨_,_,_,rfl⟩⟩
 ·split at h
  ·rename_i sz' es hel
   split at h
   ·rename_i hsz
    subst hsz
    cases h
    have q:=elems?_rep r hel
    refine⟨elems_src I hs q,.inr ?_⟩
    obtain⟨ad,cap,hv,_⟩:=slice_inv q
    exact⟨_,_,_,hv⟩
   ·cases h
  ·cases h
theorem chunks_get{sz:Nat}(hs:0<sz):∀(n:Nat) (ps:List PD),ps.length=n*sz→(∀p∈ps,p.one=true)→(chunks sz n ps).length=n∧∀(i:Nat) e,(chunks sz n ps)[i]? =some e→e.cells=(ps.drop (i*sz)).take sz
 | 0,ps,_,_=>⟨rfl,fun i e h=>by simp[chunks] at h⟩
 |n+1,ps,hl,h1=>by
  have hl2:(ps.drop sz).length=n*sz:=by
   rw[List.length_drop,hl,Nat.add_mul,Nat.one_mul];omega
  obtain⟨q1,q2⟩:=chunks_get hs n (ps.drop sz) hl2 (fun p hp=>h1 p (List.mem_of_mem_drop hp))
  have hge:sz≤ps.length:=by rw[hl,Nat.add_mul,Nat.one_mul];omega
  refine⟨by simp only[chunks,List.length_cons,q1],fun i e he=>?_⟩
  cases i with
  |zero=>
   simp only[chunks,List.getElem?_cons_zero,Option.some.injEq] at he
   subst he
   rw[Nat.zero_mul,List.drop_zero]
   split
   ·rename_i c r
    have hc:=h1 c (by simp)
    have :c.cells=[c]:=by cases c<;>first |rfl |cases hc
    rw[this];rfl
   ·rfl
  |succ i=>
   simp only[chunks,List.getElem?_cons_succ] at he
   rw[q2 i e he,List.drop_drop]
   congr 2
   rw[Nat.add_mul,Nat.one_mul,Nat.add_comm]
theorem asPDL_one:∀{ds:List D} {ps:List PD},D.asPDL ds=some ps→(∀d∈ds,d.one=true)→∀p∈ps,p.one=true:=by
 intro ds ps h h1 p hp
 obtain⟨k,hk⟩:=List.getElem?_of_mem hp
 obtain⟨_,h3⟩:=sealL_get h
 obtain⟨d,a1,a2⟩:=h3 k p hk
 exact seal_one a2 (h1 d (List.mem_of_getElem? a1))
theorem mread_rep(I:Inv G γ H w){i off n sz b:Nat}(hs:0<sz)(hb:γ.boxes[i]? =some b){xs:List PD}(h:mread H i off n sz=some xs):
    xs.length=n∧∃news:Array Value,RepE γ.mem sz news xs∧∀j v,news[j]? =some v→w.cell? ⟨b,off+j,none⟩=some v:=by
 unfold mread at h
 split at h
 ·rename_i cs hcs
  split at h
  ·rename_i hfit
   obtain⟨hm,hfit⟩:=hfit
   obtain⟨ps,hps,rfl⟩:=Option.map_eq_some_iff.1 h
   obtain⟨vs,T,fr,q1,q2,q3,_⟩:=I.box i b cs hb hcs
   rw[viewC_of hm] at q1
   have q3:=q3 hm
   have hsl:(sub cs off (off+n*sz)).length=n*sz:=by rw[sub_length _ _ _ hfit];omega
   obtain⟨l1,l2⟩:=sealL_get hps
   have hpl:ps.length=n*sz:=l1.trans hsl
   have hone:=asPDL_one hps (fun d hd=>q3 d (sub_mem hd))
   obtain⟨c1,c2⟩:=chunks_get hs n ps hpl hone
   refine⟨c1,((List.range (n*sz)).map fun k=>vs.getD (off+k) undef).toArray,⟨by simp[c1],fun e he=>?_,fun k e j c hk hc=>?_⟩,fun j v hj=>?_⟩
   ·obtain⟨k,hk⟩:=List.getElem?_of_mem he
    have hkn:k<n:=by rw[←c1];exact(List.getElem?_eq_some_iff.1 hk).1
    have hc:=c2 k e hk
    have hle:k*sz+sz≤n*sz:=by
     calc k*sz+sz=(k+1)*sz:=by rw[Nat.add_mul,Nat.one_mul]
      _≤n*sz:=Nat.mul_le_mul_right _ hkn
    refine⟨by rw[hc];simp;omega,fun c hcm=>?_⟩
    rw[hc] at hcm
    exact hone c (List.mem_of_mem_drop (List.mem_of_mem_take hcm))
   ·have hkn:k<n:=by rw[←c1];exact(List.getElem?_eq_some_iff.1 hk).1
    have hcc:=c2 k e hk
    rw[hcc,List.getElem?_take] at hc
    split at hc
    ·rename_i hj
     rw[List.getElem?_drop] at hc
     have hlt:k*sz+j<n*sz:=by
      calc k*sz+j<k*sz+sz:=by omega
       _=(k+1)*sz:=by rw[Nat.add_mul,Nat.one_mul]
       _≤n*sz:=Nat.mul_le_mul_right _ hkn
     obtain⟨d,a1,a2⟩:=l2 (k*sz+j) c hc
     rw[sub_get,if_pos (by omega)] at a1
     have hr:=q2.2 _ d a1
     have e1:(((List.range (n*sz)).map fun k=>vs.getD (off+k) undef).toArray).getD (k*sz+j) undef=vs.getD (off+(k*sz+j)) undef:=by
      simp[Array.getD_eq_getD_getElem?,hlt]
     rw[e1]
     exact seal_rep hr a2
    ·cases hc
   ·have hlt:j<n*sz:=by have:=(Array.getElem?_eq_some_iff.1 hj).1;simpa using this
    have hv:vs.getD (off+j) undef=v:=by simpa[hlt] using hj
    have hvs:off+j<vs.size:=by have:=q2.1;omega
    rw[←hv]
    simp[World.cell?,q1,hvs,Array.getD_eq_getD_getElem?]
  ·cases h
 ·cases h
theorem msl_src(I:Inv G γ H w){i off n sz b c:Nat}(hs:0<sz)(hb:γ.boxes[i]? =some b){xs:List PD}(h:mread H i off n sz=some xs):∃news,Src P γ.mem w sz (.slice (some ⟨b,off,none⟩) n c) xs news:=by
 obtain⟨hl,news,h1,h2⟩:=mread_rep I hs hb h
 refine⟨news,⟨fun w'=>by simp[Builtin.lenOf,hl],fun w' hw'=>?_,h1⟩⟩
 refine run_firstCells_some (P:=P) w' sz xs.length _ _ _ _ (by simpa using h1.1) (fun j v hj=>?_)
 rw[Addr.add_lit,hw']
 exact h2 j v (by simpa using hj)
theorem srcH_of(I:Inv G γ H w){sz:Nat}(hs:0<sz){v:Value}{d:D}(r:RepD γ v d){xs:List PD}(h:srcH H sz d=some xs):
    (∃news,Src P γ.mem w sz v xs news)∧((∃s,v= .string s)∨∃ad n c,v= .slice ad n c):=by
 unfold srcH at h
 split at h
 ·rename_i i off n cap sz'
  split at h
  ·rename_i hsz
   subst hsz
   cases r with
   |msl _ _ _ _ _ b c hb hc hcap=>exact⟨msl_src I hs hb h,.inr ⟨_,_,_,rfl⟩⟩
  ·cases h
 ·exact src_of I hs r h
section
variable {t u ty e : TypeId} {i : TypeInfo} {z : Value} {du : TypeDesc} (ht : P.underlying t = some (.slice e)) (hu : P.underlying u = some du) (hdu : (∃ e', du = .slice e') ∨ du = .string) (hi : P.info? e = some i) (hz : i.zero = some z)
 {x:Value} {xs:List PD} {news:Array Value} {m:Mem} (S:Src P m w i.size x xs news)
include ht hu hdu hi S
theorem run_append_zero(h0:xs=[])(base:Option Addr)(n cap:Nat)(hc:n≤cap):(Builtin.append_ #[t,u] ty #[.slice base n cap,x]).run P w= .ok (.slice base n cap) w:=by
 subst h0
 have hn:news= #[]:=by have:=S.rep.1;simpa using this
 subst hn
 have hl:=S.len w
 have hcs:=S.cells w (fun _=>rfl)
 simp only[List.length_nil] at hl hcs
 rcases hdu with⟨e',rfl⟩ |rfl<;>cases base<;>simp[Builtin.append_,run_underlying ht,run_underlying hu,sizeOf,typeInfo,hi,hl,hc,hcs,storeCells]
theorem run_append_place(g n cap:Nat)(cur:Array Value)(fr:Nat×Nat)(hg:w.heap[g]? =some (.cells cur e fr))(hun:clear fr (n*i.size) cur.size)(hroom:n+xs.length≤cap)(hfit:n*i.size+news.size≤cur.size)(hs:0<i.size):
    (Builtin.append_ #[t,u] ty #[.slice (some ⟨g,0,none⟩) n cap,x]).run P w=
     .ok (.slice (some ⟨g,0,none⟩) (n+xs.length) cap) (w.setRow g (cur.toList.take (n*i.size)++news.toList++cur.toList.drop (n*i.size+news.size)).toArray):=by
 have hl:=S.len w
 have hcs:=S.cells w (fun _=>rfl)
 have hst:=run_storeCells_fr (P:=P) g (n*i.size) e fr news.toList 0 cur w hg (by simpa using hun) (by simpa using hfit) (S.rep.one hs)
 simp only[Nat.add_zero,Array.length_toList] at hst
 rcases hdu with⟨e',rfl⟩ |rfl<;>simp[Builtin.append_,run_underlying ht,run_underlying hu,sizeOf,typeInfo,hi,hl,hroom,hcs,Addr.add_lit,hst]
include hz
theorem run_append_new(base:Option Addr)(n cap:Nat)(olds:Array Value)(hold:∀w',(∀ad,w'.cell? ad=w.cell? ad)→(Builtin.firstCells i.size n (.slice base n cap)).run P w'= .ok olds w')
    (hno:cap<n+xs.length) (h63:((n+xs.length:Nat):Int)≤9223372036854775807) (hb:(n+xs.length)*i.bytes≤140737488355328):
    (Builtin.append_ #[t,u] ty #[.slice base n cap,x]).run P w=
     .ok (.slice (some ⟨w.heap.size,0,none⟩) (n+xs.length) (grownCap w (n+xs.length) cap e))
      (w.drew.alloc (.cells (olds++news++Builtin.zeroCells z.cells (grownCap w (n+xs.length) cap e-(n+xs.length))) e)):=by
 have hl:=S.len w
 have hcs:=S.cells w.drew (fun _=>rfl)
 have hos:=hold w.drew (fun _=>rfl)
 have hn:¬(n+xs.length≤cap):=by omega
 have h63':¬(9223372036854775807<((n:Int)+(xs.length:Int))):=by omega
 have h48':¬(281474976710656<Builtin.nextslicecap (n+xs.length) cap*i.bytes):=by have:=growslice_fits hno hb;omega
 rcases hdu with⟨e',rfl⟩ |rfl<;>simp[Builtin.append_,run_underlying ht,run_underlying hu,sizeOf,typeInfo,zeroValue,hi,hz,hl,hn,h63',h48',Question.forced,hos,hcs,newRow,grownCap]
end
end Go.Vs
namespace Go.Vs
variable {P : Program} {G : Nat → Option (List PD)} {γ : Gh} {H : Hp} {w : World} {env : Env} {a : Act} {o : Oper}
theorem RepE.append{m:Mem}{sz:Nat}{c1 c2:Array Value}{e1 e2:List PD}(r:RepE m sz c1 e1)(q:RepE m sz c2 e2):RepE m sz (c1++c2) (e1++e2):=by
 obtain⟨r1,r2,r3⟩:=r
 obtain⟨q1,q2,q3⟩:=q
 refine⟨by simp[r1,q1,Nat.add_mul],fun e he=>?_,fun i e j c he hc=>?_⟩
 ·rcases List.mem_append.1 he with h |h
  ·exact r2 e h
  ·exact q2 e h
 ·by_cases hi:i<e1.length
  ·rw[List.getElem?_append_left hi] at he
   have hj:j<sz:=by rw[←(r2 e (List.mem_of_getElem? he)).1];exact(List.getElem?_eq_some_iff.1 hc).1
   have hlt:i*sz+j<c1.size:=by
    rw[r1]
    calc i*sz+j<i*sz+sz:=by omega
     _=(i+1)*sz:=by rw[Nat.add_mul,Nat.one_mul]
     _≤e1.length*sz:=Nat.mul_le_mul_right _ hi
   have:=r3 i e j c he hc
   have ee:(c1++c2).getD (i*sz+j) undef=c1.getD (i*sz+j) undef:=by
    simp[Array.getD_eq_getD_getElem?,Array.getElem?_append,hlt]
   rw[ee];exact this
  ·rw[List.getElem?_append_right (by omega)] at he
   have hge:c1.size≤i*sz+j:=by
    rw[r1]
    calc e1.length*sz≤i*sz:=Nat.mul_le_mul_right _ (by omega)
     _≤i*sz+j:=by omega
   have:=q3 _ e j c he hc
   have e3:i*sz+j-c1.size=(i-e1.length)*sz+j:=by
    rw[r1,Nat.sub_mul]
    have :e1.length*sz≤i*sz:=Nat.mul_le_mul_right _ (by omega)
    omega
   have ee:(c1++c2).getD (i*sz+j) undef=c2.getD ((i-e1.length)*sz+j) undef:=by
    simp only[Array.getD_eq_getD_getElem?]
    rw[Array.getElem?_append_right hge,e3]
   rw[ee];exact this
theorem repE_cells{m:Mem}{b cap sz:Nat}{es:List PD}(h:RepP m (.slice (some ⟨b,0,none⟩) es.length cap) (.slice sz es)){pre:Array Value}(hp:pre.size=es.length*sz)(hm:∀o v,o<es.length*sz→m b o=some v→pre[o]? =some v):RepE m sz pre es:=by
 obtain⟨ad,cap',hv,_,hne⟩:=slice_inv h
 cases hv
 refine⟨hp,fun e he=>?_,fun i e j c he hc=>?_⟩
 ·obtain⟨b',o',vs,hb,h1,h2,_⟩:=hne (fun e0=>by subst e0;simp at he)
  exact⟨h1 e he,h2 e he⟩
 ·obtain⟨b',o',vs,hb,h1,h2,h3,h4⟩:=hne (fun e0=>by subst e0;simp at he)
  cases hb
  have hi:i<es.length:=(List.getElem?_eq_some_iff.1 he).1
  have hj:j<sz:=by rw[←h1 e (List.mem_of_getElem? he)];exact(List.getElem?_eq_some_iff.1 hc).1
  have hlt:i*sz+j<es.length*sz:=by
   calc i*sz+j<i*sz+sz:=by omega
    _=(i+1)*sz:=by rw[Nat.add_mul,Nat.one_mul]
    _≤es.length*sz:=Nat.mul_le_mul_right _ hi
  have hc':=hm _ _ hlt (by have:=h3 i j hi hj;rwa [Nat.zero_add] at this)
  have ee:pre.getD (i*sz+j) undef=vs i j:=by simp[Array.getD_eq_getD_getElem?,hc']
  rw[ee]
  exact h4 i e j c he hc
section
variable {t u ty e : TypeId} {i : TypeInfo} {z : Value} {du : TypeDesc} (ht : P.underlying t = some (.slice e)) (hu : P.underlying u = some du) (hdu : (∃ e', du = .slice e') ∨ du = .string) (hi : P.info? e = some i) (hz : i.zero = some z)
 (hzs:z.cells.size=i.size) (hs:0<i.size) {x:Value} {xs:List PD} {news:Array Value} (S:Src P γ.mem w i.size x xs news)
include ht hu hdu hi hz hzs hs S
theorem append_core(I:Inv G γ H w){tk:Nat}{row:Row}{es:List PD}{r:Option (Nat×Nat)}(h1:γ.rows[tk]? =some row)(h2:H.tk[tk]? =some es.length)(he:row.e=e)(hsz:row.sz=i.size)(hr:row.st es.length=some r)
    (hv:RepP γ.mem (rowVal r es.length) (.slice i.size es)) (hroom:roomy (es.length+xs.length) i.bytes=true):
    ∃v' w' γ',(Builtin.append_ #[t,u] ty #[rowVal r es.length,x]).run P w= .ok v' w'∧γ.le γ'∧Frame γ H w γ' {H with tk:=H.tk.set tk (es.length+xs.length)} w'∧
     Inv G γ' {H with tk:=H.tk.set tk (es.length+xs.length)} w'∧RepD γ' v' (.tsl tk e i.size (es++xs)):=by
 obtain⟨r',hr',hok⟩:=I.row tk row es.length h1 h2
 rw[hr] at hr'
 cases hr'
 have hroom':es.length+xs.length≤140737488355328∧(es.length+xs.length)*i.bytes≤140737488355328:=by simpa[roomy] using hroom
 by_cases h0:xs=[]
 ·
  have hset:H.tk.set tk (es.length+xs.length)=H.tk:=by
   subst h0
   apply List.ext_getElem?
   intro k
   by_cases hk:tk=k
   ·subst hk
    have hlt:=(List.getElem?_eq_some_iff.1 h2).1
    rw[List.getElem?_set_self hlt,h2];rfl
   ·rw[List.getElem?_set_ne hk]
  rw[hset]
  have hrun:(Builtin.append_ #[t,u] ty #[rowVal r es.length,x]).run P w= .ok (rowVal r es.length) w:=by
   cases r with
   |none=>exact run_append_zero ht hu hdu hi S h0 none 0 0 (Nat.le_refl _)
   |some bc=>exact run_append_zero ht hu hdu hi S h0 _ _ _ hok.1.1
  refine⟨_,w,γ,hrun,.refl γ,.refl γ H w,I,?_⟩
  subst h0
  rw[List.append_nil]
  exact .tsl _ tk e i.size es row r h1 he hsz hv hr rfl
 ·have hpos:0<xs.length:=List.length_pos_iff.2 h0
  have hml:es.length+xs.length≤maxLen:=by simp only[maxLen];omega
  have hnews:=S.rep.1
  have hmem_row:∀γ':Gh,∀(b cap:Nat) (cells:Array Value),γ'=γ.grow tk row (es.length+xs.length) b cap cells→γ.le γ'→es.length+xs.length≤cap→RepE γ.mem i.size (cells.extract 0 ((es.length+xs.length)*i.size)) (es++xs)→
      RepD γ' (.slice (some ⟨b,0,none⟩) (es.length+xs.length) cap) (.tsl tk e i.size (es++xs)):=by
   intro γ' b cap cells hγ hle hcap hre
   subst hγ
   have htl:tk<γ.rows.length:=(List.getElem?_eq_some_iff.1 h1).1
   have hre':=(hre.mono hle.mem).slice (b:=b) (cap:=cap) (by simpa using hcap) (fun o ho=>by
    have ho:o<(es.length+xs.length)*i.size:=by simpa using ho
    simp only[Gh.grow,if_true,hsz]
    rw[if_pos ho,Array.getElem?_extract]
    simp
    intro h
    have hsz:=hre.1
    simp at hsz
    omega)
   refine .tsl _ tk e i.size (es++xs) (row.grow (es.length+xs.length) b cap) (some (b,cap)) (by simp[Gh.grow,htl]) he hsz (by simpa using hre') (by simp[Row.grow]) (by simp[rowVal])
  have fresh:∀(base:Option Addr) (n cap:Nat),rowVal r es.length= .slice base n cap→n=es.length→cap<es.length+xs.length→
      ∃v' w' γ',(Builtin.append_ #[t,u] ty #[rowVal r es.length,x]).run P w= .ok v' w'∧γ.le γ'∧Frame γ H w γ' {H with tk:=H.tk.set tk (es.length+xs.length)} w'∧
       Inv G γ' {H with tk:=H.tk.set tk (es.length+xs.length)} w'∧RepD γ' v' (.tsl tk e i.size (es++xs)):=by
   intro base n cap hval hn hcap
   subst hn
   rw[hval] at hv⊢
   obtain⟨olds,So⟩:=elems_src (P:=P) I hs hv
   have hrun:=run_append_new (ty:=ty) ht hu hdu hi hz S base es.length cap olds (fun w' hw'=>So.cells w' hw') hcap (by omega) hroom'.2
   have hge:=grownCap_ge w (es.length+xs.length) cap e
   have hcm:=grownCap_le_maxLen w (es.length+xs.length) cap e hml
   have hsize:(olds++news++Builtin.zeroCells z.cells (grownCap w (es.length+xs.length) cap e-(es.length+xs.length))).size=grownCap w (es.length+xs.length) cap e*row.sz:=by
    rw[hsz]
    simp only[Array.size_append,size_zeroCells,hzs,So.rep.1,hnews,←Nat.add_mul]
    congr 1;omega
   have hw1:(w.drew.alloc (.cells (olds++news++Builtin.zeroCells z.cells (grownCap w (es.length+xs.length) cap e-(es.length+xs.length))) e)).heap[w.heap.size]? =
       some (.cells (olds++news++Builtin.zeroCells z.cells (grownCap w (es.length+xs.length) cap e-(es.length+xs.length))) row.e (0,0)):=by
    rw[he]
    have:=heap_alloc w.drew (.cells (olds++news++Builtin.zeroCells z.cells (grownCap w (es.length+xs.length) cap e-(es.length+xs.length))) e) w.heap.size
    rw[this];exact if_pos rfl
   obtain⟨b1,b2,b3⟩:=I.rowStep h1 h2 (b:=w.heap.size) (cap:=grownCap w (es.length+xs.length) cap e) (f':=es.length+xs.length) (by omega) hge hcm hsize hw1 (fun k hk=>by simp)
    (fun c hc=>by rw[heap_alloc];exact if_neg hc) (fun hb=>by have:=I.lt_of_box hb;omega) (fun o v hm=>by have:=I.lt_of_mem hm;omega) (fun t' _ hf=>by have:=I.lt_of_free hf;omega) (.inl rfl) (fun x hx=>by have:=I.lt_of_tys hx;omega) ⟨Nat.zero_le _,Nat.le_refl _⟩ rfl rfl rfl (by simp)
   refine⟨_,_,_,hrun,b1,b2,b3,hmem_row _ _ _ _ rfl b1 hge ?_⟩
   have hex:(olds++news++Builtin.zeroCells z.cells (grownCap w (es.length+xs.length) cap e-(es.length+xs.length))).extract 0 ((es.length+xs.length)*i.size)=olds++news:=by
    have :(es.length+xs.length)*i.size=(olds++news).size:=by simp[So.rep.1,hnews,Nat.add_mul]
    rw[this]
    apply Array.ext'
    simp[List.take_of_length_le]
   rw[hex]
   exact So.rep.append S.rep
  cases r with
  |none=>
   have hn0:es.length=0:=hok
   exact fresh none 0 0 rfl hn0.symm (by omega)
  |some bc=>
   obtain⟨b,cap⟩:=bc
   obtain⟨⟨hle,htys⟩,hfr⟩:=hok
   by_cases hfit:es.length+xs.length≤cap
   ·obtain⟨cur,fr,q1,q0,q2,q3,q4,q5⟩:=hfr (by omega)
    rw[hsz] at q2 q4
    have hcur:es.length*i.size+news.size≤cur.size:=by
     rw[hnews,q2,←Nat.add_mul];exact Nat.mul_le_mul_right _ hfit
    rw[he] at q1
    rw[hsz] at q0
    have hrun:=run_append_place (ty:=ty) ht hu hdu hi S b es.length cap cur fr q1 q0 hfit hcur hs
    have hold:∀o v,γ.mem b o=some v→o<es.length*i.size∧cur[o]? =some v:=by
     intro o v hm
     have hlt:o<es.length*i.size:=by
      rcases Nat.lt_or_ge o (es.length*i.size) with h |h
      ·exact h
      ·rw[q4 o h] at hm;cases hm
     have:=I.mem b o v hm
     simp only[World.cell?,q1] at this
     exact⟨hlt,by simpa using this⟩
    have hnew:∀o,o<es.length*i.size→(cur.toList.take (es.length*i.size)++news.toList++cur.toList.drop (es.length*i.size+news.size)).toArray[o]? =cur[o]?:=by
     intro o ho
     have h1:o<(cur.toList.take (es.length*i.size)).length:=by simp;omega
     simp only[List.getElem?_toArray,List.append_assoc]
     rw[List.getElem?_append_left h1,List.getElem?_take,if_pos ho]
     simp
    have hsz2:(cur.toList.take (es.length*i.size)++news.toList++cur.toList.drop (es.length*i.size+news.size)).toArray.size=cap*row.sz:=by
     rw[hsz,←q2];simp;omega
    have hlt2:es.length*i.size≤(es.length+xs.length)*row.sz:=by rw[hsz,Nat.add_mul];omega
    obtain⟨b1,b2,b3⟩:=I.rowStep h1 h2 (b:=b) (cap:=cap) (f':=es.length+xs.length) (fr:=fr) (by omega) hfit q3 hsz2 (by rw[he];exact setRow_heap w b cur _ e fr q1) (fun k hk hk2=>q0 k (by rw[hsz,Nat.add_mul] at hk;omega) (by rw[hsz2,hsz,←q2] at hk2;exact hk2))
     (fun c hc=>setRow_other w b c _ hc) q5 (fun o v hm=>by
      obtain⟨c1,c2⟩:=hold o v hm
      exact⟨by omega,by rw[hnew o c1];exact c2⟩) (fun t' hne hf=>hne (I.free t' tk b hf ⟨row,es.length,cap,h1,h2,hr,by omega⟩)) (.inr ⟨row,es.length,cap,h1,h2,hr,by omega⟩) (fun x hx=>by rw[htys] at hx;exact(Option.some.inj hx).symm) (by
     obtain⟨us,fru,z1,z2,z3⟩:=I.tys _ _ _ htys
     rw[he,q1] at z1;cases z1;exact z3) rfl rfl rfl (by simp[World.setRow])
    refine⟨_,_,_,hrun,b1,b2,b3,hmem_row _ _ _ _ rfl b1 hfit ?_⟩
    have hex:((cur.toList.take (es.length*i.size)++news.toList++cur.toList.drop (es.length*i.size+news.size)).toArray).extract 0 ((es.length+xs.length)*i.size)=(cur.toList.take (es.length*i.size)).toArray++news:=by
     have hl:(cur.toList.take (es.length*i.size)).length=es.length*i.size:=by simp;omega
     have :(es.length+xs.length)*i.size=((cur.toList.take (es.length*i.size))++news.toList).length:=by simp only[List.length_append,hl,Array.length_toList,hnews,Nat.add_mul]
     apply Array.ext'
     simp only[Array.toList_extract,List.extract_eq_take_drop,List.drop_zero,Nat.sub_zero,Array.toList_append]
     rw[this]
     exact List.take_left
    rw[hex]
    refine(repE_cells hv ?_ (fun o v ho hm=>?_)).append S.rep
    ·simp;omega
    ·obtain⟨c1,c2⟩:=hold o v hm
     simp only[List.getElem?_toArray,List.getElem?_take,if_pos c1]
     simpa using c2
   ·exact fresh _ _ cap rfl rfl (by omega)
end
theorem length_set_append(l:List Nat)(x y:Nat):(l++[x]).set l.length y=l++[y]:=by simp
theorem done_append(I:Inv G γ H w)(E:EnvRep γ env a.tmps){t u e:TypeId}{s x:Operand}{s' x':Opd}{i:TypeInfo}{z:Value}{du:TypeDesc}(ho:o.op= .call {callee:=.builtin .append,args:=#[s,x],argTypes:=#[t,u]})
    (ht:P.underlying t=some (.slice e)) (hu:P.underlying u=some du) (hdu:(∃e',du= .slice e')∨du= .string) (hi:P.info? e=some i) (hz:i.zero=some z) (hzs:z.cells.size=i.size) (hsp:0<i.size)
    (hs:opdOf s=some s') (hx:opdOf x=some x') {d:D} {H':Hp} (he:evK G env H (.append e i.size i.bytes s' x')=some (d,H')):Done P G γ H w a o d H':=by
 have hsr:=opdOf_rep E hs
 have hxr:=opdOf_rep E hx
 simp only[evK] at he
 split at he
 ·rename_i xs hxs
  obtain⟨⟨news,S⟩,_⟩:=srcH_of (P:=P) I hsp hxr hxs
  have fin:∀v' w',(Builtin.append_ #[t,u] o.type #[a.eval s,a.eval x]).run P w= .ok v' w'→(execOp a.eval o).run P w= .ok (.value v') w':=by
   intro v' w' h
   simp[execOp,ho,resolve,invoke,builtin,h]
  unfold appendD at he
  split at he
  ·
   rename_i hn
   split at he
   ·rename_i hroom
    cases he
    rw[hn] at hsr
    have hv:=hsr.p_inv.nils_inv
    let row:Row:=⟨e,i.size,fun n=>if n=0 then some none else none⟩
    obtain⟨b1,b2,b3⟩:=I.addTok row 0 none rfl (fun n x hx=>by
     simp only[row] at hx
     split at hx
     ·omega
     ·cases hx) rfl (fun _ _ h=>by cases h) (fun n b cap hx=>by
     simp only[row] at hx
     split at hx<;>cases hx)
    obtain⟨v',w',γ',c1,c2,c3,c4,c5⟩:=append_core (ty:=o.type) ht hu hdu hi hz hzs hsp (γ:={γ with rows:=γ.rows++[row]}) S b3 (tk:=H.tk.length) (row:=row) (es:=[]) (r:=none)
     (by show(γ.rows++[row])[H.tk.length]? =_;rw[←I.lenT];simp) (by simp) rfl rfl rfl (.sl0 _ _ _) (by simpa using hroom)
    simp only[List.length_nil,Nat.zero_add,length_set_append,List.nil_append] at c3 c4 c5
    refine⟨v',w',γ',.inl (fin v' w' ?_),b1.trans c2,b2.trans b1.base c3,c4,c5⟩
    rw[hv];exact c1
   ·cases he
  ·rename_i e' sz' es hn
   split at he
   ·rename_i hc
    obtain⟨rfl,rfl,hroom⟩:=hc
    cases he
    rw[hn] at hsr
    generalize hev:a.eval s=v at hsr
    cases hsr with
    |fsl b n e sz es' hbase hty hlen hrep=>
     subst hlen
     let row:Row:=⟨e',i.size,fun n=>if n=es.length then some (some (b,es.length)) else none⟩
     obtain⟨b1,b2,b3⟩:=I.addTok row es.length (some (b,es.length)) (by simp[row]) (fun n x hx=>by
      simp only[row] at hx
      split at hx
      ·omega
      ·cases hx) ⟨⟨Nat.le_refl _,hty⟩,fun h=>by omega⟩ (fun _ _ h=>by cases h;rfl) (fun n b' cap hx=>by
      simp only[row] at hx
      split at hx
      ·cases hx;exact hbase
      ·cases hx)
     obtain⟨v',w',γ',c1,c2,c3,c4,c5⟩:=append_core (ty:=o.type) ht hu hdu hi hz hzs hsp (γ:={γ with rows:=γ.rows++[row]}) S b3 (tk:=H.tk.length) (row:=row) (es:=es) (r:=some (b,es.length))
      (by show(γ.rows++[row])[H.tk.length]? =_;rw[←I.lenT];simp) (by simp) rfl rfl (by simp[row]) hrep hroom
     simp only[length_set_append] at c3 c4 c5
     refine⟨v',w',γ',.inl (fin v' w' ?_),b1.trans c2,b2.trans b1.base c3,c4,c5⟩
     rw[hev];exact c1
   ·cases he
  ·rename_i tk e' sz' es hn
   split at he
   ·rename_i hc
    obtain⟨rfl,rfl,htk,hroom⟩:=hc
    cases he
    rw[hn] at hsr
    generalize hev:a.eval s=v at hsr
    cases hsr with
    |tsl _ _ _ _ _ row r h1 h2 h3 h4 h5 h6=>
     subst h6
     obtain⟨v',w',γ',c1,c2,c3,c4,c5⟩:=append_core (ty:=o.type) ht hu hdu hi hz hzs hsp S I h1 htk h2 h3 h5 h4 hroom
     refine⟨v',w',γ',.inl (fin v' w' ?_),c2,c3,c4,c5⟩
     rw[hev];exact c1
   ·cases he
  ·cases he
 ·cases he
theorem bytesOf_some:∀{xs:List PD} {s:List UInt8},bytesOf xs=some s→∃ns:List Int,xs=ns.map (fun n=>PD.int .u8 n)∧s=ns.map fun n=>UInt8.ofNat n.toNat:=by
 intro xs
 induction xs with
 |nil=>intro s h;simp only[bytesOf] at h;cases h;exact⟨[],rfl,rfl⟩
 |cons x r ih=>
  intro s h
  unfold bytesOf at h
  split at h
  ·rename_i e;cases e
  ·rename_i n r' e
   cases e
   obtain⟨s',hs,rfl⟩:=Option.map_eq_some_iff.1 h
   obtain⟨ns,rfl,rfl⟩:=ih hs
   exact⟨n::ns,rfl,rfl⟩
  ·cases h
theorem done_toStr(I:Inv G γ H w)(E:EnvRep γ env a.tmps){s t e:TypeId}{x:Operand}{x':Opd}(ho:o.op= .convert s t x)(hs:P.underlying s=some (.slice e))(hel:P.underlying e=some (.int .u8))(ht:P.underlying t=some .string)(hx:opdOf x=some x')
    {d:D} {H':Hp} (he:evK G env H (.toStr x')=some (d,H')):Done P G γ H w a o d H':=by
 have hxr:=opdOf_rep E hx
 simp only[evK] at he
 split at he
 ·rename_i xs hxs
  obtain⟨str,hstr,hh⟩:=Option.map_eq_some_iff.1 he
  cases hh
  obtain⟨ns,rfl,rfl⟩:=bytesOf_some hstr
  refine .same I (v:=.string ⟨(ns.map fun n=>UInt8.ofNat n.toNat).toArray⟩) ?_ (.p _ _ (.str _))
  have nilcase:∀ad l c,a.eval x= .slice ad l c→ns=[]→l=0→(execOp a.eval o).run P w= .ok (.value (.string ⟨(ns.map fun n=>UInt8.ofNat n.toNat).toArray⟩)) w:=by
   intro ad l c hv hns hl
   subst hns;subst hl
   cases ad with
   |none=>
    have:=run_convert_bytes_nil (P:=P) w s e hs hel 0 c t ht
    simp[execOp,ho,hv,this,ByteArray.empty,ByteArray.emptyWithCapacity]
    rfl
   |some ad=>
    have:=run_convert_bytes_back (P:=P) w s t e ad c [] hs hel ht (fun j hj=>by simp at hj)
    simp[execOp,ho,hv] at this⊢
    simp[this]
  unfold srcBH at hxs
  split at hxs
  ·rename_i i off n cap sz' hn
   split at hxs
   ·rename_i hsz
    subst hsz
    rw[hn] at hxr
    generalize hv:a.eval x=v at hxr
    cases hxr with
    |msl _ _ _ _ _ b c hb hc hcap=>
     obtain⟨hl,news,h1,h2⟩:=mread_rep I (by omega) hb hxs
     have hl:ns.length=n:=by simpa using hl
     by_cases h0:ns=[]
     ·exact nilcase _ _ _ hv h0 (by rw[←hl,h0];rfl)
     ·have hget:∀k,k<ns.length→w.cell? ⟨b,off+k,none⟩=some (.int .u8 (ns.getD k 0)):=by
       intro k hk
       have hr:=h1.2.2 k (.int .u8 ns[k]) 0 (.int .u8 ns[k]) (by simp[hk]) rfl
       have hks:k<news.size:=by rw[h1.1];simpa using hk
       have e1:news.getD (k*1+0) undef=news[k]:=by simp[Array.getD_eq_getD_getElem?,hks]
       rw[e1] at hr
       have:=h2 k news[k] (Array.getElem?_eq_getElem hks)
       rw[this,hr.int_inv]
       simp[List.getD,hk]
      have q:=run_convert_bytes_arg (P:=P) w s e hs hel b off n c ns hl (fun k hk=>hget k (by omega)) t ht
      simp[execOp,ho,hv,q,strOfNums]
   ·cases hxs
  unfold srcB at hxs
  split at hxs
  ·rename_i hn
   rw[hn] at hxr
   have hns:ns=[]:=by cases ns with |nil=>rfl |cons=>cases hxs
   exact nilcase _ _ _ hxr.p_inv.nils_inv hns rfl
  ·split at hxs
   ·rename_i sz' es hel'
    split at hxs
    ·rename_i hsz
     subst hsz
     cases hxs
     obtain⟨ad,cap,hv,hcap,hne⟩:=slice_inv (elems?_rep hxr hel')
     by_cases h0:ns=[]
     ·exact nilcase _ _ _ hv h0 (by simp[h0])
     ·obtain⟨b,off,vs,rfl,h1,h2,h3,h4⟩:=hne (by simpa using h0)
      have q:=run_convert_bytes_arg (P:=P) w s e hs hel b off ns.length cap ns rfl (fun k hk=>by
       have hm:=I.mem _ _ _ (h3 k 0 (by simpa using hk) (by omega))
       have hr:=h4 k (.int .u8 ns[k]) 0 (.int .u8 ns[k]) (by simp[hk]) rfl
       rw[hr.int_inv] at hm
       simp only[Nat.mul_one,Nat.add_zero] at hm
       rw[hm]
       simp[List.getD,hk]) t ht
      have hlen:(List.map (fun n=>PD.int IntKind.u8 n) ns).length=ns.length:=by simp
      rw[hlen] at hv
      simp[execOp,ho,hv,q,strOfNums]
    ·cases hxs
   ·cases hxs
 ·cases he
theorem done_toBytes(I:Inv G γ H w)(E:EnvRep γ env a.tmps){s t e:TypeId}{x:Operand}{x':Opd}(ho:o.op= .convert s t x)(hs:P.underlying s=some .string)(ht:P.underlying t=some (.slice e))(hel:P.underlying e=some (.int .u8))(hx:opdOf x=some x')
    {d:D} {H':Hp} (he:evK G env H (.toBytes e x')=some (d,H')):Done P G γ H w a o d H':=by
 have hxr:=opdOf_rep E hx
 simp only[evK,toBytesD] at he
 split at he
 ·rename_i str hstr
  split at he
  ·rename_i hlim
   cases he
   rw[hstr] at hxr
   have hv:=hxr.p_inv.str_inv
   have hsz:(⟨str.toArray⟩:ByteArray).size=str.length:=by simp[ByteArray.size]
   have hrun:=run_bytes_of_string w s t e ⟨str.toArray⟩ hs ht hel
   rw[hsz] at hrun
   have hge:=grownCap_ge w str.length 0 e
   have hml:str.length≤maxLen:=by simp only[maxLen];omega
   have hcm:=grownCap_le_maxLen w str.length 0 e hml
   obtain⟨b1,b2,b3⟩:=I.drew.newRow0 (bytesRow ⟨str.toArray⟩ (grownCap w str.length 0 e)) e ((bytesRow ⟨str.toArray⟩ (grownCap w str.length 0 e)).size,(bytesRow ⟨str.toArray⟩ (grownCap w str.length 0 e)).size+1)
   refine⟨.slice (some ⟨w.heap.size,0,none⟩) str.length (grownCap w str.length 0 e),_,_,.inl (by simp[execOp,ho,hv,hrun]),b1,(Frame.drew γ H w).trans rfl b2,b3,?_⟩
   have hre:RepE γ.mem 1 ((str.map fun b=>Value.int .u8 b.toNat).toArray) (str.map fun b=>PD.int .u8 b.toNat):=by
    refine⟨by simp,fun e he=>?_,fun i e j c he hc=>?_⟩
    ·obtain⟨b,_,rfl⟩:=List.mem_map.1 he
     exact⟨rfl,fun c hc=>by simp[PD.cells] at hc;subst hc;rfl⟩
    ·simp only[List.getElem?_map,Option.map_eq_some_iff] at he
     obtain⟨b,hb,rfl⟩:=he
     match j with
     | 0=>
      simp only[PD.cells,List.getElem?_cons_zero,Option.some.injEq] at hc
      subst hc
      have :((str.map fun b=>Value.int .u8 b.toNat).toArray).getD (i*1+0) undef= .int .u8 b.toNat:=by simp[Array.getD_eq_getD_getElem?,hb]
      rw[this];exact .int _ _
     |j+1=>simp[PD.cells] at hc
   have hre':=(hre.mono b1.mem).slice (b:=w.heap.size) (cap:=grownCap w str.length 0 e) (by simpa using hge) (fun k hk=>by
    have hk:k<str.length:=by simpa using hk
    have hd:w.drew.heap.size=w.heap.size:=rfl
    simp only[Gh.asPD0,hd,if_true]
    simp[bytesRow,Array.getElem?_append,hk])
   exact .p _ _ (by simpa using hre')
  ·cases he
 ·cases he
end Go.Vs
