/-
  A value-level evaluator for Go functions; the functions of this cut by it; plain laws. Text G1.
-/
import Derived.Calls
import Derived.Tactics
import Derived.Laws.AppendOwn
import Derived.Laws.Slices
import Derived.Laws.Pointers
import Derived.Laws.Concat
import Derived.Laws.Strings
import Derived.Laws.BytesArg
import Derived.Laws.IdiomStrings
open Array renaming ext'→FT,foldl_toList→YA,getD_eq_getD_getElem?→bN,getElem?_eq_getElem→pY,getElem?_eq_some_iff→gz,getElem?_setIfInBounds→Ka,length_toList→qE,range→Ke,size_setIfInBounds→Yz
open Bool renaming and_eq_true→bQ,false_eq_true→ob,not_true→Pw
open Classical renaming byContradiction→qD
open Int renaming toNat_of_nonneg→Yx
open List renaming all_eq_true→gI,append_assoc→oc,append_nil→lA,drop_drop→CP,eq_nil_of_length_eq_zero→tY,foldl_cons→Af,getElem?_append_left→cH,getElem?_append_right→eL,getElem?_cons_succ→vN,getElem?_cons_zero→ew,getElem?_drop→oZ,getElem?_eq_getElem→aA,getElem?_eq_some_iff→az,getElem?_map→cP,getElem?_of_mem→eC,getElem?_set_ne→dH,getElem?_set_self→j9,getElem?_take→j7,getElem_mem→bO,length_cons→dZ,length_eq_zero_iff→Kb,length_nil→fW,length_pos_iff→xG,map→vO,map_cons→dA,map_drop→Pv,map_nil→mF,map_take→Pu,mem_append→cW,mem_map→dz,mem_map_of_mem→Kc,mem_of_getElem?→bS,mem_of_mem_drop→sU,mem_of_mem_take→j8,mem_or_eq_of_mem_set→Kd,mem_replicate→YB,range→ku,replicate→eB,take_append_drop→xH
open Nat renaming add_assoc→vQ,add_mul→fM,add_zero→oe,le_max_left→pX,le_max_right→mE,le_refl→aV,le_succ→amq,le_succ_of_le→amr,le_trans→gA,lt_of_lt_of_le→xF,lt_of_mul_lt_mul_right→ams,mul_div_cancel_left→Yw,mul_le_mul_right→kz,one_mul→og,sub_self→xE,zero_add→eS,zero_le→b9
open Option renaming getD_some→kU,isSome_iff_exists→Yy,map_eq_some_iff→au,map_some→eA
open Option.some renaming injEq→bI
namespace Go.Vs
inductive PD where
 |bool (b:Bool)
 |int (k:IntKind) (n:Int)
 |str (s:List UInt8)
 |iQ
 |aI
 |ot
 |kA
 |qI
 |slice (sz:Nat) (es:List PD)
 |emp (sz:Nat)
 |agg (cs:List PD)
 |iface (t:Nat) (x:PD)
instance:Inhabited PD:=⟨.iQ⟩
def PD.cells:PD→List PD
 | .agg cs=>cs
 |x=>[x]
def PD.one:PD→Bool
 | .agg _=>false
 |_=>true
inductive D where
 |dead
 |undef
 |p (x:PD)
 |cI (e sz:Nat) (es:List PD)
 |bk (t e sz:Nat) (es:List PD)
 |box (i off:Nat)
 |eD (g off:Nat)
 |ro (cs:List PD) (off:Nat)
 |agg (cs:List D)
 |bA (ds:List D)
 |fn (f:Nat) (first cap:List D)
 |bu (i off n:Nat) (cap:Option Nat) (sz:Nat)
 |ff (sz:Nat)
 |eE (t:Nat) (x:D)
 |fN (x:D)
 |iH
 |fresh (T n i:Nat)
 |bU (i:Nat)
 |bB (kd:Nat) (ks:List PD) (vs:List D)
 |aB (i e n sz:Nat)
 |gK (sz:Nat) (es:List PD)
instance:Inhabited D:=⟨.dead⟩
def D.cells:D→List D
 | .agg cs=>cs
 | .p (.agg cs)=>cs.map .p
 |d=>[d]
def D.one:D→Bool
 | .dead | .undef | .agg _ | .bA _ | .bB _ _ _=>false
 | .p x=>x.one
 |_=>true
def aU:List D→Bool
 |[.bB _ _ _]=>true
 |_=>false
def gU:List D→Option (List PD)
 |[]=>some []
 | .p x::r=>(gU r).map (x:: ·)
 |_=>none
def ec(ds:List D):D:=
 match gU ds with
 |some cs=>.p (.agg cs)
 |none=>.agg ds
mutual
def D.eM:D→Option PD
 | .p x=>some x
 | .cI _ sz es=>some (match es with |[]=>.emp sz |_::_=>.slice sz es)
 | .bk _ _ sz es=>some (.slice sz es)
 | .ff sz=>some (.slice sz [])
 | .gK sz es=>some (.slice sz es)
 | .eE t d=>d.eM.map (.iface t)
 | .agg cs=>(D.jn cs).map .agg
 |_=>none
def D.jn:List D→Option (List PD)
 |[]=>some []
 |d::r=>match d.eM with
  |some x=>(D.jn r).map (x:: ·)
  |none=>none
end
structure Hp where
 bx:List (List D)
 tk:List Nat
abbrev Env:=List (Nat×D)
def Env.get:Env→Nat→D
 |[],_=>.dead
 |(s,d)::e,t=>if s=t then d else Env.get e t
def Env.keep(ks:List Nat)(e:Env):Env:=ks.map fun t=>(t,e.get t)
structure St where
 env:Env
 hp:Hp
inductive aw where
 |t (i:Nat)
 |c (d:D)
inductive SK where
 |move (x:aw)
 |pick (c a b:aw)
 |alloc (zs:List PD)
 |box (x:aw)
 |build (zs:List PD) (parts:List (Nat×Nat×aw))
 |bslice (e sz:Nat) (len:Nat) (z:PD) (parts:List (Nat×aw))
 |load (n:Option Nat) (x:aw)
 |store (n:Nat) (a v:aw)
 |nilCheck (x:aw)
 |bin (op:BinOp) (x y:aw)
 |eqk (kd:Nat) (neg:Bool) (x y:aw)
 |eqs (neg:Bool) (tags:List Nat) (x y:aw)
 |un (op:UnOp) (x:aw)
 |mkfn (f:Nat) (first cap:List aw)
 |slice (sz:Nat) (x:aw) (lo hi:Option aw)
 |slarr (n sz:Nat) (x:aw) (lo hi:Option aw)
 |sdata (x:aw)
 |ustr (e:Nat) (x n:aw)
 |copy (sz:Nat) (x y:aw)
 |xT (T:Nat) (zs:List PD)
 |boxB (T:Nat) (x:aw)
 |stuck
 |cap (x:aw)
 |appendm (e sz bytes:Nat) (s x:aw)
 |appendg (e sz bytes:Nat) (s x:aw)
 |tassert (t:Nat) (z:PD) (ok:Bool) (x:aw)
 |vY (kd:Nat)
 |mapset (kd:Nat) (m k v:aw)
 |mapins (kd:Nat) (m k v:aw)
 |mapget (kd:Nat) (z:PD) (ok:Bool) (m k:aw)
 |faddr (x:aw) (off:Nat)
 |field (x:aw) (off:Nat) (n:Option Nat)
 |iaddr (len:Option Nat) (sz:Nat) (x i:aw)
 |index (arr:Option (Nat×Nat×Bool)) (x i:aw)
 |extract (x:aw) (i:Nat)
 |len (kd:Nat) (x:aw)
 |append (e sz bytes:Nat) (s x:aw)
 |conv (k:IntKind) (x:aw)
 |strid (x:aw)
 |toBytes (e:Nat) (x:aw)
 |toStr (x:aw)
 |minmax (mx:Bool) (x y:aw)
 |makesl (sz:Nat) (z:PD) (bytes:Nat) (n c:aw)
 |bsliceG (e sz len:Nat) (z:PD) (parts:List (Nat×Nat×aw))
 |slice3 (sz:Nat) (x:aw) (lo:Option aw) (hi mx:aw)
 |iface (t:Nat) (x:aw)
 |call (f:aw) (args:List aw)
 |panic (x:aw)
structure SO where
 dst:Option Nat
 k:SK
 g:Option (Nat×Bool)
inductive SC where
 |skip
 |region (keep:List Nat) (ops:List SO)
 |draw (keep:List Nat) (ax:List (Nat×Nat)) (ops:List SO)
 |seq (a b:SC)
 |cond (c:aw) (a b:SC)
 |block (id:Nat) (b:SC)
 |loop (keep:List Nat) (b:SC)
 |tok (slot:Nat) (e sz:Nat)
 |tokb (slot off e sz:Nat)
 |stuck
 |scope (b:SC)
 |loc (b:SC)
 |mI (b:SC)
 |mJ (f:Nat) (gen:List D→List D→Hp→Option (List (List D))) (g:aw) (ps:List Nat) (ft body:SC)
 |exit (id:Nat)
 |ret
inductive Ex where
 |norm
 |exit (id:Nat)
 |ret
inductive ou where
 |t (i:Nat)
 |cell (i:Nat) (n:Option Nat)
structure F8 where
 pre:List SC
 keep:List Nat
 ops:List SO
 f:aw
 as:List aw
structure FC where
 nt:Nat
 np:Nat
 res:List ou
 body:SC
 aH:Bool:=false
 iu:Option F8:=none
@[simp] def zI(n:Int):aw:=.c (.p (.int .i64 n))
@[simp] def zS(l:List UInt8):aw:=.c (.p (.str l))
@[simp] def zB(b:Bool):aw:=.c (.p (.bool b))
@[simp] def zo(d:Nat)(k:SK):SO:=⟨some d,k,none⟩
@[simp] def zv(k:SK):SO:=⟨none,k,none⟩
@[simp] def zg(d:Nat)(k:SK)(g:Nat)(b:Bool):SO:=⟨some d,k,some (g,b)⟩
@[simp] def zm(d s:Nat):SO:=⟨some d,.move (.t s),none⟩
@[simp] def zf(d s k:Nat):SO:=⟨some d,.faddr (.t s) k,none⟩
@[simp] def zl(d s:Nat):SO:=⟨some d,.load none (.t s),none⟩
@[simp] def zL(d n s:Nat):SO:=⟨some d,.load (some n) (.t s),none⟩
@[simp] def zs(n a b:Nat):SO:=⟨none,.store n (.t a) (.t b),none⟩
@[simp] def zn(d s:Nat):SO:=⟨some d,.nilCheck (.t s),none⟩
@[simp] def zi(d:Nat)(n:Int):SO:=⟨some d,.move (.c (.p (.int .i64 n))),none⟩
@[simp] def zc(d f:Nat)(l:List aw):SO:=⟨some d,.call (.c (.fn f [] [])) l,none⟩
@[simp] def zx(d s k:Nat):SO:=⟨some d,.extract (.t s) k,none⟩
@[simp] def ze(d n s:Nat):SO:=⟨some d,.len n (.t s),none⟩
@[simp] def za(d a b:Nat):SO:=⟨some d,.pick (.t a) (.t b) (.c (.p (.bool false))),none⟩
@[simp] def zb(d a b:Nat):SO:=⟨some d,.pick (.t a) (.c (.p (.bool true))) (.t b),none⟩
def FC.plain(fc:FC):Bool:=!fc.aH&&fc.iu.isNone
def FC.frozen(fc:FC):Bool:=fc.aH&&fc.iu.isNone
def aw.ev(env:Env):aw→D
 | .t i=>env.get i
 | .c d=>d
def lW(op:BinOp)(k:IntKind)(a b:Int):Option PD:=
 match op with
 | .add=>some (.int k (k.wrap (a+b)))
 | .sub=>some (.int k (k.wrap (a-b)))
 | .mul=>some (.int k (k.wrap (a*b)))
 | .quo=>if b=0 then none else some (.int k (k.wrap (a.tdiv b)))
 | .rem=>if b=0 then none else some (.int k (a.tmod b))
 | .eql=>some (.bool (a==b))
 | .neq=>some (.bool (a !=b))
 | .lss=>some (.bool (decide (a<b)))
 | .leq=>some (.bool (decide (a≤b)))
 | .gtr=>some (.bool (decide (a>b)))
 | .geq=>some (.bool (decide (a≥b)))
 | .and=>some (.int k (k.wrap ((BitVec.ofInt k.bits a&&& BitVec.ofInt k.bits b).toNat)))
 | .or=>some (.int k (k.wrap ((BitVec.ofInt k.bits a|||BitVec.ofInt k.bits b).toNat)))
 | .xor=>some (.int k (k.wrap ((BitVec.ofInt k.bits a ^^^ BitVec.ofInt k.bits b).toNat)))
 | .andNot=>some (.int k (k.wrap ((BitVec.ofInt k.bits a&&& ~~~ BitVec.ofInt k.bits b).toNat)))
 | .shl=>if b<0 then none else some (.int k (k.wrap (a*2 ^ (min b.toNat k.bits))))
 | .shr=>if b<0 then none else some (.int k (a.fdiv (2 ^ (min b.toNat k.bits))))
def ui(op:BinOp)(a b:List UInt8):Option PD:=
 match op with
 | .add=>if a.length+b.length≤140737488355328 then some (.str (a++b)) else none
 | .eql=>some (.bool (a==b))
 | .neq=>some (.bool (!(a==b)))
 | .lss=>some (.bool (Op.bytesLess a b))
 | .leq=>some (.bool (Op.bytesLess a b||a==b))
 | .gtr=>some (.bool (!(Op.bytesLess a b||a==b)))
 | .geq=>some (.bool (!Op.bytesLess a b))
 |_=>none
def PD.eqv(tag:Nat)(a b:PD):Option Bool:=
 match tag,a,b with
 | 0,.bool a,.bool b=>some (a==b)
 | 1,.int k a,.int k' b=>if k=k' then some (a==b) else none
 | 2,.str a,.str b=>some (a==b)
 |_,_,_=>none
def p8:List Nat→List PD→List PD→Option Bool
 |[],[],[]=>some true
 |t::ts,a::x,b::y=>match PD.eqv t a b,p8 ts x y with
  |some e,some f=>some (e&&f)
  |_,_=>none
 |_,_,_=>none
def D.Ak:D→Option Bool
 | .p .aI=>some true
 | .p (.slice _ (_::_))=>some false
 | .p (.emp _)=>some false
 | .cI _ _ _=>some false
 | .bk _ _ _ (_::_)=>some false
 | .bu _ _ _ _ _=>some false
 | .aB _ _ _ _=>some false
 |_=>none
def qJ(kd:Nat)(a b:D):Option Bool:=
 match kd with
 | 0=>match a,b with
  | .p (.bool x),.p (.bool y)=>some (x==y)
  |_,_=>none
 | 1=>match a,b with
  | .p .iQ,.p .iQ=>some true
  | .box _ _,.p .iQ=>some false
  | .ro _ _,.p .iQ=>some false
  | .eD _ _,.p .iQ=>some false
  |_,_=>none
 | 2=>match b with
  | .p .aI=>a.Ak
  |_=>none
 | 3=>match a,b with
  | .p .ot,.p .ot=>some true
  | .fn _ _ _,.p .ot=>some false
  |_,_=>none
 | 4=>match a,b with
  | .p .kA,.p .kA=>some true
  | .p (.iface _ _),.p .kA=>some false
  | .eE _ _,.p .kA=>some false
  |_,_=>none
 |_=>none
def vZ(op:BinOp)(a b:D):Option D:=
 match a,b with
 | .p (.int k x),.p (.int k' y)=>if op= .shl∨op= .shr∨k=k' then(lW op k x y).map .p else none
 | .p (.str x),.p (.str y)=>(ui op x y).map .p
 |_,_=>none
def v5(op:UnOp)(a:D):Option D:=
 match op,a with
 | .not,.p (.bool b)=>some (.p (.bool (!b)))
 | .neg,.p (.int k n)=>some (.p (.int k (k.wrap (0-n))))
 |_,_=>none
def D.lC:D→Option Nat
 | .p (.int _ n)=>if 0≤n then some n.toNat else none
 |_=>none
def D.rJ:D→Option Int
 | .p (.int _ n)=>some n
 |_=>none
def D.iR:D→Option (Nat×List PD)
 | .p (.slice sz es)=>some (sz,es)
 | .p (.emp sz)=>some (sz,[])
 | .cI _ sz es=>some (sz,es)
 | .bk _ _ sz es=>some (sz,es)
 | .ff sz=>some (sz,[])
 | .gK sz es=>some (sz,es)
 |_=>none
def sub{α:Type}(l:List α)(lo hi:Nat):List α:=(l.take hi).drop lo
def cutAt{α:Type}(l:List α)(off:Nat)(n:Option Nat)(one:α→D)(many:List α→D):Option D:=
 match n with
 |none=>(l[off]?).map one
 |some k=>if off+k≤l.length then some (many (sub l off (off+k))) else none
def aE(l:List D)(off:Nat)(cs:List D):List D:=l.take off++cs++l.drop (off+cs.length)
def aO(cells:List D):List (Nat×Nat×D)→Option (List D)
 |[]=>some cells
 |(off,n,x)::r=>if x.cells.length=n∧off+n≤cells.length∧x.cells.all D.one then aO (aE cells off x.cells) r else none
def ov(sz:Nat)(es:List PD):List (Nat×D)→Option (List PD)
 |[]=>some es
 |(i,x)::r=>match x.eM with
  |some y=>if y.cells.length=sz∧y.cells.all PD.one∧i<es.length then ov sz (es.set i y) r else none
  |none=>none
def kB(n:Nat)(lo hi:Option D):Option (Nat×Nat):=
 match(match lo with |none=>some 0 |some d=>d.lC),(match hi with |none=>some n |some d=>d.lC) with
 |some l,some h=>if l≤h∧h≤n then some (l,h) else none
 |_,_=>none
def Al(i off:Nat)(cap:Option Nat)(sz l h:Nat):D:=
 match cap with
 |some c=>if c≤l then .ff sz else .bu i (off+l*sz) (h-l) (some (c-l)) sz
 |none=>if l=h then .p (.slice sz []) else .bu i (off+l*sz) (h-l) none sz
def CV(sz:Nat)(x:D)(lo hi:Option D):Option D:=
 match sz with
 | 0=>match x with
  | .p (.str s)=>(kB s.length lo hi).map fun b=>.p (.str (sub s b.1 b.2))
  |_=>none
 |_+1=>match x with
  | .p .aI=>(kB 0 lo hi).map fun _=>.p .aI
  | .bu i off n cap bF=>if bF=sz then(kB n lo hi).map fun b=>Al i off cap sz b.1 b.2 else none
  | .aB i e n bF=>if bF=sz then(kB n lo hi).map fun b=>if b.1=0 then .aB i e b.2 sz else Al i 0 none sz b.1 b.2 else none
  |x=>match x.iR with
   |some (bF,es)=>if bF=sz then(kB es.length lo hi).map fun b=>.p (.slice sz (sub es b.1 b.2)) else none
   |none=>none
def P1(sz:Nat)(x:D)(lo:Option D)(hi mx:D):Option D:=
 match hi.lC,mx.lC with
 |some h,some m=>if h=m then
     (match x with
     | .p .aI=>(kB 0 lo (some hi)).map fun _=>.p .aI
     | .bu i off n _ bF=>if bF=sz then(kB n lo (some hi)).map fun b=>if b.1=b.2 then .ff sz else .bu i (off+b.1*sz) (b.2-b.1) (some (b.2-b.1)) sz else none
     | .aB i _ n bF=>if bF=sz then(kB n lo (some hi)).map fun b=>if b.1=b.2 then .ff sz else .bu i (b.1*sz) (b.2-b.1) (some (b.2-b.1)) sz else none
     |x=>match x.iR with
      |some (bF,es)=>if bF=sz then(kB es.length lo (some hi)).map fun b=>.gK sz (sub es b.1 b.2) else none
      |none=>none) else none
 |_,_=>none
def eN(len:Option Nat)(sz:Nat)(x:D)(i:Int):Option D:=
 match len with
 |none=>match x with
  | .bu b off n _ bF=>if bF=sz∧0≤i∧i<n then some (.box b (off+i.toNat*sz)) else none
  | .aB b _ n bF=>if bF=sz∧0≤i∧i<n then some (.box b (i.toNat*sz)) else none
  |x=>match x.iR with
   |some (bF,es)=>if bF=sz∧0≤i then(es[i.toNat]?).map fun e=>.ro e.cells 0 else none
   |none=>none
 |some n=>if 0≤i∧i<n then
     match x with
     | .box b o=>some (.box b (o+i.toNat*sz))
     | .eD g o=>some (.eD g (o+i.toNat*sz))
     | .ro cs o=>some (.ro cs (o+i.toNat*sz))
     |_=>none
  else none
def u8(b:UInt8):D:=.p (.int .u8 b.toNat)
def uj(arr:Option (Nat×Nat×Bool))(x:D)(i:Int):Option D:=
 match arr with
 |none=>match x with
  | .p (.str s)=>if 0≤i then(s[i.toNat]?).map u8 else none
  |_=>none
 |some (n,sz,ag)=>if 0≤i∧i<n then
     match x with
     | .p (.agg cs)=>cutAt cs (i.toNat*sz) (if ag then some sz else none) .p fun l=>.p (.agg l)
     | .agg cs=>cutAt cs (i.toNat*sz) (if ag then some sz else none) id ec
     |_=>none
  else none
def fg(kd:Nat)(x:D):Option Nat:=
 match kd,x with
 | 0,.p (.str s)=>some s.length
 | 1,.p .aI=>some 0
 | 1,.bu _ _ n _ _=>some n
 | 1,.aB _ _ n _=>some n
 | 1,x=>x.iR.map fun e=>e.2.length
 |_,_=>none
def chunks(sz:Nat):Nat→List PD→List PD
 | 0,_=>[]
 |n+1,cs=>(match sz,cs with
  | 1,c::_=>c
  |_,_=>.agg (cs.take sz))::chunks sz n (cs.drop sz)
def xU(H:Hp)(i off n sz:Nat):Option (List PD):=
 match H.bx[i]? with
 |some cs=>if aU cs=false∧off+n*sz≤cs.length then(D.jn (sub cs off (off+n*sz))).map (chunks sz n) else none
 |none=>none
def Y1:D→Option Nat
 | .p .aI=>some 0
 | .ff _=>some 0
 | .cI _ _ es=>some es.length
 | .gK _ es=>some es.length
 | .bu _ _ _ (some c) _=>some c
 |_=>none
def eF(sz:Nat):D→Option (List PD)
 | .p (.str s)=>if sz=1 then some (s.map fun b=>.int .u8 b.toNat) else none
 | .p .aI=>some []
 |d=>match d.iR with
  |some (bF,es)=>if bF=sz then some es else none
  |none=>none
def rK(H:Hp)(sz:Nat)(d:D):Option (List PD):=
 match d with
 | .bu i off n _ bF=>if bF=sz then xU H i off n sz else none
 | .aB i _ n bF=>if bF=sz then xU H i 0 n sz else none
 |d=>eF sz d
def Kr(d:D):Option (List PD):=
 match d with
 | .p .aI=>some []
 |d=>match d.iR with
  |some (sz,es)=>if sz=1 then some es else none
  |none=>none
def sX(H:Hp)(d:D):Option (List PD):=
 match d with
 | .bu i off n _ sz=>if sz=1 then xU H i off n 1 else none
 | .aB i _ n sz=>if sz=1 then xU H i 0 n 1 else none
 |d=>Kr d
def roomy(n bytes:Nat):Bool:=n≤140737488355328&&n*bytes≤140737488355328
def fj(e sz bytes:Nat)(s:D)(xs:List PD)(H:Hp):Option (D×Hp):=
 match s with
 | .p .aI=>if roomy xs.length bytes then some (.bk H.tk.length e sz xs,{H with tk:=H.tk++[xs.length]}) else none
 | .cI e' bF es=>if e'=e∧bF=sz∧roomy (es.length+xs.length) bytes then some (.bk H.tk.length e sz (es++xs),{H with tk:=H.tk++[es.length+xs.length]}) else none
 | .bk t e' bF es=>if e'=e∧bF=sz∧H.tk[t]? =some es.length∧roomy (es.length+xs.length) bytes then
     some (.bk t e sz (es++xs),{H with tk:=H.tk.set t (es.length+xs.length)}) else none
 |_=>none
def P2(sz bytes:Nat)(s:D)(xs:List PD)(H:Hp):Option (D×Hp):=
 match(match s with | .p .aI=>some [] | .ff bF=>if bF=sz then some [] else none | .cI _ bF es=>if bF=sz then some es else none |_=>none) with
 |some es=>if xs.isEmpty then some (s,H) else
  if roomy (es.length+xs.length) bytes then some (.bu H.bx.length 0 (es.length+xs.length) none sz,{H with bx:=H.bx++[((es++xs).flatMap PD.cells).map .p]}) else none
 |none=>none
def ow(H:Hp)(sz:Nat)(d:D):Option (Nat×List D):=
 match d with
 | .bu i off n _ bF=>if bF=sz then(match H.bx[i]? with
  |some cs=>if aU cs=false∧off+n*sz≤cs.length then some (n,sub cs off (off+n*sz)) else none
  |none=>none) else none
 | .aB i _ n bF=>if bF=sz then(match H.bx[i]? with
  |some cs=>if aU cs=false∧0+n*sz≤cs.length then some (n,sub cs 0 (0+n*sz)) else none
  |none=>none) else none
 |d=>(eF sz d).map fun es=>(es.length,(es.flatMap PD.cells).map .p)
def mK(sz:Nat)(s:D):Option (List PD):=
 match s with
 | .p .aI=>some []
 | .ff bF=>if bF=sz then some [] else none
 | .cI _ bF es=>if bF=sz then some es else none
 | .gK bF es=>if bF=sz then some es else none
 |_=>none
def gL(e sz bytes:Nat)(s:D)(m:Nat)(xs:List D)(H:Hp):Option (D×Hp):=
 match s with
 | .aB i e' n bF=>if e'=e∧bF=sz then(if m=0 then some (s,H) else match H.bx[i]? with
  |some cs=>if aU cs=false∧n*sz≤cs.length∧cs≠[] then
      (if(n+m)*sz≤cs.length then some (.aB i e (n+m) sz,{H with bx:=H.bx.set i (aE cs (n*sz) xs)})
      else if roomy (n+m) bytes then some (.aB H.bx.length e (n+m) sz,{H with bx:=H.bx.set i []++[cs.take (n*sz)++xs]}) else none) else none
  |none=>none) else none
 | .bu i off n (some c) bF=>if bF=sz then(if m=0 then some (s,H) else match H.bx[i]? with
  |some cs=>if aU cs=false∧off+n*sz≤cs.length then
      (if n+m≤c then(if off+(n+m)*sz≤cs.length then some (.bu i off (n+m) (some c) sz,{H with bx:=H.bx.set i (aE cs (off+n*sz) xs)}) else none)
      else if roomy (n+m) bytes then some (.aB H.bx.length e (n+m) sz,{H with bx:=H.bx++[sub cs off (off+n*sz)++xs]}) else none) else none
  |none=>none) else none
 |s=>match mK sz s with
  |some es=>if m=0 then some (s,H) else
   if roomy (es.length+m) bytes then some (.aB H.bx.length e (es.length+m) sz,{H with bx:=H.bx++[(es.flatMap PD.cells).map .p++xs]}) else none
  |none=>none
def Am(sz:Nat)(z:PD)(bytes:Nat)(n c:D)(H:Hp):Option (D×Hp):=
 match n.lC,c.lC with
 |some n,some c=>if n≤c∧roomy c bytes∧z.cells.length=sz∧z.cells.all PD.one then
     some (.bu H.bx.length 0 n (some c) sz,{H with bx:=H.bx++[((eB c z).flatMap PD.cells).map .p]}) else none
 |_,_=>none
def P3(t:Nat)(z:PD)(ok:Bool)(x:D):Option D:=
 match x with
 | .p (.iface u y)=>if u=t then some (if ok then .bA [.p y,.p (.bool true)] else .p y) else if ok then some (.bA [.p z,.p (.bool false)]) else none
 | .eE u y=>if u=t then some (if ok then .bA [y,.p (.bool true)] else y) else if ok then some (.bA [.p z,.p (.bool false)]) else none
 | .p .kA=>if ok then some (.bA [.p z,.p (.bool false)]) else none
 |_=>none
def bytesOf:List PD→Option (List UInt8)
 |[]=>some []
 | .int .u8 n::r=>(bytesOf r).map (UInt8.ofNat n.toNat:: ·)
 |_=>none
def P4(H:Hp)(x:D):Option D:=
 match x with
 | .p .aI=>some (.p .iQ)
 | .bk t e sz es=>if es.isEmpty then(if H.tk[t]? =some 0 then some .iH else none) else some (.fN (.bk t e sz es))
 | .cI e sz es=>if es.isEmpty then none else some (.fN (.cI e sz es))
 |_=>none
def F9(H:Hp)(e:Nat)(x n:D):Option (D×Hp):=
 match n with
 | .p (.int .i64 m)=>match x with
  | .p .iQ=>if m=0 then some (.p (.str []),H) else none
  | .iH=>if m=0 then some (.p (.str []),H) else none
  | .fN (.bk t e' sz es)=>if e'=e∧sz=1∧m=(es.length:Int)∧H.tk[t]? =some es.length∧es.length≤140737488355328 then(bytesOf es).map fun s=>(.p (.str s),H) else none
  |_=>none
 |_=>none
def Y2(H:Hp)(sz:Nat)(x y:D):Option (D×Hp):=
 match x,rK H sz y with
 | .bu i off n _ bF,some xs=>if bF=sz then
     (match H.bx[i]? with
     |some cs=>if aU cs=false∧off+min xs.length n*sz≤cs.length then
         some (.p (.int .i64 (min xs.length n:Nat)),{H with bx:=H.bx.set i (aE cs off (((xs.take n).flatMap PD.cells).map .p))}) else none
     |none=>none) else none
 |_,_=>none
def ph(G:Nat→Option (List PD))(H:Hp)(n:Option Nat)(x:D):Option D:=
 match x with
 | .box i off=>match H.bx[i]? with
  |some cs=>if aU cs then none else cutAt cs off n id ec
  |none=>none
 | .ro cs off=>cutAt cs off n .p fun l=>.p (.agg l)
 | .eD g off=>match G g with
  |some cs=>cutAt cs off n .p fun l=>.p (.agg l)
  |none=>none
 |_=>none
def uk(H:Hp)(n:Nat)(a v:D):Option Hp:=
 match a with
 | .box i off=>match H.bx[i]? with
  |some cs=>if aU cs=false∧v.cells.length=n∧v.cells.all D.one∧off+n≤cs.length∧0<n then some {H with bx:=H.bx.set i (aE cs off v.cells)} else none
  |none=>none
 |_=>none
def P5(_:Nat)(x:D)(H:Hp):Option (D×Hp):=
 match x with
 | .p (.str s)=>if s.length≤140737488355328 then some (.p (.slice 1 (s.map fun b=>.int .u8 b.toNat)),H) else none
 |_=>none
def v7(mx:Bool)(a b:D):Option D:=
 match a,b with
 | .p (.int k x),.p (.int _ y)=>some (.p (.int k (if mx then(if y>x then y else x) else(if y<x then y else x))))
 |_,_=>none
def CW(T:Nat)(cs:List D)(H:Hp):Option (D×Hp):=
 match cs with
 | .p .iQ::r=>if r.all D.one then some (.box H.bx.length 0,{H with bx:=H.bx++[.fresh T (r.length+1) H.bx.length::r]}) else none
 |_=>none
def mL:IntKind→Nat
 | .i8=>10 | .i16=>11 | .i32=>12 | .i64=>13 | .u8=>14 | .u16=>15 | .u32=>16 | .u64=>17
def dD:PD→Nat
 | .bool _=>0
 | .int k _=>mL k
 | .str _=>2
 | .agg [.int k _,.int k' _,.int P6 _]=>if k=k'∧k=P6 then 100+mL k else 1
 |_=>1
def cX:PD→Nat
 | .bool b=>if b then 1 else 0
 | .int _ n=>n.toNat
 | .str s=>s.foldl (fun a b=>a*257+b.toNat+1) 0
 | .agg [.int _ a,.int _ b,.int _ c]=>(a.toNat*1009+b.toNat)*1009+c.toNat
 |_=>0
def fO:PD→PD→Bool
 | .bool a,.bool b=>a==b
 | .int _ a,.int _ b=>a==b
 | .str a,.str b=>a==b
 | .agg [.int _ a,.int _ b,.int _ c],.agg [.int _ x,.int _ y,.int _ z]=>a==x&&b==y&&c==z
 |_,_=>false
def eO(k:PD):List PD→Option Nat
 |[]=>none
 |a::r=>if fO k a then some 0 else(eO k r).map (· +1)
def iv(c:Nat):List PD→Nat
 |[]=>0
 |a::r=>if c<cX a then 0 else iv c r+1
def dI{α:Type}:Nat→α→List α→List α
 | 0,x,l=>x::l
 |_+1,x,[]=>[x]
 |n+1,x,a::l=>a::dI n x l
def qK(kd:Nat)(m k v:D)(H:Hp):Option (D×Hp):=
 match m,k with
 | .bU i,.p k=>match H.bx[i]? with
  |some [.bB lD ks vs]=>if dD k=kd∧lD=kd∧kd≠1∧eO k ks=none∧vs.length=ks.length then some (.undef,{H with bx:=H.bx.set i [.bB kd (dI (iv (cX k) ks) k ks) (dI (iv (cX k) ks) v vs)]}) else none
  |_=>none
 |_,_=>none
def CX(kd:Nat)(m k v:D)(H:Hp):Option (D×Hp):=
 match m,k with
 | .bU i,.p k'=>match H.bx[i]? with
  |some [.bB lD ks vs]=>if dD k'=kd∧lD=kd∧kd≠1 then(match eO k' ks with
   |some j=>some (.undef,{H with bx:=H.bx.set i [.bB kd ks (vs.set j v)]})
   |none=>qK kd m k v H) else none
  |_=>none
 |_,_=>none
def v8(kd:Nat)(z:PD)(ok:Bool)(m k:D)(H:Hp):Option D:=
 match m,k with
 | .p .qI,.p k=>if dD k=kd∧kd≠1 then some (if ok then .bA [.p z,.p (.bool false)] else .p z) else none
 | .bU i,.p k=>match H.bx[i]? with
  |some [.bB lD ks vs]=>if dD k=kd∧lD=kd∧kd≠1 then(match eO k ks with
   |some j=>(vs[j]?).map fun v=>if ok then .bA [v,.p (.bool true)] else v
   |none=>some (if ok then .bA [.p z,.p (.bool false)] else .p z)) else none
  |_=>none
 |_,_=>none
def aN(G:Nat→Option (List PD))(env:Env)(H:Hp):SK→Option (D×Hp)
 | .move x=>some (x.ev env,H)
 | .pick c a b=>match c.ev env with
  | .p (.bool t)=>some (if t then a.ev env else b.ev env,H)
  |_=>none
 | .alloc zs=>if zs.all PD.one then some (.box H.bx.length 0,{H with bx:=H.bx++[zs.map .p]}) else none
 | .box x=>if(x.ev env).cells.all D.one then some (.box H.bx.length 0,{H with bx:=H.bx++[(x.ev env).cells]}) else none
 | .build zs parts=>if zs.all PD.one then(aO (zs.map .p) (parts.map fun(o,n,x)=>(o,n,x.ev env))).map fun cs=>(ec cs,H) else none
 | .bslice e sz len z parts=>if z.cells.length=sz∧z.cells.all PD.one then(ov sz (eB len z) (parts.map fun(i,x)=>(i,x.ev env))).map fun es=>(.cI e sz es,H) else none
 | .load n x=>(ph G H n (x.ev env)).map fun d=>(d,H)
 | .store n a v=>(uk H n (a.ev env) (v.ev env)).map fun H'=>(.undef,H')
 | .nilCheck x=>match x.ev env with
  | .box i o=>some (.box i o,H)
  | .eD i o=>some (.eD i o,H)
  | .ro i o=>some (.ro i o,H)
  | .fn f a c=>some (.fn f a c,H)
  |_=>none
 | .bin op x y=>(vZ op (x.ev env) (y.ev env)).map fun d=>(d,H)
 | .eqk kd neg x y=>(qJ kd (x.ev env) (y.ev env)).map fun r=>(.p (.bool (if neg then !r else r)),H)
 | .eqs neg tags x y=>match x.ev env,y.ev env with
  | .p (.agg a),.p (.agg b)=>(p8 tags a b).map fun r=>(.p (.bool (if neg then !r else r)),H)
  |_,_=>none
 | .un op x=>(v5 op (x.ev env)).map fun d=>(d,H)
 | .mkfn f first cap=>some (.fn f (first.map (·.ev env)) (cap.map (·.ev env)),H)
 | .slice sz x lo hi=>(CV sz (x.ev env) (lo.map (·.ev env)) (hi.map (·.ev env))).map fun d=>(d,H)
 | .faddr x off=>match x.ev env with
  | .box i o=>some (.box i (o+off),H)
  | .eD g o=>some (.eD g (o+off),H)
  | .ro cs o=>some (.ro cs (o+off),H)
  |_=>none
 | .field x off n=>match x.ev env with
  | .p (.agg cs)=>(cutAt cs off n .p fun l=>.p (.agg l)).map fun d=>(d,H)
  | .agg cs=>(cutAt cs off n id ec).map fun d=>(d,H)
  |_=>none
 | .iaddr len sz x i=>match(i.ev env).rJ with
  |some n=>(eN len sz (x.ev env) n).map fun d=>(d,H)
  |none=>none
 | .index arr x i=>match(i.ev env).rJ with
  |some n=>(uj arr (x.ev env) n).map fun d=>(d,H)
  |none=>none
 | .extract x i=>match x.ev env with
  | .bA ds=>(ds[i]?).map fun d=>(d,H)
  |_=>none
 | .len kd x=>(fg kd (x.ev env)).map fun(n:Nat)=>(.p (.int .i64 (n:Int)),H)
 | .append e sz bytes s x=>match rK H sz (x.ev env) with
  |some xs=>fj e sz bytes (s.ev env) xs H
  |none=>none
 | .conv k x=>match(x.ev env).rJ with
  |some n=>some (.p (.int k (k.wrap n)),H)
  |none=>none
 | .strid x=>match x.ev env with
  | .p (.str s)=>some (.p (.str s),H)
  |_=>none
 | .toBytes e x=>P5 e (x.ev env) H
 | .toStr x=>match sX H (x.ev env) with
  |some xs=>(bytesOf xs).map fun s=>(.p (.str s),H)
  |none=>none
 | .minmax mx x y=>(v7 mx (x.ev env) (y.ev env)).map fun d=>(d,H)
 | .makesl sz z bytes n c=>Am sz z bytes (n.ev env) (c.ev env) H
 | .iface t x=>match(x.ev env).eM with
  |some y=>some (.p (.iface t y),H)
  |none=>some (.eE t (x.ev env),H)
 | .slarr n sz x lo hi=>match x.ev env with
  | .box i o=>(kB n (lo.map (·.ev env)) (hi.map (·.ev env))).map fun b=>(Al i o (some n) sz b.1 b.2,H)
  |_=>none
 | .bsliceG e sz len z parts=>if z.cells.length=sz∧z.cells.all PD.one∧0<len then
     (match aO (((eB len z).flatMap PD.cells).map .p) (parts.map fun(o,n,x)=>(o,n,x.ev env)) with
     |some cs=>if cs.length=len*sz then some (.aB H.bx.length e len sz,{H with bx:=H.bx++[cs]}) else none
     |none=>none) else none
 | .slice3 sz x lo hi mx=>(P1 sz (x.ev env) (lo.map (·.ev env)) (hi.ev env) (mx.ev env)).map fun d=>(d,H)
 | .sdata x=>(P4 H (x.ev env)).map fun d=>(d,H)
 | .ustr e x n=>F9 H e (x.ev env) (n.ev env)
 | .copy sz x y=>Y2 H sz (x.ev env) (y.ev env)
 | .xT T zs=>CW T (zs.map .p) H
 | .boxB T x=>CW T (x.ev env).cells H
 | .stuck=>none
 | .cap x=>(Y1 (x.ev env)).map fun(n:Nat)=>(.p (.int .i64 (n:Int)),H)
 | .appendm _ sz bytes s x=>match rK H sz (x.ev env) with
  |some xs=>P2 sz bytes (s.ev env) xs H
  |none=>none
 | .appendg e sz bytes s x=>match ow H sz (x.ev env) with
  |some (m,xs)=>gL e sz bytes (s.ev env) m xs H
  |none=>none
 | .tassert t z ok x=>(P3 t z ok (x.ev env)).map fun d=>(d,H)
 | .vY kd=>some (.bU H.bx.length,{H with bx:=H.bx++[[.bB kd [] []]]})
 | .mapset kd m k v=>CX kd (m.ev env) (k.ev env) (v.ev env) H
 | .mapins kd m k v=>qK kd (m.ev env) (k.ev env) (v.ev env) H
 | .mapget kd z ok m k=>(v8 kd z ok (m.ev env) (k.ev env) H).map fun d=>(d,H)
 | .call .. =>none
 | .panic _=>none
inductive bt where
 |val (d:D)
 |bR (d:D)
abbrev bC:=Nat→List D→Hp→Option (bt×Hp)
def aP{α β:Type}(f:α→Option β):List α→Option (List β)
 |[]=>some []
 |a::r=>match f a with
  |some b=>(aP f r).map (b:: ·)
  |none=>none
def idx(l:List Nat)(i:Nat):Option Nat:=match l with
 |[]=>none
 |a::r=>if a=i then some 0 else(idx r i).map (· +1)
mutual
def D.ren(bi ti:Nat→Option Nat):D→Option D
 | .box i o=>(bi i).map fun j=>.box j o
 | .bk t e sz es=>match ti t with
  |some u=>some (.bk u e sz es)
  |none=>some (.p (.slice sz es))
 | .agg cs=>(D.ba bi ti cs).map .agg
 | .bA cs=>(D.ba bi ti cs).map .bA
 | .fn f a c=>match D.ba bi ti a,D.ba bi ti c with
  |some a',some c'=>some (.fn f a' c')
  |_,_=>none
 | .bu i off n c sz=>(bi i).map fun j=>.bu j off n c sz
 | .eE t d=>(d.ren bi ti).map (.eE t)
 | .fN d=>(d.ren bi ti).map .fN
 | .fresh T n i=>(bi i).map (.fresh T n ·)
 | .bU i=>(bi i).map .bU
 | .bB kd ks vs=>(D.ba bi ti vs).map (.bB kd ks)
 | .aB i e n sz=>(bi i).map fun j=>.aB j e n sz
 |d=>some d
def D.ba(bi ti:Nat→Option Nat):List D→Option (List D)
 |[]=>some []
 |d::r=>match d.ren bi ti with
  |some x=>(D.ba bi ti r).map (x:: ·)
  |none=>none
end
mutual
def D.refs:D→List Nat
 | .box i _=>[i]
 | .agg cs=>D.aD cs
 | .bA cs=>D.aD cs
 | .fn _ a c=>D.aD a++D.aD c
 | .bu i _ _ _ _=>[i]
 | .fresh _ _ i=>[i]
 | .bU i=>[i]
 | .bB _ _ vs=>D.aD vs
 | .aB i _ _ _=>[i]
 | .eE _ d=>d.refs
 | .fN d=>d.refs
 |_=>[]
def D.aD:List D→List Nat
 |[]=>[]
 |d::r=>d.refs++D.aD r
end
mutual
def D.cJ:D→List Nat
 | .bk t _ _ _=>[t]
 | .agg cs=>D.bz cs
 | .bA cs=>D.bz cs
 | .fn _ a c=>D.bz a++D.bz c
 | .eE _ d=>d.cJ
 | .fN d=>d.cJ
 | .bB _ _ vs=>D.bz vs
 |_=>[]
def D.bz:List D→List Nat
 |[]=>[]
 |d::r=>d.cJ++D.bz r
end
def ins(l:List Nat):List Nat→List Nat
 |[]=>l
 |x::r=>if l.contains x then ins l r else ins (l++[x]) r
def ef(H:Hp):List Nat→List Nat
 |[]=>[]
 |i::r=>(match H.bx[i]? with |some cs=>D.aD cs |none=>[])++ef H r
def fX(H:Hp):List Nat→List Nat
 |[]=>[]
 |i::r=>(match H.bx[i]? with |some cs=>D.bz cs |none=>[])++fX H r
def reach(H:Hp):Nat→List Nat→List Nat
 | 0,ids=>ids
 |n+1,ids=>match ef H ids with
  |[]=>ids
  |new=>reach H n (ins ids new)
def cq{α:Type}(l:List α):List Nat→List α→List α
 |i::is,x::xs=>cq (l.set i x) is xs
 |_,_=>l
def bt.ren(bi ti:Nat→Option Nat):bt→Option bt
 | .val d=>(d.ren bi ti).map .val
 | .bR d=>(d.ren bi ti).map .bR
def gM{α:Type}(l:List α)(n:Nat):Option (List α):=if n≤l.length then some (l.take n) else none
def back(ids tks:List Nat)(H:Hp)(r:bt)(H':Hp):Option (bt×Hp):=
 match gM H'.bx ids.length,gM H'.tk tks.length with
 |some bx,some tk=>
  let ti:=fun t=>tks[t]?
  match r.ren (fun i=>ids[i]?) ti,aP (D.ba (fun i=>ids[i]?) ti) bx with
  |some r',some mM=>some (r',⟨cq H.bx ids mM,cq H.tk tks tk⟩)
  |_,_=>
   let bi:=fun i=>if i<ids.length then ids[i]? else some (H.bx.length+(i-ids.length))
   match r.ren bi ti,aP (D.ba bi ti) bx,aP (D.ba bi ti) (H'.bx.drop ids.length) with
   |some r',some mM,some (n0::nw)=>some (r',⟨cq H.bx ids mM++(n0::nw),cq H.tk tks tk⟩)
   |_,_,_=>none
 |_,_=>none
def nodupB:List Nat→Bool
 |[]=>true
 |a::r=>!(r.contains a)&&nodupB r
def av(dm:bC)(f:Nat)(args:List D)(H:Hp):Option (bt×Hp):=
 let ids:=reach H H.bx.length (ins [] (D.aD args))
 let tks:=ins [] (D.bz args++fX H ids)
 if nodupB ids&&nodupB tks then
  match D.ba (idx ids) (idx tks) args,aP (fun i=>match H.bx[i]? with |some cs=>D.ba (idx ids) (idx tks) cs |none=>none) ids,aP (fun t=>H.tk[t]?) tks with
  |some as,some bx,some tk=>match dm f as ⟨bx,tk⟩ with
   |some (r,H')=>back ids tks H r H'
   |none=>none
  |_,_,_=>none
 else none
def p9(dm:bC)(f:D)(args:List D)(H:Hp):Option (bt×Hp):=
 match f with
 | .fn g first cap=>av dm g (first++args++cap) H
 |_=>none
def Ga(d:D)(H:Hp):Option (bt×Hp):=
 match d with
 | .p (.iface t y)=>some (.bR (.p (.iface t y)),H)
 | .eE t y=>some (.bR (.eE t y),H)
 |_=>none
def cF(dm:bC)(G:Nat→Option (List PD))(env:Env)(H:Hp):SK→Option (bt×Hp)
 | .call f args=>p9 dm (f.ev env) (args.map (·.ev env)) H
 | .panic x=>Ga (x.ev env) H
 |k=>match aN G env H k with
  |some (d,H')=>some (.val d,H')
  |none=>none
def fF(env:Env):Option (Nat×Bool)→Option Bool
 |none=>some true
 |some (t,want)=>match env.get t with
  | .p (.bool b)=>some (b==want)
  | .undef=>some false
  |_=>none
def put(dst:Option Nat)(d:D)(env:Env):Env:=
 match dst with
 |some t=>(t,d)::env
 |none=>env
inductive RO where
 |ok (env:Env) (H:Hp)
 |bR (d:D) (env:Env) (H:Hp)
def kc(dm:bC)(G:Nat→Option (List PD)):List SO→Env→Hp→Option RO
 |[],env,H=>some (.ok env H)
 |o::r,env,H=>match fF env o.g with
  |some true=>match cF dm G env H o.k with
   |some (.val d,H')=>kc dm G r (put o.dst d env) H'
   |some (.bR d,H')=>some (.bR d env H')
   |none=>none
  |some false=>kc dm G r (put o.dst .undef env) H
  |none=>none
def cls(env:Env):SK→Nat
 | .load _ x=>match x.ev env with
  | .ro _ _ | .eD _ _=>0
  |_=>1
 | .alloc _ | .box _ | .store _ _ _ | .append _ _ _ _ _ | .toBytes _ _ | .appendm _ _ _ _ _ | .appendg _ _ _ _ _ | .makesl _ _ _ _ _ | .bsliceG _ _ _ _ _ | .xT _ _ | .boxB _ _ | .vY _ | .mapset _ _ _ _ | .mapins _ _ _ _=>2
 | .mapget _ _ _ _ _=>1
 | .toStr x=>match x.ev env with
  | .bu _ _ _ _ _=>1
  | .aB _ _ _ _=>1
  |_=>0
 | .copy _ _ _=>2
 | .sdata _ | .ustr _ _ _=>1
 | .panic _=>2
 | .call f args=>if(D.aD (f.ev env::args.map (·.ev env))).isEmpty&&(D.bz (f.ev env::args.map (·.ev env))).isEmpty then 0 else 2
 |_=>0
def gN(n:Nat)(env:Env)(k:SK):Nat×Nat:=
 match k with
 | .load n x=>match x.ev env with
  | .box i _=>(3+2*i,0)
  |_=>(cls env (.load n x),0)
 | .store n a v=>match a.ev env with
  | .box i _=>(4+2*i,0)
  |_=>(cls env (.store n a v),0)
 | .mapget g z ok m k=>match m.ev env with
  | .bU i=>(3+2*i,0)
  |_=>(cls env (.mapget g z ok m k),0)
 | .mapins kd m k v=>match m.ev env,k.ev env with
  | .bU i,.p k=>if i<2000000000 then(4+2*i,cX k+1) else(2,0)
  |_,_=>(cls env (.mapins kd m k v),0)
 | .alloc _ | .box _ | .vY _ | .bsliceG _ _ _ _ _ | .makesl _ _ _ _ _=>(4+2*n,0)
 | .appendg _ _ _ s _=>match s.ev env with
  | .aB i _ _ _ | .bu i _ _ _ _=>if n<1000000 then(4+2*(4000000000+i*1000000+n),0) else(2,0)
  |_=>(4+2*n,0)
 | .append _ _ _ _ _=>(4+2*1000000007,0)
 |k=>(cls env k,0)
mutual
def PD.gB:PD→PD→Bool
 | .bool a,.bool b=>a==b
 | .int k a,.int l b=>decide (k=l)&&a==b
 | .str a,.str b=>a==b
 | .iQ,.iQ=>true
 | .aI,.aI=>true
 | .ot,.ot=>true
 | .kA,.kA=>true
 | .qI,.qI=>true
 | .slice s a,.slice t b=>s==t&&PD.gV a b
 | .emp s,.emp t=>s==t
 | .agg a,.agg b=>PD.gV a b
 | .iface s a,.iface t b=>s==t&&PD.gB a b
 |_,_=>false
def PD.gV:List PD→List PD→Bool
 |[],[]=>true
 |a::x,b::y=>PD.gB a b&&PD.gV x y
 |_,_=>false
end
mutual
def D.gB:D→D→Bool
 | .dead,.dead=>true
 | .undef,.undef=>true
 | .p a,.p b=>PD.gB a b
 | .cI e s a,.cI f t b=>e==f&&s==t&&PD.gV a b
 | .bk u e s a,.bk v f t b=>u==v&&e==f&&s==t&&PD.gV a b
 | .box i o,.box j q=>i==j&&o==q
 | .eD i o,.eD j q=>i==j&&o==q
 | .ro a o,.ro b q=>PD.gV a b&&o==q
 | .agg a,.agg b=>D.gV a b
 | .bA a,.bA b=>D.gV a b
 | .fn f a c,.fn g b d=>f==g&&D.gV a b&&D.gV c d
 | .bu i o n c s,.bu j q m d t=>i==j&&o==q&&n==m&&decide (c=d)&&s==t
 | .ff s,.ff t=>s==t
 | .eE s a,.eE t b=>s==t&&D.gB a b
 | .fN a,.fN b=>D.gB a b
 | .iH,.iH=>true
 | .fresh a b c,.fresh d e f=>a==d&&b==e&&c==f
 | .bU i,.bU j=>i==j
 | .bB k a x,.bB l b y=>k==l&&PD.gV a b&&D.gV x y
 | .aB i e n s,.aB j f m t=>i==j&&e==f&&n==m&&s==t
 | .gK s a,.gK t b=>s==t&&PD.gV a b
 |_,_=>false
def D.gV:List D→List D→Bool
 |[],[]=>true
 |a::x,b::y=>D.gB a b&&D.gV x y
 |_,_=>false
end
def wb:List (List D)→List (List D)→Bool
 |[],[]=>true
 |a::x,b::y=>D.gV a b&&wb x y
 |_,_=>false
def CY(H H':Hp):Bool:=wb H.bx H'.bx&&H.tk==H'.tk
mutual
theorem PD.xV:∀(a b:PD),PD.gB a b=true→a=b
 |a,b,h=>by
  cases a<;>cases b<;>first |rfl |(simp[PD.gB] at h;done) |skip
  all_goals simp only[PD.gB,bQ,beq_iff_eq,decide_eq_true_eq] at h
  all_goals first
   |(rw[h])
   |(rw[h.1,h.2])
   |(rw[h.1,PD.nB _ _ h.2])
   |(rw[PD.nB _ _ h])
   |(rw[h.1,PD.xV _ _ h.2])
theorem PD.nB:∀(a b:List PD),PD.gV a b=true→a=b
 |[],[],_=>rfl
 |a::x,b::y,h=>by
  simp only[PD.gV,bQ] at h;rw[PD.xV a b h.1,PD.nB x y h.2]
 |[],_::_,h=>by simp[PD.gV] at h
 |_::_,[],h=>by simp[PD.gV] at h
end
mutual
theorem D.xV:∀(a b:D),D.gB a b=true→a=b
 |a,b,h=>by
  cases a<;>cases b<;>first |rfl |(simp[D.gB] at h;done) |skip
  all_goals simp only[D.gB,bQ,beq_iff_eq,decide_eq_true_eq] at h
  all_goals first
   |(rw[h])
   |(rw[h.1,h.2])
   |(rw[PD.xV _ _ h])
   |(rw[h.1.1,h.1.2,PD.nB _ _ h.2])
   |(rw[h.1.1.1,h.1.1.2,h.1.2,PD.nB _ _ h.2])
   |(rw[h.1.1.1,h.1.1.2,h.1.2,h.2])
   |(rw[PD.nB _ _ h.1,h.2])
   |(rw[D.nB _ _ h])
   |(rw[h.1.1,D.nB _ _ h.1.2,D.nB _ _ h.2])
   |(rw[h.1.1.1.1,h.1.1.1.2,h.1.1.2,h.1.2,h.2])
   |(rw[h.1,PD.nB _ _ h.2])
   |(rw[h.1,D.xV _ _ h.2])
   |(rw[D.xV _ _ h])
   |(rw[h.1.1,h.1.2,h.2])
   |(rw[h.1.1,PD.nB _ _ h.1.2,D.nB _ _ h.2])
theorem D.nB:∀(a b:List D),D.gV a b=true→a=b
 |[],[],_=>rfl
 |a::x,b::y,h=>by
  simp only[D.gV,bQ] at h;rw[D.xV a b h.1,D.nB x y h.2]
 |[],_::_,h=>by simp[D.gV] at h
 |_::_,[],h=>by simp[D.gV] at h
end
mutual
theorem PD.xW:∀a:PD,PD.gB a a=true
 | .slice s a=>by simp[PD.gB,PD.nC a]
 | .agg a=>by simp[PD.gB,PD.nC a]
 | .iface s a=>by simp[PD.gB,PD.xW a]
 | .bool _ | .int _ _ | .str _ | .iQ | .aI | .ot | .kA | .qI | .emp _=>by simp[PD.gB]
theorem PD.nC:∀a:List PD,PD.gV a a=true
 |[]=>rfl
 |a::x=>by simp[PD.gV,PD.xW a,PD.nC x]
end
mutual
theorem D.xW:∀a:D,D.gB a a=true
 | .p a=>by simp[D.gB,PD.xW a]
 | .cI e s a=>by simp[D.gB,PD.nC a]
 | .gK s a=>by simp[D.gB,PD.nC a]
 | .bk u e s a=>by simp[D.gB,PD.nC a]
 | .ro a o=>by simp[D.gB,PD.nC a]
 | .agg a=>by simp[D.gB,D.nC a]
 | .bA a=>by simp[D.gB,D.nC a]
 | .fn f a c=>by simp[D.gB,D.nC a,D.nC c]
 | .eE s a=>by simp[D.gB,D.xW a]
 | .fN a=>by simp[D.gB,D.xW a]
 | .bB k a x=>by simp[D.gB,PD.nC a,D.nC x]
 | .dead | .undef | .box _ _ | .eD _ _ | .bu _ _ _ _ _ | .ff _ | .iH | .fresh _ _ _ | .bU _ | .aB _ _ _ _=>by simp[D.gB]
theorem D.nC:∀a:List D,D.gV a a=true
 |[]=>rfl
 |a::x=>by simp[D.gV,D.xW a,D.nC x]
end
theorem P7:∀(a b:List (List D)),wb a b=true→a=b
 |[],[],_=>rfl
 |a::x,b::y,h=>by
  simp only[wb,bQ] at h;rw[D.nB a b h.1,P7 x y h.2]
 |[],_::_,h=>by simp[wb] at h
 |_::_,[],h=>by simp[wb] at h
theorem P8:∀a:List (List D),wb a a=true
 |[]=>rfl
 |a::x=>by simp[wb,D.nC a,P8 x]
theorem Y3{H H':Hp}(h:CY H H'=true):H'=H:=by
 obtain⟨a,b⟩:=H;obtain⟨c,d⟩:=H';simp only[CY,bQ,beq_iff_eq] at h;rw[P7 a c h.1,h.2]
@[simp] theorem amZ(H:Hp):CY H H=true:=by simp[CY,P8]
def rL:SK→Bool
 | .call _ _=>true
 |_=>false
def xX(env:Env)(H:Hp):SK→List Nat
 | .call f as=>match f.ev env with
  | .fn _ first cap=>reach H H.bx.length (ins [] (D.aD (first++as.map (·.ev env)++cap)))
  |_=>[]
 |_=>[]
def jO(env:Env)(H:Hp):SK→Option Nat
 | .call f as=>match f.ev env with
  | .fn _ first cap=>match reach H H.bx.length (ins [] (D.aD (first++as.map (·.ev env)++cap))),D.bz (first++as.map (·.ev env)++cap)++fX H (reach H H.bx.length (ins [] (D.aD (first++as.map (·.ev env)++cap)))) with
   |[i],[]=>some i
   |_,_=>none
  |_=>none
 |_=>none
def we:List Nat→Nat
 |[]=>0
 |i::r=>max (i+1) (we r)
def jP(env:Env)(H H':Hp)(k:SK):Nat×Nat:=if cls env k=0 then(if H'.bx.length=H.bx.length then(0,0) else if H'.bx.length=H.bx.length+1 then(4+2*H.bx.length,0) else(2,0)) else if rL k&&CY H H' then(match jO env H k with |some i=>(3+2*i,0) |none=>(1,0)) else if rL k&&decide (H'.bx.length=H.bx.length∧we (xX env H k)<2000000000) then(4+2*(2000000000+we (xX env H k)),0) else gN H.bx.length env k
def bq(c:Nat):Bool:=c==2||(decide (4≤c)&&c%2==0)
def nD(x i:Nat):Bool:=if i<2000000000 then x !=i else if i<4000000000 then decide (i-2000000000≤x)&&decide (x<2000000000) else decide (x≠(i-4000000000)/1000000)&&decide (x<(i-4000000000)%1000000)
def kC(a b:Nat):Bool:=decide (3≤a)&&a%2==1&&decide (4≤b)&&b%2==0&&nD ((a-3)/2) ((b-4)/2)
def pj(a b:Nat×Nat):Bool:=a.2 !=0&&b.2 !=0&&a.1==b.1&&a.2 !=b.2
def eP(a b:Nat×Nat):Bool:=(a.1 !=0&&b.1 !=0)&&(bq a.1||bq b.1)&& !(kC a.1 b.1||kC b.1 a.1)&& !pj a b
def qL:List (Nat×Nat)→Bool
 |[]=>true
 |c::r=>(c.2==0|| !r.contains c)&&qL r
def gW(dm:bC)(G:Nat→Option (List PD)):List SO→Env→Hp→Option (Env×Hp×List (Nat×Nat))
 |[],env,H=>some (env,H,[])
 |o::r,env,H=>match fF env o.g with
  |some true=>match cF dm G env H o.k with
   |some (.val d,H')=>
    match gW dm G r (put o.dst d env) H' with
    |some (e,h,cs)=>some (e,h,jP env H H' o.k::cs)
    |none=>none
   |_=>none
  |some false=>match gW dm G r (put o.dst .undef env) H with
   |some (e,h,cs)=>some (e,h,(0,0)::cs)
   |none=>none
  |none=>none
def aw.slots:aw→List Nat
 | .t i=>[i]
 | .c _=>[]
def wg:Option aw→List Nat
 |some x=>x.slots
 |none=>[]
def SK.slots:SK→List Nat
 | .move x | .box x | .load _ x | .nilCheck x | .un _ x | .faddr x _ | .field x _ _ | .extract x _ | .len _ x | .conv _ x | .strid x | .toBytes _ x | .toStr x | .iface _ x | .sdata x | .boxB _ x | .cap x | .tassert _ _ _ x | .panic x=>x.slots
 | .pick c a b=>c.slots++a.slots++b.slots
 | .alloc _ | .xT _ _ | .stuck | .vY _=>[]
 | .mapset _ m k v | .mapins _ m k v=>m.slots++k.slots++v.slots
 | .mapget _ _ _ m k=>m.slots++k.slots
 | .build _ ps | .bsliceG _ _ _ _ ps=>ps.flatMap fun p=>p.2.2.slots
 | .slice3 _ x lo hi mx=>x.slots++wg lo++hi.slots++mx.slots
 | .bslice _ _ _ _ ps=>ps.flatMap fun p=>p.2.slots
 | .store _ a v=>a.slots++v.slots
 | .bin _ x y | .eqk _ _ x y | .eqs _ _ x y | .iaddr _ _ x y | .index _ x y | .append _ _ _ x y | .minmax _ x y | .makesl _ _ _ x y | .appendm _ _ _ x y | .appendg _ _ _ x y | .ustr _ x y | .copy _ x y=>x.slots++y.slots
 | .mkfn _ f c=>f.flatMap aw.slots++c.flatMap aw.slots
 | .slice _ x lo hi | .slarr _ _ x lo hi=>x.slots++wg lo++wg hi
 | .call f as=>f.slots++as.flatMap aw.slots
def SK.fw:SK→Bool
 | .load _ _ | .alloc _ | .box _ | .store _ _ _ | .append _ _ _ _ _ | .toBytes _ _ | .call _ _ | .appendm _ _ _ _ _ | .appendg _ _ _ _ _ | .makesl _ _ _ _ _ | .bsliceG _ _ _ _ _ | .xT _ _ | .boxB _ _ | .toStr _ | .copy _ _ _ | .sdata _ | .ustr _ _ _ | .vY _ | .mapset _ _ _ _ | .mapins _ _ _ _ | .mapget _ _ _ _ _ | .panic _=>false
 |_=>true
def SO.uses(s:SO):List Nat:=s.k.slots++(match s.g with |some (t,_)=>[t] |none=>[])
def behind(ax:List (Nat×Nat))(k i:Nat)(dead:List Nat)(o:SO):Bool:=o.uses.any dead.contains||(!o.k.fw&& !ax.contains (k,i))
def ox(dm:bC)(G:Nat→Option (List PD))(ax:List (Nat×Nat))(k:Nat):Nat→List Nat→List SO→Env→Hp→Option (List (Nat×Nat))
 |_,_,[],_,_=>some []
 |i,dead,o::r,env,H=>
  if behind ax k i dead o then(ox dm G ax k (i+1) (o.dst.toList++dead) r (put o.dst .undef env) H).map ((0,0):: ·)
  else match fF env o.g with
  |some true=>match cF dm G env H o.k with
   |some (.val d,H')=>if bq (jP env H H' o.k).1 then none else(ox dm G ax k (i+1) dead r (put o.dst d env) H').map (jP env H H' o.k:: ·)
   |_=>none
  |some false=>(ox dm G ax k (i+1) dead r (put o.dst .undef env) H).map ((0,0):: ·)
  |none=>none
def jo(dm:bC)(G:Nat→Option (List PD))(ax:List (Nat×Nat)):Nat→List SO→Env→Hp→Option (D×Hp×List (Nat×Nat)×Nat)
 |_,[],_,_=>none
 |i,o::r,env,H=>match fF env o.g with
  |some true=>match cF dm G env H o.k with
   |some (.val d,H')=>(jo dm G ax (i+1) r (put o.dst d env) H').map fun x=>(x.1,x.2.1,jP env H H' o.k::x.2.2.1,x.2.2.2)
   |some (.bR d,H')=>(ox dm G ax i (i+1) o.dst.toList r (put o.dst .undef env) H).map fun cs=>(d,H',(0,0)::cs,i)
   |none=>none
  |some false=>(jo dm G ax (i+1) r (put o.dst .undef env) H).map fun x=>(x.1,x.2.1,(0,0)::x.2.2.1,x.2.2.2)
  |none=>none
def um(ax:List (Nat×Nat))(cs:List (Nat×Nat)):Bool:=ax.all (fun p=>!eP (cs.getD p.1 (0,0)) (cs.getD p.2 (0,0)))&&qL cs
def Gb(ax:List (Nat×Nat))(cs:List (Nat×Nat))(k:Nat):Bool:=ax.all fun p=>decide (p.1<1000000)&&(p.2 !=k|| !bq (cs.getD p.1 (0,0)).1)
def xY(ops:List SO)(env:Env):Env:=env.filter fun y=>!ops.any fun o=>o.dst==some y.1
inductive Out where
 |norm
 |exit (id:Nat)
 |ret
 |bR (d:D)
def qa(e sz:Nat)(d:D)(H:Hp):Option (D×Hp):=
 match d with
 | .p .aI=>some (.bk H.tk.length e sz [],{H with tk:=H.tk++[0]})
 | .cI e' bF es=>if e'=e∧bF=sz∧es.length≤140737488355328 then some (.bk H.tk.length e sz es,{H with tk:=H.tk++[es.length]}) else none
 | .bk t e' bF es=>if e'=e∧bF=sz then some (.bk t e sz es,H) else none
 |_=>none
def Gc(slot off e sz:Nat)(s:St):Option St:=
 match s.env.get slot with
 | .box i o=>match s.hp.bx[i]? with
  |some cs=>if aU cs then some s else match cs[o+off]? with
   |some d=>match qa e sz d s.hp with
    |some (d',H)=>some ⟨s.env,{H with bx:=H.bx.set i (cs.set (o+off) d')}⟩
    |none=>some s
   |none=>none
  |none=>none
 |_=>some s
def iter(body:St→Option (Out×St)):Nat→St→Option (Out×St)
 | 0,_=>none
 |m+1,s=>match body s with
  |some (.norm,s')=>iter body m s'
  |r=>r
def Out.ren(bi ti:Nat→Option Nat):Out→Option Out
 | .bR d=>(d.ren bi ti).map .bR
 |o=>some o
def below(n i:Nat):Option Nat:=if i<n then some i else none
def dJ(nb nt:Nat)(x:Out×St):Out×St:=
 if nb≤x.2.hp.bx.length∧nt≤x.2.hp.tk.length then
  match aP (D.ba (below nb) (below nt)) (x.2.hp.bx.take nb),x.1.ren (below nb) (below nt) with
  |some bx,some o=>(o,⟨x.2.env.map fun y=>(y.1,(y.2.ren (below nb) (below nt)).getD .dead),⟨bx,x.2.hp.tk.take nt⟩⟩)
  |_,_=>x
 else x
def D.aH(k:Nat)(H:Hp):Nat→D→D
 | 0,d=>d
 |f+1,d=>match d with
  | .bu i off n c sz=>if k≤i then(match H.bx[i]? with
   |some cs=>if aU cs=false∧off+n*sz≤cs.length∧0<sz then(match D.jn ((sub cs off (off+n*sz)).map (D.aH k H f)) with
    |some ps=>.p (.slice sz (chunks sz n ps))
    |none=>.bu i off n c sz) else .bu i off n c sz
   |none=>.bu i off n c sz) else .bu i off n c sz
  | .aB i e n sz=>if k≤i then(match H.bx[i]? with
   |some cs=>if aU cs=false∧0+n*sz≤cs.length∧0<sz then(match D.jn ((sub cs 0 (0+n*sz)).map (D.aH k H f)) with
    |some ps=>.p (.slice sz (chunks sz n ps))
    |none=>.aB i e n sz) else .aB i e n sz
   |none=>.aB i e n sz) else .aB i e n sz
  | .box i off=>if k≤i then(match H.bx[i]? with
   |some cs=>if aU cs then .box i off else(match D.jn (cs.map (D.aH k H f)) with |some ps=>.ro ps off |none=>.box i off)
   |none=>.box i off) else .box i off
  | .agg cs=>ec (cs.map (D.aH k H f))
  | .bA cs=>.bA (cs.map (D.aH k H f))
  | .fn g a c=>.fn g (a.map (D.aH k H f)) (c.map (D.aH k H f))
  | .eE t d=>match D.aH k H f d with
   | .p y=>.p (.iface t y)
   |d'=>.eE t d'
  | .cI _ sz es=>.p (match es with |[]=>.emp sz |_::_=>.slice sz es)
  |d=>d
def pk(k:Nat)(H:Hp)(cs:List D):List D:=if(D.aD cs).all (fun i=>decide (i<k)) then cs else cs.map (D.aH k H 8)
def bt.aH(k:Nat)(H:Hp):bt→bt
 | .val d=>.val (d.aH k H 8)
 | .bR d=>.bR (d.aH k H 8)
def Out.aH(k:Nat)(H:Hp):Out→Out
 | .bR d=>.bR (d.aH k H 8)
 |o=>o
def wh(nb:Nat)(x:Out×St):Out×St:=
 match aP (fun cs=>D.ba (below nb) some (pk nb x.2.hp cs)) (x.2.hp.bx.take nb),(x.1.aH nb x.2.hp).ren (below nb) some with
 |some bx,some o=>if nb≤x.2.hp.bx.length then(o,⟨x.2.env.map fun y=>(y.1,((y.2.aH nb x.2.hp 8).ren (below nb) some).getD .dead),⟨bx,x.2.hp.tk⟩⟩) else x
 |_,_=>x
abbrev It:=(St→Option (Out×St))→St→Option (Out×St)
def CZ(f:Nat)(gen:List D→List D→Hp→Option (List (List D)))(g:D)(H:Hp):Option (List (List D)):=
 match g with
 | .fn f' fi cap=>if f'=f then gen fi cap H else none
 |_=>none
def oy(g:D)(H:Hp):List Nat:=
 match g with
 | .fn _ fi cap=>reach H H.bx.length (ins [] (D.aD (fi++cap)))
 |_=>[]
def P9(a b:Option (List D)):Bool:=
 match a,b with
 |some a,some b=>D.gV a b
 |none,none=>true
 |_,_=>false
def Gd(ids:List Nat)(H H':Hp):Bool:=ids.all fun i=>P9 H.bx[i]? H'.bx[i]?
theorem Y4{a b:Option (List D)}(h:P9 a b=true):b=a:=by
 cases a<;>cases b<;>first |rfl |(cases h;done) |skip
 rw[D.nB _ _ h]
def mN(env:Env):List Nat→List D→Env
 |p::ps,x::xs=>mN ((p,x)::env) ps xs
 |_,_=>env
def kV(ea eb:St→Option (Out×St))(env:Env)(ps:List Nat)(kb:Hp→Bool):List (List D)→Hp→Option (Out×St)
 |[],H=>some (.norm,⟨env,H⟩)
 |x::xs,H=>if x.length≠ps.length then none else match ea ⟨mN env ps x,H⟩ with
  |some (.norm,s1)=>match eb s1 with
   |some (.norm,s2)=>if kb s2.hp then kV ea eb env ps kb xs s2.hp else none
   |some (o,s2)=>some (o,⟨env,s2.hp⟩)
   |none=>none
  |_=>none
def ay(dm:bC)(G:Nat→Option (List PD))(it:It):SC→St→Option (Out×St)
 | .skip,s=>some (.norm,s)
 | .region keep ops,s=>match kc dm G ops s.env s.hp with
  |some (.ok env H)=>some (.norm,⟨env.keep keep,H⟩)
  |some (.bR d env H)=>some (.bR d,⟨env,H⟩)
  |none=>none
 | .draw keep ax ops,s=>match gW dm G ops s.env s.hp with
  |some (env,H,cs)=>if ax.all (fun p=>!eP (cs.getD p.1 (0,0)) (cs.getD p.2 (0,0)))&&qL cs then some (.norm,⟨env.keep keep,H⟩) else none
  |none=>match jo dm G ax 0 ops s.env s.hp with
   |some (d,H,cs,k)=>if um ax cs&&Gb ax cs k then some (.bR d,⟨xY ops s.env,H⟩) else none
   |none=>none
 | .seq a b,s=>match ay dm G it a s with
  |some (.norm,s')=>ay dm G it b s'
  |r=>r
 | .cond c a b,s=>match c.ev s.env with
  | .p (.bool t)=>if t then ay dm G it a s else ay dm G it b s
  |_=>none
 | .block id b,s=>match ay dm G it b s with
  |some (.exit i,s')=>if i=id then some (.norm,s') else some (.exit i,s')
  |r=>r
 | .loop keep b,s=>it (fun s=>ay dm G it b ⟨s.env.keep keep,s.hp⟩) s
 | .tok slot e sz,s=>match qa e sz (s.env.get slot) s.hp with
  |some (d,H)=>some (.norm,⟨(slot,d)::s.env,H⟩)
  |none=>none
 | .tokb slot off e sz,s=>(Gc slot off e sz s).map fun s'=>(.norm,s')
 | .stuck,_=>none
 | .scope b,s=>ay dm G it b s
 | .loc b,s=>(ay dm G it b s).map (dJ s.hp.bx.length s.hp.tk.length)
 | .mI b,s=>(ay dm G it b s).map fun x=>dJ s.hp.bx.length s.hp.tk.length (wh s.hp.bx.length x)
 | .mJ f gen g ps ft b,s=>match CZ f gen (g.ev s.env) s.hp with
  |some xs=>kV (ay dm G it ft) (ay dm G it b) s.env ps (Gd (oy (g.ev s.env) s.hp) s.hp) xs s.hp
  |none=>none
 | .exit id,s=>some (.exit id,s)
 | .ret,s=>some (.ret,s)
structure Pg where
 F:Nat→Option FC
 G:Nat→Option (List PD)
 lib:bC
 D:Nat→Option (Nat×FC):=fun _=>none
def entry:Nat→List D→Env
 |_,[]=>[]
 |i,a::r=>(i,a)::entry (i+1) r
def qM(G:Nat→Option (List PD))(env:Env)(H:Hp):ou→Option D
 | .t i=>some (env.get i)
 | .cell i n=>ph G H n (env.get i)
def lX(G:Nat→Option (List PD))(env:Env)(H:Hp):List ou→Option D
 |[]=>some .undef
 |[r]=>qM G env H r
 |rs=>(aP (qM G env H) rs).map .bA
def finish(G:Nat→Option (List PD))(res:List ou):Option (Out×St)→Option (bt×Hp)
 |some (.norm,s) |some (.ret,s)=>match lX G s.env s.hp res with
  |some d=>some (.val d,s.hp)
  |none=>none
 |some (.bR d,s)=>some (.bR d,s.hp)
 |_=>none
def rM(nb:Nat)(x:bt×Hp):bt×Hp:=
 match aP (fun cs=>D.ba (below nb) some (pk nb x.2 cs)) (x.2.bx.take nb),(x.1.aH nb x.2).ren (below nb) some with
 |some bx,some r=>if nb≤x.2.bx.length then(r,⟨bx,x.2.tk⟩) else x
 |_,_=>x
def mO(aH:Bool)(nb:Nat)(x:Option (bt×Hp)):Option (bt×Hp):=if aH then x.map (rM nb) else x
def pn(dm:bC)(G:Nat→Option (List PD))(it:It):List SC→St→Option (Out×St)
 |[],s=>some (.norm,s)
 |a::r,s=>match ay dm G it a s with
  |some (.norm,s')=>pn dm G it r s'
  |x=>x
def uo(dm:bC)(T:Nat→Option (Nat×FC))(G:Nat→Option (List PD))(it:It):bC:=fun f args H=>
 match T f,args with
 |some (dst,fc),rv::as=>if as.length=fc.np∧fc.plain=true then(match finish G fc.res (ay dm G it fc.body ⟨(dst,rv)::entry 0 as,H⟩) with
  |some (.val d,H')=>some (.val d,H')
  |_=>none) else none
 |_,_=>none
def qN(dm:bC)(T:Nat→Option (Nat×FC))(G:Nat→Option (List PD))(it:It)(res:List ou)(fv:D)(as:List D)(rv:D)(s:St):Option (bt×Hp):=
 match fv with
 | .fn g first cap=>match av (uo dm T G it) g (rv::(first++as++cap)) s.hp with
  |some (.val _,H)=>finish G res (some (.ret,⟨s.env,H⟩))
  |_=>none
 |_=>none
def iT(dm:bC)(T:Nat→Option (Nat×FC))(G:Nat→Option (List PD))(it:It)(fc:FC)(s:St):Option (bt×Hp):=
 match fc.iu with
 |none=>finish G fc.res (ay dm G it fc.body s)
 |some x=>match pn dm G it x.pre s with
  |some (.norm,s1)=>match kc dm G x.ops s1.env s1.hp with
   |some (.ok env H)=>match ay dm G it fc.body ⟨env.keep x.keep,H⟩ with
    |some (.norm,s2) |some (.ret,s2)=>qN dm T G it fc.res (x.f.ev env) (x.as.map (·.ev env)) (.p .kA) s2
    |some (.bR d,s2)=>qN dm T G it fc.res (x.f.ev env) (x.as.map (·.ev env)) d s2
    |_=>none
   |some (.bR d _ H)=>some (.bR d,H)
   |none=>none
  |r=>finish G fc.res r
def fG(p:Pg):Nat→bC
 | 0=>fun _ _ _=>none
 |n+1=>fun f args H=>match p.lib f args H with
  |some r=>some r
  |none=>match p.F f with
   |some fc=>if args.length=fc.np then mO fc.aH H.bx.length (iT (fG p n) p.D p.G (fun b s=>iter b n s) fc ⟨entry 0 args,H⟩) else none
   |none=>none
def bC.le(c c':bC):Prop:=∀f a H r,c f a H=some r→c' f a H=some r
section
variable {c c' : bC} (h : bC.le c c')
include h
theorem Qa{f:Nat}{a:List D}{H:Hp}{r:bt×Hp}(e:av c f a H=some r):av c' f a H=some r:=by
 unfold av at e⊢;dsimp only at e⊢;split at e
 ·rename_i hn
  (try rw[if_pos hn])
  split at e
  ·rename_i as bx tk h1 h2 h3
   try rw[h1,h2,h3]
   try dsimp only
   split at e
   ·rename_i r' H' hc;rw[h _ _ _ _ hc];exact e
   ·cases e
  ·cases e
 ·cases e
theorem Y5{f:D}{a:List D}{H:Hp}{r:bt×Hp}(e:p9 c f a H=some r):p9 c' f a H=some r:=by
 unfold p9 at e⊢;split at e
 ·exact Qa h e
 ·cases e
theorem rN{G:Nat→Option (List PD)}{env:Env}{H:Hp}{k:SK}{r:bt×Hp}(e:cF c G env H k=some r):cF c' G env H k=some r:=by
 unfold cF at e⊢;split at e
 ·exact Y5 h e
 ·exact e
 ·exact e
theorem ur{G:Nat→Option (List PD)}:∀(ops:List SO) (env:Env) (H:Hp) (r:RO),kc c G ops env H=some r→kc c' G ops env H=some r
 |[],env,H,r,e=>e
 |o::ops,env,H,r,e=>by
  unfold kc at e⊢;split at e
  ·rename_i hg
   try rw[hg]
   try dsimp only
   split at e
   ·rename_i hk;rw[rN h hk];exact ur ops _ _ _ e
   ·rename_i hk;rw[rN h hk];exact e
   ·cases e
  ·rename_i hg
   try rw[hg]
   exact ur ops _ _ _ e
  ·cases e
theorem Ge{G:Nat→Option (List PD)}:∀(ops:List SO) (env:Env) (H:Hp) (r:Env×Hp×List (Nat×Nat)),gW c G ops env H=some r→gW c' G ops env H=some r
 |[],env,H,r,e=>e
 |o::ops,env,H,r,e=>by
  unfold gW at e⊢;split at e
  ·rename_i hg
   try rw[hg]
   try dsimp only
   split at e
   ·rename_i hk;rw[rN h hk]
    try dsimp only
    split at e
    ·rename_i hr;rw[Ge ops _ _ _ hr];exact e
    ·cases e
   ·cases e
  ·rename_i hg
   try rw[hg]
   try dsimp only
   split at e
   ·rename_i hr;rw[Ge ops _ _ _ hr];exact e
   ·cases e
  ·cases e
theorem An{G:Nat→Option (List PD)}{ax:List (Nat×Nat)}{k:Nat}:∀(ops:List SO) (i:Nat) (dead:List Nat) (env:Env) (H:Hp) (r:List (Nat×Nat)),ox c G ax k i dead ops env H=some r→ox c' G ax k i dead ops env H=some r
 |[],i,dead,env,H,r,e=>e
 |o::ops,i,dead,env,H,r,e=>by
  simp only[ox] at e⊢;split at e
  ·rename_i hb;rw[if_pos hb];obtain⟨x,hx,rfl⟩:=au.1 e;rw[An ops _ _ _ _ _ hx];rfl
  ·rename_i hb;rw[if_neg hb];split at e
   ·rename_i hg;split at e
    ·rename_i d H' hk;rw[rN h hk];dsimp only;split at e
     ·cases e
     ·rename_i hw;rw[if_neg hw];obtain⟨x,hx,rfl⟩:=au.1 e;rw[An ops _ _ _ _ _ hx];rfl
    ·cases e
   ·rename_i hg;obtain⟨x,hx,rfl⟩:=au.1 e;rw[An ops _ _ _ _ _ hx];rfl
   ·cases e
theorem Gf{G:Nat→Option (List PD)}{ax:List (Nat×Nat)}:∀(ops:List SO) (i:Nat) (env:Env) (H:Hp) (r:D×Hp×List (Nat×Nat)×Nat),jo c G ax i ops env H=some r→jo c' G ax i ops env H=some r
 |[],i,env,H,r,e=>e
 |o::ops,i,env,H,r,e=>by
  simp only[jo] at e⊢;split at e
  ·rename_i hg;split at e
   ·rename_i d H' hk;rw[rN h hk];dsimp only;obtain⟨x,hx,rfl⟩:=au.1 e;rw[Gf ops _ _ _ _ hx];rfl
   ·rename_i d H' hk;rw[rN h hk];dsimp only;obtain⟨x,hx,rfl⟩:=au.1 e;rw[An h ops _ _ _ _ _ hx];rfl
   ·cases e
  ·rename_i hg;obtain⟨x,hx,rfl⟩:=au.1 e;rw[Gf ops _ _ _ _ hx];rfl
  ·cases e
end
theorem Gg{c:bC}{G:Nat→Option (List PD)}{ax:List (Nat×Nat)}:∀(ops:List SO) (i:Nat) (env:Env) (H:Hp) (r:D×Hp×List (Nat×Nat)×Nat),jo c G ax i ops env H=some r→gW c G ops env H=none
 |[],i,env,H,r,e=>by cases e
 |o::ops,i,env,H,r,e=>by
  simp only[jo] at e;simp only[gW];split at e
  ·rename_i hg;split at e
   ·rename_i d H' hk;rw[hk];obtain⟨x,hx,rfl⟩:=au.1 e;dsimp only;rw[Gg ops _ _ _ _ hx]
   ·rename_i d H' hk;rw[hk]
   ·cases e
  ·rename_i hg;obtain⟨x,hx,rfl⟩:=au.1 e;rw[Gg ops _ _ _ _ hx]
  ·cases e
def It.le(i i':It):Prop:=∀b b',(∀s r,b s=some r→b' s=some r)→∀s r,i b s=some r→i' b' s=some r
theorem uu{m m':Nat}(hm:m≤m'):It.le (fun b s=>iter b m s) (fun b s=>iter b m' s):=by
 intro b b' hb
 induction m generalizing m' with
 |zero=>intro s r e;cases e
 |succ m ih=>
  intro s r e;obtain⟨k,rfl⟩:∃k,m'=k+1:=⟨m'-1,by omega⟩;simp only[iter] at e⊢;split at e
  ·rename_i s' hs;rw[hb _ _ hs];exact ih (by omega) _ _ e
  ·rename_i hs;cases eg:b s with
   |none=>rw[eg] at e;cases e
   |some x=>
    rw[hb _ _ eg];rw[eg] at e;obtain⟨o,s'⟩:=x;cases o with
    |norm=>exact(hs _ eg).elim
    |exit i=>exact e
    |ret=>exact e
    |bR d=>exact e
theorem Ks{ea eb Qb Qc:St→Option (Out×St)}(ha:∀s r,ea s=some r→Qb s=some r)(hb:∀s r,eb s=some r→Qc s=some r){env:Env}{ps:List Nat}{kb:Hp→Bool}:
    ∀(xs:List (List D)) (H:Hp) (r:Out×St),kV ea eb env ps kb xs H=some r→kV Qb Qc env ps kb xs H=some r
 |[],H,r,e=>e
 |x::xs,H,r,e=>by
  simp only[kV] at e⊢;split at e
  ·cases e
  rename_i hl;rw[if_neg hl];split at e
  ·rename_i s1 h1;rw[ha _ _ h1];dsimp only;split at e
   ·rename_i s2 h2;rw[hb _ _ h2];dsimp only;split at e
    ·rename_i hk;rw[if_pos hk];exact Ks ha hb xs _ _ e
    ·cases e
   ·rename_i o s2 hn h2;rw[hb _ _ h2];cases o with
    |norm=>exact(hn rfl).elim
    |_=>exact e
   ·cases e
  ·cases e
theorem kW{c c':bC}(h:bC.le c c'){i i':It}(hi:It.le i i'){G:Nat→Option (List PD)}:
    ∀(sc:SC) (s:St) (r:Out×St),ay c G i sc s=some r→ay c' G i' sc s=some r
 | .skip,s,r,e=>e
 | .exit _,s,r,e=>e
 | .ret,s,r,e=>e
 | .tok ..,s,r,e=>e
 | .tokb ..,s,r,e=>e
 | .stuck,s,r,e=>e
 | .scope b,s,r,e=>kW h hi b s r e
 | .loc b,s,r,e=>by
  unfold ay at e⊢;obtain⟨x,hx,rfl⟩:=au.1 e;rw[kW h hi b s x hx];rfl
 | .mI b,s,r,e=>by
  unfold ay at e⊢;obtain⟨x,hx,rfl⟩:=au.1 e;rw[kW h hi b s x hx];rfl
 | .region keep ops,s,r,e=>by
  unfold ay at e⊢;split at e
  ·rename_i he;rw[ur h _ _ _ _ he];exact e
  ·rename_i he;rw[ur h _ _ _ _ he];exact e
  ·cases e
 | .draw keep ax ops,s,r,e=>by
  simp only[ay] at e⊢;split at e
  ·rename_i he;rw[Ge h _ _ _ _ he];exact e
  ·rename_i he;split at e
   ·rename_i hp;have xZ:=Gf h _ _ _ _ _ hp;rw[Gg _ _ _ _ _ xZ,xZ];exact e
   ·cases e
 | .seq a b,s,r,e=>by
  unfold ay at e⊢;split at e
  ·rename_i he;rw[kW h hi a _ _ he];exact kW h hi b _ _ e
  ·rename_i hn;rw[kW h hi a _ _ e];obtain⟨o,s'⟩:=r;cases o with
   |norm=>exact(hn _ e).elim
   |_=>rfl
 | .cond cc a b,s,r,e=>by
  unfold ay at e⊢;split at e
  ·rename_i t ht
   try rw[ht]
   try dsimp only
   cases t with
   |true=>exact kW h hi a _ _ e
   |false=>exact kW h hi b _ _ e
  ·cases e
 | .block id b,s,r,e=>by
  unfold ay at e⊢;split at e
  ·rename_i he;rw[kW h hi b _ _ he];exact e
  ·rename_i hn;rw[kW h hi b _ _ e];obtain⟨o,s'⟩:=r;cases o with
   |exit i=>exact(hn _ _ e).elim
   |_=>rfl
 | .loop keep b,s,r,e=>by
  unfold ay at e⊢;exact hi _ _ (fun s r e=>kW h hi b _ _ e) _ _ e
 | .mJ f gen g ps ft b,s,r,e=>by
  unfold ay at e⊢;split at e
  ·exact Ks (fun s r e=>kW h hi ft s r e) (fun s r e=>kW h hi b s r e) _ _ _ e
  ·cases e
section
variable {c c' : bC} (h : bC.le c c') {i i' : It} (hi : It.le i i') {G : Nat → Option (List PD)} {T : Nat → Option (Nat × FC)}
include h hi
theorem Ao:∀(l:List SC) (s:St) (r:Out×St),pn c G i l s=some r→pn c' G i' l s=some r
 |[],s,r,e=>e
 |a::l,s,r,e=>by
  simp only[pn] at e⊢;split at e
  ·rename_i he;rw[kW h hi a _ _ he];exact Ao l _ _ e
  ·rename_i hn;rw[kW h hi a _ _ e];obtain⟨o,s'⟩:=r;cases o with
   |norm=>exact(hn _ e).elim
   |_=>rfl
theorem Qd{res:List ou}{b:SC}{s:St}{r:bt×Hp}(e:finish G res (ay c G i b s)=some r):finish G res (ay c' G i' b s)=some r:=by
 cases he:ay c G i b s with
 |none=>rw[he] at e;cases e
 |some x=>rw[kW h hi _ _ _ he,←he];exact e
theorem Y6:bC.le (uo c T G i) (uo c' T G i'):=by
 intro f a H r e;unfold uo at e⊢;split at e
 ·split at e
  ·rename_i hl;rw[if_pos hl];split at e
   ·rename_i hf;rw[Qd h hi hf];exact e
   ·cases e
  ·cases e
 ·cases e
theorem Gi{res:List ou}{fv:D}{as:List D}{rv:D}{s:St}{r:bt×Hp}(e:qN c T G i res fv as rv s=some r):qN c' T G i' res fv as rv s=some r:=by
 unfold qN at e⊢;split at e
 ·split at e
  ·rename_i hc
   try dsimp only
   rw[Qa (Y6 h hi) hc];exact e
  ·cases e
 ·cases e
theorem Y7{fc:FC}{s:St}{r:bt×Hp}(e:iT c T G i fc s=some r):iT c' T G i' fc s=some r:=by
 unfold iT at e⊢;split at e
 ·exact Qd h hi e
 ·rename_i x hx;split at e
  ·rename_i hs
   try dsimp only
   rw[Ao h hi _ _ _ hs]
   try dsimp only
   split at e
   ·rename_i ho;rw[ur h _ _ _ _ ho]
    try dsimp only
    split at e
    ·rename_i hb;rw[kW h hi _ _ _ hb];exact Gi h hi e
    ·rename_i hb;rw[kW h hi _ _ _ hb];exact Gi h hi e
    ·rename_i hb;rw[kW h hi _ _ _ hb];exact Gi h hi e
    ·cases e
   ·rename_i ho;rw[ur h _ _ _ _ ho];exact e
   ·cases e
  ·rename_i hn
   try dsimp only
   cases hs:pn c G i x.pre s with
   |none=>rw[hs] at e;cases e
   |some y=>
    rw[Ao h hi _ _ _ hs];rw[hs] at e;obtain⟨o,s'⟩:=y;cases o with
    |norm=>exact(hn _ hs).elim
    |_=>exact e
end
theorem Qe(p:Pg):∀n,bC.le (fG p n) (fG p (n+1))
 | 0=>fun _ _ _ _ e=>by cases e
 |n+1=>fun f a H r e=>by
  have ih:=Qe p n;unfold fG at e⊢
  try dsimp only at e⊢
  split at e
  ·rename_i hl;(try rw[hl]);exact e
  ·rename_i hl
   try rw[hl]
   try dsimp only
   split at e
   ·rename_i fc hf
    try rw[hf]
    try dsimp only
    split at e
    ·rename_i hlen
     (try rw[if_pos hlen])
     cases he:iT (fG p n) p.D p.G (fun b s=>iter b n s) fc ⟨entry 0 a,H⟩ with
     |none=>rw[he] at e;unfold mO at e;split at e<;>cases e
     |some x=>rw[Y7 ih (uu (amq n)) he,←he];exact e
    ·cases e
   ·cases e
theorem lF(p:Pg){n m:Nat}(h:n≤m):bC.le (fG p n) (fG p m):=by
 induction h with
 |refl=>exact fun _ _ _ _ e=>e
 |step _ ih=>exact fun f a H r e=>Qe p _ _ _ _ _ (ih f a H r e)
open Classical in
noncomputable def call (p:Pg):bC:=fun f a H=>
 if h:∃r n,fG p n f a H=some r then some h.choose else none
theorem x5{p:Pg}{f:Nat}{a:List D}{H:Hp}{r:bt×Hp}:call p f a H=some r↔∃n,fG p n f a H=some r:=by
 unfold call;constructor
 ·intro e;split at e
  ·rename_i h;obtain⟨n,hn⟩:=h.choose_spec;cases e;exact⟨n,hn⟩
  ·cases e
 ·rintro⟨n,hn⟩;have h:∃r n,fG p n f a H=some r:=⟨r,n,hn⟩;rw[dif_pos h];obtain⟨m,hm⟩:=h.choose_spec;have h1:=lF p (pX n m) _ _ _ _ hn;have h2:=lF p (mE n m) _ _ _ _ hm;rw[h1] at h2;exact h2.symm
open Classical in
noncomputable def bf:It:=fun b s=>if h:∃r m,iter b m s=some r then some h.choose else none
theorem sY{b:St→Option (Out×St)}{s:St}{r:Out×St}:bf b s=some r↔∃m,iter b m s=some r:=by
 unfold bf;constructor
 ·intro e;split at e
  ·rename_i h;obtain⟨n,hn⟩:=h.choose_spec;cases e;exact⟨n,hn⟩
  ·cases e
 ·rintro⟨n,hn⟩;have h:∃r n,iter b n s=some r:=⟨r,n,hn⟩;rw[dif_pos h];obtain⟨m,hm⟩:=h.choose_spec;have h1:=uu (pX n m) b b (fun _ _ e=>e) _ _ hn;have h2:=uu (mE n m) b b (fun _ _ e=>e) _ _ hm;dsimp only at h1 h2;rw[h1] at h2;exact h2.symm
theorem Y8{b:St→Option (Out×St)}{s s':St}(h:b s=some (.norm,s')):bf b s=bf b s':=by
 cases hx:bf b s' with
 |some r=>
  obtain⟨m,hm⟩:=sY.1 hx;exact sY.2 ⟨m+1,by simp only[iter,h];exact hm⟩
 |none=>
  cases hy:bf b s with
  |none=>rfl
  |some r=>
   obtain⟨m,hm⟩:=sY.1 hy;cases m with
   |zero=>cases hm
   |succ m=>
    simp only[iter,h] at hm;rw[sY.2 ⟨m,hm⟩] at hx;cases hx
theorem Y9{b:St→Option (Out×St)}{s s':St}{o:Out}(h:b s=some (o,s'))(ho:o≠.norm):bf b s=some (o,s'):=
 sY.2 ⟨1,by
  simp only[iter,h];split
  ·rename_i hh;cases hh;exact(ho rfl).elim
  ·rfl⟩
section
variable {p : Pg} {G : Nat → Option (List PD)}
theorem Ap{env:Env}{H:Hp}{k:SK}{r:bt×Hp}(e:cF (call p) G env H k=some r):∃n,cF (fG p n) G env H k=some r:=by
 unfold cF at e⊢;split at e
 ·rename_i f args;unfold p9 at e⊢;split at e
  ·rename_i g first cap hf
   unfold av at e⊢;dsimp only at e⊢;split at e
   ·rename_i hn;split at e
    ·rename_i as bx tk h1 h2 h3;split at e
     ·rename_i r' H' hc;obtain⟨n,cO⟩:=x5.1 hc;refine⟨n,?_⟩
      (try rw[if_pos hn,h1,h2,h3])
      try dsimp only
      rw[cO]
      first |exact e |(rw[if_pos hn];exact e)
     ·cases e
    ·cases e
   ·cases e
  ·cases e
 ·exact⟨0,e⟩
 ·exact⟨0,e⟩
theorem Aq:∀(ops:List SO) (env:Env) (H:Hp) (r:RO),kc (call p) G ops env H=some r→∃n,kc (fG p n) G ops env H=some r
 |[],env,H,r,e=>⟨0,e⟩
 |o::ops,env,H,r,e=>by
  unfold kc at e;split at e
  ·rename_i hg;split at e
   ·rename_i hk;obtain⟨n,hn⟩:=Ap hk;obtain⟨m,hm⟩:=Aq ops _ _ _ e;refine⟨max n m,?_⟩;unfold kc
    try rw[hg]
    try dsimp only
    rw[rN (lF p (pX n m)) hn];exact ur (lF p (mE n m)) _ _ _ _ hm
   ·rename_i hk;obtain⟨n,hn⟩:=Ap hk;refine⟨n,?_⟩;unfold kc
    try rw[hg]
    try dsimp only
    rw[hn];exact e
   ·cases e
  ·rename_i hg;obtain⟨m,hm⟩:=Aq ops _ _ _ e;refine⟨m,?_⟩;unfold kc
   try rw[hg]
   exact hm
  ·cases e
theorem Kt:∀(ops:List SO) (env:Env) (H:Hp) (r:Env×Hp×List (Nat×Nat)),gW (call p) G ops env H=some r→∃n,gW (fG p n) G ops env H=some r
 |[],env,H,r,e=>⟨0,e⟩
 |o::ops,env,H,r,e=>by
  unfold gW at e;split at e
  ·rename_i hg;split at e
   ·rename_i hk;split at e
    ·rename_i hr;obtain⟨n,hn⟩:=Ap hk;obtain⟨m,hm⟩:=Kt ops _ _ _ hr;refine⟨max n m,?_⟩;unfold gW
     try rw[hg]
     try dsimp only
     rw[rN (lF p (pX n m)) hn]
     try dsimp only
     rw[Ge (lF p (mE n m)) _ _ _ _ hm];exact e
    ·cases e
   ·cases e
  ·rename_i hg;split at e
   ·rename_i hr;obtain⟨m,hm⟩:=Kt ops _ _ _ hr;refine⟨m,?_⟩;unfold gW
    try rw[hg]
    try dsimp only
    rw[hm];exact e
   ·cases e
  ·cases e
theorem Gj{ax:List (Nat×Nat)}{k:Nat}:∀(ops:List SO) (i:Nat) (dead:List Nat) (env:Env) (H:Hp) (r:List (Nat×Nat)),ox (call p) G ax k i dead ops env H=some r→∃n,ox (fG p n) G ax k i dead ops env H=some r
 |[],i,dead,env,H,r,e=>⟨0,e⟩
 |o::ops,i,dead,env,H,r,e=>by
  simp only[ox] at e⊢;split at e
  ·rename_i hb;obtain⟨x,hx,rfl⟩:=au.1 e;obtain⟨n,hn⟩:=Gj ops _ _ _ _ _ hx;exact⟨n,by rw[if_pos hb,hn];rfl⟩
  ·rename_i hb;split at e
   ·rename_i hg;split at e
    ·rename_i d H' hk;obtain⟨n,hn⟩:=Ap hk;split at e
     ·cases e
     ·rename_i hw;obtain⟨x,hx,rfl⟩:=au.1 e;obtain⟨m,hm⟩:=Gj ops _ _ _ _ _ hx;refine⟨max n m,?_⟩;rw[if_neg hb,rN (lF p (pX n m)) hn];dsimp only;rw[if_neg hw,An (lF p (mE n m)) _ _ _ _ _ _ hm];rfl
    ·cases e
   ·rename_i hg;obtain⟨x,hx,rfl⟩:=au.1 e;obtain⟨n,hn⟩:=Gj ops _ _ _ _ _ hx;exact⟨n,by rw[if_neg hb,hn];rfl⟩
   ·cases e
theorem Ku{ax:List (Nat×Nat)}:∀(ops:List SO) (i:Nat) (env:Env) (H:Hp) (r:D×Hp×List (Nat×Nat)×Nat),jo (call p) G ax i ops env H=some r→∃n,jo (fG p n) G ax i ops env H=some r
 |[],i,env,H,r,e=>⟨0,e⟩
 |o::ops,i,env,H,r,e=>by
  simp only[jo] at e⊢;split at e
  ·rename_i hg;split at e
   ·rename_i d H' hk;obtain⟨n,hn⟩:=Ap hk;obtain⟨x,hx,rfl⟩:=au.1 e;obtain⟨m,hm⟩:=Ku ops _ _ _ _ hx;refine⟨max n m,?_⟩;rw[rN (lF p (pX n m)) hn];dsimp only;rw[Gf (lF p (mE n m)) _ _ _ _ _ hm];rfl
   ·rename_i d H' hk;obtain⟨n,hn⟩:=Ap hk;obtain⟨x,hx,rfl⟩:=au.1 e;obtain⟨m,hm⟩:=Gj ops _ _ _ _ _ hx;refine⟨max n m,?_⟩;rw[rN (lF p (pX n m)) hn];dsimp only;rw[An (lF p (mE n m)) _ _ _ _ _ _ hm];rfl
   ·cases e
  ·rename_i hg;obtain⟨x,hx,rfl⟩:=au.1 e;obtain⟨n,hn⟩:=Ku ops _ _ _ _ hx;exact⟨n,by rw[hn];rfl⟩
  ·cases e
abbrev jq(p:Pg)(G:Nat→Option (List PD))(n:Nat):SC→St→Option (Out×St):=ay (fG p n) G (fun b s=>iter b n s)
theorem qb{n m:Nat}(h:n≤m){sc:SC}{s:St}{r:Out×St}(e:jq p G n sc s=some r):jq p G m sc s=some r:=
 kW (lF p h) (uu h) sc s r e
theorem lG:∀(sc:SC) (s:St) (r:Out×St),ay (call p) G bf sc s=some r→∃n,jq p G n sc s=some r
 | .skip,s,r,e=>⟨0,e⟩
 | .exit _,s,r,e=>⟨0,e⟩
 | .ret,s,r,e=>⟨0,e⟩
 | .tok ..,s,r,e=>⟨0,e⟩
 | .tokb ..,s,r,e=>⟨0,e⟩
 | .stuck,s,r,e=>⟨0,e⟩
 | .scope b,s,r,e=>lG b s r e
 | .loc b,s,r,e=>by
  unfold ay at e;obtain⟨x,hx,rfl⟩:=au.1 e;obtain⟨n,hn⟩:=lG b s x hx;refine⟨n,?_⟩;unfold jq at hn⊢;unfold ay;rw[hn];rfl
 | .mI b,s,r,e=>by
  unfold ay at e;obtain⟨x,hx,rfl⟩:=au.1 e;obtain⟨n,hn⟩:=lG b s x hx;refine⟨n,?_⟩;unfold jq at hn⊢;unfold ay;rw[hn];rfl
 | .region keep ops,s,r,e=>by
  unfold ay at e;split at e
  ·rename_i he;obtain⟨n,hn⟩:=Aq _ _ _ _ he;exact⟨n,by unfold jq ay;rw[hn];exact e⟩
  ·rename_i he;obtain⟨n,hn⟩:=Aq _ _ _ _ he;exact⟨n,by unfold jq ay;rw[hn];exact e⟩
  ·cases e
 | .draw keep ax ops,s,r,e=>by
  simp only[ay] at e;split at e
  ·rename_i he;obtain⟨n,hn⟩:=Kt _ _ _ _ he;exact⟨n,by unfold jq;simp only[ay];rw[hn];exact e⟩
  ·rename_i he;split at e
   ·rename_i hp;obtain⟨n,hn⟩:=Ku _ _ _ _ _ hp;exact⟨n,by unfold jq;simp only[ay];rw[Gg _ _ _ _ _ hn,hn];exact e⟩
   ·cases e
 | .seq a b,s,r,e=>by
  unfold ay at e;split at e
  ·rename_i he;obtain⟨n,hn⟩:=lG a _ _ he;obtain⟨m,hm⟩:=lG b _ _ e;refine⟨max n m,?_⟩;unfold jq ay;have h1:=qb (pX n m) hn;unfold jq at h1;rw[h1];exact qb (mE n m) hm
  ·rename_i hn;obtain⟨n,cO⟩:=lG a _ _ e;refine⟨n,?_⟩;unfold jq at cO⊢;unfold ay;rw[cO];obtain⟨o,s'⟩:=r;cases o with
   |norm=>exact(hn _ e).elim
   |_=>rfl
 | .cond cc a b,s,r,e=>by
  unfold ay at e;split at e
  ·rename_i t ht;cases t with
   |true=>
    obtain⟨n,hn⟩:=lG a _ _ e;exact⟨n,by unfold jq ay;(try rw[ht]);exact hn⟩
   |false=>
    obtain⟨n,hn⟩:=lG b _ _ e;exact⟨n,by unfold jq ay;(try rw[ht]);exact hn⟩
  ·cases e
 | .block id b,s,r,e=>by
  unfold ay at e;split at e
  ·rename_i he;obtain⟨n,hn⟩:=lG b _ _ he;refine⟨n,?_⟩;unfold jq at hn⊢;unfold ay;rw[hn];exact e
  ·rename_i hn;obtain⟨n,cO⟩:=lG b _ _ e;refine⟨n,?_⟩;unfold jq at cO⊢;unfold ay;rw[cO];obtain⟨o,s'⟩:=r;cases o with
   |exit i=>exact(hn _ _ e).elim
   |_=>rfl
 | .mJ f gen g ps ft b,s,r,e=>by
  unfold ay at e;split at e
  ·rename_i xs hg;have key:∀(kb:Hp→Bool) (xs:List (List D)) (H:Hp) (r:Out×St),kV (ay (call p) G bf ft) (ay (call p) G bf b) s.env ps kb xs H=some r→
       ∃n,kV (jq p G n ft) (jq p G n b) s.env ps kb xs H=some r:=by
    intro kb xs
    induction xs with
    |nil=>intro H r h;exact⟨0,h⟩
    |cons x xs ih=>
     intro H r h;simp only[kV] at h;split at h
     ·cases h
     rename_i hl;split at h
     ·rename_i s1 h1;obtain⟨n1,g1⟩:=lG ft _ _ h1;split at h
      ·rename_i s2 h2;obtain⟨n2,g2⟩:=lG b _ _ h2;split at h
       case isFalse=>cases h
       rename_i hk;obtain⟨n3,g3⟩:=ih _ _ h;refine⟨max n1 (max n2 n3),?_⟩;simp only[kV];rw[if_neg hl,qb (pX _ _) g1];dsimp only;rw[qb (gA (pX n2 n3) (mE _ _)) g2];dsimp only;rw[if_pos hk];exact Ks (fun s r e=>qb (gA (mE n2 n3) (mE _ _)) e) (fun s r e=>qb (gA (mE n2 n3) (mE _ _)) e) _ _ _ g3
      ·rename_i o s2 hn h2;obtain⟨n2,g2⟩:=lG b _ _ h2;refine⟨max n1 n2,?_⟩;simp only[kV];rw[if_neg hl,qb (pX _ _) g1];dsimp only;rw[qb (mE _ _) g2];cases o with
       |norm=>exact(hn rfl).elim
       |_=>exact h
      ·cases h
     ·cases h
   obtain⟨n,hn⟩:=key _ _ _ _ e;refine⟨n,?_⟩;unfold jq at hn⊢;unfold ay;rw[hg];exact hn
  ·cases e
 | .loop keep b,s,r,e=>by
  unfold ay at e;obtain⟨m,hm⟩:=sY.1 e;clear e;have key:∀m s,iter (fun s=>ay (call p) G bf b ⟨s.env.keep keep,s.hp⟩) m s=some r→
      ∃n,iter (fun s=>jq p G n b ⟨s.env.keep keep,s.hp⟩) n s=some r:=by
   intro m
   induction m with
   |zero=>intro s h;cases h
   |succ m ih=>
    intro s h;simp only[iter] at h;split at h
    ·rename_i s' hb;obtain⟨n1,h1⟩:=lG b _ _ hb;obtain⟨n2,h2⟩:=ih _ h;refine⟨max n1 n2+1,?_⟩;simp only[iter];rw[qb (amr (pX n1 n2)) h1];exact uu (mE n1 n2) _ _ (fun s r e=>qb (amr (mE n1 n2)) e) _ _ h2
    ·rename_i hb;obtain⟨n1,h1⟩:=lG b _ _ h;refine⟨n1+1,?_⟩;simp only[iter];rw[qb (amq n1) h1];obtain⟨o,s'⟩:=r;cases o with
     |norm=>exact(hb _ h).elim
     |_=>rfl
  obtain⟨n,hn⟩:=key m s hm;exact⟨n,by unfold jq ay;exact hn⟩
theorem Gk{fc:FC}{s:St}{r:bt×Hp}(e:finish G fc.res (ay (call p) G bf fc.body s)=some r):∃n,finish G fc.res (jq p G n fc.body s)=some r:=by
 cases he:ay (call p) G bf fc.body s with
 |none=>rw[he] at e;cases e
 |some x=>
  obtain⟨n,hn⟩:=lG _ _ _ he;exact⟨n,by rw[hn,←he];exact e⟩
theorem Kv:∀(l:List SC) (s:St) (r:Out×St),pn (call p) G bf l s=some r→∃n,pn (fG p n) G (fun b s=>iter b n s) l s=some r
 |[],s,r,e=>⟨0,e⟩
 |a::l,s,r,e=>by
  simp only[pn] at e⊢;split at e
  ·rename_i he;obtain⟨n,hn⟩:=lG a _ _ he;obtain⟨m,hm⟩:=Kv l _ _ e;refine⟨max n m,?_⟩;have h1:=qb (pX n m) hn;unfold jq at h1;rw[h1];exact Ao (lF p (mE n m)) (uu (mE n m)) l _ _ hm
  ·rename_i hn;obtain⟨n,cO⟩:=lG a _ _ e;refine⟨n,?_⟩;unfold jq at cO;rw[cO];obtain⟨o,s'⟩:=r;cases o with
   |norm=>exact(hn _ e).elim
   |_=>rfl
theorem Za{T:Nat→Option (Nat×FC)}{f:Nat}{a:List D}{H:Hp}{r:bt×Hp}(e:uo (call p) T G bf f a H=some r):∃n,uo (fG p n) T G (fun b s=>iter b n s) f a H=some r:=by
 unfold uo at e⊢;split at e
 ·split at e
  ·rename_i hl;split at e
   ·rename_i hf;obtain⟨n,hn⟩:=Gk hf;refine⟨n,?_⟩;unfold jq at hn;rw[if_pos hl,hn];exact e
   ·cases e
  ·cases e
 ·cases e
theorem Zb{T:Nat→Option (Nat×FC)}{res:List ou}{fv:D}{as:List D}{rv:D}{s:St}{r:bt×Hp}(e:qN (call p) T G bf res fv as rv s=some r):∃n,qN (fG p n) T G (fun b s=>iter b n s) res fv as rv s=some r:=by
 unfold qN at e⊢;split at e
 ·rename_i g first cap
  split at e
  ·rename_i hc;unfold av at hc;dsimp only at hc;split at hc
   ·rename_i hn;split at hc
    ·rename_i x6 bx tk h1 h2 h3;split at hc
     ·rename_i r' H' eh;obtain⟨n,cO⟩:=Za eh;refine⟨n,?_⟩;unfold av
      try dsimp only
      rw[if_pos hn,h1,h2,h3]
      try dsimp only
      rw[cO]
      try dsimp only
      rw[hc];exact e
     ·cases hc
    ·cases hc
   ·cases hc
  ·cases e
 ·cases e
theorem Zc{T:Nat→Option (Nat×FC)}{fc:FC}{s:St}{r:bt×Hp}(e:iT (call p) T G bf fc s=some r):∃n,iT (fG p n) T G (fun b s=>iter b n s) fc s=some r:=by
 unfold iT at e⊢;split at e
 ·exact Gk e
 ·rename_i x hx;split at e
  ·rename_i s1 hs;obtain⟨n1,g1⟩:=Kv _ _ _ hs;split at e
   ·rename_i wj H1 ho;obtain⟨n2,g2⟩:=Aq _ _ _ _ ho;have key:∀(o:Out) (s2:St) (rv:D),ay (call p) G bf fc.body ⟨wj.keep x.keep,H1⟩=some (o,s2)→qN (call p) T G bf fc.res (x.f.ev wj) (x.as.map (·.ev wj)) rv s2=some r→
        ∃n,pn (fG p n) G (fun b s=>iter b n s) x.pre s=some (.norm,s1)∧kc (fG p n) G x.ops s1.env s1.hp=some (.ok wj H1)∧ay (fG p n) G (fun b s=>iter b n s) fc.body ⟨wj.keep x.keep,H1⟩=some (o,s2)∧
         qN (fG p n) T G (fun b s=>iter b n s) fc.res (x.f.ev wj) (x.as.map (·.ev wj)) rv s2=some r:=by
     intro o s2 rv hb hd;obtain⟨n3,g3⟩:=lG _ _ _ hb;obtain⟨n4,g4⟩:=Zb hd
     let N:=max (max n1 n2) (max n3 n4)
     have l1:n1≤N:=by omega
     have l2:n2≤N:=by omega
     have l3:n3≤N:=by omega
     have l4:n4≤N:=by omega
     exact⟨N,Ao (lF p l1) (uu l1) _ _ _ g1,ur (lF p l2) _ _ _ _ g2,qb l3 g3,Gi (lF p l4) (uu l4) g4⟩
    split at e
    ·rename_i s2 hb;obtain⟨n,a1,a2,a3,a4⟩:=key _ _ _ hb e;exact⟨n,by(try dsimp only);rw[a1];(try dsimp only);rw[a2];(try dsimp only);rw[a3];exact a4⟩
    ·rename_i s2 hb;obtain⟨n,a1,a2,a3,a4⟩:=key _ _ _ hb e;exact⟨n,by(try dsimp only);rw[a1];(try dsimp only);rw[a2];(try dsimp only);rw[a3];exact a4⟩
    ·rename_i d s2 hb;obtain⟨n,a1,a2,a3,a4⟩:=key _ _ _ hb e;exact⟨n,by(try dsimp only);rw[a1];(try dsimp only);rw[a2];(try dsimp only);rw[a3];exact a4⟩
    ·cases e
   ·rename_i d wj H1 ho;obtain⟨n2,g2⟩:=Aq _ _ _ _ ho;refine⟨max n1 n2,?_⟩
    try dsimp only
    rw[Ao (lF p (pX n1 n2)) (uu (pX n1 n2)) _ _ _ g1]
    try dsimp only
    rw[ur (lF p (mE n1 n2)) _ _ _ _ g2];exact e
   ·cases e
  ·rename_i hn;cases hs:pn (call p) G bf x.pre s with
   |none=>rw[hs] at e;cases e
   |some y=>
    obtain⟨n,g⟩:=Kv _ _ _ hs;refine⟨n,?_⟩
    try dsimp only
    rw[g];rw[hs] at e;obtain⟨o,s'⟩:=y;cases o with
    |norm=>exact(hn _ hs).elim
    |_=>exact e
theorem Gl{f:Nat}{fc:FC}{a:List D}{H:Hp}{r:bt×Hp}(hl:p.lib f a H=none)(hf:p.F f=some fc)(hn:a.length=fc.np)
    (hz:fc.plain=true) (e:finish p.G fc.res (ay (call p) p.G bf fc.body ⟨entry 0 a,H⟩)=some r):call p f a H=some r:=by
 obtain⟨n,cO⟩:=Gk e;have hz:fc.aH=false∧fc.iu=none:=by
  unfold FC.plain at hz;simpa using hz
 refine x5.2 ⟨n+1,?_⟩;unfold fG
 try dsimp only
 rw[hl,hf]
 try dsimp only
 rw[if_pos hn,hz.1];unfold iT;rw[hz.2];exact cO
theorem Kw{f:Nat}{fc:FC}{a:List D}{H:Hp}{r r':bt×Hp}(hl:p.lib f a H=none)(hf:p.F f=some fc)(hn:a.length=fc.np)
    (hz:fc.frozen=true) (e:finish p.G fc.res (ay (call p) p.G bf fc.body ⟨entry 0 a,H⟩)=some r) (hs:rM H.bx.length r=r'):call p f a H=some r':=by
 obtain⟨n,cO⟩:=Gk e;have hz:fc.aH=true∧fc.iu=none:=by
  unfold FC.frozen at hz;simpa using hz
 refine x5.2 ⟨n+1,?_⟩;unfold fG
 try dsimp only
 rw[hl,hf]
 try dsimp only
 rw[if_pos hn,hz.1];simp only[mO,if_true];have :iT (fG p n) p.D p.G (fun b s=>iter b n s) fc ⟨entry 0 a,H⟩=some r:=by
  unfold iT;rw[hz.2];exact cO
 rw[this,eA,hs]
theorem Qf{f:Nat}{a:List D}{H:Hp}{r:bt×Hp}(hl:p.lib f a H=some r):call p f a H=some r:=
 x5.2 ⟨1,by unfold fG;dsimp only;rw[hl]⟩
theorem Qg{f:Nat}{a:List D}{H:Hp}{r:bt×Hp}(n:Nat)(h:fG p n f a H=some r):call p f a H=some r:=x5.2 ⟨n,h⟩
end
end Go.Vs
namespace Go.Vs
abbrev Mem:=Nat→Nat→Option Value
inductive aZ (m:Mem):Value→PD→Prop where
 |bool (b:Bool):aZ m (.bool b) (.bool b)
 |int (k:IntKind) (n:Int):aZ m (.int k n) (.int k n)
 |str (s:List UInt8):aZ m (.string ⟨s.toArray⟩) (.str s)
 |iQ:aZ m (.pointer none) .iQ
 |aI:aZ m (.slice none 0 0) .aI
 |ot:aZ m .nilFunc .ot
 |kA:aZ m .nilIface .kA
 |qI:aZ m (.map none) .qI
 |kD (a:Option Addr) (cap sz:Nat):aZ m (.slice a 0 cap) (.slice sz [])
 |sl (b o cap sz:Nat) (es:List PD) (vs:Nat→Nat→Value) (hc:es.length≤cap) (aS:∀e∈es,e.cells.length=sz)
     (dE:∀e∈es,∀c∈e.cells,c.one=true) (hm:∀i j,i<es.length→j<sz→m b (o+i*sz+j)=some (vs i j))
     (hr:∀i e j c,es[i]? =some e→e.cells[j]? =some c→aZ m (vs i j) c):aZ m (.slice (some ⟨b,o,none⟩) es.length cap) (.slice sz es)
 |emp (a:Addr) (cap sz:Nat):aZ m (.slice (some a) 0 cap) (.emp sz)
 |agg (cs:Array Value) (ds:List PD) (hl:cs.size=ds.length) (dE:∀d∈ds,d.one=true) (hr:∀i d,ds[i]? =some d→aZ m (cs.getD i undef) d):aZ m (.agg cs) (.agg ds)
 |iface (t:Nat) (v:Value) (x:PD) (h:aZ m v x):aZ m (.iface t v) (.iface t x)
def Mem.le(m m':Mem):Prop:=∀b o v,m b o=some v→m' b o=some v
theorem aZ.mono{m m':Mem}(h:Mem.le m m'){v:Value}{d:PD}(r:aZ m v d):aZ m' v d:=by
 induction r with
 |bool b=>exact .bool b
 |int k n=>exact .int k n
 |str s=>exact .str s
 |iQ=>exact .iQ
 |aI=>exact .aI
 |ot=>exact .ot
 |kA=>exact .kA
 |qI=>exact .qI
 |kD a cap sz=>exact .kD a cap sz
 |sl b o cap sz es vs hc aS dE hm hr ih=>exact .sl b o cap sz es vs hc aS dE (fun i j hi hj=>h _ _ _ (hm i j hi hj)) ih
 |emp a cap sz=>exact .emp a cap sz
 |agg cs ds hl dE hr ih=>exact .agg cs ds hl dE ih
 |iface t v x _ ih=>exact .iface t v x ih
theorem aZ.one{m:Mem}{v:Value}{d:PD}(r:aZ m v d)(h:d.one=true):v.oneCell'=true:=by
 cases r<;>first |rfl |cases h
theorem aZ.cells{m:Mem}{v:Value}{d:PD}(r:aZ m v d):v.cells.size=d.cells.length∧∀i c,d.cells[i]? =some c→aZ m (v.cells.getD i undef) c∧c.one=true:=by
 cases r with
 |agg cs ds hl dE hr=>exact⟨hl,fun i c hc=>⟨hr i c hc,dE c (bS hc)⟩⟩
 |_=>
  refine⟨rfl,fun i c hc=>?_⟩
  match i with
  | 0=>
   simp only[PD.cells,ew,bI] at hc;subst hc;refine⟨?_,rfl⟩
   first
    |exact .bool _ |exact .int _ _ |exact .str _ |exact .iQ |exact .aI |exact .ot |exact .kA |exact .qI |exact .kD _ _ _ |exact .emp _ _ _
    |exact .sl _ _ _ _ _ _ ‹_› ‹_› ‹_› ‹_› ‹_›
    |exact .iface _ _ _ ‹_›
  |i+1=>simp[PD.cells] at hc
structure Row where
 e:Nat
 sz:Nat
 st:Nat→Option (Option (Nat×Nat))
structure Gh where
 base:Nat
 br:Nat→Option (Nat×Nat)
 mem:Mem
 boxes:List Nat
 rows:List Row
def qO(r:Option (Nat×Nat))(n:Nat):Value:=
 match r with
 |none=>.slice none 0 0
 |some (b,cap)=>.slice (some ⟨b,0,none⟩) n cap
inductive aL (γ:Gh):Value→D→Prop where
 |dead (v:Value):aL γ v .dead
 |undef:aL γ undef .undef
 |p (v:Value) (x:PD) (h:aZ γ.mem v x):aL γ v (.p x)
 |cI (b n e sz:Nat) (es:List PD) (hb:γ.base≤b) (ht:γ.br b=some (2*e,n*sz)) (hn:n=es.length) (h:aZ γ.mem (.slice (some ⟨b,0,none⟩) n n) (.slice sz es)):aL γ (.slice (some ⟨b,0,none⟩) n n) (.cI e sz es)
 |bk (v:Value) (t e sz:Nat) (es:List PD) (row:Row) (r:Option (Nat×Nat)) (h1:γ.rows[t]? =some row) (h2:row.e=e) (h3:row.sz=sz)
     (h4:aZ γ.mem v (.slice sz es)) (h5:row.st es.length=some r) (h6:v=qO r es.length):aL γ v (.bk t e sz es)
 |box (i off b:Nat) (h:γ.boxes[i]? =some b):aL γ (.pointer (some ⟨b,off,none⟩)) (.box i off)
 |eD (g off:Nat):aL γ (.pointer (some ⟨g,off,none⟩)) (.eD g off)
 |ro (b o off:Nat) (cs:List PD) (vs:Nat→Value) (hm:∀j,j<cs.length→γ.mem b (o+j)=some (vs j)) (hr:∀j c,cs[j]? =some c→aZ γ.mem (vs j) c∧c.one=true):
     aL γ (.pointer (some ⟨b,o+off,none⟩)) (.ro cs off)
 |agg (cs:Array Value) (ds:List D) (hl:cs.size=ds.length) (dE:∀d∈ds,d.one=true) (hr:∀i d,ds[i]? =some d→aL γ (cs.getD i Go.undef) d):aL γ (.agg cs) (.agg ds)
 |bA (cs:Array Value) (ds:List D) (hl:cs.size=ds.length) (hr:∀i d,ds[i]? =some d→aL γ (cs.getD i Go.undef) d):aL γ (.tuple cs) (.bA ds)
 |fn (f:Nat) (as cs:Array Value) (ds es:List D) (hl:as.size=ds.length) (hr:∀i d,ds[i]? =some d→aL γ (as.getD i Go.undef) d)
     (kl:cs.size=es.length) (kr:∀i d,es[i]? =some d→aL γ (cs.getD i Go.undef) d):aL γ (.func (.func f) as cs) (.fn f ds es)
 |bu (i off n:Nat) (cap:Option Nat) (sz b c:Nat) (h:γ.boxes[i]? =some b) (hc:n≤c) (dO:∀k,cap=some k→c=k):aL γ (.slice (some ⟨b,off,none⟩) n c) (.bu i off n cap sz)
 |ff (a:Option Addr) (sz:Nat):aL γ (.slice a 0 0) (.ff sz)
 |eE (t:Nat) (v:Value) (d:D) (h:aL γ v d):aL γ (.iface t v) (.eE t d)
 |fN (b n cap:Nat) (d:D) (h:aL γ (.slice (some ⟨b,0,none⟩) n cap) d) (hn:0<n) (hb:γ.base≤b):aL γ (.pointer (some ⟨b,0,none⟩)) (.fN d)
 |iH (p:Option Addr):aL γ (.pointer p) .iH
 |fresh (T n i b:Nat) (h:γ.boxes[i]? =some b) (ht:γ.br b=some (2*T,n)):aL γ (.pointer none) (.fresh T n i)
 |bU (i b:Nat) (h:γ.boxes[i]? =some b):aL γ (.map (some b)) (.bU i)
 |bB (as cs:Array Value) (kd:Nat) (ks:List PD) (ds:List D) (s:Nat→Nat) (hl:as.size=ks.length) (kl:cs.size=ks.length) (dl:ds.length=ks.length)
     (hs:∀j,j<ks.length→s j<ks.length) (hj:∀j j',j<ks.length→j'<ks.length→s j=s j'→j=j') (hg:∀m,m<ks.length→∃j,j<ks.length∧s j=m)
     (hr:∀(j:Nat) x,ks[j]? =some x→aZ γ.mem (as.getD (s j) Go.undef) x∧dD x=kd) (hd:∀(j j':Nat) x y,ks[j]? =some x→ks[j']? =some y→fO x y=true→j=j')
     (kr:∀(j:Nat) d,ds[j]? =some d→aL γ (cs.getD (s j) Go.undef) d):aL γ (.func (.func 0) as cs) (.bB kd ks ds)
 |gK (a:Option Addr) (n sz:Nat) (es:List PD) (hn:n=es.length) (h:aZ γ.mem (.slice a n n) (.slice sz es)):aL γ (.slice a n n) (.gK sz es)
 |aB (i e n sz b c:Nat) (h:γ.boxes[i]? =some b) (hc:n≤c) (hm:c≤maxLen) {k:Nat} (hk:k<1) (ht:γ.br b=some (2*e+k,c*sz)):aL γ (.slice (some ⟨b,0,none⟩) n c) (.aB i e n sz)
def oz(cs:List D)(o:Option Obj):Option Obj:=
 if aU cs then(match o with
  |some (.map es _)=>some (.cells #[.func (.func 0) (es.map (·.key)) (es.map (·.val))] 0 (0,0))
  |_=>none) else o
theorem iU{cs:List D}(h:aU cs=false)(o:Option Obj):oz cs o=o:=by simp[oz,h]
theorem Gm{cs bL:List D}(h:aU bL=aU cs)(o:Option Obj):oz bL o=oz cs o:=by simp[oz,h]
theorem Zd{cs:List D}{o:Option Obj}{x:Obj}(h:oz cs o=some x):∃y,o=some y:=by
 cases o with
 |some y=>exact⟨y,rfl⟩
 |none=>unfold oz at h;split at h<;>cases h
theorem C0{cs:List D}(h:∀c∈cs,c.one=true):aU cs=false:=by
 unfold aU;split
 ·rename_i kd ks vs;have:=h (.bB kd ks vs) (by simp);cases this
 ·rfl
structure Gh.le (γ γ':Gh):Prop where
 base:γ'.base=γ.base
 br:∀b x,γ.br b=some x→γ'.br b=some x
 mem:Mem.le γ.mem γ'.mem
 boxes:∀(i b:Nat),γ.boxes[i]? =some b→γ'.boxes[i]? =some b
 rows:∀(t:Nat) r,γ.rows[t]? =some r→∃r',γ'.rows[t]? =some r'∧r'.e=r.e∧r'.sz=r.sz∧∀n x,r.st n=some x→r'.st n=some x
theorem Gh.le.refl(γ:Gh):γ.le γ:=⟨rfl,fun _ _ h=>h,fun _ _ _ h=>h,fun _ _ h=>h,fun _ r h=>⟨r,h,rfl,rfl,fun _ _ h=>h⟩⟩
theorem Gh.le.trans{a b c:Gh}(h:a.le b)(k:b.le c):a.le c:=
 ⟨k.base.trans h.base,fun _ _ x=>k.br _ _ (h.br _ _ x),fun _ _ _ x=>k.mem _ _ _ (h.mem _ _ _ x),fun _ _ x=>k.boxes _ _ (h.boxes _ _ x),fun t r x=>by
  obtain⟨r1,a1,a2,a3,a4⟩:=h.rows t r x;obtain⟨r2,b1,b2,b3,b4⟩:=k.rows t r1 a1;exact⟨r2,b1,b2.trans a2,b3.trans a3,fun n x hx=>b4 n x (a4 n x hx)⟩⟩
theorem aL.mono{γ γ':Gh}(h:γ.le γ'){v:Value}{d:D}(r:aL γ v d):aL γ' v d:=by
 induction r with
 |dead v=>exact .dead v
 |undef=>exact .undef
 |p v x hx=>exact .p v x (hx.mono h.mem)
 |cI b n e sz es hb ht hn hx=>exact .cI b n e sz es (h.base▸hb) (h.br _ _ ht) hn (hx.mono h.mem)
 |bk v t e sz es row r h1 h2 h3 h4 h5 h6=>
  obtain⟨r',a1,a2,a3,a4⟩:=h.rows t row h1;exact .bk v t e sz es r' r a1 (a2.trans h2) (a3.trans h3) (h4.mono h.mem) (a4 _ _ h5) h6
 |box i off b hb=>exact .box i off b (h.boxes _ _ hb)
 |eD g off=>exact .eD g off
 |ro b o off cs vs hm hr=>exact .ro b o off cs vs (fun j hj=>h.mem _ _ _ (hm j hj)) (fun j c hc=>⟨(hr j c hc).1.mono h.mem,(hr j c hc).2⟩)
 |agg cs ds hl dE hr ih=>exact .agg cs ds hl dE ih
 |bA cs ds hl hr ih=>exact .bA cs ds hl ih
 |fn f as cs ds es hl hr kl kr ih C1=>exact .fn f as cs ds es hl ih kl C1
 |bu i off n cap sz b c hb hc dO=>exact .bu i off n cap sz b c (h.boxes _ _ hb) hc dO
 |ff a sz=>exact .ff a sz
 |eE t v d _ ih=>exact .eE t v d ih
 |fN b n cap d _ hn hb ih=>exact .fN b n cap d ih hn (h.base▸hb)
 |iH p=>exact .iH p
 |fresh T n i b hb ht=>exact .fresh T n i b (h.boxes _ _ hb) (h.br _ _ ht)
 |bU i b hb=>exact .bU i b (h.boxes _ _ hb)
 |bB as cs kd ks ds s hl kl dl hs hj hg hr hd kr ih=>exact .bB as cs kd ks ds s hl kl dl hs hj hg (fun i x hx=>⟨(hr i x hx).1.mono h.mem,(hr i x hx).2⟩) hd ih
 |gK a n sz es hn hx=>exact .gK a n sz es hn (hx.mono h.mem)
 |aB i e n sz b c hb hc hm hk ht=>exact .aB i e n sz b c (h.boxes _ _ hb) hc hm hk (h.br _ _ ht)
def cy(γ:Gh)(vs:Array Value)(ds:List D):Prop:=vs.size=ds.length∧∀i d,ds[i]? =some d→aL γ (vs.getD i undef) d
theorem cy.mono{γ γ':Gh}(h:γ.le γ'){vs:Array Value}{ds:List D}(r:cy γ vs ds):cy γ' vs ds:=⟨r.1,fun i d hd=>(r.2 i d hd).mono h⟩
def eT(γ:Gh)(vs:Array Value)(ds:List D):Prop:=ds.length≤vs.size∧∀i d,ds[i]? =some d→aL γ (vs.getD i undef) d
theorem cy.C2{γ:Gh}{vs:Array Value}{ds:List D}(r:cy γ vs ds):eT γ vs ds:=⟨Nat.le_of_eq r.1.symm,r.2⟩
theorem eT.mono{γ γ':Gh}(h:γ.le γ'){vs:Array Value}{ds:List D}(r:eT γ vs ds):eT γ' vs ds:=⟨r.1,fun i d hd=>(r.2 i d hd).mono h⟩
theorem aL.Qh{γ:Gh}{v:Value}{d:D}(r:aL γ v d)(h:d.one=true):v.oneCell'=true:=by
 cases r with
 |p v x hx=>exact hx.one h
 |bk v t e sz es row r h1 h2 h3 h4 h5 h6=>exact h4.one rfl
 |_=>first |rfl |cases h
theorem aL.cells{γ:Gh}{v:Value}{d:D}(r:aL γ v d)(h:d.cells.all D.one=true):cy γ v.cells d.cells∧∀c∈d.cells,c.one=true:=by
 have eQ:∀c∈d.cells,c.one=true:=by simpa[gI] using h
 refine⟨?_,eQ⟩;have single:∀(v:Value) (d:D),d.cells=[d]→v.cells= #[v]→aL γ v d→cy γ v.cells d.cells:=by
  intro v d hd hv r;rw[hd,hv];refine⟨rfl,fun i c hc=>?_⟩
  match i with
  | 0=>simp only[ew,bI] at hc;subst hc;exact r
  |i+1=>simp at hc
 have Ky:∀v:Value,v.oneCell'=true→v.cells= #[v]:=by intro v hv;cases v<;>first |rfl |cases hv
 cases r with
 |dead v=>simp[D.cells,D.one] at h
 |undef=>simp[D.cells,D.one] at h
 |p v x hx=>
  by_cases dE:x.one=true
  ·have hc:(D.p x).cells=[.p x]:=by cases x<;>first |rfl |cases dE
   exact single v _ hc (Ky v (hx.one dE)) (.p v x hx)
  ·cases hx with
   |agg cs ds hl ho hr=>
    refine⟨by simp[D.cells,Value.cells,hl],fun i d hd=>?_⟩;simp only[D.cells,cP,au] at hd;obtain⟨x,hx,rfl⟩:=hd;exact .p _ _ (hr i x hx)
   |_=>simp[PD.one] at dE
 |agg cs ds hl ho hr=>exact⟨hl,hr⟩
 |bA cs ds hl hr=>simp[D.cells,D.one] at h
 |cI b n e sz es hb ht hn hx=>exact single _ _ rfl rfl (.cI b n e sz es hb ht hn hx)
 |bk v t e sz es row r h1 h2 h3 h4 h5 h6=>exact single _ _ rfl (Ky _ (h4.one rfl)) (.bk v t e sz es row r h1 h2 h3 h4 h5 h6)
 |box i off b hb=>exact single _ _ rfl rfl (.box i off b hb)
 |eD g off=>exact single _ _ rfl rfl (.eD g off)
 |ro b o off cs vs hm hr=>exact single _ _ rfl rfl (.ro b o off cs vs hm hr)
 |fn f as cs ds es hl hr kl kr=>exact single _ _ rfl rfl (.fn f as cs ds es hl hr kl kr)
 |bu i off n cap sz b c hb hc dO=>exact single _ _ rfl rfl (.bu i off n cap sz b c hb hc dO)
 |ff a sz=>exact single _ _ rfl rfl (.ff a sz)
 |eE t v d hd=>exact single _ _ rfl rfl (.eE t v d hd)
 |fN b n cap d hd hn hb=>exact single _ _ rfl rfl (.fN b n cap d hd hn hb)
 |iH p=>exact single _ _ rfl rfl (.iH p)
 |fresh T n i b hb ht=>exact single _ _ rfl rfl (.fresh T n i b hb ht)
 |bU i b hb=>exact single _ _ rfl rfl (.bU i b hb)
 |bB=>simp[D.cells,D.one] at h
 |gK a n sz es hn hx=>exact single _ _ rfl rfl (.gK a n sz es hn hx)
 |aB i e n sz b c hb hc hm hk ht=>exact single _ _ rfl rfl (.aB i e n sz b c hb hc hm hk ht)
def cY(γ:Gh)(H:Hp)(t b:Nat):Prop:=∃row f cap,γ.rows[t]? =some row∧H.tk[t]? =some f∧row.st f=some (some (b,cap))∧f<cap
def Lv(γ:Gh)(H:Hp)(b:Nat):Prop:=∃(i:Nat) (cs:List D),γ.boxes[i]? =some b∧H.bx[i]? =some cs∧cs≠[]
theorem Lv.mem{γ:Gh}{H:Hp}{b:Nat}(h:Lv γ H b):b∈γ.boxes:=by
 obtain⟨i,cs,h,_⟩:=h;exact bS h
def kE(γ:Gh)(H:Hp)(b:Nat):Prop:=Lv γ H b∨∃t,cY γ H t b
def clear(fr:Nat×Nat)(m n:Nat):Prop:=∀k,m≤k→k<n→¬(fr.1≤k∧k<fr.2)
def qc(m:Nat→Option Value)(o o':Option Obj):Prop:=
 o'=o∨∃cs T fr ct,o=some (.cells cs T fr)∧o'=some (.cells cs T ct)∧∀k,k<cs.size→ct.1≤k∧k<ct.2→(fr.1≤k∧k<fr.2)∨m k≠none
theorem qc.refl(m:Nat→Option Value)(o:Option Obj):qc m o o:=.inl rfl
theorem qc.trans{m m':Nat→Option Value}{o o' Qi:Option Obj}(h:qc m o o')(k:qc m' o' Qi)(hm:∀j,m j≠none→m' j≠none):qc m' o Qi:=by
 rcases h with rfl |⟨cs,T,fr,ct,h1,h2,h3⟩
 ·exact k
 ·rcases k with rfl |⟨Kz,T2,Gn,Ze,k1,k2,k3⟩
  ·exact .inr ⟨cs,T,fr,ct,h1,h2,fun j hs hj=>(h3 j hs hj).imp id (hm j)⟩
  ·rw[h2] at k1;cases k1;exact .inr ⟨cs,T,fr,Ze,h1,k2,fun j hs hj=>by
    rcases k3 j hs hj with q |q
    ·exact(h3 j hs q).imp id (hm j)
    ·exact .inr q⟩
def qd(γ:Gh)(w:World)(row:Row)(f:Nat):Option (Nat×Nat)→Prop
 |none=>f=0
 |some (b,cap)=>(f≤cap∧γ.br b=some (2*row.e,cap*row.sz))∧(f<cap→∃cur fr,w.heap[b]? =some (.cells cur row.e fr)∧clear fr (f*row.sz) cur.size∧cur.size=cap*row.sz∧cap≤maxLen∧(∀o,f*row.sz≤o→γ.mem b o=none)∧b∉γ.boxes)
structure Inv (G:Nat→Option (List PD)) (γ:Gh) (H:Hp) (w:World):Prop where
 size:γ.base≤w.heap.size
 br:∀b T n,γ.br b=some (T,n)→∃vs fr,w.heap[b]? =some (.cells vs (T/2) fr)∧vs.size=n∧(T%2=0→fr.2≤n∧fr.1≤fr.2)
 iV:∀(t:Nat) row n b cap,γ.rows[t]? =some row→row.st n=some (some (b,cap))→γ.base≤b
 mem:∀b o v,γ.mem b o=some v→w.cell? ⟨b,o,none⟩=some v
 jQ:∀g cs,G g=some cs→∀j c,cs[j]? =some c→c.one=true∧∃v,γ.mem g j=some v∧aZ γ.mem v c
 cT:γ.boxes.length=H.bx.length
 nodup:∀(i j b:Nat) ci cj,γ.boxes[i]? =some b→γ.boxes[j]? =some b→H.bx[i]? =some ci→H.bx[j]? =some cj→ci≠[]→cj≠[]→i=j
 box:∀(i b:Nat) cs,γ.boxes[i]? =some b→H.bx[i]? =some cs→∃vs T fr,oz cs w.heap[b]? =some (.cells vs T fr)∧eT γ vs cs∧(aU cs=false→∀c∈cs,c.one=true)∧(cs≠[]→clear fr 0 vs.size)
 iw:∀b o,Lv γ H b→γ.mem b o=none
 jE:∀(i b:Nat),γ.boxes[i]? =some b→H.bx[i]? =some []→∃x,γ.br b=some x
 fY:γ.rows.length=H.tk.length
 row:∀(t:Nat) row f,γ.rows[t]? =some row→H.tk[t]? =some f→∃r,row.st f=some r∧qd γ w row f r
 jR:∀(t:Nat) row f,γ.rows[t]? =some row→H.tk[t]? =some f→∀n x,row.st n=some x→n≤f
 free:∀t t' b,cY γ H t b→cY γ H t' b→t=t'
theorem Inv.KA{G:Nat→Option (List PD)}{γ:Gh}{H:Hp}{w:World}(I:Inv G γ H w){b T n:Nat}(h:γ.br b=some (2*T,n)):∃vs fr,w.heap[b]? =some (.cells vs T fr)∧vs.size=n∧fr.2≤n∧fr.1≤fr.2:=by
 obtain⟨vs,fr,h1,h2,h3⟩:=I.br b _ n h;rw[Yw T (by decide:0<2)] at h1;exact⟨vs,fr,h1,h2,h3 (by omega)⟩
structure Frame (γ:Gh) (H:Hp) (w:World) (γ':Gh) (H':Hp) (w':World):Prop where
 os:w'.os=w.os
 tape:w'.tape=w.tape
 output:w'.output=w.output
 size:w.heap.size≤w'.heap.size
 bP:∀b,b<w.heap.size→¬kE γ H b→(b<γ.base→w'.heap[b]? =w.heap[b]?)∧qc (γ'.mem b) (w.heap[b]?) (w'.heap[b]?)
 mem:∀b o,b<w.heap.size→¬kE γ H b→γ'.mem b o=γ.mem b o
 box:∀b,Lv γ' H' b→Lv γ H b∨w.heap.size≤b
 uv:∀t b,cY γ' H' t b→cY γ H t b∨w.heap.size≤b
 uw:∀b,b∈γ'.boxes→b∈γ.boxes∨w.heap.size≤b
theorem Frame.own{γ:Gh}{H:Hp}{w:World}{γ':Gh}{H':Hp}{w':World}(F:Frame γ H w γ' H' w')(b:Nat)(h:kE γ' H' b):kE γ H b∨w.heap.size≤b:=by
 rcases h with h |⟨t,h⟩
 ·rcases F.box b h with q |q
  ·exact .inl (.inl q)
  ·exact .inr q
 ·rcases F.uv t b h with q |q
  ·exact .inl (.inr ⟨t,q⟩)
  ·exact .inr q
theorem Frame.refl(γ:Gh)(H:Hp)(w:World):Frame γ H w γ H w:=⟨rfl,rfl,rfl,aV _,fun _ _ _=>⟨fun _=>rfl,.refl _ _⟩,fun _ _ _ _=>rfl,fun _ h=>.inl h,fun _ _ h=>.inl h,fun _ h=>.inl h⟩
theorem Frame.trans{γ γ1 γ2:Gh}{H H1 H2:Hp}{w w1 w2:World}(L:γ1.base=γ.base)(a:Frame γ H w γ1 H1 w1)(b:Frame γ1 H1 w1 γ2 H2 w2):Frame γ H w γ2 H2 w2:=by
 have key:∀k,k<w.heap.size→¬kE γ H k→¬kE γ1 H1 k:=fun k hk ho h1=>by
  rcases a.own k h1 with h |h
  ·exact ho h
  ·omega
 refine⟨b.os.trans a.os,b.tape.trans a.tape,b.output.trans a.output,gA a.size b.size,fun k hk ho=>?_,fun k o hk ho=>?_,fun k h2=>?_,fun t k h2=>?_,fun k h2=>?_⟩
 ·obtain⟨p1,p2⟩:=a.bP k hk ho;obtain⟨q1,q2⟩:=b.bP k (xF hk a.size) (key k hk ho);refine⟨fun hb=>(q1 (L▸hb)).trans (p1 hb),p2.trans q2 fun j hj=>?_⟩;rw[b.mem k j (xF hk a.size) (key k hk ho)];exact hj
 ·exact(b.mem k o (xF hk a.size) (key k hk ho)).trans (a.mem k o hk ho)
 ·rcases b.box k h2 with h |h
  ·exact a.box k h
  ·exact .inr (gA a.size h)
 ·rcases b.uv t k h2 with h |h
  ·exact a.uv t k h
  ·exact .inr (gA a.size h)
 ·rcases b.uw k h2 with h |h
  ·exact a.uw k h
  ·exact .inr (gA a.size h)
theorem Inv.mP{G:Nat→Option (List PD)}{γ:Gh}{H:Hp}{w:World}(I:Inv G γ H w){b:Nat}(hb:b∈γ.boxes):b<w.heap.size:=by
 obtain⟨i,hi⟩:=eC hb;have ah:i<H.bx.length:=by rw[←I.cT];exact(az.1 hi).1
 obtain⟨vs,T,fr,h,_⟩:=I.box i b _ hi (aA ah);obtain⟨y,hy⟩:=Zd h;exact(gz.1 hy).1
theorem Inv.nE{G:Nat→Option (List PD)}{γ:Gh}{H:Hp}{w:World}(I:Inv G γ H w){t b:Nat}(hb:cY γ H t b):b<w.heap.size:=by
 obtain⟨row,f,cap,h1,h2,h3,h4⟩:=hb;obtain⟨r,hr,bV⟩:=I.row t row f h1 h2;rw[h3] at hr;cases hr;obtain⟨cur,fr,h,_⟩:=bV.2 h4;exact(gz.1 h).1
theorem Inv.Zf{G:Nat→Option (List PD)}{γ:Gh}{H:Hp}{w:World}(I:Inv G γ H w){b:Nat}(hb:kE γ H b):b<w.heap.size:=by
 rcases hb with h |⟨t,h⟩
 ·exact I.mP h.mem
 ·exact I.nE h
theorem Inv.qP{G:Nat→Option (List PD)}{γ:Gh}{H:Hp}{w:World}(I:Inv G γ H w){b o:Nat}{v:Value}(h:γ.mem b o=some v):b<w.heap.size:=
 World.block_lt_of_cell? w _ (I.mem b o v h)
def bh(γ:Gh)(env:Env)(tmps:Array Value):Prop:=∀t,aL γ (tmps.getD t undef) (env.get t)
theorem bh.mono{γ γ':Gh}(h:γ.le γ'){env:Env}{tmps:Array Value}(r:bh γ env tmps):bh γ' env tmps:=fun t=>(r t).mono h
theorem bh.put{γ:Gh}{env:Env}{tmps:Array Value}(r:bh γ env tmps){t:Nat}(ht:t<tmps.size){v:Value}{d:D}(h:aL γ v d):
    bh γ ((t,d)::env) (tmps.setIfInBounds t v):=by
 intro s;simp only[Env.get];by_cases hs:t=s
 ·subst hs;rw[if_pos rfl];simpa[bN,ht] using h
 ·rw[if_neg hs];have:=r s;simpa[bN,Ka,hs] using this
theorem Env.Gp(ks:List Nat)(e:Env)(t:Nat):(e.keep ks).get t=if t∈ks then e.get t else .dead:=by
 induction ks with
 |nil=>rfl
 |cons k ks ih=>
  have C1:Env.get (vO (fun t=>(t,e.get t)) ks) t=if t∈ks then e.get t else .dead:=ih
  show(if k=t then e.get k else Env.get (vO (fun t=>(t,e.get t)) ks) t)=_;by_cases hk:k=t
  ·subst hk;simp
  ·rw[if_neg hk,C1];have :(t∈k::ks)↔t∈ks:=by simp[Ne.symm hk]
   simp only[this]
theorem bh.keep{γ:Gh}{env:Env}{tmps:Array Value}(r:bh γ env tmps)(ks:List Nat):bh γ (env.keep ks) tmps:=by
 intro t;rw[Env.Gp];split
 ·exact r t
 ·exact .dead _
variable {G : Nat → Option (List PD)} {γ : Gh} {H : Hp} {w : World}
theorem heap_alloc(w:World)(o:Obj)(b:Nat):(w.alloc o).heap[b]? =if b=w.heap.size then some o else w.heap[b]?:=by
 show(w.heap.push o)[b]? =_;rw[Array.getElem?_push]
theorem ux{w w':World}{b o:Nat}(h:w'.heap[b]? =w.heap[b]?):w'.cell? ⟨b,o,none⟩=w.cell? ⟨b,o,none⟩:=by
 unfold World.cell?;rw[h]
theorem cY.congr{γ γ':Gh}{H H':Hp}(hr:∀(t:Nat) row,γ'.rows[t]? =some row→γ.rows[t]? =some row)(ht:∀(t f:Nat),H'.tk[t]? =some f→H.tk[t]? =some f){t b:Nat}(h:cY γ' H' t b):cY γ H t b:=by
 obtain⟨row,f,cap,h1,h2,h3,h4⟩:=h;exact⟨row,f,cap,hr _ _ h1,ht _ _ h2,h3,h4⟩
theorem qd.keep{γ':Gh}{w':World}{row:Row}{f:Nat}{r:Option (Nat×Nat)}(h:qd γ w row f r)(ht:∀b x,γ.br b=some x→γ'.br b=some x)
    (hh:∀b cap,r=some (b,cap)→f<cap→w'.heap[b]? =w.heap[b]?) (hm:∀b cap,r=some (b,cap)→f<cap→∀o,γ'.mem b o=γ.mem b o) (hb:∀b cap,r=some (b,cap)→f<cap→b∉γ.boxes→b∉γ'.boxes):qd γ' w' row f r:=by
 match r,h with
 |none,h=>exact h
 |some (b,cap),⟨hle,h⟩=>
  refine⟨⟨hle.1,ht _ _ hle.2⟩,fun ah=>?_⟩;obtain⟨cur,fr,h1,h0,h2,h3,h4,h5⟩:=h ah;exact⟨cur,fr,(hh b cap rfl ah).trans h1,h0,h2,h3,fun o ho=>(hm b cap rfl ah o).trans (h4 o ho),hb b cap rfl ah h5⟩
theorem qd.Qj{γ':Gh}{w':World}{row:Row}{f:Nat}{r:Option (Nat×Nat)}(h:qd γ w row f r)(ht:∀b x,γ.br b=some x→γ'.br b=some x)
    (hh:∀b cap,r=some (b,cap)→f<cap→qc (γ'.mem b) (w.heap[b]?) (w'.heap[b]?)) (hm:∀b cap,r=some (b,cap)→f<cap→∀o,γ'.mem b o=γ.mem b o) (hb:∀b cap,r=some (b,cap)→f<cap→b∉γ.boxes→b∉γ'.boxes):qd γ' w' row f r:=by
 match r,h with
 |none,h=>exact h
 |some (b,cap),⟨hle,h⟩=>
  refine⟨⟨hle.1,ht _ _ hle.2⟩,fun ah=>?_⟩;obtain⟨cur,fr,h1,h0,h2,h3,h4,h5⟩:=h ah;have C3:∀o,f*row.sz≤o→γ'.mem b o=none:=fun o ho=>(hm b cap rfl ah o).trans (h4 o ho);rcases hh b cap rfl ah with e |⟨cs,T,rO,ct,e1,e2,e3⟩
  ·exact⟨cur,fr,e.trans h1,h0,h2,h3,C3,hb b cap rfl ah h5⟩
  ·rw[h1] at e1;cases e1;refine⟨cur,ct,e2,fun k hk bW hf=>?_,h2,h3,C3,hb b cap rfl ah h5⟩;rcases e3 k bW hf with q |q
   ·exact h0 k hk bW q
   ·exact q (C3 k hk)
theorem Inv.Zg{G:Nat→Option (List PD)}{γ:Gh}{H:Hp}{w:World}(I:Inv G γ H w){b:Nat}{x:Nat×Nat}(h:γ.br b=some x):b<w.heap.size:=by
 obtain⟨us,fr,h2,h3⟩:=I.br b x.1 x.2 h;exact(gz.1 h2).1
theorem sZ{bs:List Nat}{hs:List (List D)}(hl:bs.length=hs.length){a:Nat}{cs:List D}{i b:Nat}{c:List D}(h1:(bs++[a])[i]? =some b)(h2:(hs++[cs])[i]? =some c):
    (bs[i]? =some b∧hs[i]? =some c)∨(i=bs.length∧b=a∧c=cs):=by
 by_cases hi:i<bs.length
 ·rw[cH hi] at h1;rw[cH (by omega)] at h2;exact .inl ⟨h1,h2⟩
 ·have :i=bs.length:=by
   have:=(az.1 h1).1;simp at this;omega
  subst this;rw[eL (aV _)] at h1;rw[hl,eL (aV _)] at h2;simp at h1 h2;exact .inr ⟨rfl,h1.symm,h2.symm⟩
theorem Lv.push{γ γ':Gh}{H H':Hp}{a:Nat}{cs:List D}(hl:γ.boxes.length=H.bx.length)(hb:γ'.boxes=γ.boxes++[a])(hh:H'.bx=H.bx++[cs]){b:Nat}(h:Lv γ' H' b):Lv γ H b∨(b=a∧cs≠[]):=by
 obtain⟨i,c,h1,h2,h3⟩:=h;rw[hb] at h1;rw[hh] at h2;rcases sZ hl h1 h2 with⟨a1,a2⟩ |⟨_,rfl,rfl⟩
 ·exact .inl ⟨i,c,a1,a2,h3⟩
 ·exact .inr ⟨rfl,h3⟩
theorem Inv.Gq(I:Inv G γ H w){γ':Gh}{H':Hp}{a:Nat}{cs:List D}(ha:¬Lv γ H a)(hb:γ'.boxes=γ.boxes++[a])(hh:H'.bx=H.bx++[cs]):
    ∀(i j b:Nat) ci cj,γ'.boxes[i]? =some b→γ'.boxes[j]? =some b→H'.bx[i]? =some ci→H'.bx[j]? =some cj→ci≠[]→cj≠[]→i=j:=by
 intro i j b ci cj h1 h2 h3 h4 n1 n2;rw[hb] at h1 h2;rw[hh] at h3 h4;rcases sZ I.cT h1 h3 with⟨a1,a2⟩ |⟨a1,a2,a3⟩
 ·rcases sZ I.cT h2 h4 with⟨b1,b2⟩ |⟨b1,b2,b3⟩
  ·exact I.nodup i j b ci cj a1 b1 a2 b2 n1 n2
  ·subst b2;exact(ha ⟨i,ci,a1,a2,n1⟩).elim
 ·rcases sZ I.cT h2 h4 with⟨b1,b2⟩ |⟨b1,b2,b3⟩
  ·subst a2;exact(ha ⟨j,cj,b1,b2,n2⟩).elim
  ·omega
theorem Lv.set{γ:Gh}{H:Hp}{i:Nat}{cs bL:List D}(hc:H.bx[i]? =some cs)(hn:cs≠[]){b:Nat}(h:Lv γ {H with bx:=H.bx.set i bL} b):Lv γ H b:=by
 obtain⟨j,c,h1,h2,h3⟩:=h;have h2:(H.bx.set i bL)[j]? =some c:=h2;by_cases cQ:i=j
 ·subst cQ;exact⟨i,cs,h1,hc,hn⟩
 ·rw[dH cQ] at h2;exact⟨j,c,h1,h2,h3⟩
theorem Inv.Gs(I:Inv G γ H w){i:Nat}{cs bL:List D}(hc:H.bx[i]? =some cs)(hn:cs≠[]):
    ∀(j k b:Nat) ci cj,γ.boxes[j]? =some b→γ.boxes[k]? =some b→(H.bx.set i bL)[j]? =some ci→(H.bx.set i bL)[k]? =some cj→ci≠[]→cj≠[]→j=k:=by
 intro j k b ci cj h1 h2 h3 h4 n1 n2;have q:∀m c,(H.bx.set i bL)[m]? =some c→c≠[]→∃c0,H.bx[m]? =some c0∧c0≠[]:=fun m c h n=>by
  by_cases hm:i=m
  ·subst hm;exact⟨cs,hc,hn⟩
  ·rw[dH hm] at h;exact⟨c,h,n⟩
 obtain⟨c1,e1,m1⟩:=q j ci h3 n1;obtain⟨c2,e2,m2⟩:=q k cj h4 n2;exact I.nodup j k b c1 c2 h1 h2 e1 e2 m1 m2
theorem Inv.KB(I:Inv G γ H w):¬Lv γ H w.heap.size:=fun h=>by have:=I.mP h.mem;omega
theorem Inv.Zh(I:Inv G γ H w){vs:Array Value}{cs:List D}(T k:Nat)(hk:k<2)(rO:Nat×Nat)(C4:k=0→rO.2≤vs.size∧rO.1≤rO.2)(dr:clear rO 0 vs.size)(KC:∀γ':Gh,γ.le γ'→γ'.boxes[H.bx.length]? =some w.heap.size→γ'.br w.heap.size=some (2*T+k,vs.size)→eT γ' vs cs)(h1:∀c∈cs,c.one=true):
    ∃γ',γ.le γ'∧γ'.boxes[H.bx.length]? =some w.heap.size∧γ'.br w.heap.size=some (2*T+k,vs.size)∧Frame γ H w γ' {H with bx:=H.bx++[cs]} (w.alloc (.cells vs T rO))∧Inv G γ' {H with bx:=H.bx++[cs]} (w.alloc (.cells vs T rO)):=by
 let γ':Gh:={γ with boxes:=γ.boxes++[w.heap.size],br:=fun c=>if c=w.heap.size then some (2*T+k,vs.size) else γ.br c}
 have hle:γ.le γ':=⟨rfl,fun c x h=>by
  have:=I.Zg h;show(if c=w.heap.size then some (2*T+k,vs.size) else γ.br c)=some x;rw[if_neg (by omega)];exact h,fun _ _ _ h=>h,fun i b h=>by
  have hi:i<γ.boxes.length:=(az.1 h).1;show(γ.boxes++[w.heap.size])[i]? =some b;rw[cH hi];exact h,fun t r h=>⟨r,h,rfl,rfl,fun _ _ h=>h⟩⟩
 have dK:∀t b,cY γ' {H with bx:=H.bx++[cs]} t b→cY γ H t b:=fun t b h=>cY.congr (fun _ _ h=>h) (fun _ _ h=>h) h;have bX:γ'.boxes[H.bx.length]? =some w.heap.size:=by
  show(γ.boxes++[w.heap.size])[H.bx.length]? =_;rw[←I.cT];simp
 have hr:eT γ' vs cs:=KC γ' hle bX (by show(if w.heap.size=w.heap.size then some (2*T+k,vs.size) else γ.br w.heap.size)=_;rw[if_pos rfl]);refine⟨γ',hle,bX,(by show(if w.heap.size=w.heap.size then some (2*T+k,vs.size) else γ.br w.heap.size)=_;rw[if_pos rfl]),?_,?_⟩
 ·refine⟨rfl,rfl,rfl,by simp,fun b hb _=>?_,fun b o _ _=>rfl,fun b hb=>?_,fun t b hb=>.inl (dK t b hb),fun b hb=>by
  rcases cW.1 (show b∈γ.boxes++[w.heap.size] from hb) with h |h
  ·exact .inl h
  ·exact .inr (by simp at h;omega)⟩
  ·rw[heap_alloc,if_neg (by omega)];exact⟨fun _=>rfl,.refl _ _⟩
  ·rcases Lv.push (γ':=γ') (H':={H with bx:=H.bx++[cs]}) I.cT rfl rfl hb with h |h
   ·exact .inl h
   ·exact .inr (by omega)
 ·constructor
  ·have:=I.size;show γ.base≤(w.alloc (.cells vs T rO)).heap.size;simp;omega
  ·intro b T' n hb;have hb:(if b=w.heap.size then some (2*T+k,vs.size) else γ.br b)=some (T',n):=hb;by_cases he:b=w.heap.size
   ·rw[if_pos he] at hb;cases hb;exact⟨vs,rO,by rw[heap_alloc,if_pos he,show(2*T+k)/2=T by omega],rfl,fun hm=>C4 (by omega)⟩
   ·rw[if_neg he] at hb;obtain⟨us,fr,h2,h3⟩:=I.br b T' n hb;exact⟨us,fr,by rw[heap_alloc,if_neg he];exact h2,h3⟩
  ·exact I.iV
  ·intro b o v h;have ah:=I.qP h;rw[ux (w:=w) (by rw[heap_alloc,if_neg (by omega)])];exact I.mem b o v h
  ·exact I.jQ
  ·show(γ.boxes++[w.heap.size]).length=(H.bx++[cs]).length;simp[I.cT]
  ·exact I.Gq I.KB rfl rfl
  ·intro i b bL hb hc;have hb:(γ.boxes++[w.heap.size])[i]? =some b:=hb;have hc:(H.bx++[cs])[i]? =some bL:=hc;by_cases hi:i<γ.boxes.length
   ·rw[cH hi] at hb;rw[cH (by rw[←I.cT];exact hi)] at hc;obtain⟨cv,T',ct,a1,a2,a3⟩:=I.box i b bL hb hc;have:=I.mP (bS hb);exact⟨cv,T',ct,by rw[heap_alloc,if_neg (by omega)];exact a1,a2.mono hle,a3⟩
   ·have fk:i=γ.boxes.length:=by
     have:=(az.1 hb).1;simp at this;omega
    subst fk;rw[eL (aV _)] at hb;rw[I.cT,eL (aV _)] at hc;simp at hb hc;subst hb;subst hc;exact⟨vs,T,rO,by rw[heap_alloc,if_pos rfl,iU (C0 h1)],hr,fun _=>h1,fun _=>dr⟩
  ·intro b o hb;rcases Lv.push (γ':=γ') (H':={H with bx:=H.bx++[cs]}) I.cT rfl rfl hb with h |⟨h,_⟩
   ·exact I.iw b o h
   ·subst h;show γ.mem w.heap.size o=none;cases hm:γ.mem w.heap.size o with
    |none=>rfl
    |some v=>have:=I.qP hm;omega
  ·intro i b h1 h2;have h2:(H.bx++[cs])[i]? =some []:=h2;have h1:(γ.boxes++[w.heap.size])[i]? =some b:=h1;rcases sZ I.cT h1 h2 with⟨a1,a2⟩ |⟨_,rfl,_⟩
   ·obtain⟨x,hx⟩:=I.jE i b a1 a2;exact⟨x,hle.br _ _ hx⟩
   ·exact⟨(2*T+k,vs.size),by show(if w.heap.size=w.heap.size then some (2*T+k,vs.size) else γ.br w.heap.size)=_;rw[if_pos rfl]⟩
  ·exact I.fY
  ·intro t row f h1 h2;obtain⟨r,a1,a2⟩:=I.row t row f h1 h2;refine⟨r,a1,a2.keep hle.br (fun b cap hr ah=>?_) (fun b cap hr ah o=>rfl) (fun b cap hr ah hb cb=>?_)⟩
   ·have:=I.nE ⟨row,f,cap,h1,h2,hr▸a1,ah⟩;rw[heap_alloc,if_neg (by omega)]
   ·have cb:b∈γ.boxes++[w.heap.size]:=cb;have:=I.nE ⟨row,f,cap,h1,h2,hr▸a1,ah⟩;rcases cW.1 cb with h |h
    ·exact hb h
    ·simp at h;omega
  ·exact I.jR
  ·intro t t' b h h';exact I.free t t' b (dK t b h) (dK t' b h')
theorem Inv.Ar(I:Inv G γ H w){vs:Array Value}{cs:List D}(T:Nat)(KC:∀γ':Gh,γ.le γ'→γ'.boxes[H.bx.length]? =some w.heap.size→γ'.br w.heap.size=some (2*T,vs.size)→eT γ' vs cs)(h1:∀c∈cs,c.one=true):
    ∃γ',γ.le γ'∧γ'.boxes[H.bx.length]? =some w.heap.size∧γ'.br w.heap.size=some (2*T,vs.size)∧Frame γ H w γ' {H with bx:=H.bx++[cs]} (w.alloc (.cells vs T))∧Inv G γ' {H with bx:=H.bx++[cs]} (w.alloc (.cells vs T)):=
 I.Zh T 0 (by decide) (0,0) (fun _=>⟨b9 _,aV _⟩) (fun _ _ _ hk=>by omega) KC h1
theorem Inv.KD(I:Inv G γ H w){vs:Array Value}{cs:List D}(T:Nat)(hr:eT γ vs cs)(h1:∀c∈cs,c.one=true):
    ∃γ',γ.le γ'∧γ'.boxes[H.bx.length]? =some w.heap.size∧Frame γ H w γ' {H with bx:=H.bx++[cs]} (w.alloc (.cells vs T))∧Inv G γ' {H with bx:=H.bx++[cs]} (w.alloc (.cells vs T)):=by
 obtain⟨γ',a1,a2,_,a3,a4⟩:=I.Ar T (fun _ h _ _=>hr.mono h) h1;exact⟨γ',a1,a2,a3,a4⟩
theorem Inv.Qk(I:Inv G γ H w)(o:Obj):Frame γ H w γ H (w.alloc o)∧Inv G γ H (w.alloc o):=by
 refine⟨⟨rfl,rfl,rfl,by simp,fun b hb _=>?_,fun b o _ _=>rfl,fun b hb=>.inl hb,fun t b hb=>.inl hb,fun b hb=>.inl hb⟩,?_⟩
 ·rw[heap_alloc,if_neg (by omega)];exact⟨fun _=>rfl,.refl _ _⟩
 ·constructor
  ·have:=I.size;simp;omega
  ·intro b T' n hb;obtain⟨us,fr,h2,h3⟩:=I.br b T' n hb;have:=(gz.1 h2).1;exact⟨us,fr,by rw[heap_alloc,if_neg (by omega)];exact h2,h3⟩
  ·exact I.iV
  ·intro b o v h;have ah:=I.qP h;rw[ux (w:=w) (by rw[heap_alloc,if_neg (by omega)])];exact I.mem b o v h
  ·exact I.jQ
  ·exact I.cT
  ·exact I.nodup
  ·intro i b bL hb hc;obtain⟨cv,T',ct,a1,a2,a3⟩:=I.box i b bL hb hc;have:=I.mP (bS hb);exact⟨cv,T',ct,by rw[heap_alloc,if_neg (by omega)];exact a1,a2,a3⟩
  ·exact I.iw
  ·exact I.jE
  ·exact I.fY
  ·intro t row f h1 h2;obtain⟨r,a1,a2⟩:=I.row t row f h1 h2;refine⟨r,a1,a2.keep (fun _ _ h=>h) (fun b cap hr ah=>?_) (fun b cap hr ah o=>rfl) (fun b cap hr ah hb=>hb)⟩;have:=I.nE ⟨row,f,cap,h1,h2,hr▸a1,ah⟩;rw[heap_alloc,if_neg (by omega)]
  ·exact I.jR
  ·exact I.free
def Gh.eM(γ:Gh)(b T:Nat)(vs:Array Value):Gh:={γ with mem:=fun c o=>if c=b then vs[o]? else γ.mem c o,br:=fun c=>if c=b then some (2*T,vs.size) else γ.br c}
theorem Inv.Gt{G:Nat→Option (List PD)}{γ:Gh}{H:Hp}{w:World}(I:Inv G γ H w){b:Nat}{x:Nat×Nat}(h:γ.br b=some x):b<w.heap.size:=by
 obtain⟨us,fr,h2,_⟩:=I.br b x.1 x.2 h;exact(gz.1 h2).1
theorem Gh.Zi(I:Inv G γ H w){b:Nat}(hb:w.heap.size≤b)(T:Nat)(vs:Array Value):γ.le (γ.eM b T vs):=
 ⟨rfl,fun c x h=>by
  have:=I.Gt h;show(if c=b then some (2*T,vs.size) else γ.br c)=some x;rw[if_neg (by omega)];exact h,fun c o v h=>by
  have:=I.qP h;show(if c=b then vs[o]? else γ.mem c o)=some v;rw[if_neg (by omega)];exact h,fun _ _ h=>h,fun t r h=>⟨r,h,rfl,rfl,fun _ _ h=>h⟩⟩
theorem Inv.newRow(I:Inv G γ H w)(vs:Array Value)(T:Nat)(fr:Nat×Nat)(C4:fr.2≤vs.size∧fr.1≤fr.2):
    γ.le (γ.eM w.heap.size T vs)∧Frame γ H w (γ.eM w.heap.size T vs) H (w.alloc (.cells vs T fr))∧Inv G (γ.eM w.heap.size T vs) H (w.alloc (.cells vs T fr)):=by
 have hle:=Gh.Zi I (aV _) T vs;have aq:∀b o v,γ.mem b o=some v→b≠w.heap.size:=fun b o v h=>by have:=I.qP h;omega
 have ey:∀b o,b≠w.heap.size→(γ.eM w.heap.size T vs).mem b o=γ.mem b o:=fun b o h=>by simp[Gh.eM,h]
 refine⟨hle,⟨rfl,rfl,rfl,by simp,fun b hb _=>?_,fun b o hb _=>ey b o (by omega),fun b hb=>.inl hb,fun _ _ hb=>.inl hb,fun b hb=>.inl hb⟩,?_⟩
 ·rw[heap_alloc,if_neg (by omega)];exact⟨fun _=>rfl,.refl _ _⟩
 ·constructor
  ·have:=I.size;show γ.base≤(w.alloc (.cells vs T fr)).heap.size;simp;omega
  ·intro b T' n hb;have hb:(if b=w.heap.size then some (2*T,vs.size) else γ.br b)=some (T',n):=hb;by_cases he:b=w.heap.size
   ·rw[if_pos he] at hb;cases hb;exact⟨vs,fr,by rw[heap_alloc,if_pos he,Yw T (by decide:0<2)],rfl,fun _=>C4⟩
   ·rw[if_neg he] at hb;obtain⟨us,ct,h2,h3⟩:=I.br b T' n hb;exact⟨us,ct,by rw[heap_alloc,if_neg he];exact h2,h3⟩
  ·exact I.iV
  ·intro b o v h;by_cases hb:b=w.heap.size
   ·subst hb;have h:vs[o]? =some v:=by simpa[Gh.eM] using h
    have hh:(w.alloc (.cells vs T fr)).heap[w.heap.size]? =some (.cells vs T fr):=by rw[heap_alloc,if_pos rfl]
    unfold World.cell?;simp only[hh];exact h
   ·rw[ey b o hb] at h;rw[ux (w:=w) (by rw[heap_alloc,if_neg hb])];exact I.mem b o v h
  ·intro g cs hg j c hc;obtain⟨h1,v,h2,h3⟩:=I.jQ g cs hg j c hc;exact⟨h1,v,hle.mem _ _ _ h2,h3.mono hle.mem⟩
  ·exact I.cT
  ·exact I.nodup
  ·intro i b cs hb hc;obtain⟨cv,T',ct,a1,a2,a3⟩:=I.box i b cs hb hc;have:=I.mP (bS hb);exact⟨cv,T',ct,by rw[heap_alloc,if_neg (by omega)];exact a1,a2.mono hle,a3⟩
  ·intro b o hb;have:=I.mP hb.mem;rw[ey b o (by omega)];exact I.iw b o hb
  ·exact fun i b h1 h2=>(I.jE i b h1 h2).imp fun x hx=>hle.br _ _ hx
  ·exact I.fY
  ·intro t row f h1 h2;obtain⟨r,a1,a2⟩:=I.row t row f h1 h2;refine⟨r,a1,a2.keep hle.br (fun b cap hr ah=>?_) (fun b cap hr ah o=>?_) (fun b cap hr ah hb=>hb)⟩
   ·have:=I.nE ⟨row,f,cap,h1,h2,hr▸a1,ah⟩;rw[heap_alloc,if_neg (by omega)]
   ·have:=I.nE ⟨row,f,cap,h1,h2,hr▸a1,ah⟩;exact ey b o (by omega)
  ·exact I.jR
  ·exact I.free
def Gh.wk(γ:Gh)(b:Nat)(vs:Array Value):Gh:={γ with mem:=fun c o=>if c=b then vs[o]? else γ.mem c o}
theorem Gh.Zj(I:Inv G γ H w){b:Nat}(hb:w.heap.size≤b)(vs:Array Value):γ.le (γ.wk b vs):=
 ⟨rfl,fun _ _ h=>h,fun c o v h=>by
  have:=I.qP h;show(if c=b then vs[o]? else γ.mem c o)=some v;rw[if_neg (by omega)];exact h,fun _ _ h=>h,fun t r h=>⟨r,h,rfl,rfl,fun _ _ h=>h⟩⟩
theorem Inv.Zk(I:Inv G γ H w)(vs:Array Value)(T:Nat)(fr:Nat×Nat):
    γ.le (γ.wk w.heap.size vs)∧Frame γ H w (γ.wk w.heap.size vs) H (w.alloc (.cells vs T fr))∧Inv G (γ.wk w.heap.size vs) H (w.alloc (.cells vs T fr)):=by
 have hle:=Gh.Zj I (aV _) vs;have aq:∀b o v,γ.mem b o=some v→b≠w.heap.size:=fun b o v h=>by have:=I.qP h;omega
 have ey:∀b o,b≠w.heap.size→(γ.wk w.heap.size vs).mem b o=γ.mem b o:=fun b o h=>by simp[Gh.wk,h]
 refine⟨hle,⟨rfl,rfl,rfl,by simp,fun b hb _=>?_,fun b o hb _=>ey b o (by omega),fun b hb=>.inl hb,fun _ _ hb=>.inl hb,fun b hb=>.inl hb⟩,?_⟩
 ·rw[heap_alloc,if_neg (by omega)];exact⟨fun _=>rfl,.refl _ _⟩
 ·constructor
  ·have:=I.size;show γ.base≤(w.alloc (.cells vs T fr)).heap.size;simp;omega
  ·intro b T' n hb;have:=I.Gt hb;obtain⟨us,ct,h2,h3⟩:=I.br b T' n hb;exact⟨us,ct,by rw[heap_alloc,if_neg (by omega)];exact h2,h3⟩
  ·exact I.iV
  ·intro b o v h;by_cases hb:b=w.heap.size
   ·subst hb;have h:vs[o]? =some v:=by simpa[Gh.wk] using h
    have hh:(w.alloc (.cells vs T fr)).heap[w.heap.size]? =some (.cells vs T fr):=by rw[heap_alloc,if_pos rfl]
    unfold World.cell?;simp only[hh];exact h
   ·rw[ey b o hb] at h;rw[ux (w:=w) (by rw[heap_alloc,if_neg hb])];exact I.mem b o v h
  ·intro g cs hg j c hc;obtain⟨h1,v,h2,h3⟩:=I.jQ g cs hg j c hc;exact⟨h1,v,hle.mem _ _ _ h2,h3.mono hle.mem⟩
  ·exact I.cT
  ·exact I.nodup
  ·intro i b cs hb hc;obtain⟨cv,T',ct,a1,a2,a3⟩:=I.box i b cs hb hc;have:=I.mP (bS hb);exact⟨cv,T',ct,by rw[heap_alloc,if_neg (by omega)];exact a1,a2.mono hle,a3⟩
  ·intro b o hb;have:=I.mP hb.mem;rw[ey b o (by omega)];exact I.iw b o hb
  ·exact fun i b h1 h2=>(I.jE i b h1 h2).imp fun x hx=>hle.br _ _ hx
  ·exact I.fY
  ·intro t row f h1 h2;obtain⟨r,a1,a2⟩:=I.row t row f h1 h2;refine⟨r,a1,a2.keep hle.br (fun b cap hr ah=>?_) (fun b cap hr ah o=>?_) (fun b cap hr ah hb=>hb)⟩
   ·have:=I.nE ⟨row,f,cap,h1,h2,hr▸a1,ah⟩;rw[heap_alloc,if_neg (by omega)]
   ·have:=I.nE ⟨row,f,cap,h1,h2,hr▸a1,ah⟩;exact ey b o (by omega)
  ·exact I.jR
  ·exact I.free
theorem Inv.drew(I:Inv G γ H w):Inv G γ H w.drew:=⟨I.size,I.br,I.iV,I.mem,I.jQ,I.cT,I.nodup,I.box,I.iw,I.jE,I.fY,I.row,I.jR,I.free⟩
theorem Frame.drew(γ:Gh)(H:Hp)(w:World):Frame γ H w γ H w.drew:=⟨rfl,rfl,rfl,aV _,fun _ _ _=>⟨fun _=>rfl,.refl _ _⟩,fun _ _ _ _=>rfl,fun _ h=>.inl h,fun _ _ h=>.inl h,fun _ h=>.inl h⟩
theorem Ql(l:List D)(off:Nat)(cs:List D)(h:off+cs.length≤l.length)(j:Nat):
    (aE l off cs)[j]? =if j<off then l[j]? else if j<off+cs.length then cs[j-off]? else l[j]?:=by
 unfold aE;by_cases h1:j<off
 ·rw[if_pos h1,oc,cH (by simp;omega),j7,if_pos h1]
 ·rw[if_neg h1,oc,eL (by simp;omega)];have hl:(l.take off).length=off:=by simp;omega
  rw[hl];by_cases h2:j<off+cs.length
  ·rw[if_pos h2,cH (by omega)]
  ·rw[if_neg h2,eL (by omega),oZ];congr 1;omega
theorem Qm{l:List D}{off:Nat}{cs:List D}{c:D}(h:c∈aE l off cs):c∈l∨c∈cs:=by
 unfold aE at h;rcases cW.1 h with h |h
 ·rcases cW.1 h with h |h
  ·exact .inl (j8 h)
  ·exact .inr h
 ·exact .inl (sU h)
theorem KE(l:List D)(off:Nat)(cs:List D)(h:off+cs.length≤l.length):(aE l off cs).length=l.length:=by
 unfold aE;simp;omega
theorem eT.aE{γ:Gh}{vs:Array Value}{cs:List D}(r:eT γ vs cs){us:List Value}{ds:List D}(q:cy γ us.toArray ds)(off:Nat)(h:off+ds.length≤cs.length):
    eT γ (vs.toList.take off++us++vs.toList.drop (off+us.length)).toArray (Vs.aE cs off ds):=by
 have KF:us.length=ds.length:=by simpa using q.1
 have C6:cs.length≤vs.toList.length:=by simpa using r.1
 have lY:cs.length≤vs.size:=r.1;refine⟨by rw[KE _ _ _ h];simp;omega,fun i d hd=>?_⟩;rw[Ql _ _ _ h] at hd;have hg:((vs.toList.take off++us++vs.toList.drop (off+us.length)).toArray.getD i undef)=((vs.toList.take off++us++vs.toList.drop (off+us.length))[i]?).getD undef:=by
  simp[bN]
 rw[hg];by_cases h1:i<off
 ·rw[if_pos h1] at hd;rw[oc,cH (by simp;omega),j7,if_pos h1];have:=r.2 i d hd;simpa[bN] using this
 ·rw[if_neg h1] at hd;rw[oc,eL (by simp;omega)];have hl:(vs.toList.take off).length=off:=by simp;omega
  rw[hl];by_cases h2:i<off+ds.length
  ·rw[if_pos h2] at hd;rw[cH (by omega)];have:=q.2 (i-off) d hd;simpa[bN] using this
  ·rw[if_neg h2] at hd;rw[eL (by omega),oZ];have e:off+us.length+(i-off-us.length)=i:=by omega
   rw[e];have:=r.2 i d hd;simpa[bN] using this
theorem Inv.store(I:Inv G γ H w){i b off:Nat}{cs:List D}(hb:γ.boxes[i]? =some b)(hc:H.bx[i]? =some cs){us:List Value}{ds:List D}(q:cy γ us.toArray ds)
    (h1:∀d∈ds,d.one=true) (fx:off+ds.length≤cs.length) {vs:Array Value} {T:Nat} {fr:Nat×Nat} (hw:w.heap[b]? =some (.cells vs T fr)) (iy:clear fr 0 vs.size) (hv:eT γ vs cs) (oA:aU cs=false) (nF:cs≠[]):
    Frame γ H w γ {H with bx:=H.bx.set i (Vs.aE cs off ds)} (w.setRow b (vs.toList.take off++us++vs.toList.drop (off+us.length)).toArray)∧
     Inv G γ {H with bx:=H.bx.set i (Vs.aE cs off ds)} (w.setRow b (vs.toList.take off++us++vs.toList.drop (off+us.length)).toArray):=by
 have ey:b∈γ.boxes:=bS hb;have kF:Lv γ H b:=⟨i,cs,hb,hc,nF⟩;have hi:i<H.bx.length:=(az.1 hc).1;have dK:∀t c,cY γ {H with bx:=H.bx.set i (Vs.aE cs off ds)} t c→cY γ H t c:=fun t c h=>cY.congr (fun _ _ h=>h) (fun _ _ h=>h) h;refine⟨⟨rfl,rfl,rfl,by simp[World.setRow],fun c _ ho=>by rw[setRow_other w b c _ (fun e=>ho (.inl (e▸kF)))];exact⟨fun _=>rfl,.refl _ _⟩,fun _ _ _ _=>rfl,fun c kX=>.inl (Lv.set hc nF kX),fun t c h=>.inl (dK t c h),fun _ h=>.inl h⟩,?_⟩
 ·constructor
  ·have:=I.size;simpa[World.setRow] using this
  ·intro c T' n kX;obtain⟨x7,ct,h2,h3⟩:=I.br c T' n kX;by_cases uy:c=b
   ·subst uy;rw[hw] at h2;cases h2;have h5:us.length=ds.length:=by simpa using q.1
    have h6:=hv.1;refine⟨_,_,setRow_heap w c vs _ _ _ hw,?_,h3.2⟩;rw[←h3.1];simp;omega
   ·exact⟨x7,ct,(setRow_other w b c _ uy).trans h2,h3⟩
  ·exact I.iV
  ·intro c o v h;have aq:c≠b:=fun e=>by subst e;rw[I.iw c o kF] at h;cases h
   rw[ux (w:=w) (setRow_other w b c _ aq)];exact I.mem c o v h
  ·exact I.jQ
  ·simp[I.cT]
  ·exact I.Gs hc nF
  ·intro j c bL hj ak;by_cases cQ:i=j
   ·subst cQ;rw[hb] at hj;cases hj;have ak:(H.bx.set i (Vs.aE cs off ds))[i]? =some bL:=ak;rw[j9 hi] at ak;cases ak;have aS:(vs.toList.take off++us++vs.toList.drop (off+us.length)).toArray.size=vs.size:=by
     have h2:us.length=ds.length:=by simpa using q.1
     have h3:=hv.1;simp;omega
    have eQ:∀c∈Vs.aE cs off ds,c.one=true:=fun c kX=>by
     rcases Qm kX with h |h
     ·obtain⟨_,_,_,_,_,a3,_⟩:=I.box i b cs hb hc;exact a3 oA c h
     ·exact h1 c h
    exact⟨_,T,fr,by rw[iU (C0 eQ)];exact setRow_heap w b vs _ T fr hw,hv.aE q off fx,fun _=>eQ,fun _=>by rw[aS];exact iy⟩
   ·have ak:(H.bx.set i (Vs.aE cs off ds))[j]? =some bL:=ak;rw[dH cQ] at ak;obtain⟨cv,T',ct,a1,a2,a3⟩:=I.box j c bL hj ak;by_cases he:c=b
    ·subst he;have hn:bL=[]:=qD fun hn=>cQ (I.nodup i j c cs bL hb hj hc ak nF hn);subst hn;exact⟨_,T,fr,by rw[iU rfl];exact setRow_heap w c vs _ T fr hw,⟨b9 _,fun i d hd=>by simp at hd⟩,fun _ c hc=>by simp at hc,fun h=>(h rfl).elim⟩
    ·exact⟨cv,T',ct,by rw[setRow_other w b c _ he];exact a1,a2,a3⟩
  ·exact fun c o h=>I.iw c o (Lv.set hc nF h)
  ·intro j c hj ak;have ak:(H.bx.set i (Vs.aE cs off ds))[j]? =some []:=ak;by_cases cQ:i=j
   ·subst cQ;rw[j9 hi] at ak;have ak:Vs.aE cs off ds=[]:=by simpa using ak
    have:=KE cs off ds fx;rw[ak] at this;exact(nF (Kb.1 this.symm)).elim
   ·rw[dH cQ] at ak;exact I.jE j c hj ak
  ·exact I.fY
  ·intro t row f h1 h2;obtain⟨r,a1,a2⟩:=I.row t row f h1 h2;refine⟨r,a1,?_⟩;refine a2.keep (fun _ _ h=>h) (fun c cap hr ah=>?_) (fun _ _ _ _ _=>rfl) (fun c cap hr ah h=>h);have aq:c≠b:=fun e=>by
    subst e;subst hr;obtain⟨cur,_,_,_,_,_,_,fZ⟩:=a2.2 ah;exact fZ ey
   exact setRow_other w b c _ aq
  ·exact I.jR
  ·intro t t' c h h';exact I.free t t' c (dK t c h) (dK t' c h')
theorem Inv.Gu(I:Inv G γ H w)(row:Row)(f:Nat)(r:Option (Nat×Nat))(h1:row.st f=some r)(hmx:∀n x,row.st n=some x→n≤f)
    (bV:qd γ w row f r) (eU:∀b cap,r=some (b,cap)→f=cap) (x8:∀n b cap,row.st n=some (some (b,cap))→γ.base≤b):
    γ.le {γ with rows:=γ.rows++[row]}∧Frame γ H w {γ with rows:=γ.rows++[row]} {H with tk:=H.tk++[f]} w∧Inv G {γ with rows:=γ.rows++[row]} {H with tk:=H.tk++[f]} w:=by
 have hle:γ.le {γ with rows:=γ.rows++[row]}:=⟨rfl,fun _ _ h=>h,fun _ _ _ h=>h,fun _ _ h=>h,fun t r h=>⟨r,by
  have hi:=(az.1 h).1;show(γ.rows++[row])[t]? =some r;rw[cH hi];exact h,rfl,rfl,fun _ _ h=>h⟩⟩
 have split :∀(t:Nat) dT f',(γ.rows++[row])[t]? =some dT→(H.tk++[f])[t]? =some f'→(γ.rows[t]? =some dT∧H.tk[t]? =some f')∨(dT=row∧f'=f):=by
  intro t dT f' a b;by_cases ht:t<γ.rows.length
  ·rw[cH ht] at a;rw[cH (by rw[←I.fY];exact ht)] at b;exact .inl ⟨a,b⟩
  ·have :t=γ.rows.length:=by
    have:=(az.1 a).1;simp at this;omega
   subst this;rw[eL (aV _)] at a;rw[I.fY,eL (aV _)] at b;simp at a b;exact .inr ⟨a.symm,b.symm⟩
 have dK:∀t b,cY {γ with rows:=γ.rows++[row]} {H with tk:=H.tk++[f]} t b→cY γ H t b:=by
  rintro t b ⟨dT,f',cap,a1,a2,a3,a4⟩;rcases split t dT f' a1 a2 with⟨b1,b2⟩ |⟨rfl,rfl⟩
  ·exact⟨dT,f',cap,b1,b2,a3,a4⟩
  ·rw[h1] at a3;cases a3;have:=eU b cap rfl;omega
 refine⟨hle,⟨rfl,rfl,rfl,aV _,fun _ _ _=>⟨fun _=>rfl,.refl _ _⟩,fun _ _ _ _=>rfl,fun b hb=>.inl hb,fun t b h=>.inl (dK t b h),fun _ h=>.inl h⟩,?_⟩
 ·constructor
  ·exact I.size
  ·intro b T' n hb;exact I.br b T' n hb
  ·intro t dT n b cap ht hs;have ht:(γ.rows++[row])[t]? =some dT:=ht;by_cases ah:t<γ.rows.length
   ·rw[cH ah] at ht;exact I.iV t dT n b cap ht hs
   ·rw[eL (by omega)] at ht;have :row=dT:=by
     have h0:t-γ.rows.length=0:=by
      have:=(az.1 ht).1;simp at this;omega
     rw[h0] at ht;simpa using ht
    subst this;exact x8 n b cap hs
  ·exact I.mem
  ·exact I.jQ
  ·exact I.cT
  ·exact I.nodup
  ·intro i b cs hb hc;obtain⟨cv,T',ct,a1,a2,a3⟩:=I.box i b cs hb hc;exact⟨cv,T',ct,a1,a2.mono hle,a3⟩
  ·exact I.iw
  ·exact I.jE
  ·simp[I.fY]
  ·intro t dT f' a b;rcases split t dT f' a b with⟨b1,b2⟩ |⟨rfl,rfl⟩
   ·obtain⟨r',c1,c2⟩:=I.row t dT f' b1 b2;exact⟨r',c1,c2.keep hle.br (fun _ _ _ _=>rfl) (fun _ _ _ _ _=>rfl) (fun _ _ _ _ h=>h)⟩
   ·exact⟨r,h1,bV.keep hle.br (fun _ _ _ _=>rfl) (fun _ _ _ _ _=>rfl) (fun _ _ _ _ h=>h)⟩
  ·intro t dT f' a b;rcases split t dT f' a b with⟨b1,b2⟩ |⟨rfl,rfl⟩
   ·exact I.jR t dT f' b1 b2
   ·exact hmx
  ·intro t t' b h h';exact I.free t t' b (dK t b h) (dK t' b h')
def Row.grow(row:Row)(f' b cap:Nat):Row:={row with st:=fun n=>if n=f' then some (some (b,cap)) else row.st n}
def Gh.grow(γ:Gh)(t:Nat)(row:Row)(f' b cap:Nat)(cur:Array Value):Gh:=
 {γ with mem:=fun c o=>if c=b then(if o<f'*row.sz then cur[o]? else none) else γ.mem c o,rows:=γ.rows.set t (row.grow f' b cap),br:=fun c=>if c=b then some (2*row.e,cap*row.sz) else γ.br c}
theorem Inv.Qn(I:Inv G γ H w){t f:Nat}{row:Row}(h1:γ.rows[t]? =some row)(h2:H.tk[t]? =some f){b cap f':Nat}{cur:Array Value}{fr:Nat×Nat}(hf:f<f')(dO:f'≤cap)(KG:cap≤maxLen)
    (aS:cur.size=cap*row.sz) {w1:World} (rP:w1.heap[b]? =some (.cells cur row.e fr)) (x9:clear fr (f'*row.sz) cur.size) (lH:∀c,c≠b→w1.heap[c]? =w.heap[c]?) (fZ:b∉γ.boxes)
    (hold:∀o v,γ.mem b o=some v→o<f'*row.sz∧cur[o]? =some v) (dK:∀t',t'≠t→¬cY γ H t' b) (Gv:b=w.heap.size∨cY γ H t b) (dP:∀x,γ.br b=some x→x=(2*row.e,cap*row.sz)) (C4:fr.2≤cap*row.sz∧fr.1≤fr.2)
    (uz:w1.os=w.os) (Zl:w1.tape=w.tape) (yb:w1.output=w.output) (Au:w.heap.size≤w1.heap.size):
    γ.le (γ.grow t row f' b cap cur)∧Frame γ H w (γ.grow t row f' b cap cur) {H with tk:=H.tk.set t f'} w1∧Inv G (γ.grow t row f' b cap cur) {H with tk:=H.tk.set t f'} w1:=by
 have kG:t<γ.rows.length:=(az.1 h1).1;have hmx:=I.jR t row f h1 h2;have uA:∀c o,c≠b→(γ.grow t row f' b cap cur).mem c o=γ.mem c o:=fun c o h=>by simp[Gh.grow,h]
 have hle:γ.le (γ.grow t row f' b cap cur):=by
  refine⟨rfl,fun c x h=>?_,fun c o v h=>?_,fun _ _ h=>h,fun s r hr=>?_⟩
  ·show(if c=b then some (2*row.e,cap*row.sz) else γ.br c)=some x;by_cases hc:c=b
   ·subst hc;rw[if_pos rfl,dP x h]
   ·rw[if_neg hc];exact h
  ·by_cases hc:c=b
   ·subst hc;obtain⟨a1,a2⟩:=hold o v h;simp[Gh.grow,a1,a2]
   ·rw[uA c o hc];exact h
  ·by_cases hs:t=s
   ·subst hs;rw[h1] at hr;cases hr;refine⟨row.grow f' b cap,by simp[Gh.grow,kG],rfl,rfl,fun n x hx=>?_⟩;have:=hmx n x hx;simp only[Row.grow];rw[if_neg (by omega)];exact hx
   ·exact⟨r,by simp only[Gh.grow];rw[dH hs];exact hr,rfl,rfl,fun _ _ h=>h⟩
 have split :∀(s:Nat) dT g,(γ.grow t row f' b cap cur).rows[s]? =some dT→(H.tk.set t f')[s]? =some g→(s=t∧dT=row.grow f' b cap∧g=f')∨(s≠t∧γ.rows[s]? =some dT∧H.tk[s]? =some g):=by
  intro s dT g a c;simp only[Gh.grow] at a;by_cases hs:t=s
  ·subst hs;rw[j9 kG] at a;rw[j9 (by rw[←I.fY];exact kG)] at c;cases a;cases c;exact .inl ⟨rfl,rfl,rfl⟩
  ·rw[dH hs] at a c;exact .inr ⟨Ne.symm hs,a,c⟩
 have iy:∀s c,cY (γ.grow t row f' b cap cur) {H with tk:=H.tk.set t f'} s c→(s=t∧c=b)∨(s≠t∧cY γ H s c):=by
  rintro s c ⟨dT,g,kH,a1,a2,a3,a4⟩;rcases split s dT g a1 a2 with⟨rfl,rfl,rfl⟩ |⟨b0,b1,b2⟩
  ·simp only[Row.grow,if_pos] at a3;cases a3;exact .inl ⟨rfl,rfl⟩
  ·exact .inr ⟨b0,dT,g,kH,b1,b2,a3,a4⟩
 refine⟨hle,⟨uz,Zl,yb,Au,fun c hc ho=>?_,fun c o hc ho=>?_,fun c hc=>.inl hc,fun s c h=>?_,fun _ h=>.inl h⟩,?_⟩
 ·have :w1.heap[c]? =w.heap[c]?:=by
   refine lH c fun e=>?_;subst e;rcases Gv with h |h
   ·omega
   ·exact ho (.inr ⟨t,h⟩)
  rw[this];exact⟨fun _=>rfl,.refl _ _⟩
 ·refine uA c o fun e=>?_;subst e;rcases Gv with h |h
  ·omega
  ·exact ho (.inr ⟨t,h⟩)
 ·rcases iy s c h with⟨rfl,rfl⟩ |⟨_,h⟩
  ·rcases Gv with h |h
   ·exact .inr (by omega)
   ·exact .inl h
  ·exact .inl h
 ·constructor
  ·exact gA I.size Au
  ·intro c T' n hc;have hc:(if c=b then some (2*row.e,cap*row.sz) else γ.br c)=some (T',n):=hc;by_cases he:c=b
   ·rw[if_pos he] at hc;cases hc;subst he;exact⟨cur,fr,by rw[Yw row.e (by decide:0<2)];exact rP,aS,fun _=>C4⟩
   ·rw[if_neg he] at hc;obtain⟨us,ct,h2,h3⟩:=I.br c T' n hc;exact⟨us,ct,(lH c he).trans h2,h3⟩
  ·intro s dT n c kH ht hs;simp only[Gh.grow] at ht;by_cases cC:t=s
   ·subst cC;rw[j9 kG] at ht;cases ht;simp only[Row.grow] at hs;split at hs
    ·cases hs;rcases Gv with h |⟨Zm,f2,KH,q1,q2,q3,_⟩
     ·have:=I.size;show γ.base≤_;omega
     ·exact I.iV t Zm _ _ _ q1 q3
    ·exact I.iV t row n c kH h1 hs
   ·rw[dH cC] at ht;exact I.iV s dT n c kH ht hs
  ·intro c o v h;by_cases hc:c=b
   ·subst hc;have h:(if o<f'*row.sz then cur[o]? else none)=some v:=by simpa[Gh.grow] using h
    split at h
    ·unfold World.cell?;simp only[rP];exact h
    ·cases h
   ·rw[uA c o hc] at h;rw[ux (w:=w) (lH c hc)];exact I.mem c o v h
  ·intro g cs hg j c hc;obtain⟨a1,v,a2,a3⟩:=I.jQ g cs hg j c hc;exact⟨a1,v,hle.mem _ _ _ a2,a3.mono hle.mem⟩
  ·exact I.cT
  ·exact I.nodup
  ·intro i c cs hb hc;obtain⟨cv,T',ct,a1,a2,a3⟩:=I.box i c cs hb hc;have aq:c≠b:=fun e=>fZ (e▸bS hb);exact⟨cv,T',ct,by rw[lH c aq];exact a1,a2.mono hle,a3⟩
  ·intro c o hc;have aq:c≠b:=fun e=>fZ (e▸hc.mem);rw[uA c o aq];exact I.iw c o hc
  ·exact fun i b h1 h2=>(I.jE i b h1 h2).imp fun x hx=>hle.br _ _ hx
  ·simp[Gh.grow,I.fY]
  ·intro s dT g a c;rcases split s dT g a c with⟨rfl,rfl,rfl⟩ |⟨b0,b1,b2⟩
   ·refine⟨some (b,cap),by simp[Row.grow],⟨dO,by simp[Gh.grow,Row.grow]⟩,fun _=>⟨cur,fr,rP,x9,aS,KG,fun o ho=>?_,fZ⟩⟩;have ho:g*row.sz≤o:=ho;simp only[Gh.grow,if_true];rw[if_neg (by omega)]
   ·obtain⟨r,c1,c2⟩:=I.row s dT g b1 b2;refine⟨r,c1,c2.keep hle.br (fun d kH hr ah=>?_) (fun d kH hr ah o=>?_) (fun _ _ _ _ h=>h)⟩
    ·refine lH d fun e=>?_;subst e;exact dK s b0 ⟨dT,g,kH,b1,b2,hr▸c1,ah⟩
    ·refine uA d o fun e=>?_;subst e;exact dK s b0 ⟨dT,g,kH,b1,b2,hr▸c1,ah⟩
  ·intro s dT g a c n x hx;rcases split s dT g a c with⟨rfl,rfl,rfl⟩ |⟨b0,b1,b2⟩
   ·simp only[Row.grow] at hx;split at hx
    ·omega
    ·have:=hmx n x hx;omega
   ·exact I.jR s dT g b1 b2 n x hx
  ·intro s s' c h h';rcases iy s c h with⟨e1,e2⟩ |⟨hn,q⟩
   ·rcases iy s' c h' with⟨e3,_⟩ |⟨cO,q'⟩
    ·rw[e1,e3]
    ·exact(dK s' cO (e2▸q')).elim
   ·rcases iy s' c h' with⟨_,e2⟩ |⟨cO,q'⟩
    ·exact(dK s hn (e2▸q)).elim
    ·exact I.free s s' c q q'
end Go.Vs
namespace Go.Vs
def Gw:Value→Option PD
 | .bool b=>some (.bool b)
 | .int k n=>some (.int k n)
 | .string s=>some (.str s.data.toList)
 | .pointer none=>some .iQ
 | .slice none 0 0=>some .aI
 | .nilFunc=>some .ot
 | .nilIface=>some .kA
 | .map none=>some .qI
 |_=>none
def Av:Value→Option PD
 | .agg cs=>(aP Gw cs.toList).map .agg
 |v=>Gw v
def aQ:Operand→Option aw
 | .tmp t=>some (.t t)
 | .const v=>(Av v).map fun x=>.c (.p x)
 | .global g=>some (.c (.eD g 0))
 | .func f=>some (.c (.fn f [] []))
def fP(P:Program)(t:TypeId):Option Nat:=(P.info? t).map (·.size)
def lZ(P:Program)(t:TypeId):Option (Option Nat):=
 match P.underlying t,fP P t with
 |some (.struct _),some n=>some (some n)
 |some (.array _ _),some n=>some (some n)
 |some _,some _=>some none
 |_,_=>none
def zeroOf(P:Program)(t:TypeId):Option PD:=
 match P.info? t with
 |some i=>match i.zero with
  |some z=>Av z
  |none=>none
 |none=>none
def C7(P:Program)(t:TypeId):Option Nat:=
 match P.underlying t with
 |some .bool=>some 0
 |some (.int _)=>some 1
 |some .string=>some 2
 |_=>none
def Gx:TypeDesc→Option Nat
 | .bool=>some 0
 | .int k=>some (mL k)
 | .string=>some 2
 |_=>none
def kindOf(P:Program)(t:TypeId):Option Nat:=
 match P.underlying t with
 |some (.array 3 e)=>match P.underlying e,fP P e with
  |some (.int k),some 1=>some (100+mL k)
  |_,_=>none
 |some d=>Gx d
 |none=>none
def Aw(P:Program)(i:Nat):List Field→Option (List Nat)
 |[]=>some []
 |f::r=>match C7 P f.type with
  |some t=>if f.offset=i∧(f.name== "_")=false then(Aw P (i+1) r).map (t:: ·) else none
  |none=>none
def partsOf(P:Program)(place:Nat→Option (Nat×Nat)):List (Nat×Operand)→Option (List (Nat×Nat×aw))
 |[]=>some []
 |(i,x)::r=>match place i,aQ x with
  |some (o,n),some y=>(partsOf P place r).map ((o,n,y):: ·)
  |_,_=>none
def Ax:List (Nat×Operand)→Option (List (Nat×aw))
 |[]=>some []
 |(i,x)::r=>match aQ x with
  |some y=>(Ax r).map ((i,y):: ·)
  |none=>none
def qe:Option Operand→Option (Option aw)
 |none=>some none
 |some x=>(aQ x).map some
def Gy(P:Program)(fields:List Field):Option (List (Nat×Nat)):=aP (fun f=>(fP P f.type).map fun n=>(f.offset,n)) fields
def Gz(du:TypeDesc)(e:TypeId)(i:TypeInfo)(z:Value):Bool:=
 (match du with | .slice e'=>e'==e | .string=>i.size==1 |_=>false)&&z.cells.size==i.size&&decide (0<i.size)
def Ay(P:Program)(c:Call):Option SK:=
 match c.callee with
 | .value f=>match aQ f,aP aQ c.args.toList with
  |some g,some as=>some (.call g as)
  |_,_=>none
 | .invoke _ _=>none
 | .builtin b=>match b,c.args.toList,c.argTypes.toList with
  | .len,[x],[t]=>match P.underlying t,aQ x with
   |some .string,some y=>some (.len 0 y)
   |some (.slice _),some y=>some (.len 1 y)
   |_,_=>none
  | .append,[s,x],[t,u]=>match P.underlying t,P.underlying u,aQ s,aQ x with
   |some (.slice e),some du,some s',some x'=>match P.info? e with
    |some i=>match i.zero with
     |some z=>if Gz du e i z then some (.append e i.size i.bytes s' x') else none
     |none=>none
    |none=>none
   |_,_,_,_=>none
  | .unsafeSliceData,[x],_=>(aQ x).map .sdata
  | .unsafeString,[x,n],[t,_]=>match P.underlying t,aQ x,aQ n with
   |some (.pointer e),some x',some n'=>if P.cellsOf e==1 then some (.ustr e x' n') else none
   |_,_,_=>none
  | .max,[x,y],_=>match aQ x,aQ y with
   |some a,some b=>some (.minmax true a b)
   |_,_=>none
  | .min,[x,y],_=>match aQ x,aQ y with
   |some a,some b=>some (.minmax false a b)
   |_,_=>none
  |_,_,_=>none
def Zn:Operand→Bool
 | .const _=>true
 |_=>false
def gO(P:Program):Op→Option SK
 | .move x=>(aQ x).map .move
 | .assign x=>(aQ x).map .move
 | .pick c a b=>match aQ c,aQ a,aQ b with
  |some c,some a,some b=>some (.pick c a b)
  |_,_,_=>none
 | .alloc e=>(zeroOf P e).map fun z=>.alloc z.cells
 | .box _ x=>(aQ x).map .box
 | .build t parts=>match P.underlying t,zeroOf P t with
  |some (.struct fs),some (.agg zs)=>match Gy P fs.toList with
   |some pl=>(partsOf P (pl[·]?) parts.toList).map (.build zs)
   |none=>none
  |some (.array _ e),some (.agg zs)=>match fP P e with
   |some n=>(partsOf P (fun i=>some (i*n,n)) parts.toList).map (.build zs)
   |none=>none
  |_,_=>none
 | .buildSlice t len parts=>match P.underlying t with
  |some (.slice e)=>match fP P e,zeroOf P e,Ax parts.toList with
   |some n,some z,some ps=>if len*n≤16777216∧0<n then some (.bslice e n len z ps) else none
   |_,_,_=>none
  |_=>none
 | .load t x=>match lZ P t,aQ x with
  |some n,some y=>some (.load n y)
  |_,_=>none
 | .store t a v=>match fP P t,aQ a,aQ v with
  |some n,some a,some v=>some (.store n a v)
  |_,_,_=>none
 | .nilCheck x=>(aQ x).map .nilCheck
 | .binOp op t x y _=>match aQ x,aQ y,P.underlying t with
  |some a,some b,some (.int _)=>some (.bin op a b)
  |some a,some b,some .string=>some (.bin op a b)
  |some a,some b,some .bool=>if op= .eql∨op= .neq then some (.eqk 0 (op== .neq) a b) else none
  |some a,some b,some (.pointer _)=>if op= .eql∨op= .neq then some (.eqk 1 (op== .neq) a b) else none
  |some a,some b,some (.slice _)=>if op= .eql∨op= .neq then some (.eqk 2 (op== .neq) a b) else none
  |some a,some b,some (.func _ _ _)=>if op= .eql∨op= .neq then some (.eqk 3 (op== .neq) a b) else none
  |some a,some b,some (.interface _)=>if(op= .eql∨op= .neq)∧Zn y=true then some (.eqk 4 (op== .neq) a b) else none
  |some a,some b,some (.struct fs)=>
   if(op= .eql∨op= .neq)∧P.stoodInHeld t=false∧P.eqGuardType P.depth t=false then(Aw P 0 fs.toList).map fun ts=>.eqs (op== .neq) ts a b else none
  |_,_,_=>none
 | .unOp op _ x=>(aQ x).map (.un op)
 | .convert s d x=>match P.underlying s,P.underlying d,aQ x with
  |some (.int _),some (.int k),some y=>some (.conv k y)
  |some .string,some .string,some y=>some (.strid y)
  |some .string,some (.slice e),some y=>match P.underlying e with
   |some (.int .u8)=>some (.toBytes e y)
   |_=>none
  |some (.slice e),some .string,some y=>match P.underlying e with
   |some (.int .u8)=>some (.toStr y)
   |_=>none
  |_,_,_=>none
 | .makeFunc (.func f) first cap=>match aP aQ first.toList,aP aQ cap.toList with
  |some a,some c=>some (.mkfn f a c)
  |_,_=>none
 | .slice t x lo hi none=>match P.underlying t,aQ x,qe lo,qe hi with
  |some .string,some y,some l,some h=>some (.slice 0 y l h)
  |some (.slice e),some y,some l,some h=>match fP P e with
   |some (n+1)=>some (.slice (n+1) y l h)
   |_=>none
  |_,_,_,_=>none
 | .slice t x lo (some hi) (some mx)=>match P.underlying t,aQ x,qe lo,aQ hi,aQ mx with
  |some (.slice e),some y,some l,some h,some m=>match fP P e with
   |some (n+1)=>some (.slice3 (n+1) y l h m)
   |_=>none
  |_,_,_,_,_=>none
 | .makeSlice t l c=>match P.underlying t,aQ l,aQ c with
  |some (.slice e),some l',some c'=>match P.info? e,zeroOf P e with
   |some i,some z=>some (.makesl i.size z i.bytes l' c')
   |_,_=>none
  |_,_,_=>none
 | .fieldAddr t x f=>match P.underlying t,aQ x with
  |some (.struct fs),some y=>match fs[f]? with
   |some fd=>match fP P fd.type with
    |some (_+1)=>some (.faddr y fd.offset)
    |_=>none
   |none=>none
  |_,_=>none
 | .field t x f=>match P.underlying t,aQ x with
  |some (.struct fs),some y=>match fs[f]? with
   |some fd=>(lZ P fd.type).map fun n=>.field y fd.offset n
   |none=>none
  |_,_=>none
 | .indexAddr t x i=>match P.underlying t,aQ x,aQ i with
  |some (.array n e),some y,some j=>(fP P e).map fun s=>.iaddr (some n) s y j
  |some (.slice e),some y,some j=>(fP P e).map fun s=>.iaddr none s y j
  |_,_,_=>none
 | .index t x i=>match P.underlying t,aQ x,aQ i with
  |some (.array n e),some y,some j=>match fP P e,lZ P e with
   |some s,some c=>some (.index (some (n,s,c.isSome)) y j)
   |_,_=>none
  |some .string,some y,some j=>some (.index none y j)
  |_,_,_=>none
 | .extract x i=>(aQ x).map fun y=>.extract y i
 | .makeInterface t x=>match P.underlying t,aQ x with
  |some (.interface _),_=>none
  |some _,some y=>some (.iface t y)
  |_,_=>none
 | .call c=>Ay P c
 | .makeMap t none=>match P.underlying t with
  |some (.map kt _)=>(kindOf P kt).map .vY
  |_=>none
 | .mapUpdate t m k v=>match P.underlying t,aQ m,aQ k,aQ v with
  |some (.map kt _),some m',some k',some v'=>(kindOf P kt).map fun g=>.mapset g m' k' v'
  |_,_,_,_=>none
 | .insert t m k v=>match P.underlying t,aQ m,aQ k,aQ v with
  |some (.map kt _),some m',some k',some v'=>(kindOf P kt).map fun g=>.mapins g m' k' v'
  |_,_,_,_=>none
 | .typeAssert x _ t ok=>match P.underlying t,zeroOf P t,aQ x with
  |some (.interface _),_,_=>none
  |some _,some z,some y=>some (.tassert t z ok y)
  |_,_,_=>none
 | .lookup t m k ok=>match P.underlying t,aQ m,aQ k with
  |some (.map kt et),some m',some k'=>match kindOf P kt,zeroOf P et with
   |some g,some z=>some (.mapget g z ok m' k')
   |_,_=>none
  |_,_,_=>none
 |_=>none
def SK.lI:SK→Bool
 | .call _ _ | .panic _=>true
 |_=>false
def Az:Op→Option (Option SK)
 | .call {callee:=.value f,args:=as,argTypes:=_}=>match aQ f,aP aQ as.toList with
  |some g,some xs=>some (some (.call g xs))
  |_,_=>some none
 | .panic x=>some ((aQ x).map .panic)
 |_=>none
def oB(P:Program)(op:Op):SK:=
 match Az op with
 |some r=>r.getD .stuck
 |none=>match gO P op with
  |some k=>if k.lI then .stuck else k
  |none=>.stuck
def GA(P:Program)(t:TypeId):Bool:=match P.underlying t with
 |some (.pointer _)=>true
 |_=>false
def Qo(P:Program)(o:Oper):SK→Bool
 | .sdata _=>GA P o.type
 |_=>true
def C8(P:Program)(op:Op)(h:Option SK):SK:=
 match h with
 |some (.appendm _ _ _ _ _)=>match op,oB P op with
  | .call {callee:=.builtin .append,args:=_,argTypes:=_},.append e sz b s x=>.appendm e sz b s x
  |_,k=>k
 |some (.appendg _ _ _ _ _)=>match op,oB P op with
  | .call {callee:=.builtin .append,args:=_,argTypes:=_},.append e sz b s x=>.appendg e sz b s x
  |_,k=>k
 |some (.bsliceG _ _ _ _ _)=>match op with
  | .buildSlice t len parts=>match P.underlying t with
   |some (.slice e)=>match fP P e,zeroOf P e,partsOf P (fun i=>some (i*(fP P e).getD 0,(fP P e).getD 0)) parts.toList with
    |some n,some z,some ps=>if len*n≤16777216∧0<n then .bsliceG e n len z ps else oB P op
    |_,_,_=>oB P op
   |_=>oB P op
  |_=>oB P op
 |some (.xT _ _)=>match op,oB P op with
  | .alloc t,.alloc zs=>.xT t zs
  |_,k=>k
 |some (.boxB _ _)=>match op,oB P op with
  | .box t _,.box x=>.boxB t x
  |_,k=>k
 |_=>oB P op
def qf(P:Program)(o:Oper)(h:Option SK):SK:=if Qo P o (C8 P o.op h) then C8 P o.op h else .stuck
variable {P : Program} {G : Nat → Option (List PD)} {γ : Gh} {H : Hp} {w : World} {env : Env} {a : Act} {o : Oper}
theorem oC{α β:Type}{f:α→Option β}:∀{l:List α} {l':List β},aP f l=some l'→l'.length=l.length∧∀(i:Nat) x,l[i]? =some x→∃y,f x=some y∧l'[i]? =some y
 |[],l',h=>by cases h;exact⟨rfl,fun i x h=>by simp at h⟩
 |x::r,l',h=>by
  unfold aP at h;split at h
  ·rename_i b hb;obtain⟨r',hr,rfl⟩:=au.1 h;obtain⟨h1,h2⟩:=oC hr;refine⟨by simp[h1],fun i y hy=>?_⟩
   match i with
   | 0=>simp only[ew,bI] at hy;subst hy;exact⟨b,hb,rfl⟩
   |i+1=>exact h2 i y (by simpa using hy)
  ·cases h
theorem po{α β:Type}{f:α→Option β}{l:List α}{l':List β}(h:aP f l=some l'){i:Nat}{y:β}(hy:l'[i]? =some y):∃x,l[i]? =some x∧f x=some y:=by
 obtain⟨h1,h2⟩:=oC h;have hi:i<l.length:=by rw[←h1];exact(az.1 hy).1
 obtain⟨y',a1,a2⟩:=h2 i _ (aA hi);rw[hy] at a2;cases a2;exact⟨_,aA hi,a1⟩
theorem KJ(m:Mem){v:Value}{d:PD}(h:Gw v=some d):aZ m v d∧d.one=true:=by
 unfold Gw at h;split at h
 ·cases h;exact⟨.bool _,rfl⟩
 ·cases h;exact⟨.int _ _,rfl⟩
 ·rename_i s;cases h;have :s=⟨s.data.toList.toArray⟩:=by cases s;simp
  exact⟨by have h:=aZ.str (m:=m) s.data.toList;rwa [←this] at h,rfl⟩
 ·cases h;exact⟨.iQ,rfl⟩
 ·cases h;exact⟨.aI,rfl⟩
 ·cases h;exact⟨.ot,rfl⟩
 ·cases h;exact⟨.kA,rfl⟩
 ·cases h;exact⟨.qI,rfl⟩
 ·cases h
theorem s7(m:Mem){v:Value}{d:PD}(h:Av v=some d):aZ m v d:=by
 unfold Av at h;split at h
 ·rename_i cs;obtain⟨ds,hd,rfl⟩:=au.1 h;obtain⟨h1,_⟩:=oC hd;refine .agg cs ds (by simpa using h1.symm) (fun d bH=>?_) (fun i d hi=>?_)
  ·obtain⟨i,hi⟩:=eC bH;obtain⟨x,_,a2⟩:=po hd hi;exact(KJ m a2).2
  ·obtain⟨x,a1,a2⟩:=po hd hi;have :cs.getD i undef=x:=by
    have a1:cs[i]? =some x:=by simpa using a1
    simp[bN,a1]
   rw[this];exact(KJ m a2).1
 ·exact(KJ m h).1
theorem bT(E:bh γ env a.tmps){x:Operand}{y:aw}(h:aQ x=some y):aL γ (a.eval x) (y.ev env):=by
 cases x with
 |tmp t=>cases h;exact E t
 |const v=>
  obtain⟨d,hd,rfl⟩:=au.1 h;exact .p _ _ (s7 _ hd)
 |global g=>cases h;exact .eD g 0
 |func f=>cases h;exact .fn f #[] #[] [] [] rfl (fun i d h=>by simp at h) rfl (fun i d h=>by simp at h)
theorem GB(E:bh γ env a.tmps){xs:Array Operand}{ys:List aw}(h:aP aQ xs.toList=some ys):cy γ (xs.map a.eval) (ys.map (·.ev env)):=by
 obtain⟨h1,_⟩:=oC h;refine⟨by simpa using h1.symm,fun i d hd=>?_⟩;simp only[cP,au] at hd;obtain⟨y,hy,rfl⟩:=hd;obtain⟨x,a1,a2⟩:=po h hy;have a1:xs[i]? =some x:=by simpa using a1
 have :(xs.map a.eval).getD i undef=a.eval x:=by simp[bN,a1]
 rw[this];exact bT E a2
theorem aL.bY{γ:Gh}{v:Value}{x:PD}(h:aL γ v (.p x)):aZ γ.mem v x:=by cases h with |p v x h=>exact h
theorem aZ.s8{m:Mem}{v:Value}{b:Bool}(h:aZ m v (.bool b)):v= .bool b:=by cases h;rfl
theorem aZ.iI{m:Mem}{v:Value}{k:IntKind}{n:Int}(h:aZ m v (.int k n)):v= .int k n:=by cases h;rfl
theorem aZ.s9{m:Mem}{v:Value}{s:List UInt8}(h:aZ m v (.str s)):v= .string ⟨s.toArray⟩:=by cases h;rfl
theorem aZ.qg{m:Mem}{v:Value}(h:aZ m v .aI):v= .slice none 0 0:=by cases h;rfl
theorem aZ.C9{m:Mem}{v:Value}(h:aZ m v .iQ):v= .pointer none:=by cases h;rfl
theorem aZ.KK{m:Mem}{v:Value}(h:aZ m v .ot):v= .nilFunc:=by cases h;rfl
theorem aZ.KL{m:Mem}{v:Value}{ds:List PD}(h:aZ m v (.agg ds)):∃cs:Array Value,v= .agg cs∧cs.size=ds.length∧(∀d∈ds,d.one=true)∧∀i d,ds[i]? =some d→aZ m (cs.getD i undef) d:=by
 cases h with
 |agg cs ds hl dE hr=>exact⟨cs,rfl,hl,dE,hr⟩
theorem aL.Zo{γ:Gh}{v:Value}{ds:List D}(h:aL γ v (.bA ds)):∃cs:Array Value,v= .tuple cs∧cy γ cs ds:=by
 cases h with
 |bA cs ds hl hr=>exact⟨cs,rfl,hl,hr⟩
theorem aL.GC{γ:Gh}{v:Value}{f:Nat}{ds es:List D}(h:aL γ v (.fn f ds es)):∃as cs:Array Value,v= .func (.func f) as cs∧cy γ as ds∧cy γ cs es:=by
 cases h with
 |fn f as cs ds es hl hr kl kr=>exact⟨as,cs,rfl,⟨hl,hr⟩,⟨kl,kr⟩⟩
def cA(P:Program)(G:Nat→Option (List PD))(γ:Gh)(H:Hp)(w:World)(a:Act)(o:Oper)(d:D)(H':Hp):Prop:=
 ∃v w' γ',((execOp a.eval o).run P w= .ok (.value v) w'∨((execOp a.eval o).run P w= .ok .skip w'∧v=undef))∧γ.le γ'∧Frame γ H w γ' H' w'∧Inv G γ' H' w'∧aL γ' v d
theorem cA.same(I:Inv G γ H w){v:Value}{d:D}(hr:(execOp a.eval o).run P w= .ok (.value v) w)(h:aL γ v d):cA P G γ H w a o d H:=
 ⟨v,w,γ,.inl hr,.refl γ,.refl γ H w,I,h⟩
theorem Zp{t:TypeId}{n:Nat}(h:fP P t=some n):∃i,P.info? t=some i∧i.size=n:=au.1 h
theorem l7{t:TypeId}{n:Nat}(h:fP P t=some n)(w:World):(sizeOf t).run P w= .ok n w:=by
 obtain⟨i,h1,h2⟩:=Zp h;simp[sizeOf,typeInfo,h1,h2]
theorem wm{t:TypeId}{z:PD}(h:zeroOf P t=some z)(w:World):∃v,(zeroValue t).run P w= .ok v w∧Av v=some z:=by
 unfold zeroOf at h;split at h
 ·rename_i i hi;split at h
  ·rename_i v hv;exact⟨v,by simp[zeroValue,typeInfo,hi,hv],h⟩
  ·cases h
 ·cases h
theorem Qp{t:TypeId}{n:Nat}(h:lZ P t=some (some n))(w:World):(isAgg t).run P w= .ok true w∧(sizeOf t).run P w= .ok n w:=by
 unfold lZ at h;split at h
 ·rename_i hu hs;cases h;exact⟨by simp[isAgg,run_underlying hu],l7 hs w⟩
 ·rename_i hu hs;cases h;exact⟨by simp[isAgg,run_underlying hu],l7 hs w⟩
 ·cases h
 ·cases h
theorem Qq{t:TypeId}(h:lZ P t=some none)(w:World):(isAgg t).run P w= .ok false w:=by
 unfold lZ at h;cases hu:P.underlying t with
 |none=>simp[hu] at h
 |some d=>
  cases hs:fP P t with
  |none=>cases d<;>simp[hu,hs] at h
  |some n=>cases d<;>first |(simp[hu,hs] at h;done) |simp[isAgg,run_underlying hu]
theorem Qr(I:Inv G γ H w)(E:bh γ env a.tmps){x:Operand}{y:aw}(ho:o.op= .move x∨o.op= .assign x)(hx:aQ x=some y):cA P G γ H w a o (y.ev env) H:=by
 refine .same I (v:=a.eval x) ?_ (bT E hx);rcases ho with ho |ho<;>simp[execOp,ho]
theorem Zq(I:Inv G γ H w)(E:bh γ env a.tmps){c x y:Operand}{c' x' y':aw}(ho:o.op= .pick c x y)(hc:aQ c=some c')(hx:aQ x=some x')(hy:aQ y=some y')
    {t:Bool} (ht:c'.ev env= .p (.bool t)):cA P G γ H w a o (if t then x'.ev env else y'.ev env) H:=by
 have hcv:=bT E hc;rw[ht] at hcv;have hb:a.eval c= .bool t:=hcv.bY.s8;cases t with
 |true=>exact .same I (v:=a.eval x) (by simp[execOp,ho,hb,asBool]) (bT E hx)
 |false=>exact .same I (v:=a.eval y) (by simp[execOp,ho,hb,asBool]) (bT E hy)
theorem aL.addr{γ:Gh}{v:Value}{d:D}(h:aL γ v d)(hd:(match d with | .box _ _ | .eD _ _ | .ro _ _=>true |_=>false)=true):∃b off,v= .pointer (some ⟨b,off,none⟩):=by
 cases h<;>first |(simp at hd;done) |exact⟨_,_,rfl⟩
theorem Zr(I:Inv G γ H w)(E:bh γ env a.tmps){x:Operand}{y:aw}(ho:o.op= .nilCheck x)(hx:aQ x=some y){d:D}{H':Hp}
    (he:aN G env H (.nilCheck y)=some (d,H')):cA P G γ H w a o d H':=by
 have hr:=bT E hx;simp only[aN] at he;split at he<;>cases he<;>rename_i hd<;>rw[hd] at hr
 ·refine .same I (v:=a.eval x) ?_ hr;obtain⟨b,off,hv⟩:=hr.addr rfl;simp[execOp,ho,hv]
 ·refine .same I (v:=a.eval x) ?_ hr;obtain⟨b,off,hv⟩:=hr.addr rfl;simp[execOp,ho,hv]
 ·refine .same I (v:=a.eval x) ?_ hr;obtain⟨b,off,hv⟩:=hr.addr rfl;simp[execOp,ho,hv]
 ·refine .same I (v:=a.eval x) ?_ hr;obtain⟨as,cs,hv,_,_⟩:=hr.GC;simp[execOp,ho,hv]
theorem aL.shift{γ:Gh}{b off:Nat}{d d':D}(h:aL γ (.pointer (some ⟨b,off,none⟩)) d)(n:Nat)
    (hd:(match d with | .box i o=>some (D.box i (o+n)) | .eD g o=>some (D.eD g (o+n)) | .ro cs o=>some (D.ro cs (o+n)) |_=>none)=some d'):aL γ (.pointer (some ⟨b,off+n,none⟩)) d':=by
 cases h with
 |box i off b hb=>cases hd;exact .box i _ b hb
 |eD=>cases hd;exact .eD _ _
 |ro b o off cs vs hm hr=>cases hd;rw[vQ];exact .ro b o _ cs vs hm hr
 |p v x h=>cases hd
 |dead=>cases hd
 |bk v t e sz es row r h1 h2 h3 h4 h5 h6=>cases hd
 |fN=>cases hd
 |iH=>cases hd
theorem Zs(I:Inv G γ H w)(E:bh γ env a.tmps){t:TypeId}{x:Operand}{f:Nat}{y:aw}(ho:o.op= .fieldAddr t x f)(hx:aQ x=some y)
    {fs:Array Field} {fd:Field} {n:Nat} (ht:P.underlying t=some (.struct fs)) (hf:fs[f]? =some fd) (hn:fP P fd.type=some (n+1)) {d:D} {H':Hp}
    (he:aN G env H (.faddr y fd.offset)=some (d,H')):cA P G γ H w a o d H':=by
 have hr:=bT E hx;have cM:∀b off,a.eval x= .pointer (some ⟨b,off,none⟩)→(execOp a.eval o).run P w= .ok (.value (.pointer (some ⟨b,off+fd.offset,none⟩))) w:=by
  intro b off hv;simp[execOp,ho,hv,Instr.fieldAt,run_underlying ht,hf,Instr.sureAddr,fieldPlace,l7 hn,Addr.add_lit]
 simp only[aN] at he;split at he<;>cases he<;>rename_i hd<;>rw[hd] at hr
 ·obtain⟨b,off,hv⟩:=hr.addr rfl;rw[hv] at hr;exact .same I (cM b off hv) (hr.shift _ rfl)
 ·obtain⟨b,off,hv⟩:=hr.addr rfl;rw[hv] at hr;exact .same I (cM b off hv) (hr.shift _ rfl)
 ·obtain⟨b,off,hv⟩:=hr.addr rfl;rw[hv] at hr;exact .same I (cM b off hv) (hr.shift _ rfl)
theorem Da{γ:Gh}{v:Value}{d:D}(h:aL γ v d){n:Int}(hn:d.rJ=some n):∃k,v= .int k n:=by
 unfold D.rJ at hn;split at hn
 ·cases hn;cases h with
  |p v x h=>cases h;exact⟨_,rfl⟩
 ·cases hn
theorem yd{γ:Gh}{v:Value}{d:D}(h:aL γ v d){n:Nat}(hn:d.lC=some n):∃k,v= .int k (n:Int):=by
 unfold D.lC at hn;split at hn
 ·split at hn
  ·rename_i k i h0;cases hn;cases h with
   |p v x h=>cases h;exact⟨k,by rw[Yx h0]⟩
  ·cases hn
 ·cases hn
theorem ye{γ:Gh}{v:Value}{d:D}(h:aL γ v d){sz:Nat}{es:List PD}(he:d.iR=some (sz,es)):aZ γ.mem v (.slice sz es):=by
 unfold D.iR at he;split at he
 ·cases he;cases h with
  |p v x h=>exact h
 ·cases he;cases h with
  |p v x h=>
   cases h with
   |emp a cap sz=>exact .kD _ _ _
 ·cases he;cases h with
  |cI b n e sz es hb ht hn h=>exact h
 ·cases he;cases h with
  |bk v t e sz es row r h1 h2 h3 h4 h5 h6=>exact h4
 ·cases he;cases h with
  |ff a sz=>exact .kD a 0 sz
 ·cases he;cases h with
  |gK a n sz es hn h=>exact h
 ·cases he
theorem mQ{m:Mem}{v:Value}{sz:Nat}{es:List PD}(h:aZ m v (.slice sz es)):
    ∃(a:Option Addr) (cap:Nat),v= .slice a es.length cap∧es.length≤cap∧(es≠[]→∃(b o:Nat) (vs:Nat→Nat→Value),a=some ⟨b,o,none⟩∧(∀e∈es,e.cells.length=sz)∧(∀e∈es,∀c∈e.cells,c.one=true)∧
     (∀i j,i<es.length→j<sz→m b (o+i*sz+j)=some (vs i j))∧∀(i:Nat) (e:PD) (j:Nat) (c:PD),es[i]? =some e→e.cells[j]? =some c→aZ m (vs i j) c):=by
 cases h with
 |kD a cap sz=>exact⟨a,cap,rfl,b9 _,fun h=>(h rfl).elim⟩
 |sl b o cap sz es vs hc aS dE hm hr=>exact⟨_,cap,rfl,hc,fun _=>⟨b,o,vs,rfl,aS,dE,hm,hr⟩⟩
theorem Zt(I:Inv G γ H w)(E:bh γ env a.tmps){t e:TypeId}{x i:Operand}{y j:aw}{s:Nat}(ho:o.op= .indexAddr t x i)(ht:P.underlying t=some (.slice e))(hs:fP P e=some s)
    (hx:aQ x=some y) (hi:aQ i=some j) {d:D} {H':Hp} (he:aN G env H (.iaddr none s y j)=some (d,H')):cA P G γ H w a o d H':=by
 have aJ:=bT E hx;have yf:=bT E hi;simp only[aN] at he;split at he
 ·rename_i n hn;obtain⟨k,uB⟩:=Da yf hn;obtain⟨d',hd,hh⟩:=au.1 he;cases hh;simp only[eN] at hd;split at hd
  ·rename_i bb off nn cap bF gP;split at hd
   ·rename_i hc;obtain⟨rfl,h0⟩:=hc;cases hd;rw[gP] at aJ;generalize hv:a.eval x=v at aJ;cases aJ with
    |bu _ _ _ _ _ b c hb eh dO=>
     refine .same I (v:=.pointer (some ⟨b,off+n.toNat*bF,none⟩)) ?_ (.box _ _ b hb);simp[execOp,ho,hv,uB,Instr.indexAt,run_underlying ht,asIntOf,h0,l7 hs,Addr.add_lit]
   ·cases hd
  ·rename_i bb ee nn bF gP;split at hd
   ·rename_i hc;obtain⟨rfl,h0⟩:=hc;cases hd;rw[gP] at aJ;generalize hv:a.eval x=v at aJ;cases aJ with
    |aB _ _ _ _ b c hb eh hm dP=>
     refine .same I (v:=.pointer (some ⟨b,n.toNat*bF,none⟩)) ?_ (.box _ _ b hb);simp[execOp,ho,hv,uB,Instr.indexAt,run_underlying ht,asIntOf,h0,l7 hs,Addr.add_lit]
   ·cases hd
  split at hd
  ·rename_i bF es gP;split at hd
   ·rename_i hc;obtain⟨rfl,h0⟩:=hc;obtain⟨el,AA,rfl⟩:=au.1 hd;have ah:n.toNat<es.length:=(az.1 AA).1;obtain⟨ad,cap,hv,dO,aq⟩:=mQ (ye aJ gP);obtain⟨b,off,vs,rfl,aS,dE,hm,hr⟩:=aq (fun h=>by subst h;simp at ah);have cO:0≤n∧n<(es.length:Int):=⟨h0,by omega⟩;refine .same I (v:=.pointer (some ⟨b,off+n.toNat*bF+0,none⟩)) ?_ ?_
    ·simp[execOp,ho,hv,uB,Instr.indexAt,run_underlying ht,asIntOf,cO,l7 hs,Addr.add_lit]
    ·refine .ro b (off+n.toNat*bF) 0 el.cells (vs n.toNat) (fun jj hj=>hm _ _ ah ?_) (fun jj c hc=>⟨hr _ _ _ _ AA hc,?_⟩)
     ·rw[←aS el (bS AA)];exact hj
     ·exact dE el (bS AA) c (bS hc)
   ·cases hd
  ·cases hd
 ·cases he
theorem Zu(I:Inv G γ H w)(E:bh γ env a.tmps){t e:TypeId}{len:Nat}{x i:Operand}{y j:aw}{s:Nat}(ho:o.op= .indexAddr t x i)(ht:P.underlying t=some (.array len e))(hs:fP P e=some s)
    (hx:aQ x=some y) (hi:aQ i=some j) {d:D} {H':Hp} (he:aN G env H (.iaddr (some len) s y j)=some (d,H')):cA P G γ H w a o d H':=by
 have aJ:=bT E hx;have yf:=bT E hi;simp only[aN] at he;split at he
 ·rename_i n hn;obtain⟨k,uB⟩:=Da yf hn;obtain⟨d',hd,hh⟩:=au.1 he;cases hh;simp only[eN] at hd;split at hd
  ·rename_i hc;have cM:∀b off,a.eval x= .pointer (some ⟨b,off,none⟩)→(execOp a.eval o).run P w= .ok (.value (.pointer (some ⟨b,off+n.toNat*s,none⟩))) w:=by
    intro b off hv;simp[execOp,ho,hv,uB,Instr.indexAt,run_underlying ht,asIntOf,Instr.sureAddr,hc,l7 hs,Addr.add_lit]
   split at hd<;>cases hd<;>rename_i hdd<;>rw[hdd] at aJ
   ·obtain⟨b,off,hv⟩:=aJ.addr rfl;rw[hv] at aJ;exact .same I (cM b off hv) (aJ.shift _ rfl)
   ·obtain⟨b,off,hv⟩:=aJ.addr rfl;rw[hv] at aJ;exact .same I (cM b off hv) (aJ.shift _ rfl)
   ·obtain⟨b,off,hv⟩:=aJ.addr rfl;rw[hv] at aJ;exact .same I (cM b off hv) (aJ.shift _ rfl)
  ·cases hd
 ·cases he
theorem Qs:∀{ds:List D} {cs:List PD},gU ds=some cs→ds=cs.map .p
 |[],cs,h=>by cases h;rfl
 | .p x::r,cs,h=>by
  simp only[gU] at h;obtain⟨bL,h',rfl⟩:=au.1 h;simp[Qs h']
 | .dead::_,cs,h=>by cases h
 | .undef::_,cs,h=>by cases h
 | .cI .. ::_,cs,h=>by cases h
 | .bk .. ::_,cs,h=>by cases h
 | .box .. ::_,cs,h=>by cases h
 | .eD .. ::_,cs,h=>by cases h
 | .ro .. ::_,cs,h=>by cases h
 | .agg .. ::_,cs,h=>by cases h
 | .bA .. ::_,cs,h=>by cases h
 | .fn .. ::_,cs,h=>by cases h
theorem Db{γ:Gh}{vs:Array Value}{ds:List D}(h:cy γ vs ds)(h1:∀d∈ds,d.one=true):aL γ (.agg vs) (ec ds):=by
 unfold ec;split
 ·rename_i cs ak;have he:=Qs ak;subst he;refine .p _ _ (.agg vs cs (by simpa using h.1) (fun d hd=>h1 (.p d) (Kc hd)) (fun i d hd=>?_));exact(h.2 i (.p d) (by simp[hd])).bY
 ·exact .agg vs ds h.1 h1 h.2
theorem pq{α:Type}(l:List α)(lo hi i:Nat):(sub l lo hi)[i]? =if lo+i<hi then l[lo+i]? else none:=by
 unfold sub;rw[oZ,j7]
theorem wo{α:Type}(l:List α)(lo hi:Nat)(h:hi≤l.length):(sub l lo hi).length=hi-lo:=by unfold sub;simp;omega
theorem Zv{γ:Gh}{vs:Array Value}{ds:List D}(h:cy γ vs ds){off k:Nat}(hk:off+k≤ds.length):cy γ (vs.extract off (off+k)) (sub ds off (off+k)):=by
 have hs:=h.1;refine⟨by rw[wo _ _ _ hk];simp;omega,fun i d hd=>?_⟩;rw[pq] at hd;split at hd
 ·have:=h.2 _ _ hd;have ah:off+i<vs.size:=by rw[hs];exact(az.1 hd).1
  have e:(vs.extract off (off+k)).getD i undef=vs.getD (off+i) undef:=by
   simp[bN,Array.getElem?_extract];rw[if_pos (by omega)]
  rw[e];exact this
 ·cases hd
theorem Dd{γ:Gh}{cs:Array Value}{ds:List PD}(hl:cs.size=ds.length)(hr:∀i d,ds[i]? =some d→aZ γ.mem (cs.getD i undef) d):cy γ cs (ds.map .p):=by
 refine⟨by simpa using hl,fun i d hd=>?_⟩;simp only[cP,au] at hd;obtain⟨x,hx,rfl⟩:=hd;exact .p _ _ (hr i x hx)
theorem Qt{t:TypeId}{n:Option Nat}(ht:lZ P t=some n){vs:Array Value}{ds:List D}(h:cy γ vs ds)(h1:∀d∈ds,d.one=true){off:Nat}{d:D}
    (hd:cutAt ds off n id ec=some d) (w:World):∃v,(part t vs off).run P w= .ok v w∧aL γ v d:=by
 unfold cutAt at hd;split at hd
 ·obtain⟨x,hx,rfl⟩:=au.1 hd;have ah:off<vs.size:=by rw[h.1];exact(az.1 hx).1
  refine⟨vs.getD off undef,?_,h.2 off x hx⟩;simp[part,Qq ht,pY ah,bN]
 ·rename_i k;split at hd
  ·rename_i hk;cases hd;obtain⟨q1,q2⟩:=Qp ht w;refine⟨.agg (vs.extract off (off+k)),by simp[part,q1,q2],Db (Zv h hk) (fun d hd=>h1 d ?_)⟩;exact j8 (sU hd)
  ·cases hd
theorem AB{cs:List PD}{off:Nat}{n:Option Nat}{d:D}(h:cutAt cs off n .p (fun l=>.p (.agg l))=some d):cutAt (cs.map .p) off n id ec=some d:=by
 unfold cutAt at h⊢;split at h
 ·obtain⟨x,hx,rfl⟩:=au.1 h;simp[hx]
 ·rename_i k;split at h
  ·rename_i hk;cases h;have mR:off+k≤(cs.map D.p).length:=by simpa using hk
   simp only[mR,if_true,bI];have :sub (cs.map D.p) off (off+k)=(sub cs off (off+k)).map .p:=by simp[sub,Pu,Pv]
   rw[this];unfold ec;have hp:∀l:List PD,gU (l.map .p)=some l:=by
    intro l;induction l with
    |nil=>rfl
    |cons x r ih=>simp[gU,ih]
   rw[hp]
  ·cases h
theorem Qu{γ:Gh}{v:Value}{d:D}(h:aL γ v d){ds:List D}(hd:d= .agg ds∨∃cs,d= .p (.agg cs)∧ds=cs.map .p):∃vs,v= .agg vs∧cy γ vs ds∧∀d∈ds,d.one=true:=by
 rcases hd with rfl |⟨cs,rfl,rfl⟩
 ·cases h with
  |agg cs ds hl dE hr=>exact⟨cs,rfl,⟨hl,hr⟩,dE⟩
 ·cases h with
  |p v x h=>
   cases h with
   |agg vs ds hl dE hr=>exact⟨vs,rfl,Dd hl hr,fun d hd=>by obtain⟨x,hx,rfl⟩:=dz.1 hd;exact dE x hx⟩
theorem Zw(I:Inv G γ H w)(E:bh γ env a.tmps){t:TypeId}{x:Operand}{f:Nat}{y:aw}(ho:o.op= .field t x f)(hx:aQ x=some y)
    {fs:Array Field} {fd:Field} {n:Option Nat} (ht:P.underlying t=some (.struct fs)) (hf:fs[f]? =some fd) (hn:lZ P fd.type=some n) {d:D} {H':Hp}
    (he:aN G env H (.field y fd.offset n)=some (d,H')):cA P G γ H w a o d H':=by
 have hr:=bT E hx;have key:∀ds,(y.ev env= .agg ds∨∃cs,y.ev env= .p (.agg cs)∧ds=cs.map .p)→cutAt ds fd.offset n id ec=some d→cA P G γ H w a o d H:=by
  intro ds oD hc;obtain⟨vs,hv,h1,h2⟩:=Qu hr oD;obtain⟨v,q1,q2⟩:=Qt hn h1 h2 hc w;exact .same I (v:=v) (by simp[execOp,ho,hv,Instr.field,run_underlying ht,hf,asAgg,q1]) q2
 simp only[aN] at he;split at he
 ·rename_i cs hd;obtain⟨d',bH,hh⟩:=au.1 he;cases hh;exact key _ (.inr ⟨cs,hd,rfl⟩) (AB bH)
 ·rename_i cs hd;obtain⟨d',bH,hh⟩:=au.1 he;cases hh;exact key _ (.inl hd) bH
 ·cases he
theorem Zx(I:Inv G γ H w)(E:bh γ env a.tmps){x:Operand}{i:Nat}{y:aw}(ho:o.op= .extract x i)(hx:aQ x=some y){d:D}{H':Hp}
    (he:aN G env H (.extract y i)=some (d,H')):cA P G γ H w a o d H':=by
 have hr:=bT E hx;simp only[aN] at he;split at he
 ·rename_i ds hd;obtain⟨d',bH,hh⟩:=au.1 he;cases hh;rw[hd] at hr;obtain⟨cs,ak,hl,hr⟩:=hr.Zo;have ah:i<cs.size:=by rw[hl];exact(az.1 bH).1
  refine .same I (v:=cs.getD i undef) ?_ (hr i d bH);simp[execOp,ho,ak,Instr.extract,pY ah,bN]
 ·cases he
theorem Zy(I:Inv G γ H w)(E:bh γ env a.tmps){f:Nat}{fi ca:Array Operand}{Qv Qw:List aw}(ho:o.op= .makeFunc (.func f) fi ca)(h1:aP aQ fi.toList=some Qv)(h2:aP aQ ca.toList=some Qw):
    cA P G γ H w a o (.fn f (Qv.map (·.ev env)) (Qw.map (·.ev env))) H:=by
 obtain⟨a1,a2⟩:=GB E h1;obtain⟨b1,b2⟩:=GB E h2;exact .same I (v:=.func (.func f) (fi.map a.eval) (ca.map a.eval)) (by simp[execOp,ho,Instr.makeFunc]) (.fn f _ _ _ _ a1 a2 b1 b2)
theorem Zz(I:Inv G γ H w){t:TypeId}{x:Operand}{y:aw}(ho:o.op= .makeInterface t x)(ht:(P.underlying t).isSome)(gX:∀ms,P.underlying t≠some (.interface ms))
    {d:D} {H':Hp} (he:aN G env H (.iface t y)=some (d,H')) (gY:aL γ (a.eval x) (y.ev env)) (ZA:∀z,(y.ev env).eM=some z→aZ γ.mem (a.eval x) z):cA P G γ H w a o d H':=by
 simp only[aN] at he;split at he
 ·rename_i z hz;cases he;obtain⟨td,yg⟩:=Yy.1 ht;refine .same I (v:=.iface t (a.eval x)) ?_ (.p _ _ (.iface t _ z (ZA z hz)));have :(Instr.makeInterface t (a.eval x)).run P w= .ok (.iface t (a.eval x)) w:=by
   cases td<;>first |exact(gX _ yg).elim |simp[Instr.makeInterface,run_underlying yg]
  simp[execOp,ho,this]
 ·cases he;obtain⟨td,yg⟩:=Yy.1 ht;refine .same I (v:=.iface t (a.eval x)) ?_ (.eE t _ _ gY);have :(Instr.makeInterface t (a.eval x)).run P w= .ok (.iface t (a.eval x)) w:=by
   cases td<;>first |exact(gX _ yg).elim |simp[Instr.makeInterface,run_underlying yg]
  simp[execOp,ho,this]
end Go.Vs
namespace Go.Vs
variable {P : Program} {G : Nat → Option (List PD)} {γ : Gh} {H : Hp} {w : World} {env : Env} {a : Act} {o : Oper}
theorem GD{op:BinOp}{k:IntKind}{x y:Int}{t:TypeId}{v:Value}(h:(Op.intBits op k x y).run P w= .ok v w)(ho:(match op with | .and | .or | .xor | .andNot=>true |_=>false)=true:=by rfl):
    (binOp op t (.int k x) (.int k y)).run P w= .ok v w:=by
 have :binOp op t (.int k x) (.int k y)=Op.intBits op k x y:=by
  cases op<;>first |(simp at ho;done) |simp only[binOp,ne_eq,not_true_eq_false,if_false]
 rw[this];exact h
theorem ZB{op:BinOp}{k k':IntKind}{x y:Int}{r:PD}(t:TypeId)(hk:op= .shl∨op= .shr∨k=k')(h:lW op k x y=some r)(w:World):
    ∃v,(binOp op t (.int k x) (.int k' y)).run P w= .ok v w∧∀m,aZ m v r:=by
 have same:∀op:BinOp,¬(op= .shl∨op= .shr)→(op= .shl∨op= .shr∨k=k')→k=k':=by
  intro op h1 h2;rcases h2 with h |h |h
  ·exact(h1 (.inl h)).elim
  ·exact(h1 (.inr h)).elim
  ·exact h
 cases op<;>simp only[lW] at h
 case shl=>
  split at h
  ·cases h
  ·rename_i hn;cases h;exact⟨_,by simp[binOp,Op.shift,hn],fun m=>.int _ _⟩
 case shr=>
  split at h
  ·cases h
  ·rename_i hn;cases h;exact⟨_,by simp[binOp,Op.shift,hn],fun m=>.int _ _⟩
 case quo=>
  split at h
  ·cases h
  ·rename_i hn;cases h;cases same .quo (by simp) hk;exact⟨_,by simp[binOp,Op.intDiv,hn],fun m=>.int _ _⟩
 case rem=>
  split at h
  ·cases h
  ·rename_i hn;cases h;cases same .rem (by simp) hk;exact⟨_,by simp[binOp,Op.intDiv,hn],fun m=>.int _ _⟩
 case and=>cases h;cases same .and (by simp) hk;exact⟨_,GD rfl,fun m=>.int _ _⟩
 case or=>cases h;cases same .or (by simp) hk;exact⟨_,GD rfl,fun m=>.int _ _⟩
 case xor=>cases h;cases same .xor (by simp) hk;exact⟨_,GD rfl,fun m=>.int _ _⟩
 case andNot=>cases h;cases same .andNot (by simp) hk;exact⟨_,GD rfl,fun m=>.int _ _⟩
 case add=>cases h;cases same .add (by simp) hk;exact⟨_,by simp[binOp,Op.intArith],fun m=>.int _ _⟩
 case sub=>cases h;cases same .sub (by simp) hk;exact⟨_,by simp[binOp,Op.intArith],fun m=>.int _ _⟩
 case mul=>cases h;cases same .mul (by simp) hk;exact⟨_,by simp[binOp,Op.intArith],fun m=>.int _ _⟩
 case eql=>cases h;cases same .eql (by simp) hk;exact⟨_,by simp[binOp,Op.intCmp],fun m=>.bool _⟩
 case neq=>cases h;cases same .neq (by simp) hk;exact⟨_,by simp[binOp,Op.intCmp],fun m=>.bool _⟩
 case lss=>cases h;cases same .lss (by simp) hk;exact⟨_,by simp[binOp,Op.intCmp],fun m=>.bool _⟩
 case leq=>cases h;cases same .leq (by simp) hk;exact⟨_,by simp[binOp,Op.intCmp],fun m=>.bool _⟩
 case gtr=>cases h;cases same .gtr (by simp) hk;exact⟨_,by simp[binOp,Op.intCmp],fun m=>.bool _⟩
 case geq=>cases h;cases same .geq (by simp) hk;exact⟨_,by simp[binOp,Op.intCmp],fun m=>.bool _⟩
theorem ZC{op:BinOp}{x y:List UInt8}{r:PD}(t:TypeId)(h:ui op x y=some r)(w:World):
    ∃v,(binOp op t (.string ⟨x.toArray⟩) (.string ⟨y.toArray⟩)).run P w= .ok v w∧∀m,aZ m v r:=by
 cases op<;>simp only[ui] at h
 case add=>
  split at h
  ·rename_i hl;cases h;have hs:∀l:List UInt8,(⟨l.toArray⟩:ByteArray).size=l.length:=fun l=>by simp[ByteArray.size]
   refine⟨.string ⟨(x++y).toArray⟩,?_,fun m=>.str _⟩;have e:(⟨x.toArray⟩:ByteArray)++⟨y.toArray⟩=⟨(x++y).toArray⟩:=by
    apply ByteArray.ext;simp[ByteArray.data_append]
   have hb:(binOp .add t (.string ⟨x.toArray⟩) (.string ⟨y.toArray⟩):Sem Value)=Op.stringOp .add ⟨x.toArray⟩ ⟨y.toArray⟩:=rfl;rw[hb,run_string_add_sum _ _ _ (by rw[hs,hs];omega),e]
  ·cases h
 case eql=>cases h;exact⟨_,by simp[binOp,Op.stringOp],fun m=>.bool _⟩
 case neq=>cases h;exact⟨_,by simp[binOp,Op.stringOp],fun m=>.bool _⟩
 case lss=>cases h;exact⟨_,by simp[binOp,Op.stringOp],fun m=>.bool _⟩
 case leq=>cases h;exact⟨_,by simp[binOp,Op.stringOp],fun m=>.bool _⟩
 case gtr=>cases h;exact⟨_,by simp[binOp,Op.stringOp],fun m=>.bool _⟩
 case geq=>cases h;exact⟨_,by simp[binOp,Op.stringOp],fun m=>.bool _⟩
 all_goals cases h
theorem GF{op:BinOp}{t:TypeId}{x y:Operand}{u v:Value}(h:¬(u= .nilIface∧v= .nilIface))(h2:∀cs ds,¬(u= .agg cs∧v= .agg ds))(w:World):(eqGuard op t x y u v).run P w= .ok () w:=by
 unfold eqGuard;cases op<;>simp
 all_goals
  split
  ·exact(h ⟨rfl,rfl⟩).elim
  ·exact(h2 _ _ ⟨rfl,rfl⟩).elim
  ·simp
theorem Qx(I:Inv G γ H w)(E:bh γ env a.tmps){op:BinOp}{t yt:TypeId}{x y:Operand}{x' y':aw}(ho:o.op= .binOp op t x y yt)(hx:aQ x=some x')(hy:aQ y=some y')
    {d:D} {H':Hp} (he:aN G env H (.bin op x' y')=some (d,H')):cA P G γ H w a o d H':=by
 have aJ:=bT E hx;have fy:=bT E hy;simp only[aN] at he;obtain⟨d',hd,hh⟩:=au.1 he;cases hh;unfold vZ at hd;split at hd
 ·rename_i k p k' q e1 e2;split at hd
  ·rename_i hk;obtain⟨r,hr,rfl⟩:=au.1 hd;rw[e1] at aJ;rw[e2] at fy;obtain⟨v,q1,q2⟩:=ZB (P:=P) t hk hr w;refine .same I (v:=v) ?_ (.p _ _ (q2 _));have e:=GF (P:=P) (op:=op) (t:=t) (x:=x) (y:=y) (u:=.int k p) (v:=.int k' q) (by simp) (by simp) w;simp[execOp,ho,aJ.bY.iI,fy.bY.iI,q1,e]
  ·cases hd
 ·rename_i p q e1 e2;obtain⟨r,hr,rfl⟩:=au.1 hd;rw[e1] at aJ;rw[e2] at fy;obtain⟨v,q1,q2⟩:=ZC (P:=P) t hr w;refine .same I (v:=v) ?_ (.p _ _ (q2 _));have e:=GF (P:=P) (op:=op) (t:=t) (x:=x) (y:=y) (u:=.string ⟨p.toArray⟩) (v:=.string ⟨q.toArray⟩) (by simp) (by simp) w;simp[execOp,ho,aJ.bY.s9,fy.bY.s9,q1,e]
 ·cases hd
theorem KM{op:BinOp}(dF:op= .eql∨op= .neq){t:TypeId}{u v:Value}{b:Bool}(hu:(match u with | .int _ _ | .float _ _ | .complex _ _ _ | .string _=>true |_=>false)=false)
    (h:(Op.equal t u v).run P w= .ok b w):(binOp op t u v).run P w= .ok (.bool (if op== .neq then !b else b)) w:=by
 rcases dF with rfl |rfl<;>cases u<;>first |(simp at hu;done) |(cases v<;>simp[binOp,h])
theorem th(t:TypeId)(u v:Value):Op.equal t u v=Op.equalIn (9999+1) t u v:=rfl
section
variable (d : Nat) (t : TypeId)
theorem Qy(ht:P.underlying t=some .bool)(x y:Bool):(Op.equalIn (d+1) t (.bool x) (.bool y)).run P w= .ok (x==y) w:=by simp[Op.equalIn,run_underlying ht]
theorem ZD{k':IntKind}(ht:P.underlying t=some (.int k'))(k:IntKind)(x y:Int):(Op.equalIn (d+1) t (.int k x) (.int k y)).run P w= .ok (x==y) w:=by simp[Op.equalIn,run_underlying ht]
theorem ZE(ht:P.underlying t=some .string)(x y:ByteArray):(Op.equalIn (d+1) t (.string x) (.string y)).run P w= .ok (x==y) w:=by simp[Op.equalIn,run_underlying ht]
theorem Qz{e:TypeId}(ht:P.underlying t=some (.pointer e))(ad:Option Addr):(Op.equalIn (d+1) t (.pointer ad) (.pointer none)).run P w= .ok ad.isNone w:=by cases ad<;>simp[Op.equalIn,run_underlying ht]
theorem ZF{e:TypeId}(ht:P.underlying t=some (.slice e))(ad:Option Addr)(n c:Nat):(Op.equalIn (d+1) t (.slice ad n c) (.slice none 0 0)).run P w= .ok ad.isNone w:=by cases ad<;>simp[Op.equalIn,run_underlying ht]
theorem ZG{p r:Array TypeId}{v:Bool}(ht:P.underlying t=some (.func p r v)):(Op.equalIn (d+1) t .nilFunc .nilFunc).run P w= .ok true w:=by simp[Op.equalIn,run_underlying ht]
theorem ZH{p r:Array TypeId}{v:Bool}(ht:P.underlying t=some (.func p r v))(f:Fn)(as cs:Array Value):(Op.equalIn (d+1) t (.func f as cs) .nilFunc).run P w= .ok false w:=by simp[Op.equalIn,run_underlying ht]
end
theorem ZI{γ:Gh}{v:Value}{d:D}(h:aL γ v d){r:Bool}(hr:d.Ak=some r):∃base n c,v= .slice base n c∧base.isNone=r:=by
 unfold D.Ak at hr;split at hr
 ·cases hr;exact⟨none,0,0,h.bY.qg,rfl⟩
 ·cases hr;obtain⟨a,cap,hv,_,aq⟩:=mQ h.bY;obtain⟨b,o,_,rfl,_⟩:=aq (by simp);exact⟨_,_,_,hv,rfl⟩
 ·cases hr;cases h with
  |p v x h=>
   cases h with
   |emp a cap sz=>exact⟨_,_,_,rfl,rfl⟩
 ·cases hr;cases h with
  |cI b n e sz es hb ht hn hx=>exact⟨_,_,_,rfl,rfl⟩
 ·cases hr;obtain⟨a,cap,hv,_,aq⟩:=mQ (ye h rfl);obtain⟨b,o,_,rfl,_⟩:=aq (by simp);exact⟨_,_,_,hv,rfl⟩
 ·cases hr;cases h with
  |bu=>exact⟨_,_,_,rfl,rfl⟩
 ·cases hr;cases h with
  |aB=>exact⟨_,_,_,rfl,rfl⟩
 ·cases hr
theorem GG(I:Inv G γ H w)(E:bh γ env a.tmps){op:BinOp}{t yt:TypeId}{x y:Operand}{x' y':aw}{kd:Nat}(ho:o.op= .binOp op t x y yt)(dF:op= .eql∨op= .neq)(hx:aQ x=some x')(hy:aQ y=some y')
    (ht:(kd=0∧P.underlying t=some .bool)∨(kd=1∧∃e,P.underlying t=some (.pointer e))∨(kd=2∧∃e,P.underlying t=some (.slice e))∨(kd=3∧∃p r v,P.underlying t=some (.func p r v)))
    {d:D} {H':Hp} (he:aN G env H (.eqk kd (op== .neq) x' y')=some (d,H')):cA P G γ H w a o d H':=by
 have aJ:=bT E hx;have fy:=bT E hy;simp only[aN] at he;obtain⟨r,hd,hh⟩:=au.1 he;cases hh;have fin:∀u v,a.eval x=u→a.eval y=v→(match u with | .int _ _ | .float _ _ | .complex _ _ _ | .string _=>true |_=>false)=false→(∀cs,u≠.agg cs)→u≠.nilIface→(Op.equal t u v).run P w= .ok r w→
     cA P G γ H w a o (.p (.bool (if op== .neq then !r else r))) H:=by
  intro u v hu hv h1 h2 h3 h4;refine .same I (v:=.bool (if op== .neq then !r else r)) ?_ (.p _ _ (.bool _));have e:=GF (P:=P) (op:=op) (t:=t) (x:=x) (y:=y) (u:=u) (v:=v) (fun h=>h3 h.1) (fun cs _ h=>h2 cs h.1) w;have q:=KM dF h1 h4;simp[execOp,ho,hu,hv,e,q]
 rcases ht with⟨rfl,ht⟩ |⟨rfl,e,ht⟩ |⟨rfl,e,ht⟩ |⟨rfl,p,rr,vv,ht⟩
 ·simp only[qJ] at hd;split at hd
  ·rename_i p q e1 e2;cases hd;rw[e1] at aJ;rw[e2] at fy;exact fin _ _ aJ.bY.s8 fy.bY.s8 rfl (by simp) (by simp) (by rw[th];exact Qy _ _ ht _ _)
  ·cases hd
 ·simp only[qJ] at hd;split at hd<;>cases hd<;>rename_i e1 e2<;>rw[e1] at aJ<;>rw[e2] at fy
  ·exact fin _ _ aJ.bY.C9 fy.bY.C9 rfl (by simp) (by simp) (by rw[th];exact Qz _ _ ht _)
  all_goals
   obtain⟨b,off,hv⟩:=aJ.addr rfl;exact fin _ _ hv fy.bY.C9 rfl (by simp) (by simp) (by rw[th];exact Qz _ _ ht _)
 ·simp only[qJ] at hd;split at hd
  ·rename_i e2;rw[e2] at fy;obtain⟨base,n,c,hv,rfl⟩:=ZI aJ hd;exact fin _ _ hv fy.bY.qg rfl (by simp) (by simp) (by rw[th];exact ZF _ _ ht _ _ _)
  ·cases hd
 ·simp only[qJ] at hd;split at hd<;>cases hd<;>rename_i e1 e2<;>rw[e1] at aJ<;>rw[e2] at fy
  ·exact fin _ _ aJ.bY.KK fy.bY.KK rfl (by simp) (by simp) (by rw[th];exact ZG _ _ ht)
  ·obtain⟨as,cs,hv,_,_⟩:=aJ.GC;exact fin _ _ hv fy.bY.KK rfl (by simp) (by simp) (by rw[th];exact ZH _ _ ht _ _ _)
theorem ZJ(I:Inv G γ H w)(E:bh γ env a.tmps){op:UnOp}{t:TypeId}{x:Operand}{x':aw}(ho:o.op= .unOp op t x)(hx:aQ x=some x')
    {d:D} {H':Hp} (he:aN G env H (.un op x')=some (d,H')):cA P G γ H w a o d H':=by
 have aJ:=bT E hx;simp only[aN] at he;obtain⟨r,hd,hh⟩:=au.1 he;cases hh;unfold v5 at hd;split at hd
 ·rename_i e1;cases hd;rw[e1] at aJ;exact .same I (v:=_) (by simp[execOp,ho,aJ.bY.s8,Op.unary]) (.p _ _ (.bool _))
 ·rename_i e1;cases hd;rw[e1] at aJ;exact .same I (v:=_) (by simp[execOp,ho,aJ.bY.iI,Op.unary,Op.intArith]) (.p _ _ (.int _ _))
 ·cases hd
theorem ZK(I:Inv G γ H w)(E:bh γ env a.tmps){s t:TypeId}{x:Operand}{x':aw}{k k':IntKind}(ho:o.op= .convert s t x)(hs:P.underlying s=some (.int k'))(ht:P.underlying t=some (.int k))(hx:aQ x=some x')
    {d:D} {H':Hp} (he:aN G env H (.conv k x')=some (d,H')):cA P G γ H w a o d H':=by
 have aJ:=bT E hx;simp only[aN] at he;split at he
 ·rename_i n hn;cases he;obtain⟨k0,hv⟩:=Da aJ hn;exact .same I (v:=.int k (k.wrap n)) (by simp[execOp,ho,hv,convert,run_underlying hs,run_underlying ht,Conv.intToInt]) (.p _ _ (.int _ _))
 ·cases he
theorem ZL(I:Inv G γ H w)(E:bh γ env a.tmps){s t:TypeId}{x:Operand}{x':aw}(ho:o.op= .convert s t x)(hs:P.underlying s=some .string)(ht:P.underlying t=some .string)(hx:aQ x=some x')
    {d:D} {H':Hp} (he:aN G env H (.strid x')=some (d,H')):cA P G γ H w a o d H':=by
 have aJ:=bT E hx;simp only[aN] at he;split at he
 ·rename_i q hq;cases he;rw[hq] at aJ;exact .same I (v:=.string ⟨q.toArray⟩) (by simp[execOp,ho,aJ.bY.s9,convert,run_underlying hs,run_underlying ht]) (.p _ _ (.str _))
 ·cases he
theorem QA(I:Inv G γ H w)(E:bh γ env a.tmps){mx:Bool}{x y:Operand}{x' y':aw}{ts:Array TypeId}(ho:o.op= .call {callee:=.builtin (if mx then .max else .min),args:=#[x,y],argTypes:=ts})(hx:aQ x=some x')(hy:aQ y=some y')
    {d:D} {H':Hp} (he:aN G env H (.minmax mx x' y')=some (d,H')):cA P G γ H w a o d H':=by
 have aJ:=bT E hx;have fy:=bT E hy;simp only[aN] at he;obtain⟨r,hd,hh⟩:=au.1 he;cases hh;unfold v7 at hd;split at hd
 ·rename_i k p k' q e1 e2;cases hd;rw[e1] at aJ;rw[e2] at fy;refine .same I (v:=.int k (if mx=true then if q>p then q else p else if q<p then q else p)) ?_ (.p _ _ (.int _ _));cases mx
  ·simp[execOp,ho,resolve,invoke,builtin,aJ.bY.iI,fy.bY.iI,Builtin.min_,Builtin.min2]
  ·simp[execOp,ho,resolve,invoke,builtin,aJ.bY.iI,fy.bY.iI,Builtin.max_,Builtin.max2]
 ·cases hd
theorem QB(I:Inv G γ H w)(E:bh γ env a.tmps){x:Operand}{x':aw}{t:TypeId}{kd:Nat}(ho:o.op= .call {callee:=.builtin .len,args:=#[x],argTypes:=#[t]})
    (ht:(kd=0∧P.underlying t=some .string)∨(kd=1∧∃e,P.underlying t=some (.slice e))) (hx:aQ x=some x')
    {d:D} {H':Hp} (he:aN G env H (.len kd x')=some (d,H')):cA P G γ H w a o d H':=by
 have aJ:=bT E hx;simp only[aN] at he;obtain⟨n,hn,hh⟩:=au.1 he;cases hh;refine .same I (v:=.int .i64 n) ?_ (.p _ _ (.int _ _));rcases ht with⟨rfl,ht⟩ |⟨rfl,e,ht⟩
 ·unfold fg at hn;split at hn
  ·rename_i s _ hs;cases hn;rw[hs] at aJ;have hs:(⟨s.toArray⟩:ByteArray).size=s.length:=by simp[ByteArray.size]
   simp[execOp,ho,resolve,invoke,builtin,aJ.bY.s9,Builtin.len_,run_underlying ht,goInt,hs]
  ·rename_i h0 _;cases h0
  ·rename_i h0 _;cases h0
  ·rename_i h0 _;cases h0
  ·rename_i h0 _ _ _;cases h0
  ·cases hn
 ·have hv:∃base c,a.eval x= .slice base n c:=by
   unfold fg at hn;split at hn
   ·rename_i h0 _;cases h0
   ·rename_i hs;cases hn;rw[hs] at aJ;exact⟨none,0,aJ.bY.qg⟩
   ·rename_i hs;cases hn;rw[hs] at aJ;generalize a.eval x=v at aJ;cases aJ with
    |bu i off n cap sz b c hb hc dO=>exact⟨_,_,rfl⟩
   ·rename_i hs;cases hn;rw[hs] at aJ;generalize a.eval x=v at aJ;cases aJ with
    |aB i e n sz b c hb hc hm dP=>exact⟨_,_,rfl⟩
   ·obtain⟨el,gP,rfl⟩:=au.1 hn;obtain⟨base,c,hv,_⟩:=mQ (ye aJ gP);exact⟨base,c,hv⟩
   ·cases hn
  obtain⟨base,c,hv⟩:=hv;simp[execOp,ho,resolve,invoke,builtin,hv,Builtin.len_,run_underlying ht,goInt]
theorem yh{n l h:Nat}{lo hi:Option D}(e:kB n lo hi=some (l,h)):
    l≤h∧h≤n∧(match lo with |none=>l=0 |some d=>d.lC=some l)∧(match hi with |none=>h=n |some d=>d.lC=some h):=by
 unfold kB at e;split at e
 ·rename_i l' h' e1 e2;split at e
  ·rename_i hc;cases e;refine⟨hc.1,hc.2,?_,?_⟩
   ·cases lo with
    |none=>cases e1;rfl
    |some d=>exact e1
   ·cases hi with
    |none=>cases e2;rfl
    |some d=>exact e2
  ·cases e
 ·cases e
theorem De(E:bh γ env a.tmps){lo hi:Option Operand}{qQ fk:Option aw}(dU:qe lo=some qQ)(qR:qe hi=some fk){n l h:Nat}(hb:kB n (qQ.map (·.ev env)) (fk.map (·.ev env))=some (l,h))
    (isSlice:Bool) (cap:Nat) (hc:n≤cap) (w:World):(Instr.sliceBounds isSlice n cap (lo.map a.eval) (hi.map a.eval) none).run P w= .ok (l,h,cap) w:=by
 obtain⟨h1,h2,h3,h4⟩:=yh hb;have GH:(hi=none∧h=n)∨∃x k,hi=some x∧a.eval x= .int k (h:Int):=by
  cases hi with
  |none=>cases qR;exact .inl ⟨rfl,h4⟩
  |some x=>
   simp only[qe] at qR;obtain⟨y,hy,rfl⟩:=au.1 qR;obtain⟨k,hk⟩:=yd (bT E hy) h4;exact .inr ⟨x,k,rfl,hk⟩
 have kF:(lo=none∧l=0)∨∃x k,lo=some x∧a.eval x= .int k (l:Int):=by
  cases lo with
  |none=>cases dU;exact .inl ⟨rfl,h3⟩
  |some x=>
   simp only[qe] at dU;obtain⟨y,hy,rfl⟩:=au.1 dU;obtain⟨k,hk⟩:=yd (bT E hy) h3;exact .inr ⟨x,k,rfl,hk⟩
 have sb:∀(k:IntKind) (i y:Nat) (c:BoundsCode),i≤y→(Instr.sliceBound (.int k (i:Int)) y c).run P w= .ok i w:=by
  intro k i y c hi;have:=run_sliceBound (P:=P) w k (i:Int) y c (by omega) (by omega);simpa using this
 rcases GH with⟨rfl,rfl⟩ |⟨x,k,rfl,hx⟩<;>rcases kF with⟨rfl,rfl⟩ |⟨x',k',rfl,dB⟩
 ·simp[Instr.sliceBounds]
 ·simp[Instr.sliceBounds,dB,sb _ _ _ _ h1]
 ·simp[Instr.sliceBounds,hx,sb _ _ _ _ (gA h2 hc)]
 ·simp[Instr.sliceBounds,hx,dB,sb _ _ _ _ (gA h2 hc),sb _ _ _ _ h1]
theorem AD{α:Type}{l:List α}{lo hi:Nat}{x:α}(h:x∈sub l lo hi):x∈l:=j8 (sU h)
theorem aZ.narrow{m:Mem}{ad:Option Addr}{n cap kH sz:Nat}{es:List PD}(h:aZ m (.slice ad n cap) (.slice sz es))(hc:n≤kH):aZ m (.slice ad n kH) (.slice sz es):=by
 cases h with
 |kD a cap sz=>exact .kD _ _ _
 |sl b o cap sz es vs kX aS dE hm hr=>exact .sl b o kH sz es vs hc aS dE hm hr
theorem QC{m:Mem}{ad:Option Addr}{cap sz:Nat}{es:List PD}(h:aZ m (.slice ad es.length cap) (.slice sz es)){l hh:Nat}(h1:l≤hh)(h2:hh≤es.length):
    aZ m (.slice (if cap=l then ad else ad.map (·.add (l*sz))) (hh-l) (cap-l)) (.slice sz (sub es l hh)):=by
 obtain⟨a',kH,hv,dO,aq⟩:=mQ h;cases hv;have hlen:(sub es l hh).length=hh-l:=wo _ _ _ h2;by_cases he:sub es l hh=[]
 ·have h0:hh-l=0:=by rw[←hlen,he];rfl
  rw[he,h0];exact .kD _ _ _
 ·have lJ:0<hh-l:=by
   rw[←hlen];exact xG.2 he
  obtain⟨b,off,vs,rfl,aS,dE,hm,hr⟩:=aq (fun e=>by subst e;simp at h2;omega);rw[if_neg (by omega)];have ZM:(Option.map (fun x:Addr=>x.add (l*sz)) (some ⟨b,off,none⟩))=some ⟨b,off+l*sz,none⟩:=by simp[Addr.add_lit]
  rw[ZM,←hlen];refine .sl b (off+l*sz) _ sz _ (fun i j=>vs (l+i) j) (by omega) (fun e he=>aS e (AD he)) (fun e he=>dE e (AD he)) (fun i j hi hj=>?_) (fun i e j c he hc=>?_)
  ·have:=hm (l+i) j (by omega) hj;rw[←this];congr 1;rw[fM];omega
  ·rw[pq] at he;split at he
   ·exact hr _ _ _ _ he hc
   ·cases he
theorem ZN(I:Inv G γ H w)(E:bh γ env a.tmps){t:TypeId}{x:Operand}{lo hi:Option Operand}{x':aw}{qQ fk:Option aw}(ho:o.op= .slice t x lo hi none)(ht:P.underlying t=some .string)
    (hx:aQ x=some x') (dU:qe lo=some qQ) (qR:qe hi=some fk) {d:D} {H':Hp} (he:aN G env H (.slice 0 x' qQ fk)=some (d,H')):cA P G γ H w a o d H':=by
 have aJ:=bT E hx;simp only[aN] at he;obtain⟨d',hd,hh⟩:=au.1 he;cases hh;simp only[CV] at hd;split at hd
 ·rename_i s hs;obtain⟨⟨l,h⟩,hb,rfl⟩:=au.1 hd;rw[hs] at aJ;have cb:=De (P:=P) E dU qR hb false s.length (aV _) w;obtain⟨h1,h2,_⟩:=yh hb;refine .same I (v:=.string ⟨(sub s l h).toArray⟩) ?_ (.p _ _ (.str _));have e:(⟨s.toArray⟩:ByteArray).extract l h=⟨(sub s l h).toArray⟩:=by
   apply ByteArray.ext;rw[ByteArray.data_extract];apply FT;simp[sub,List.take_drop,Nat.add_sub_cancel' h1]
  have aS:(⟨s.toArray⟩:ByteArray).size=s.length:=by simp[ByteArray.size]
  rw[←aS] at cb;simp[execOp,ho,aJ.bY.s9,Instr.sliceAt,Instr.slice,run_underlying ht,cb,e]
 ·cases hd
theorem QD{γ:Gh}{i off b n c:Nat}{cap:Option Nat}{sz l h:Nat}(hb:γ.boxes[i]? =some b)(hc:n≤c)(dO:∀k,cap=some k→c=k)(h1:l≤h)(h2:h≤n):
    aL γ (.slice (if c=l then some ⟨b,off,none⟩ else(some (⟨b,off,none⟩:Addr)).map (·.add (l*sz))) (h-l) (c-l)) (Al i off cap sz l h):=by
 unfold Al;cases cap with
 |some k=>
  have hk:=dO k rfl;subst hk;by_cases dr:c≤l
  ·have e:c=l:=by omega
   have e2:h-l=0:=by omega
   subst e;simp only[aV,if_true,e2,xE];exact .ff _ _
  ·simp only[dr,if_false];rw[if_neg (by omega)];simp only[eA,Addr.add_lit];exact .bu _ _ _ _ _ b _ hb (by omega) (fun k hk=>by cases hk;rfl)
 |none=>
  by_cases uC:l=h
  ·subst uC;simp only[if_true,xE];exact .p _ _ (.kD _ _ _)
  ·simp only[uC,if_false];rw[if_neg (by omega)];simp only[eA,Addr.add_lit];exact .bu _ _ _ _ _ b _ hb (by omega) (fun k hk=>by cases hk)
theorem ZO(I:Inv G γ H w)(E:bh γ env a.tmps){t e:TypeId}{n:Nat}{x:Operand}{lo hi:Option Operand}{x':aw}{qQ fk:Option aw}(ho:o.op= .slice t x lo hi none)(ht:P.underlying t=some (.slice e))(hn:fP P e=some (n+1))
    (hx:aQ x=some x') (dU:qe lo=some qQ) (qR:qe hi=some fk) {d:D} {H':Hp} (he:aN G env H (.slice (n+1) x' qQ fk)=some (d,H')):cA P G γ H w a o d H':=by
 have aJ:=bT E hx;simp only[aN] at he;obtain⟨d',hd,hh⟩:=au.1 he;cases hh;have run:∀(base:Option Addr) (len cap l h:Nat),a.eval x= .slice base len cap→(Instr.sliceBounds true len cap (lo.map a.eval) (hi.map a.eval) none).run P w= .ok (l,h,cap) w→
     (execOp a.eval o).run P w= .ok (.value (.slice (if cap=l then base else base.map (·.add (l*(n+1)))) (h-l) (cap-l))) w:=by
  intro base len cap l h hv hb;simp[execOp,ho,hv,Instr.sliceAt,Instr.slice,run_underlying ht,hb,l7 hn]
 simp only[CV] at hd;split at hd
 ·rename_i hs;rw[hs] at aJ;obtain⟨⟨l,h⟩,hb,rfl⟩:=au.1 hd;obtain⟨h1,h2,_⟩:=yh hb;have hl:l=0:=by omega
  have hh:h=0:=by omega
  subst hl;subst hh;have r:=run none 0 0 0 0 aJ.bY.qg (De E dU qR hb true 0 (aV _) w);exact .same I (v:=.slice none 0 0) (by simpa using r) (.p _ _ .aI)
 ·rename_i i off nn cap bF hs;split at hd
  ·rename_i aS;subst aS;rw[hs] at aJ;obtain⟨⟨l,h⟩,hb,rfl⟩:=au.1 hd;obtain⟨h1,h2,_⟩:=yh hb;generalize hv:a.eval x=v at aJ;cases aJ with
   |bu _ _ _ _ _ b c bX hc dO=>
    exact .same I (run _ _ _ l h hv (De E dU qR hb true c hc w)) (QD bX hc dO h1 h2)
  ·cases hd
 ·rename_i i e nn bF hs;split at hd
  ·rename_i aS;subst aS;rw[hs] at aJ;obtain⟨⟨l,h⟩,hb,rfl⟩:=au.1 hd;obtain⟨h1,h2,_⟩:=yh hb;generalize hv:a.eval x=v at aJ;cases aJ with
   |aB _ _ _ _ b c bX hc gC hk dP=>
    have r:=run _ _ _ l h hv (De E dU qR hb true c hc w);dsimp only;split
    ·rename_i pw;subst pw;refine .same I r ?_;have e0:(if c=0 then some ⟨b,0,none⟩ else(some (⟨b,0,none⟩:Addr)).map (·.add (0*(n+1))))=some ⟨b,0,none⟩:=by split<;>simp[Addr.add_lit]
     rw[e0];simp only[Nat.sub_zero];exact .aB _ _ _ _ b c bX (gA h2 hc) gC hk dP
    ·exact .same I r (QD bX hc (fun k hk=>by cases hk) h1 h2)
  ·cases hd
 ·split at hd
  ·rename_i bF es gP;split at hd
   ·rename_i aS;subst aS;obtain⟨⟨l,h⟩,hb,rfl⟩:=au.1 hd;obtain⟨h1,h2,_⟩:=yh hb;have q:=ye aJ gP;obtain⟨base,cap,hv,dO,_⟩:=mQ q;rw[hv] at q;exact .same I (run base es.length cap l h hv (De E dU qR hb true cap dO w)) (.p _ _ (QC q h1 h2))
   ·cases hd
  ·cases hd
theorem ZP(I:Inv G γ H w)(E:bh γ env a.tmps){t e:TypeId}{n:Nat}{x hi mx:Operand}{lo:Option Operand}{x' fk QE:aw}{qQ:Option aw}(ho:o.op= .slice t x lo (some hi) (some mx))(ht:P.underlying t=some (.slice e))(hn:fP P e=some (n+1))
    (hx:aQ x=some x') (dU:qe lo=some qQ) (qR:aQ hi=some fk) (hmx:aQ mx=some QE) {d:D} {H':Hp} (he:aN G env H (.slice3 (n+1) x' qQ fk QE)=some (d,H')):cA P G γ H w a o d H':=by
 have aJ:=bT E hx;simp only[aN] at he;obtain⟨d',hd,hh⟩:=au.1 he;cases hh;unfold P1 at hd;split at hd
 ·rename_i h m AE KN;split at hd
  ·rename_i ZQ;subst ZQ;obtain⟨kh,GH⟩:=yd (bT E qR) AE;obtain⟨km,rQ⟩:=yd (bT E hmx) KN;have sb:∀(k:IntKind) (i y:Nat) (c:BoundsCode),i≤y→(Instr.sliceBound (.int k (i:Int)) y c).run P w= .ok i w:=by
    intro k i y c hi;have:=run_sliceBound (P:=P) w k (i:Int) y c (by omega) (by omega);simpa using this
   have run:∀(base:Option Addr) (len cap l h':Nat),a.eval x= .slice base len cap→len≤cap→kB len (qQ.map (·.ev env)) (some (fk.ev env))=some (l,h')→
       (h'=h∧l≤h∧h≤len)∧(execOp a.eval o).run P w= .ok (.value (.slice (if h=l then base else base.map (·.add (l*(n+1)))) (h-l) (h-l))) w:=by
    intro base len cap l h' hv hc hb;obtain⟨h1,h2,h3,h4⟩:=yh hb;have h4:D.lC (fk.ev env)=some h':=h4;rw[AE] at h4;cases h4;have kF:(lo=none∧l=0)∨∃x k,lo=some x∧a.eval x= .int k (l:Int):=by
     cases lo with
     |none=>cases dU;exact .inl ⟨rfl,h3⟩
     |some x=>
      simp only[qe] at dU;obtain⟨y,hy,rfl⟩:=au.1 dU;obtain⟨k,hk⟩:=yd (bT E hy) h3;exact .inr ⟨x,k,rfl,hk⟩
    refine⟨⟨rfl,h1,h2⟩,?_⟩;rcases kF with⟨rfl,rfl⟩ |⟨x',k',rfl,dB⟩
    ·simp[execOp,ho,hv,Instr.sliceAt,Instr.slice,Instr.sliceBounds,run_underlying ht,l7 hn,GH,rQ,sb _ _ _ _ (gA h2 hc),sb _ _ _ _ (aV h)]
    ·simp[execOp,ho,hv,Instr.sliceAt,Instr.slice,Instr.sliceBounds,run_underlying ht,l7 hn,GH,rQ,dB,sb _ _ _ _ (gA h2 hc),sb _ _ _ _ (aV h),sb _ _ _ _ h1]
   have cut:∀(i off b nn c l h':Nat),γ.boxes[i]? =some b→l≤h→aL γ (.slice (if h=l then some ⟨b,off,none⟩ else(some (⟨b,off,none⟩:Addr)).map (·.add (l*(n+1)))) (h-l) (h-l)) (if l=h then .ff (n+1) else .bu i (off+l*(n+1)) (h-l) (some (h-l)) (n+1)):=by
    intro i off b nn c l h' hb hl;by_cases uC:l=h
    ·subst uC;simp only[if_true,xE];exact .ff _ _
    ·rw[if_neg uC,if_neg (Ne.symm uC)];simp only[eA,Addr.add_lit];exact .bu _ _ _ _ _ b _ hb (aV _) (fun k hk=>by cases hk;rfl)
   split at hd
   ·rename_i hs;rw[hs] at aJ;obtain⟨⟨l,h'⟩,hb,rfl⟩:=au.1 hd;obtain⟨⟨rfl,h1,h2⟩,r⟩:=run none 0 0 l h' aJ.bY.qg (aV _) hb;have hh:h'=0:=by omega
    have hl:l=0:=by omega
    subst hh;subst hl;exact .same I (v:=.slice none 0 0) (by simpa using r) (.p _ _ .aI)
   ·rename_i i off nn cap bF hs;split at hd
    ·rename_i aS;subst aS;rw[hs] at aJ;obtain⟨⟨l,h'⟩,hb,rfl⟩:=au.1 hd;generalize hv:a.eval x=v at aJ;cases aJ with
     |bu _ _ _ _ _ b c bX hc dO=>
      obtain⟨⟨rfl,h1,h2⟩,r⟩:=run _ _ _ l h' hv hc hb;exact .same I r (cut i off b nn c l h' bX h1)
    ·cases hd
   ·rename_i i e nn bF hs;split at hd
    ·rename_i aS;subst aS;rw[hs] at aJ;obtain⟨⟨l,h'⟩,hb,rfl⟩:=au.1 hd;generalize hv:a.eval x=v at aJ;cases aJ with
     |aB _ _ _ _ b c bX hc gC hk dP=>
      obtain⟨⟨rfl,h1,h2⟩,r⟩:=run _ _ _ l h' hv hc hb;have:=cut i 0 b nn c l h' bX h1;simp only[eS] at this;exact .same I r this
    ·cases hd
   ·split at hd
    ·rename_i bF es gP;split at hd
     ·rename_i aS;subst aS;obtain⟨⟨l,h'⟩,hb,rfl⟩:=au.1 hd;have q:=ye aJ gP;obtain⟨base,cap,hv,dO,_⟩:=mQ q;rw[hv] at q;obtain⟨⟨rfl,h1,h2⟩,r⟩:=run base es.length cap l h' hv dO hb;have dk:(sub es l h').length=h'-l:=wo _ _ _ h2;refine .same I r ?_;have pc:=QC q h1 h2;have :aZ γ.mem (.slice (if h'=l then base else base.map (·.add (l*(n+1)))) (h'-l) (h'-l)) (.slice (n+1) (sub es l h')):=by
       by_cases uC:h'=l
       ·rw[if_pos uC];have :sub es l h'=[]:=tY (by omega);rw[this,show h'-l=0 by omega];exact .kD _ _ _
       ·rw[if_neg uC];rw[if_neg (show ¬cap=l by omega)] at pc;exact pc.narrow (by omega)
      exact .gK _ _ _ _ dk.symm this
     ·cases hd
    ·cases hd
  ·cases hd
 ·cases hd
end Go.Vs
namespace Go.Vs
variable {P : Program} {G : Nat → Option (List PD)} {γ : Gh} {H : Hp} {w : World} {env : Env} {a : Act} {o : Oper}
theorem yi:∀{ds:List D} {xs:List PD},D.jn ds=some xs→xs.length=ds.length∧∀(i:Nat) x,xs[i]? =some x→∃d,ds[i]? =some d∧d.eM=some x
 |[],xs,h=>by simp only[D.jn] at h;cases h;exact⟨rfl,fun i x hx=>by simp at hx⟩
 |d::r,xs,h=>by
  simp only[D.jn] at h;split at h
  ·rename_i x hx;obtain⟨ys,hy,rfl⟩:=au.1 h;obtain⟨h1,h2⟩:=yi hy;refine⟨by simp[h1],fun i z hz=>?_⟩
   match i with
   | 0=>simp only[ew,bI] at hz;subst hz;exact⟨d,rfl,hx⟩
   |i+1=>exact h2 i z (by simpa using hz)
  ·cases h
theorem Df{d:D}{x:PD}(h:d.eM=some x)(h1:d.one=true):x.one=true:=by
 cases d<;>simp only[D.eM] at h<;>first |(cases h;done) |(rename_i es;cases es<;>(cases h;rfl)) |(cases h;first |rfl |exact h1) |(simp[D.one] at h1;done) |(obtain⟨z,_,rfl⟩:=au.1 h;rfl)
theorem yj{γ:Gh}{v:Value}{d:D}(r:aL γ v d):∀{x:PD},d.eM=some x→aZ γ.mem v x:=by
 induction r with
 |p v x hx=>intro y h;simp only[D.eM] at h;cases h;exact hx
 |cI b n e sz es hb ht hn hx=>
  intro y h;simp only[D.eM,bI] at h;subst h;cases es with
  |nil=>subst hn;exact .emp _ _ _
  |cons x es=>exact hx
 |ff a sz=>intro y h;simp only[D.eM] at h;cases h;exact .kD _ _ _
 |gK a n sz es hn hx=>intro y h;simp only[D.eM] at h;cases h;exact hx
 |eE t v d _ ih=>
  intro y h;simp only[D.eM] at h;obtain⟨z,hz,rfl⟩:=au.1 h;exact .iface t v z (ih hz)
 |bk v t e sz es row r h1 h2 h3 h4 h5 h6=>intro y h;simp only[D.eM] at h;cases h;exact h4
 |agg cs ds hl dE hr ih=>
  intro y h;simp only[D.eM] at h;obtain⟨xs,hx,rfl⟩:=au.1 h;obtain⟨h1,h2⟩:=yi hx;refine .agg cs xs (hl.trans h1.symm) (fun x dB=>?_) (fun i x hi=>?_)
  ·obtain⟨i,hi⟩:=eC dB;obtain⟨d,a1,a2⟩:=h2 i x hi;exact Df a2 (dE d (bS a1))
  ·obtain⟨d,a1,a2⟩:=h2 i x hi;exact ih i d a1 a2
 |_=>intro y h;simp only[D.eM] at h;cases h
theorem bytes_beq(x y:List UInt8):((⟨x.toArray⟩:ByteArray)==⟨y.toArray⟩)=(x==y):=by
 have h:((⟨x.toArray⟩:ByteArray)==⟨y.toArray⟩)=(x.toArray==y.toArray):=rfl;rw[h,Bool.eq_iff_iff];simp
theorem ZR{t:TypeId}{tag:Nat}(ht:C7 P t=some tag){m:Mem}{u v:Value}{x y:PD}(hu:aZ m u x)(hv:aZ m v y){r:Bool}(h:PD.eqv tag x y=some r)(d:Nat)(w:World):(Op.equalIn (d+1) t u v).run P w= .ok r w:=by
 unfold C7 at ht;split at ht<;>cases ht<;>rename_i dP
 ·simp only[PD.eqv] at h;split at h<;>first |(cases h;done) |skip
  ·cases h;rw[hu.s8,hv.s8];exact Qy _ _ dP _ _
  ·rename_i h0;cases h0
  ·rename_i h0;cases h0
 ·simp only[PD.eqv] at h;split at h<;>first |(cases h;done) |skip
  ·rename_i h0;cases h0
  ·split at h
   ·rename_i hk;subst hk;cases h;rw[hu.iI,hv.iI];exact ZD _ _ dP _ _ _
   ·cases h
  ·rename_i h0;cases h0
 ·simp only[PD.eqv] at h;split at h<;>first |(cases h;done) |skip
  ·rename_i h0;cases h0
  ·rename_i h0;cases h0
  ·cases h;rw[hu.s9,hv.s9,ZE _ _ dP,bytes_beq]
theorem QF{t:TypeId}{tag:Nat}(ht:C7 P t=some tag)(w:World):(isAgg t).run P w= .ok false w:=by
 unfold C7 at ht;split at ht<;>cases ht<;>rename_i dP<;>simp[isAgg,run_underlying dP]
def eqFields(dp:Nat)(xs ys:Array Value):List Field→Sem (Option Bool)
 |[]=>pure none
 |f::r=>do
  if f.name≠ "_" then
   if !(←Op.equalIn dp f.type (←part f.type xs f.offset) (←part f.type ys f.offset)) then return some false
  eqFields dp xs ys r
theorem QG{m:Mem}{xs ys:Array Value}{ps qs:List PD}(hx:∀i d,ps[i]? =some d→aZ m (xs.getD i undef) d)(hy:∀i d,qs[i]? =some d→aZ m (ys.getD i undef) d)
    (lx:xs.size=ps.length) (ly:ys.size=qs.length) (dp:Nat) (w:World):∀(fs:List Field) (i:Nat) (ts:List Nat) (r:Bool),Aw P i fs=some ts→p8 ts (ps.drop i) (qs.drop i)=some r→
     (eqFields (dp+1) xs ys fs).run P w= .ok (if r then none else some false) w
 |[],i,ts,r,h,he=>by
  simp only[Aw] at h;cases h;have hr:r=true:=by
   cases hp:ps.drop i<;>cases hq:qs.drop i<;>rw[hp,hq] at he<;>simp[p8] at he;exact he
  subst hr;simp[eqFields]
 |f::fs,i,ts,r,h,he=>by
  simp only[Aw] at h;split at h
  ·rename_i tg KO;split at h
   ·rename_i hc;obtain⟨ZS,px,rfl⟩:=au.1 h;have QH:f.name≠ "_" :=by simpa using hc.2
    cases hp:ps.drop i with
    |nil=>rw[hp] at he;simp[p8] at he
    |cons p pr=>
     cases hq:qs.drop i with
     |nil=>rw[hp,hq] at he;simp[p8] at he
     |cons q qr=>
      rw[hp,hq] at he;have e1:ps[i]? =some p:=by
       have:=congrArg (fun l=>l[0]?) hp;simpa using this
      have e2:qs[i]? =some q:=by
       have:=congrArg (fun l=>l[0]?) hq;simpa using this
      have d1:ps.drop (i+1)=pr:=by
       have:=congrArg (List.drop 1) hp;simpa[CP] using this
      have d2:qs.drop (i+1)=qr:=by
       have:=congrArg (List.drop 1) hq;simpa[CP] using this
      simp only[p8] at he;split at he
      ·rename_i e g yk ZT;cases he;have l1:i<xs.size:=by rw[lx];exact(az.1 e1).1
       have l2:i<ys.size:=by rw[ly];exact(az.1 e2).1
       obtain⟨u,p1,ru⟩:∃u,(part f.type xs f.offset).run P w= .ok u w∧aZ m u p:=
        ⟨xs.getD i undef,by simp[part,QF KO,hc.1,pY l1,bN],hx i p e1⟩
       obtain⟨v,p2,rv⟩:∃u,(part f.type ys f.offset).run P w= .ok u w∧aZ m u q:=
        ⟨ys.getD i undef,by simp[part,QF KO,hc.1,pY l2,bN],hy i q e2⟩
       have q1:=ZR KO ru rv yk dp w;cases e with
       |false=>simp[eqFields,QH,p1,p2,q1]
       |true=>
        have ih:=QG hx hy lx ly dp w fs (i+1) ZS g px (by rw[d1,d2];exact ZT);simp[eqFields,QH,p1,p2,q1,ih]
      ·cases he
   ·cases h
  ·cases h
theorem ZU{t:TypeId}{fs:Array Field}(ht:P.underlying t=some (.struct fs))(h1:P.stoodInHeld t=false){xs ys:Array Value}(n:Nat)(w:World){r:Bool}
    (h:(eqFields n xs ys fs.toList).run P w= .ok (if r then none else some false) w):(Op.equalIn (n+1) t (.agg xs) (.agg ys)).run P w= .ok r w:=by
 simp only[Op.equalIn,Sem.run_bind,run_underlying ht,Result.andThen_ok,run_program,h1,ob,if_false];rw[←Array.forIn_toList];have key:∀(l:List Field),(forIn l ((none:Option Bool),()) fun f __s=>
           if f.name≠ "_" then do
            let KP ←part f.type xs f.offset
            let ZV ←part f.type ys f.offset
            let KP ←Op.equalIn n f.type KP ZV
            if(!KP)=true then pure (ForInStep.done (some false,())) else pure (ForInStep.yield (none,()))
           else pure (ForInStep.yield (none,())):Sem (Option Bool×Unit))=(do let x ←eqFields n xs ys l;pure (x,())):=by
  intro l
  induction l with
  |nil=>simp[eqFields]
  |cons f l ih=>
   rw[List.forIn_cons];simp only[eqFields];by_cases hf:f.name= "_"
   ·rw[if_neg (by simp[hf]),if_neg (by simp[hf])];simp only[pure_bind];exact ih
   ·rw[if_pos (by simp[hf]),if_pos (by simp[hf])];simp only[bind_assoc];congr 1;funext u;congr 1;funext v;congr 1;funext b
    cases b
    ·simp
    ·simp only[Pw,ob,if_false,pure_bind];exact ih
 rw[key];simp only[Sem.run_bind,h,Result.andThen_ok,Sem.run_pure];cases r<;>simp
theorem ZW(I:Inv G γ H w)(E:bh γ env a.tmps){op:BinOp}{t yt:TypeId}{x y:Operand}{x' y':aw}(ho:o.op= .binOp op t x y yt)(dF:op= .eql∨op= .neq)(hx:aQ x=some x')(hy:aQ y=some y')
    {fs:Array Field} (ht:P.underlying t=some (.struct fs)) (h1:P.stoodInHeld t=false) (h2:P.eqGuardType P.depth t=false) {ts:List Nat} (px:Aw P 0 fs.toList=some ts)
    {d:D} {H':Hp} (he:aN G env H (.eqs (op== .neq) ts x' y')=some (d,H')):cA P G γ H w a o d H':=by
 have aJ:=bT E hx;have fy:=bT E hy;simp only[aN] at he;split at he
 ·rename_i p q e1 e2;obtain⟨r,hr,hh⟩:=au.1 he;cases hh;rw[e1] at aJ;rw[e2] at fy;obtain⟨xs,ZX,lx,_,rx⟩:=aJ.bY.KL;obtain⟨ys,ZY,ly,_,ry⟩:=fy.bY.KL;refine .same I (v:=.bool (if op== .neq then !r else r)) ?_ (.p _ _ (.bool _));have g:(eqGuard op t x y (.agg xs) (.agg ys)).run P w= .ok () w:=by
   unfold eqGuard;rcases dF with rfl |rfl<;>simp[h2]
  have q:(Op.equal t (.agg xs) (.agg ys)).run P w= .ok r w:=by
   rw[th];have:=QG (P:=P) rx ry lx ly 9998 w fs.toList 0 ts r px (by simpa using hr);exact ZU ht h1 9999 w this
  have q':=KM dF (u:=.agg xs) (v:=.agg ys) rfl q;simp[execOp,ho,ZX,ZY,g,q']
 ·cases he
variable {P : Program} {G : Nat → Option (List PD)} {γ : Gh} {H : Hp} {w : World} {env : Env} {a : Act} {o : Oper}
theorem ZZ(I:Inv G γ H w)(E:bh γ env a.tmps){t:TypeId}{x i:Operand}{y j:aw}(ho:o.op= .index t x i)(ht:P.underlying t=some .string)
    (hx:aQ x=some y) (hi:aQ i=some j) {d:D} {H':Hp} (he:aN G env H (.index none y j)=some (d,H')):cA P G γ H w a o d H':=by
 have aJ:=bT E hx;have yf:=bT E hi;simp only[aN] at he;split at he
 ·rename_i n hn;obtain⟨k,uB⟩:=Da yf hn;obtain⟨d',hd,hh⟩:=au.1 he;cases hh;simp only[uj] at hd;split at hd
  ·rename_i s hs;split at hd
   ·rename_i h0;obtain⟨c,hc,rfl⟩:=au.1 hd;rw[hs] at aJ;have ah:n.toNat<s.length:=(az.1 hc).1;have hval:s[n.toNat]=c:=(az.1 hc).2;refine .same I (v:=.int .u8 c.toNat) ?_ (.p _ _ (.int _ _));have l8:(⟨s.toArray⟩:ByteArray).size=s.length:=by simp[ByteArray.size]
    have hg:(⟨s.toArray⟩:ByteArray)[n.toNat]? =some c:=by
     rw[getElem?_pos _ _ (by rw[l8];exact ah),←hval];rfl
    simp[execOp,ho,aJ.bY.s9,uB,Instr.index,run_underlying ht,asIntOf,h0,hg]
   ·cases hd
  ·cases hd
 ·cases he
theorem Z0{e:TypeId}{s:Nat}{c:Option Nat}(hs:fP P e=some s)(hc:lZ P e=some c):c=if c.isSome then some s else none:=by
 cases c with
 |none=>rfl
 |some n=>
  have :n=s:=by
   unfold lZ at hc;rw[hs] at hc;split at hc<;>first |(cases hc;done) |skip
   ·rename_i h1 h2;cases h2;cases hc;rfl
   ·rename_i h1 h2;cases h2;cases hc;rfl
  subst this;rfl
theorem Z1(I:Inv G γ H w)(E:bh γ env a.tmps){t e:TypeId}{len s:Nat}{c:Option Nat}{x i:Operand}{y j:aw}(ho:o.op= .index t x i)(ht:P.underlying t=some (.array len e))(hs:fP P e=some s)(hc:lZ P e=some c)
    (hx:aQ x=some y) (hi:aQ i=some j) {d:D} {H':Hp} (he:aN G env H (.index (some (len,s,c.isSome)) y j)=some (d,H')):cA P G γ H w a o d H':=by
 have aJ:=bT E hx;have yf:=bT E hi;have eh:=Z0 hs hc;simp only[aN] at he;split at he
 ·rename_i n hn;obtain⟨k,uB⟩:=Da yf hn;obtain⟨d',hd,hh⟩:=au.1 he;cases hh;simp only[uj] at hd;split at hd
  ·rename_i hb;have key:∀ds,(y.ev env= .agg ds∨∃cs,y.ev env= .p (.agg cs)∧ds=cs.map .p)→cutAt ds (n.toNat*s) (if c.isSome=true then some s else none) id ec=some d→cA P G γ H w a o d H:=by
    intro ds oD hcut;obtain⟨vs,hv,h1,h2⟩:=Qu aJ oD;rw[←eh] at hcut;obtain⟨v,q1,q2⟩:=Qt hc h1 h2 hcut w;exact .same I (v:=v) (by simp[execOp,ho,hv,uB,Instr.index,run_underlying ht,asIntOf,hb,l7 hs,q1]) q2
   split at hd
   ·rename_i cs ak;exact key _ (.inr ⟨cs,ak,rfl⟩) (AB hd)
   ·rename_i cs ak;exact key _ (.inl ak) hd
   ·cases hd
  ·cases hd
 ·cases he
theorem GI(g o:Nat)(t:TypeId)(fr:Nat×Nat):∀(vs:List Value) (i:Nat) (cur:Array Value) (w:World),w.heap[g]? =some (.cells cur t fr)→clear fr (o+i) cur.size→o+i+vs.length≤cur.size→(∀v∈vs,v.oneCell'=true)→
    (storeCells ⟨g,o,none⟩ vs i).run P w= .ok () (w.setRow g (cur.toList.take (o+i)++vs++cur.toList.drop (o+i+vs.length)).toArray)
 |[],i,cur,w,hg,_,_,_=>by
  simp only[storeCells,lA,fW,oe,xH,Array.toArray_toList];rw[setRow_self w g cur t fr hg];rfl
 |v::rest,i,cur,w,hg,hu,hl,h1=>by
  have hi:o+i<cur.size:=by simp at hl;omega
  have KQ:(⟨g,o,none⟩:Addr).add i=⟨g,o+i,none⟩:=Addr.add_lit _ _ _;have mS:w.cell? ⟨g,o+i,none⟩=some cur[o+i]:=by simp[World.cell?,hg,hi]
  have Z2:w.frozen? ⟨g,o+i,none⟩=false:=by
   have:=hu (o+i) (aV _) hi;simp only[World.frozen?,hg];obtain⟨f1,f2⟩:=fr;simp only at this⊢;cases hd:(decide (f1≤o+i)&&decide (o+i<f2)) with
   |false=>rfl
   |true=>simp at hd;exact(this hd).elim
  have cC:(store ((⟨g,o,none⟩:Addr).add i) v).run P w= .ok () (w.setRow g (cur.setIfInBounds (o+i) v)):=by
   rw[KQ,run_store P w _ v _ (h1 v (by simp)),mS];simp[Z2,setCell_eq_setRow w g (o+i) cur t fr v hg]
  have ih:=GI g o t fr rest (i+1) (cur.setIfInBounds (o+i) v) (w.setRow g (cur.setIfInBounds (o+i) v)) (setRow_heap w g cur _ t _ hg) (fun k hk bW=>hu k (by omega) (by simpa using bW)) (by simp at hl⊢;omega) (fun x hx=>h1 x (by simp[hx]));simp only[storeCells,Sem.run_bind,cC,Result.andThen_ok,ih,setRow_setRow];congr 3
  have:=list_seg_step cur.toList (o+i) v rest (by simp at hl⊢;omega);have e1:o+(i+1)=o+i+1:=by omega
  have e2:o+i+(v::rest).length=o+i+(rest.length+1):=by simp
  rw[e1,e2];simpa[Array.toList_setIfInBounds] using this
theorem GJ{t:TypeId}{n:Option Nat}(ht:lZ P t=some n){b off:Nat}{f:Nat→Value}(h:∀j,j<n.getD 1→w.cell? ⟨b,off+j,none⟩=some (f j)):
    (loadVar t ⟨b,off,none⟩).run P w= .ok (match n with |none=>f 0 |some k=>.agg ((ku k).map f).toArray) w:=by
 cases n with
 |none=>
  have h0:=h 0 (by simp);simp only[oe] at h0;simp[loadVar,Qq ht,h0]
 |some k=>
  obtain⟨q1,q2⟩:=Qp ht w;have q:=run_loadCells (P:=P) w ⟨b,off,none⟩ k f (fun j hj=>by rw[Addr.add_lit];exact h j (by simpa using hj));simp[loadVar,q1,q2,q]
theorem QJ{γ:Gh}{ds:List D}{f:Nat→Value}{off k:Nat}(hk:off+k≤ds.length)(h:∀j d,j<k→ds[off+j]? =some d→aL γ (f j) d):cy γ ((ku k).map f).toArray (sub ds off (off+k)):=by
 refine⟨by rw[wo _ _ _ hk];simp,fun i d hd=>?_⟩;rw[pq] at hd;split at hd
 ·rename_i ah;have hi:i<k:=by omega
  have e:(((ku k).map f).toArray).getD i undef=f i:=by simp[bN,hi]
  rw[e];exact h i d hi hd
 ·cases hd
theorem KR(I:Inv G γ H w){t:TypeId}{x:Operand}{n:Option Nat}(ho:o.op= .load t x)(ht:lZ P t=some n){b base off:Nat}(hv:a.eval x= .pointer (some ⟨b,base+off,none⟩)){ds:List D}
    {f:Nat→Value} (mS:∀j,j<ds.length→w.cell? ⟨b,base+j,none⟩=some (f j)) (hr:∀j d,ds[j]? =some d→aL γ (f j) d) (h1:∀d∈ds,d.one=true) {d:D}
    (hd:cutAt ds off n id ec=some d):cA P G γ H w a o d H:=by
 unfold cutAt at hd;split at hd
 ·obtain⟨d',bH,rfl⟩:=au.1 hd;have ah:=(az.1 bH).1;have q:=GJ (P:=P) (w:=w) ht (b:=b) (off:=base+off) (f:=fun j=>f (off+j)) (fun j hj=>by
   have :j=0:=by simpa using hj
   subst this;exact mS off ah)
  exact .same I (v:=f off) (by simp[execOp,ho,hv,Instr.loadAt,Instr.sureAddr,q]) (hr off _ bH)
 ·rename_i k;split at hd
  ·rename_i hk;cases hd;have q:=GJ (P:=P) (w:=w) ht (b:=b) (off:=base+off) (f:=fun j=>f (off+j)) (fun j hj=>by
    have hj:j<k:=by simpa using hj
    rw[vQ];exact mS (off+j) (by omega))
   refine .same I (v:=.agg ((ku k).map fun j=>f (off+j)).toArray) (by simp[execOp,ho,hv,Instr.loadAt,Instr.sureAddr,q]) (Db (QJ hk fun j d hj hd=>hr _ _ hd) (fun d hd=>h1 d (AD hd)))
  ·cases hd
theorem Z3(I:Inv G γ H w)(E:bh γ env a.tmps){t:TypeId}{x:Operand}{y:aw}{n:Option Nat}(ho:o.op= .load t x)(ht:lZ P t=some n)(hx:aQ x=some y)
    {d:D} {H':Hp} (he:aN G env H (.load n y)=some (d,H')):cA P G γ H w a o d H':=by
 have aJ:=bT E hx;simp only[aN] at he;obtain⟨d',hd,hh⟩:=au.1 he;cases hh;unfold ph at hd;split at hd
 ·rename_i i off hp;split at hd
  ·rename_i cs ak;rw[hp] at aJ;split at hd
   ·cases hd
   rename_i hm;have hm:aU cs=false:=by simpa using hm
   generalize cD:a.eval x=v at aJ;cases aJ with
   |box _ _ b hb=>
    obtain⟨vs,T,fr,q1,q2,q3,_⟩:=I.box i b cs hb ak;rw[iU hm] at q1;have q3:=q3 hm;refine KR I ho ht (b:=b) (base:=0) (off:=off) (by rw[cD,eS]) (ds:=cs) (f:=fun j=>vs.getD j undef) (fun j hj=>?_) q2.2 q3 hd;have jS:j<vs.size:=xF hj q2.1;simp[World.cell?,q1,jS,bN]
  ·cases hd
 ·rename_i cs off hp;rw[hp] at aJ;generalize cD:a.eval x=v at aJ;cases aJ with
  |ro b base _ _ vs hm hr=>
   refine KR I ho ht (b:=b) (base:=base) (off:=off) cD (ds:=cs.map .p) (f:=vs) (fun j hj=>I.mem _ _ _ (hm j (by simpa using hj))) (fun j d hd=>?_) (fun d hd=>?_) (AB hd)
   ·simp only[cP,au] at hd;obtain⟨z,hz,rfl⟩:=hd;exact .p _ _ (hr j z hz).1
   ·obtain⟨z,hz,rfl⟩:=dz.1 hd;obtain⟨j,hj⟩:=eC hz;exact(hr j z hj).2
 ·rename_i g off hp;split at hd
  ·rename_i cs ak;rw[hp] at aJ;generalize cD:a.eval x=v at aJ;cases aJ with
   |eD _ _=>
    have hg:=I.jQ g cs ak;refine KR I ho ht (b:=g) (base:=0) (off:=off) (by rw[cD,eS]) (ds:=cs.map .p) (f:=fun j=>(γ.mem g j).getD undef) (fun j hj=>?_) (fun j d hd=>?_) (fun d hd=>?_) (AB hd)
    ·have hj:j<cs.length:=by simpa using hj
     obtain⟨_,v,q1,q2⟩:=hg j _ (aA hj);rw[q1];simp only[eS,kU];exact I.mem _ _ _ q1
    ·simp only[cP,au] at hd;obtain⟨z,hz,rfl⟩:=hd;obtain⟨_,v,q1,q2⟩:=hg j z hz;rw[q1];exact .p _ _ q2
    ·obtain⟨z,hz,rfl⟩:=dz.1 hd;obtain⟨j,hj⟩:=eC hz;exact(hg j z hj).1
  ·cases hd
 ·cases hd
theorem Z4(I:Inv G γ H w)(E:bh γ env a.tmps){t:TypeId}{x y:Operand}{x' y':aw}{n:Nat}(ho:o.op= .store t x y)(ht:fP P t=some n)(hx:aQ x=some x')(hy:aQ y=some y')
    {d:D} {H':Hp} (he:aN G env H (.store n x' y')=some (d,H')):cA P G γ H w a o d H':=by
 have aJ:=bT E hx;have fy:=bT E hy;simp only[aN] at he;obtain⟨H1,hd,hh⟩:=au.1 he;cases hh;unfold uk at hd;split at hd
 ·rename_i i off hp;split at hd
  ·rename_i cs ak;split at hd
   ·rename_i hc;obtain⟨hm,hl,h1,fx,am1⟩:=hc;cases hd;rw[hp] at aJ;generalize cD:a.eval x=v at aJ;cases aJ with
    |box _ _ b hb=>
     obtain⟨vs,T,fr,q1,q2,q3,q4⟩:=I.box i b cs hb ak;rw[iU hm] at q1;have nF:cs≠[]:=fun e=>by subst e;simp at fx;omega
     have q4:=q4 nF;have q21:=q2.1;obtain⟨r1,r2⟩:=fy.cells h1;have KS:(a.eval y).cells.size=n:=by rw[r1.1,hl]
     have one:∀u∈(a.eval y).cells.toList,u.oneCell'=true:=by
      intro u hu;obtain⟨j,hj⟩:=eC hu;have jS:j<(y'.ev env).cells.length:=by rw[←r1.1];simpa using (az.1 hj).1
      have q:=r1.2 j _ (aA jS);have e:(a.eval y).cells.getD j undef=u:=by
       have :(a.eval y).cells[j]? =some u:=by simpa using hj
       simp[bN,this]
      rw[e] at q;exact q.Qh (r2 _ (bO jS))
     have st:=GI (P:=P) b off T fr (a.eval y).cells.toList 0 vs w q1 (fun k _ hk=>q4 k (b9 _) hk) (by simp[KS];omega) one;simp only[oe] at st;have nG:(y'.ev env).cells.length=(a.eval y).cells.toList.length:=by rw[←r1.1];simp
     obtain⟨s1,s2⟩:=I.store hb ak (us:=(a.eval y).cells.toList) (ds:=(y'.ev env).cells) (off:=off) (by simpa using r1) r2 (by rw[hl];exact fx) q1 q4 q2 hm nF;refine⟨undef,_,γ,.inr ⟨?_,rfl⟩,.refl γ,s1,s2,.undef⟩;have e2:((a.eval y).cells.size≠n)=False:=by simp[KS]
     simp[execOp,ho,cD,Instr.storeAt,Instr.sureAddr,storeVar,l7 ht,KS,st]
   ·cases hd
  ·cases hd
 ·cases hd
theorem Z5(I:Inv G γ H w){e:TypeId}{z:PD}(ho:o.op= .alloc e)(hz:zeroOf P e=some z){d:D}{H':Hp}(he:aN G env H (.alloc z.cells)=some (d,H')):cA P G γ H w a o d H':=by
 simp only[aN] at he;split at he
 ·rename_i h1;cases he;obtain⟨v,q1,q2⟩:=wm hz w;obtain⟨r1,r2⟩:=(s7 γ.mem q2).cells;obtain⟨γ',a1,a2,a3,a4⟩:=I.KD (vs:=v.cells) (cs:=z.cells.map .p) e (Dd r1 fun i d hd=>(r2 i d hd).1).C2 (fun c hc=>by
   obtain⟨x,hx,rfl⟩:=dz.1 hc;exact gI.1 h1 x hx)
  exact⟨.pointer (some ⟨w.heap.size,0,none⟩),_,γ',.inl (by simp[execOp,ho,Instr.alloc,q1,newVar,newRow]),a1,a3,a4,.box _ _ _ a2⟩
 ·cases he
theorem Z6(I:Inv G γ H w)(E:bh γ env a.tmps){e:TypeId}{x:Operand}{y:aw}(ho:o.op= .box e x)(hx:aQ x=some y){d:D}{H':Hp}(he:aN G env H (.box y)=some (d,H')):cA P G γ H w a o d H':=by
 have aJ:=bT E hx;simp only[aN] at he;split at he
 ·rename_i h1;cases he;obtain⟨r1,r2⟩:=aJ.cells h1;obtain⟨γ',a1,a2,a3,a4⟩:=I.KD (vs:=(a.eval x).cells) (cs:=(y.ev env).cells) e r1.C2 r2;exact⟨.pointer (some ⟨w.heap.size,0,none⟩),_,γ',.inl (by simp[execOp,ho,Instr.box,newVar,newRow]),a1,a3,a4,.box _ _ _ a2⟩
 ·cases he
theorem KT(off:Nat):∀(us:List Value) (k:Nat) (cells:Array Value),
    ((us.zipIdx k).foldl (fun cs (x:Value×Nat)=>cs.setIfInBounds (off+x.2) x.1) cells).size=cells.size∧
     ∀i,((us.zipIdx k).foldl (fun cs (x:Value×Nat)=>cs.setIfInBounds (off+x.2) x.1) cells)[i]? =
      if off+k≤i∧i<off+k+us.length then(if i<cells.size then us[i-(off+k)]? else none) else cells[i]?
 |[],k,cells=>⟨rfl,fun i=>by simp;intro h1 h2;omega⟩
 |u::us,k,cells=>by
  simp only[List.zipIdx_cons,Af];obtain⟨h1,h2⟩:=KT off us (k+1) (cells.setIfInBounds (off+k) u);refine⟨by rw[h1];simp,fun i=>?_⟩;rw[h2];simp only[Yz,dZ];by_cases ha:off+(k+1)≤i∧i<off+(k+1)+us.length
  ·have hc:off+k≤i∧i<off+k+(us.length+1):=⟨by omega,by omega⟩;have :i-(off+k)=(i-(off+(k+1)))+1:=by omega
   simp only[ha,hc,and_self,if_true,this,vN]
  ·rw[if_neg ha,Ka];by_cases hb:off+k=i
   ·subst hb;simp
   ·have hc:¬(off+k≤i∧i<off+k+(us.length+1)):=by omega
    rw[if_neg hb,if_neg hc]
theorem Z7{γ:Gh}{cells:Array Value}{ds:List D}(r:cy γ cells ds){us:Array Value}{xs:List D}(q:cy γ us xs){off:Nat}(h:off+xs.length≤ds.length):
    cy γ (us.zipIdx.foldl (fun cs (x:Value×Nat)=>cs.setIfInBounds (off+x.2) x.1) cells) (aE ds off xs):=by
 have e:us.zipIdx.foldl (fun cs (x:Value×Nat)=>cs.setIfInBounds (off+x.2) x.1) cells=(us.toList.zipIdx 0).foldl (fun cs (x:Value×Nat)=>cs.setIfInBounds (off+x.2) x.1) cells:=by
  rw[←YA];simp
 rw[e];obtain⟨h1,h2⟩:=KT off us.toList 0 cells;have KF:us.size=xs.length:=q.1;have dr:cells.size=ds.length:=r.1;refine⟨by rw[h1,KE _ _ _ h];exact r.1,fun i d hd=>?_⟩;rw[Ql _ _ _ h] at hd;have tj:=h2 i;simp only[oe,qE] at tj;by_cases a1:i<off
 ·rw[if_pos a1] at hd;rw[if_neg (by omega)] at tj;have:=r.2 i d hd;simpa[bN,tj] using this
 ·rw[if_neg a1] at hd;by_cases a2:i<off+xs.length
  ·rw[if_pos a2] at hd;rw[if_pos (by omega),if_pos (by omega)] at tj;have:=q.2 (i-off) d hd;simpa[bN,tj] using this
  ·rw[if_neg a2] at hd;rw[if_neg (by omega)] at tj;have:=r.2 i d hd;simpa[bN,tj] using this
theorem GK(E:bh γ env a.tmps){place:Nat→Option (Nat×Nat)}:∀(ps:List (Nat×Operand)) (qs:List (Nat×Nat×aw)) (cells:Array Value) (ds eG:List D),partsOf P place ps=some qs→
    cy γ cells ds→(∀d∈ds,d.one=true)→aO ds (qs.map fun q=>(q.1,q.2.1,q.2.2.ev env))=some eG→
    ∃jr,Instr.fill place cells (ps.map fun p=>(p.1,a.eval p.2))=some jr∧cy γ jr eG∧∀d∈eG,d.one=true
 |[],qs,cells,ds,eG,hp,r,h1,h=>by
  simp only[partsOf] at hp;cases hp;simp only[mF,aO] at h;cases h;exact⟨cells,rfl,r,h1⟩
 |(i,x)::ps,qs,cells,ds,eG,hp,r,h1,h=>by
  simp only[partsOf] at hp;split at hp
  ·rename_i off n y cg hy;obtain⟨KU,hq,rfl⟩:=au.1 hp;simp only[dA,aO] at h;split at h
   ·rename_i hc;obtain⟨c1,c2,c3⟩:=hc;have fy:=bT E hy;obtain⟨r1,r2⟩:=fy.cells c3;have aS:(a.eval x).cells.size=n:=by rw[r1.1,c1]
    have ak:cells.size=ds.length:=r.1;have lay:=Z7 r r1 (off:=off) (by omega);obtain⟨jr,q1,q2,q3⟩:=GK E ps KU _ _ eG hq lay (fun d hd=>by
     rcases Qm hd with h |h
     ·exact h1 d h
     ·exact r2 d h) h
    refine⟨jr,?_,q2,q3⟩;simp only[dA,Instr.fill,cg,aS];rw[if_neg (by simp;omega)];exact q1
   ·cases h
  ·cases hp
theorem Z8{fs:List Field}{pl:List (Nat×Nat)}(h:Gy P fs=some pl)(w:World):(fs.mapM fun f=>(do pure (f.offset,←sizeOf f.type):Sem (Nat×Nat))).run P w= .ok pl w:=by
 unfold Gy at h
 induction fs generalizing pl with
 |nil=>simp only[aP] at h;cases h;rfl
 |cons f fs ih=>
  simp only[aP] at h;split at h
  ·rename_i b hb;obtain⟨pl',h',rfl⟩:=au.1 h;obtain⟨n,hn,rfl⟩:=au.1 hb;have:=ih h';simp[List.mapM_cons,l7 hn] at this⊢;rw[this];simp
  ·cases h
theorem QK(I:Inv G γ H w){t:TypeId}{parts:Array (Nat×Operand)}{zs:List PD}(ho:o.op= .build t parts)(hz:zeroOf P t=some (.agg zs)){ds:List D}{place:Nat→Option (Nat×Nat)}
    (hb:∀(z:Value) (jr:Array Value),(zeroValue t).run P w= .ok z w→Instr.fill place z.cells (parts.toList.map fun p=>(p.1,a.eval p.2))=some jr→(execOp a.eval o).run P w= .ok (.value (.agg jr)) w)
    (hf:∀(cells:Array Value),cy γ cells (zs.map .p)→∃jr,Instr.fill place cells (parts.toList.map fun p=>(p.1,a.eval p.2))=some jr∧cy γ jr ds∧∀d∈ds,d.one=true):cA P G γ H w a o (ec ds) H:=by
 have _:=ho;obtain⟨z,q1,q2⟩:=wm hz w;obtain⟨r1,r2⟩:=(s7 γ.mem q2).cells;obtain⟨jr,p1,p2,p3⟩:=hf z.cells (Dd r1 fun i d hd=>(r2 i d hd).1);exact .same I (v:=.agg jr) (hb z jr q1 p1) (Db p2 p3)
theorem GL(parts:Array (Nat×Operand))(ρ:Operand→Value):(parts.map fun(x:Nat×Operand)=>(x.1,ρ x.2)).toList=parts.toList.map fun p=>(p.1,ρ p.2):=by simp
theorem Z9(I:Inv G γ H w)(E:bh γ env a.tmps){t:TypeId}{parts:Array (Nat×Operand)}{zs:List PD}{fs:Array Field}{pl:List (Nat×Nat)}{qs:List (Nat×Nat×aw)}(ho:o.op= .build t parts)(ht:P.underlying t=some (.struct fs))
    (hz:zeroOf P t=some (.agg zs)) (cg:Gy P fs.toList=some pl) (hq:partsOf P (pl[·]?) parts.toList=some qs) {d:D} {H':Hp} (he:aN G env H (.build zs qs)=some (d,H')):cA P G γ H w a o d H':=by
 simp only[aN] at he;split at he
 ·rename_i h1;obtain⟨ds,oD,hh⟩:=au.1 he;cases hh;refine QK I ho hz (place:=(pl[·]?)) (fun z jr KV hf=>?_) (fun cells hc=>?_)
  ·have hm:=Z8 cg w;have KW:(fs.mapM fun f=>(do pure (f.offset,←sizeOf f.type):Sem (Nat×Nat))).run P w= .ok pl.toArray w:=by
    rw[Array.mapM_eq_mapM_toList];simp only[Sem.run_map,hm,Result.andThen_ok]
   have hg:∀i:Nat,pl.toArray[i]? =pl[i]?:=fun i=>by simp
   have hg':(fun i:Nat=>pl.toArray[i]?)=(fun i=>pl[i]?):=funext hg;have hp:(parts.map fun(x:Nat×Operand)=>(x.1,a.eval x.2)).toList=parts.toList.map fun p=>(p.1,a.eval p.2):=GL parts a.eval;simp only[execOp,ho,Instr.build,Sem.run_bind,KV,Result.andThen_ok,run_underlying ht,KW,hg',hp,hf,Sem.run_pure]
  ·exact GK E parts.toList qs cells (zs.map .p) ds hq hc (fun d hd=>by
    obtain⟨x,hx,rfl⟩:=dz.1 hd;exact gI.1 h1 x hx) oD
 ·cases he
theorem aab(I:Inv G γ H w)(E:bh γ env a.tmps){t e:TypeId}{len n:Nat}{parts:Array (Nat×Operand)}{zs:List PD}{qs:List (Nat×Nat×aw)}(ho:o.op= .build t parts)(ht:P.underlying t=some (.array len e))
    (hz:zeroOf P t=some (.agg zs)) (hn:fP P e=some n) (hq:partsOf P (fun i=>some (i*n,n)) parts.toList=some qs) {d:D} {H':Hp} (he:aN G env H (.build zs qs)=some (d,H')):cA P G γ H w a o d H':=by
 simp only[aN] at he;split at he
 ·rename_i h1;obtain⟨ds,oD,hh⟩:=au.1 he;cases hh;refine QK I ho hz (place:=fun i=>some (i*n,n)) (fun z jr KV hf=>?_) (fun cells hc=>?_)
  ·have hp:(parts.map fun(x:Nat×Operand)=>(x.1,a.eval x.2)).toList=parts.toList.map fun p=>(p.1,a.eval p.2):=GL parts a.eval;simp only[execOp,ho,Instr.build,Sem.run_bind,KV,Result.andThen_ok,run_underlying ht,l7 hn,hp,hf,Sem.run_pure]
  ·exact GK E parts.toList qs cells (zs.map .p) ds hq hc (fun d hd=>by
    obtain⟨x,hx,rfl⟩:=dz.1 hd;exact gI.1 h1 x hx) oD
 ·cases he
def gD(m:Mem)(sz:Nat)(cs:Array Value)(es:List PD):Prop:=
 cs.size=es.length*sz∧(∀e∈es,e.cells.length=sz∧∀c∈e.cells,c.one=true)∧∀(i:Nat) e (j:Nat) c,es[i]? =some e→e.cells[j]? =some c→aZ m (cs.getD (i*sz+j) undef) c
theorem gD.set{m:Mem}{sz:Nat}{cs us:Array Value}{es:List PD}{e:PD}{i:Nat}(r:gD m sz cs es)(hi:i<es.length)(hu:us.size=sz)(he:e.cells.length=sz)(h1:∀c∈e.cells,c.one=true)
    (hr:∀j c,e.cells[j]? =some c→aZ m (us.getD j undef) c):gD m sz (us.zipIdx.foldl (fun cs (x:Value×Nat)=>cs.setIfInBounds (i*sz+x.2) x.1) cs) (es.set i e):=by
 have ee:us.zipIdx.foldl (fun cs (x:Value×Nat)=>cs.setIfInBounds (i*sz+x.2) x.1) cs=(us.toList.zipIdx 0).foldl (fun cs (x:Value×Nat)=>cs.setIfInBounds (i*sz+x.2) x.1) cs:=by
  rw[←YA];simp
 rw[ee];obtain⟨h2,h3⟩:=KT (i*sz) us.toList 0 cs;obtain⟨r1,r2,r3⟩:=r;refine⟨by rw[h2];simpa using r1,fun x hx=>?_,fun k x j c hk hc=>?_⟩
 ·rcases Kd hx with h |rfl
  ·exact r2 x h
  ·exact⟨he,h1⟩
 ·have uD:=h3 (k*sz+j);simp only[oe,qE] at uD;have hj:∀y:PD,y.cells[j]? =some c→y.cells.length=sz→j<sz:=fun y hy hl=>by rw[←hl];exact(az.1 hy).1
  by_cases iW:i=k
  ·subst iW;rw[j9 hi] at hk;cases hk;have hj:=hj e hc he;have ah:i*sz+j<cs.size:=by
    rw[r1]
    calc i*sz+j<i*sz+sz:=by omega
     _=(i+1)*sz:=by rw[fM,og]
     _≤es.length*sz:=kz _ hi
   rw[if_pos ⟨by omega,by omega⟩,if_pos ah] at uD;have:=hr j c hc;have e3:i*sz+j-i*sz=j:=by omega
   rw[e3] at uD;simpa[bN,uD] using this
  ·rw[dH iW] at hk;have hj:=hj x hc (r2 x (bS hk)).1;have yb:¬(i*sz≤k*sz+j∧k*sz+j<i*sz+us.size):=by
    rw[hu];intro hh;have h1:i<k+1:=by
     apply ams (a:=sz);rw[fM,og];omega
    have h2:k<i+1:=by
     apply ams (a:=sz);rw[fM,og];omega
    omega
   rw[if_neg yb] at uD;have:=r3 k x j c hk hc;simpa[bN,uD] using this
theorem QL(E:bh γ env a.tmps)(sz:Nat):∀(ps:List (Nat×Operand)) (qs:List (Nat×aw)) (cells:Array Value) (es iz:List PD),Ax ps=some qs→
    gD γ.mem sz cells es→ov sz es (qs.map fun q=>(q.1,q.2.ev env))=some iz→
    ∃jr,Instr.fill (fun i=>some (i*sz,sz)) cells (ps.map fun p=>(p.1,a.eval p.2))=some jr∧gD γ.mem sz jr iz
 |[],qs,cells,es,iz,hp,r,h=>by
  simp only[Ax] at hp;cases hp;simp only[mF,ov] at h;cases h;exact⟨cells,rfl,r⟩
 |(i,x)::ps,qs,cells,es,iz,hp,r,h=>by
  simp only[Ax] at hp;split at hp
  ·rename_i y hy;obtain⟨KU,hq,rfl⟩:=au.1 hp;simp only[dA,ov] at h;split at h
   ·rename_i z hz;split at h
    ·rename_i hc;obtain⟨c1,c2,c3⟩:=hc;have fy:=yj (bT E hy) hz;obtain⟨r1,r2⟩:=fy.cells;have aS:(a.eval x).cells.size=sz:=by rw[r1,c1]
     have fx:i*sz+sz≤cells.size:=by
      rw[r.1]
      calc i*sz+sz=(i+1)*sz:=by rw[fM,og]
       _≤es.length*sz:=kz _ c3
     have lay:=r.set (us:=(a.eval x).cells) (e:=z) c3 aS c1 (gI.1 c2) (fun j c hc=>(r2 j c hc).1);obtain⟨jr,q1,q2⟩:=QL E sz ps KU _ _ iz hq lay h;refine⟨jr,?_,q2⟩;simp only[dA,Instr.fill,aS];rw[if_neg (by simp;omega)];exact q1
    ·cases h
   ·cases h
  ·cases hp
theorem gD.slice{m:Mem}{sz:Nat}{cs:Array Value}{es:List PD}(r:gD m sz cs es){b cap:Nat}(hc:es.length≤cap)(hm:∀o,o<es.length*sz→m b o=cs[o]?):aZ m (.slice (some ⟨b,0,none⟩) es.length cap) (.slice sz es):=by
 obtain⟨r1,r2,r3⟩:=r;refine .sl b 0 cap sz es (fun i j=>cs.getD (i*sz+j) undef) hc (fun e he=>(r2 e he).1) (fun e he=>(r2 e he).2) (fun i j hi hj=>?_) r3;have ah:i*sz+j<es.length*sz:=by
  calc i*sz+j<i*sz+sz:=by omega
   _=(i+1)*sz:=by rw[fM,og]
   _≤es.length*sz:=kz _ hi
 rw[eS,hm _ ah];have :i*sz+j<cs.size:=by rw[r1];exact ah
 simp[this,bN]
theorem gD.mono{m m':Mem}(h:Mem.le m m'){sz:Nat}{cs:Array Value}{es:List PD}(r:gD m sz cs es):gD m' sz cs es:=⟨r.1,r.2.1,fun i e j c he hc=>(r.2.2 i e j c he hc).mono h⟩
theorem KX{m:Mem}{v:Value}{z:PD}(hz:aZ m v z){sz len:Nat}(h1:z.cells.length=sz)(h2:∀c∈z.cells,c.one=true):gD m sz ((Ke (len*sz)).map fun i=>v.cells[i%v.cells.size]!) (eB len z):=by
 obtain⟨r1,r2⟩:=hz.cells;refine⟨by simp,fun e he=>?_,fun i e j c he hc=>?_⟩
 ·obtain⟨_,rfl⟩:=YB.1 he;exact⟨h1,h2⟩
 ·have wq:=YB.1 (bS he);obtain⟨_,rfl⟩:=wq;have hi:i<len:=by have:=(az.1 he).1;simpa using this
  have hj:j<sz:=by rw[←h1];exact(az.1 hc).1
  have ah:i*sz+j<len*sz:=by
   calc i*sz+j<i*sz+sz:=by omega
    _=(i+1)*sz:=by rw[fM,og]
    _≤len*sz:=kz _ hi
  have yl:(i*sz+j)%v.cells.size=j:=by
   rw[r1,h1,Nat.add_comm,Nat.add_mul_mod_self_right,Nat.mod_eq_of_lt hj]
  have oE:j<v.cells.size:=by rw[r1,h1];exact hj
  have:=(r2 j c hc).1;have e:((Ke (len*sz)).map fun i=>v.cells[i%v.cells.size]!).getD (i*sz+j) undef=v.cells.getD j undef:=by
   simp[bN,ah,yl,oE]
  rw[e];exact this
theorem aac(I:Inv G γ H w)(E:bh γ env a.tmps){t e:TypeId}{len n:Nat}{parts:Array (Nat×Operand)}{z:PD}{qs:List (Nat×aw)}(ho:o.op= .buildSlice t len parts)(ht:P.underlying t=some (.slice e))
    (hn:fP P e=some n) (hz:zeroOf P e=some z) (hq:Ax parts.toList=some qs) (qT:len*n≤16777216∧0<n) {d:D} {H':Hp} (he:aN G env H (.bslice e n len z qs)=some (d,H')):cA P G γ H w a o d H':=by
 simp only[aN] at he;split at he
 ·rename_i h1;obtain⟨es,dC,hh⟩:=au.1 he;cases hh;obtain⟨v,q1,q2⟩:=wm hz w;have hv:=s7 γ.mem q2;have hp:(parts.map fun(x:Nat×Operand)=>(x.1,a.eval x.2)).toList=parts.toList.map fun p=>(p.1,a.eval p.2):=GL parts a.eval;have zr:gD γ.mem n ((Ke (len*n)).map fun i=>(if len*n=0 then #[] else v.cells)[i%(if len*n=0 then(#[]:Array Value) else v.cells).size]!) (eB len z):=by
   by_cases h0:len*n=0
   ·have :len=0:=by
     rcases Nat.mul_eq_zero.1 h0 with h |h
     ·exact h
     ·omega
    subst this;refine⟨by simp,fun e he=>by simp at he,fun i e j c he _=>by simp at he⟩
   ·simp only[h0,if_false];exact KX hv h1.1 (gI.1 h1.2)
  obtain⟨jr,c1,c2⟩:=QL E n parts.toList qs _ _ es hq zr dC;have hlen:es.length=len:=by
   have aS:=c2.1;have :∀(l:List (Nat×D)) (es iz:List PD),ov n es l=some iz→iz.length=es.length:=by
    intro l
    induction l with
    |nil=>intro es iz h;simp only[ov] at h;cases h;rfl
    |cons x l ih=>
     intro es iz h;obtain⟨i,y⟩:=x;simp only[ov] at h;split at h
     ·split at h
      ·rw[ih _ _ h];simp
      ·cases h
     ·cases h
   rw[this _ _ _ dC];simp
  obtain⟨a1,a2,a3⟩:=I.newRow jr e (0,0) ⟨b9 _,aV _⟩;have cM:(execOp a.eval o).run P w= .ok (.value (.slice (some ⟨w.heap.size,0,none⟩) len len)) (w.alloc (.cells jr e)):=by
   have e1:¬(len*n>2 ^ 24):=by have:=qT.1;omega
   simp only[execOp,ho,Instr.buildSlice,Sem.run_bind,Result.andThen_ok,run_underlying ht,l7 hn,e1,if_false,hp];by_cases h0:len*n=0
   ·have hr:Ke 0= #[]:=rfl;simp only[h0,if_true,hr,Array.map_empty] at c1;simp[h0,hr,c1,newRow]
   ·simp only[h0,if_false] at c1;simp[h0,q1,c1,newRow]
  refine⟨_,_,_,.inl cM,a1,a2,a3,?_⟩;have:=(c2.mono a1.mem).slice (b:=w.heap.size) (cap:=es.length) (aV _) (fun o _=>by simp[Gh.eM]);rw[hlen] at this;refine .cI _ _ _ _ _ I.size ?_ hlen.symm this;have ak:=c2.1;rw[hlen] at ak;simp[Gh.eM,ak]
 ·cases he
end Go.Vs
