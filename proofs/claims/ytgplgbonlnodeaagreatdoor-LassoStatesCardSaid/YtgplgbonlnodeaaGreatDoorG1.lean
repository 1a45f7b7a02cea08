/-
  A value-level evaluator for Go functions; the functions of this cut by it; plain laws. Text G1.
-/
import Derived.Calls
import Derived.Tactics
import Derived.Laws.AppendOwn
import Derived.Laws.Slices
import Derived.Laws.Pointers
import Derived.Laws.Concat
import Derived.Laws.Strings
import Derived.Laws.BytesArg
import Derived.Laws.IdiomStrings
open Array renaming ext'->Av,foldl_toList->ZY,getD_eq_getD_getElem?->bP,getElem?_eq_getElem->rC,getElem?_eq_some_iff->fG,getElem?_setIfInBounds->K7,length_toList->qq,range->K9,size_setIfInBounds->ZX
open Bool renaming and_eq_true->bL,false_eq_true->qp
open Classical renaming byContradiction->pL
open List renaming all_eq_true->gV,append_assoc->j2,append_nil->iQ,drop_drop->CS,drop_zero->pM,eq_nil_of_length_eq_zero->sO,foldl_cons->tU,getElem?_append_left->aT,getElem?_append_right->cR,getElem?_cons_succ->vY,getElem?_cons_zero->ey,getElem?_drop->lN,getElem?_eq_getElem->aD,getElem?_eq_some_iff->af,getElem?_map->cG,getElem?_of_mem->dV,getElem?_set_ne->bp,getElem?_set_self->eA,getElem?_take->gL,getElem_mem->dw,length_cons->ew,length_drop->wj,length_eq_zero_iff->CR,length_nil->fH,length_pos_iff->wh,map->xW,map_cons->cB,map_nil->j4,mem_append->cx,mem_map->cA,mem_map_of_mem->Q3,mem_of_getElem?->bB,mem_of_mem_drop->tT,mem_of_mem_take->jn,mem_or_eq_of_mem_set->K8,mem_replicate->ZZ,range->j3,replicate->dX,take_append_drop->Aw
open Nat renaming add_assoc->wb,add_comm->CT,add_mul->fX,add_mul_mod_self_right->aoq,add_zero->nO,div_add_mod->aot,div_lt_iff_lt_mul->aos,le_max_left->pK,le_max_right->mo,le_refl->aK,le_succ->aon,le_succ_of_le->aoo,le_trans->fW,lt_of_lt_of_le->vZ,lt_of_mul_lt_mul_right->aop,mod_eq_of_lt->aor,mul_comm->tV,mul_div_cancel_left->ZV,mul_le_mul_right->ju,one_mul->nP,sub_self->Au,zero_add->ez,zero_le->bD
open Option renaming getD_some->mq,isSome_iff_exists->ZW,map_eq_some_iff->ak,map_some->fy
open Option.some renaming injEq->bM
open List renaming length->O
open Option renaming some->Z,none->Y

namespace Go.Vs

inductive PD where
 |bool (b:Bool)
 |int (k:IntKind) (n:Int)
 |str (s:List UInt8)
 |kB
 |aj
 |nV
 |j5
 |qw
 |slice (sz:Nat) (es:List PD)
 |emp (sz:Nat)
 |agg (cs:List PD)
 |iface (t:Nat) (x:PD)

instance:Inhabited PD:=⟨.kB⟩
def PD.cells:PD->List PD
 | .agg cs=>cs
 |x=>[x]
def PD.one:PD->Bool
 | .agg _=>false
 |_=>true

inductive D where
 |dead
 |undef
 |p (x:PD)
 |cC (e sz:Nat) (es:List PD)
 |aX (t e sz:Nat) (es:List PD)
 |box (i off:Nat)
 |eB (g off:Nat)
 |ro (cs:List PD) (off:Nat)
 |agg (cs:List D)
 |ba (ds:List D)
 |fn (f:Nat) (first cap:List D)
 |bH (i off n:Nat) (cap:Option Nat) (sz:Nat)
 |fL (sz:Nat)
 |eC (t:Nat) (x:D)
 |dD (i:Nat)
 |cD (kd:Nat) (ks:List PD) (vs:List D)
 |ae (i e n sz:Nat)
 |fB (sz:Nat) (es:List PD)

instance:Inhabited D:=⟨.dead⟩
def D.cells:D->List D
 | .agg cs=>cs
 | .p (.agg cs)=>cs.map .p
 |d=>[d]
def D.one:D->Bool
 | .dead | .undef | .agg _ | .ba _ | .cD _ _ _=>false
 | .p x=>x.one
 |_=>true
def ay:List D->Bool
 |[.cD _ _ _]=>true
 |_=>false
def gI:List D->Option (List PD)
 |[]=>Z []
 | .p x::r=>(gI r).map (x:: ·)
 |_=>Y
def cX(ds:List D):D:=
 match gI ds with
 |some cs=>.p (.agg cs)
 |none=>.agg ds

mutual
def D.eZ:D->Option PD
 | .p x=>Z x
 | .cC _ sz es=>Z (match es with |[]=>.emp sz |_::_=>.slice sz es)
 | .aX _ _ sz es=>Z (.slice sz es)
 | .fL sz=>Z (.slice sz [])
 | .fB sz es=>Z (.slice sz es)
 | .eC t d=>d.eZ.map (.iface t)
 | .agg cs=>(D.j6 cs).map .agg
 |_=>Y
def D.j6:List D->Option (List PD)
 |[]=>Z []
 |d::r=>match d.eZ with
  |some x=>(D.j6 r).map (x:: ·)
  |none=>Y
end
structure Hp where
 bx:List (List D)
 tk:List Nat
abbrev Env:=List (Nat×D)
def Env.get:Env->Nat->D
 |[],_=>.dead
 |(s,d)::e,t=>if s=t then d else Env.get e t
def Env.keep(ks:List Nat)(e:Env):Env:=ks.map λt=>(t,e.get t)
structure St where
 env:Env
 hp:Hp

inductive aA where
 |t (i:Nat)
 |c (d:D)

inductive SK where
 |move (x:aA)
 |pick (c a b:aA)
 |alloc (zs:List PD)
 |box (x:aA)
 |build (zs:List PD) (parts:List (Nat×Nat×aA))
 |bslice (e sz:Nat) (len:Nat) (z:PD) (parts:List (Nat×aA))
 |load (n:Option Nat) (x:aA)
 |store (n:Nat) (a v:aA)
 |nilCheck (x:aA)
 |bin (op:BinOp) (x y:aA)
 |eqk (kd:Nat) (neg:Bool) (x y:aA)
 |eqs (neg:Bool) (tags:List Nat) (x y:aA)
 |un (op:UnOp) (x:aA)
 |mkfn (f:Nat) (first cap:List aA)
 |slice (sz:Nat) (x:aA) (lo hi:Option aA)
 |stuck
 |appendg (e sz bytes:Nat) (s x:aA)
 |tassert (t:Nat) (z:PD) (ok:Bool) (x:aA)
 |wo (kd:Nat)
 |mapset (kd:Nat) (m k v:aA)
 |mapins (kd:Nat) (m k v:aA)
 |mapget (kd:Nat) (z:PD) (ok:Bool) (m k:aA)
 |faddr (x:aA) (off:Nat)
 |field (x:aA) (off:Nat) (n:Option Nat)
 |iaddr (len:Option Nat) (sz:Nat) (x i:aA)
 |index (arr:Option (Nat×Nat×Bool)) (x i:aA)
 |extract (x:aA) (i:Nat)
 |len (kd:Nat) (x:aA)
 |append (e sz bytes:Nat) (s x:aA)
 |conv (k:IntKind) (x:aA)
 |minmax (mx:Bool) (x y:aA)
 |makesl (sz:Nat) (z:PD) (bytes:Nat) (n c:aA)
 |bsliceG (e sz len:Nat) (z:PD) (parts:List (Nat×Nat×aA))
 |slice3 (sz:Nat) (x:aA) (lo:Option aA) (hi mx:aA)
 |iface (t:Nat) (x:aA)
 |call (f:aA) (args:List aA)
 |panic (x:aA)
structure SO where
 dst:Option Nat
 k:SK
 g:Option (Nat×Bool)

inductive SC where
 |skip
 |region (keep:List Nat) (ops:List SO)
 |draw (keep:List Nat) (pairs:List (Nat×Nat)) (ops:List SO)
 |seq (a b:SC)
 |cond (c:aA) (a b:SC)
 |block (id:Nat) (b:SC)
 |loop (keep:List Nat) (b:SC)
 |tok (slot:Nat) (e sz:Nat)
 |tokb (slot off e sz:Nat)
 |stuck
 |scope (b:SC)
 |loc (b:SC)
 |mz (b:SC)
 |mA (f:Nat) (gen:List D->List D->Hp->Option (List (List D))) (g:aA) (ps:List Nat) (fe body:SC)
 |exit (id:Nat)
 |ret

inductive Ex where
 |norm
 |exit (id:Nat)
 |ret

inductive pS where
 |t (i:Nat)
 |cell (i:Nat) (n:Option Nat)
structure Gi where
 pre:List SC
 keep:List Nat
 ops:List SO
 f:aA
 as:List aA
structure FC where
 nt:Nat
 np:Nat
 res:List pS
 body:SC
 av:Bool:=false
 gW:Option Gi:=Y

@[simp] def zI(n:Int):aA:=.c (.p (.int .i64 n))
@[simp] def zS(l:List UInt8):aA:=.c (.p (.str l))
@[simp] def zB(b:Bool):aA:=.c (.p (.bool b))
@[simp] def zo(d:Nat)(k:SK):SO:=⟨Z d,k,Y⟩
@[simp] def zv(k:SK):SO:=⟨Y,k,Y⟩
@[simp] def zg(d:Nat)(k:SK)(g:Nat)(b:Bool):SO:=⟨Z d,k,Z (g,b)⟩
@[simp] def zm(d s:Nat):SO:=⟨Z d,.move (.t s),Y⟩
@[simp] def zf(d s k:Nat):SO:=⟨Z d,.faddr (.t s) k,Y⟩
@[simp] def zl(d s:Nat):SO:=⟨Z d,.load Y (.t s),Y⟩
@[simp] def zL(d n s:Nat):SO:=⟨Z d,.load (Z n) (.t s),Y⟩
@[simp] def zs(n a b:Nat):SO:=⟨Y,.store n (.t a) (.t b),Y⟩
@[simp] def zn(d s:Nat):SO:=⟨Z d,.nilCheck (.t s),Y⟩
@[simp] def zi(d:Nat)(n:Int):SO:=⟨Z d,.move (.c (.p (.int .i64 n))),Y⟩
@[simp] def zc(d f:Nat)(l:List aA):SO:=⟨Z d,.call (.c (.fn f [] [])) l,Y⟩
@[simp] def zx(d s k:Nat):SO:=⟨Z d,.extract (.t s) k,Y⟩
@[simp] def ze(d n s:Nat):SO:=⟨Z d,.len n (.t s),Y⟩
@[simp] def za(d a b:Nat):SO:=⟨Z d,.pick (.t a) (.t b) (.c (.p (.bool false))),Y⟩
@[simp] def zb(d a b:Nat):SO:=⟨Z d,.pick (.t a) (.c (.p (.bool true))) (.t b),Y⟩
def FC.plain(fc:FC):Bool:=!fc.av&&fc.gW.isNone
def FC.frozen(fc:FC):Bool:=fc.av&&fc.gW.isNone
def aA.ev(env:Env):aA->D
 | .t i=>env.get i
 | .c d=>d
def lR(op:BinOp)(k:IntKind)(a b:Int):Option PD:=
 match op with
 | .add=>Z (.int k (k.wrap (a+b)))
 | .sub=>Z (.int k (k.wrap (a-b)))
 | .mul=>Z (.int k (k.wrap (a*b)))
 | .quo=>if b=0 then Y else Z (.int k (k.wrap (a.tdiv b)))
 | .rem=>if b=0 then Y else Z (.int k (a.tmod b))
 | .eql=>Z (.bool (a==b))
 | .neq=>Z (.bool (a !=b))
 | .lss=>Z (.bool (decide (a<b)))
 | .leq=>Z (.bool (decide (a<=b)))
 | .gtr=>Z (.bool (decide (a>b)))
 | .geq=>Z (.bool (decide (a≥b)))
 | .and=>Z (.int k (k.wrap ((BitVec.ofInt k.bits a&&& BitVec.ofInt k.bits b).toNat)))
 | .or=>Z (.int k (k.wrap ((BitVec.ofInt k.bits a|||BitVec.ofInt k.bits b).toNat)))
 | .xor=>Z (.int k (k.wrap ((BitVec.ofInt k.bits a ^^^ BitVec.ofInt k.bits b).toNat)))
 | .andNot=>Z (.int k (k.wrap ((BitVec.ofInt k.bits a&&& ~~~ BitVec.ofInt k.bits b).toNat)))
 | .shl=>if b<0 then Y else Z (.int k (k.wrap (a*2 ^ (min b.toNat k.bits))))
 | .shr=>if b<0 then Y else Z (.int k (a.fdiv (2 ^ (min b.toNat k.bits))))
def ye(op:BinOp)(a b:List UInt8):Option PD:=
 match op with
 | .add=>if O a+O b<=140737488355328 then Z (.str (a++b)) else Y
 | .eql=>Z (.bool (a==b))
 | .neq=>Z (.bool (!(a==b)))
 | .lss=>Z (.bool (Op.bytesLess a b))
 | .leq=>Z (.bool (Op.bytesLess a b||a==b))
 | .gtr=>Z (.bool (!(Op.bytesLess a b||a==b)))
 | .geq=>Z (.bool (!Op.bytesLess a b))
 |_=>Y
def PD.eqv(tag:Nat)(a b:PD):Option Bool:=
 match tag,a,b with
 | 0,.bool a,.bool b=>Z (a==b)
 | 1,.int k a,.int k' b=>if k=k' then Z (a==b) else Y
 | 2,.str a,.str b=>Z (a==b)
 |_,_,_=>Y
def rG:List Nat->List PD->List PD->Option Bool
 |[],[],[]=>Z true
 |t::ts,a::x,b::y=>match PD.eqv t a b,rG ts x y with
  |some e,Z f=>Z (e&&f)
  |_,_=>Y
 |_,_,_=>Y
def D.AE:D->Option Bool
 | .p .aj=>Z true
 | .p (.slice _ (_::_))=>Z false
 | .p (.emp _)=>Z false
 | .cC _ _ _=>Z false
 | .aX _ _ _ (_::_)=>Z false
 | .bH _ _ _ _ _=>Z false
 | .ae _ _ _ _=>Z false
 |_=>Y
def sS(kd:Nat)(a b:D):Option Bool:=
 match kd with
 | 0=>match a,b with
  | .p (.bool x),.p (.bool y)=>Z (x==y)
  |_,_=>Y
 | 1=>match a,b with
  | .p .kB,.p .kB=>Z true
  | .box _ _,.p .kB=>Z false
  | .ro _ _,.p .kB=>Z false
  | .eB _ _,.p .kB=>Z false
  |_,_=>Y
 | 2=>match b with
  | .p .aj=>a.AE
  |_=>Y
 | 3=>match a,b with
  | .p .nV,.p .nV=>Z true
  | .fn _ _ _,.p .nV=>Z false
  |_,_=>Y
 | 4=>match a,b with
  | .p .j5,.p .j5=>Z true
  | .p (.iface _ _),.p .j5=>Z false
  | .eC _ _,.p .j5=>Z false
  |_,_=>Y
 |_=>Y
def AG(op:BinOp)(a b:D):Option D:=
 match a,b with
 | .p (.int k x),.p (.int k' y)=>if op= .shl\/op= .shr\/k=k' then(lR op k x y).map .p else Y
 | .p (.str x),.p (.str y)=>(ye op x y).map .p
 |_,_=>Y
def AH(op:UnOp)(a:D):Option D:=
 match op,a with
 | .not,.p (.bool b)=>Z (.p (.bool (!b)))
 | .neg,.p (.int k n)=>Z (.p (.int k (k.wrap (0-n))))
 |_,_=>Y
def D.lS:D->Option Nat
 | .p (.int _ n)=>if 0<=n then Z n.toNat else Y
 |_=>Y
def D.uf:D->Option Int
 | .p (.int _ n)=>Z n
 |_=>Y
def D.iR:D->Option (Nat×List PD)
 | .p (.slice sz es)=>Z (sz,es)
 | .p (.emp sz)=>Z (sz,[])
 | .cC _ sz es=>Z (sz,es)
 | .aX _ _ sz es=>Z (sz,es)
 | .fL sz=>Z (sz,[])
 | .fB sz es=>Z (sz,es)
 |_=>Y
variable{fv rv:D}{env:Env}{fc:FC}{H:Hp}{a as:List D}{res:List pS}{f m:Nat}{G:Nat->Option (List PD)}{T:Nat->Option (Nat×FC)}{s':St}{α:Type}
def sub(l:List α)(lo hi:Nat):List α:=(l.take hi).drop lo
def cutAt(l:List α)(off:Nat)(n:Option Nat)(one:α->D)(many:List α->D):Option D:=
 match n with
 |none=>(l[off]?).map one
 |some k=>if off+k<=O l then Z (many (sub l off (off+k))) else Y
def aw(l:List D)(off:Nat)(cs:List D):List D:=l.take off++cs++l.drop (off+O cs)
def aF(cells:List D):List (Nat×Nat×D)->Option (List D)
 |[]=>Z cells
 |(off,n,x)::r=>if O x.cells=n/\off+n<=O cells/\x.cells.all D.one then aF (aw cells off x.cells) r else Y
def pT(sz:Nat)(es:List PD):List (Nat×D)->Option (List PD)
 |[]=>Z es
 |(i,x)::r=>match x.eZ with
  |some y=>if O y.cells=sz/\y.cells.all PD.one/\i<O es then pT sz (es.set i y) r else Y
  |none=>Y
def kD(n:Nat)(lo hi:Option D):Option (Nat×Nat):=
 match(match lo with |none=>Z 0 |some d=>d.lS),(match hi with |none=>Z n |some d=>d.lS) with
 |some l,Z h=>if l<=h/\h<=n then Z (l,h) else Y
 |_,_=>Y
def C6(i off:Nat)(cap:Option Nat)(sz l h:Nat):D:=
 match cap with
 |some c=>if c<=l then .fL sz else .bH i (off+l*sz) (h-l) (Z (c-l)) sz
 |none=>if l=h then .p (.slice sz []) else .bH i (off+l*sz) (h-l) Y sz
def yf(sz:Nat)(x:D)(lo hi:Option D):Option D:=
 match sz with
 | 0=>match x with
  | .p (.str s)=>(kD (O s) lo hi).map λb=>.p (.str (sub s b.1 b.2))
  |_=>Y
 |_+1=>match x with
  | .p .aj=>(kD 0 lo hi).map λ_=>.p .aj
  | .bH i off n cap bQ=>if bQ=sz then(kD n lo hi).map λb=>C6 i off cap sz b.1 b.2 else Y
  | .ae i e n bQ=>if bQ=sz then(kD n lo hi).map λb=>if b.1=0 then .ae i e b.2 sz else C6 i 0 Y sz b.1 b.2 else Y
  |x=>match x.iR with
   |some (bQ,es)=>if bQ=sz then(kD (O es) lo hi).map λb=>.p (.slice sz (sub es b.1 b.2)) else Y
   |none=>Y
def Gj(sz:Nat)(x:D)(lo:Option D)(hi mx:D):Option D:=
 match hi.lS,mx.lS with
 |some h,Z m=>if h=m then
     (match x with
     | .p .aj=>(kD 0 lo (Z hi)).map λ_=>.p .aj
     | .bH i off n _ bQ=>if bQ=sz then(kD n lo (Z hi)).map λb=>if b.1=b.2 then .fL sz else .bH i (off+b.1*sz) (b.2-b.1) (Z (b.2-b.1)) sz else Y
     | .ae i _ n bQ=>if bQ=sz then(kD n lo (Z hi)).map λb=>if b.1=b.2 then .fL sz else .bH i (b.1*sz) (b.2-b.1) (Z (b.2-b.1)) sz else Y
     |x=>match x.iR with
      |some (bQ,es)=>if bQ=sz then(kD (O es) lo (Z hi)).map λb=>.fB sz (sub es b.1 b.2) else Y
      |none=>Y) else Y
 |_,_=>Y
def dE(len:Option Nat)(sz:Nat)(x:D)(i:Int):Option D:=
 match len with
 |none=>match x with
  | .bH b off n _ bQ=>if bQ=sz/\0<=i/\i<n then Z (.box b (off+i.toNat*sz)) else Y
  | .ae b _ n bQ=>if bQ=sz/\0<=i/\i<n then Z (.box b (i.toNat*sz)) else Y
  |x=>match x.iR with
   |some (bQ,es)=>if bQ=sz/\0<=i then(es[i.toNat]?).map λe=>.ro e.cells 0 else Y
   |none=>Y
 |some n=>if 0<=i/\i<n then
     match x with
     | .box b o=>Z (.box b (o+i.toNat*sz))
     | .eB g o=>Z (.eB g (o+i.toNat*sz))
     | .ro cs o=>Z (.ro cs (o+i.toNat*sz))
     |_=>Y
  else Y
def u8(b:UInt8):D:=.p (.int .u8 b.toNat)
def yg(arr:Option (Nat×Nat×Bool))(x:D)(i:Int):Option D:=
 match arr with
 |none=>match x with
  | .p (.str s)=>if 0<=i then(s[i.toNat]?).map u8 else Y
  |_=>Y
 |some (n,sz,ag)=>if 0<=i/\i<n then
     match x with
     | .p (.agg cs)=>cutAt cs (i.toNat*sz) (if ag then Z sz else Y) .p λl=>.p (.agg l)
     | .agg cs=>cutAt cs (i.toNat*sz) (if ag then Z sz else Y) id cX
     |_=>Y
  else Y
def dF(kd:Nat)(x:D):Option Nat:=
 match kd,x with
 | 0,.p (.str s)=>Z (O s)
 | 1,.p .aj=>Z 0
 | 1,.bH _ _ n _ _=>Z n
 | 1,.ae _ _ n _=>Z n
 | 1,x=>x.iR.map λe=>O e.2
 |_,_=>Y
def chunks(sz:Nat):Nat->List PD->List PD
 | 0,_=>[]
 |n+1,cs=>(match sz,cs with
  | 1,c::_=>c
  |_,_=>.agg (cs.take sz))::chunks sz n (cs.drop sz)
def C7(H:Hp)(i off n sz:Nat):Option (List PD):=
 match H.bx[i]? with
 |some cs=>if ay cs=false/\off+n*sz<=O cs then(D.j6 (sub cs off (off+n*sz))).map (chunks sz n) else Y
 |none=>Y
def dJ(sz:Nat):D->Option (List PD)
 | .p (.str s)=>if sz=1 then Z (s.map λb=>.int .u8 b.toNat) else Y
 | .p .aj=>Z []
 |d=>match d.iR with
  |some (bQ,es)=>if bQ=sz then Z es else Y
  |none=>Y
def yh(H:Hp)(sz:Nat)(d:D):Option (List PD):=
 match d with
 | .bH i off n _ bQ=>if bQ=sz then C7 H i off n sz else Y
 | .ae i _ n bQ=>if bQ=sz then C7 H i 0 n sz else Y
 |d=>dJ sz d
def roomy(n bytes:Nat):Bool:=n<=140737488355328&&n*bytes<=140737488355328
def fg(e sz bytes:Nat)(s:D)(xs:List PD)(H:Hp):Option (D×Hp):=
 match s with
 | .p .aj=>if roomy (O xs) bytes then Z (.aX (O H.tk) e sz xs,{H with tk:=H.tk++[O xs]}) else Y
 | .cC e' bQ es=>if e'=e/\bQ=sz/\roomy (O es+O xs) bytes then Z (.aX (O H.tk) e sz (es++xs),{H with tk:=H.tk++[O es+O xs]}) else Y
 | .aX t e' bQ es=>if e'=e/\bQ=sz/\H.tk[t]? =Z (O es)/\roomy (O es+O xs) bytes then
     Z (.aX t e sz (es++xs),{H with tk:=H.tk.set t (O es+O xs)}) else Y
 |_=>Y
def gX(H:Hp)(sz:Nat)(d:D):Option (Nat×List D):=
 match d with
 | .bH i off n _ bQ=>if bQ=sz then(match H.bx[i]? with
  |some cs=>if ay cs=false/\off+n*sz<=O cs then Z (n,sub cs off (off+n*sz)) else Y
  |none=>Y) else Y
 | .ae i _ n bQ=>if bQ=sz then(match H.bx[i]? with
  |some cs=>if ay cs=false/\0+n*sz<=O cs then Z (n,sub cs 0 (0+n*sz)) else Y
  |none=>Y) else Y
 |d=>(dJ sz d).map λes=>(O es,(es.flatMap PD.cells).map .p)
def iT(sz:Nat)(s:D):Option (List PD):=
 match s with
 | .p .aj=>Z []
 | .fL bQ=>if bQ=sz then Z [] else Y
 | .cC _ bQ es=>if bQ=sz then Z es else Y
 | .fB bQ es=>if bQ=sz then Z es else Y
 |_=>Y
def dx(e sz bytes:Nat)(s:D)(m:Nat)(xs:List D)(H:Hp):Option (D×Hp):=
 match s with
 | .ae i e' n bQ=>if e'=e/\bQ=sz then(if m=0 then Z (s,H) else match H.bx[i]? with
  |some cs=>if ay cs=false/\n*sz<=O cs/\cs≠[] then
      (if(n+m)*sz<=O cs then Z (.ae i e (n+m) sz,{H with bx:=H.bx.set i (aw cs (n*sz) xs)})
      else if roomy (n+m) bytes then Z (.ae (O H.bx) e (n+m) sz,{H with bx:=H.bx.set i []++[cs.take (n*sz)++xs]}) else Y) else Y
  |none=>Y) else Y
 | .bH i off n (Z c) bQ=>if bQ=sz then(if m=0 then Z (s,H) else match H.bx[i]? with
  |some cs=>if ay cs=false/\off+n*sz<=O cs then
      (if n+m<=c then(if off+(n+m)*sz<=O cs then Z (.bH i off (n+m) (Z c) sz,{H with bx:=H.bx.set i (aw cs (off+n*sz) xs)}) else Y)
      else if roomy (n+m) bytes then Z (.ae (O H.bx) e (n+m) sz,{H with bx:=H.bx++[sub cs off (off+n*sz)++xs]}) else Y) else Y
  |none=>Y) else Y
 |s=>match iT sz s with
  |some es=>if m=0 then Z (s,H) else
   if roomy (O es+m) bytes then Z (.ae (O H.bx) e (O es+m) sz,{H with bx:=H.bx++[(es.flatMap PD.cells).map .p++xs]}) else Y
  |none=>Y
def Gk(sz:Nat)(z:PD)(bytes:Nat)(n c:D)(H:Hp):Option (D×Hp):=
 match n.lS,c.lS with
 |some n,Z c=>if n<=c/\roomy c bytes/\O z.cells=sz/\z.cells.all PD.one then
     Z (.bH (O H.bx) 0 n (Z c) sz,{H with bx:=H.bx++[((dX c z).flatMap PD.cells).map .p]}) else Y
 |_,_=>Y
def Rp(t:Nat)(z:PD)(ok:Bool)(x:D):Option D:=
 match x with
 | .p (.iface u y)=>if u=t then Z (if ok then .ba [.p y,.p (.bool true)] else .p y) else if ok then Z (.ba [.p z,.p (.bool false)]) else Y
 | .eC u y=>if u=t then Z (if ok then .ba [y,.p (.bool true)] else y) else if ok then Z (.ba [.p z,.p (.bool false)]) else Y
 | .p .j5=>if ok then Z (.ba [.p z,.p (.bool false)]) else Y
 |_=>Y
def pU(G:Nat->Option (List PD))(H:Hp)(n:Option Nat)(x:D):Option D:=
 match x with
 | .box i off=>match H.bx[i]? with
  |some cs=>if ay cs then Y else cutAt cs off n id cX
  |none=>Y
 | .ro cs off=>cutAt cs off n .p λl=>.p (.agg l)
 | .eB g off=>match G g with
  |some cs=>cutAt cs off n .p λl=>.p (.agg l)
  |none=>Y
 |_=>Y
def yi(H:Hp)(n:Nat)(a v:D):Option Hp:=
 match a with
 | .box i off=>match H.bx[i]? with
  |some cs=>if ay cs=false/\O v.cells=n/\v.cells.all D.one/\off+n<=O cs/\0<n then Z {H with bx:=H.bx.set i (aw cs off v.cells)} else Y
  |none=>Y
 |_=>Y
def AJ(mx:Bool)(a b:D):Option D:=
 match a,b with
 | .p (.int k x),.p (.int _ y)=>Z (.p (.int k (if mx then(if y>x then y else x) else(if y<x then y else x))))
 |_,_=>Y
def oK:IntKind->Nat
 | .i8=>10 | .i16=>11 | .i32=>12 | .i64=>13 | .u8=>14 | .u16=>15 | .u32=>16 | .u64=>17
def dS:PD->Nat
 | .bool _=>0
 | .int k _=>oK k
 | .str _=>2
 | .agg [.int k _,.int k' _,.int k'' _]=>if k=k'/\k=k'' then 100+oK k else 1
 |_=>1
def cY:PD->Nat
 | .bool b=>if b then 1 else 0
 | .int _ n=>n.toNat
 | .str s=>s.foldl (λa b=>a*257+b.toNat+1) 0
 | .agg [.int _ a,.int _ b,.int _ c]=>(a.toNat*1009+b.toNat)*1009+c.toNat
 |_=>0
def iU:PD->PD->Bool
 | .bool a,.bool b=>a==b
 | .int _ a,.int _ b=>a==b
 | .str a,.str b=>a==b
 | .agg [.int _ a,.int _ b,.int _ c],.agg [.int _ x,.int _ y,.int _ z]=>a==x&&b==y&&c==z
 |_,_=>false
def iV(k:PD):List PD->Option Nat
 |[]=>Y
 |a::r=>if iU k a then Z 0 else(iV k r).map (· +1)
def iq(c:Nat):List PD->Nat
 |[]=>0
 |a::r=>if c<cY a then 0 else iq c r+1
def eD:Nat->α->List α->List α
 | 0,x,l=>x::l
 |_+1,x,[]=>[x]
 |n+1,x,a::l=>a::eD n x l
def rH(kd:Nat)(m k v:D)(H:Hp):Option (D×Hp):=
 match m,k with
 | .dD i,.p k=>match H.bx[i]? with
  |some [.cD kZ ks vs]=>if dS k=kd/\kZ=kd/\kd≠1/\iV k ks=Y/\O vs=O ks then Z (.undef,{H with bx:=H.bx.set i [.cD kd (eD (iq (cY k) ks) k ks) (eD (iq (cY k) ks) v vs)]}) else Y
  |_=>Y
 |_,_=>Y
def Rq(kd:Nat)(m k v:D)(H:Hp):Option (D×Hp):=
 match m,k with
 | .dD i,.p k'=>match H.bx[i]? with
  |some [.cD kZ ks vs]=>if dS k'=kd/\kZ=kd/\kd≠1 then(match iV k' ks with
   |some j=>Z (.undef,{H with bx:=H.bx.set i [.cD kd ks (vs.set j v)]})
   |none=>rH kd m k v H) else Y
  |_=>Y
 |_,_=>Y
def AK(kd:Nat)(z:PD)(ok:Bool)(m k:D)(H:Hp):Option D:=
 match m,k with
 | .p .qw,.p k=>if dS k=kd/\kd≠1 then Z (if ok then .ba [.p z,.p (.bool false)] else .p z) else Y
 | .dD i,.p k=>match H.bx[i]? with
  |some [.cD kZ ks vs]=>if dS k=kd/\kZ=kd/\kd≠1 then(match iV k ks with
   |some j=>(vs[j]?).map λv=>if ok then .ba [v,.p (.bool true)] else v
   |none=>Z (if ok then .ba [.p z,.p (.bool false)] else .p z)) else Y
  |_=>Y
 |_,_=>Y
def aP(G:Nat->Option (List PD))(env:Env)(H:Hp):SK->Option (D×Hp)
 | .move x=>Z (x.ev env,H)
 | .pick c a b=>match c.ev env with
  | .p (.bool t)=>Z (if t then a.ev env else b.ev env,H)
  |_=>Y
 | .alloc zs=>if zs.all PD.one then Z (.box (O H.bx) 0,{H with bx:=H.bx++[zs.map .p]}) else Y
 | .box x=>if(x.ev env).cells.all D.one then Z (.box (O H.bx) 0,{H with bx:=H.bx++[(x.ev env).cells]}) else Y
 | .build zs parts=>if zs.all PD.one then(aF (zs.map .p) (parts.map fun(o,n,x)=>(o,n,x.ev env))).map λcs=>(cX cs,H) else Y
 | .bslice e sz len z parts=>if O z.cells=sz/\z.cells.all PD.one then(pT sz (dX len z) (parts.map fun(i,x)=>(i,x.ev env))).map λes=>(.cC e sz es,H) else Y
 | .load n x=>(pU G H n (x.ev env)).map λd=>(d,H)
 | .store n a v=>(yi H n (a.ev env) (v.ev env)).map λH'=>(.undef,H')
 | .nilCheck x=>match x.ev env with
  | .box i o=>Z (.box i o,H)
  | .eB i o=>Z (.eB i o,H)
  | .ro i o=>Z (.ro i o,H)
  | .fn f a c=>Z (.fn f a c,H)
  |_=>Y
 | .bin op x y=>(AG op (x.ev env) (y.ev env)).map λd=>(d,H)
 | .eqk kd neg x y=>(sS kd (x.ev env) (y.ev env)).map λr=>(.p (.bool (if neg then !r else r)),H)
 | .eqs neg tags x y=>match x.ev env,y.ev env with
  | .p (.agg a),.p (.agg b)=>(rG tags a b).map λr=>(.p (.bool (if neg then !r else r)),H)
  |_,_=>Y
 | .un op x=>(AH op (x.ev env)).map λd=>(d,H)
 | .mkfn f first cap=>Z (.fn f (first.map (·.ev env)) (cap.map (·.ev env)),H)
 | .slice sz x lo hi=>(yf sz (x.ev env) (lo.map (·.ev env)) (hi.map (·.ev env))).map λd=>(d,H)
 | .faddr x off=>match x.ev env with
  | .box i o=>Z (.box i (o+off),H)
  | .eB g o=>Z (.eB g (o+off),H)
  | .ro cs o=>Z (.ro cs (o+off),H)
  |_=>Y
 | .field x off n=>match x.ev env with
  | .p (.agg cs)=>(cutAt cs off n .p λl=>.p (.agg l)).map λd=>(d,H)
  | .agg cs=>(cutAt cs off n id cX).map λd=>(d,H)
  |_=>Y
 | .iaddr len sz x i=>match(i.ev env).uf with
  |some n=>(dE len sz (x.ev env) n).map λd=>(d,H)
  |none=>Y
 | .index arr x i=>match(i.ev env).uf with
  |some n=>(yg arr (x.ev env) n).map λd=>(d,H)
  |none=>Y
 | .extract x i=>match x.ev env with
  | .ba ds=>(ds[i]?).map λd=>(d,H)
  |_=>Y
 | .len kd x=>(dF kd (x.ev env)).map fun(n:Nat)=>(.p (.int .i64 (n:Int)),H)
 | .append e sz bytes s x=>match yh H sz (x.ev env) with
  |some xs=>fg e sz bytes (s.ev env) xs H
  |none=>Y
 | .conv k x=>match(x.ev env).uf with
  |some n=>Z (.p (.int k (k.wrap n)),H)
  |none=>Y
 | .minmax mx x y=>(AJ mx (x.ev env) (y.ev env)).map λd=>(d,H)
 | .makesl sz z bytes n c=>Gk sz z bytes (n.ev env) (c.ev env) H
 | .iface t x=>match(x.ev env).eZ with
  |some y=>Z (.p (.iface t y),H)
  |none=>Z (.eC t (x.ev env),H)
 | .bsliceG e sz len z parts=>if O z.cells=sz/\z.cells.all PD.one/\0<len then
     (match aF (((dX len z).flatMap PD.cells).map .p) (parts.map fun(o,n,x)=>(o,n,x.ev env)) with
     |some cs=>if O cs=len*sz then Z (.ae (O H.bx) e len sz,{H with bx:=H.bx++[cs]}) else Y
     |none=>Y) else Y
 | .slice3 sz x lo hi mx=>(Gj sz (x.ev env) (lo.map (·.ev env)) (hi.ev env) (mx.ev env)).map λd=>(d,H)
 | .stuck=>Y
 | .appendg e sz bytes s x=>match gX H sz (x.ev env) with
  |some (m,xs)=>dx e sz bytes (s.ev env) m xs H
  |none=>Y
 | .tassert t z ok x=>(Rp t z ok (x.ev env)).map λd=>(d,H)
 | .wo kd=>Z (.dD (O H.bx),{H with bx:=H.bx++[[.cD kd [] []]]})
 | .mapset kd m k v=>Rq kd (m.ev env) (k.ev env) (v.ev env) H
 | .mapins kd m k v=>rH kd (m.ev env) (k.ev env) (v.ev env) H
 | .mapget kd z ok m k=>(AK kd z ok (m.ev env) (k.ev env) H).map λd=>(d,H)
 | .call .. =>Y
 | .panic _=>Y
inductive bR where
 |val (d:D)
 |bN (d:D)
abbrev br:=Nat->List D->Hp->Option (bR×Hp)
def aH{β:Type}(f:α->Option β):List α->Option (List β)
 |[]=>Z []
 |a::r=>match f a with
  |some b=>(aH f r).map (b:: ·)
  |none=>Y
def idx(l:List Nat)(i:Nat):Option Nat:=match l with
 |[]=>Y
 |a::r=>if a=i then Z 0 else(idx r i).map (· +1)

mutual
def D.ren(bi ti:Nat->Option Nat):D->Option D
 | .box i o=>(bi i).map λj=>.box j o
 | .aX t e sz es=>match ti t with
  |some u=>Z (.aX u e sz es)
  |none=>Z (.p (.slice sz es))
 | .agg cs=>(D.aZ bi ti cs).map .agg
 | .ba cs=>(D.aZ bi ti cs).map .ba
 | .fn f a c=>match D.aZ bi ti a,D.aZ bi ti c with
  |some a',Z c'=>Z (.fn f a' c')
  |_,_=>Y
 | .bH i off n c sz=>(bi i).map λj=>.bH j off n c sz
 | .eC t d=>(d.ren bi ti).map (.eC t)
 | .dD i=>(bi i).map .dD
 | .cD kd ks vs=>(D.aZ bi ti vs).map (.cD kd ks)
 | .ae i e n sz=>(bi i).map λj=>.ae j e n sz
 |d=>Z d
def D.aZ(bi ti:Nat->Option Nat):List D->Option (List D)
 |[]=>Z []
 |d::r=>match d.ren bi ti with
  |some x=>(D.aZ bi ti r).map (x:: ·)
  |none=>Y
end

mutual
def D.refs:D->List Nat
 | .box i _=>[i]
 | .agg cs=>D.ai cs
 | .ba cs=>D.ai cs
 | .fn _ a c=>D.ai a++D.ai c
 | .bH i _ _ _ _=>[i]
 | .dD i=>[i]
 | .cD _ _ vs=>D.ai vs
 | .ae i _ _ _=>[i]
 | .eC _ d=>d.refs
 |_=>[]
def D.ai:List D->List Nat
 |[]=>[]
 |d::r=>d.refs++D.ai r
end

mutual
def D.bk:D->List Nat
 | .aX t _ _ _=>[t]
 | .agg cs=>D.aC cs
 | .ba cs=>D.aC cs
 | .fn _ a c=>D.aC a++D.aC c
 | .eC _ d=>d.bk
 | .cD _ _ vs=>D.aC vs
 |_=>[]
def D.aC:List D->List Nat
 |[]=>[]
 |d::r=>d.bk++D.aC r
end
def ins(l:List Nat):List Nat->List Nat
 |[]=>l
 |x::r=>if l.contains x then ins l r else ins (l++[x]) r
def eQ(H:Hp):List Nat->List Nat
 |[]=>[]
 |i::r=>(match H.bx[i]? with |some cs=>D.ai cs |none=>[])++eQ H r
def gM(H:Hp):List Nat->List Nat
 |[]=>[]
 |i::r=>(match H.bx[i]? with |some cs=>D.aC cs |none=>[])++gM H r
def reach(H:Hp):Nat->List Nat->List Nat
 | 0,ids=>ids
 |n+1,ids=>match eQ H ids with
  |[]=>ids
  |new=>reach H n (ins ids new)
def bZ(l:List α):List Nat->List α->List α
 |i::is,x::xs=>bZ (l.set i x) is xs
 |_,_=>l
def bR.ren(bi ti:Nat->Option Nat):bR->Option bR
 | .val d=>(d.ren bi ti).map .val
 | .bN d=>(d.ren bi ti).map .bN
def iD(l:List α)(n:Nat):Option (List α):=if n<=O l then Z (l.take n) else Y
def back(ids tks:List Nat)(H:Hp)(r:bR)(H':Hp):Option (bR×Hp):=
 match iD H'.bx (O ids),iD H'.tk (O tks) with
 |some bx,Z tk=>
  let ti:=λt=>tks[t]?
  match r.ren (λi=>ids[i]?) ti,aH (D.aZ (λi=>ids[i]?) ti) bx with
  |some r',Z mB=>Z (r',⟨bZ H.bx ids mB,bZ H.tk tks tk⟩)
  |_,_=>
   let bi:=λi=>if i<O ids then ids[i]? else Z (O H.bx+(i-O ids))
   match r.ren bi ti,aH (D.aZ bi ti) bx,aH (D.aZ bi ti) (H'.bx.drop (O ids)) with
   |some r',Z mB,Z (n0::nw)=>Z (r',⟨bZ H.bx ids mB++(n0::nw),bZ H.tk tks tk⟩)
   |_,_,_=>Y
 |_,_=>Y
def nodupB:List Nat->Bool
 |[]=>true
 |a::r=>!(r.contains a)&&nodupB r
def au(dy:br)(f:Nat)(args:List D)(H:Hp):Option (bR×Hp):=
 let ids:=reach H (O H.bx) (ins [] (D.ai args))
 let tks:=ins [] (D.aC args++gM H ids)
 if nodupB ids&&nodupB tks then
  match D.aZ (idx ids) (idx tks) args,aH (λi=>match H.bx[i]? with |some cs=>D.aZ (idx ids) (idx tks) cs |none=>Y) ids,aH (λt=>H.tk[t]?) tks with
  |some as,Z bx,Z tk=>match dy f as ⟨bx,tk⟩ with
   |some (r,H')=>back ids tks H r H'
   |none=>Y
  |_,_,_=>Y
 else Y
def fM(dy:br)(f:D)(args:List D)(H:Hp):Option (bR×Hp):=
 match f with
 | .fn g first cap=>au dy g (first++args++cap) H
 |_=>Y
def Gl(d:D)(H:Hp):Option (bR×Hp):=
 match d with
 | .p (.iface t y)=>Z (.bN (.p (.iface t y)),H)
 | .eC t y=>Z (.bN (.eC t y),H)
 |_=>Y
def cH(dy:br)(G:Nat->Option (List PD))(env:Env)(H:Hp):SK->Option (bR×Hp)
 | .call f args=>fM dy (f.ev env) (args.map (·.ev env)) H
 | .panic x=>Gl (x.ev env) H
 |k=>match aP G env H k with
  |some (d,H')=>Z (.val d,H')
  |none=>Y
def fY(env:Env):Option (Nat×Bool)->Option Bool
 |none=>Z true
 |some (t,want)=>match env.get t with
  | .p (.bool b)=>Z (b==want)
  | .undef=>Z false
  |_=>Y
def put(dst:Option Nat)(d:D)(env:Env):Env:=
 match dst with
 |some t=>(t,d)::env
 |none=>env

inductive RO where
 |ok (env:Env) (H:Hp)
 |bN (d:D) (env:Env) (H:Hp)
def jJ(dy:br)(G:Nat->Option (List PD)):List SO->Env->Hp->Option RO
 |[],env,H=>Z (.ok env H)
 |o::r,env,H=>match fY env o.g with
  |some true=>match cH dy G env H o.k with
   |some (.val d,H')=>jJ dy G r (put o.dst d env) H'
   |some (.bN d,H')=>Z (.bN d env H')
   |none=>Y
  |some false=>jJ dy G r (put o.dst .undef env) H
  |none=>Y
def cls(env:Env):SK->Nat
 | .load _ x=>match x.ev env with
  | .ro _ _ | .eB _ _=>0
  |_=>1
 | .alloc _ | .box _ | .store _ _ _ | .append _ _ _ _ _ | .appendg _ _ _ _ _ | .makesl _ _ _ _ _ | .bsliceG _ _ _ _ _ | .wo _ | .mapset _ _ _ _ | .mapins _ _ _ _=>2
 | .mapget _ _ _ _ _=>1
 | .panic _=>2
 | .call f args=>if(D.ai (f.ev env::args.map (·.ev env))).isEmpty&&(D.aC (f.ev env::args.map (·.ev env))).isEmpty then 0 else 2
 |_=>0
def gY(n:Nat)(env:Env)(k:SK):Nat×Nat:=
 match k with
 | .load n x=>match x.ev env with
  | .box i _=>(3+2*i,0)
  |_=>(cls env (.load n x),0)
 | .store n a v=>match a.ev env with
  | .box i _=>(4+2*i,0)
  |_=>(cls env (.store n a v),0)
 | .mapget g z ok m k=>match m.ev env with
  | .dD i=>(3+2*i,0)
  |_=>(cls env (.mapget g z ok m k),0)
 | .mapins kd m k v=>match m.ev env,k.ev env with
  | .dD i,.p k=>if i<2000000000 then(4+2*i,cY k+1) else(2,0)
  |_,_=>(cls env (.mapins kd m k v),0)
 | .alloc _ | .box _ | .wo _ | .bsliceG _ _ _ _ _ | .makesl _ _ _ _ _=>(4+2*n,0)
 | .appendg _ _ _ s _=>match s.ev env with
  | .ae i _ _ _ | .bH i _ _ _ _=>if n<1000000 then(4+2*(4000000000+i*1000000+n),0) else(2,0)
  |_=>(4+2*n,0)
 | .append _ _ _ _ _=>(4+2*1000000007,0)
 |k=>(cls env k,0)

mutual
def PD.gN:PD->PD->Bool
 | .bool a,.bool b=>a==b
 | .int k a,.int l b=>decide (k=l)&&a==b
 | .str a,.str b=>a==b
 | .kB,.kB=>true
 | .aj,.aj=>true
 | .nV,.nV=>true
 | .j5,.j5=>true
 | .qw,.qw=>true
 | .slice s a,.slice t b=>s==t&&PD.gO a b
 | .emp s,.emp t=>s==t
 | .agg a,.agg b=>PD.gO a b
 | .iface s a,.iface t b=>s==t&&PD.gN a b
 |_,_=>false
def PD.gO:List PD->List PD->Bool
 |[],[]=>true
 |a::x,b::y=>PD.gN a b&&PD.gO x y
 |_,_=>false
end

mutual
def D.gN:D->D->Bool
 | .dead,.dead=>true
 | .undef,.undef=>true
 | .p a,.p b=>PD.gN a b
 | .cC e s a,.cC f t b=>e==f&&s==t&&PD.gO a b
 | .aX u e s a,.aX v f t b=>u==v&&e==f&&s==t&&PD.gO a b
 | .box i o,.box j q=>i==j&&o==q
 | .eB i o,.eB j q=>i==j&&o==q
 | .ro a o,.ro b q=>PD.gO a b&&o==q
 | .agg a,.agg b=>D.gO a b
 | .ba a,.ba b=>D.gO a b
 | .fn f a c,.fn g b d=>f==g&&D.gO a b&&D.gO c d
 | .bH i o n c s,.bH j q m d t=>i==j&&o==q&&n==m&&decide (c=d)&&s==t
 | .fL s,.fL t=>s==t
 | .eC s a,.eC t b=>s==t&&D.gN a b
 | .dD i,.dD j=>i==j
 | .cD k a x,.cD l b y=>k==l&&PD.gO a b&&D.gO x y
 | .ae i e n s,.ae j f m t=>i==j&&e==f&&n==m&&s==t
 | .fB s a,.fB t b=>s==t&&PD.gO a b
 |_,_=>false
def D.gO:List D->List D->Bool
 |[],[]=>true
 |a::x,b::y=>D.gN a b&&D.gO x y
 |_,_=>false
end
def wq:List (List D)->List (List D)->Bool
 |[],[]=>true
 |a::x,b::y=>D.gO a b&&wq x y
 |_,_=>false
def C8(H H':Hp):Bool:=wq H.bx H'.bx&&H.tk==H'.tk

mutual
theorem PD.yj:∀(a b:PD),PD.gN a b=true->a=b
 |a,b,h=>by
  cases a<;>cases b<;>first |rfl |(simp[PD.gN] at h;done) |skip
  all_goals simp only[PD.gN,bL,beq_iff_eq,decide_eq_true_eq] at h
  all_goals first
   |(rw[h])
   |(rw[h.1,h.2])
   |(rw[h.1,PD.mV _ _ h.2])
   |(rw[PD.mV _ _ h])
   |(rw[h.1,PD.yj _ _ h.2])
theorem PD.mV:∀(a b:List PD),PD.gO a b=true->a=b
 |[],[],_=>rfl
 |a::x,b::y,h=>by
  simp only[PD.gO,bL] at h;rw[PD.yj a b h.1,PD.mV x y h.2]
 |[],_::_,h=>by simp[PD.gO] at h
 |_::_,[],h=>by simp[PD.gO] at h
end

mutual
theorem D.yj:∀(a b:D),D.gN a b=true->a=b
 |a,b,h=>by
  cases a<;>cases b<;>first |rfl |(simp[D.gN] at h;done) |skip
  all_goals simp only[D.gN,bL,beq_iff_eq,decide_eq_true_eq] at h
  all_goals first
   |(rw[h])
   |(rw[h.1,h.2])
   |(rw[PD.yj _ _ h])
   |(rw[h.1.1,h.1.2,PD.mV _ _ h.2])
   |(rw[h.1.1.1,h.1.1.2,h.1.2,PD.mV _ _ h.2])
   |(rw[h.1.1.1,h.1.1.2,h.1.2,h.2])
   |(rw[PD.mV _ _ h.1,h.2])
   |(rw[D.mV _ _ h])
   |(rw[h.1.1,D.mV _ _ h.1.2,D.mV _ _ h.2])
   |(rw[h.1.1.1.1,h.1.1.1.2,h.1.1.2,h.1.2,h.2])
   |(rw[h.1,PD.mV _ _ h.2])
   |(rw[h.1,D.yj _ _ h.2])
   |(rw[D.yj _ _ h])
   |(rw[h.1.1,h.1.2,h.2])
   |(rw[h.1.1,PD.mV _ _ h.1.2,D.mV _ _ h.2])
theorem D.mV:∀(a b:List D),D.gO a b=true->a=b
 |[],[],_=>rfl
 |a::x,b::y,h=>by
  simp only[D.gO,bL] at h;rw[D.yj a b h.1,D.mV x y h.2]
 |[],_::_,h=>by simp[D.gO] at h
 |_::_,[],h=>by simp[D.gO] at h
end

mutual
theorem PD.AL:∀a:PD,PD.gN a a=true
 | .slice s a=>by simp[PD.gN,PD.mW a]
 | .agg a=>by simp[PD.gN,PD.mW a]
 | .iface s a=>by simp[PD.gN,PD.AL a]
 | .bool _ | .int _ _ | .str _ | .kB | .aj | .nV | .j5 | .qw | .emp _=>by simp[PD.gN]
theorem PD.mW:∀a:List PD,PD.gO a a=true
 |[]=>rfl
 |a::x=>by simp[PD.gO,PD.AL a,PD.mW x]
end

mutual
theorem D.AL:∀a:D,D.gN a a=true
 | .p a=>by simp[D.gN,PD.AL a]
 | .cC e s a=>by simp[D.gN,PD.mW a]
 | .fB s a=>by simp[D.gN,PD.mW a]
 | .aX u e s a=>by simp[D.gN,PD.mW a]
 | .ro a o=>by simp[D.gN,PD.mW a]
 | .agg a=>by simp[D.gN,D.mW a]
 | .ba a=>by simp[D.gN,D.mW a]
 | .fn f a c=>by simp[D.gN,D.mW a,D.mW c]
 | .eC s a=>by simp[D.gN,D.AL a]
 | .cD k a x=>by simp[D.gN,PD.mW a,D.mW x]
 | .dead | .undef | .box _ _ | .eB _ _ | .bH _ _ _ _ _ | .fL _ | .dD _ | .ae _ _ _ _=>by simp[D.gN]
theorem D.mW:∀a:List D,D.gO a a=true
 |[]=>rfl
 |a::x=>by simp[D.gO,D.AL a,D.mW x]
end
theorem Rs:∀(a b:List (List D)),wq a b=true->a=b
 |[],[],_=>rfl
 |a::x,b::y,h=>by
  simp only[wq,bL] at h;rw[D.mV a b h.1,Rs x y h.2]
 |[],_::_,h=>by simp[wq] at h
 |_::_,[],h=>by simp[wq] at h
theorem Ru:∀a:List (List D),wq a a=true
 |[]=>rfl
 |a::x=>by simp[wq,D.mW a,Ru x]
theorem aan{H':Hp}(h:C8 H H'=true):H'=H:=by
 obtain⟨a,b⟩:=H;obtain⟨c,d⟩:=H';simp only[C8,bL,beq_iff_eq] at h;rw[Rs a c h.1,h.2]

@[simp] theorem aoV(H:Hp):C8 H H=true:=by simp[C8,Ru]
def ug:SK->Bool
 | .call _ _=>true
 |_=>false
def yl(env:Env)(H:Hp):SK->List Nat
 | .call f as=>match f.ev env with
  | .fn _ first cap=>reach H (O H.bx) (ins [] (D.ai (first++as.map (·.ev env)++cap)))
  |_=>[]
 |_=>[]
def iW(env:Env)(H:Hp):SK->Option Nat
 | .call f as=>match f.ev env with
  | .fn _ first cap=>match reach H (O H.bx) (ins [] (D.ai (first++as.map (·.ev env)++cap))),D.aC (first++as.map (·.ev env)++cap)++gM H (reach H (O H.bx) (ins [] (D.ai (first++as.map (·.ev env)++cap)))) with
   |[i],[]=>Z i
   |_,_=>Y
  |_=>Y
 |_=>Y
def wu:List Nat->Nat
 |[]=>0
 |i::r=>max (i+1) (wu r)
def j7(env:Env)(H H':Hp)(k:SK):Nat×Nat:=if cls env k=0 then(if O H'.bx=O H.bx then(0,0) else if O H'.bx=O H.bx+1 then(4+2*O H.bx,0) else(2,0)) else if ug k&&C8 H H' then(match iW env H k with |some i=>(3+2*i,0) |none=>(1,0)) else if ug k&&decide (O H'.bx=O H.bx/\wu (yl env H k)<2000000000) then(4+2*(2000000000+wu (yl env H k)),0) else gY (O H.bx) env k
def aV(c:Nat):Bool:=c==2||(decide (4<=c)&&c%2==0)
def oL(x i:Nat):Bool:=if i<2000000000 then x !=i else if i<4000000000 then decide (i-2000000000<=x)&&decide (x<2000000000) else decide (x≠(i-4000000000)/1000000)&&decide (x<(i-4000000000)%1000000)
def lg(a b:Nat):Bool:=decide (3<=a)&&a%2==1&&decide (4<=b)&&b%2==0&&oL ((a-3)/2) ((b-4)/2)
def qx(a b:Nat×Nat):Bool:=a.2 !=0&&b.2 !=0&&a.1==b.1&&a.2 !=b.2
def eR(a b:Nat×Nat):Bool:=(a.1 !=0&&b.1 !=0)&&(aV a.1||aV b.1)&& !(lg a.1 b.1||lg b.1 a.1)&& !qx a b
def sT:List (Nat×Nat)->Bool
 |[]=>true
 |c::r=>(c.2==0|| !r.contains c)&&sT r
def gP(dy:br)(G:Nat->Option (List PD)):List SO->Env->Hp->Option (Env×Hp×List (Nat×Nat))
 |[],env,H=>Z (env,H,[])
 |o::r,env,H=>match fY env o.g with
  |some true=>match cH dy G env H o.k with
   |some (.val d,H')=>
    match gP dy G r (put o.dst d env) H' with
    |some (e,h,cs)=>Z (e,h,j7 env H H' o.k::cs)
    |none=>Y
   |_=>Y
  |some false=>match gP dy G r (put o.dst .undef env) H with
   |some (e,h,cs)=>Z (e,h,(0,0)::cs)
   |none=>Y
  |none=>Y
def aA.slots:aA->List Nat
 | .t i=>[i]
 | .c _=>[]
def AO:Option aA->List Nat
 |some x=>x.slots
 |none=>[]
def SK.slots:SK->List Nat
 | .move x | .box x | .load _ x | .nilCheck x | .un _ x | .faddr x _ | .field x _ _ | .extract x _ | .len _ x | .conv _ x | .iface _ x | .tassert _ _ _ x | .panic x=>x.slots
 | .pick c a b=>c.slots++a.slots++b.slots
 | .alloc _ | .stuck | .wo _=>[]
 | .mapset _ m k v | .mapins _ m k v=>m.slots++k.slots++v.slots
 | .mapget _ _ _ m k=>m.slots++k.slots
 | .build _ ps | .bsliceG _ _ _ _ ps=>ps.flatMap λp=>p.2.2.slots
 | .slice3 _ x lo hi mx=>x.slots++AO lo++hi.slots++mx.slots
 | .bslice _ _ _ _ ps=>ps.flatMap λp=>p.2.slots
 | .store _ a v=>a.slots++v.slots
 | .bin _ x y | .eqk _ _ x y | .eqs _ _ x y | .iaddr _ _ x y | .index _ x y | .append _ _ _ x y | .minmax _ x y | .makesl _ _ _ x y | .appendg _ _ _ x y=>x.slots++y.slots
 | .mkfn _ f c=>f.flatMap aA.slots++c.flatMap aA.slots
 | .slice _ x lo hi=>x.slots++AO lo++AO hi
 | .call f as=>f.slots++as.flatMap aA.slots
def SK.fj:SK->Bool
 | .load _ _ | .alloc _ | .box _ | .store _ _ _ | .append _ _ _ _ _ | .call _ _ | .appendg _ _ _ _ _ | .makesl _ _ _ _ _ | .bsliceG _ _ _ _ _ | .wo _ | .mapset _ _ _ _ | .mapins _ _ _ _ | .mapget _ _ _ _ _ | .panic _=>false
 |_=>true
def SO.uses(s:SO):List Nat:=s.k.slots++(match s.g with |some (t,_)=>[t] |none=>[])
def behind(pairs:List (Nat×Nat))(k i:Nat)(dead:List Nat)(o:SO):Bool:=o.uses.any dead.contains||(!o.k.fj&& !pairs.contains (k,i))
def nW(dy:br)(G:Nat->Option (List PD))(pairs:List (Nat×Nat))(k:Nat):Nat->List Nat->List SO->Env->Hp->Option (List (Nat×Nat))
 |_,_,[],_,_=>Z []
 |i,dead,o::r,env,H=>
  if behind pairs k i dead o then(nW dy G pairs k (i+1) (o.dst.toList++dead) r (put o.dst .undef env) H).map ((0,0):: ·)
  else match fY env o.g with
  |some true=>match cH dy G env H o.k with
   |some (.val d,H')=>if aV (j7 env H H' o.k).1 then Y else(nW dy G pairs k (i+1) dead r (put o.dst d env) H').map (j7 env H H' o.k:: ·)
   |_=>Y
  |some false=>(nW dy G pairs k (i+1) dead r (put o.dst .undef env) H).map ((0,0):: ·)
  |none=>Y
def iX(dy:br)(G:Nat->Option (List PD))(pairs:List (Nat×Nat)):Nat->List SO->Env->Hp->Option (D×Hp×List (Nat×Nat)×Nat)
 |_,[],_,_=>Y
 |i,o::r,env,H=>match fY env o.g with
  |some true=>match cH dy G env H o.k with
   |some (.val d,H')=>(iX dy G pairs (i+1) r (put o.dst d env) H').map λx=>(x.1,x.2.1,j7 env H H' o.k::x.2.2.1,x.2.2.2)
   |some (.bN d,H')=>(nW dy G pairs i (i+1) o.dst.toList r (put o.dst .undef env) H).map λcs=>(d,H',(0,0)::cs,i)
   |none=>Y
  |some false=>(iX dy G pairs (i+1) r (put o.dst .undef env) H).map λx=>(x.1,x.2.1,(0,0)::x.2.2.1,x.2.2.2)
  |none=>Y
def uh(pairs:List (Nat×Nat))(cs:List (Nat×Nat)):Bool:=pairs.all (λp=>!eR (cs.getD p.1 (0,0)) (cs.getD p.2 (0,0)))&&sT cs
def Gm(pairs:List (Nat×Nat))(cs:List (Nat×Nat))(k:Nat):Bool:=pairs.all λp=>decide (p.1<1000000)&&(p.2 !=k|| !aV (cs.getD p.1 (0,0)).1)
def ym(ops:List SO)(env:Env):Env:=env.filter λy=>!ops.any λo=>o.dst==Z y.1

inductive Out where
 |norm
 |exit (id:Nat)
 |ret
 |bN (d:D)
def pV(e sz:Nat)(d:D)(H:Hp):Option (D×Hp):=
 match d with
 | .p .aj=>Z (.aX (O H.tk) e sz [],{H with tk:=H.tk++[0]})
 | .cC e' bQ es=>if e'=e/\bQ=sz/\O es<=140737488355328 then Z (.aX (O H.tk) e sz es,{H with tk:=H.tk++[O es]}) else Y
 | .aX t e' bQ es=>if e'=e/\bQ=sz then Z (.aX t e sz es,H) else Y
 |_=>Y
def Gn(slot off e sz:Nat)(s:St):Option St:=
 match s.env.get slot with
 | .box i o=>match s.hp.bx[i]? with
  |some cs=>if ay cs then Z s else match cs[o+off]? with
   |some d=>match pV e sz d s.hp with
    |some (d',H)=>Z ⟨s.env,{H with bx:=H.bx.set i (cs.set (o+off) d')}⟩
    |none=>Z s
   |none=>Y
  |none=>Y
 |_=>Z s
def iter(body:St->Option (Out×St)):Nat->St->Option (Out×St)
 | 0,_=>Y
 |m+1,s=>match body s with
  |some (.norm,s')=>iter body m s'
  |r=>r
def Out.ren(bi ti:Nat->Option Nat):Out->Option Out
 | .bN d=>(d.ren bi ti).map .bN
 |o=>Z o
def below(n i:Nat):Option Nat:=if i<n then Z i else Y
def bX(nb nt:Nat)(x:Out×St):Out×St:=
 if nb<=O x.2.hp.bx/\nt<=O x.2.hp.tk then
  match aH (D.aZ (below nb) (below nt)) (x.2.hp.bx.take nb),x.1.ren (below nb) (below nt) with
  |some bx,Z o=>(o,⟨x.2.env.map λy=>(y.1,(y.2.ren (below nb) (below nt)).getD .dead),⟨bx,x.2.hp.tk.take nt⟩⟩)
  |_,_=>x
 else x
def D.av(k:Nat)(H:Hp):Nat->D->D
 | 0,d=>d
 |f+1,d=>match d with
  | .bH i off n c sz=>if k<=i then(match H.bx[i]? with
   |some cs=>if ay cs=false/\off+n*sz<=O cs/\0<sz then(match D.j6 ((sub cs off (off+n*sz)).map (D.av k H f)) with
    |some ps=>.p (.slice sz (chunks sz n ps))
    |none=>.bH i off n c sz) else .bH i off n c sz
   |none=>.bH i off n c sz) else .bH i off n c sz
  | .ae i e n sz=>if k<=i then(match H.bx[i]? with
   |some cs=>if ay cs=false/\0+n*sz<=O cs/\0<sz then(match D.j6 ((sub cs 0 (0+n*sz)).map (D.av k H f)) with
    |some ps=>.p (.slice sz (chunks sz n ps))
    |none=>.ae i e n sz) else .ae i e n sz
   |none=>.ae i e n sz) else .ae i e n sz
  | .box i off=>if k<=i then(match H.bx[i]? with
   |some cs=>if ay cs then .box i off else(match D.j6 (cs.map (D.av k H f)) with |some ps=>.ro ps off |none=>.box i off)
   |none=>.box i off) else .box i off
  | .agg cs=>cX (cs.map (D.av k H f))
  | .ba cs=>.ba (cs.map (D.av k H f))
  | .fn g a c=>.fn g (a.map (D.av k H f)) (c.map (D.av k H f))
  | .eC t d=>match D.av k H f d with
   | .p y=>.p (.iface t y)
   |d'=>.eC t d'
  | .cC _ sz es=>.p (match es with |[]=>.emp sz |_::_=>.slice sz es)
  |d=>d
def oM(k:Nat)(H:Hp)(cs:List D):List D:=if(D.ai cs).all (λi=>decide (i<k)) then cs else cs.map (D.av k H 8)
def bR.av(k:Nat)(H:Hp):bR->bR
 | .val d=>.val (d.av k H 8)
 | .bN d=>.bN (d.av k H 8)
def Out.av(k:Nat)(H:Hp):Out->Out
 | .bN d=>.bN (d.av k H 8)
 |o=>o
def wx(nb:Nat)(x:Out×St):Out×St:=
 match aH (λcs=>D.aZ (below nb) Z (oM nb x.2.hp cs)) (x.2.hp.bx.take nb),(x.1.av nb x.2.hp).ren (below nb) Z with
 |some bx,Z o=>if nb<=O x.2.hp.bx then(o,⟨x.2.env.map λy=>(y.1,((y.2.av nb x.2.hp 8).ren (below nb) Z).getD .dead),⟨bx,x.2.hp.tk⟩⟩) else x
 |_,_=>x
abbrev It:=(St->Option (Out×St))->St->Option (Out×St)
def C9(f:Nat)(gen:List D->List D->Hp->Option (List (List D)))(g:D)(H:Hp):Option (List (List D)):=
 match g with
 | .fn f' fi cap=>if f'=f then gen fi cap H else Y
 |_=>Y
def nX(g:D)(H:Hp):List Nat:=
 match g with
 | .fn _ fi cap=>reach H (O H.bx) (ins [] (D.ai (fi++cap)))
 |_=>[]
def Rv(a b:Option (List D)):Bool:=
 match a,b with
 |some a,Z b=>D.gO a b
 |none,Y=>true
 |_,_=>false
def Gp(ids:List Nat)(H H':Hp):Bool:=ids.all λi=>Rv H.bx[i]? H'.bx[i]?
theorem aao{a b:Option (List D)}(h:Rv a b=true):b=a:=by
 cases a<;>cases b<;>first |rfl |(cases h;done) |skip
 rw[D.mV _ _ h]
def mC(env:Env):List Nat->List D->Env
 |p::ps,x::xs=>mC ((p,x)::env) ps xs
 |_,_=>env
def kE(ea eb:St->Option (Out×St))(env:Env)(ps:List Nat)(kb:Hp->Bool):List (List D)->Hp->Option (Out×St)
 |[],H=>Z (.norm,⟨env,H⟩)
 |x::xs,H=>if O x≠O ps then Y else match ea ⟨mC env ps x,H⟩ with
  |some (.norm,s1)=>match eb s1 with
   |some (.norm,s2)=>if kb s2.hp then kE ea eb env ps kb xs s2.hp else Y
   |some (o,s2)=>Z (o,⟨env,s2.hp⟩)
   |none=>Y
  |_=>Y
def aq(dy:br)(G:Nat->Option (List PD))(it:It):SC->St->Option (Out×St)
 | .skip,s=>Z (.norm,s)
 | .region keep ops,s=>match jJ dy G ops s.env s.hp with
  |some (.ok env H)=>Z (.norm,⟨env.keep keep,H⟩)
  |some (.bN d env H)=>Z (.bN d,⟨env,H⟩)
  |none=>Y
 | .draw keep pairs ops,s=>match gP dy G ops s.env s.hp with
  |some (env,H,cs)=>if pairs.all (λp=>!eR (cs.getD p.1 (0,0)) (cs.getD p.2 (0,0)))&&sT cs then Z (.norm,⟨env.keep keep,H⟩) else Y
  |none=>match iX dy G pairs 0 ops s.env s.hp with
   |some (d,H,cs,k)=>if uh pairs cs&&Gm pairs cs k then Z (.bN d,⟨ym ops s.env,H⟩) else Y
   |none=>Y
 | .seq a b,s=>match aq dy G it a s with
  |some (.norm,s')=>aq dy G it b s'
  |r=>r
 | .cond c a b,s=>match c.ev s.env with
  | .p (.bool t)=>if t then aq dy G it a s else aq dy G it b s
  |_=>Y
 | .block id b,s=>match aq dy G it b s with
  |some (.exit i,s')=>if i=id then Z (.norm,s') else Z (.exit i,s')
  |r=>r
 | .loop keep b,s=>it (λs=>aq dy G it b ⟨s.env.keep keep,s.hp⟩) s
 | .tok slot e sz,s=>match pV e sz (s.env.get slot) s.hp with
  |some (d,H)=>Z (.norm,⟨(slot,d)::s.env,H⟩)
  |none=>Y
 | .tokb slot off e sz,s=>(Gn slot off e sz s).map λs'=>(.norm,s')
 | .stuck,_=>Y
 | .scope b,s=>aq dy G it b s
 | .loc b,s=>(aq dy G it b s).map (bX (O s.hp.bx) (O s.hp.tk))
 | .mz b,s=>(aq dy G it b s).map λx=>bX (O s.hp.bx) (O s.hp.tk) (wx (O s.hp.bx) x)
 | .mA f gen g ps fe b,s=>match C9 f gen (g.ev s.env) s.hp with
  |some xs=>kE (aq dy G it fe) (aq dy G it b) s.env ps (Gp (nX (g.ev s.env) s.hp) s.hp) xs s.hp
  |none=>Y
 | .exit id,s=>Z (.exit id,s)
 | .ret,s=>Z (.ret,s)
structure Pg where
 F:Nat->Option FC
 G:Nat->Option (List PD)
 lib:br
 D:Nat->Option (Nat×FC):=λ_=>Y
def entry:Nat->List D->Env
 |_,[]=>[]
 |i,a::r=>(i,a)::entry (i+1) r
def rJ(G:Nat->Option (List PD))(env:Env)(H:Hp):pS->Option D
 | .t i=>Z (env.get i)
 | .cell i n=>pU G H n (env.get i)
def mD(G:Nat->Option (List PD))(env:Env)(H:Hp):List pS->Option D
 |[]=>Z .undef
 |[r]=>rJ G env H r
 |rs=>(aH (rJ G env H) rs).map .ba
def finish(G:Nat->Option (List PD))(res:List pS):Option (Out×St)->Option (bR×Hp)
 |some (.norm,s) |some (.ret,s)=>match mD G s.env s.hp res with
  |some d=>Z (.val d,s.hp)
  |none=>Y
 |some (.bN d,s)=>Z (.bN d,s.hp)
 |_=>Y
def ui(nb:Nat)(x:bR×Hp):bR×Hp:=
 match aH (λcs=>D.aZ (below nb) Z (oM nb x.2 cs)) (x.2.bx.take nb),(x.1.av nb x.2).ren (below nb) Z with
 |some bx,Z r=>if nb<=O x.2.bx then(r,⟨bx,x.2.tk⟩) else x
 |_,_=>x
def mE(av:Bool)(nb:Nat)(x:Option (bR×Hp)):Option (bR×Hp):=if av then x.map (ui nb) else x
def oN(dy:br)(G:Nat->Option (List PD))(it:It):List SC->St->Option (Out×St)
 |[],s=>Z (.norm,s)
 |a::r,s=>match aq dy G it a s with
  |some (.norm,s')=>oN dy G it r s'
  |x=>x
def uj(dy:br)(T:Nat->Option (Nat×FC))(G:Nat->Option (List PD))(it:It):br:=λf args H=>
 match T f,args with
 |some (dst,fc),rv::as=>if O as=fc.np/\fc.plain=true then(match finish G fc.res (aq dy G it fc.body ⟨(dst,rv)::entry 0 as,H⟩) with
  |some (.val d,H')=>Z (.val d,H')
  |_=>Y) else Y
 |_,_=>Y
def qy(dy:br)(T:Nat->Option (Nat×FC))(G:Nat->Option (List PD))(it:It)(res:List pS)(fv:D)(as:List D)(rv:D)(s:St):Option (bR×Hp):=
 match fv with
 | .fn g first cap=>match au (uj dy T G it) g (rv::(first++as++cap)) s.hp with
  |some (.val _,H)=>finish G res (Z (.ret,⟨s.env,H⟩))
  |_=>Y
 |_=>Y
def iE(dy:br)(T:Nat->Option (Nat×FC))(G:Nat->Option (List PD))(it:It)(fc:FC)(s:St):Option (bR×Hp):=
 match fc.gW with
 |none=>finish G fc.res (aq dy G it fc.body s)
 |some x=>match oN dy G it x.pre s with
  |some (.norm,s1)=>match jJ dy G x.ops s1.env s1.hp with
   |some (.ok env H)=>match aq dy G it fc.body ⟨env.keep x.keep,H⟩ with
    |some (.norm,s2) |some (.ret,s2)=>qy dy T G it fc.res (x.f.ev env) (x.as.map (·.ev env)) (.p .j5) s2
    |some (.bN d,s2)=>qy dy T G it fc.res (x.f.ev env) (x.as.map (·.ev env)) d s2
    |_=>Y
   |some (.bN d _ H)=>Z (.bN d,H)
   |none=>Y
  |r=>finish G fc.res r
def eT(p:Pg):Nat->br
 | 0=>λ_ _ _=>Y
 |n+1=>λf args H=>match p.lib f args H with
  |some r=>Z r
  |none=>match p.F f with
   |some fc=>if O args=fc.np then mE fc.av (O H.bx) (iE (eT p n) p.D p.G (λb s=>iter b n s) fc ⟨entry 0 args,H⟩) else Y
   |none=>Y
def br.le(c c':br):Prop:=∀f a H r,c f a H=Z r->c' f a H=Z r

variable{c':br}{r:bR×Hp}{b:St->Option (Out×St)}
section
variable{c:br} (h : br.le c c')
include h
theorem Rx(e:au c f a H=Z r):au c' f a H=Z r:=by
 unfold au at e|-;dsimp only at e|-;split at e
 .rename_i hn
  (try rw[if_pos hn])
  split at e
  .rename_i as bx tk h1 h2 h3
   try rw[h1,h2,h3]
   try dsimp only
   split at e
   .rename_i r' H' hc;rw[h _ _ _ _ hc];exact e
   .cases e
  .cases e
 .cases e
theorem aap{f:D}(e:fM c f a H=Z r):fM c' f a H=Z r:=by
 unfold fM at e|-;split at e
 .exact Rx h e
 .cases e
theorem rK{k:SK}(e:cH c G env H k=Z r):cH c' G env H k=Z r:=by
 unfold cH at e|-;split at e
 .exact aap h e
 .exact e
 .exact e
theorem uk{G:Nat->Option (List PD)}:∀(ops:List SO) (env:Env) (H:Hp) (r:RO),jJ c G ops env H=Z r->jJ c' G ops env H=Z r
 |[],env,H,r,e=>e
 |o::ops,env,H,r,e=>by
  unfold jJ at e|-;split at e
  .rename_i hg
   try rw[hg]
   try dsimp only
   split at e
   .rename_i hk;rw[rK h hk];exact uk ops _ _ _ e
   .rename_i hk;rw[rK h hk];exact e
   .cases e
  .rename_i hg
   try rw[hg]
   exact uk ops _ _ _ e
  .cases e
theorem Gq{G:Nat->Option (List PD)}:∀(ops:List SO) (env:Env) (H:Hp) (r:Env×Hp×List (Nat×Nat)),gP c G ops env H=Z r->gP c' G ops env H=Z r
 |[],env,H,r,e=>e
 |o::ops,env,H,r,e=>by
  unfold gP at e|-;split at e
  .rename_i hg
   try rw[hg]
   try dsimp only
   split at e
   .rename_i hk;rw[rK h hk]
    try dsimp only
    split at e
    .rename_i hr;rw[Gq ops _ _ _ hr];exact e
    .cases e
   .cases e
  .rename_i hg
   try rw[hg]
   try dsimp only
   split at e
   .rename_i hr;rw[Gq ops _ _ _ hr];exact e
   .cases e
  .cases e
theorem AP{G:Nat->Option (List PD)}{pairs:List (Nat×Nat)}{k:Nat}:∀(ops:List SO) (i:Nat) (dead:List Nat) (env:Env) (H:Hp) (r:List (Nat×Nat)),nW c G pairs k i dead ops env H=Z r->nW c' G pairs k i dead ops env H=Z r
 |[],i,dead,env,H,r,e=>e
 |o::ops,i,dead,env,H,r,e=>by
  simp only[nW] at e|-;split at e
  .rename_i hb;rw[if_pos hb];obtain⟨x,hx,rfl⟩:=ak.1 e;rw[AP ops _ _ _ _ _ hx];rfl
  .rename_i hb;rw[if_neg hb];split at e
   .rename_i hg;split at e
    .rename_i d H' hk;rw[rK h hk];dsimp only;split at e
     .cases e
     .rename_i hw;rw[if_neg hw];obtain⟨x,hx,rfl⟩:=ak.1 e;rw[AP ops _ _ _ _ _ hx];rfl
    .cases e
   .rename_i hg;obtain⟨x,hx,rfl⟩:=ak.1 e;rw[AP ops _ _ _ _ _ hx];rfl
   .cases e
theorem Gs{G:Nat->Option (List PD)}{pairs:List (Nat×Nat)}:∀(ops:List SO) (i:Nat) (env:Env) (H:Hp) (r:D×Hp×List (Nat×Nat)×Nat),iX c G pairs i ops env H=Z r->iX c' G pairs i ops env H=Z r
 |[],i,env,H,r,e=>e
 |o::ops,i,env,H,r,e=>by
  simp only[iX] at e|-;split at e
  .rename_i hg;split at e
   .rename_i d H' hk;rw[rK h hk];dsimp only;obtain⟨x,hx,rfl⟩:=ak.1 e;rw[Gs ops _ _ _ _ hx];rfl
   .rename_i d H' hk;rw[rK h hk];dsimp only;obtain⟨x,hx,rfl⟩:=ak.1 e;rw[AP h ops _ _ _ _ _ hx];rfl
   .cases e
  .rename_i hg;obtain⟨x,hx,rfl⟩:=ak.1 e;rw[Gs ops _ _ _ _ hx];rfl
  .cases e
end
theorem Gu{c:br}{G:Nat->Option (List PD)}{pairs:List (Nat×Nat)}:∀(ops:List SO) (i:Nat) (env:Env) (H:Hp) (r:D×Hp×List (Nat×Nat)×Nat),iX c G pairs i ops env H=Z r->gP c G ops env H=Y
 |[],i,env,H,r,e=>by cases e
 |o::ops,i,env,H,r,e=>by
  simp only[iX] at e;simp only[gP];split at e
  .rename_i hg;split at e
   .rename_i d H' hk;rw[hk];obtain⟨x,hx,rfl⟩:=ak.1 e;dsimp only;rw[Gu ops _ _ _ _ hx]
   .rename_i d H' hk;rw[hk]
   .cases e
  .rename_i hg;obtain⟨x,hx,rfl⟩:=ak.1 e;rw[Gu ops _ _ _ _ hx]
  .cases e
def It.le(i i':It):Prop:=∀b b',(∀s r,b s=Z r->b' s=Z r)->∀s r,i b s=Z r->i' b' s=Z r
theorem um{m':Nat}(hm:m<=m'):It.le (λb s=>iter b m s) (λb s=>iter b m' s):=by
 intro b b' hb
 induction m generalizing m' with
 |zero=>intro s r e;cases e
 |succ m ih=>
  intro s r e;obtain⟨k,rfl⟩:∃k,m'=k+1:=⟨m'-1,by omega⟩;simp only[iter] at e|-;split at e
  .rename_i s' hs;rw[hb _ _ hs];exact ih (by omega) _ _ e
  .rename_i hs;cases eU:b s with
   |none=>rw[eU] at e;cases e
   |some x=>
    rw[hb _ _ eU];rw[eU] at e;obtain⟨o,s'⟩:=x;cases o with
    |norm=>exact(hs _ eU).elim
    |exit i=>exact e
    |ret=>exact e
    |bN d=>exact e
theorem Lj{ea eb Ry Rz:St->Option (Out×St)}(ha:∀s r,ea s=Z r->Ry s=Z r)(hb:∀s r,eb s=Z r->Rz s=Z r){env:Env}{ps:List Nat}{kb:Hp->Bool}:
    ∀(xs:List (List D)) (H:Hp) (r:Out×St),kE ea eb env ps kb xs H=Z r->kE Ry Rz env ps kb xs H=Z r
 |[],H,r,e=>e
 |x::xs,H,r,e=>by
  simp only[kE] at e|-;split at e
  .cases e
  rename_i hl;rw[if_neg hl];split at e
  .rename_i s1 h1;rw[ha _ _ h1];dsimp only;split at e
   .rename_i s2 h2;rw[hb _ _ h2];dsimp only;split at e
    .rename_i hk;rw[if_pos hk];exact Lj ha hb xs _ _ e
    .cases e
   .rename_i o s2 hn h2;rw[hb _ _ h2];cases o with
    |norm=>exact(hn rfl).elim
    |_=>exact e
   .cases e
  .cases e
theorem kF{c c':br}(h:br.le c c'){i i':It}(hi:It.le i i'){G:Nat->Option (List PD)}:
    ∀(sc:SC) (s:St) (r:Out×St),aq c G i sc s=Z r->aq c' G i' sc s=Z r
 | .skip,s,r,e=>e
 | .exit _,s,r,e=>e
 | .ret,s,r,e=>e
 | .tok ..,s,r,e=>e
 | .tokb ..,s,r,e=>e
 | .stuck,s,r,e=>e
 | .scope b,s,r,e=>kF h hi b s r e
 | .loc b,s,r,e=>by
  unfold aq at e|-;obtain⟨x,hx,rfl⟩:=ak.1 e;rw[kF h hi b s x hx];rfl
 | .mz b,s,r,e=>by
  unfold aq at e|-;obtain⟨x,hx,rfl⟩:=ak.1 e;rw[kF h hi b s x hx];rfl
 | .region keep ops,s,r,e=>by
  unfold aq at e|-;split at e
  .rename_i he;rw[uk h _ _ _ _ he];exact e
  .rename_i he;rw[uk h _ _ _ _ he];exact e
  .cases e
 | .draw keep pairs ops,s,r,e=>by
  simp only[aq] at e|-;split at e
  .rename_i he;rw[Gq h _ _ _ _ he];exact e
  .rename_i he;split at e
   .rename_i hp;have yn:=Gs h _ _ _ _ _ hp;rw[Gu _ _ _ _ _ yn,yn];exact e
   .cases e
 | .seq a b,s,r,e=>by
  unfold aq at e|-;split at e
  .rename_i he;rw[kF h hi a _ _ he];exact kF h hi b _ _ e
  .rename_i hn;rw[kF h hi a _ _ e];obtain⟨o,s'⟩:=r;cases o with
   |norm=>exact(hn _ e).elim
   |_=>rfl
 | .cond cc a b,s,r,e=>by
  unfold aq at e|-;split at e
  .rename_i t ht
   try rw[ht]
   try dsimp only
   cases t with
   |true=>exact kF h hi a _ _ e
   |false=>exact kF h hi b _ _ e
  .cases e
 | .block id b,s,r,e=>by
  unfold aq at e|-;split at e
  .rename_i he;rw[kF h hi b _ _ he];exact e
  .rename_i hn;rw[kF h hi b _ _ e];obtain⟨o,s'⟩:=r;cases o with
   |exit i=>exact(hn _ _ e).elim
   |_=>rfl
 | .loop keep b,s,r,e=>by
  unfold aq at e|-;exact hi _ _ (λs r e=>kF h hi b _ _ e) _ _ e
 | .mA f gen g ps fe b,s,r,e=>by
  unfold aq at e|-;split at e
  .exact Lj (λs r e=>kF h hi fe s r e) (λs r e=>kF h hi b s r e) _ _ _ e
  .cases e

section
variable{c:br} (h : br.le c c') {i i' : It} (hi : It.le i i')  
include h hi
theorem AQ:∀(l:List SC) (s:St) (r:Out×St),oN c G i l s=Z r->oN c' G i' l s=Z r
 |[],s,r,e=>e
 |a::l,s,r,e=>by
  simp only[oN] at e|-;split at e
  .rename_i he;rw[kF h hi a _ _ he];exact AQ l _ _ e
  .rename_i hn;rw[kF h hi a _ _ e];obtain⟨o,s'⟩:=r;cases o with
   |norm=>exact(hn _ e).elim
   |_=>rfl
theorem RA{b:SC}{s:St}(e:finish G res (aq c G i b s)=Z r):finish G res (aq c' G i' b s)=Z r:=by
 cases he:aq c G i b s with
 |none=>rw[he] at e;cases e
 |some x=>rw[kF h hi _ _ _ he,<-he];exact e
theorem aaq:br.le (uj c T G i) (uj c' T G i'):=by
 intro f a H r e;unfold uj at e|-;split at e
 .split at e
  .rename_i hl;rw[if_pos hl];split at e
   .rename_i hf;rw[RA h hi hf];exact e
   .cases e
  .cases e
 .cases e
theorem Gv{s:St}(e:qy c T G i res fv as rv s=Z r):qy c' T G i' res fv as rv s=Z r:=by
 unfold qy at e|-;split at e
 .split at e
  .rename_i hc
   try dsimp only
   rw[Rx (aaq h hi) hc];exact e
  .cases e
 .cases e
theorem aar{s:St}(e:iE c T G i fc s=Z r):iE c' T G i' fc s=Z r:=by
 unfold iE at e|-;split at e
 .exact RA h hi e
 .rename_i x hx;split at e
  .rename_i hs
   try dsimp only
   rw[AQ h hi _ _ _ hs]
   try dsimp only
   split at e
   .rename_i ho;rw[uk h _ _ _ _ ho]
    try dsimp only
    split at e
    .rename_i hb;rw[kF h hi _ _ _ hb];exact Gv h hi e
    .rename_i hb;rw[kF h hi _ _ _ hb];exact Gv h hi e
    .rename_i hb;rw[kF h hi _ _ _ hb];exact Gv h hi e
    .cases e
   .rename_i ho;rw[uk h _ _ _ _ ho];exact e
   .cases e
  .rename_i hn
   try dsimp only
   cases hs:oN c G i x.pre s with
   |none=>rw[hs] at e;cases e
   |some y=>
    rw[AQ h hi _ _ _ hs];rw[hs] at e;obtain⟨o,s'⟩:=y;cases o with
    |norm=>exact(hn _ hs).elim
    |_=>exact e
end
theorem RB(p:Pg):∀n,br.le (eT p n) (eT p (n+1))
 | 0=>λ_ _ _ _ e=>by cases e
 |n+1=>λf a H r e=>by
  have ih:=RB p n;unfold eT at e|-
  try dsimp only at e|-
  split at e
  .rename_i hl;(try rw[hl]);exact e
  .rename_i hl
   try rw[hl]
   try dsimp only
   split at e
   .rename_i fc hf
    try rw[hf]
    try dsimp only
    split at e
    .rename_i hlen
     (try rw[if_pos hlen])
     cases he:iE (eT p n) p.D p.G (λb s=>iter b n s) fc ⟨entry 0 a,H⟩ with
     |none=>rw[he] at e;unfold mE at e;split at e<;>cases e
     |some x=>rw[aar ih (um (aon n)) he,<-he];exact e
    .cases e
   .cases e
theorem lh(p:Pg){n:Nat}(h:n<=m):br.le (eT p n) (eT p m):=by
 induction h with
 |refl=>exact λ_ _ _ _ e=>e
 |step _ ih=>exact λf a H r e=>RB p _ _ _ _ _ (ih f a H r e)

open Classical in
noncomputable def call (p:Pg):br:=λf a H=>
 if h:∃r n,eT p n f a H=Z r then Z h.choose else Y
theorem yo{p:Pg}:call p f a H=Z r↔∃n,eT p n f a H=Z r:=by
 unfold call;constructor
 .intro e;split at e
  .rename_i h;obtain⟨n,hn⟩:=h.choose_spec;cases e;exact⟨n,hn⟩
  .cases e
 .rintro⟨n,hn⟩;have h:∃r n,eT p n f a H=Z r:=⟨r,n,hn⟩;rw[dif_pos h];obtain⟨m,hm⟩:=h.choose_spec;have h1:=lh p (pK n m) _ _ _ _ hn;have h2:=lh p (mo n m) _ _ _ _ hm;rw[h1] at h2;exact h2.symm

open Classical in
noncomputable def aM:It:=λb s=>if h:∃r m,iter b m s=Z r then Z h.choose else Y
theorem sU{s:St}{r:Out×St}:aM b s=Z r↔∃m,iter b m s=Z r:=by
 unfold aM;constructor
 .intro e;split at e
  .rename_i h;obtain⟨n,hn⟩:=h.choose_spec;cases e;exact⟨n,hn⟩
  .cases e
 .rintro⟨n,hn⟩;have h:∃r n,iter b n s=Z r:=⟨r,n,hn⟩;rw[dif_pos h];obtain⟨m,hm⟩:=h.choose_spec;have h1:=um (pK n m) b b (λ_ _ e=>e) _ _ hn;have h2:=um (mo n m) b b (λ_ _ e=>e) _ _ hm;dsimp only at h1 h2;rw[h1] at h2;exact h2.symm
theorem aas{s:St}(h:b s=Z (.norm,s')):aM b s=aM b s':=by
 cases hx:aM b s' with
 |some r=>
  obtain⟨m,hm⟩:=sU.1 hx;exact sU.2 ⟨m+1,by simp only[iter,h];exact hm⟩
 |none=>
  cases hy:aM b s with
  |none=>rfl
  |some r=>
   obtain⟨m,hm⟩:=sU.1 hy;cases m with
   |zero=>cases hm
   |succ m=>
    simp only[iter,h] at hm;rw[sU.2 ⟨m,hm⟩] at hx;cases hx
theorem aat{s:St}{o:Out}(h:b s=Z (o,s'))(ho:o≠.norm):aM b s=Z (o,s'):=
 sU.2 ⟨1,by
  simp only[iter,h];split
  .rename_i hh;cases hh;exact(ho rfl).elim
  .rfl⟩

section
variable{p : Pg} 
theorem AR{k:SK}(e:cH (call p) G env H k=Z r):∃n,cH (eT p n) G env H k=Z r:=by
 unfold cH at e|-;split at e
 .rename_i f args;unfold fM at e|-;split at e
  .rename_i g first cap hf
   unfold au at e|-;dsimp only at e|-;split at e
   .rename_i hn;split at e
    .rename_i as bx tk h1 h2 h3;split at e
     .rename_i r' H' hc;obtain⟨n,cE⟩:=yo.1 hc;refine⟨n,?_⟩
      (try rw[if_pos hn,h1,h2,h3])
      try dsimp only
      rw[cE]
      first |exact e |(rw[if_pos hn];exact e)
     .cases e
    .cases e
   .cases e
  .cases e
 .exact⟨0,e⟩
 .exact⟨0,e⟩
theorem AU:∀(ops:List SO) (env:Env) (H:Hp) (r:RO),jJ (call p) G ops env H=Z r->∃n,jJ (eT p n) G ops env H=Z r
 |[],env,H,r,e=>⟨0,e⟩
 |o::ops,env,H,r,e=>by
  unfold jJ at e;split at e
  .rename_i hg;split at e
   .rename_i hk;obtain⟨n,hn⟩:=AR hk;obtain⟨m,hm⟩:=AU ops _ _ _ e;refine⟨max n m,?_⟩;unfold jJ
    try rw[hg]
    try dsimp only
    rw[rK (lh p (pK n m)) hn];exact uk (lh p (mo n m)) _ _ _ _ hm
   .rename_i hk;obtain⟨n,hn⟩:=AR hk;refine⟨n,?_⟩;unfold jJ
    try rw[hg]
    try dsimp only
    rw[hn];exact e
   .cases e
  .rename_i hg;obtain⟨m,hm⟩:=AU ops _ _ _ e;refine⟨m,?_⟩;unfold jJ
   try rw[hg]
   exact hm
  .cases e
theorem Ll:∀(ops:List SO) (env:Env) (H:Hp) (r:Env×Hp×List (Nat×Nat)),gP (call p) G ops env H=Z r->∃n,gP (eT p n) G ops env H=Z r
 |[],env,H,r,e=>⟨0,e⟩
 |o::ops,env,H,r,e=>by
  unfold gP at e;split at e
  .rename_i hg;split at e
   .rename_i hk;split at e
    .rename_i hr;obtain⟨n,hn⟩:=AR hk;obtain⟨m,hm⟩:=Ll ops _ _ _ hr;refine⟨max n m,?_⟩;unfold gP
     try rw[hg]
     try dsimp only
     rw[rK (lh p (pK n m)) hn]
     try dsimp only
     rw[Gq (lh p (mo n m)) _ _ _ _ hm];exact e
    .cases e
   .cases e
  .rename_i hg;split at e
   .rename_i hr;obtain⟨m,hm⟩:=Ll ops _ _ _ hr;refine⟨m,?_⟩;unfold gP
    try rw[hg]
    try dsimp only
    rw[hm];exact e
   .cases e
  .cases e
theorem Gw{pairs:List (Nat×Nat)}{k:Nat}:∀(ops:List SO) (i:Nat) (dead:List Nat) (env:Env) (H:Hp) (r:List (Nat×Nat)),nW (call p) G pairs k i dead ops env H=Z r->∃n,nW (eT p n) G pairs k i dead ops env H=Z r
 |[],i,dead,env,H,r,e=>⟨0,e⟩
 |o::ops,i,dead,env,H,r,e=>by
  simp only[nW] at e|-;split at e
  .rename_i hb;obtain⟨x,hx,rfl⟩:=ak.1 e;obtain⟨n,hn⟩:=Gw ops _ _ _ _ _ hx;exact⟨n,by rw[if_pos hb,hn];rfl⟩
  .rename_i hb;split at e
   .rename_i hg;split at e
    .rename_i d H' hk;obtain⟨n,hn⟩:=AR hk;split at e
     .cases e
     .rename_i hw;obtain⟨x,hx,rfl⟩:=ak.1 e;obtain⟨m,hm⟩:=Gw ops _ _ _ _ _ hx;refine⟨max n m,?_⟩;rw[if_neg hb,rK (lh p (pK n m)) hn];dsimp only;rw[if_neg hw,AP (lh p (mo n m)) _ _ _ _ _ _ hm];rfl
    .cases e
   .rename_i hg;obtain⟨x,hx,rfl⟩:=ak.1 e;obtain⟨n,hn⟩:=Gw ops _ _ _ _ _ hx;exact⟨n,by rw[if_neg hb,hn];rfl⟩
   .cases e
theorem Lm{pairs:List (Nat×Nat)}:∀(ops:List SO) (i:Nat) (env:Env) (H:Hp) (r:D×Hp×List (Nat×Nat)×Nat),iX (call p) G pairs i ops env H=Z r->∃n,iX (eT p n) G pairs i ops env H=Z r
 |[],i,env,H,r,e=>⟨0,e⟩
 |o::ops,i,env,H,r,e=>by
  simp only[iX] at e|-;split at e
  .rename_i hg;split at e
   .rename_i d H' hk;obtain⟨n,hn⟩:=AR hk;obtain⟨x,hx,rfl⟩:=ak.1 e;obtain⟨m,hm⟩:=Lm ops _ _ _ _ hx;refine⟨max n m,?_⟩;rw[rK (lh p (pK n m)) hn];dsimp only;rw[Gs (lh p (mo n m)) _ _ _ _ _ hm];rfl
   .rename_i d H' hk;obtain⟨n,hn⟩:=AR hk;obtain⟨x,hx,rfl⟩:=ak.1 e;obtain⟨m,hm⟩:=Gw ops _ _ _ _ _ hx;refine⟨max n m,?_⟩;rw[rK (lh p (pK n m)) hn];dsimp only;rw[AP (lh p (mo n m)) _ _ _ _ _ _ hm];rfl
   .cases e
  .rename_i hg;obtain⟨x,hx,rfl⟩:=ak.1 e;obtain⟨n,hn⟩:=Lm ops _ _ _ _ hx;exact⟨n,by rw[hn];rfl⟩
  .cases e
abbrev iY(p:Pg)(G:Nat->Option (List PD))(n:Nat):SC->St->Option (Out×St):=aq (eT p n) G (λb s=>iter b n s)
theorem pW{n:Nat}(h:n<=m){sc:SC}{s:St}{r:Out×St}(e:iY p G n sc s=Z r):iY p G m sc s=Z r:=
 kF (lh p h) (um h) sc s r e
theorem lj:∀(sc:SC) (s:St) (r:Out×St),aq (call p) G aM sc s=Z r->∃n,iY p G n sc s=Z r
 | .skip,s,r,e=>⟨0,e⟩
 | .exit _,s,r,e=>⟨0,e⟩
 | .ret,s,r,e=>⟨0,e⟩
 | .tok ..,s,r,e=>⟨0,e⟩
 | .tokb ..,s,r,e=>⟨0,e⟩
 | .stuck,s,r,e=>⟨0,e⟩
 | .scope b,s,r,e=>lj b s r e
 | .loc b,s,r,e=>by
  unfold aq at e;obtain⟨x,hx,rfl⟩:=ak.1 e;obtain⟨n,hn⟩:=lj b s x hx;refine⟨n,?_⟩;unfold iY at hn|-;unfold aq;rw[hn];rfl
 | .mz b,s,r,e=>by
  unfold aq at e;obtain⟨x,hx,rfl⟩:=ak.1 e;obtain⟨n,hn⟩:=lj b s x hx;refine⟨n,?_⟩;unfold iY at hn|-;unfold aq;rw[hn];rfl
 | .region keep ops,s,r,e=>by
  unfold aq at e;split at e
  .rename_i he;obtain⟨n,hn⟩:=AU _ _ _ _ he;exact⟨n,by unfold iY aq;rw[hn];exact e⟩
  .rename_i he;obtain⟨n,hn⟩:=AU _ _ _ _ he;exact⟨n,by unfold iY aq;rw[hn];exact e⟩
  .cases e
 | .draw keep pairs ops,s,r,e=>by
  simp only[aq] at e;split at e
  .rename_i he;obtain⟨n,hn⟩:=Ll _ _ _ _ he;exact⟨n,by unfold iY;simp only[aq];rw[hn];exact e⟩
  .rename_i he;split at e
   .rename_i hp;obtain⟨n,hn⟩:=Lm _ _ _ _ _ hp;exact⟨n,by unfold iY;simp only[aq];rw[Gu _ _ _ _ _ hn,hn];exact e⟩
   .cases e
 | .seq a b,s,r,e=>by
  unfold aq at e;split at e
  .rename_i he;obtain⟨n,hn⟩:=lj a _ _ he;obtain⟨m,hm⟩:=lj b _ _ e;refine⟨max n m,?_⟩;unfold iY aq;have h1:=pW (pK n m) hn;unfold iY at h1;rw[h1];exact pW (mo n m) hm
  .rename_i hn;obtain⟨n,cE⟩:=lj a _ _ e;refine⟨n,?_⟩;unfold iY at cE|-;unfold aq;rw[cE];obtain⟨o,s'⟩:=r;cases o with
   |norm=>exact(hn _ e).elim
   |_=>rfl
 | .cond cc a b,s,r,e=>by
  unfold aq at e;split at e
  .rename_i t ht;cases t with
   |true=>
    obtain⟨n,hn⟩:=lj a _ _ e;exact⟨n,by unfold iY aq;(try rw[ht]);exact hn⟩
   |false=>
    obtain⟨n,hn⟩:=lj b _ _ e;exact⟨n,by unfold iY aq;(try rw[ht]);exact hn⟩
  .cases e
 | .block id b,s,r,e=>by
  unfold aq at e;split at e
  .rename_i he;obtain⟨n,hn⟩:=lj b _ _ he;refine⟨n,?_⟩;unfold iY at hn|-;unfold aq;rw[hn];exact e
  .rename_i hn;obtain⟨n,cE⟩:=lj b _ _ e;refine⟨n,?_⟩;unfold iY at cE|-;unfold aq;rw[cE];obtain⟨o,s'⟩:=r;cases o with
   |exit i=>exact(hn _ _ e).elim
   |_=>rfl
 | .mA f gen g ps fe b,s,r,e=>by
  unfold aq at e;split at e
  .rename_i xs hg;have key:∀(kb:Hp->Bool) (xs:List (List D)) (H:Hp) (r:Out×St),kE (aq (call p) G aM fe) (aq (call p) G aM b) s.env ps kb xs H=Z r->
       ∃n,kE (iY p G n fe) (iY p G n b) s.env ps kb xs H=Z r:=by
    intro kb xs
    induction xs with
    |nil=>intro H r h;exact⟨0,h⟩
    |cons x xs ih=>
     intro H r h;simp only[kE] at h;split at h
     .cases h
     rename_i hl;split at h
     .rename_i s1 h1;obtain⟨n1,g1⟩:=lj fe _ _ h1;split at h
      .rename_i s2 h2;obtain⟨n2,g2⟩:=lj b _ _ h2;split at h
       case isFalse=>cases h
       rename_i hk;obtain⟨n3,g3⟩:=ih _ _ h;refine⟨max n1 (max n2 n3),?_⟩;simp only[kE];rw[if_neg hl,pW (pK _ _) g1];dsimp only;rw[pW (fW (pK n2 n3) (mo _ _)) g2];dsimp only;rw[if_pos hk];exact Lj (λs r e=>pW (fW (mo n2 n3) (mo _ _)) e) (λs r e=>pW (fW (mo n2 n3) (mo _ _)) e) _ _ _ g3
      .rename_i o s2 hn h2;obtain⟨n2,g2⟩:=lj b _ _ h2;refine⟨max n1 n2,?_⟩;simp only[kE];rw[if_neg hl,pW (pK _ _) g1];dsimp only;rw[pW (mo _ _) g2];cases o with
       |norm=>exact(hn rfl).elim
       |_=>exact h
      .cases h
     .cases h
   obtain⟨n,hn⟩:=key _ _ _ _ e;refine⟨n,?_⟩;unfold iY at hn|-;unfold aq;rw[hg];exact hn
  .cases e
 | .loop keep b,s,r,e=>by
  unfold aq at e;obtain⟨m,hm⟩:=sU.1 e;clear e;have key:∀m s,iter (λs=>aq (call p) G aM b ⟨s.env.keep keep,s.hp⟩) m s=Z r->
      ∃n,iter (λs=>iY p G n b ⟨s.env.keep keep,s.hp⟩) n s=Z r:=by
   intro m
   induction m with
   |zero=>intro s h;cases h
   |succ m ih=>
    intro s h;simp only[iter] at h;split at h
    .rename_i s' hb;obtain⟨n1,h1⟩:=lj b _ _ hb;obtain⟨n2,h2⟩:=ih _ h;refine⟨max n1 n2+1,?_⟩;simp only[iter];rw[pW (aoo (pK n1 n2)) h1];exact um (mo n1 n2) _ _ (λs r e=>pW (aoo (mo n1 n2)) e) _ _ h2
    .rename_i hb;obtain⟨n1,h1⟩:=lj b _ _ h;refine⟨n1+1,?_⟩;simp only[iter];rw[pW (aon n1) h1];obtain⟨o,s'⟩:=r;cases o with
     |norm=>exact(hb _ h).elim
     |_=>rfl
  obtain⟨n,hn⟩:=key m s hm;exact⟨n,by unfold iY aq;exact hn⟩
theorem Gx{s:St}(e:finish G fc.res (aq (call p) G aM fc.body s)=Z r):∃n,finish G fc.res (iY p G n fc.body s)=Z r:=by
 cases he:aq (call p) G aM fc.body s with
 |none=>rw[he] at e;cases e
 |some x=>
  obtain⟨n,hn⟩:=lj _ _ _ he;exact⟨n,by rw[hn,<-he];exact e⟩
theorem Ln:∀(l:List SC) (s:St) (r:Out×St),oN (call p) G aM l s=Z r->∃n,oN (eT p n) G (λb s=>iter b n s) l s=Z r
 |[],s,r,e=>⟨0,e⟩
 |a::l,s,r,e=>by
  simp only[oN] at e|-;split at e
  .rename_i he;obtain⟨n,hn⟩:=lj a _ _ he;obtain⟨m,hm⟩:=Ln l _ _ e;refine⟨max n m,?_⟩;have h1:=pW (pK n m) hn;unfold iY at h1;rw[h1];exact AQ (lh p (mo n m)) (um (mo n m)) l _ _ hm
  .rename_i hn;obtain⟨n,cE⟩:=lj a _ _ e;refine⟨n,?_⟩;unfold iY at cE;rw[cE];obtain⟨o,s'⟩:=r;cases o with
   |norm=>exact(hn _ e).elim
   |_=>rfl
theorem aau(e:uj (call p) T G aM f a H=Z r):∃n,uj (eT p n) T G (λb s=>iter b n s) f a H=Z r:=by
 unfold uj at e|-;split at e
 .split at e
  .rename_i hl;split at e
   .rename_i hf;obtain⟨n,hn⟩:=Gx hf;refine⟨n,?_⟩;unfold iY at hn;rw[if_pos hl,hn];exact e
   .cases e
  .cases e
 .cases e
theorem aav{s:St}(e:qy (call p) T G aM res fv as rv s=Z r):∃n,qy (eT p n) T G (λb s=>iter b n s) res fv as rv s=Z r:=by
 unfold qy at e|-;split at e
 .rename_i g first cap
  split at e
  .rename_i hc;unfold au at hc;dsimp only at hc;split at hc
   .rename_i hn;split at hc
    .rename_i as' bx tk h1 h2 h3;split at hc
     .rename_i r' H' hcc;obtain⟨n,cE⟩:=aau hcc;refine⟨n,?_⟩;unfold au
      try dsimp only
      rw[if_pos hn,h1,h2,h3]
      try dsimp only
      rw[cE]
      try dsimp only
      rw[hc];exact e
     .cases hc
    .cases hc
   .cases hc
  .cases e
 .cases e
theorem aaw{s:St}(e:iE (call p) T G aM fc s=Z r):∃n,iE (eT p n) T G (λb s=>iter b n s) fc s=Z r:=by
 unfold iE at e|-;split at e
 .exact Gx e
 .rename_i x hx;split at e
  .rename_i s1 hs;obtain⟨n1,g1⟩:=Ln _ _ _ hs;split at e
   .rename_i wy H1 ho;obtain⟨n2,g2⟩:=AU _ _ _ _ ho;have key:∀(o:Out) (s2:St) (rv:D),aq (call p) G aM fc.body ⟨wy.keep x.keep,H1⟩=Z (o,s2)->qy (call p) T G aM fc.res (x.f.ev wy) (x.as.map (·.ev wy)) rv s2=Z r->
        ∃n,oN (eT p n) G (λb s=>iter b n s) x.pre s=Z (.norm,s1)/\jJ (eT p n) G x.ops s1.env s1.hp=Z (.ok wy H1)/\aq (eT p n) G (λb s=>iter b n s) fc.body ⟨wy.keep x.keep,H1⟩=Z (o,s2)/\
         qy (eT p n) T G (λb s=>iter b n s) fc.res (x.f.ev wy) (x.as.map (·.ev wy)) rv s2=Z r:=by
     intro o s2 rv hb hd;obtain⟨n3,g3⟩:=lj _ _ _ hb;obtain⟨n4,g4⟩:=aav hd
     let N:=max (max n1 n2) (max n3 n4)
     have l1:n1<=N:=by omega
     have l2:n2<=N:=by omega
     have l3:n3<=N:=by omega
     have l4:n4<=N:=by omega
     exact⟨N,AQ (lh p l1) (um l1) _ _ _ g1,uk (lh p l2) _ _ _ _ g2,pW l3 g3,Gv (lh p l4) (um l4) g4⟩
    split at e
    .rename_i s2 hb;obtain⟨n,a1,a2,a3,a4⟩:=key _ _ _ hb e;exact⟨n,by(try dsimp only);rw[a1];(try dsimp only);rw[a2];(try dsimp only);rw[a3];exact a4⟩
    .rename_i s2 hb;obtain⟨n,a1,a2,a3,a4⟩:=key _ _ _ hb e;exact⟨n,by(try dsimp only);rw[a1];(try dsimp only);rw[a2];(try dsimp only);rw[a3];exact a4⟩
    .rename_i d s2 hb;obtain⟨n,a1,a2,a3,a4⟩:=key _ _ _ hb e;exact⟨n,by(try dsimp only);rw[a1];(try dsimp only);rw[a2];(try dsimp only);rw[a3];exact a4⟩
    .cases e
   .rename_i d wy H1 ho;obtain⟨n2,g2⟩:=AU _ _ _ _ ho;refine⟨max n1 n2,?_⟩
    try dsimp only
    rw[AQ (lh p (pK n1 n2)) (um (pK n1 n2)) _ _ _ g1]
    try dsimp only
    rw[uk (lh p (mo n1 n2)) _ _ _ _ g2];exact e
   .cases e
  .rename_i hn;cases hs:oN (call p) G aM x.pre s with
   |none=>rw[hs] at e;cases e
   |some y=>
    obtain⟨n,g⟩:=Ln _ _ _ hs;refine⟨n,?_⟩
    try dsimp only
    rw[g];rw[hs] at e;obtain⟨o,s'⟩:=y;cases o with
    |norm=>exact(hn _ hs).elim
    |_=>exact e
theorem Gy(hl:p.lib f a H=Y)(hf:p.F f=Z fc)(hn:O a=fc.np)
    (hz:fc.plain=true) (e:finish p.G fc.res (aq (call p) p.G aM fc.body ⟨entry 0 a,H⟩)=Z r):call p f a H=Z r:=by
 obtain⟨n,cE⟩:=Gx e;have hz:fc.av=false/\fc.gW=Y:=by
  unfold FC.plain at hz;simpa using hz
 refine yo.2 ⟨n+1,?_⟩;unfold eT
 try dsimp only
 rw[hl,hf]
 try dsimp only
 rw[if_pos hn,hz.1];unfold iE;rw[hz.2];exact cE
theorem aax{r':bR×Hp}(hl:p.lib f a H=Y)(hf:p.F f=Z fc)(hn:O a=fc.np)
    (hz:fc.frozen=true) (e:finish p.G fc.res (aq (call p) p.G aM fc.body ⟨entry 0 a,H⟩)=Z r) (hs:ui (O H.bx) r=r'):call p f a H=Z r':=by
 obtain⟨n,cE⟩:=Gx e;have hz:fc.av=true/\fc.gW=Y:=by
  unfold FC.frozen at hz;simpa using hz
 refine yo.2 ⟨n+1,?_⟩;unfold eT
 try dsimp only
 rw[hl,hf]
 try dsimp only
 rw[if_pos hn,hz.1];simp only[mE,if_true];have :iE (eT p n) p.D p.G (λb s=>iter b n s) fc ⟨entry 0 a,H⟩=Z r:=by
  unfold iE;rw[hz.2];exact cE
 rw[this,fy,hs]
theorem Lp(hl:p.lib f a H=Z r):call p f a H=Z r:=
 yo.2 ⟨1,by unfold eT;dsimp only;rw[hl]⟩
theorem Lq(n:Nat)(h:eT p n f a H=Z r):call p f a H=Z r:=yo.2 ⟨n,h⟩
end

end Go.Vs

namespace Go.Vs
abbrev Mem:=Nat->Nat->Option Value

inductive aQ (m:Mem):Value->PD->Prop where
 |bool (b:Bool):aQ m (.bool b) (.bool b)
 |int (k:IntKind) (n:Int):aQ m (.int k n) (.int k n)
 |str (s:List UInt8):aQ m (.string ⟨s.toArray⟩) (.str s)
 |kB:aQ m (.pointer Y) .kB
 |aj:aQ m (.slice Y 0 0) .aj
 |nV:aQ m .nilFunc .nV
 |j5:aQ m .nilIface .j5
 |qw:aQ m (.map Y) .qw
 |lq (a:Option Addr) (cap sz:Nat):aQ m (.slice a 0 cap) (.slice sz [])
 |sl (b o cap sz:Nat) (es:List PD) (vs:Nat->Nat->Value) (hc:O es<=cap) (hsz:∀e∈es,O e.cells=sz)
     (dP:∀e∈es,∀c∈e.cells,c.one=true) (hm:∀i j,i<O es->j<sz->m b (o+i*sz+j)=Z (vs i j))
     (hr:∀i e j c,es[i]? =Z e->e.cells[j]? =Z c->aQ m (vs i j) c):aQ m (.slice (Z ⟨b,o,Y⟩) (O es) cap) (.slice sz es)
 |emp (a:Addr) (cap sz:Nat):aQ m (.slice (Z a) 0 cap) (.emp sz)
 |agg (cs:Array Value) (ds:List PD) (hl:cs.size=O ds) (dP:∀d∈ds,d.one=true) (hr:∀i d,ds[i]? =Z d->aQ m (cs.getD i undef) d):aQ m (.agg cs) (.agg ds)
 |iface (t:Nat) (v:Value) (x:PD) (h:aQ m v x):aQ m (.iface t v) (.iface t x)
def Mem.le(m m':Mem):Prop:=∀b o v,m b o=Z v->m' b o=Z v
variable{vs tmps:Array Value}{env:Env}{H H':Hp}{cs cs' ds:List D}{us:List Value}{m:Mem}{b T t f a i off:Nat}{x fr:Nat×Nat}{G:Nat->Option (List PD)}{r:Option (Nat×Nat)}{o:Option Obj}{v:Value}{w w' w1:World}
theorem aQ.mono{m':Mem}(h:Mem.le m m'){d:PD}(r:aQ m v d):aQ m' v d:=by
 induction r with
 |bool b=>exact .bool b
 |int k n=>exact .int k n
 |str s=>exact .str s
 |kB=>exact .kB
 |aj=>exact .aj
 |nV=>exact .nV
 |j5=>exact .j5
 |qw=>exact .qw
 |lq a cap sz=>exact .lq a cap sz
 |sl b o cap sz es vs hc hsz dP hm hr ih=>exact .sl b o cap sz es vs hc hsz dP (λi j hi hj=>h _ _ _ (hm i j hi hj)) ih
 |emp a cap sz=>exact .emp a cap sz
 |agg cs ds hl dP hr ih=>exact .agg cs ds hl dP ih
 |iface t v x _ ih=>exact .iface t v x ih
theorem aQ.one{d:PD}(r:aQ m v d)(h:d.one=true):v.oneCell'=true:=by
 cases r<;>first |rfl |cases h
theorem aQ.cells{d:PD}(r:aQ m v d):v.cells.size=O d.cells/\∀i c,d.cells[i]? =Z c->aQ m (v.cells.getD i undef) c/\c.one=true:=by
 cases r with
 |agg cs ds hl dP hr=>exact⟨hl,λi c hc=>⟨hr i c hc,dP c (bB hc)⟩⟩
 |_=>
  refine⟨rfl,λi c hc=>?_⟩
  match i with
  | 0=>
   simp only[PD.cells,ey,bM] at hc;subst hc;refine⟨?_,rfl⟩
   first
    |exact .bool _ |exact .int _ _ |exact .str _ |exact .kB |exact .aj |exact .nV |exact .j5 |exact .qw |exact .lq _ _ _ |exact .emp _ _ _
    |exact .sl _ _ _ _ _ _ ‹_› ‹_› ‹_› ‹_› ‹_›
    |exact .iface _ _ _ ‹_›
  |i+1=>simp[PD.cells] at hc
structure Row where
 e:Nat
 sz:Nat
 st:Nat->Option (Option (Nat×Nat))
structure Gh where
 base:Nat
 aY:Nat->Option (Nat×Nat)
 mem:Mem
 boxes:List Nat
 rows:List Row
def wz(r:Option (Nat×Nat))(n:Nat):Value:=
 match r with
 |none=>.slice Y 0 0
 |some (b,cap)=>.slice (Z ⟨b,0,Y⟩) n cap

inductive aB (γ:Gh):Value->D->Prop where
 |dead (v:Value):aB γ v .dead
 |undef:aB γ undef .undef
 |p (v:Value) (x:PD) (h:aQ γ.mem v x):aB γ v (.p x)
 |cC (b n e sz:Nat) (es:List PD) (hb:γ.base<=b) (ht:γ.aY b=Z (2*e,n*sz)) (hn:n=O es) (h:aQ γ.mem (.slice (Z ⟨b,0,Y⟩) n n) (.slice sz es)):aB γ (.slice (Z ⟨b,0,Y⟩) n n) (.cC e sz es)
 |aX (v:Value) (t e sz:Nat) (es:List PD) (row:Row) (r:Option (Nat×Nat)) (h1:γ.rows[t]? =Z row) (h2:row.e=e) (h3:row.sz=sz)
     (h4:aQ γ.mem v (.slice sz es)) (h5:row.st (O es)=Z r) (h6:v=wz r (O es)):aB γ v (.aX t e sz es)
 |box (i off b:Nat) (h:γ.boxes[i]? =Z b):aB γ (.pointer (Z ⟨b,off,Y⟩)) (.box i off)
 |eB (g off:Nat):aB γ (.pointer (Z ⟨g,off,Y⟩)) (.eB g off)
 |ro (b o off:Nat) (cs:List PD) (vs:Nat->Value) (hm:∀j,j<O cs->γ.mem b (o+j)=Z (vs j)) (hr:∀j c,cs[j]? =Z c->aQ γ.mem (vs j) c/\c.one=true):
     aB γ (.pointer (Z ⟨b,o+off,Y⟩)) (.ro cs off)
 |agg (cs:Array Value) (ds:List D) (hl:cs.size=O ds) (dP:∀d∈ds,d.one=true) (hr:∀i d,ds[i]? =Z d->aB γ (cs.getD i Go.undef) d):aB γ (.agg cs) (.agg ds)
 |ba (cs:Array Value) (ds:List D) (hl:cs.size=O ds) (hr:∀i d,ds[i]? =Z d->aB γ (cs.getD i Go.undef) d):aB γ (.tuple cs) (.ba ds)
 |fn (f:Nat) (as cs:Array Value) (ds es:List D) (hl:as.size=O ds) (hr:∀i d,ds[i]? =Z d->aB γ (as.getD i Go.undef) d)
     (kl:cs.size=O es) (kr:∀i d,es[i]? =Z d->aB γ (cs.getD i Go.undef) d):aB γ (.func (.func f) as cs) (.fn f ds es)
 |bH (i off n:Nat) (cap:Option Nat) (sz b c:Nat) (h:γ.boxes[i]? =Z b) (hc:n<=c) (dQ:∀k,cap=Z k->c=k):aB γ (.slice (Z ⟨b,off,Y⟩) n c) (.bH i off n cap sz)
 |fL (a:Option Addr) (sz:Nat):aB γ (.slice a 0 0) (.fL sz)
 |eC (t:Nat) (v:Value) (d:D) (h:aB γ v d):aB γ (.iface t v) (.eC t d)
 |dD (i b:Nat) (h:γ.boxes[i]? =Z b):aB γ (.map (Z b)) (.dD i)
 |cD (as cs:Array Value) (kd:Nat) (ks:List PD) (ds:List D) (s:Nat->Nat) (hl:as.size=O ks) (kl:cs.size=O ks) (dl:O ds=O ks)
     (hs:∀j,j<O ks->s j<O ks) (hj:∀j j',j<O ks->j'<O ks->s j=s j'->j=j') (hg:∀m,m<O ks->∃j,j<O ks/\s j=m)
     (hr:∀(j:Nat) x,ks[j]? =Z x->aQ γ.mem (as.getD (s j) Go.undef) x/\dS x=kd) (hd:∀(j j':Nat) x y,ks[j]? =Z x->ks[j']? =Z y->iU x y=true->j=j')
     (kr:∀(j:Nat) d,ds[j]? =Z d->aB γ (cs.getD (s j) Go.undef) d):aB γ (.func (.func 0) as cs) (.cD kd ks ds)
 |fB (a:Option Addr) (n sz:Nat) (es:List PD) (hn:n=O es) (h:aQ γ.mem (.slice a n n) (.slice sz es)):aB γ (.slice a n n) (.fB sz es)
 |ae (i e n sz b c:Nat) (h:γ.boxes[i]? =Z b) (hc:n<=c) (hm:c<=maxLen) {k:Nat} (hk:k<1) (ht:γ.aY b=Z (2*e+k,c*sz)):aB γ (.slice (Z ⟨b,0,Y⟩) n c) (.ae i e n sz)
def nY(cs:List D)(o:Option Obj):Option Obj:=
 if ay cs then(match o with
  |some (.map es _)=>Z (.cells #[.func (.func 0) (es.map (·.key)) (es.map (·.val))] 0 (0,0))
  |_=>Y) else o
theorem iu(h:ay cs=false)(o:Option Obj):nY cs o=o:=by simp[nY,h]
theorem Gz(h:ay cs'=ay cs)(o:Option Obj):nY cs' o=nY cs o:=by simp[nY,h]
theorem aay{x:Obj}(h:nY cs o=Z x):∃y,o=Z y:=by
 cases o with
 |some y=>exact⟨y,rfl⟩
 |none=>unfold nY at h;split at h<;>cases h
theorem Da(h:∀c∈cs,c.one=true):ay cs=false:=by
 unfold ay;split
 .rename_i kd ks vs;have:=h (.cD kd ks vs) (by simp);cases this
 .rfl
structure Gh.le (γ γ':Gh):Prop where
 base:γ'.base=γ.base
 aY:∀b x,γ.aY b=Z x->γ'.aY b=Z x
 mem:Mem.le γ.mem γ'.mem
 boxes:∀(i b:Nat),γ.boxes[i]? =Z b->γ'.boxes[i]? =Z b
 rows:∀(t:Nat) r,γ.rows[t]? =Z r->∃r',γ'.rows[t]? =Z r'/\r'.e=r.e/\r'.sz=r.sz/\∀n x,r.st n=Z x->r'.st n=Z x
theorem Gh.le.refl(γ:Gh):γ.le γ:=⟨rfl,λ_ _ h=>h,λ_ _ _ h=>h,λ_ _ h=>h,λ_ r h=>⟨r,h,rfl,rfl,λ_ _ h=>h⟩⟩
theorem Gh.le.trans{a b c:Gh}(h:a.le b)(k:b.le c):a.le c:=
 ⟨k.base.trans h.base,λ_ _ x=>k.aY _ _ (h.aY _ _ x),λ_ _ _ x=>k.mem _ _ _ (h.mem _ _ _ x),λ_ _ x=>k.boxes _ _ (h.boxes _ _ x),λt r x=>by
  obtain⟨r1,a1,a2,a3,a4⟩:=h.rows t r x;obtain⟨r2,b1,b2,b3,b4⟩:=k.rows t r1 a1;exact⟨r2,b1,b2.trans a2,b3.trans a3,λn x hx=>b4 n x (a4 n x hx)⟩⟩
variable{γ γ':Gh}
theorem aB.mono(h:γ.le γ'){d:D}(r:aB γ v d):aB γ' v d:=by
 induction r with
 |dead v=>exact .dead v
 |undef=>exact .undef
 |p v x hx=>exact .p v x (hx.mono h.mem)
 |cC b n e sz es hb ht hn hx=>exact .cC b n e sz es (h.base▸hb) (h.aY _ _ ht) hn (hx.mono h.mem)
 |aX v t e sz es row r h1 h2 h3 h4 h5 h6=>
  obtain⟨r',a1,a2,a3,a4⟩:=h.rows t row h1;exact .aX v t e sz es r' r a1 (a2.trans h2) (a3.trans h3) (h4.mono h.mem) (a4 _ _ h5) h6
 |box i off b hb=>exact .box i off b (h.boxes _ _ hb)
 |eB g off=>exact .eB g off
 |ro b o off cs vs hm hr=>exact .ro b o off cs vs (λj hj=>h.mem _ _ _ (hm j hj)) (λj c hc=>⟨(hr j c hc).1.mono h.mem,(hr j c hc).2⟩)
 |agg cs ds hl dP hr ih=>exact .agg cs ds hl dP ih
 |ba cs ds hl hr ih=>exact .ba cs ds hl ih
 |fn f as cs ds es hl hr kl kr ih ih'=>exact .fn f as cs ds es hl ih kl ih'
 |bH i off n cap sz b c hb hc dQ=>exact .bH i off n cap sz b c (h.boxes _ _ hb) hc dQ
 |fL a sz=>exact .fL a sz
 |eC t v d _ ih=>exact .eC t v d ih
 |dD i b hb=>exact .dD i b (h.boxes _ _ hb)
 |cD as cs kd ks ds s hl kl dl hs hj hg hr hd kr ih=>exact .cD as cs kd ks ds s hl kl dl hs hj hg (λi x hx=>⟨(hr i x hx).1.mono h.mem,(hr i x hx).2⟩) hd ih
 |fB a n sz es hn hx=>exact .fB a n sz es hn (hx.mono h.mem)
 |ae i e n sz b c hb hc hm hk ht=>exact .ae i e n sz b c (h.boxes _ _ hb) hc hm hk (h.aY _ _ ht)
def cv(γ:Gh)(vs:Array Value)(ds:List D):Prop:=vs.size=O ds/\∀i d,ds[i]? =Z d->aB γ (vs.getD i undef) d
theorem cv.mono(h:γ.le γ')(r:cv γ vs ds):cv γ' vs ds:=⟨r.1,λi d hd=>(r.2 i d hd).mono h⟩
def eI(γ:Gh)(vs:Array Value)(ds:List D):Prop:=O ds<=vs.size/\∀i d,ds[i]? =Z d->aB γ (vs.getD i undef) d
theorem cv.Db(r:cv γ vs ds):eI γ vs ds:=⟨Nat.le_of_eq r.1.symm,r.2⟩
theorem eI.mono(h:γ.le γ')(r:eI γ vs ds):eI γ' vs ds:=⟨r.1,λi d hd=>(r.2 i d hd).mono h⟩
theorem aB.RD{d:D}(r:aB γ v d)(h:d.one=true):v.oneCell'=true:=by
 cases r with
 |p v x hx=>exact hx.one h
 |aX v t e sz es row r h1 h2 h3 h4 h5 h6=>exact h4.one rfl
 |_=>first |rfl |cases h
theorem aB.cells{d:D}(r:aB γ v d)(h:d.cells.all D.one=true):cv γ v.cells d.cells/\∀c∈d.cells,c.one=true:=by
 have hall:∀c∈d.cells,c.one=true:=by simpa[gV] using h
 refine⟨?_,hall⟩;have single:∀(v:Value) (d:D),d.cells=[d]->v.cells= #[v]->aB γ v d->cv γ v.cells d.cells:=by
  intro v d hd hv r;rw[hd,hv];refine⟨rfl,λi c hc=>?_⟩
  match i with
  | 0=>simp only[ey,bM] at hc;subst hc;exact r
  |i+1=>simp at hc
 have Lr:∀v:Value,v.oneCell'=true->v.cells= #[v]:=by intro v hv;cases v<;>first |rfl |cases hv
 cases r with
 |dead v=>simp[D.cells,D.one] at h
 |undef=>simp[D.cells,D.one] at h
 |p v x hx=>
  by_cases dP:x.one=true
  .have hc:(D.p x).cells=[.p x]:=by cases x<;>first |rfl |cases dP
   exact single v _ hc (Lr v (hx.one dP)) (.p v x hx)
  .cases hx with
   |agg cs ds hl ho hr=>
    refine⟨by simp[D.cells,Value.cells,hl],λi d hd=>?_⟩;simp only[D.cells,cG,ak] at hd;obtain⟨x,hx,rfl⟩:=hd;exact .p _ _ (hr i x hx)
   |_=>simp[PD.one] at dP
 |agg cs ds hl ho hr=>exact⟨hl,hr⟩
 |ba cs ds hl hr=>simp[D.cells,D.one] at h
 |cC b n e sz es hb ht hn hx=>exact single _ _ rfl rfl (.cC b n e sz es hb ht hn hx)
 |aX v t e sz es row r h1 h2 h3 h4 h5 h6=>exact single _ _ rfl (Lr _ (h4.one rfl)) (.aX v t e sz es row r h1 h2 h3 h4 h5 h6)
 |box i off b hb=>exact single _ _ rfl rfl (.box i off b hb)
 |eB g off=>exact single _ _ rfl rfl (.eB g off)
 |ro b o off cs vs hm hr=>exact single _ _ rfl rfl (.ro b o off cs vs hm hr)
 |fn f as cs ds es hl hr kl kr=>exact single _ _ rfl rfl (.fn f as cs ds es hl hr kl kr)
 |bH i off n cap sz b c hb hc dQ=>exact single _ _ rfl rfl (.bH i off n cap sz b c hb hc dQ)
 |fL a sz=>exact single _ _ rfl rfl (.fL a sz)
 |eC t v d hd=>exact single _ _ rfl rfl (.eC t v d hd)
 |dD i b hb=>exact single _ _ rfl rfl (.dD i b hb)
 |cD=>simp[D.cells,D.one] at h
 |fB a n sz es hn hx=>exact single _ _ rfl rfl (.fB a n sz es hn hx)
 |ae i e n sz b c hb hc hm hk ht=>exact single _ _ rfl rfl (.ae i e n sz b c hb hc hm hk ht)
def cZ(γ:Gh)(H:Hp)(t b:Nat):Prop:=∃row f cap,γ.rows[t]? =Z row/\H.tk[t]? =Z f/\row.st f=Z (Z (b,cap))/\f<cap
def Lv(γ:Gh)(H:Hp)(b:Nat):Prop:=∃(i:Nat) (cs:List D),γ.boxes[i]? =Z b/\H.bx[i]? =Z cs/\cs≠[]
theorem Lv.mem(h:Lv γ H b):b∈γ.boxes:=by
 obtain⟨i,cs,h,_⟩:=h;exact bB h
def j8(γ:Gh)(H:Hp)(b:Nat):Prop:=Lv γ H b\/∃t,cZ γ H t b
def clear(fr:Nat×Nat)(m n:Nat):Prop:=∀k,m<=k->k<n->¬(fr.1<=k/\k<fr.2)
def pX(m:Nat->Option Value)(o o':Option Obj):Prop:=
 o'=o\/∃cs T fr ct,o=Z (.cells cs T fr)/\o'=Z (.cells cs T ct)/\∀k,k<cs.size->ct.1<=k/\k<ct.2->(fr.1<=k/\k<fr.2)\/m k≠Y
theorem pX.refl(m:Nat->Option Value)(o:Option Obj):pX m o o:=.inl rfl
theorem pX.trans{m m':Nat->Option Value}{o' RF:Option Obj}(h:pX m o o')(k:pX m' o' RF)(hm:∀j,m j≠Y->m' j≠Y):pX m' o RF:=by
 rcases h with rfl |⟨cs,T,fr,ct,h1,h2,h3⟩
 .exact k
 .rcases k with rfl |⟨GA,T2,Lt,aaz,k1,k2,k3⟩
  .exact .inr ⟨cs,T,fr,ct,h1,h2,λj hs hj=>(h3 j hs hj).imp id (hm j)⟩
  .rw[h2] at k1;cases k1;exact .inr ⟨cs,T,fr,aaz,h1,k2,λj hs hj=>by
    rcases k3 j hs hj with q |q
    .exact(h3 j hs q).imp id (hm j)
    .exact .inr q⟩
def qz(γ:Gh)(w:World)(row:Row)(f:Nat):Option (Nat×Nat)->Prop
 |none=>f=0
 |some (b,cap)=>(f<=cap/\γ.aY b=Z (2*row.e,cap*row.sz))/\(f<cap->∃cur fr,w.heap[b]? =Z (.cells cur row.e fr)/\clear fr (f*row.sz) cur.size/\cur.size=cap*row.sz/\cap<=maxLen/\(∀o,f*row.sz<=o->γ.mem b o=Y)/\b∉γ.boxes)
structure Inv (G:Nat->Option (List PD)) (γ:Gh) (H:Hp) (w:World):Prop where
 size:γ.base<=w.heap.size
 aY:∀b T n,γ.aY b=Z (T,n)->∃vs fr,w.heap[b]? =Z (.cells vs (T/2) fr)/\vs.size=n/\(T%2=0->fr.2<=n/\fr.1<=fr.2)
 jq:∀(t:Nat) row n b cap,γ.rows[t]? =Z row->row.st n=Z (Z (b,cap))->γ.base<=b
 mem:∀b o v,γ.mem b o=Z v->w.cell? ⟨b,o,Y⟩=Z v
 jv:∀g cs,G g=Z cs->∀j c,cs[j]? =Z c->c.one=true/\∃v,γ.mem g j=Z v/\aQ γ.mem v c
 cS:O γ.boxes=O H.bx
 nodup:∀(i j b:Nat) ci cj,γ.boxes[i]? =Z b->γ.boxes[j]? =Z b->H.bx[i]? =Z ci->H.bx[j]? =Z cj->ci≠[]->cj≠[]->i=j
 box:∀(i b:Nat) cs,γ.boxes[i]? =Z b->H.bx[i]? =Z cs->∃vs T fr,nY cs w.heap[b]? =Z (.cells vs T fr)/\eI γ vs cs/\(ay cs=false->∀c∈cs,c.one=true)/\(cs≠[]->clear fr 0 vs.size)
 gZ:∀b o,Lv γ H b->γ.mem b o=Y
 js:∀(i b:Nat),γ.boxes[i]? =Z b->H.bx[i]? =Z []->∃x,γ.aY b=Z x
 fZ:O γ.rows=O H.tk
 row:∀(t:Nat) row f,γ.rows[t]? =Z row->H.tk[t]? =Z f->∃r,row.st f=Z r/\qz γ w row f r
 jx:∀(t:Nat) row f,γ.rows[t]? =Z row->H.tk[t]? =Z f->∀n x,row.st n=Z x->n<=f
 free:∀t t' b,cZ γ H t b->cZ γ H t' b->t=t'
theorem Inv.aaA(I:Inv G γ H w){n:Nat}(h:γ.aY b=Z (2*T,n)):∃vs fr,w.heap[b]? =Z (.cells vs T fr)/\vs.size=n/\fr.2<=n/\fr.1<=fr.2:=by
 obtain⟨vs,fr,h1,h2,h3⟩:=I.aY b _ n h;rw[ZV T (by decide:0<2)] at h1;exact⟨vs,fr,h1,h2,h3 (by omega)⟩
structure Frame (γ:Gh) (H:Hp) (w:World) (γ':Gh) (H':Hp) (w':World):Prop where
 os:w'.os=w.os
 tape:w'.tape=w.tape
 output:w'.output=w.output
 size:w.heap.size<=w'.heap.size
 blk:∀b,b<w.heap.size->¬j8 γ H b->(b<γ.base->w'.heap[b]? =w.heap[b]?)/\pX (γ'.mem b) (w.heap[b]?) (w'.heap[b]?)
 mem:∀b o,b<w.heap.size->¬j8 γ H b->γ'.mem b o=γ.mem b o
 box:∀b,Lv γ' H' b->Lv γ H b\/w.heap.size<=b
 uo:∀t b,cZ γ' H' t b->cZ γ H t b\/w.heap.size<=b
 ur:∀b,b∈γ'.boxes->b∈γ.boxes\/w.heap.size<=b
theorem Frame.own(F:Frame γ H w γ' H' w')(b:Nat)(h:j8 γ' H' b):j8 γ H b\/w.heap.size<=b:=by
 rcases h with h |⟨t,h⟩
 .rcases F.box b h with q |q
  .exact .inl (.inl q)
  .exact .inr q
 .rcases F.uo t b h with q |q
  .exact .inl (.inr ⟨t,q⟩)
  .exact .inr q
theorem Frame.refl(γ:Gh)(H:Hp)(w:World):Frame γ H w γ H w:=⟨rfl,rfl,rfl,aK _,λ_ _ _=>⟨λ_=>rfl,.refl _ _⟩,λ_ _ _ _=>rfl,λ_ h=>.inl h,λ_ _ h=>.inl h,λ_ h=>.inl h⟩
theorem Frame.trans{γ1 γ2:Gh}{H1 H2:Hp}{w2:World}(L:γ1.base=γ.base)(a:Frame γ H w γ1 H1 w1)(b:Frame γ1 H1 w1 γ2 H2 w2):Frame γ H w γ2 H2 w2:=by
 have key:∀k,k<w.heap.size->¬j8 γ H k->¬j8 γ1 H1 k:=λk hk ho h1=>by
  rcases a.own k h1 with h |h
  .exact ho h
  .omega
 refine⟨b.os.trans a.os,b.tape.trans a.tape,b.output.trans a.output,fW a.size b.size,λk hk ho=>?_,λk o hk ho=>?_,λk h2=>?_,λt k h2=>?_,λk h2=>?_⟩
 .obtain⟨p1,p2⟩:=a.blk k hk ho;obtain⟨q1,q2⟩:=b.blk k (vZ hk a.size) (key k hk ho);refine⟨λhb=>(q1 (L▸hb)).trans (p1 hb),p2.trans q2 λj hj=>?_⟩;rw[b.mem k j (vZ hk a.size) (key k hk ho)];exact hj
 .exact(b.mem k o (vZ hk a.size) (key k hk ho)).trans (a.mem k o hk ho)
 .rcases b.box k h2 with h |h
  .exact a.box k h
  .exact .inr (fW a.size h)
 .rcases b.uo t k h2 with h |h
  .exact a.uo t k h
  .exact .inr (fW a.size h)
 .rcases b.ur k h2 with h |h
  .exact a.ur k h
  .exact .inr (fW a.size h)
theorem Inv.nZ(I:Inv G γ H w)(hb:b∈γ.boxes):b<w.heap.size:=by
 obtain⟨i,hi⟩:=dV hb;have hlt:i<O H.bx:=by rw[<-I.cS];exact(af.1 hi).1
 obtain⟨vs,T,fr,h,_⟩:=I.box i b _ hi (aD hlt);obtain⟨y,hy⟩:=aay h;exact(fG.1 hy).1
theorem Inv.oO(I:Inv G γ H w)(hb:cZ γ H t b):b<w.heap.size:=by
 obtain⟨row,f,cap,h1,h2,h3,h4⟩:=hb;obtain⟨r,hr,bV⟩:=I.row t row f h1 h2;rw[h3] at hr;cases hr;obtain⟨cur,fr,h,_⟩:=bV.2 h4;exact(fG.1 h).1
theorem Inv.aaB(I:Inv G γ H w)(hb:j8 γ H b):b<w.heap.size:=by
 rcases hb with h |⟨t,h⟩
 .exact I.nZ h.mem
 .exact I.oO h
theorem Inv.sV(I:Inv G γ H w){o:Nat}(h:γ.mem b o=Z v):b<w.heap.size:=
 World.block_lt_of_cell? w _ (I.mem b o v h)
def aW(γ:Gh)(env:Env)(tmps:Array Value):Prop:=∀t,aB γ (tmps.getD t undef) (env.get t)
theorem aW.mono(h:γ.le γ')(r:aW γ env tmps):aW γ' env tmps:=λt=>(r t).mono h
theorem aW.put(r:aW γ env tmps)(ht:t<tmps.size){d:D}(h:aB γ v d):
    aW γ ((t,d)::env) (tmps.setIfInBounds t v):=by
 intro s;simp only[Env.get];by_cases hs:t=s
 .subst hs;rw[if_pos rfl];simpa[bP,ht] using h
 .rw[if_neg hs];have:=r s;simpa[bP,K7,hs] using this
theorem Env.GC(ks:List Nat)(e:Env)(t:Nat):(e.keep ks).get t=if t∈ks then e.get t else .dead:=by
 induction ks with
 |nil=>rfl
 |cons k ks ih=>
  have ih':Env.get (xW (λt=>(t,e.get t)) ks) t=if t∈ks then e.get t else .dead:=ih
  show(if k=t then e.get k else Env.get (xW (λt=>(t,e.get t)) ks) t)=_;by_cases hk:k=t
  .subst hk;simp
  .rw[if_neg hk,ih'];have :(t∈k::ks)↔t∈ks:=by simp[Ne.symm hk]
   simp only[this]
theorem aW.keep(r:aW γ env tmps)(ks:List Nat):aW γ (env.keep ks) tmps:=by
 intro t;rw[Env.GC];split
 .exact r t
 .exact .dead _
theorem heap_alloc(w:World)(o:Obj)(b:Nat):(w.alloc o).heap[b]? =if b=w.heap.size then Z o else w.heap[b]?:=by
 show(w.heap.push o)[b]? =_;rw[Array.getElem?_push]
theorem wA{o:Nat}(h:w'.heap[b]? =w.heap[b]?):w'.cell? ⟨b,o,Y⟩=w.cell? ⟨b,o,Y⟩:=by
 unfold World.cell?;rw[h]
theorem cZ.congr(hr:∀(t:Nat) row,γ'.rows[t]? =Z row->γ.rows[t]? =Z row)(ht:∀(t f:Nat),H'.tk[t]? =Z f->H.tk[t]? =Z f)(h:cZ γ' H' t b):cZ γ H t b:=by
 obtain⟨row,f,cap,h1,h2,h3,h4⟩:=h;exact⟨row,f,cap,hr _ _ h1,ht _ _ h2,h3,h4⟩
theorem qz.keep{row:Row}(h:qz γ w row f r)(ht:∀b x,γ.aY b=Z x->γ'.aY b=Z x)
    (hh:∀b cap,r=Z (b,cap)->f<cap->w'.heap[b]? =w.heap[b]?) (hm:∀b cap,r=Z (b,cap)->f<cap->∀o,γ'.mem b o=γ.mem b o) (hb:∀b cap,r=Z (b,cap)->f<cap->b∉γ.boxes->b∉γ'.boxes):qz γ' w' row f r:=by
 match r,h with
 |none,h=>exact h
 |some (b,cap),⟨hle,h⟩=>
  refine⟨⟨hle.1,ht _ _ hle.2⟩,λhlt=>?_⟩;obtain⟨cur,fr,h1,h0,h2,h3,h4,h5⟩:=h hlt;exact⟨cur,fr,(hh b cap rfl hlt).trans h1,h0,h2,h3,λo ho=>(hm b cap rfl hlt o).trans (h4 o ho),hb b cap rfl hlt h5⟩
theorem qz.RG{row:Row}(h:qz γ w row f r)(ht:∀b x,γ.aY b=Z x->γ'.aY b=Z x)
    (hh:∀b cap,r=Z (b,cap)->f<cap->pX (γ'.mem b) (w.heap[b]?) (w'.heap[b]?)) (hm:∀b cap,r=Z (b,cap)->f<cap->∀o,γ'.mem b o=γ.mem b o) (hb:∀b cap,r=Z (b,cap)->f<cap->b∉γ.boxes->b∉γ'.boxes):qz γ' w' row f r:=by
 match r,h with
 |none,h=>exact h
 |some (b,cap),⟨hle,h⟩=>
  refine⟨⟨hle.1,ht _ _ hle.2⟩,λhlt=>?_⟩;obtain⟨cur,fr,h1,h0,h2,h3,h4,h5⟩:=h hlt;have Lu:∀o,f*row.sz<=o->γ'.mem b o=Y:=λo ho=>(hm b cap rfl hlt o).trans (h4 o ho);rcases hh b cap rfl hlt with e |⟨cs,T,rL,ct,e1,e2,e3⟩
  .exact⟨cur,fr,e.trans h1,h0,h2,h3,Lu,hb b cap rfl hlt h5⟩
  .rw[h1] at e1;cases e1;refine⟨cur,ct,e2,λk hk hk2 hf=>?_,h2,h3,Lu,hb b cap rfl hlt h5⟩;rcases e3 k hk2 hf with q |q
   .exact h0 k hk hk2 q
   .exact q (Lu k hk)
theorem Inv.aaC(I:Inv G γ H w)(h:γ.aY b=Z x):b<w.heap.size:=by
 obtain⟨us,fr,h2,h3⟩:=I.aY b x.1 x.2 h;exact(fG.1 h2).1
theorem sW{bs:List Nat}{hs:List (List D)}(hl:O bs=O hs){c:List D}(h1:(bs++[a])[i]? =Z b)(h2:(hs++[cs])[i]? =Z c):
    (bs[i]? =Z b/\hs[i]? =Z c)\/(i=O bs/\b=a/\c=cs):=by
 by_cases hi:i<O bs
 .rw[aT hi] at h1;rw[aT (by omega)] at h2;exact .inl ⟨h1,h2⟩
 .have :i=O bs:=by
   have:=(af.1 h1).1;simp at this;omega
  subst this;rw[cR (aK _)] at h1;rw[hl,cR (aK _)] at h2;simp at h1 h2;exact .inr ⟨rfl,h1.symm,h2.symm⟩
theorem Lv.push(hl:O γ.boxes=O H.bx)(hb:γ'.boxes=γ.boxes++[a])(hh:H'.bx=H.bx++[cs])(h:Lv γ' H' b):Lv γ H b\/(b=a/\cs≠[]):=by
 obtain⟨i,c,h1,h2,h3⟩:=h;rw[hb] at h1;rw[hh] at h2;rcases sW hl h1 h2 with⟨a1,a2⟩ |⟨_,rfl,rfl⟩
 .exact .inl ⟨i,c,a1,a2,h3⟩
 .exact .inr ⟨rfl,h3⟩
theorem Inv.GD(I:Inv G γ H w)(ha:¬Lv γ H a)(hb:γ'.boxes=γ.boxes++[a])(hh:H'.bx=H.bx++[cs]):
    ∀(i j b:Nat) ci cj,γ'.boxes[i]? =Z b->γ'.boxes[j]? =Z b->H'.bx[i]? =Z ci->H'.bx[j]? =Z cj->ci≠[]->cj≠[]->i=j:=by
 intro i j b ci cj h1 h2 h3 h4 n1 n2;rw[hb] at h1 h2;rw[hh] at h3 h4;rcases sW I.cS h1 h3 with⟨a1,a2⟩ |⟨a1,a2,a3⟩
 .rcases sW I.cS h2 h4 with⟨b1,b2⟩ |⟨b1,b2,b3⟩
  .exact I.nodup i j b ci cj a1 b1 a2 b2 n1 n2
  .subst b2;exact(ha ⟨i,ci,a1,a2,n1⟩).elim
 .rcases sW I.cS h2 h4 with⟨b1,b2⟩ |⟨b1,b2,b3⟩
  .subst a2;exact(ha ⟨j,cj,b1,b2,n2⟩).elim
  .omega
theorem Lv.set(hc:H.bx[i]? =Z cs)(hn:cs≠[])(h:Lv γ {H with bx:=H.bx.set i cs'} b):Lv γ H b:=by
 obtain⟨j,c,h1,h2,h3⟩:=h;have h2:(H.bx.set i cs')[j]? =Z c:=h2;by_cases cI:i=j
 .subst cI;exact⟨i,cs,h1,hc,hn⟩
 .rw[bp cI] at h2;exact⟨j,c,h1,h2,h3⟩
theorem Inv.GF(I:Inv G γ H w)(hc:H.bx[i]? =Z cs)(hn:cs≠[]):
    ∀(j k b:Nat) ci cj,γ.boxes[j]? =Z b->γ.boxes[k]? =Z b->(H.bx.set i cs')[j]? =Z ci->(H.bx.set i cs')[k]? =Z cj->ci≠[]->cj≠[]->j=k:=by
 intro j k b ci cj h1 h2 h3 h4 n1 n2;have q:∀m c,(H.bx.set i cs')[m]? =Z c->c≠[]->∃c0,H.bx[m]? =Z c0/\c0≠[]:=λm c h n=>by
  by_cases hm:i=m
  .subst hm;exact⟨cs,hc,hn⟩
  .rw[bp hm] at h;exact⟨c,h,n⟩
 obtain⟨c1,e1,m1⟩:=q j ci h3 n1;obtain⟨c2,e2,m2⟩:=q k cj h4 n2;exact I.nodup j k b c1 c2 h1 h2 e1 e2 m1 m2
theorem Inv.Lx(I:Inv G γ H w):¬Lv γ H w.heap.size:=λh=>by have:=I.nZ h.mem;omega
theorem Inv.aaD(I:Inv G γ H w)(T k:Nat)(hk:k<2)(rL:Nat×Nat)(Dd:k=0->rL.2<=vs.size/\rL.1<=rL.2)(dG:clear rL 0 vs.size)(LA:∀γ':Gh,γ.le γ'->γ'.boxes[O H.bx]? =Z w.heap.size->γ'.aY w.heap.size=Z (2*T+k,vs.size)->eI γ' vs cs)(h1:∀c∈cs,c.one=true):
    ∃γ',γ.le γ'/\γ'.boxes[O H.bx]? =Z w.heap.size/\γ'.aY w.heap.size=Z (2*T+k,vs.size)/\Frame γ H w γ' {H with bx:=H.bx++[cs]} (w.alloc (.cells vs T rL))/\Inv G γ' {H with bx:=H.bx++[cs]} (w.alloc (.cells vs T rL)):=by
 let γ':Gh:={γ with boxes:=γ.boxes++[w.heap.size],aY:=λc=>if c=w.heap.size then Z (2*T+k,vs.size) else γ.aY c}
 have hle:γ.le γ':=⟨rfl,λc x h=>by
  have:=I.aaC h;show(if c=w.heap.size then Z (2*T+k,vs.size) else γ.aY c)=Z x;rw[if_neg (by omega)];exact h,λ_ _ _ h=>h,λi b h=>by
  have hi:i<O γ.boxes:=(af.1 h).1;show(γ.boxes++[w.heap.size])[i]? =Z b;rw[aT hi];exact h,λt r h=>⟨r,h,rfl,rfl,λ_ _ h=>h⟩⟩
 have dM:∀t b,cZ γ' {H with bx:=H.bx++[cs]} t b->cZ γ H t b:=λt b h=>cZ.congr (λ_ _ h=>h) (λ_ _ h=>h) h;have bS:γ'.boxes[O H.bx]? =Z w.heap.size:=by
  show(γ.boxes++[w.heap.size])[O H.bx]? =_;rw[<-I.cS];simp
 have hr:eI γ' vs cs:=LA γ' hle bS (by show(if w.heap.size=w.heap.size then Z (2*T+k,vs.size) else γ.aY w.heap.size)=_;rw[if_pos rfl]);refine⟨γ',hle,bS,(by show(if w.heap.size=w.heap.size then Z (2*T+k,vs.size) else γ.aY w.heap.size)=_;rw[if_pos rfl]),?_,?_⟩
 .refine⟨rfl,rfl,rfl,by simp,λb hb _=>?_,λb o _ _=>rfl,λb hb=>?_,λt b hb=>.inl (dM t b hb),λb hb=>by
  rcases cx.1 (show b∈γ.boxes++[w.heap.size] from hb) with h |h
  .exact .inl h
  .exact .inr (by simp at h;omega)⟩
  .rw[heap_alloc,if_neg (by omega)];exact⟨λ_=>rfl,.refl _ _⟩
  .rcases Lv.push (γ':=γ') (H':={H with bx:=H.bx++[cs]}) I.cS rfl rfl hb with h |h
   .exact .inl h
   .exact .inr (by omega)
 .constructor
  .have:=I.size;show γ.base<=(w.alloc (.cells vs T rL)).heap.size;simp;omega
  .intro b T' n hb;have hb:(if b=w.heap.size then Z (2*T+k,vs.size) else γ.aY b)=Z (T',n):=hb;by_cases he:b=w.heap.size
   .rw[if_pos he] at hb;cases hb;exact⟨vs,rL,by rw[heap_alloc,if_pos he,show(2*T+k)/2=T by omega],rfl,λhm=>Dd (by omega)⟩
   .rw[if_neg he] at hb;obtain⟨us,fr,h2,h3⟩:=I.aY b T' n hb;exact⟨us,fr,by rw[heap_alloc,if_neg he];exact h2,h3⟩
  .exact I.jq
  .intro b o v h;have hlt:=I.sV h;rw[wA (w:=w) (by rw[heap_alloc,if_neg (by omega)])];exact I.mem b o v h
  .exact I.jv
  .show(γ.boxes++[w.heap.size]).length=O (H.bx++[cs]);simp[I.cS]
  .exact I.GD I.Lx rfl rfl
  .intro i b cs' hb hc;have hb:(γ.boxes++[w.heap.size])[i]? =Z b:=hb;have hc:(H.bx++[cs])[i]? =Z cs':=hc;by_cases hi:i<O γ.boxes
   .rw[aT hi] at hb;rw[aT (by rw[<-I.cS];exact hi)] at hc;obtain⟨cL,T',ct,a1,a2,a3⟩:=I.box i b cs' hb hc;have:=I.nZ (bB hb);exact⟨cL,T',ct,by rw[heap_alloc,if_neg (by omega)];exact a1,a2.mono hle,a3⟩
   .have hi':i=O γ.boxes:=by
     have:=(af.1 hb).1;simp at this;omega
    subst hi';rw[cR (aK _)] at hb;rw[I.cS,cR (aK _)] at hc;simp at hb hc;subst hb;subst hc;exact⟨vs,T,rL,by rw[heap_alloc,if_pos rfl,iu (Da h1)],hr,λ_=>h1,λ_=>dG⟩
  .intro b o hb;rcases Lv.push (γ':=γ') (H':={H with bx:=H.bx++[cs]}) I.cS rfl rfl hb with h |⟨h,_⟩
   .exact I.gZ b o h
   .subst h;show γ.mem w.heap.size o=Y;cases hm:γ.mem w.heap.size o with
    |none=>rfl
    |some v=>have:=I.sV hm;omega
  .intro i b h1 h2;have h2:(H.bx++[cs])[i]? =Z []:=h2;have h1:(γ.boxes++[w.heap.size])[i]? =Z b:=h1;rcases sW I.cS h1 h2 with⟨a1,a2⟩ |⟨_,rfl,_⟩
   .obtain⟨x,hx⟩:=I.js i b a1 a2;exact⟨x,hle.aY _ _ hx⟩
   .exact⟨(2*T+k,vs.size),by show(if w.heap.size=w.heap.size then Z (2*T+k,vs.size) else γ.aY w.heap.size)=_;rw[if_pos rfl]⟩
  .exact I.fZ
  .intro t row f h1 h2;obtain⟨r,a1,a2⟩:=I.row t row f h1 h2;refine⟨r,a1,a2.keep hle.aY (λb cap hr hlt=>?_) (λb cap hr hlt o=>rfl) (λb cap hr hlt hb hb'=>?_)⟩
   .have:=I.oO ⟨row,f,cap,h1,h2,hr▸a1,hlt⟩;rw[heap_alloc,if_neg (by omega)]
   .have hb':b∈γ.boxes++[w.heap.size]:=hb';have:=I.oO ⟨row,f,cap,h1,h2,hr▸a1,hlt⟩;rcases cx.1 hb' with h |h
    .exact hb h
    .simp at h;omega
  .exact I.jx
  .intro t t' b h h';exact I.free t t' b (dM t b h) (dM t' b h')
theorem Inv.De(I:Inv G γ H w)(T:Nat)(LA:∀γ':Gh,γ.le γ'->γ'.boxes[O H.bx]? =Z w.heap.size->γ'.aY w.heap.size=Z (2*T,vs.size)->eI γ' vs cs)(h1:∀c∈cs,c.one=true):
    ∃γ',γ.le γ'/\γ'.boxes[O H.bx]? =Z w.heap.size/\γ'.aY w.heap.size=Z (2*T,vs.size)/\Frame γ H w γ' {H with bx:=H.bx++[cs]} (w.alloc (.cells vs T))/\Inv G γ' {H with bx:=H.bx++[cs]} (w.alloc (.cells vs T)):=
 I.aaD T 0 (by decide) (0,0) (λ_=>⟨bD _,aK _⟩) (λ_ _ _ hk=>by omega) LA h1
theorem Inv.RH(I:Inv G γ H w)(T:Nat)(hr:eI γ vs cs)(h1:∀c∈cs,c.one=true):
    ∃γ',γ.le γ'/\γ'.boxes[O H.bx]? =Z w.heap.size/\Frame γ H w γ' {H with bx:=H.bx++[cs]} (w.alloc (.cells vs T))/\Inv G γ' {H with bx:=H.bx++[cs]} (w.alloc (.cells vs T)):=by
 obtain⟨γ',a1,a2,_,a3,a4⟩:=I.De T (λ_ h _ _=>hr.mono h) h1;exact⟨γ',a1,a2,a3,a4⟩
theorem Inv.RJ(I:Inv G γ H w)(o:Obj):Frame γ H w γ H (w.alloc o)/\Inv G γ H (w.alloc o):=by
 refine⟨⟨rfl,rfl,rfl,by simp,λb hb _=>?_,λb o _ _=>rfl,λb hb=>.inl hb,λt b hb=>.inl hb,λb hb=>.inl hb⟩,?_⟩
 .rw[heap_alloc,if_neg (by omega)];exact⟨λ_=>rfl,.refl _ _⟩
 .constructor
  .have:=I.size;simp;omega
  .intro b T' n hb;obtain⟨us,fr,h2,h3⟩:=I.aY b T' n hb;have:=(fG.1 h2).1;exact⟨us,fr,by rw[heap_alloc,if_neg (by omega)];exact h2,h3⟩
  .exact I.jq
  .intro b o v h;have hlt:=I.sV h;rw[wA (w:=w) (by rw[heap_alloc,if_neg (by omega)])];exact I.mem b o v h
  .exact I.jv
  .exact I.cS
  .exact I.nodup
  .intro i b cs' hb hc;obtain⟨cL,T',ct,a1,a2,a3⟩:=I.box i b cs' hb hc;have:=I.nZ (bB hb);exact⟨cL,T',ct,by rw[heap_alloc,if_neg (by omega)];exact a1,a2,a3⟩
  .exact I.gZ
  .exact I.js
  .exact I.fZ
  .intro t row f h1 h2;obtain⟨r,a1,a2⟩:=I.row t row f h1 h2;refine⟨r,a1,a2.keep (λ_ _ h=>h) (λb cap hr hlt=>?_) (λb cap hr hlt o=>rfl) (λb cap hr hlt hb=>hb)⟩;have:=I.oO ⟨row,f,cap,h1,h2,hr▸a1,hlt⟩;rw[heap_alloc,if_neg (by omega)]
  .exact I.jx
  .exact I.free
def Gh.eZ(γ:Gh)(b T:Nat)(vs:Array Value):Gh:={γ with mem:=λc o=>if c=b then vs[o]? else γ.mem c o,aY:=λc=>if c=b then Z (2*T,vs.size) else γ.aY c}
theorem Inv.LB(I:Inv G γ H w)(h:γ.aY b=Z x):b<w.heap.size:=by
 obtain⟨us,fr,h2,_⟩:=I.aY b x.1 x.2 h;exact(fG.1 h2).1
theorem Gh.aaE(I:Inv G γ H w)(hb:w.heap.size<=b)(T:Nat)(vs:Array Value):γ.le (γ.eZ b T vs):=
 ⟨rfl,λc x h=>by
  have:=I.LB h;show(if c=b then Z (2*T,vs.size) else γ.aY c)=Z x;rw[if_neg (by omega)];exact h,λc o v h=>by
  have:=I.sV h;show(if c=b then vs[o]? else γ.mem c o)=Z v;rw[if_neg (by omega)];exact h,λ_ _ h=>h,λt r h=>⟨r,h,rfl,rfl,λ_ _ h=>h⟩⟩
theorem Inv.newRow(I:Inv G γ H w)(vs:Array Value)(T:Nat)(fr:Nat×Nat)(Dd:fr.2<=vs.size/\fr.1<=fr.2):
    γ.le (γ.eZ w.heap.size T vs)/\Frame γ H w (γ.eZ w.heap.size T vs) H (w.alloc (.cells vs T fr))/\Inv G (γ.eZ w.heap.size T vs) H (w.alloc (.cells vs T fr)):=by
 have hle:=Gh.aaE I (aK _) T vs;have hne:∀b o v,γ.mem b o=Z v->b≠w.heap.size:=λb o v h=>by have:=I.sV h;omega
 have eV:∀b o,b≠w.heap.size->(γ.eZ w.heap.size T vs).mem b o=γ.mem b o:=λb o h=>by simp[Gh.eZ,h]
 refine⟨hle,⟨rfl,rfl,rfl,by simp,λb hb _=>?_,λb o hb _=>eV b o (by omega),λb hb=>.inl hb,λ_ _ hb=>.inl hb,λb hb=>.inl hb⟩,?_⟩
 .rw[heap_alloc,if_neg (by omega)];exact⟨λ_=>rfl,.refl _ _⟩
 .constructor
  .have:=I.size;show γ.base<=(w.alloc (.cells vs T fr)).heap.size;simp;omega
  .intro b T' n hb;have hb:(if b=w.heap.size then Z (2*T,vs.size) else γ.aY b)=Z (T',n):=hb;by_cases he:b=w.heap.size
   .rw[if_pos he] at hb;cases hb;exact⟨vs,fr,by rw[heap_alloc,if_pos he,ZV T (by decide:0<2)],rfl,λ_=>Dd⟩
   .rw[if_neg he] at hb;obtain⟨us,ct,h2,h3⟩:=I.aY b T' n hb;exact⟨us,ct,by rw[heap_alloc,if_neg he];exact h2,h3⟩
  .exact I.jq
  .intro b o v h;by_cases hb:b=w.heap.size
   .subst hb;have h:vs[o]? =Z v:=by simpa[Gh.eZ] using h
    have hh:(w.alloc (.cells vs T fr)).heap[w.heap.size]? =Z (.cells vs T fr):=by rw[heap_alloc,if_pos rfl]
    unfold World.cell?;simp only[hh];exact h
   .rw[eV b o hb] at h;rw[wA (w:=w) (by rw[heap_alloc,if_neg hb])];exact I.mem b o v h
  .intro g cs hg j c hc;obtain⟨h1,v,h2,h3⟩:=I.jv g cs hg j c hc;exact⟨h1,v,hle.mem _ _ _ h2,h3.mono hle.mem⟩
  .exact I.cS
  .exact I.nodup
  .intro i b cs hb hc;obtain⟨cL,T',ct,a1,a2,a3⟩:=I.box i b cs hb hc;have:=I.nZ (bB hb);exact⟨cL,T',ct,by rw[heap_alloc,if_neg (by omega)];exact a1,a2.mono hle,a3⟩
  .intro b o hb;have:=I.nZ hb.mem;rw[eV b o (by omega)];exact I.gZ b o hb
  .exact λi b h1 h2=>(I.js i b h1 h2).imp λx hx=>hle.aY _ _ hx
  .exact I.fZ
  .intro t row f h1 h2;obtain⟨r,a1,a2⟩:=I.row t row f h1 h2;refine⟨r,a1,a2.keep hle.aY (λb cap hr hlt=>?_) (λb cap hr hlt o=>?_) (λb cap hr hlt hb=>hb)⟩
   .have:=I.oO ⟨row,f,cap,h1,h2,hr▸a1,hlt⟩;rw[heap_alloc,if_neg (by omega)]
   .have:=I.oO ⟨row,f,cap,h1,h2,hr▸a1,hlt⟩;exact eV b o (by omega)
  .exact I.jx
  .exact I.free
theorem Inv.drew(I:Inv G γ H w):Inv G γ H w.drew:=⟨I.size,I.aY,I.jq,I.mem,I.jv,I.cS,I.nodup,I.box,I.gZ,I.js,I.fZ,I.row,I.jx,I.free⟩
theorem Frame.drew(γ:Gh)(H:Hp)(w:World):Frame γ H w γ H w.drew:=⟨rfl,rfl,rfl,aK _,λ_ _ _=>⟨λ_=>rfl,.refl _ _⟩,λ_ _ _ _=>rfl,λ_ h=>.inl h,λ_ _ h=>.inl h,λ_ h=>.inl h⟩
theorem RL(l:List D)(off:Nat)(cs:List D)(h:off+O cs<=O l)(j:Nat):
    (aw l off cs)[j]? =if j<off then l[j]? else if j<off+O cs then cs[j-off]? else l[j]?:=by
 unfold aw;by_cases h1:j<off
 .rw[if_pos h1,j2,aT (by simp;omega),gL,if_pos h1]
 .rw[if_neg h1,j2,cR (by simp;omega)];have hl:O (l.take off)=off:=by simp;omega
  rw[hl];by_cases h2:j<off+O cs
  .rw[if_pos h2,aT (by omega)]
  .rw[if_neg h2,cR (by omega),lN];congr 1;omega
theorem RM{l:List D}{c:D}(h:c∈aw l off cs):c∈l\/c∈cs:=by
 unfold aw at h;rcases cx.1 h with h |h
 .rcases cx.1 h with h |h
  .exact .inl (jn h)
  .exact .inr h
 .exact .inl (tT h)
theorem LC(l:List D)(off:Nat)(cs:List D)(h:off+O cs<=O l):O (aw l off cs)=O l:=by
 unfold aw;simp;omega
theorem eI.aw(r:eI γ vs cs)(q:cv γ us.toArray ds)(off:Nat)(h:off+O ds<=O cs):
    eI γ (vs.toList.take off++us++vs.toList.drop (off+O us)).toArray (Vs.aw cs off ds):=by
 have LD:O us=O ds:=by simpa using q.1
 have n9:O cs<=O vs.toList:=by simpa using r.1
 have lT:O cs<=vs.size:=r.1;refine⟨by rw[LC _ _ _ h];simp;omega,λi d hd=>?_⟩;rw[RL _ _ _ h] at hd;have hg:((vs.toList.take off++us++vs.toList.drop (off+O us)).toArray.getD i undef)=((vs.toList.take off++us++vs.toList.drop (off+O us))[i]?).getD undef:=by
  simp[bP]
 rw[hg];by_cases h1:i<off
 .rw[if_pos h1] at hd;rw[j2,aT (by simp;omega),gL,if_pos h1];have:=r.2 i d hd;simpa[bP] using this
 .rw[if_neg h1] at hd;rw[j2,cR (by simp;omega)];have hl:O (vs.toList.take off)=off:=by simp;omega
  rw[hl];by_cases h2:i<off+O ds
  .rw[if_pos h2] at hd;rw[aT (by omega)];have:=q.2 (i-off) d hd;simpa[bP] using this
  .rw[if_neg h2] at hd;rw[cR (by omega),lN];have e:off+O us+(i-off-O us)=i:=by omega
   rw[e];have:=r.2 i d hd;simpa[bP] using this
theorem Inv.store(I:Inv G γ H w)(hb:γ.boxes[i]? =Z b)(hc:H.bx[i]? =Z cs)(q:cv γ us.toArray ds)
    (h1:∀d∈ds,d.one=true) (fk:off+O ds<=O cs)    (hw:w.heap[b]? =Z (.cells vs T fr)) (gQ:clear fr 0 vs.size) (hv:eI γ vs cs) (oc:ay cs=false) (mX:cs≠[]):
    Frame γ H w γ {H with bx:=H.bx.set i (Vs.aw cs off ds)} (w.setRow b (vs.toList.take off++us++vs.toList.drop (off+O us)).toArray)/\
     Inv G γ {H with bx:=H.bx.set i (Vs.aw cs off ds)} (w.setRow b (vs.toList.take off++us++vs.toList.drop (off+O us)).toArray):=by
 have eV:b∈γ.boxes:=bB hb;have hlv:Lv γ H b:=⟨i,cs,hb,hc,mX⟩;have hi:i<O H.bx:=(af.1 hc).1;have dM:∀t c,cZ γ {H with bx:=H.bx.set i (Vs.aw cs off ds)} t c->cZ γ H t c:=λt c h=>cZ.congr (λ_ _ h=>h) (λ_ _ h=>h) h;refine⟨⟨rfl,rfl,rfl,by simp[World.setRow],λc _ ho=>by rw[setRow_other w b c _ (λe=>ho (.inl (e▸hlv)))];exact⟨λ_=>rfl,.refl _ _⟩,λ_ _ _ _=>rfl,λc hc'=>.inl (Lv.set hc mX hc'),λt c h=>.inl (dM t c h),λ_ h=>.inl h⟩,?_⟩
 .constructor
  .have:=I.size;simpa[World.setRow] using this
  .intro c T' n hc';obtain⟨yq,ct,h2,h3⟩:=I.aY c T' n hc';by_cases hcb:c=b
   .subst hcb;rw[hw] at h2;cases h2;have h5:O us=O ds:=by simpa using q.1
    have h6:=hv.1;refine⟨_,_,setRow_heap w c vs _ _ _ hw,?_,h3.2⟩;rw[<-h3.1];simp;omega
   .exact⟨yq,ct,(setRow_other w b c _ hcb).trans h2,h3⟩
  .exact I.jq
  .intro c o v h;have hne:c≠b:=λe=>by subst e;rw[I.gZ c o hlv] at h;cases h
   rw[wA (w:=w) (setRow_other w b c _ hne)];exact I.mem c o v h
  .exact I.jv
  .simp[I.cS]
  .exact I.GF hc mX
  .intro j c cs' hj hcs;by_cases cI:i=j
   .subst cI;rw[hb] at hj;cases hj;have hcs:(H.bx.set i (Vs.aw cs off ds))[i]? =Z cs':=hcs;rw[eA hi] at hcs;cases hcs;have hsz:(vs.toList.take off++us++vs.toList.drop (off+O us)).toArray.size=vs.size:=by
     have h2:O us=O ds:=by simpa using q.1
     have h3:=hv.1;simp;omega
    have hall:∀c∈Vs.aw cs off ds,c.one=true:=λc hc'=>by
     rcases RM hc' with h |h
     .obtain⟨_,_,_,_,_,a3,_⟩:=I.box i b cs hb hc;exact a3 oc c h
     .exact h1 c h
    exact⟨_,T,fr,by rw[iu (Da hall)];exact setRow_heap w b vs _ T fr hw,hv.aw q off fk,λ_=>hall,λ_=>by rw[hsz];exact gQ⟩
   .have hcs:(H.bx.set i (Vs.aw cs off ds))[j]? =Z cs':=hcs;rw[bp cI] at hcs;obtain⟨cL,T',ct,a1,a2,a3⟩:=I.box j c cs' hj hcs;by_cases he:c=b
    .subst he;have hn:cs'=[]:=pL λhn=>cI (I.nodup i j c cs cs' hb hj hc hcs mX hn);subst hn;exact⟨_,T,fr,by rw[iu rfl];exact setRow_heap w c vs _ T fr hw,⟨bD _,λi d hd=>by simp at hd⟩,λ_ c hc=>by simp at hc,λh=>(h rfl).elim⟩
    .exact⟨cL,T',ct,by rw[setRow_other w b c _ he];exact a1,a2,a3⟩
  .exact λc o h=>I.gZ c o (Lv.set hc mX h)
  .intro j c hj hcs;have hcs:(H.bx.set i (Vs.aw cs off ds))[j]? =Z []:=hcs;by_cases cI:i=j
   .subst cI;rw[eA hi] at hcs;have hcs:Vs.aw cs off ds=[]:=by simpa using hcs
    have:=LC cs off ds fk;rw[hcs] at this;exact(mX (CR.1 this.symm)).elim
   .rw[bp cI] at hcs;exact I.js j c hj hcs
  .exact I.fZ
  .intro t row f h1 h2;obtain⟨r,a1,a2⟩:=I.row t row f h1 h2;refine⟨r,a1,?_⟩;refine a2.keep (λ_ _ h=>h) (λc cap hr hlt=>?_) (λ_ _ _ _ _=>rfl) (λc cap hr hlt h=>h);have hne:c≠b:=λe=>by
    subst e;subst hr;obtain⟨cur,_,_,_,_,_,_,fl⟩:=a2.2 hlt;exact fl eV
   exact setRow_other w b c _ hne
  .exact I.jx
  .intro t t' c h h';exact I.free t t' c (dM t c h) (dM t' c h')
theorem Inv.GG(I:Inv G γ H w)(row:Row)(f:Nat)(r:Option (Nat×Nat))(h1:row.st f=Z r)(hmx:∀n x,row.st n=Z x->n<=f)
    (bV:qz γ w row f r) (hno:∀b cap,r=Z (b,cap)->f=cap) (hbase:∀n b cap,row.st n=Z (Z (b,cap))->γ.base<=b):
    γ.le {γ with rows:=γ.rows++[row]}/\Frame γ H w {γ with rows:=γ.rows++[row]} {H with tk:=H.tk++[f]} w/\Inv G {γ with rows:=γ.rows++[row]} {H with tk:=H.tk++[f]} w:=by
 have hle:γ.le {γ with rows:=γ.rows++[row]}:=⟨rfl,λ_ _ h=>h,λ_ _ _ h=>h,λ_ _ h=>h,λt r h=>⟨r,by
  have hi:=(af.1 h).1;show(γ.rows++[row])[t]? =Z r;rw[aT hi];exact h,rfl,rfl,λ_ _ h=>h⟩⟩
 have split :∀(t:Nat) row' f',(γ.rows++[row])[t]? =Z row'->(H.tk++[f])[t]? =Z f'->(γ.rows[t]? =Z row'/\H.tk[t]? =Z f')\/(row'=row/\f'=f):=by
  intro t row' f' a b;by_cases ht:t<O γ.rows
  .rw[aT ht] at a;rw[aT (by rw[<-I.fZ];exact ht)] at b;exact .inl ⟨a,b⟩
  .have :t=O γ.rows:=by
    have:=(af.1 a).1;simp at this;omega
   subst this;rw[cR (aK _)] at a;rw[I.fZ,cR (aK _)] at b;simp at a b;exact .inr ⟨a.symm,b.symm⟩
 have dM:∀t b,cZ {γ with rows:=γ.rows++[row]} {H with tk:=H.tk++[f]} t b->cZ γ H t b:=by
  rintro t b ⟨row',f',cap,a1,a2,a3,a4⟩;rcases split t row' f' a1 a2 with⟨b1,b2⟩ |⟨rfl,rfl⟩
  .exact⟨row',f',cap,b1,b2,a3,a4⟩
  .rw[h1] at a3;cases a3;have:=hno b cap rfl;omega
 refine⟨hle,⟨rfl,rfl,rfl,aK _,λ_ _ _=>⟨λ_=>rfl,.refl _ _⟩,λ_ _ _ _=>rfl,λb hb=>.inl hb,λt b h=>.inl (dM t b h),λ_ h=>.inl h⟩,?_⟩
 .constructor
  .exact I.size
  .intro b T' n hb;exact I.aY b T' n hb
  .intro t row' n b cap ht hs;have ht:(γ.rows++[row])[t]? =Z row':=ht;by_cases hlt:t<O γ.rows
   .rw[aT hlt] at ht;exact I.jq t row' n b cap ht hs
   .rw[cR (by omega)] at ht;have :row=row':=by
     have h0:t-O γ.rows=0:=by
      have:=(af.1 ht).1;simp at this;omega
     rw[h0] at ht;simpa using ht
    subst this;exact hbase n b cap hs
  .exact I.mem
  .exact I.jv
  .exact I.cS
  .exact I.nodup
  .intro i b cs hb hc;obtain⟨cL,T',ct,a1,a2,a3⟩:=I.box i b cs hb hc;exact⟨cL,T',ct,a1,a2.mono hle,a3⟩
  .exact I.gZ
  .exact I.js
  .simp[I.fZ]
  .intro t row' f' a b;rcases split t row' f' a b with⟨b1,b2⟩ |⟨rfl,rfl⟩
   .obtain⟨r',c1,c2⟩:=I.row t row' f' b1 b2;exact⟨r',c1,c2.keep hle.aY (λ_ _ _ _=>rfl) (λ_ _ _ _ _=>rfl) (λ_ _ _ _ h=>h)⟩
   .exact⟨r,h1,bV.keep hle.aY (λ_ _ _ _=>rfl) (λ_ _ _ _ _=>rfl) (λ_ _ _ _ h=>h)⟩
  .intro t row' f' a b;rcases split t row' f' a b with⟨b1,b2⟩ |⟨rfl,rfl⟩
   .exact I.jx t row' f' b1 b2
   .exact hmx
  .intro t t' b h h';exact I.free t t' b (dM t b h) (dM t' b h')
def Row.grow(row:Row)(f' b cap:Nat):Row:={row with st:=λn=>if n=f' then Z (Z (b,cap)) else row.st n}
def Gh.grow(γ:Gh)(t:Nat)(row:Row)(f' b cap:Nat)(cur:Array Value):Gh:=
 {γ with mem:=λc o=>if c=b then(if o<f'*row.sz then cur[o]? else Y) else γ.mem c o,rows:=γ.rows.set t (row.grow f' b cap),aY:=λc=>if c=b then Z (2*row.e,cap*row.sz) else γ.aY c}
theorem Inv.RN(I:Inv G γ H w){row:Row}(h1:γ.rows[t]? =Z row)(h2:H.tk[t]? =Z f){cap f':Nat}{cur:Array Value}(hf:f<f')(dQ:f'<=cap)(aaF:cap<=maxLen)
    (hsz:cur.size=cap*row.sz)  (rM:w1.heap[b]? =Z (.cells cur row.e fr)) (yr:clear fr (f'*row.sz) cur.size) (lr:∀c,c≠b->w1.heap[c]? =w.heap[c]?) (fl:b∉γ.boxes)
    (hold:∀o v,γ.mem b o=Z v->o<f'*row.sz/\cur[o]? =Z v) (dM:∀t',t'≠t->¬cZ γ H t' b) (hown:b=w.heap.size\/cZ γ H t b) (dY:∀x,γ.aY b=Z x->x=(2*row.e,cap*row.sz)) (Dd:fr.2<=cap*row.sz/\fr.1<=fr.2)
    (uu:w1.os=w.os) (aaG:w1.tape=w.tape) (hout:w1.output=w.output) (hsize:w.heap.size<=w1.heap.size):
    γ.le (γ.grow t row f' b cap cur)/\Frame γ H w (γ.grow t row f' b cap cur) {H with tk:=H.tk.set t f'} w1/\Inv G (γ.grow t row f' b cap cur) {H with tk:=H.tk.set t f'} w1:=by
 have lu:t<O γ.rows:=(af.1 h1).1;have hmx:=I.jx t row f h1 h2;have uv:∀c o,c≠b->(γ.grow t row f' b cap cur).mem c o=γ.mem c o:=λc o h=>by simp[Gh.grow,h]
 have hle:γ.le (γ.grow t row f' b cap cur):=by
  refine⟨rfl,λc x h=>?_,λc o v h=>?_,λ_ _ h=>h,λs r hr=>?_⟩
  .show(if c=b then Z (2*row.e,cap*row.sz) else γ.aY c)=Z x;by_cases hc:c=b
   .subst hc;rw[if_pos rfl,dY x h]
   .rw[if_neg hc];exact h
  .by_cases hc:c=b
   .subst hc;obtain⟨a1,a2⟩:=hold o v h;simp[Gh.grow,a1,a2]
   .rw[uv c o hc];exact h
  .by_cases hs:t=s
   .subst hs;rw[h1] at hr;cases hr;refine⟨row.grow f' b cap,by simp[Gh.grow,lu],rfl,rfl,λn x hx=>?_⟩;have:=hmx n x hx;simp only[Row.grow];rw[if_neg (by omega)];exact hx
   .exact⟨r,by simp only[Gh.grow];rw[bp hs];exact hr,rfl,rfl,λ_ _ h=>h⟩
 have split :∀(s:Nat) row' g,(γ.grow t row f' b cap cur).rows[s]? =Z row'->(H.tk.set t f')[s]? =Z g->(s=t/\row'=row.grow f' b cap/\g=f')\/(s≠t/\γ.rows[s]? =Z row'/\H.tk[s]? =Z g):=by
  intro s row' g a c;simp only[Gh.grow] at a;by_cases hs:t=s
  .subst hs;rw[eA lu] at a;rw[eA (by rw[<-I.fZ];exact lu)] at c;cases a;cases c;exact .inl ⟨rfl,rfl,rfl⟩
  .rw[bp hs] at a c;exact .inr ⟨Ne.symm hs,a,c⟩
 have gQ:∀s c,cZ (γ.grow t row f' b cap cur) {H with tk:=H.tk.set t f'} s c->(s=t/\c=b)\/(s≠t/\cZ γ H s c):=by
  rintro s c ⟨row',g,cap',a1,a2,a3,a4⟩;rcases split s row' g a1 a2 with⟨rfl,rfl,rfl⟩ |⟨b0,b1,b2⟩
  .simp only[Row.grow,if_pos] at a3;cases a3;exact .inl ⟨rfl,rfl⟩
  .exact .inr ⟨b0,row',g,cap',b1,b2,a3,a4⟩
 refine⟨hle,⟨uu,aaG,hout,hsize,λc hc ho=>?_,λc o hc ho=>?_,λc hc=>.inl hc,λs c h=>?_,λ_ h=>.inl h⟩,?_⟩
 .have :w1.heap[c]? =w.heap[c]?:=by
   refine lr c λe=>?_;subst e;rcases hown with h |h
   .omega
   .exact ho (.inr ⟨t,h⟩)
  rw[this];exact⟨λ_=>rfl,.refl _ _⟩
 .refine uv c o λe=>?_;subst e;rcases hown with h |h
  .omega
  .exact ho (.inr ⟨t,h⟩)
 .rcases gQ s c h with⟨rfl,rfl⟩ |⟨_,h⟩
  .rcases hown with h |h
   .exact .inr (by omega)
   .exact .inl h
  .exact .inl h
 .constructor
  .exact fW I.size hsize
  .intro c T' n hc;have hc:(if c=b then Z (2*row.e,cap*row.sz) else γ.aY c)=Z (T',n):=hc;by_cases he:c=b
   .rw[if_pos he] at hc;cases hc;subst he;exact⟨cur,fr,by rw[ZV row.e (by decide:0<2)];exact rM,hsz,λ_=>Dd⟩
   .rw[if_neg he] at hc;obtain⟨us,ct,h2,h3⟩:=I.aY c T' n hc;exact⟨us,ct,(lr c he).trans h2,h3⟩
  .intro s row' n c cap' ht hs;simp only[Gh.grow] at ht;by_cases hst:t=s
   .subst hst;rw[eA lu] at ht;cases ht;simp only[Row.grow] at hs;split at hs
    .cases hs;rcases hown with h |⟨aaH,f2,RP,q1,q2,q3,_⟩
     .have:=I.size;show γ.base<=_;omega
     .exact I.jq t aaH _ _ _ q1 q3
    .exact I.jq t row n c cap' h1 hs
   .rw[bp hst] at ht;exact I.jq s row' n c cap' ht hs
  .intro c o v h;by_cases hc:c=b
   .subst hc;have h:(if o<f'*row.sz then cur[o]? else Y)=Z v:=by simpa[Gh.grow] using h
    split at h
    .unfold World.cell?;simp only[rM];exact h
    .cases h
   .rw[uv c o hc] at h;rw[wA (w:=w) (lr c hc)];exact I.mem c o v h
  .intro g cs hg j c hc;obtain⟨a1,v,a2,a3⟩:=I.jv g cs hg j c hc;exact⟨a1,v,hle.mem _ _ _ a2,a3.mono hle.mem⟩
  .exact I.cS
  .exact I.nodup
  .intro i c cs hb hc;obtain⟨cL,T',ct,a1,a2,a3⟩:=I.box i c cs hb hc;have hne:c≠b:=λe=>fl (e▸bB hb);exact⟨cL,T',ct,by rw[lr c hne];exact a1,a2.mono hle,a3⟩
  .intro c o hc;have hne:c≠b:=λe=>fl (e▸hc.mem);rw[uv c o hne];exact I.gZ c o hc
  .exact λi b h1 h2=>(I.js i b h1 h2).imp λx hx=>hle.aY _ _ hx
  .simp[Gh.grow,I.fZ]
  .intro s row' g a c;rcases split s row' g a c with⟨rfl,rfl,rfl⟩ |⟨b0,b1,b2⟩
   .refine⟨Z (b,cap),by simp[Row.grow],⟨dQ,by simp[Gh.grow,Row.grow]⟩,λ_=>⟨cur,fr,rM,yr,hsz,aaF,λo ho=>?_,fl⟩⟩;have ho:g*row.sz<=o:=ho;simp only[Gh.grow,if_true];rw[if_neg (by omega)]
   .obtain⟨r,c1,c2⟩:=I.row s row' g b1 b2;refine⟨r,c1,c2.keep hle.aY (λd cap' hr hlt=>?_) (λd cap' hr hlt o=>?_) (λ_ _ _ _ h=>h)⟩
    .refine lr d λe=>?_;subst e;exact dM s b0 ⟨row',g,cap',b1,b2,hr▸c1,hlt⟩
    .refine uv d o λe=>?_;subst e;exact dM s b0 ⟨row',g,cap',b1,b2,hr▸c1,hlt⟩
  .intro s row' g a c n x hx;rcases split s row' g a c with⟨rfl,rfl,rfl⟩ |⟨b0,b1,b2⟩
   .simp only[Row.grow] at hx;split at hx
    .omega
    .have:=hmx n x hx;omega
   .exact I.jx s row' g b1 b2 n x hx
  .intro s s' c h h';rcases gQ s c h with⟨e1,e2⟩ |⟨hn,q⟩
   .rcases gQ s' c h' with⟨e3,_⟩ |⟨cE,q'⟩
    .rw[e1,e3]
    .exact(dM s' cE (e2▸q')).elim
   .rcases gQ s' c h' with⟨_,e2⟩ |⟨cE,q'⟩
    .exact(dM s hn (e2▸q)).elim
    .exact I.free s s' c q q'

end Go.Vs

namespace Go.Vs
def GH:Value->Option PD
 | .bool b=>Z (.bool b)
 | .int k n=>Z (.int k n)
 | .string s=>Z (.str s.data.toList)
 | .pointer Y=>Z .kB
 | .slice Y 0 0=>Z .aj
 | .nilFunc=>Z .nV
 | .nilIface=>Z .j5
 | .map Y=>Z .qw
 |_=>Y
def AV:Value->Option PD
 | .agg cs=>(aH GH cs.toList).map .agg
 |v=>GH v
def aL:Operand->Option aA
 | .tmp t=>Z (.t t)
 | .const v=>(AV v).map λx=>.c (.p x)
 | .global g=>Z (.c (.eB g 0))
 | .func f=>Z (.c (.fn f [] []))
def fN(P:Program)(t:TypeId):Option Nat:=(P.info? t).map (·.size)
def lU(P:Program)(t:TypeId):Option (Option Nat):=
 match P.underlying t,fN P t with
 |some (.struct _),Z n=>Z (Z n)
 |some (.array _ _),Z n=>Z (Z n)
 |some _,Z _=>Z Y
 |_,_=>Y
def zeroOf(P:Program)(t:TypeId):Option PD:=
 match P.info? t with
 |some i=>match i.zero with
  |some z=>AV z
  |none=>Y
 |none=>Y
def Df(P:Program)(t:TypeId):Option Nat:=
 match P.underlying t with
 |some .bool=>Z 0
 |some (.int _)=>Z 1
 |some .string=>Z 2
 |_=>Y
def GI:TypeDesc->Option Nat
 | .bool=>Z 0
 | .int k=>Z (oK k)
 | .string=>Z 2
 |_=>Y
def kindOf(P:Program)(t:TypeId):Option Nat:=
 match P.underlying t with
 |some (.array 3 e)=>match P.underlying e,fN P e with
  |some (.int k),Z 1=>Z (100+oK k)
  |_,_=>Y
 |some d=>GI d
 |none=>Y
def AW(P:Program)(i:Nat):List Field->Option (List Nat)
 |[]=>Z []
 |f::r=>match Df P f.type with
  |some t=>if f.offset=i/\(f.name== "_")=false then(AW P (i+1) r).map (t:: ·) else Y
  |none=>Y
def partsOf(P:Program)(place:Nat->Option (Nat×Nat)):List (Nat×Operand)->Option (List (Nat×Nat×aA))
 |[]=>Z []
 |(i,x)::r=>match place i,aL x with
  |some (o,n),Z y=>(partsOf P place r).map ((o,n,y):: ·)
  |_,_=>Y
def AX:List (Nat×Operand)->Option (List (Nat×aA))
 |[]=>Z []
 |(i,x)::r=>match aL x with
  |some y=>(AX r).map ((i,y):: ·)
  |none=>Y
def pY:Option Operand->Option (Option aA)
 |none=>Z Y
 |some x=>(aL x).map Z
def GJ(P:Program)(fields:List Field):Option (List (Nat×Nat)):=aH (λf=>(fN P f.type).map λn=>(f.offset,n)) fields
def LF(du:TypeDesc)(e:TypeId)(i:TypeInfo)(z:Value):Bool:=
 (match du with | .slice e'=>e'==e | .string=>i.size==1 |_=>false)&&z.cells.size==i.size&&decide (0<i.size)
def Dg(P:Program)(c:Call):Option SK:=
 match c.callee with
 | .value f=>match aL f,aH aL c.args.toList with
  |some g,Z as=>Z (.call g as)
  |_,_=>Y
 | .invoke _ _=>Y
 | .builtin b=>match b,c.args.toList,c.argTypes.toList with
  | .len,[x],[t]=>match P.underlying t,aL x with
   |some .string,Z y=>Z (.len 0 y)
   |some (.slice _),Z y=>Z (.len 1 y)
   |_,_=>Y
  | .append,[s,x],[t,u]=>match P.underlying t,P.underlying u,aL s,aL x with
   |some (.slice e),Z du,Z s',Z x'=>match P.info? e with
    |some i=>match i.zero with
     |some z=>if LF du e i z then Z (.append e i.size i.bytes s' x') else Y
     |none=>Y
    |none=>Y
   |_,_,_,_=>Y
  | .max,[x,y],_=>match aL x,aL y with
   |some a,Z b=>Z (.minmax true a b)
   |_,_=>Y
  | .min,[x,y],_=>match aL x,aL y with
   |some a,Z b=>Z (.minmax false a b)
   |_,_=>Y
  |_,_,_=>Y
def isC:Operand->Bool
 | .const _=>true
 |_=>false
def gR(P:Program):Op->Option SK
 | .move x=>(aL x).map .move
 | .assign x=>(aL x).map .move
 | .pick c a b=>match aL c,aL a,aL b with
  |some c,Z a,Z b=>Z (.pick c a b)
  |_,_,_=>Y
 | .alloc e=>(zeroOf P e).map λz=>.alloc z.cells
 | .box _ x=>(aL x).map .box
 | .build t parts=>match P.underlying t,zeroOf P t with
  |some (.struct fs),Z (.agg zs)=>match GJ P fs.toList with
   |some pl=>(partsOf P (pl[·]?) parts.toList).map (.build zs)
   |none=>Y
  |some (.array _ e),Z (.agg zs)=>match fN P e with
   |some n=>(partsOf P (λi=>Z (i*n,n)) parts.toList).map (.build zs)
   |none=>Y
  |_,_=>Y
 | .buildSlice t len parts=>match P.underlying t with
  |some (.slice e)=>match fN P e,zeroOf P e,AX parts.toList with
   |some n,Z z,Z ps=>if len*n<=16777216/\0<n then Z (.bslice e n len z ps) else Y
   |_,_,_=>Y
  |_=>Y
 | .load t x=>match lU P t,aL x with
  |some n,Z y=>Z (.load n y)
  |_,_=>Y
 | .store t a v=>match fN P t,aL a,aL v with
  |some n,Z a,Z v=>Z (.store n a v)
  |_,_,_=>Y
 | .nilCheck x=>(aL x).map .nilCheck
 | .binOp op t x y _=>match aL x,aL y,P.underlying t with
  |some a,Z b,Z (.int _)=>Z (.bin op a b)
  |some a,Z b,Z .string=>Z (.bin op a b)
  |some a,Z b,Z .bool=>if op= .eql\/op= .neq then Z (.eqk 0 (op== .neq) a b) else Y
  |some a,Z b,Z (.pointer _)=>if op= .eql\/op= .neq then Z (.eqk 1 (op== .neq) a b) else Y
  |some a,Z b,Z (.slice _)=>if op= .eql\/op= .neq then Z (.eqk 2 (op== .neq) a b) else Y
  |some a,Z b,Z (.func _ _ _)=>if op= .eql\/op= .neq then Z (.eqk 3 (op== .neq) a b) else Y
  |some a,Z b,Z (.interface _)=>if(op= .eql\/op= .neq)/\isC y=true then Z (.eqk 4 (op== .neq) a b) else Y
  |some a,Z b,Z (.struct fs)=>
   if(op= .eql\/op= .neq)/\P.stoodInHeld t=false/\P.eqGuardType P.depth t=false then(AW P 0 fs.toList).map λts=>.eqs (op== .neq) ts a b else Y
  |_,_,_=>Y
 | .unOp op _ x=>(aL x).map (.un op)
 | .convert s d x=>match P.underlying s,P.underlying d,aL x with
  |some (.int _),Z (.int k),Z y=>Z (.conv k y)
  |_,_,_=>Y
 | .makeFunc (.func f) first cap=>match aH aL first.toList,aH aL cap.toList with
  |some a,Z c=>Z (.mkfn f a c)
  |_,_=>Y
 | .slice t x lo hi Y=>match P.underlying t,aL x,pY lo,pY hi with
  |some .string,Z y,Z l,Z h=>Z (.slice 0 y l h)
  |some (.slice e),Z y,Z l,Z h=>match fN P e with
   |some (n+1)=>Z (.slice (n+1) y l h)
   |_=>Y
  |_,_,_,_=>Y
 | .slice t x lo (Z hi) (Z mx)=>match P.underlying t,aL x,pY lo,aL hi,aL mx with
  |some (.slice e),Z y,Z l,Z h,Z m=>match fN P e with
   |some (n+1)=>Z (.slice3 (n+1) y l h m)
   |_=>Y
  |_,_,_,_,_=>Y
 | .makeSlice t l c=>match P.underlying t,aL l,aL c with
  |some (.slice e),Z l',Z c'=>match P.info? e,zeroOf P e with
   |some i,Z z=>Z (.makesl i.size z i.bytes l' c')
   |_,_=>Y
  |_,_,_=>Y
 | .fieldAddr t x f=>match P.underlying t,aL x with
  |some (.struct fs),Z y=>match fs[f]? with
   |some fd=>match fN P fd.type with
    |some (_+1)=>Z (.faddr y fd.offset)
    |_=>Y
   |none=>Y
  |_,_=>Y
 | .field t x f=>match P.underlying t,aL x with
  |some (.struct fs),Z y=>match fs[f]? with
   |some fd=>(lU P fd.type).map λn=>.field y fd.offset n
   |none=>Y
  |_,_=>Y
 | .indexAddr t x i=>match P.underlying t,aL x,aL i with
  |some (.array n e),Z y,Z j=>(fN P e).map λs=>.iaddr (Z n) s y j
  |some (.slice e),Z y,Z j=>(fN P e).map λs=>.iaddr Y s y j
  |_,_,_=>Y
 | .index t x i=>match P.underlying t,aL x,aL i with
  |some (.array n e),Z y,Z j=>match fN P e,lU P e with
   |some s,Z c=>Z (.index (Z (n,s,c.isSome)) y j)
   |_,_=>Y
  |some .string,Z y,Z j=>Z (.index Y y j)
  |_,_,_=>Y
 | .extract x i=>(aL x).map λy=>.extract y i
 | .makeInterface t x=>match P.underlying t,aL x with
  |some (.interface _),_=>Y
  |some _,Z y=>Z (.iface t y)
  |_,_=>Y
 | .call c=>Dg P c
 | .makeMap t Y=>match P.underlying t with
  |some (.map kt _)=>(kindOf P kt).map .wo
  |_=>Y
 | .mapUpdate t m k v=>match P.underlying t,aL m,aL k,aL v with
  |some (.map kt _),Z m',Z k',Z v'=>(kindOf P kt).map λg=>.mapset g m' k' v'
  |_,_,_,_=>Y
 | .insert t m k v=>match P.underlying t,aL m,aL k,aL v with
  |some (.map kt _),Z m',Z k',Z v'=>(kindOf P kt).map λg=>.mapins g m' k' v'
  |_,_,_,_=>Y
 | .typeAssert x _ t ok=>match P.underlying t,zeroOf P t,aL x with
  |some (.interface _),_,_=>Y
  |some _,Z z,Z y=>Z (.tassert t z ok y)
  |_,_,_=>Y
 | .lookup t m k ok=>match P.underlying t,aL m,aL k with
  |some (.map kt et),Z m',Z k'=>match kindOf P kt,zeroOf P et with
   |some g,Z z=>Z (.mapget g z ok m' k')
   |_,_=>Y
  |_,_,_=>Y
 |_=>Y
def SK.lz:SK->Bool
 | .call _ _ | .panic _=>true
 |_=>false
def AY:Op->Option (Option SK)
 | .call {callee:=.value f,args:=as,argTypes:=_}=>match aL f,aH aL as.toList with
  |some g,Z xs=>Z (Z (.call g xs))
  |_,_=>Z Y
 | .panic x=>Z ((aL x).map .panic)
 |_=>Y
def qA(P:Program)(op:Op):SK:=
 match AY op with
 |some r=>r.getD .stuck
 |none=>match gR P op with
  |some k=>if k.lz then .stuck else k
  |none=>.stuck
def GK(P:Program)(op:Op)(h:Option SK):SK:=
 match h with
 |some (.appendg _ _ _ _ _)=>match op,qA P op with
  | .call {callee:=.builtin .append,args:=_,argTypes:=_},.append e sz b s x=>.appendg e sz b s x
  |_,k=>k
 |some (.bsliceG _ _ _ _ _)=>match op with
  | .buildSlice t len parts=>match P.underlying t with
   |some (.slice e)=>match fN P e,zeroOf P e,partsOf P (λi=>Z (i*(fN P e).getD 0,(fN P e).getD 0)) parts.toList with
    |some n,Z z,Z ps=>if len*n<=16777216/\0<n then .bsliceG e n len z ps else qA P op
    |_,_,_=>qA P op
   |_=>qA P op
  |_=>qA P op
 |_=>qA P op
def pZ(P:Program)(o:Oper)(h:Option SK):SK:=GK P o.op h
variable{fs:Array Field}{vs:Array Value}{fd:Field}{γ:Gh}{H':Hp}{ds:List D}{es:List PD}{m:Mem}{f off sz:Nat}{y j:aA}{x i:Operand}{α:Type}{t:TypeId}{v:Value}
variable{P : Program} {G : Nat -> Option (List PD)}  {H : Hp} {w : World} {env : Env} {a : Act} {o : Oper}
theorem og{α β:Type}{f:α->Option β}:∀{l:List α} {l':List β},aH f l=Z l'->O l'=O l/\∀(i:Nat) x,l[i]? =Z x->∃y,f x=Z y/\l'[i]? =Z y
 |[],l',h=>by cases h;exact⟨rfl,λi x h=>by simp at h⟩
 |x::r,l',h=>by
  unfold aH at h;split at h
  .rename_i b hb;obtain⟨r',hr,rfl⟩:=ak.1 h;obtain⟨h1,h2⟩:=og hr;refine⟨by simp[h1],λi y hy=>?_⟩
   match i with
   | 0=>simp only[ey,bM] at hy;subst hy;exact⟨b,hb,rfl⟩
   |i+1=>exact h2 i y (by simpa using hy)
  .cases h
theorem oP{β:Type}{f:α->Option β}{l:List α}{l':List β}(h:aH f l=Z l'){i:Nat}{y:β}(hy:l'[i]? =Z y):∃x,l[i]? =Z x/\f x=Z y:=by
 obtain⟨h1,h2⟩:=og h;have hi:i<O l:=by rw[<-h1];exact(af.1 hy).1
 obtain⟨y',a1,a2⟩:=h2 i _ (aD hi);rw[hy] at a2;cases a2;exact⟨_,aD hi,a1⟩
theorem LG(m:Mem){d:PD}(h:GH v=Z d):aQ m v d/\d.one=true:=by
 unfold GH at h;split at h
 .cases h;exact⟨.bool _,rfl⟩
 .cases h;exact⟨.int _ _,rfl⟩
 .rename_i s;cases h;have :s=⟨s.data.toList.toArray⟩:=by cases s;simp
  exact⟨by have h:=aQ.str (m:=m) s.data.toList;rwa [<-this] at h,rfl⟩
 .cases h;exact⟨.kB,rfl⟩
 .cases h;exact⟨.aj,rfl⟩
 .cases h;exact⟨.nV,rfl⟩
 .cases h;exact⟨.j5,rfl⟩
 .cases h;exact⟨.qw,rfl⟩
 .cases h
theorem uw(m:Mem){d:PD}(h:AV v=Z d):aQ m v d:=by
 unfold AV at h;split at h
 .rename_i cs;obtain⟨ds,hd,rfl⟩:=ak.1 h;obtain⟨h1,_⟩:=og hd;refine .agg cs ds (by simpa using h1.symm) (λd bO=>?_) (λi d hi=>?_)
  .obtain⟨i,hi⟩:=dV bO;obtain⟨x,_,a2⟩:=oP hd hi;exact(LG m a2).2
  .obtain⟨x,a1,a2⟩:=oP hd hi;have :cs.getD i undef=x:=by
    have a1:cs[i]? =Z x:=by simpa using a1
    simp[bP,a1]
   rw[this];exact(LG m a2).1
 .exact(LG m h).1
theorem cg(E:aW γ env a.tmps)(h:aL x=Z y):aB γ (a.eval x) (y.ev env):=by
 cases x with
 |tmp t=>cases h;exact E t
 |const v=>
  obtain⟨d,hd,rfl⟩:=ak.1 h;exact .p _ _ (uw _ hd)
 |global g=>cases h;exact .eB g 0
 |func f=>cases h;exact .fn f #[] #[] [] [] rfl (λi d h=>by simp at h) rfl (λi d h=>by simp at h)
theorem GL(E:aW γ env a.tmps){xs:Array Operand}{ys:List aA}(h:aH aL xs.toList=Z ys):cv γ (xs.map a.eval) (ys.map (·.ev env)):=by
 obtain⟨h1,_⟩:=og h;refine⟨by simpa using h1.symm,λi d hd=>?_⟩;simp only[cG,ak] at hd;obtain⟨y,hy,rfl⟩:=hd;obtain⟨x,a1,a2⟩:=oP h hy;have a1:xs[i]? =Z x:=by simpa using a1
 have :(xs.map a.eval).getD i undef=a.eval x:=by simp[bP,a1]
 rw[this];exact cg E a2
theorem aB.cu{x:PD}(h:aB γ v (.p x)):aQ γ.mem v x:=by cases h with |p v x h=>exact h
theorem aQ.sX{b:Bool}(h:aQ m v (.bool b)):v= .bool b:=by cases h;rfl
theorem aQ.jK{k:IntKind}{n:Int}(h:aQ m v (.int k n)):v= .int k n:=by cases h;rfl
theorem aQ.wB{s:List UInt8}(h:aQ m v (.str s)):v= .string ⟨s.toArray⟩:=by cases h;rfl
theorem aQ.sY(h:aQ m v .aj):v= .slice Y 0 0:=by cases h;rfl
theorem aQ.LH(h:aQ m v .kB):v= .pointer Y:=by cases h;rfl
theorem aQ.LI(h:aQ m v .nV):v= .nilFunc:=by cases h;rfl
theorem aQ.LJ{ds:List PD}(h:aQ m v (.agg ds)):∃cs:Array Value,v= .agg cs/\cs.size=O ds/\(∀d∈ds,d.one=true)/\∀i d,ds[i]? =Z d->aQ m (cs.getD i undef) d:=by
 cases h with
 |agg cs ds hl dP hr=>exact⟨cs,rfl,hl,dP,hr⟩
theorem aB.aaJ(h:aB γ v (.ba ds)):∃cs:Array Value,v= .tuple cs/\cv γ cs ds:=by
 cases h with
 |ba cs ds hl hr=>exact⟨cs,rfl,hl,hr⟩
theorem aB.GM{es:List D}(h:aB γ v (.fn f ds es)):∃as cs:Array Value,v= .func (.func f) as cs/\cv γ as ds/\cv γ cs es:=by
 cases h with
 |fn f as cs ds es hl hr kl kr=>exact⟨as,cs,rfl,⟨hl,hr⟩,⟨kl,kr⟩⟩
def Done(P:Program)(G:Nat->Option (List PD))(γ:Gh)(H:Hp)(w:World)(a:Act)(o:Oper)(d:D)(H':Hp):Prop:=
 ∃v w' γ',((execOp a.eval o).run P w= .ok (.value v) w'\/((execOp a.eval o).run P w= .ok .skip w'/\v=undef))/\γ.le γ'/\Frame γ H w γ' H' w'/\Inv G γ' H' w'/\aB γ' v d
theorem Done.same(I:Inv G γ H w){d:D}(hr:(execOp a.eval o).run P w= .ok (.value v) w)(h:aB γ v d):Done P G γ H w a o d H:=
 ⟨v,w,γ,.inl hr,.refl γ,.refl γ H w,I,h⟩
theorem aaK{n:Nat}(h:fN P t=Z n):∃i,P.info? t=Z i/\i.size=n:=ak.1 h
theorem lW{n:Nat}(h:fN P t=Z n)(w:World):(sizeOf t).run P w= .ok n w:=by
 obtain⟨i,h1,h2⟩:=aaK h;simp[sizeOf,typeInfo,h1,h2]
theorem yu{z:PD}(h:zeroOf P t=Z z)(w:World):∃v,(zeroValue t).run P w= .ok v w/\AV v=Z z:=by
 unfold zeroOf at h;split at h
 .rename_i i hi;split at h
  .rename_i v hv;exact⟨v,by simp[zeroValue,typeInfo,hi,hv],h⟩
  .cases h
 .cases h
theorem RQ{n:Nat}(h:lU P t=Z (Z n))(w:World):(isAgg t).run P w= .ok true w/\(sizeOf t).run P w= .ok n w:=by
 unfold lU at h;split at h
 .rename_i hu hs;cases h;exact⟨by simp[isAgg,run_underlying hu],lW hs w⟩
 .rename_i hu hs;cases h;exact⟨by simp[isAgg,run_underlying hu],lW hs w⟩
 .cases h
 .cases h
theorem RR(h:lU P t=Z Y)(w:World):(isAgg t).run P w= .ok false w:=by
 unfold lU at h;cases hu:P.underlying t with
 |none=>simp[hu] at h
 |some d=>
  cases hs:fN P t with
  |none=>cases d<;>simp[hu,hs] at h
  |some n=>cases d<;>first |(simp[hu,hs] at h;done) |simp[isAgg,run_underlying hu]
theorem RS(I:Inv G γ H w)(E:aW γ env a.tmps)(ho:o.op= .move x\/o.op= .assign x)(hx:aL x=Z y):Done P G γ H w a o (y.ev env) H:=by
 refine .same I (v:=a.eval x) ?_ (cg E hx);rcases ho with ho |ho<;>simp[execOp,ho]
theorem aaL(I:Inv G γ H w)(E:aW γ env a.tmps){c y:Operand}{c' x' y':aA}(ho:o.op= .pick c x y)(hc:aL c=Z c')(hx:aL x=Z x')(hy:aL y=Z y')
    {t:Bool} (ht:c'.ev env= .p (.bool t)):Done P G γ H w a o (if t then x'.ev env else y'.ev env) H:=by
 have hcv:=cg E hc;rw[ht] at hcv;have hb:a.eval c= .bool t:=hcv.cu.sX;cases t with
 |true=>exact .same I (v:=a.eval x) (by simp[execOp,ho,hb,asBool]) (cg E hx)
 |false=>exact .same I (v:=a.eval y) (by simp[execOp,ho,hb,asBool]) (cg E hy)
theorem aB.addr{d:D}(h:aB γ v d)(hd:(match d with | .box _ _ | .eB _ _ | .ro _ _=>true |_=>false)=true):∃b off,v= .pointer (Z ⟨b,off,Y⟩):=by
 cases h<;>first |(simp at hd;done) |exact⟨_,_,rfl⟩
theorem aaM(I:Inv G γ H w)(E:aW γ env a.tmps)(ho:o.op= .nilCheck x)(hx:aL x=Z y){d:D}
    (he:aP G env H (.nilCheck y)=Z (d,H')):Done P G γ H w a o d H':=by
 have hr:=cg E hx;simp only[aP] at he;split at he<;>cases he<;>rename_i hd<;>rw[hd] at hr
 .refine .same I (v:=a.eval x) ?_ hr;obtain⟨b,off,hv⟩:=hr.addr rfl;simp[execOp,ho,hv]
 .refine .same I (v:=a.eval x) ?_ hr;obtain⟨b,off,hv⟩:=hr.addr rfl;simp[execOp,ho,hv]
 .refine .same I (v:=a.eval x) ?_ hr;obtain⟨b,off,hv⟩:=hr.addr rfl;simp[execOp,ho,hv]
 .refine .same I (v:=a.eval x) ?_ hr;obtain⟨as,cs,hv,_,_⟩:=hr.GM;simp[execOp,ho,hv]
theorem aB.shift{b:Nat}{d d':D}(h:aB γ (.pointer (Z ⟨b,off,Y⟩)) d)(n:Nat)
    (hd:(match d with | .box i o=>Z (D.box i (o+n)) | .eB g o=>Z (D.eB g (o+n)) | .ro cs o=>Z (D.ro cs (o+n)) |_=>Y)=Z d'):aB γ (.pointer (Z ⟨b,off+n,Y⟩)) d':=by
 cases h with
 |box i off b hb=>cases hd;exact .box i _ b hb
 |eB=>cases hd;exact .eB _ _
 |ro b o off cs vs hm hr=>cases hd;rw[wb];exact .ro b o _ cs vs hm hr
 |p v x h=>cases hd
 |dead=>cases hd
 |aX v t e sz es row r h1 h2 h3 h4 h5 h6=>cases hd
theorem aaN(I:Inv G γ H w)(E:aW γ env a.tmps)(ho:o.op= .fieldAddr t x f)(hx:aL x=Z y)
      {n:Nat} (ht:P.underlying t=Z (.struct fs)) (hf:fs[f]? =Z fd) (hn:fN P fd.type=Z (n+1)) {d:D} 
    (he:aP G env H (.faddr y fd.offset)=Z (d,H')):Done P G γ H w a o d H':=by
 have hr:=cg E hx;have hrun:∀b off,a.eval x= .pointer (Z ⟨b,off,Y⟩)->(execOp a.eval o).run P w= .ok (.value (.pointer (Z ⟨b,off+fd.offset,Y⟩))) w:=by
  intro b off hv;simp[execOp,ho,hv,Instr.fieldAt,run_underlying ht,hf,Instr.sureAddr,fieldPlace,lW hn,Addr.add_lit]
 simp only[aP] at he;split at he<;>cases he<;>rename_i hd<;>rw[hd] at hr
 .obtain⟨b,off,hv⟩:=hr.addr rfl;rw[hv] at hr;exact .same I (hrun b off hv) (hr.shift _ rfl)
 .obtain⟨b,off,hv⟩:=hr.addr rfl;rw[hv] at hr;exact .same I (hrun b off hv) (hr.shift _ rfl)
 .obtain⟨b,off,hv⟩:=hr.addr rfl;rw[hv] at hr;exact .same I (hrun b off hv) (hr.shift _ rfl)
theorem Dh{d:D}(h:aB γ v d){n:Int}(hn:d.uf=Z n):∃k,v= .int k n:=by
 unfold D.uf at hn;split at hn
 .cases hn;cases h with
  |p v x h=>cases h;exact⟨_,rfl⟩
 .cases hn
theorem yv{d:D}(h:aB γ v d){n:Nat}(hn:d.lS=Z n):∃k,v= .int k (n:Int):=by
 unfold D.lS at hn;split at hn
 .split at hn
  .rename_i k i h0;cases hn;cases h with
   |p v x h=>cases h;exact⟨k,by rw[Int.toNat_of_nonneg h0]⟩
  .cases hn
 .cases hn
theorem AZ{d:D}(h:aB γ v d)(he:d.iR=Z (sz,es)):aQ γ.mem v (.slice sz es):=by
 unfold D.iR at he;split at he
 .cases he;cases h with
  |p v x h=>exact h
 .cases he;cases h with
  |p v x h=>
   cases h with
   |emp a cap sz=>exact .lq _ _ _
 .cases he;cases h with
  |cC b n e sz es hb ht hn h=>exact h
 .cases he;cases h with
  |aX v t e sz es row r h1 h2 h3 h4 h5 h6=>exact h4
 .cases he;cases h with
  |fL a sz=>exact .lq a 0 sz
 .cases he;cases h with
  |fB a n sz es hn h=>exact h
 .cases he
theorem p6(h:aQ m v (.slice sz es)):
    ∃(a:Option Addr) (cap:Nat),v= .slice a (O es) cap/\O es<=cap/\(es≠[]->∃(b o:Nat) (vs:Nat->Nat->Value),a=Z ⟨b,o,Y⟩/\(∀e∈es,O e.cells=sz)/\(∀e∈es,∀c∈e.cells,c.one=true)/\
     (∀i j,i<O es->j<sz->m b (o+i*sz+j)=Z (vs i j))/\∀(i:Nat) (e:PD) (j:Nat) (c:PD),es[i]? =Z e->e.cells[j]? =Z c->aQ m (vs i j) c):=by
 cases h with
 |lq a cap sz=>exact⟨a,cap,rfl,bD _,λh=>(h rfl).elim⟩
 |sl b o cap sz es vs hc hsz dP hm hr=>exact⟨_,cap,rfl,hc,λ_=>⟨b,o,vs,rfl,hsz,dP,hm,hr⟩⟩
theorem aaO(I:Inv G γ H w)(E:aW γ env a.tmps){e:TypeId}{s:Nat}(ho:o.op= .indexAddr t x i)(ht:P.underlying t=Z (.slice e))(hs:fN P e=Z s)
    (hx:aL x=Z y) (hi:aL i=Z j) {d:D}  (he:aP G env H (.iaddr Y s y j)=Z (d,H')):Done P G γ H w a o d H':=by
 have aN:=cg E hx;have yw:=cg E hi;simp only[aP] at he;split at he
 .rename_i n hn;obtain⟨k,ux⟩:=Dh yw hn;obtain⟨d',hd,hh⟩:=ak.1 he;cases hh;simp only[dE] at hd;split at hd
  .rename_i bb off nn cap bQ iZ;split at hd
   .rename_i hc;obtain⟨rfl,h0⟩:=hc;cases hd;rw[iZ] at aN;generalize hv:a.eval x=v at aN;cases aN with
    |bH _ _ _ _ _ b c hb hcc dQ=>
     refine .same I (v:=.pointer (Z ⟨b,off+n.toNat*bQ,Y⟩)) ?_ (.box _ _ b hb);simp[execOp,ho,hv,ux,Instr.indexAt,run_underlying ht,asIntOf,h0,lW hs,Addr.add_lit]
   .cases hd
  .rename_i bb ee nn bQ iZ;split at hd
   .rename_i hc;obtain⟨rfl,h0⟩:=hc;cases hd;rw[iZ] at aN;generalize hv:a.eval x=v at aN;cases aN with
    |ae _ _ _ _ b c hb hcc hm dY=>
     refine .same I (v:=.pointer (Z ⟨b,n.toNat*bQ,Y⟩)) ?_ (.box _ _ b hb);simp[execOp,ho,hv,ux,Instr.indexAt,run_underlying ht,asIntOf,h0,lW hs,Addr.add_lit]
   .cases hd
  split at hd
  .rename_i bQ es iZ;split at hd
   .rename_i hc;obtain⟨rfl,h0⟩:=hc;obtain⟨el,GN,rfl⟩:=ak.1 hd;have hlt:n.toNat<O es:=(af.1 GN).1;obtain⟨ad,cap,hv,dQ,hne⟩:=p6 (AZ aN iZ);obtain⟨b,off,vs,rfl,hsz,dP,hm,hr⟩:=hne (λh=>by subst h;simp at hlt);have cE:0<=n/\n<(O es:Int):=⟨h0,by omega⟩;refine .same I (v:=.pointer (Z ⟨b,off+n.toNat*bQ+0,Y⟩)) ?_ ?_
    .simp[execOp,ho,hv,ux,Instr.indexAt,run_underlying ht,asIntOf,cE,lW hs,Addr.add_lit]
    .refine .ro b (off+n.toNat*bQ) 0 el.cells (vs n.toNat) (λjj hj=>hm _ _ hlt ?_) (λjj c hc=>⟨hr _ _ _ _ GN hc,?_⟩)
     .rw[<-hsz el (bB GN)];exact hj
     .exact dP el (bB GN) c (bB hc)
   .cases hd
  .cases hd
 .cases he
theorem aaP(I:Inv G γ H w)(E:aW γ env a.tmps){e:TypeId}{len:Nat}{s:Nat}(ho:o.op= .indexAddr t x i)(ht:P.underlying t=Z (.array len e))(hs:fN P e=Z s)
    (hx:aL x=Z y) (hi:aL i=Z j) {d:D}  (he:aP G env H (.iaddr (Z len) s y j)=Z (d,H')):Done P G γ H w a o d H':=by
 have aN:=cg E hx;have yw:=cg E hi;simp only[aP] at he;split at he
 .rename_i n hn;obtain⟨k,ux⟩:=Dh yw hn;obtain⟨d',hd,hh⟩:=ak.1 he;cases hh;simp only[dE] at hd;split at hd
  .rename_i hc;have hrun:∀b off,a.eval x= .pointer (Z ⟨b,off,Y⟩)->(execOp a.eval o).run P w= .ok (.value (.pointer (Z ⟨b,off+n.toNat*s,Y⟩))) w:=by
    intro b off hv;simp[execOp,ho,hv,ux,Instr.indexAt,run_underlying ht,asIntOf,Instr.sureAddr,hc,lW hs,Addr.add_lit]
   split at hd<;>cases hd<;>rename_i hdd<;>rw[hdd] at aN
   .obtain⟨b,off,hv⟩:=aN.addr rfl;rw[hv] at aN;exact .same I (hrun b off hv) (aN.shift _ rfl)
   .obtain⟨b,off,hv⟩:=aN.addr rfl;rw[hv] at aN;exact .same I (hrun b off hv) (aN.shift _ rfl)
   .obtain⟨b,off,hv⟩:=aN.addr rfl;rw[hv] at aN;exact .same I (hrun b off hv) (aN.shift _ rfl)
  .cases hd
 .cases he
theorem RT:∀{ds:List D} {cs:List PD},gI ds=Z cs->ds=cs.map .p
 |[],cs,h=>by cases h;rfl
 | .p x::r,cs,h=>by
  simp only[gI] at h;obtain⟨cs',h',rfl⟩:=ak.1 h;simp[RT h']
 | .dead::_,cs,h=>by cases h
 | .undef::_,cs,h=>by cases h
 | .cC .. ::_,cs,h=>by cases h
 | .aX .. ::_,cs,h=>by cases h
 | .box .. ::_,cs,h=>by cases h
 | .eB .. ::_,cs,h=>by cases h
 | .ro .. ::_,cs,h=>by cases h
 | .agg .. ::_,cs,h=>by cases h
 | .ba .. ::_,cs,h=>by cases h
 | .fn .. ::_,cs,h=>by cases h
theorem Di(h:cv γ vs ds)(h1:∀d∈ds,d.one=true):aB γ (.agg vs) (cX ds):=by
 unfold cX;split
 .rename_i cs hcs;have he:=RT hcs;subst he;refine .p _ _ (.agg vs cs (by simpa using h.1) (λd hd=>h1 (.p d) (Q3 hd)) (λi d hd=>?_));exact(h.2 i (.p d) (by simp[hd])).cu
 .exact .agg vs ds h.1 h1 h.2
theorem oQ(l:List α)(lo hi i:Nat):(sub l lo hi)[i]? =if lo+i<hi then l[lo+i]? else Y:=by
 unfold sub;rw[lN,gL]
theorem wC(l:List α)(lo hi:Nat)(h:hi<=O l):O (sub l lo hi)=hi-lo:=by unfold sub;simp;omega
theorem aaQ(h:cv γ vs ds){k:Nat}(hk:off+k<=O ds):cv γ (vs.extract off (off+k)) (sub ds off (off+k)):=by
 have hs:=h.1;refine⟨by rw[wC _ _ _ hk];simp;omega,λi d hd=>?_⟩;rw[oQ] at hd;split at hd
 .have:=h.2 _ _ hd;have hlt:off+i<vs.size:=by rw[hs];exact(af.1 hd).1
  have e:(vs.extract off (off+k)).getD i undef=vs.getD (off+i) undef:=by
   simp[bP,Array.getElem?_extract];rw[if_pos (by omega)]
  rw[e];exact this
 .cases hd
theorem GP{cs:Array Value}{ds:List PD}(hl:cs.size=O ds)(hr:∀i d,ds[i]? =Z d->aQ γ.mem (cs.getD i undef) d):cv γ cs (ds.map .p):=by
 refine⟨by simpa using hl,λi d hd=>?_⟩;simp only[cG,ak] at hd;obtain⟨x,hx,rfl⟩:=hd;exact .p _ _ (hr i x hx)
theorem RU{n:Option Nat}(ht:lU P t=Z n)(h:cv γ vs ds)(h1:∀d∈ds,d.one=true){d:D}
    (hd:cutAt ds off n id cX=Z d) (w:World):∃v,(part t vs off).run P w= .ok v w/\aB γ v d:=by
 unfold cutAt at hd;split at hd
 .obtain⟨x,hx,rfl⟩:=ak.1 hd;have hlt:off<vs.size:=by rw[h.1];exact(af.1 hx).1
  refine⟨vs.getD off undef,?_,h.2 off x hx⟩;simp[part,RR ht,rC hlt,bP]
 .rename_i k;split at hd
  .rename_i hk;cases hd;obtain⟨q1,q2⟩:=RQ ht w;refine⟨.agg (vs.extract off (off+k)),by simp[part,q1,q2],Di (aaQ h hk) (λd hd=>h1 d ?_)⟩;exact jn (tT hd)
  .cases hd
theorem A0{cs:List PD}{n:Option Nat}{d:D}(h:cutAt cs off n .p (λl=>.p (.agg l))=Z d):cutAt (cs.map .p) off n id cX=Z d:=by
 unfold cutAt at h|-;split at h
 .obtain⟨x,hx,rfl⟩:=ak.1 h;simp[hx]
 .rename_i k;split at h
  .rename_i hk;cases h;have kG:off+k<=O (cs.map D.p):=by simpa using hk
   simp only[kG,if_true,bM];have :sub (cs.map D.p) off (off+k)=(sub cs off (off+k)).map .p:=by simp[sub,List.map_take,List.map_drop]
   rw[this];unfold cX;have hp:∀l:List PD,gI (l.map .p)=Z l:=by
    intro l;induction l with
    |nil=>rfl
    |cons x r ih=>simp[gI,ih]
   rw[hp]
  .cases h
theorem RV{d:D}(h:aB γ v d)(hd:d= .agg ds\/∃cs,d= .p (.agg cs)/\ds=cs.map .p):∃vs,v= .agg vs/\cv γ vs ds/\∀d∈ds,d.one=true:=by
 rcases hd with rfl |⟨cs,rfl,rfl⟩
 .cases h with
  |agg cs ds hl dP hr=>exact⟨cs,rfl,⟨hl,hr⟩,dP⟩
 .cases h with
  |p v x h=>
   cases h with
   |agg vs ds hl dP hr=>exact⟨vs,rfl,GP hl hr,λd hd=>by obtain⟨x,hx,rfl⟩:=cA.1 hd;exact dP x hx⟩
theorem aaR(I:Inv G γ H w)(E:aW γ env a.tmps)(ho:o.op= .field t x f)(hx:aL x=Z y)
      {n:Option Nat} (ht:P.underlying t=Z (.struct fs)) (hf:fs[f]? =Z fd) (hn:lU P fd.type=Z n) {d:D} 
    (he:aP G env H (.field y fd.offset n)=Z (d,H')):Done P G γ H w a o d H':=by
 have hr:=cg E hx;have key:∀ds,(y.ev env= .agg ds\/∃cs,y.ev env= .p (.agg cs)/\ds=cs.map .p)->cutAt ds fd.offset n id cX=Z d->Done P G γ H w a o d H:=by
  intro ds oh hc;obtain⟨vs,hv,h1,h2⟩:=RV hr oh;obtain⟨v,q1,q2⟩:=RU hn h1 h2 hc w;exact .same I (v:=v) (by simp[execOp,ho,hv,Instr.field,run_underlying ht,hf,asAgg,q1]) q2
 simp only[aP] at he;split at he
 .rename_i cs hd;obtain⟨d',bO,hh⟩:=ak.1 he;cases hh;exact key _ (.inr ⟨cs,hd,rfl⟩) (A0 bO)
 .rename_i cs hd;obtain⟨d',bO,hh⟩:=ak.1 he;cases hh;exact key _ (.inl hd) bO
 .cases he
theorem aaS(I:Inv G γ H w)(E:aW γ env a.tmps){i:Nat}(ho:o.op= .extract x i)(hx:aL x=Z y){d:D}
    (he:aP G env H (.extract y i)=Z (d,H')):Done P G γ H w a o d H':=by
 have hr:=cg E hx;simp only[aP] at he;split at he
 .rename_i ds hd;obtain⟨d',bO,hh⟩:=ak.1 he;cases hh;rw[hd] at hr;obtain⟨cs,hcs,hl,hr⟩:=hr.aaJ;have hlt:i<cs.size:=by rw[hl];exact(af.1 bO).1
  refine .same I (v:=cs.getD i undef) ?_ (hr i d bO);simp[execOp,ho,hcs,Instr.extract,rC hlt,bP]
 .cases he
theorem aaT(I:Inv G γ H w)(E:aW γ env a.tmps){fi ca:Array Operand}{RX RY:List aA}(ho:o.op= .makeFunc (.func f) fi ca)(h1:aH aL fi.toList=Z RX)(h2:aH aL ca.toList=Z RY):
    Done P G γ H w a o (.fn f (RX.map (·.ev env)) (RY.map (·.ev env))) H:=by
 obtain⟨a1,a2⟩:=GL E h1;obtain⟨b1,b2⟩:=GL E h2;exact .same I (v:=.func (.func f) (fi.map a.eval) (ca.map a.eval)) (by simp[execOp,ho,Instr.makeFunc]) (.fn f _ _ _ _ a1 a2 b1 b2)
theorem aaU(I:Inv G γ H w)(ho:o.op= .makeInterface t x)(ht:(P.underlying t).isSome)(gS:∀ms,P.underlying t≠Z (.interface ms))
    {d:D}  (he:aP G env H (.iface t y)=Z (d,H')) (ja:aB γ (a.eval x) (y.ev env)) (aaV:∀z,(y.ev env).eZ=Z z->aQ γ.mem (a.eval x) z):Done P G γ H w a o d H':=by
 simp only[aP] at he;split at he
 .rename_i z hz;cases he;obtain⟨td,uy⟩:=ZW.1 ht;refine .same I (v:=.iface t (a.eval x)) ?_ (.p _ _ (.iface t _ z (aaV z hz)));have :(Instr.makeInterface t (a.eval x)).run P w= .ok (.iface t (a.eval x)) w:=by
   cases td<;>first |exact(gS _ uy).elim |simp[Instr.makeInterface,run_underlying uy]
  simp[execOp,ho,this]
 .cases he;obtain⟨td,uy⟩:=ZW.1 ht;refine .same I (v:=.iface t (a.eval x)) ?_ (.eC t _ _ ja);have :(Instr.makeInterface t (a.eval x)).run P w= .ok (.iface t (a.eval x)) w:=by
   cases td<;>first |exact(gS _ uy).elim |simp[Instr.makeInterface,run_underlying uy]
  simp[execOp,ho,this]

end Go.Vs

namespace Go.Vs

variable{r:Array TypeId}{γ:Gh}{H':Hp}{k':IntKind}{es:List PD}{m:Mem}{kd l cap sz:Nat}{x' y':aA}{x y:Operand}{ad:Option Addr}{uz hi':Option aA}{lo hi:Option Operand}{yt:TypeId}{v u:Value}
variable{P : Program} {G : Nat -> Option (List PD)}  {H : Hp} {w : World} {env : Env} {a : Act} {o : Oper}
theorem GQ{op:BinOp}{k:IntKind}{x y:Int}{t:TypeId}(h:(Op.intBits op k x y).run P w= .ok v w)(ho:(match op with | .and | .or | .xor | .andNot=>true |_=>false)=true:=by rfl):
    (binOp op t (.int k x) (.int k y)).run P w= .ok v w:=by
 have :binOp op t (.int k x) (.int k y)=Op.intBits op k x y:=by
  cases op<;>first |(simp at ho;done) |simp only[binOp,ne_eq,not_true_eq_false,if_false]
 rw[this];exact h
theorem aaW{op:BinOp}{k:IntKind}{x y:Int}{r:PD}(t:TypeId)(hk:op= .shl\/op= .shr\/k=k')(h:lR op k x y=Z r)(w:World):
    ∃v,(binOp op t (.int k x) (.int k' y)).run P w= .ok v w/\∀m,aQ m v r:=by
 have same:∀op:BinOp,¬(op= .shl\/op= .shr)->(op= .shl\/op= .shr\/k=k')->k=k':=by
  intro op h1 h2;rcases h2 with h |h |h
  .exact(h1 (.inl h)).elim
  .exact(h1 (.inr h)).elim
  .exact h
 cases op<;>simp only[lR] at h
 case shl=>
  split at h
  .cases h
  .rename_i hn;cases h;exact⟨_,by simp[binOp,Op.shift,hn],λm=>.int _ _⟩
 case shr=>
  split at h
  .cases h
  .rename_i hn;cases h;exact⟨_,by simp[binOp,Op.shift,hn],λm=>.int _ _⟩
 case quo=>
  split at h
  .cases h
  .rename_i hn;cases h;cases same .quo (by simp) hk;exact⟨_,by simp[binOp,Op.intDiv,hn],λm=>.int _ _⟩
 case rem=>
  split at h
  .cases h
  .rename_i hn;cases h;cases same .rem (by simp) hk;exact⟨_,by simp[binOp,Op.intDiv,hn],λm=>.int _ _⟩
 case and=>cases h;cases same .and (by simp) hk;exact⟨_,GQ rfl,λm=>.int _ _⟩
 case or=>cases h;cases same .or (by simp) hk;exact⟨_,GQ rfl,λm=>.int _ _⟩
 case xor=>cases h;cases same .xor (by simp) hk;exact⟨_,GQ rfl,λm=>.int _ _⟩
 case andNot=>cases h;cases same .andNot (by simp) hk;exact⟨_,GQ rfl,λm=>.int _ _⟩
 case add=>cases h;cases same .add (by simp) hk;exact⟨_,by simp[binOp,Op.intArith],λm=>.int _ _⟩
 case sub=>cases h;cases same .sub (by simp) hk;exact⟨_,by simp[binOp,Op.intArith],λm=>.int _ _⟩
 case mul=>cases h;cases same .mul (by simp) hk;exact⟨_,by simp[binOp,Op.intArith],λm=>.int _ _⟩
 case eql=>cases h;cases same .eql (by simp) hk;exact⟨_,by simp[binOp,Op.intCmp],λm=>.bool _⟩
 case neq=>cases h;cases same .neq (by simp) hk;exact⟨_,by simp[binOp,Op.intCmp],λm=>.bool _⟩
 case lss=>cases h;cases same .lss (by simp) hk;exact⟨_,by simp[binOp,Op.intCmp],λm=>.bool _⟩
 case leq=>cases h;cases same .leq (by simp) hk;exact⟨_,by simp[binOp,Op.intCmp],λm=>.bool _⟩
 case gtr=>cases h;cases same .gtr (by simp) hk;exact⟨_,by simp[binOp,Op.intCmp],λm=>.bool _⟩
 case geq=>cases h;cases same .geq (by simp) hk;exact⟨_,by simp[binOp,Op.intCmp],λm=>.bool _⟩
theorem aaX{op:BinOp}{x y:List UInt8}{r:PD}(t:TypeId)(h:ye op x y=Z r)(w:World):
    ∃v,(binOp op t (.string ⟨x.toArray⟩) (.string ⟨y.toArray⟩)).run P w= .ok v w/\∀m,aQ m v r:=by
 cases op<;>simp only[ye] at h
 case add=>
  split at h
  .rename_i hl;cases h;have hs:∀l:List UInt8,(⟨l.toArray⟩:ByteArray).size=O l:=λl=>by simp[ByteArray.size]
   refine⟨.string ⟨(x++y).toArray⟩,?_,λm=>.str _⟩;have e:(⟨x.toArray⟩:ByteArray)++⟨y.toArray⟩=⟨(x++y).toArray⟩:=by
    apply ByteArray.ext;simp[ByteArray.data_append]
   have hb:(binOp .add t (.string ⟨x.toArray⟩) (.string ⟨y.toArray⟩):Sem Value)=Op.stringOp .add ⟨x.toArray⟩ ⟨y.toArray⟩:=rfl;rw[hb,run_string_add_sum _ _ _ (by rw[hs,hs];omega),e]
  .cases h
 case eql=>cases h;exact⟨_,by simp[binOp,Op.stringOp],λm=>.bool _⟩
 case neq=>cases h;exact⟨_,by simp[binOp,Op.stringOp],λm=>.bool _⟩
 case lss=>cases h;exact⟨_,by simp[binOp,Op.stringOp],λm=>.bool _⟩
 case leq=>cases h;exact⟨_,by simp[binOp,Op.stringOp],λm=>.bool _⟩
 case gtr=>cases h;exact⟨_,by simp[binOp,Op.stringOp],λm=>.bool _⟩
 case geq=>cases h;exact⟨_,by simp[binOp,Op.stringOp],λm=>.bool _⟩
 all_goals cases h
theorem GR{op:BinOp}{t:TypeId}(h:¬(u= .nilIface/\v= .nilIface))(h2:∀cs ds,¬(u= .agg cs/\v= .agg ds))(w:World):(eqGuard op t x y u v).run P w= .ok () w:=by
 unfold eqGuard;cases op<;>simp
 all_goals
  split
  .exact(h ⟨rfl,rfl⟩).elim
  .exact(h2 _ _ ⟨rfl,rfl⟩).elim
  .simp
theorem RZ(I:Inv G γ H w)(E:aW γ env a.tmps){op:BinOp}{t:TypeId}(ho:o.op= .binOp op t x y yt)(hx:aL x=Z x')(hy:aL y=Z y')
    {d:D}  (he:aP G env H (.bin op x' y')=Z (d,H')):Done P G γ H w a o d H':=by
 have aN:=cg E hx;have fq:=cg E hy;simp only[aP] at he;obtain⟨d',hd,hh⟩:=ak.1 he;cases hh;unfold AG at hd;split at hd
 .rename_i k p k' q e1 e2;split at hd
  .rename_i hk;obtain⟨r,hr,rfl⟩:=ak.1 hd;rw[e1] at aN;rw[e2] at fq;obtain⟨v,q1,q2⟩:=aaW (P:=P) t hk hr w;refine .same I (v:=v) ?_ (.p _ _ (q2 _));have e:=GR (P:=P) (op:=op) (t:=t) (x:=x) (y:=y) (u:=.int k p) (v:=.int k' q) (by simp) (by simp) w;simp[execOp,ho,aN.cu.jK,fq.cu.jK,q1,e]
  .cases hd
 .rename_i p q e1 e2;obtain⟨r,hr,rfl⟩:=ak.1 hd;rw[e1] at aN;rw[e2] at fq;obtain⟨v,q1,q2⟩:=aaX (P:=P) t hr w;refine .same I (v:=v) ?_ (.p _ _ (q2 _));have e:=GR (P:=P) (op:=op) (t:=t) (x:=x) (y:=y) (u:=.string ⟨p.toArray⟩) (v:=.string ⟨q.toArray⟩) (by simp) (by simp) w;simp[execOp,ho,aN.cu.wB,fq.cu.wB,q1,e]
 .cases hd
theorem LK{op:BinOp}(hop:op= .eql\/op= .neq){t:TypeId}{b:Bool}(hu:(match u with | .int _ _ | .float _ _ | .complex _ _ _ | .string _=>true |_=>false)=false)
    (h:(Op.equal t u v).run P w= .ok b w):(binOp op t u v).run P w= .ok (.bool (if op== .neq then !b else b)) w:=by
 rcases hop with rfl |rfl<;>cases u<;>first |(simp at hu;done) |(cases v<;>simp[binOp,h])
theorem sZ(t:TypeId)(u v:Value):Op.equal t u v=Op.equalIn (9999+1) t u v:=rfl

section
variable (d : Nat) (t : TypeId)
theorem R1(ht:P.underlying t=Z .bool)(x y:Bool):(Op.equalIn (d+1) t (.bool x) (.bool y)).run P w= .ok (x==y) w:=by simp[Op.equalIn,run_underlying ht]
theorem aaY(ht:P.underlying t=Z (.int k'))(k:IntKind)(x y:Int):(Op.equalIn (d+1) t (.int k x) (.int k y)).run P w= .ok (x==y) w:=by simp[Op.equalIn,run_underlying ht]
theorem aaZ(ht:P.underlying t=Z .string)(x y:ByteArray):(Op.equalIn (d+1) t (.string x) (.string y)).run P w= .ok (x==y) w:=by simp[Op.equalIn,run_underlying ht]
theorem R2{e:TypeId}(ht:P.underlying t=Z (.pointer e))(ad:Option Addr):(Op.equalIn (d+1) t (.pointer ad) (.pointer Y)).run P w= .ok ad.isNone w:=by cases ad<;>simp[Op.equalIn,run_underlying ht]
theorem aa0{e:TypeId}(ht:P.underlying t=Z (.slice e))(ad:Option Addr)(n c:Nat):(Op.equalIn (d+1) t (.slice ad n c) (.slice Y 0 0)).run P w= .ok ad.isNone w:=by cases ad<;>simp[Op.equalIn,run_underlying ht]
theorem aa1{p:Array TypeId}{v:Bool}(ht:P.underlying t=Z (.func p r v)):(Op.equalIn (d+1) t .nilFunc .nilFunc).run P w= .ok true w:=by simp[Op.equalIn,run_underlying ht]
theorem aa2{p:Array TypeId}{v:Bool}(ht:P.underlying t=Z (.func p r v))(f:Fn)(as cs:Array Value):(Op.equalIn (d+1) t (.func f as cs) .nilFunc).run P w= .ok false w:=by simp[Op.equalIn,run_underlying ht]
end
theorem aa3{d:D}(h:aB γ v d){r:Bool}(hr:d.AE=Z r):∃base n c,v= .slice base n c/\base.isNone=r:=by
 unfold D.AE at hr;split at hr
 .cases hr;exact⟨Y,0,0,h.cu.sY,rfl⟩
 .cases hr;obtain⟨a,cap,hv,_,hne⟩:=p6 h.cu;obtain⟨b,o,_,rfl,_⟩:=hne (by simp);exact⟨_,_,_,hv,rfl⟩
 .cases hr;cases h with
  |p v x h=>
   cases h with
   |emp a cap sz=>exact⟨_,_,_,rfl,rfl⟩
 .cases hr;cases h with
  |cC b n e sz es hb ht hn hx=>exact⟨_,_,_,rfl,rfl⟩
 .cases hr;obtain⟨a,cap,hv,_,hne⟩:=p6 (AZ h rfl);obtain⟨b,o,_,rfl,_⟩:=hne (by simp);exact⟨_,_,_,hv,rfl⟩
 .cases hr;cases h with
  |bH=>exact⟨_,_,_,rfl,rfl⟩
 .cases hr;cases h with
  |ae=>exact⟨_,_,_,rfl,rfl⟩
 .cases hr
theorem GS(I:Inv G γ H w)(E:aW γ env a.tmps){op:BinOp}{t yt:TypeId}{x y:Operand}{x' y':aA}{kd:Nat}(ho:o.op= .binOp op t x y yt)(hop:op= .eql∨op= .neq)(hx:aL x=some x')(hy:aL y=some y')
    (ht:(kd=0∧P.underlying t=some .bool)∨(kd=1∧∃e,P.underlying t=some (.pointer e))∨(kd=2∧∃e,P.underlying t=some (.slice e))∨(kd=3∧∃p r v,P.underlying t=some (.func p r v)))
    {d:D} {H':Hp} (he:aP G env H (.eqk kd (op== .neq) x' y')=some (d,H')):Done P G γ H w a o d H':=by
 have aN:=cg E hx;have fq:=cg E hy;simp only[aP] at he;obtain⟨r,hd,hh⟩:=ak.1 he;cases hh;have fin:∀u v,a.eval x=u→a.eval y=v→(match u with | .int _ _ | .float _ _ | .complex _ _ _ | .string _=>true |_=>false)=false→(∀cs,u≠.agg cs)→u≠.nilIface→(Op.equal t u v).run P w= .ok r w→
     Done P G γ H w a o (.p (.bool (if op== .neq then !r else r))) H:=by
  intro u v hu hv h1 h2 h3 h4;refine .same I (v:=.bool (if op== .neq then !r else r)) ?_ (.p _ _ (.bool _));have e:=GR (P:=P) (op:=op) (t:=t) (x:=x) (y:=y) (u:=u) (v:=v) (fun h=>h3 h.1) (fun cs _ h=>h2 cs h.1) w;have q:=LK hop h1 h4;simp[execOp,ho,hu,hv,e,q]
 rcases ht with⟨rfl,ht⟩ |⟨rfl,e,ht⟩ |⟨rfl,e,ht⟩ |⟨rfl,p,rr,vv,ht⟩
 ·simp only[sS] at hd;split at hd
  ·rename_i p q e1 e2;cases hd;rw[e1] at aN;rw[e2] at fq;exact fin _ _ aN.cu.sX fq.cu.sX rfl (by simp) (by simp) (by rw[sZ];exact R1 _ _ ht _ _)
  ·cases hd
 ·simp only[sS] at hd;split at hd<;>cases hd<;>rename_i e1 e2<;>rw[e1] at aN<;>rw[e2] at fq
  ·exact fin _ _ aN.cu.LH fq.cu.LH rfl (by simp) (by simp) (by rw[sZ];exact R2 _ _ ht _)
  all_goals
   obtain⟨b,off,hv⟩:=aN.addr rfl;exact fin _ _ hv fq.cu.LH rfl (by simp) (by simp) (by rw[sZ];exact R2 _ _ ht _)
 ·simp only[sS] at hd;split at hd
  ·rename_i e2;rw[e2] at fq;obtain⟨base,n,c,hv,rfl⟩:=aa3 aN hd;exact fin _ _ hv fq.cu.sY rfl (by simp) (by simp) (by rw[sZ];exact aa0 _ _ ht _ _ _)
  ·cases hd
 ·simp only[sS] at hd;split at hd<;>cases hd<;>rename_i e1 e2<;>rw[e1] at aN<;>rw[e2] at fq
  ·exact fin _ _ aN.cu.LI fq.cu.LI rfl (by simp) (by simp) (by rw[sZ];exact aa1 _ _ ht)
  ·obtain⟨as,cs,hv,_,_⟩:=aN.GM;exact fin _ _ hv fq.cu.LI rfl (by simp) (by simp) (by rw[sZ];exact aa2 _ _ ht _ _ _)
theorem aa4(I:Inv G γ H w)(E:aW γ env a.tmps){op:UnOp}{t:TypeId}(ho:o.op= .unOp op t x)(hx:aL x=Z x')
    {d:D}  (he:aP G env H (.un op x')=Z (d,H')):Done P G γ H w a o d H':=by
 have aN:=cg E hx;simp only[aP] at he;obtain⟨r,hd,hh⟩:=ak.1 he;cases hh;unfold AH at hd;split at hd
 .rename_i e1;cases hd;rw[e1] at aN;exact .same I (v:=_) (by simp[execOp,ho,aN.cu.sX,Op.unary]) (.p _ _ (.bool _))
 .rename_i e1;cases hd;rw[e1] at aN;exact .same I (v:=_) (by simp[execOp,ho,aN.cu.jK,Op.unary,Op.intArith]) (.p _ _ (.int _ _))
 .cases hd
theorem aa5(I:Inv G γ H w)(E:aW γ env a.tmps){s t:TypeId}{k:IntKind}(ho:o.op= .convert s t x)(hs:P.underlying s=Z (.int k'))(ht:P.underlying t=Z (.int k))(hx:aL x=Z x')
    {d:D}  (he:aP G env H (.conv k x')=Z (d,H')):Done P G γ H w a o d H':=by
 have aN:=cg E hx;simp only[aP] at he;split at he
 .rename_i n hn;cases he;obtain⟨k0,hv⟩:=Dh aN hn;exact .same I (v:=.int k (k.wrap n)) (by simp[execOp,ho,hv,convert,run_underlying hs,run_underlying ht,Conv.intToInt]) (.p _ _ (.int _ _))
 .cases he
theorem R3(I:Inv G γ H w)(E:aW γ env a.tmps){mx:Bool}{ts:Array TypeId}(ho:o.op= .call {callee:=.builtin (if mx then .max else .min),args:=#[x,y],argTypes:=ts})(hx:aL x=Z x')(hy:aL y=Z y')
    {d:D}  (he:aP G env H (.minmax mx x' y')=Z (d,H')):Done P G γ H w a o d H':=by
 have aN:=cg E hx;have fq:=cg E hy;simp only[aP] at he;obtain⟨r,hd,hh⟩:=ak.1 he;cases hh;unfold AJ at hd;split at hd
 .rename_i k p k' q e1 e2;cases hd;rw[e1] at aN;rw[e2] at fq;refine .same I (v:=.int k (if mx=true then if q>p then q else p else if q<p then q else p)) ?_ (.p _ _ (.int _ _));cases mx
  .simp[execOp,ho,resolve,invoke,builtin,aN.cu.jK,fq.cu.jK,Builtin.min_,Builtin.min2]
  .simp[execOp,ho,resolve,invoke,builtin,aN.cu.jK,fq.cu.jK,Builtin.max_,Builtin.max2]
 .cases hd
theorem R4(I:Inv G γ H w)(E:aW γ env a.tmps){t:TypeId}(ho:o.op= .call {callee:=.builtin .len,args:=#[x],argTypes:=#[t]})
    (ht:(kd=0/\P.underlying t=Z .string)\/(kd=1/\∃e,P.underlying t=Z (.slice e))) (hx:aL x=Z x')
    {d:D}  (he:aP G env H (.len kd x')=Z (d,H')):Done P G γ H w a o d H':=by
 have aN:=cg E hx;simp only[aP] at he;obtain⟨n,hn,hh⟩:=ak.1 he;cases hh;refine .same I (v:=.int .i64 n) ?_ (.p _ _ (.int _ _));rcases ht with⟨rfl,ht⟩ |⟨rfl,e,ht⟩
 .unfold dF at hn;split at hn
  .rename_i s _ hs;cases hn;rw[hs] at aN;have hs:(⟨s.toArray⟩:ByteArray).size=O s:=by simp[ByteArray.size]
   simp[execOp,ho,resolve,invoke,builtin,aN.cu.wB,Builtin.len_,run_underlying ht,goInt,hs]
  .rename_i h0 _;cases h0
  .rename_i h0 _;cases h0
  .rename_i h0 _;cases h0
  .rename_i h0 _ _ _;cases h0
  .cases hn
 .have hv:∃base c,a.eval x= .slice base n c:=by
   unfold dF at hn;split at hn
   .rename_i h0 _;cases h0
   .rename_i hs;cases hn;rw[hs] at aN;exact⟨Y,0,aN.cu.sY⟩
   .rename_i hs;cases hn;rw[hs] at aN;generalize a.eval x=v at aN;cases aN with
    |bH i off n cap sz b c hb hc dQ=>exact⟨_,_,rfl⟩
   .rename_i hs;cases hn;rw[hs] at aN;generalize a.eval x=v at aN;cases aN with
    |ae i e n sz b c hb hc hm dY=>exact⟨_,_,rfl⟩
   .obtain⟨el,iZ,rfl⟩:=ak.1 hn;obtain⟨base,c,hv,_⟩:=p6 (AZ aN iZ);exact⟨base,c,hv⟩
   .cases hn
  obtain⟨base,c,hv⟩:=hv;simp[execOp,ho,resolve,invoke,builtin,hv,Builtin.len_,run_underlying ht,goInt]
theorem yx{n h:Nat}{lo hi:Option D}(e:kD n lo hi=Z (l,h)):
    l<=h/\h<=n/\(match lo with |none=>l=0 |some d=>d.lS=Z l)/\(match hi with |none=>h=n |some d=>d.lS=Z h):=by
 unfold kD at e;split at e
 .rename_i l' h' e1 e2;split at e
  .rename_i hc;cases e;refine⟨hc.1,hc.2,?_,?_⟩
   .cases lo with
    |none=>cases e1;rfl
    |some d=>exact e1
   .cases hi with
    |none=>cases e2;rfl
    |some d=>exact e2
  .cases e
 .cases e
theorem Dj(E:aW γ env a.tmps)(cN:pY lo=Z uz)(qB:pY hi=Z hi'){n h:Nat}(hb:kD n (uz.map (·.ev env)) (hi'.map (·.ev env))=Z (l,h))
    (isSlice:Bool) (cap:Nat) (hc:n<=cap) (w:World):(Instr.sliceBounds isSlice n cap (lo.map a.eval) (hi.map a.eval) Y).run P w= .ok (l,h,cap) w:=by
 obtain⟨h1,h2,h3,h4⟩:=yx hb;have GU:(hi=Y/\h=n)\/∃x k,hi=Z x/\a.eval x= .int k (h:Int):=by
  cases hi with
  |none=>cases qB;exact .inl ⟨rfl,h4⟩
  |some x=>
   simp only[pY] at qB;obtain⟨y,hy,rfl⟩:=ak.1 qB;obtain⟨k,hk⟩:=yv (cg E hy) h4;exact .inr ⟨x,k,rfl,hk⟩
 have hlv:(lo=Y/\l=0)\/∃x k,lo=Z x/\a.eval x= .int k (l:Int):=by
  cases lo with
  |none=>cases cN;exact .inl ⟨rfl,h3⟩
  |some x=>
   simp only[pY] at cN;obtain⟨y,hy,rfl⟩:=ak.1 cN;obtain⟨k,hk⟩:=yv (cg E hy) h3;exact .inr ⟨x,k,rfl,hk⟩
 have sb:∀(k:IntKind) (i y:Nat) (c:BoundsCode),i<=y->(Instr.sliceBound (.int k (i:Int)) y c).run P w= .ok i w:=by
  intro k i y c hi;have:=run_sliceBound (P:=P) w k (i:Int) y c (by omega) (by omega);simpa using this
 rcases GU with⟨rfl,rfl⟩ |⟨x,k,rfl,hx⟩<;>rcases hlv with⟨rfl,rfl⟩ |⟨x',k',rfl,gz⟩
 .simp[Instr.sliceBounds]
 .simp[Instr.sliceBounds,gz,sb _ _ _ _ h1]
 .simp[Instr.sliceBounds,hx,sb _ _ _ _ (fW h2 hc)]
 .simp[Instr.sliceBounds,hx,gz,sb _ _ _ _ (fW h2 hc),sb _ _ _ _ h1]
theorem A2{α:Type}{l:List α}{lo hi:Nat}{x:α}(h:x∈sub l lo hi):x∈l:=jn (tT h)
theorem aQ.narrow{n cap':Nat}(h:aQ m (.slice ad n cap) (.slice sz es))(hc:n<=cap'):aQ m (.slice ad n cap') (.slice sz es):=by
 cases h with
 |lq a cap sz=>exact .lq _ _ _
 |sl b o cap sz es vs hc' hsz dP hm hr=>exact .sl b o cap' sz es vs hc hsz dP hm hr
theorem R5(h:aQ m (.slice ad (O es) cap) (.slice sz es)){hh:Nat}(h1:l<=hh)(h2:hh<=O es):
    aQ m (.slice (if cap=l then ad else ad.map (·.add (l*sz))) (hh-l) (cap-l)) (.slice sz (sub es l hh)):=by
 obtain⟨a',cap',hv,dQ,hne⟩:=p6 h;cases hv;have hlen:O (sub es l hh)=hh-l:=wC _ _ _ h2;by_cases he:sub es l hh=[]
 .have h0:hh-l=0:=by rw[<-hlen,he];rfl
  rw[he,h0];exact .lq _ _ _
 .have s7:0<hh-l:=by
   rw[<-hlen];exact wh.2 he
  obtain⟨b,off,vs,rfl,hsz,dP,hm,hr⟩:=hne (λe=>by subst e;simp at h2;omega);rw[if_neg (by omega)];have ead:(Option.map (λx:Addr=>x.add (l*sz)) (Z ⟨b,off,Y⟩))=Z ⟨b,off+l*sz,Y⟩:=by simp[Addr.add_lit]
  rw[ead,<-hlen];refine .sl b (off+l*sz) _ sz _ (λi j=>vs (l+i) j) (by omega) (λe he=>hsz e (A2 he)) (λe he=>dP e (A2 he)) (λi j hi hj=>?_) (λi e j c he hc=>?_)
  .have:=hm (l+i) j (by omega) hj;rw[<-this];congr 1;rw[fX];omega
  .rw[oQ] at he;split at he
   .exact hr _ _ _ _ he hc
   .cases he
theorem aa7(I:Inv G γ H w)(E:aW γ env a.tmps){t:TypeId}(ho:o.op= .slice t x lo hi Y)(ht:P.underlying t=Z .string)
    (hx:aL x=Z x') (cN:pY lo=Z uz) (qB:pY hi=Z hi') {d:D}  (he:aP G env H (.slice 0 x' uz hi')=Z (d,H')):Done P G γ H w a o d H':=by
 have aN:=cg E hx;simp only[aP] at he;obtain⟨d',hd,hh⟩:=ak.1 he;cases hh;simp only[yf] at hd;split at hd
 .rename_i s hs;obtain⟨⟨l,h⟩,hb,rfl⟩:=ak.1 hd;rw[hs] at aN;have hb':=Dj (P:=P) E cN qB hb false (O s) (aK _) w;obtain⟨h1,h2,_⟩:=yx hb;refine .same I (v:=.string ⟨(sub s l h).toArray⟩) ?_ (.p _ _ (.str _));have e:(⟨s.toArray⟩:ByteArray).extract l h=⟨(sub s l h).toArray⟩:=by
   apply ByteArray.ext;rw[ByteArray.data_extract];apply Av;simp[sub,List.take_drop,Nat.add_sub_cancel' h1]
  have hsz:(⟨s.toArray⟩:ByteArray).size=O s:=by simp[ByteArray.size]
  rw[<-hsz] at hb';simp[execOp,ho,aN.cu.wB,Instr.sliceAt,Instr.slice,run_underlying ht,hb',e]
 .cases hd
theorem R6{i off b n c:Nat}{cap:Option Nat}{h:Nat}(hb:γ.boxes[i]? =Z b)(hc:n<=c)(dQ:∀k,cap=Z k->c=k)(h1:l<=h)(h2:h<=n):
    aB γ (.slice (if c=l then Z ⟨b,off,Y⟩ else(Z (⟨b,off,Y⟩:Addr)).map (·.add (l*sz))) (h-l) (c-l)) (C6 i off cap sz l h):=by
 unfold C6;cases cap with
 |some k=>
  have hk:=dQ k rfl;subst hk;by_cases dG:c<=l
  .have e:c=l:=by omega
   have e2:h-l=0:=by omega
   subst e;simp only[aK,if_true,e2,Au];exact .fL _ _
  .simp only[dG,if_false];rw[if_neg (by omega)];simp only[fy,Addr.add_lit];exact .bH _ _ _ _ _ b _ hb (by omega) (λk hk=>by cases hk;rfl)
 |none=>
  by_cases uA:l=h
  .subst uA;simp only[if_true,Au];exact .p _ _ (.lq _ _ _)
  .simp only[uA,if_false];rw[if_neg (by omega)];simp only[fy,Addr.add_lit];exact .bH _ _ _ _ _ b _ hb (by omega) (λk hk=>by cases hk)
theorem aa8(I:Inv G γ H w)(E:aW γ env a.tmps){t e:TypeId}{n:Nat}(ho:o.op= .slice t x lo hi Y)(ht:P.underlying t=Z (.slice e))(hn:fN P e=Z (n+1))
    (hx:aL x=Z x') (cN:pY lo=Z uz) (qB:pY hi=Z hi') {d:D}  (he:aP G env H (.slice (n+1) x' uz hi')=Z (d,H')):Done P G γ H w a o d H':=by
 have aN:=cg E hx;simp only[aP] at he;obtain⟨d',hd,hh⟩:=ak.1 he;cases hh;have run:∀(base:Option Addr) (len cap l h:Nat),a.eval x= .slice base len cap->(Instr.sliceBounds true len cap (lo.map a.eval) (hi.map a.eval) Y).run P w= .ok (l,h,cap) w->
     (execOp a.eval o).run P w= .ok (.value (.slice (if cap=l then base else base.map (·.add (l*(n+1)))) (h-l) (cap-l))) w:=by
  intro base len cap l h hv hb;simp[execOp,ho,hv,Instr.sliceAt,Instr.slice,run_underlying ht,hb,lW hn]
 simp only[yf] at hd;split at hd
 .rename_i hs;rw[hs] at aN;obtain⟨⟨l,h⟩,hb,rfl⟩:=ak.1 hd;obtain⟨h1,h2,_⟩:=yx hb;have hl:l=0:=by omega
  have hh:h=0:=by omega
  subst hl;subst hh;have r:=run Y 0 0 0 0 aN.cu.sY (Dj E cN qB hb true 0 (aK _) w);exact .same I (v:=.slice Y 0 0) (by simpa using r) (.p _ _ .aj)
 .rename_i i off nn cap bQ hs;split at hd
  .rename_i hsz;subst hsz;rw[hs] at aN;obtain⟨⟨l,h⟩,hb,rfl⟩:=ak.1 hd;obtain⟨h1,h2,_⟩:=yx hb;generalize hv:a.eval x=v at aN;cases aN with
   |bH _ _ _ _ _ b c bS hc dQ=>
    exact .same I (run _ _ _ l h hv (Dj E cN qB hb true c hc w)) (R6 bS hc dQ h1 h2)
  .cases hd
 .rename_i i e nn bQ hs;split at hd
  .rename_i hsz;subst hsz;rw[hs] at aN;obtain⟨⟨l,h⟩,hb,rfl⟩:=ak.1 hd;obtain⟨h1,h2,_⟩:=yx hb;generalize hv:a.eval x=v at aN;cases aN with
   |ae _ _ _ _ b c bS hc hcm hk dY=>
    have r:=run _ _ _ l h hv (Dj E cN qB hb true c hc w);dsimp only;split
    .rename_i hl0;subst hl0;refine .same I r ?_;have e0:(if c=0 then Z ⟨b,0,Y⟩ else(Z (⟨b,0,Y⟩:Addr)).map (·.add (0*(n+1))))=Z ⟨b,0,Y⟩:=by split<;>simp[Addr.add_lit]
     rw[e0];simp only[Nat.sub_zero];exact .ae _ _ _ _ b c bS (fW h2 hc) hcm hk dY
    .exact .same I r (R6 bS hc (λk hk=>by cases hk) h1 h2)
  .cases hd
 .split at hd
  .rename_i bQ es iZ;split at hd
   .rename_i hsz;subst hsz;obtain⟨⟨l,h⟩,hb,rfl⟩:=ak.1 hd;obtain⟨h1,h2,_⟩:=yx hb;have q:=AZ aN iZ;obtain⟨base,cap,hv,dQ,_⟩:=p6 q;rw[hv] at q;exact .same I (run base (O es) cap l h hv (Dj E cN qB hb true cap dQ w)) (.p _ _ (R5 q h1 h2))
   .cases hd
  .cases hd
theorem aa9(I:Inv G γ H w)(E:aW γ env a.tmps){t e:TypeId}{n:Nat}{hi mx:Operand}{hi' mx':aA}(ho:o.op= .slice t x lo (Z hi) (Z mx))(ht:P.underlying t=Z (.slice e))(hn:fN P e=Z (n+1))
    (hx:aL x=Z x') (cN:pY lo=Z uz) (qB:aL hi=Z hi') (hmx:aL mx=Z mx') {d:D}  (he:aP G env H (.slice3 (n+1) x' uz hi' mx')=Z (d,H')):Done P G γ H w a o d H':=by
 have aN:=cg E hx;simp only[aP] at he;obtain⟨d',hd,hh⟩:=ak.1 he;cases hh;unfold Gj at hd;split at hd
 .rename_i h m GV LL;split at hd
  .rename_i hhm;subst hhm;obtain⟨kh,GU⟩:=yv (cg E qB) GV;obtain⟨km,rN⟩:=yv (cg E hmx) LL;have sb:∀(k:IntKind) (i y:Nat) (c:BoundsCode),i<=y->(Instr.sliceBound (.int k (i:Int)) y c).run P w= .ok i w:=by
    intro k i y c hi;have:=run_sliceBound (P:=P) w k (i:Int) y c (by omega) (by omega);simpa using this
   have run:∀(base:Option Addr) (len cap l h':Nat),a.eval x= .slice base len cap->len<=cap->kD len (uz.map (·.ev env)) (Z (hi'.ev env))=Z (l,h')->
       (h'=h/\l<=h/\h<=len)/\(execOp a.eval o).run P w= .ok (.value (.slice (if h=l then base else base.map (·.add (l*(n+1)))) (h-l) (h-l))) w:=by
    intro base len cap l h' hv hc hb;obtain⟨h1,h2,h3,h4⟩:=yx hb;have h4:D.lS (hi'.ev env)=Z h':=h4;rw[GV] at h4;cases h4;have hlv:(lo=Y/\l=0)\/∃x k,lo=Z x/\a.eval x= .int k (l:Int):=by
     cases lo with
     |none=>cases cN;exact .inl ⟨rfl,h3⟩
     |some x=>
      simp only[pY] at cN;obtain⟨y,hy,rfl⟩:=ak.1 cN;obtain⟨k,hk⟩:=yv (cg E hy) h3;exact .inr ⟨x,k,rfl,hk⟩
    refine⟨⟨rfl,h1,h2⟩,?_⟩;rcases hlv with⟨rfl,rfl⟩ |⟨x',k',rfl,gz⟩
    .simp[execOp,ho,hv,Instr.sliceAt,Instr.slice,Instr.sliceBounds,run_underlying ht,lW hn,GU,rN,sb _ _ _ _ (fW h2 hc),sb _ _ _ _ (aK h)]
    .simp[execOp,ho,hv,Instr.sliceAt,Instr.slice,Instr.sliceBounds,run_underlying ht,lW hn,GU,rN,gz,sb _ _ _ _ (fW h2 hc),sb _ _ _ _ (aK h),sb _ _ _ _ h1]
   have cut:∀(i off b nn c l h':Nat),γ.boxes[i]? =Z b->l<=h->aB γ (.slice (if h=l then Z ⟨b,off,Y⟩ else(Z (⟨b,off,Y⟩:Addr)).map (·.add (l*(n+1)))) (h-l) (h-l)) (if l=h then .fL (n+1) else .bH i (off+l*(n+1)) (h-l) (Z (h-l)) (n+1)):=by
    intro i off b nn c l h' hb hl;by_cases uA:l=h
    .subst uA;simp only[if_true,Au];exact .fL _ _
    .rw[if_neg uA,if_neg (Ne.symm uA)];simp only[fy,Addr.add_lit];exact .bH _ _ _ _ _ b _ hb (aK _) (λk hk=>by cases hk;rfl)
   split at hd
   .rename_i hs;rw[hs] at aN;obtain⟨⟨l,h'⟩,hb,rfl⟩:=ak.1 hd;obtain⟨⟨rfl,h1,h2⟩,r⟩:=run Y 0 0 l h' aN.cu.sY (aK _) hb;have hh:h'=0:=by omega
    have hl:l=0:=by omega
    subst hh;subst hl;exact .same I (v:=.slice Y 0 0) (by simpa using r) (.p _ _ .aj)
   .rename_i i off nn cap bQ hs;split at hd
    .rename_i hsz;subst hsz;rw[hs] at aN;obtain⟨⟨l,h'⟩,hb,rfl⟩:=ak.1 hd;generalize hv:a.eval x=v at aN;cases aN with
     |bH _ _ _ _ _ b c bS hc dQ=>
      obtain⟨⟨rfl,h1,h2⟩,r⟩:=run _ _ _ l h' hv hc hb;exact .same I r (cut i off b nn c l h' bS h1)
    .cases hd
   .rename_i i e nn bQ hs;split at hd
    .rename_i hsz;subst hsz;rw[hs] at aN;obtain⟨⟨l,h'⟩,hb,rfl⟩:=ak.1 hd;generalize hv:a.eval x=v at aN;cases aN with
     |ae _ _ _ _ b c bS hc hcm hk dY=>
      obtain⟨⟨rfl,h1,h2⟩,r⟩:=run _ _ _ l h' hv hc hb;have:=cut i 0 b nn c l h' bS h1;simp only[ez] at this;exact .same I r this
    .cases hd
   .split at hd
    .rename_i bQ es iZ;split at hd
     .rename_i hsz;subst hsz;obtain⟨⟨l,h'⟩,hb,rfl⟩:=ak.1 hd;have q:=AZ aN iZ;obtain⟨base,cap,hv,dQ,_⟩:=p6 q;rw[hv] at q;obtain⟨⟨rfl,h1,h2⟩,r⟩:=run base (O es) cap l h' hv dQ hb;have bW:O (sub es l h')=h'-l:=wC _ _ _ h2;refine .same I r ?_;have pc:=R5 q h1 h2;have :aQ γ.mem (.slice (if h'=l then base else base.map (·.add (l*(n+1)))) (h'-l) (h'-l)) (.slice (n+1) (sub es l h')):=by
       by_cases uA:h'=l
       .rw[if_pos uA];have :sub es l h'=[]:=sO (by omega);rw[this,show h'-l=0 by omega];exact .lq _ _ _
       .rw[if_neg uA];rw[if_neg (show ¬cap=l by omega)] at pc;exact pc.narrow (by omega)
      exact .fB _ _ _ _ bW.symm this
     .cases hd
    .cases hd
  .cases hd
 .cases hd

end Go.Vs

namespace Go.Vs

variable{fs:Array Field}{r:Bool}{γ:Gh}{tag:Nat}{x:PD}{t:TypeId}{v:Value}
variable{P : Program} {G : Nat -> Option (List PD)}  {H : Hp} {w : World} {env : Env} {a : Act} {o : Oper}
theorem yy:∀{ds:List D} {xs:List PD},D.j6 ds=Z xs->O xs=O ds/\∀(i:Nat) x,xs[i]? =Z x->∃d,ds[i]? =Z d/\d.eZ=Z x
 |[],xs,h=>by simp only[D.j6] at h;cases h;exact⟨rfl,λi x hx=>by simp at hx⟩
 |d::r,xs,h=>by
  simp only[D.j6] at h;split at h
  .rename_i x hx;obtain⟨ys,hy,rfl⟩:=ak.1 h;obtain⟨h1,h2⟩:=yy hy;refine⟨by simp[h1],λi z hz=>?_⟩
   match i with
   | 0=>simp only[ey,bM] at hz;subst hz;exact⟨d,rfl,hx⟩
   |i+1=>exact h2 i z (by simpa using hz)
  .cases h
theorem Dk{d:D}(h:d.eZ=Z x)(h1:d.one=true):x.one=true:=by
 cases d<;>simp only[D.eZ] at h<;>first |(cases h;done) |(rename_i es;cases es<;>(cases h;rfl)) |(cases h;first |rfl |exact h1) |(simp[D.one] at h1;done) |(obtain⟨z,_,rfl⟩:=ak.1 h;rfl)
theorem yz{d:D}(r:aB γ v d):∀{x:PD},d.eZ=Z x->aQ γ.mem v x:=by
 induction r with
 |p v x hx=>intro y h;simp only[D.eZ] at h;cases h;exact hx
 |cC b n e sz es hb ht hn hx=>
  intro y h;simp only[D.eZ,bM] at h;subst h;cases es with
  |nil=>subst hn;exact .emp _ _ _
  |cons x es=>exact hx
 |fL a sz=>intro y h;simp only[D.eZ] at h;cases h;exact .lq _ _ _
 |fB a n sz es hn hx=>intro y h;simp only[D.eZ] at h;cases h;exact hx
 |eC t v d _ ih=>
  intro y h;simp only[D.eZ] at h;obtain⟨z,hz,rfl⟩:=ak.1 h;exact .iface t v z (ih hz)
 |aX v t e sz es row r h1 h2 h3 h4 h5 h6=>intro y h;simp only[D.eZ] at h;cases h;exact h4
 |agg cs ds hl dP hr ih=>
  intro y h;simp only[D.eZ] at h;obtain⟨xs,hx,rfl⟩:=ak.1 h;obtain⟨h1,h2⟩:=yy hx;refine .agg cs xs (hl.trans h1.symm) (λx gz=>?_) (λi x hi=>?_)
  .obtain⟨i,hi⟩:=dV gz;obtain⟨d,a1,a2⟩:=h2 i x hi;exact Dk a2 (dP d (bB a1))
  .obtain⟨d,a1,a2⟩:=h2 i x hi;exact ih i d a1 a2
 |_=>intro y h;simp only[D.eZ] at h;cases h
theorem bytes_beq(x y:List UInt8):((⟨x.toArray⟩:ByteArray)==⟨y.toArray⟩)=(x==y):=by
 have h:((⟨x.toArray⟩:ByteArray)==⟨y.toArray⟩)=(x.toArray==y.toArray):=rfl;rw[h,Bool.eq_iff_iff];simp
theorem abb(ht:Df P t=Z tag){m:Mem}{u:Value}{y:PD}(hu:aQ m u x)(hv:aQ m v y)(h:PD.eqv tag x y=Z r)(d:Nat)(w:World):(Op.equalIn (d+1) t u v).run P w= .ok r w:=by
 unfold Df at ht;split at ht<;>cases ht<;>rename_i dY
 .simp only[PD.eqv] at h;split at h<;>first |(cases h;done) |skip
  .cases h;rw[hu.sX,hv.sX];exact R1 _ _ dY _ _
  .rename_i h0;cases h0
  .rename_i h0;cases h0
 .simp only[PD.eqv] at h;split at h<;>first |(cases h;done) |skip
  .rename_i h0;cases h0
  .split at h
   .rename_i hk;subst hk;cases h;rw[hu.jK,hv.jK];exact aaY _ _ dY _ _ _
   .cases h
  .rename_i h0;cases h0
 .simp only[PD.eqv] at h;split at h<;>first |(cases h;done) |skip
  .rename_i h0;cases h0
  .rename_i h0;cases h0
  .cases h;rw[hu.wB,hv.wB,aaZ _ _ dY,bytes_beq]
theorem R7(ht:Df P t=Z tag)(w:World):(isAgg t).run P w= .ok false w:=by
 unfold Df at ht;split at ht<;>cases ht<;>rename_i dY<;>simp[isAgg,run_underlying dY]
def eqFields(dp:Nat)(xs ys:Array Value):List Field->Sem (Option Bool)
 |[]=>pure Y
 |f::r=>do
  if f.name≠ "_" then
   if !(<-Op.equalIn dp f.type (<-part f.type xs f.offset) (<-part f.type ys f.offset)) then return Z false
  eqFields dp xs ys r
theorem R8{m:Mem}{xs ys:Array Value}{ps qs:List PD}(hx:∀i d,ps[i]? =Z d->aQ m (xs.getD i undef) d)(hy:∀i d,qs[i]? =Z d->aQ m (ys.getD i undef) d)
    (lx:xs.size=O ps) (ly:ys.size=O qs) (dp:Nat) (w:World):∀(fs:List Field) (i:Nat) (ts:List Nat) (r:Bool),AW P i fs=Z ts->rG ts (ps.drop i) (qs.drop i)=Z r->
     (eqFields (dp+1) xs ys fs).run P w= .ok (if r then Y else Z false) w
 |[],i,ts,r,h,he=>by
  simp only[AW] at h;cases h;have hr:r=true:=by
   cases hp:ps.drop i<;>cases hq:qs.drop i<;>rw[hp,hq] at he<;>simp[rG] at he;exact he
  subst hr;simp[eqFields]
 |f::fs,i,ts,r,h,he=>by
  simp only[AW] at h;split at h
  .rename_i tg LM;split at h
   .rename_i hc;obtain⟨ts',mY,rfl⟩:=ak.1 h;have hname:f.name≠ "_" :=by simpa using hc.2
    cases hp:ps.drop i with
    |nil=>rw[hp] at he;simp[rG] at he
    |cons p pr=>
     cases hq:qs.drop i with
     |nil=>rw[hp,hq] at he;simp[rG] at he
     |cons q qr=>
      rw[hp,hq] at he;have e1:ps[i]? =Z p:=by
       have:=congrArg (λl=>l[0]?) hp;simpa using this
      have e2:qs[i]? =Z q:=by
       have:=congrArg (λl=>l[0]?) hq;simpa using this
      have d1:ps.drop (i+1)=pr:=by
       have:=congrArg (List.drop 1) hp;simpa[CS] using this
      have d2:qs.drop (i+1)=qr:=by
       have:=congrArg (List.drop 1) hq;simpa[CS] using this
      simp only[rG] at he;split at he
      .rename_i e g uB Dl;cases he;have l1:i<xs.size:=by rw[lx];exact(af.1 e1).1
       have l2:i<ys.size:=by rw[ly];exact(af.1 e2).1
       obtain⟨u,p1,ru⟩:∃u,(part f.type xs f.offset).run P w= .ok u w/\aQ m u p:=
        ⟨xs.getD i undef,by simp[part,R7 LM,hc.1,rC l1,bP],hx i p e1⟩
       obtain⟨v,p2,rv⟩:∃u,(part f.type ys f.offset).run P w= .ok u w/\aQ m u q:=
        ⟨ys.getD i undef,by simp[part,R7 LM,hc.1,rC l2,bP],hy i q e2⟩
       have q1:=abb LM ru rv uB dp w;cases e with
       |false=>simp[eqFields,hname,p1,p2,q1]
       |true=>
        have ih:=R8 hx hy lx ly dp w fs (i+1) ts' g mY (by rw[d1,d2];exact Dl);simp[eqFields,hname,p1,p2,q1,ih]
      .cases he
   .cases h
  .cases h
theorem abd(ht:P.underlying t=Z (.struct fs))(h1:P.stoodInHeld t=false){xs ys:Array Value}(n:Nat)(w:World)
    (h:(eqFields n xs ys fs.toList).run P w= .ok (if r then Y else Z false) w):(Op.equalIn (n+1) t (.agg xs) (.agg ys)).run P w= .ok r w:=by
 simp only[Op.equalIn,Sem.run_bind,run_underlying ht,Result.andThen_ok,run_program,h1,qp,if_false];rw[<-Array.forIn_toList];have key:∀(l:List Field),(forIn l ((Y:Option Bool),()) λf __s=>
           if f.name≠ "_" then do
            let LN <-part f.type xs f.offset
            let abe <-part f.type ys f.offset
            let LN <-Op.equalIn n f.type LN abe
            if(!LN)=true then pure (ForInStep.done (Z false,())) else pure (ForInStep.yield (Y,()))
           else pure (ForInStep.yield (Y,())):Sem (Option Bool×Unit))=(do let x <-eqFields n xs ys l;pure (x,())):=by
  intro l
  induction l with
  |nil=>simp[eqFields]
  |cons f l ih=>
   rw[List.forIn_cons];simp only[eqFields];by_cases hf:f.name= "_"
   .rw[if_neg (by simp[hf]),if_neg (by simp[hf])];simp only[pure_bind];exact ih
   .rw[if_pos (by simp[hf]),if_pos (by simp[hf])];simp only[bind_assoc];congr 1;funext u;congr 1;funext v;congr 1;funext b
    cases b
    .simp
    .simp only[Bool.not_true,qp,if_false,pure_bind];exact ih
 rw[key];simp only[Sem.run_bind,h,Result.andThen_ok,Sem.run_pure];cases r<;>simp
theorem abf(I:Inv G γ H w)(E:aW γ env a.tmps){op:BinOp}{yt:TypeId}{x y:Operand}{x' y':aA}(ho:o.op= .binOp op t x y yt)(hop:op= .eql\/op= .neq)(hx:aL x=Z x')(hy:aL y=Z y')
     (ht:P.underlying t=Z (.struct fs)) (h1:P.stoodInHeld t=false) (h2:P.eqGuardType P.depth t=false) {ts:List Nat} (mY:AW P 0 fs.toList=Z ts)
    {d:D} {H':Hp} (he:aP G env H (.eqs (op== .neq) ts x' y')=Z (d,H')):Done P G γ H w a o d H':=by
 have aN:=cg E hx;have fq:=cg E hy;simp only[aP] at he;split at he
 .rename_i p q e1 e2;obtain⟨r,hr,hh⟩:=ak.1 he;cases hh;rw[e1] at aN;rw[e2] at fq;obtain⟨xs,hxv,lx,_,rx⟩:=aN.cu.LJ;obtain⟨ys,hyv,ly,_,ry⟩:=fq.cu.LJ;refine .same I (v:=.bool (if op== .neq then !r else r)) ?_ (.p _ _ (.bool _));have g:(eqGuard op t x y (.agg xs) (.agg ys)).run P w= .ok () w:=by
   unfold eqGuard;rcases hop with rfl |rfl<;>simp[h2]
  have q:(Op.equal t (.agg xs) (.agg ys)).run P w= .ok r w:=by
   rw[sZ];have:=R8 (P:=P) rx ry lx ly 9998 w fs.toList 0 ts r mY (by simpa using hr);exact abd ht h1 9999 w this
  have q':=LK hop (u:=.agg xs) (v:=.agg ys) rfl q;simp[execOp,ho,hxv,hyv,g,q']
 .cases he

end Go.Vs

namespace Go.Vs

variable{parts:Array (Nat×Operand)}{us cs:Array Value}{γ:Gh}{H':Hp}{pl:List (Nat×Nat)}{qs:List (Nat×Nat×aA)}{ds:List D}{es:List PD}{m:Mem}{b off sz:Nat}{f:Nat->Value}{y j:aA}{x i:Operand}{z:PD}{t:TypeId}
variable{P : Program} {G : Nat -> Option (List PD)}  {H : Hp} {w : World} {env : Env} {a : Act} {o : Oper}
theorem abi(I:Inv G γ H w)(E:aW γ env a.tmps)(ho:o.op= .index t x i)(ht:P.underlying t=Z .string)
    (hx:aL x=Z y) (hi:aL i=Z j) {d:D}  (he:aP G env H (.index Y y j)=Z (d,H')):Done P G γ H w a o d H':=by
 have aN:=cg E hx;have yw:=cg E hi;simp only[aP] at he;split at he
 .rename_i n hn;obtain⟨k,ux⟩:=Dh yw hn;obtain⟨d',hd,hh⟩:=ak.1 he;cases hh;simp only[yg] at hd;split at hd
  .rename_i s hs;split at hd
   .rename_i h0;obtain⟨c,hc,rfl⟩:=ak.1 hd;rw[hs] at aN;have hlt:n.toNat<O s:=(af.1 hc).1;have hval:s[n.toNat]=c:=(af.1 hc).2;refine .same I (v:=.int .u8 c.toNat) ?_ (.p _ _ (.int _ _));have hs':(⟨s.toArray⟩:ByteArray).size=O s:=by simp[ByteArray.size]
    have hg:(⟨s.toArray⟩:ByteArray)[n.toNat]? =Z c:=by
     rw[getElem?_pos _ _ (by rw[hs'];exact hlt),<-hval];rfl
    simp[execOp,ho,aN.cu.wB,ux,Instr.index,run_underlying ht,asIntOf,h0,hg]
   .cases hd
  .cases hd
 .cases he
theorem abj{e:TypeId}{s:Nat}{c:Option Nat}(hs:fN P e=Z s)(hc:lU P e=Z c):c=if c.isSome then Z s else Y:=by
 cases c with
 |none=>rfl
 |some n=>
  have :n=s:=by
   unfold lU at hc;rw[hs] at hc;split at hc<;>first |(cases hc;done) |skip
   .rename_i h1 h2;cases h2;cases hc;rfl
   .rename_i h1 h2;cases h2;cases hc;rfl
  subst this;rfl
theorem abk(I:Inv G γ H w)(E:aW γ env a.tmps){t e:TypeId}{len s:Nat}{c:Option Nat}{x i:Operand}{y j:aA}(ho:o.op= .index t x i)(ht:P.underlying t=some (.array len e))(hs:fN P e=some s)(hc:lU P e=some c)
    (hx:aL x=some y) (hi:aL i=some j) {d:D} {H':Hp} (he:aP G env H (.index (some (len,s,c.isSome)) y j)=some (d,H')):Done P G γ H w a o d H':=by
 have aN:=cg E hx;have yw:=cg E hi;have hcc:=abj hs hc;simp only[aP] at he;split at he
 ·rename_i n hn;obtain⟨k,ux⟩:=Dh yw hn;obtain⟨d',hd,hh⟩:=ak.1 he;cases hh;simp only[yg] at hd;split at hd
  ·rename_i hb;have key:∀ds,(y.ev env= .agg ds∨∃cs,y.ev env= .p (.agg cs)∧ds=cs.map .p)→cutAt ds (n.toNat*s) (if c.isSome=true then some s else none) id cX=some d→Done P G γ H w a o d H:=by
    intro ds oh hcut;obtain⟨vs,hv,h1,h2⟩:=RV aN oh;rw[←hcc] at hcut;obtain⟨v,q1,q2⟩:=RU hc h1 h2 hcut w;exact .same I (v:=v) (by simp[execOp,ho,hv,ux,Instr.index,run_underlying ht,asIntOf,hb,lW hs,q1]) q2
   split at hd
   ·rename_i cs hcs;exact key _ (.inr ⟨cs,hcs,rfl⟩) (A0 hd)
   ·rename_i cs hcs;exact key _ (.inl hcs) hd
   ·cases hd
  ·cases hd
 ·cases he
theorem GW(g o:Nat)(t:TypeId)(fr:Nat×Nat):∀(vs:List Value) (i:Nat) (cur:Array Value) (w:World),w.heap[g]? =Z (.cells cur t fr)->clear fr (o+i) cur.size->o+i+O vs<=cur.size->(∀v∈vs,v.oneCell'=true)->
    (storeCells ⟨g,o,Y⟩ vs i).run P w= .ok () (w.setRow g (cur.toList.take (o+i)++vs++cur.toList.drop (o+i+O vs)).toArray)
 |[],i,cur,w,hg,_,_,_=>by
  simp only[storeCells,iQ,fH,nO,Aw,Array.toArray_toList];rw[setRow_self w g cur t fr hg];rfl
 |v::rest,i,cur,w,hg,hu,hl,h1=>by
  have hi:o+i<cur.size:=by simp at hl;omega
  have abl:(⟨g,o,Y⟩:Addr).add i=⟨g,o+i,Y⟩:=Addr.add_lit _ _ _;have hcell:w.cell? ⟨g,o+i,Y⟩=Z cur[o+i]:=by simp[World.cell?,hg,hi]
  have abm:w.frozen? ⟨g,o+i,Y⟩=false:=by
   have:=hu (o+i) (aK _) hi;simp only[World.frozen?,hg];obtain⟨f1,f2⟩:=fr;simp only at this|-;cases hd:(decide (f1<=o+i)&&decide (o+i<f2)) with
   |false=>rfl
   |true=>simp at hd;exact(this hd).elim
  have hst:(store ((⟨g,o,Y⟩:Addr).add i) v).run P w= .ok () (w.setRow g (cur.setIfInBounds (o+i) v)):=by
   rw[abl,run_store P w _ v _ (h1 v (by simp)),hcell];simp[abm,setCell_eq_setRow w g (o+i) cur t fr v hg]
  have ih:=GW g o t fr rest (i+1) (cur.setIfInBounds (o+i) v) (w.setRow g (cur.setIfInBounds (o+i) v)) (setRow_heap w g cur _ t _ hg) (λk hk hk2=>hu k (by omega) (by simpa using hk2)) (by simp at hl|-;omega) (λx hx=>h1 x (by simp[hx]));simp only[storeCells,Sem.run_bind,hst,Result.andThen_ok,ih,setRow_setRow];congr 3
  have:=list_seg_step cur.toList (o+i) v rest (by simp at hl|-;omega);have e1:o+(i+1)=o+i+1:=by omega
  have e2:o+i+O (v::rest)=o+i+(O rest+1):=by simp
  rw[e1,e2];simpa[Array.toList_setIfInBounds] using this
theorem GX{n:Option Nat}(ht:lU P t=Z n)(h:∀j,j<n.getD 1->w.cell? ⟨b,off+j,Y⟩=Z (f j)):
    (loadVar t ⟨b,off,Y⟩).run P w= .ok (match n with |none=>f 0 |some k=>.agg ((j3 k).map f).toArray) w:=by
 cases n with
 |none=>
  have h0:=h 0 (by simp);simp only[nO] at h0;simp[loadVar,RR ht,h0]
 |some k=>
  obtain⟨q1,q2⟩:=RQ ht w;have q:=run_loadCells (P:=P) w ⟨b,off,Y⟩ k f (λj hj=>by rw[Addr.add_lit];exact h j (by simpa using hj));simp[loadVar,q1,q2,q]
theorem R9{k:Nat}(hk:off+k<=O ds)(h:∀j d,j<k->ds[off+j]? =Z d->aB γ (f j) d):cv γ ((j3 k).map f).toArray (sub ds off (off+k)):=by
 refine⟨by rw[wC _ _ _ hk];simp,λi d hd=>?_⟩;rw[oQ] at hd;split at hd
 .rename_i hlt;have hi:i<k:=by omega
  have e:(((j3 k).map f).toArray).getD i undef=f i:=by simp[bP,hi]
  rw[e];exact h i d hi hd
 .cases hd
theorem LO(I:Inv G γ H w){n:Option Nat}(ho:o.op= .load t x)(ht:lU P t=Z n){base:Nat}(hv:a.eval x= .pointer (Z ⟨b,base+off,Y⟩))
     (hcell:∀j,j<O ds->w.cell? ⟨b,base+j,Y⟩=Z (f j)) (hr:∀j d,ds[j]? =Z d->aB γ (f j) d) (h1:∀d∈ds,d.one=true) {d:D}
    (hd:cutAt ds off n id cX=Z d):Done P G γ H w a o d H:=by
 unfold cutAt at hd;split at hd
 .obtain⟨d',bO,rfl⟩:=ak.1 hd;have hlt:=(af.1 bO).1;have q:=GX (P:=P) (w:=w) ht (b:=b) (off:=base+off) (f:=λj=>f (off+j)) (λj hj=>by
   have :j=0:=by simpa using hj
   subst this;exact hcell off hlt)
  exact .same I (v:=f off) (by simp[execOp,ho,hv,Instr.loadAt,Instr.sureAddr,q]) (hr off _ bO)
 .rename_i k;split at hd
  .rename_i hk;cases hd;have q:=GX (P:=P) (w:=w) ht (b:=b) (off:=base+off) (f:=λj=>f (off+j)) (λj hj=>by
    have hj:j<k:=by simpa using hj
    rw[wb];exact hcell (off+j) (by omega))
   refine .same I (v:=.agg ((j3 k).map λj=>f (off+j)).toArray) (by simp[execOp,ho,hv,Instr.loadAt,Instr.sureAddr,q]) (Di (R9 hk λj d hj hd=>hr _ _ hd) (λd hd=>h1 d (A2 hd)))
  .cases hd
theorem abn(I:Inv G γ H w)(E:aW γ env a.tmps){n:Option Nat}(ho:o.op= .load t x)(ht:lU P t=Z n)(hx:aL x=Z y)
    {d:D}  (he:aP G env H (.load n y)=Z (d,H')):Done P G γ H w a o d H':=by
 have aN:=cg E hx;simp only[aP] at he;obtain⟨d',hd,hh⟩:=ak.1 he;cases hh;unfold pU at hd;split at hd
 .rename_i i off hp;split at hd
  .rename_i cs hcs;rw[hp] at aN;split at hd
   .cases hd
   rename_i hm;have hm:ay cs=false:=by simpa using hm
   generalize dA:a.eval x=v at aN;cases aN with
   |box _ _ b hb=>
    obtain⟨vs,T,fr,q1,q2,q3,_⟩:=I.box i b cs hb hcs;rw[iu hm] at q1;have q3:=q3 hm;refine LO I ho ht (b:=b) (base:=0) (off:=off) (by rw[dA,ez]) (ds:=cs) (f:=λj=>vs.getD j undef) (λj hj=>?_) q2.2 q3 hd;have hj':j<vs.size:=vZ hj q2.1;simp[World.cell?,q1,hj',bP]
  .cases hd
 .rename_i cs off hp;rw[hp] at aN;generalize dA:a.eval x=v at aN;cases aN with
  |ro b base _ _ vs hm hr=>
   refine LO I ho ht (b:=b) (base:=base) (off:=off) dA (ds:=cs.map .p) (f:=vs) (λj hj=>I.mem _ _ _ (hm j (by simpa using hj))) (λj d hd=>?_) (λd hd=>?_) (A0 hd)
   .simp only[cG,ak] at hd;obtain⟨z,hz,rfl⟩:=hd;exact .p _ _ (hr j z hz).1
   .obtain⟨z,hz,rfl⟩:=cA.1 hd;obtain⟨j,hj⟩:=dV hz;exact(hr j z hj).2
 .rename_i g off hp;split at hd
  .rename_i cs hcs;rw[hp] at aN;generalize dA:a.eval x=v at aN;cases aN with
   |eB _ _=>
    have hg:=I.jv g cs hcs;refine LO I ho ht (b:=g) (base:=0) (off:=off) (by rw[dA,ez]) (ds:=cs.map .p) (f:=λj=>(γ.mem g j).getD undef) (λj hj=>?_) (λj d hd=>?_) (λd hd=>?_) (A0 hd)
    .have hj:j<O cs:=by simpa using hj
     obtain⟨_,v,q1,q2⟩:=hg j _ (aD hj);rw[q1];simp only[ez,mq];exact I.mem _ _ _ q1
    .simp only[cG,ak] at hd;obtain⟨z,hz,rfl⟩:=hd;obtain⟨_,v,q1,q2⟩:=hg j z hz;rw[q1];exact .p _ _ q2
    .obtain⟨z,hz,rfl⟩:=cA.1 hd;obtain⟨j,hj⟩:=dV hz;exact(hg j z hj).1
  .cases hd
 .cases hd
theorem abo(I:Inv G γ H w)(E:aW γ env a.tmps){y:Operand}{x' y':aA}{n:Nat}(ho:o.op= .store t x y)(ht:fN P t=Z n)(hx:aL x=Z x')(hy:aL y=Z y')
    {d:D}  (he:aP G env H (.store n x' y')=Z (d,H')):Done P G γ H w a o d H':=by
 have aN:=cg E hx;have fq:=cg E hy;simp only[aP] at he;obtain⟨H1,hd,hh⟩:=ak.1 he;cases hh;unfold yi at hd;split at hd
 .rename_i i off hp;split at hd
  .rename_i cs hcs;split at hd
   .rename_i hc;obtain⟨hm,hl,h1,fk,aoX⟩:=hc;cases hd;rw[hp] at aN;generalize dA:a.eval x=v at aN;cases aN with
    |box _ _ b hb=>
     obtain⟨vs,T,fr,q1,q2,q3,q4⟩:=I.box i b cs hb hcs;rw[iu hm] at q1;have mX:cs≠[]:=λe=>by subst e;simp at fk;omega
     have q4:=q4 mX;have q21:=q2.1;obtain⟨r1,r2⟩:=fq.cells h1;have GY:(a.eval y).cells.size=n:=by rw[r1.1,hl]
     have one:∀u∈(a.eval y).cells.toList,u.oneCell'=true:=by
      intro u hu;obtain⟨j,hj⟩:=dV hu;have hj':j<O (y'.ev env).cells:=by rw[<-r1.1];simpa using (af.1 hj).1
      have q:=r1.2 j _ (aD hj');have e:(a.eval y).cells.getD j undef=u:=by
       have :(a.eval y).cells[j]? =Z u:=by simpa using hj
       simp[bP,this]
      rw[e] at q;exact q.RD (r2 _ (dw hj'))
     have st:=GW (P:=P) b off T fr (a.eval y).cells.toList 0 vs w q1 (λk _ hk=>q4 k (bD _) hk) (by simp[GY];omega) one;simp only[nO] at st;have hl':O (y'.ev env).cells=O (a.eval y).cells.toList:=by rw[<-r1.1];simp
     obtain⟨s1,s2⟩:=I.store hb hcs (us:=(a.eval y).cells.toList) (ds:=(y'.ev env).cells) (off:=off) (by simpa using r1) r2 (by rw[hl];exact fk) q1 q4 q2 hm mX;refine⟨undef,_,γ,.inr ⟨?_,rfl⟩,.refl γ,s1,s2,.undef⟩;have e2:((a.eval y).cells.size≠n)=False:=by simp[GY]
     simp[execOp,ho,dA,Instr.storeAt,Instr.sureAddr,storeVar,lW ht,GY,st]
   .cases hd
  .cases hd
 .cases hd
theorem abp(I:Inv G γ H w){e:TypeId}(ho:o.op= .alloc e)(hz:zeroOf P e=Z z){d:D}(he:aP G env H (.alloc z.cells)=Z (d,H')):Done P G γ H w a o d H':=by
 simp only[aP] at he;split at he
 .rename_i h1;cases he;obtain⟨v,q1,q2⟩:=yu hz w;obtain⟨r1,r2⟩:=(uw γ.mem q2).cells;obtain⟨γ',a1,a2,a3,a4⟩:=I.RH (vs:=v.cells) (cs:=z.cells.map .p) e (GP r1 λi d hd=>(r2 i d hd).1).Db (λc hc=>by
   obtain⟨x,hx,rfl⟩:=cA.1 hc;exact gV.1 h1 x hx)
  exact⟨.pointer (Z ⟨w.heap.size,0,Y⟩),_,γ',.inl (by simp[execOp,ho,Instr.alloc,q1,newVar,newRow]),a1,a3,a4,.box _ _ _ a2⟩
 .cases he
theorem abq(I:Inv G γ H w)(E:aW γ env a.tmps){e:TypeId}(ho:o.op= .box e x)(hx:aL x=Z y){d:D}(he:aP G env H (.box y)=Z (d,H')):Done P G γ H w a o d H':=by
 have aN:=cg E hx;simp only[aP] at he;split at he
 .rename_i h1;cases he;obtain⟨r1,r2⟩:=aN.cells h1;obtain⟨γ',a1,a2,a3,a4⟩:=I.RH (vs:=(a.eval x).cells) (cs:=(y.ev env).cells) e r1.Db r2;exact⟨.pointer (Z ⟨w.heap.size,0,Y⟩),_,γ',.inl (by simp[execOp,ho,Instr.box,newVar,newRow]),a1,a3,a4,.box _ _ _ a2⟩
 .cases he
theorem LP(off:Nat):∀(us:List Value) (k:Nat) (cells:Array Value),
    ((us.zipIdx k).foldl (λcs (x:Value×Nat)=>cs.setIfInBounds (off+x.2) x.1) cells).size=cells.size/\
     ∀i,((us.zipIdx k).foldl (λcs (x:Value×Nat)=>cs.setIfInBounds (off+x.2) x.1) cells)[i]? =
      if off+k<=i/\i<off+k+O us then(if i<cells.size then us[i-(off+k)]? else Y) else cells[i]?
 |[],k,cells=>⟨rfl,λi=>by simp;intro h1 h2;omega⟩
 |u::us,k,cells=>by
  simp only[List.zipIdx_cons,tU];obtain⟨h1,h2⟩:=LP off us (k+1) (cells.setIfInBounds (off+k) u);refine⟨by rw[h1];simp,λi=>?_⟩;rw[h2];simp only[ZX,ew];by_cases ha:off+(k+1)<=i/\i<off+(k+1)+O us
  .have hc:off+k<=i/\i<off+k+(O us+1):=⟨by omega,by omega⟩;have :i-(off+k)=(i-(off+(k+1)))+1:=by omega
   simp only[ha,hc,and_self,if_true,this,vY]
  .rw[if_neg ha,K7];by_cases hb:off+k=i
   .subst hb;simp
   .have hc:¬(off+k<=i/\i<off+k+(O us+1)):=by omega
    rw[if_neg hb,if_neg hc]
theorem abr{cells:Array Value}(r:cv γ cells ds){xs:List D}(q:cv γ us xs)(h:off+O xs<=O ds):
    cv γ (us.zipIdx.foldl (λcs (x:Value×Nat)=>cs.setIfInBounds (off+x.2) x.1) cells) (aw ds off xs):=by
 have e:us.zipIdx.foldl (λcs (x:Value×Nat)=>cs.setIfInBounds (off+x.2) x.1) cells=(us.toList.zipIdx 0).foldl (λcs (x:Value×Nat)=>cs.setIfInBounds (off+x.2) x.1) cells:=by
  rw[<-ZY];simp
 rw[e];obtain⟨h1,h2⟩:=LP off us.toList 0 cells;have LD:us.size=O xs:=q.1;have dG:cells.size=O ds:=r.1;refine⟨by rw[h1,LC _ _ _ h];exact r.1,λi d hd=>?_⟩;rw[RL _ _ _ h] at hd;have s8:=h2 i;simp only[nO,qq] at s8;by_cases a1:i<off
 .rw[if_pos a1] at hd;rw[if_neg (by omega)] at s8;have:=r.2 i d hd;simpa[bP,s8] using this
 .rw[if_neg a1] at hd;by_cases a2:i<off+O xs
  .rw[if_pos a2] at hd;rw[if_pos (by omega),if_pos (by omega)] at s8;have:=q.2 (i-off) d hd;simpa[bP,s8] using this
  .rw[if_neg a2] at hd;rw[if_neg (by omega)] at s8;have:=r.2 i d hd;simpa[bP,s8] using this
theorem GZ(E:aW γ env a.tmps){place:Nat->Option (Nat×Nat)}:∀(ps:List (Nat×Operand)) (qs:List (Nat×Nat×aA)) (cells:Array Value) (ds eL:List D),partsOf P place ps=Z qs->
    cv γ cells ds->(∀d∈ds,d.one=true)->aF ds (qs.map λq=>(q.1,q.2.1,q.2.2.ev env))=Z eL->
    ∃cells',Instr.fill place cells (ps.map λp=>(p.1,a.eval p.2))=Z cells'/\cv γ cells' eL/\∀d∈eL,d.one=true
 |[],qs,cells,ds,eL,hp,r,h1,h=>by
  simp only[partsOf] at hp;cases hp;simp only[j4,aF] at h;cases h;exact⟨cells,rfl,r,h1⟩
 |(i,x)::ps,qs,cells,ds,eL,hp,r,h1,h=>by
  simp only[partsOf] at hp;split at hp
  .rename_i off n y hpl hy;obtain⟨LQ,hq,rfl⟩:=ak.1 hp;simp only[cB,aF] at h;split at h
   .rename_i hc;obtain⟨c1,c2,c3⟩:=hc;have fq:=cg E hy;obtain⟨r1,r2⟩:=fq.cells c3;have hsz:(a.eval x).cells.size=n:=by rw[r1.1,c1]
    have hcs:cells.size=O ds:=r.1;have lay:=abr r r1 (off:=off) (by omega);obtain⟨cells',q1,q2,q3⟩:=GZ E ps LQ _ _ eL hq lay (λd hd=>by
     rcases RM hd with h |h
     .exact h1 d h
     .exact r2 d h) h
    refine⟨cells',?_,q2,q3⟩;simp only[cB,Instr.fill,hpl,hsz];rw[if_neg (by simp;omega)];exact q1
   .cases h
  .cases hp
theorem abt{fs:List Field}(h:GJ P fs=Z pl)(w:World):(fs.mapM λf=>(do pure (f.offset,<-sizeOf f.type):Sem (Nat×Nat))).run P w= .ok pl w:=by
 unfold GJ at h
 induction fs generalizing pl with
 |nil=>simp only[aH] at h;cases h;rfl
 |cons f fs ih=>
  simp only[aH] at h;split at h
  .rename_i b hb;obtain⟨pl',h',rfl⟩:=ak.1 h;obtain⟨n,hn,rfl⟩:=ak.1 hb;have:=ih h';simp[List.mapM_cons,lW hn] at this|-;rw[this];simp
  .cases h
theorem Sa(I:Inv G γ H w){zs:List PD}(ho:o.op= .build t parts)(hz:zeroOf P t=Z (.agg zs)){place:Nat->Option (Nat×Nat)}
    (hb:∀(z:Value) (cells':Array Value),(zeroValue t).run P w= .ok z w->Instr.fill place z.cells (parts.toList.map λp=>(p.1,a.eval p.2))=Z cells'->(execOp a.eval o).run P w= .ok (.value (.agg cells')) w)
    (hf:∀(cells:Array Value),cv γ cells (zs.map .p)->∃cells',Instr.fill place cells (parts.toList.map λp=>(p.1,a.eval p.2))=Z cells'/\cv γ cells' ds/\∀d∈ds,d.one=true):Done P G γ H w a o (cX ds) H:=by
 have _:=ho;obtain⟨z,q1,q2⟩:=yu hz w;obtain⟨r1,r2⟩:=(uw γ.mem q2).cells;obtain⟨cells',p1,p2,p3⟩:=hf z.cells (GP r1 λi d hd=>(r2 i d hd).1);exact .same I (v:=.agg cells') (hb z cells' q1 p1) (Di p2 p3)
theorem G0(parts:Array (Nat×Operand))(ρ:Operand->Value):(parts.map fun(x:Nat×Operand)=>(x.1,ρ x.2)).toList=parts.toList.map λp=>(p.1,ρ p.2):=by simp
theorem abu(I:Inv G γ H w)(E:aW γ env a.tmps){zs:List PD}{fs:Array Field}(ho:o.op= .build t parts)(ht:P.underlying t=Z (.struct fs))
    (hz:zeroOf P t=Z (.agg zs)) (hpl:GJ P fs.toList=Z pl) (hq:partsOf P (pl[·]?) parts.toList=Z qs) {d:D}  (he:aP G env H (.build zs qs)=Z (d,H')):Done P G γ H w a o d H':=by
 simp only[aP] at he;split at he
 .rename_i h1;obtain⟨ds,oh,hh⟩:=ak.1 he;cases hh;refine Sa I ho hz (place:=(pl[·]?)) (λz cells' hz' hf=>?_) (λcells hc=>?_)
  .have hm:=abt hpl w;have LR:(fs.mapM λf=>(do pure (f.offset,<-sizeOf f.type):Sem (Nat×Nat))).run P w= .ok pl.toArray w:=by
    rw[Array.mapM_eq_mapM_toList];simp only[Sem.run_map,hm,Result.andThen_ok]
   have hg:∀i:Nat,pl.toArray[i]? =pl[i]?:=λi=>by simp
   have hg':(λi:Nat=>pl.toArray[i]?)=(λi=>pl[i]?):=funext hg;have hp:(parts.map fun(x:Nat×Operand)=>(x.1,a.eval x.2)).toList=parts.toList.map λp=>(p.1,a.eval p.2):=G0 parts a.eval;simp only[execOp,ho,Instr.build,Sem.run_bind,hz',Result.andThen_ok,run_underlying ht,LR,hg',hp,hf,Sem.run_pure]
  .exact GZ E parts.toList qs cells (zs.map .p) ds hq hc (λd hd=>by
    obtain⟨x,hx,rfl⟩:=cA.1 hd;exact gV.1 h1 x hx) oh
 .cases he
theorem abw(I:Inv G γ H w)(E:aW γ env a.tmps){e:TypeId}{len n:Nat}{zs:List PD}(ho:o.op= .build t parts)(ht:P.underlying t=Z (.array len e))
    (hz:zeroOf P t=Z (.agg zs)) (hn:fN P e=Z n) (hq:partsOf P (λi=>Z (i*n,n)) parts.toList=Z qs) {d:D}  (he:aP G env H (.build zs qs)=Z (d,H')):Done P G γ H w a o d H':=by
 simp only[aP] at he;split at he
 .rename_i h1;obtain⟨ds,oh,hh⟩:=ak.1 he;cases hh;refine Sa I ho hz (place:=λi=>Z (i*n,n)) (λz cells' hz' hf=>?_) (λcells hc=>?_)
  .have hp:(parts.map fun(x:Nat×Operand)=>(x.1,a.eval x.2)).toList=parts.toList.map λp=>(p.1,a.eval p.2):=G0 parts a.eval;simp only[execOp,ho,Instr.build,Sem.run_bind,hz',Result.andThen_ok,run_underlying ht,lW hn,hp,hf,Sem.run_pure]
  .exact GZ E parts.toList qs cells (zs.map .p) ds hq hc (λd hd=>by
    obtain⟨x,hx,rfl⟩:=cA.1 hd;exact gV.1 h1 x hx) oh
 .cases he
def gT(m:Mem)(sz:Nat)(cs:Array Value)(es:List PD):Prop:=
 cs.size=O es*sz/\(∀e∈es,O e.cells=sz/\∀c∈e.cells,c.one=true)/\∀(i:Nat) e (j:Nat) c,es[i]? =Z e->e.cells[j]? =Z c->aQ m (cs.getD (i*sz+j) undef) c
theorem gT.set{e:PD}{i:Nat}(r:gT m sz cs es)(hi:i<O es)(hu:us.size=sz)(he:O e.cells=sz)(h1:∀c∈e.cells,c.one=true)
    (hr:∀j c,e.cells[j]? =Z c->aQ m (us.getD j undef) c):gT m sz (us.zipIdx.foldl (λcs (x:Value×Nat)=>cs.setIfInBounds (i*sz+x.2) x.1) cs) (es.set i e):=by
 have ee:us.zipIdx.foldl (λcs (x:Value×Nat)=>cs.setIfInBounds (i*sz+x.2) x.1) cs=(us.toList.zipIdx 0).foldl (λcs (x:Value×Nat)=>cs.setIfInBounds (i*sz+x.2) x.1) cs:=by
  rw[<-ZY];simp
 rw[ee];obtain⟨h2,h3⟩:=LP (i*sz) us.toList 0 cs;obtain⟨r1,r2,r3⟩:=r;refine⟨by rw[h2];simpa using r1,λx hx=>?_,λk x j c hk hc=>?_⟩
 .rcases K8 hx with h |rfl
  .exact r2 x h
  .exact⟨he,h1⟩
 .have uC:=h3 (k*sz+j);simp only[nO,qq] at uC;have hj:∀y:PD,y.cells[j]? =Z c->O y.cells=sz->j<sz:=λy hy hl=>by rw[<-hl];exact(af.1 hy).1
  by_cases hik:i=k
  .subst hik;rw[eA hi] at hk;cases hk;have hj:=hj e hc he;have hlt:i*sz+j<cs.size:=by
    rw[r1]
    calc i*sz+j<i*sz+sz:=by omega
     _=(i+1)*sz:=by rw[fX,nP]
     _<=O es*sz:=ju _ hi
   rw[if_pos ⟨by omega,by omega⟩,if_pos hlt] at uC;have:=hr j c hc;have e3:i*sz+j-i*sz=j:=by omega
   rw[e3] at uC;simpa[bP,uC] using this
  .rw[bp hik] at hk;have hj:=hj x hc (r2 x (bB hk)).1;have hout:¬(i*sz<=k*sz+j/\k*sz+j<i*sz+us.size):=by
    rw[hu];intro hh;have h1:i<k+1:=by
     apply aop (a:=sz);rw[fX,nP];omega
    have h2:k<i+1:=by
     apply aop (a:=sz);rw[fX,nP];omega
    omega
   rw[if_neg hout] at uC;have:=r3 k x j c hk hc;simpa[bP,uC] using this
theorem Sb(E:aW γ env a.tmps)(sz:Nat):∀(ps:List (Nat×Operand)) (qs:List (Nat×aA)) (cells:Array Value) (es es':List PD),AX ps=Z qs->
    gT γ.mem sz cells es->pT sz es (qs.map λq=>(q.1,q.2.ev env))=Z es'->
    ∃cells',Instr.fill (λi=>Z (i*sz,sz)) cells (ps.map λp=>(p.1,a.eval p.2))=Z cells'/\gT γ.mem sz cells' es'
 |[],qs,cells,es,es',hp,r,h=>by
  simp only[AX] at hp;cases hp;simp only[j4,pT] at h;cases h;exact⟨cells,rfl,r⟩
 |(i,x)::ps,qs,cells,es,es',hp,r,h=>by
  simp only[AX] at hp;split at hp
  .rename_i y hy;obtain⟨LQ,hq,rfl⟩:=ak.1 hp;simp only[cB,pT] at h;split at h
   .rename_i z hz;split at h
    .rename_i hc;obtain⟨c1,c2,c3⟩:=hc;have fq:=yz (cg E hy) hz;obtain⟨r1,r2⟩:=fq.cells;have hsz:(a.eval x).cells.size=sz:=by rw[r1,c1]
     have fk:i*sz+sz<=cells.size:=by
      rw[r.1]
      calc i*sz+sz=(i+1)*sz:=by rw[fX,nP]
       _<=O es*sz:=ju _ c3
     have lay:=r.set (us:=(a.eval x).cells) (e:=z) c3 hsz c1 (gV.1 c2) (λj c hc=>(r2 j c hc).1);obtain⟨cells',q1,q2⟩:=Sb E sz ps LQ _ _ es' hq lay h;refine⟨cells',?_,q2⟩;simp only[cB,Instr.fill,hsz];rw[if_neg (by simp;omega)];exact q1
    .cases h
   .cases h
  .cases hp
theorem gT.slice(r:gT m sz cs es){cap:Nat}(hc:O es<=cap)(hm:∀o,o<O es*sz->m b o=cs[o]?):aQ m (.slice (Z ⟨b,0,Y⟩) (O es) cap) (.slice sz es):=by
 obtain⟨r1,r2,r3⟩:=r;refine .sl b 0 cap sz es (λi j=>cs.getD (i*sz+j) undef) hc (λe he=>(r2 e he).1) (λe he=>(r2 e he).2) (λi j hi hj=>?_) r3;have hlt:i*sz+j<O es*sz:=by
  calc i*sz+j<i*sz+sz:=by omega
   _=(i+1)*sz:=by rw[fX,nP]
   _<=O es*sz:=ju _ hi
 rw[ez,hm _ hlt];have :i*sz+j<cs.size:=by rw[r1];exact hlt
 simp[this,bP]
theorem gT.mono{m':Mem}(h:Mem.le m m')(r:gT m sz cs es):gT m' sz cs es:=⟨r.1,r.2.1,λi e j c he hc=>(r.2.2 i e j c he hc).mono h⟩
theorem LS{v:Value}(hz:aQ m v z){len:Nat}(h1:O z.cells=sz)(h2:∀c∈z.cells,c.one=true):gT m sz ((K9 (len*sz)).map λi=>v.cells[i%v.cells.size]!) (dX len z):=by
 obtain⟨r1,r2⟩:=hz.cells;refine⟨by simp,λe he=>?_,λi e j c he hc=>?_⟩
 .obtain⟨_,rfl⟩:=ZZ.1 he;exact⟨h1,h2⟩
 .have A3:=ZZ.1 (bB he);obtain⟨_,rfl⟩:=A3;have hi:i<len:=by have:=(af.1 he).1;simpa using this
  have hj:j<sz:=by rw[<-h1];exact(af.1 hc).1
  have hlt:i*sz+j<len*sz:=by
   calc i*sz+j<i*sz+sz:=by omega
    _=(i+1)*sz:=by rw[fX,nP]
    _<=len*sz:=ju _ hi
  have yA:(i*sz+j)%v.cells.size=j:=by
   rw[r1,h1,CT,aoq,aor hj]
  have oT:j<v.cells.size:=by rw[r1,h1];exact hj
  have:=(r2 j c hc).1;have e:((K9 (len*sz)).map λi=>v.cells[i%v.cells.size]!).getD (i*sz+j) undef=v.cells.getD j undef:=by
   simp[bP,hlt,yA,oT]
  rw[e];exact this
theorem abx(I:Inv G γ H w)(E:aW γ env a.tmps){e:TypeId}{len n:Nat}{qs:List (Nat×aA)}(ho:o.op= .buildSlice t len parts)(ht:P.underlying t=Z (.slice e))
    (hn:fN P e=Z n) (hz:zeroOf P e=Z z) (hq:AX parts.toList=Z qs) (uD:len*n<=16777216/\0<n) {d:D}  (he:aP G env H (.bslice e n len z qs)=Z (d,H')):Done P G γ H w a o d H':=by
 simp only[aP] at he;split at he
 .rename_i h1;obtain⟨es,hes,hh⟩:=ak.1 he;cases hh;obtain⟨v,q1,q2⟩:=yu hz w;have hv:=uw γ.mem q2;have hp:(parts.map fun(x:Nat×Operand)=>(x.1,a.eval x.2)).toList=parts.toList.map λp=>(p.1,a.eval p.2):=G0 parts a.eval;have zr:gT γ.mem n ((K9 (len*n)).map λi=>(if len*n=0 then #[] else v.cells)[i%(if len*n=0 then(#[]:Array Value) else v.cells).size]!) (dX len z):=by
   by_cases h0:len*n=0
   .have :len=0:=by
     rcases Nat.mul_eq_zero.1 h0 with h |h
     .exact h
     .omega
    subst this;refine⟨by simp,λe he=>by simp at he,λi e j c he _=>by simp at he⟩
   .simp only[h0,if_false];exact LS hv h1.1 (gV.1 h1.2)
  obtain⟨cells',c1,c2⟩:=Sb E n parts.toList qs _ _ es hq zr hes;have hlen:O es=len:=by
   have hsz:=c2.1;have :∀(l:List (Nat×D)) (es es':List PD),pT n es l=Z es'->O es'=O es:=by
    intro l
    induction l with
    |nil=>intro es es' h;simp only[pT] at h;cases h;rfl
    |cons x l ih=>
     intro es es' h;obtain⟨i,y⟩:=x;simp only[pT] at h;split at h
     .split at h
      .rw[ih _ _ h];simp
      .cases h
     .cases h
   rw[this _ _ _ hes];simp
  obtain⟨a1,a2,a3⟩:=I.newRow cells' e (0,0) ⟨bD _,aK _⟩;have hrun:(execOp a.eval o).run P w= .ok (.value (.slice (Z ⟨w.heap.size,0,Y⟩) len len)) (w.alloc (.cells cells' e)):=by
   have e1:¬(len*n>2 ^ 24):=by have:=uD.1;omega
   simp only[execOp,ho,Instr.buildSlice,Sem.run_bind,Result.andThen_ok,run_underlying ht,lW hn,e1,if_false,hp];by_cases h0:len*n=0
   .have hr:K9 0= #[]:=rfl;simp only[h0,if_true,hr,Array.map_empty] at c1;simp[h0,hr,c1,newRow]
   .simp only[h0,if_false] at c1;simp[h0,q1,c1,newRow]
  refine⟨_,_,_,.inl hrun,a1,a2,a3,?_⟩;have:=(c2.mono a1.mem).slice (b:=w.heap.size) (cap:=O es) (aK _) (λo _=>by simp[Gh.eZ]);rw[hlen] at this;refine .cC _ _ _ _ _ I.size ?_ hlen.symm this;have hcs:=c2.1;rw[hlen] at hcs;simp[Gh.eZ,hcs]
 .cases he

end Go.Vs

namespace Go.Vs

variable {P : Program} {G : Nat -> Option (List PD)} {γ : Gh} {H : Hp} {w : World} {env : Env} {a : Act} {o : Oper}
structure Src (P:Program) (m:Mem) (w:World) (sz:Nat) (x:Value) (xs:List PD) (news:Array Value):Prop where
 len:∀w',(Builtin.lenOf x).run P w'= .ok (O xs) w'
 cells:∀w',(∀ad,w'.cell? ad=w.cell? ad)->(Builtin.firstCells sz (O xs) x).run P w'= .ok news w'
 rep:gT m sz news xs
variable{es xs:List PD}{m:Mem}{sz i off b:Nat}{v:Value}
theorem gT.one{cs:Array Value}(r:gT m sz cs es)(hs:0<sz):∀v∈cs.toList,v.oneCell'=true:=by
 intro v hv;obtain⟨k,hk⟩:=dV hv;have kG:cs[k]? =Z v:=by simpa using hk
 have hlt:k<cs.size:=(fG.1 kG).1;obtain⟨r1,r2,r3⟩:=r;have hi:k/sz<O es:=by rw[aos hs,<-r1];exact hlt
 have he:=aD hi;obtain⟨e1,e2⟩:=r2 _ (dw hi);have hj:k%sz<O (es[k/sz]).cells:=by rw[e1];exact Nat.mod_lt _ hs
 have hc:=aD hj;have q:=r3 _ _ _ _ he hc;have ek:k/sz*sz+k%sz=k:=by rw[tV];exact aot k sz
 rw[ek] at q;have :cs.getD k undef=v:=by simp[bP,kG]
 rw[this] at q;exact q.one (e2 _ (bB hc))
theorem LU(I:Inv G γ H w)(hs:0<sz)(h:aQ γ.mem v (.slice sz es)):∃news,Src P γ.mem w sz v es news:=by
 obtain⟨ad,cap,rfl,dQ,hne⟩:=p6 h;by_cases h0:es=[]
 .subst h0;refine⟨#[],⟨λw'=>by simp[Builtin.lenOf],λw' _=>?_,by simp,λe he=>by simp at he,λi e j c he=>by simp at he⟩⟩;cases ad<;>simp[Builtin.firstCells,loadCells,loadCellsFrom]
 .obtain⟨b,off,vs,rfl,hsz,dP,hm,hr⟩:=hne h0;refine⟨((j3 (O es*sz)).map λk=>vs (k/sz) (k%sz)).toArray,⟨λw'=>by simp[Builtin.lenOf],λw' hw'=>?_,?_⟩⟩
  .refine run_firstCells_some (P:=P) w' sz (O es) _ _ _ _ (by simp) (λj v hj=>?_);have hlt:j<O es*sz:=by have:=(af.1 hj).1;simpa using this
   have hv:vs (j/sz) (j%sz)=v:=by simpa[hlt] using hj
   rw[Addr.add_lit,hw',<-hv];have hi:j/sz<O es:=by rw[aos hs];exact hlt
   have:=I.mem _ _ _ (hm (j/sz) (j%sz) hi (Nat.mod_lt _ hs));have ej:off+j/sz*sz+j%sz=off+j:=by rw[wb];congr 1;rw[tV];exact aot j sz
   rw[ej] at this;exact this
  .refine⟨by simp,λe he=>⟨hsz e he,dP e he⟩,λi e j c he hc=>?_⟩;have hi:i<O es:=(af.1 he).1;have hj:j<sz:=by rw[<-hsz e (bB he)];exact(af.1 hc).1
   have hlt:i*sz+j<O es*sz:=by
    calc i*sz+j<i*sz+sz:=by omega
     _=(i+1)*sz:=by rw[fX,nP]
     _<=O es*sz:=ju _ hi
   have hd:(i*sz+j)/sz=i:=by rw[tV,Nat.mul_add_div hs,Nat.div_eq_of_lt hj,nO]
   have jL:(i*sz+j)%sz=j:=by rw[CT,aoq,aor hj]
   have ee:(((j3 (O es*sz)).map λk=>vs (k/sz) (k%sz)).toArray).getD (i*sz+j) undef=vs i j:=by
    simp[bP,hlt,hd,jL]
   rw[ee];exact hr i _ _ c he hc
theorem Sc(I:Inv G γ H w)(hs:0<sz){d:D}(r:aB γ v d)(h:dJ sz d=Z xs):
    (∃news,Src P γ.mem w sz v xs news)/\((∃s,v= .string s)\/∃ad n c,v= .slice ad n c):=by
 unfold dJ at h;split at h
 .rename_i s;split at h
  .rename_i h1;subst h1;cases h;rw[r.cu.wB];refine⟨⟨(s.map λb=>Value.int .u8 b.toNat).toArray,⟨λw'=>?_,λw' _=>?_,by simp,λe he=>?_,λi e j c he hc=>?_⟩⟩,.inl ⟨_,rfl⟩⟩
   .simp[Builtin.lenOf,ByteArray.size]
   .have e:(⟨s.toArray⟩:ByteArray).extract 0 (O (xW (λb:UInt8=>PD.int IntKind.u8 (b.toNat:Int)) s))=⟨s.toArray⟩:=by
     apply ByteArray.ext;rw[ByteArray.data_extract];simp
    simp only[Builtin.firstCells,e];simp
   .obtain⟨b,_,rfl⟩:=cA.1 he;exact⟨rfl,λc hc=>by simp[PD.cells] at hc;subst hc;rfl⟩
   .simp only[cG,ak] at he;obtain⟨b,hb,rfl⟩:=he
    match j with
    | 0=>
     simp only[PD.cells,ey,bM] at hc;subst hc;have :((s.map λb=>Value.int .u8 b.toNat).toArray).getD (i*1+0) undef= .int .u8 b.toNat:=by simp[bP,hb]
     rw[this];exact .int _ _
    |j+1=>simp[PD.cells] at hc
  .cases h
 .cases h;have h:=r.cu.sY;subst h;refine⟨⟨#[],⟨λw'=>by simp[Builtin.lenOf],λw' _=>by simp[Builtin.firstCells],by simp,λe he=>by simp at he,λi e j c he=>by simp at he⟩⟩,.inr ⟨_,_,_,rfl⟩⟩
 .split at h
  .rename_i bQ es iZ;split at h
   .rename_i hsz;subst hsz;cases h;have q:=AZ r iZ;refine⟨LU I hs q,.inr ?_⟩;obtain⟨ad,cap,hv,_⟩:=p6 q;exact⟨_,_,_,hv⟩
   .cases h
  .cases h
theorem G1{sz:Nat}(hs:0<sz):∀(n:Nat) (ps:List PD),O ps=n*sz->(∀p∈ps,p.one=true)->O (chunks sz n ps)=n/\∀(i:Nat) e,(chunks sz n ps)[i]? =Z e->e.cells=(ps.drop (i*sz)).take sz
 | 0,ps,_,_=>⟨rfl,λi e h=>by simp[chunks] at h⟩
 |n+1,ps,hl,h1=>by
  have hl2:O (ps.drop sz)=n*sz:=by
   rw[wj,hl,fX,nP];omega
  obtain⟨q1,q2⟩:=G1 hs n (ps.drop sz) hl2 (λp hp=>h1 p (tT hp));have kH:sz<=O ps:=by rw[hl,fX,nP];omega
  refine⟨by simp only[chunks,ew,q1],λi e he=>?_⟩;cases i with
  |zero=>
   simp only[chunks,ey,bM] at he;subst he;rw[Nat.zero_mul,pM];split
   .rename_i c r;have hc:=h1 c (by simp);have :c.cells=[c]:=by cases c<;>first |rfl |cases hc
    rw[this];rfl
   .rfl
  |succ i=>
   simp only[chunks,vY] at he;rw[q2 i e he,CS];congr 2
   rw[fX,nP,CT]
theorem aby:∀{ds:List D} {ps:List PD},D.j6 ds=Z ps->(∀d∈ds,d.one=true)->∀p∈ps,p.one=true:=by
 intro ds ps h h1 p hp;obtain⟨k,hk⟩:=dV hp;obtain⟨_,h3⟩:=yy h;obtain⟨d,a1,a2⟩:=h3 k p hk;exact Dk a2 (h1 d (bB a1))
theorem abz(I:Inv G γ H w){n:Nat}(hs:0<sz)(hb:γ.boxes[i]? =Z b)(h:C7 H i off n sz=Z xs):
    O xs=n/\∃news:Array Value,gT γ.mem sz news xs/\∀j v,news[j]? =Z v->w.cell? ⟨b,off+j,Y⟩=Z v:=by
 unfold C7 at h;split at h
 .rename_i cs hcs;split at h
  .rename_i fk;obtain⟨hm,fk⟩:=fk;obtain⟨ps,jM,rfl⟩:=ak.1 h;obtain⟨vs,T,fr,q1,q2,q3,_⟩:=I.box i b cs hb hcs;rw[iu hm] at q1;have q3:=q3 hm;have bW:O (sub cs off (off+n*sz))=n*sz:=by rw[wC _ _ _ fk];omega
   obtain⟨l1,l2⟩:=yy jM;have hpl:O ps=n*sz:=l1.trans bW;have dP:=aby jM (λd hd=>q3 d (A2 hd));obtain⟨c1,c2⟩:=G1 hs n ps hpl dP;refine⟨c1,((j3 (n*sz)).map λk=>vs.getD (off+k) undef).toArray,⟨by simp[c1],λe he=>?_,λk e j c hk hc=>?_⟩,λj v hj=>?_⟩
   .obtain⟨k,hk⟩:=dV he;have iw:k<n:=by rw[<-c1];exact(af.1 hk).1
    have hc:=c2 k e hk;have hle:k*sz+sz<=n*sz:=by
     calc k*sz+sz=(k+1)*sz:=by rw[fX,nP]
      _<=n*sz:=ju _ iw
    refine⟨by rw[hc];simp;omega,λc hcm=>?_⟩;rw[hc] at hcm;exact dP c (tT (jn hcm))
   .have iw:k<n:=by rw[<-c1];exact(af.1 hk).1
    have hcc:=c2 k e hk;rw[hcc,gL] at hc;split at hc
    .rename_i hj;rw[lN] at hc;have hlt:k*sz+j<n*sz:=by
      calc k*sz+j<k*sz+sz:=by omega
       _=(k+1)*sz:=by rw[fX,nP]
       _<=n*sz:=ju _ iw
     obtain⟨d,a1,a2⟩:=l2 (k*sz+j) c hc;rw[oQ,if_pos (by omega)] at a1;have hr:=q2.2 _ d a1;have e1:(((j3 (n*sz)).map λk=>vs.getD (off+k) undef).toArray).getD (k*sz+j) undef=vs.getD (off+(k*sz+j)) undef:=by
      simp[bP,hlt]
     rw[e1];exact yz hr a2
    .cases hc
   .have hlt:j<n*sz:=by have:=(fG.1 hj).1;simpa using this
    have hv:vs.getD (off+j) undef=v:=by simpa[hlt] using hj
    have lT:off+j<vs.size:=by have:=q2.1;omega
    rw[<-hv];simp[World.cell?,q1,lT,bP]
  .cases h
 .cases h
theorem Sd(I:Inv G γ H w){n c:Nat}(hs:0<sz)(hb:γ.boxes[i]? =Z b)(h:C7 H i off n sz=Z xs):∃news,Src P γ.mem w sz (.slice (Z ⟨b,off,Y⟩) n c) xs news:=by
 obtain⟨hl,news,h1,h2⟩:=abz I hs hb h;refine⟨news,⟨λw'=>by simp[Builtin.lenOf,hl],λw' hw'=>?_,h1⟩⟩;refine run_firstCells_some (P:=P) w' sz (O xs) _ _ _ _ (by simpa using h1.1) (λj v hj=>?_);rw[Addr.add_lit,hw'];exact h2 j v (by simpa using hj)
theorem abA(I:Inv G γ H w)(hs:0<sz){d:D}(r:aB γ v d)(h:yh H sz d=Z xs):
    (∃news,Src P γ.mem w sz v xs news)/\((∃s,v= .string s)\/∃ad n c,v= .slice ad n c):=by
 unfold yh at h;split at h
 .rename_i i off n cap bQ;split at h
  .rename_i hsz;subst hsz;cases r with
   |bH _ _ _ _ _ b c hb hc dQ=>exact⟨Sd I hs hb h,.inr ⟨_,_,_,rfl⟩⟩
  .cases h
 .rename_i i e n bQ;split at h
  .rename_i hsz;subst hsz;cases r with
   |ae _ _ _ _ b c hb hc hm dY=>exact⟨Sd I hs hb h,.inr ⟨_,_,_,rfl⟩⟩
  .cases h
 .exact Sc I hs r h

section
variable{t u ty e : TypeId} {i : TypeInfo} {z : Value} {du : TypeDesc} (ht : P.underlying t = Z (.slice e)) (hu : P.underlying u = Z du) (ib : (∃ e', du = .slice e') \/ du = .string) (hi : P.info? e = Z i) (hz : i.zero = Z z)
 {x:Value}  {news:Array Value}  (S:Src P m w i.size x xs news)
include ht hu ib hi S
theorem Sg(h0:xs=[])(base:Option Addr)(n cap:Nat)(hc:n<=cap):(Builtin.append_ #[t,u] ty #[.slice base n cap,x]).run P w= .ok (.slice base n cap) w:=by
 subst h0;have hn:news= #[]:=by have:=S.rep.1;simpa using this
 subst hn;have hl:=S.len w;have hcs:=S.cells w (λ_=>rfl);simp only[fH] at hl hcs;rcases ib with⟨e',rfl⟩ |rfl<;>cases base<;>simp[Builtin.append_,run_underlying ht,run_underlying hu,sizeOf,typeInfo,hi,hl,hc,hcs,storeCells]
theorem abB(g n cap:Nat)(cur:Array Value)(fr:Nat×Nat)(hg:w.heap[g]? =Z (.cells cur e fr))(yr:clear fr (n*i.size) cur.size)(hroom:n+O xs<=cap)(fk:n*i.size+news.size<=cur.size)(hs:0<i.size):
    (Builtin.append_ #[t,u] ty #[.slice (Z ⟨g,0,Y⟩) n cap,x]).run P w=
     .ok (.slice (Z ⟨g,0,Y⟩) (n+O xs) cap) (w.setRow g (cur.toList.take (n*i.size)++news.toList++cur.toList.drop (n*i.size+news.size)).toArray):=by
 have hl:=S.len w;have hcs:=S.cells w (λ_=>rfl);have hst:=GW (P:=P) g (n*i.size) e fr news.toList 0 cur w hg (by simpa using yr) (by simpa using fk) (S.rep.one hs);simp only[nO,qq] at hst;rcases ib with⟨e',rfl⟩ |rfl<;>simp[Builtin.append_,run_underlying ht,run_underlying hu,sizeOf,typeInfo,hi,hl,hroom,hcs,Addr.add_lit,hst]

include hz
theorem abC(base:Option Addr)(n cap:Nat)(olds:Array Value)(hold:∀w',(∀ad,w'.cell? ad=w.cell? ad)->(Builtin.firstCells i.size n (.slice base n cap)).run P w'= .ok olds w')
    (hno:cap<n+O xs) (h63:((n+O xs:Nat):Int)<=9223372036854775807) (hb:(n+O xs)*i.bytes<=140737488355328):
    (Builtin.append_ #[t,u] ty #[.slice base n cap,x]).run P w=
     .ok (.slice (Z ⟨w.heap.size,0,Y⟩) (n+O xs) (grownCap w (n+O xs) cap e))
      (w.drew.alloc (.cells (olds++news++Builtin.zeroCells z.cells (grownCap w (n+O xs) cap e-(n+O xs))) e)):=by
 have hl:=S.len w;have hcs:=S.cells w.drew (λ_=>rfl);have uu:=hold w.drew (λ_=>rfl);have hn:¬(n+O xs<=cap):=by omega
 have LV:¬(9223372036854775807<((n:Int)+(O xs:Int))):=by omega
 have LW:¬(281474976710656<Builtin.nextslicecap (n+O xs) cap*i.bytes):=by have:=growslice_fits hno hb;omega
 rcases ib with⟨e',rfl⟩ |rfl<;>simp[Builtin.append_,run_underlying ht,run_underlying hu,sizeOf,typeInfo,zeroValue,hi,hz,hl,hn,LV,LW,Question.forced,uu,hcs,newRow,grownCap]
end

end Go.Vs
