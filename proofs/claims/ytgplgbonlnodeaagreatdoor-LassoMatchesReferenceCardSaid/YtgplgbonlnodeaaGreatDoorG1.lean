/-
  A value-level evaluator for Go functions; the functions of this cut by it; plain laws. Text G1.
-/
import Derived.Calls
import Derived.Tactics
import Derived.Laws.AppendOwn
import Derived.Laws.Slices
import Derived.Laws.Pointers
import Derived.Laws.Concat
import Derived.Laws.Strings
import Derived.Laws.BytesArg
import Derived.Laws.IdiomStrings
import Derived.Lib.UnsafeStr
open Array renaming eq_empty_of_size_eq_zero->CD,ext'->wC,foldl_toList->Wo,getD_eq_getD_getElem?->cg,getElem?_append->zp,getElem?_eq_getElem->oz,getElem?_eq_some_iff->gp,getElem?_extract->alG,getElem?_setIfInBounds->MU,length_toList->pF,range->G8,size_append->MW,toList_append->Wr
open Bool renaming and_eq_true->bG,false_eq_true->lh
open Classical renaming byContradiction->mM
open Int renaming toNat_natCast->nH
open List renaming all_eq_true->fy,append_assoc->jE,append_nil->gu,drop_drop->zk,drop_zero->pH,eq_nil_of_length_eq_zero->pE,ext_getElem?->j2,flatMap_cons->nG,foldl_cons->tY,getElem?_append_left->bF,getElem?_append_right->dO,getElem?_cons_succ->r7,getElem?_cons_zero->iY,getElem?_drop->lT,getElem?_eq_getElem->aw,getElem?_eq_some_iff->ak,getElem?_map->cC,getElem?_of_mem->c8,getElem?_set_ne->bH,getElem?_set_self->fe,getElem?_take->jF,getElem?_toArray->alM,getElem_mem->br,length_append->dF,length_cons->cY,length_drop->qq,length_eq_zero_iff->wB,length_map->bL,length_nil->dG,length_pos_iff->r9,length_replicate->se,map->tW,map_cons->bQ,map_drop->MT,map_nil->eE,map_take->G7,mem_append->cu,mem_flatMap->CC,mem_map->cv,mem_of_getElem?->bK,mem_of_mem_drop->qp,mem_of_mem_take->gP,mem_or_eq_of_mem_set->MV,mem_replicate->Wp,nil_append->eD,range->dH,replicate->cZ,take_append_drop->tX,take_of_length_le->fg
open Nat renaming add_assoc->oy,add_comm->wD,add_mul->eI,add_mul_mod_self_right->alI,add_zero->lU,div_add_mod->alL,div_lt_iff_lt_mul->alK,le_max_left->mL,le_max_right->j1,le_refl->aS,le_succ->alD,le_succ_of_le->alE,le_trans->eR,lt_of_lt_of_le->r8,lt_of_mul_lt_mul_right->alH,lt_or_ge->dI,mod_eq_of_lt->alJ,mul_comm->pG,mul_div_cancel_left->alF,mul_le_mul_right->fW,one_mul->lj,sub_self->wA,zero_add->dD,zero_le->bA,zero_mul->Wq
open Option renaming getD_some->kG,isSome_iff_exists->Wn,map_eq_some_iff->au,map_some->eZ
open Option.some renaming inj->lq,injEq->cH
open List renaming length->O
open Option renaming some->Z,none->Y
namespace Go.Vs
section
inductive PD where|bool (b:Bool)|int (k:IntKind) (n:Int)|str (s:List UInt8)|i7|aj|ly|iH|nN|slice (sz:Nat) (es:List PD)|bW (sz:Nat)|agg (cs:List PD)|iface (t:Nat) (x:PD)
instance:Inhabited PD:=⟨.i7⟩
def PD.cells:PD->List PD| .agg cs=>cs|x=>[x]
def PD.one:PD->Bool| .agg _=>false|_=>true
inductive D where|dead|undef|p (x:PD)|cw (e sz:Nat) (es:List PD)|aP (t e sz:Nat) (es:List PD)|box (i off:Nat)|dJ (g off:Nat)|ro (cs:List PD) (off:Nat)|agg (cs:List D)|aL (ds:List D)|fn (f:Nat) (first cap:List D)|aZ (i off n:Nat) (cap:Option Nat) (sz:Nat)|eJ (sz:Nat)|dK (t:Nat) (x:D)|bO (i:Nat)|bu (kd:Nat) (ks:List PD) (vs:List D)|af (i e n sz:Nat)|eF (sz:Nat) (es:List PD)
instance:Inhabited D:=⟨.dead⟩
instance:Coe Int D:=⟨λx=>.p (.int .i64 x)⟩
instance:Coe Int PD:=⟨λx=>.int .i64 x⟩
instance:Coe Nat D:=⟨λx=>.p (.int .i64 (x:Int))⟩
instance:Coe Nat PD:=⟨λx=>.int .i64 (x:Int)⟩
def D.cells:D->List D| .agg cs=>cs| .p (.agg cs)=>cs.map .p|d=>[d]
def D.one:D->Bool| .dead | .undef | .agg _ | .aL _ | .bu _ _ _=>false| .p x=>x.one|_=>true
def az:List D->Bool|[.bu _ _ _]=>true|_=>false
def eG:List D->Option (List PD)|[]=>Z []| .p x::r=>(eG r).map (x:: ·)|_=>Y
def bY(ds:List D):D:=match eG ds with|some cs=>.p (.agg cs)|none=>.agg ds
mutual
def D.dW:D->Option PD
 | .p x=>Z x
 | .cw _ sz es=>Z (match es with |[]=>.bW sz |_::_=>.slice sz es)
 | .aP _ _ sz es=>Z (.slice sz es)
 | .eJ sz=>Z (.slice sz [])
 | .eF sz es=>Z (.slice sz es)
 | .dK t d=>d.dW.map (.iface t)
 | .agg cs=>(D.gR cs).map .agg
 |_=>Y
def D.gR:List D->Option (List PD)
 |[]=>Z []
 |d::r=>match d.dW with
  |some x=>(D.gR r).map (x:: ·)
  |none=>Y
end
structure Hp where
 bx:List (List D)
 tk:List Nat
abbrev Env:=List (Nat×D)
def Env.get:Env->Nat->D|[],_=>.dead|(s,d)::e,t=>if s=t then d else Env.get e t
def Env.keep(ks:List Nat)(e:Env):Env:=ks.map λt=>(t,e.get t)
structure St where
 env:Env
 hp:Hp
inductive aE where|t (i:Nat)|c (d:D)
inductive SK where|move (x:aE)|pick (c a b:aE)|alloc (zs:List PD)|box (x:aE)|build (zs:List PD) (parts:List (Nat×Nat×aE))|bslice (e sz:Nat) (len:Nat) (z:PD) (parts:List (Nat×aE))|load (n:Option Nat) (x:aE)|store (n:Nat) (a v:aE)|nilCheck (x:aE)|bin (op:BinOp) (x y:aE)|eqk (kd:Nat) (neg:Bool) (x y:aE)|eqs (neg:Bool) (tags:List Nat) (x y:aE)|un (op:UnOp) (x:aE)|mkfn (f:Nat) (first cap:List aE)|slice (sz:Nat) (x:aE) (lo hi:Option aE)|stuck|appendg (e sz bytes:Nat) (s x:aE)|tassert (t:Nat) (z:PD) (ok:Bool) (x:aE)|sj (kd:Nat)|mapset (kd:Nat) (m k v:aE)|mapins (kd:Nat) (m k v:aE)|mapget (kd:Nat) (z:PD) (ok:Bool) (m k:aE)|faddr (x:aE) (off:Nat)|field (x:aE) (off:Nat) (n:Option Nat)|iaddr (len:Option Nat) (sz:Nat) (x i:aE)|index (arr:Option (Nat×Nat×Bool)) (x i:aE)|extract (x:aE) (i:Nat)|len (kd:Nat) (x:aE)|append (e sz bytes:Nat) (s x:aE)|conv (k:IntKind) (x:aE)|minmax (mx:Bool) (x y:aE)|makesl (sz:Nat) (z:PD) (bytes:Nat) (n c:aE)|bsliceG (e sz len:Nat) (z:PD) (parts:List (Nat×Nat×aE))|slice3 (sz:Nat) (x:aE) (lo:Option aE) (hi mx:aE)|iface (t:Nat) (x:aE)|call (f:aE) (args:List aE)|panic (x:aE)
structure SO where
 dst:Option Nat
 k:SK
 g:Option (Nat×Bool)
inductive SC where|skip|region (keep:List Nat) (ops:List SO)|draw (keep:List Nat) (aW:List (Nat×Nat)) (ops:List SO)|seq (a b:SC)|cond (c:aE) (a b:SC)|block (id:Nat) (b:SC)|loop (keep:List Nat) (b:SC)|tok (slot:Nat) (e sz:Nat)|tokb (slot off e sz:Nat)|stuck|scope (b:SC)|loc (b:SC)|j4 (b:SC)|j5 (f:Nat) (gen:List D->List D->Hp->Option (List (List D))) (g:aE) (ps:List Nat) (asg body:SC)|exit (id:Nat)|ret
inductive Ex where|norm|exit (id:Nat)|ret
inductive mQ where|t (i:Nat)|cell (i:Nat) (n:Option Nat)
structure CO where
 pre:List SC
 keep:List Nat
 ops:List SO
 f:aE
 as:List aE
structure FC where
 nt:Nat
 np:Nat
 res:List mQ
 body:SC
 aB:Bool:=false
 fN:Option CO:=Y
@[simp] def zI(n:Int):aE:=.c (.p (.int .i64 n))
@[simp] def zS(l:List UInt8):aE:=.c (.p (.str l))
@[simp] def zB(b:Bool):aE:=.c (.p (.bool b))
@[simp] def zo(d:Nat)(k:SK):SO:=⟨Z d,k,Y⟩
@[simp] def zv(k:SK):SO:=⟨Y,k,Y⟩
@[simp] def zg(d:Nat)(k:SK)(g:Nat)(b:Bool):SO:=⟨Z d,k,Z (g,b)⟩
@[simp] def zm(d s:Nat):SO:=⟨Z d,.move (.t s),Y⟩
@[simp] def zf(d s k:Nat):SO:=⟨Z d,.faddr (.t s) k,Y⟩
@[simp] def zl(d s:Nat):SO:=⟨Z d,.load Y (.t s),Y⟩
@[simp] def zL(d n s:Nat):SO:=⟨Z d,.load (Z n) (.t s),Y⟩
@[simp] def zs(n a b:Nat):SO:=⟨Y,.store n (.t a) (.t b),Y⟩
@[simp] def zn(d s:Nat):SO:=⟨Z d,.nilCheck (.t s),Y⟩
@[simp] def zi(d:Nat)(n:Int):SO:=⟨Z d,.move (.c (.p (.int .i64 n))),Y⟩
@[simp] def zc(d f:Nat)(l:List aE):SO:=⟨Z d,.call (.c (.fn f [] [])) l,Y⟩
@[simp] def zx(d s k:Nat):SO:=⟨Z d,.extract (.t s) k,Y⟩
@[simp] def ze(d n s:Nat):SO:=⟨Z d,.len n (.t s),Y⟩
@[simp] def za(d a b:Nat):SO:=⟨Z d,.pick (.t a) (.t b) (.c (.p (.bool false))),Y⟩
@[simp] def zb(d a b:Nat):SO:=⟨Z d,.pick (.t a) (.c (.p (.bool true))) (.t b),Y⟩
def FC.plain(fc:FC):Bool:=!fc.aB&&fc.fN.isNone
def FC.frozen(fc:FC):Bool:=fc.aB&&fc.fN.isNone
def aE.ev(env:Env):aE->D| .t i=>env.get i| .c d=>d
def jG(op:BinOp)(k:IntKind)(a b:Int):Option PD:=match op with| .add=>Z (.int k (k.wrap (a+b)))| .sub=>Z (.int k (k.wrap (a-b)))| .mul=>Z (.int k (k.wrap (a*b)))| .quo=>if b=0 then Y else Z (.int k (k.wrap (a.tdiv b)))| .rem=>if b=0 then Y else Z (.int k (a.tmod b))| .eql=>Z (.bool (a==b))| .neq=>Z (.bool (a !=b))| .lss=>Z (.bool (decide (a<b)))| .leq=>Z (.bool (decide (a<=b)))| .gtr=>Z (.bool (decide (a>b)))| .geq=>Z (.bool (decide (a≥b)))| .and=>Z (.int k (k.wrap ((BitVec.ofInt k.bits a&&& BitVec.ofInt k.bits b).toNat)))| .or=>Z (.int k (k.wrap ((BitVec.ofInt k.bits a|||BitVec.ofInt k.bits b).toNat)))| .xor=>Z (.int k (k.wrap ((BitVec.ofInt k.bits a ^^^ BitVec.ofInt k.bits b).toNat)))| .andNot=>Z (.int k (k.wrap ((BitVec.ofInt k.bits a&&& ~~~ BitVec.ofInt k.bits b).toNat)))| .shl=>if b<0 then Y else Z (.int k (k.wrap (a*2 ^ (min b.toNat k.bits))))| .shr=>if b<0 then Y else Z (.int k (a.fdiv (2 ^ (min b.toNat k.bits))))
def ui(op:BinOp)(a b:List UInt8):Option PD:=match op with| .add=>if O a+O b<=140737488355328 then Z (.str (a++b)) else Y| .eql=>Z (.bool (a==b))| .neq=>Z (.bool (!(a==b)))| .lss=>Z (.bool (Op.bytesLess a b))| .leq=>Z (.bool (Op.bytesLess a b||a==b))| .gtr=>Z (.bool (!(Op.bytesLess a b||a==b)))| .geq=>Z (.bool (!Op.bytesLess a b))|_=>Y
def PD.eqv(tag:Nat)(a b:PD):Option Bool:=match tag,a,b with| 0,.bool a,.bool b=>Z (a==b)| 1,.int k a,.int k' b=>if k=k' then Z (a==b) else Y| 2,.str a,.str b=>Z (a==b)|_,_,_=>Y
def oD:List Nat->List PD->List PD->Option Bool|[],[],[]=>Z true|t::s,a::x,b::y=>(match PD.eqv t a b,oD s x y with|some e,Z f=>Z (e&&f)|_,_=>Y)|_,_,_=>Y
def D.wM:D->Option Bool| .p .aj=>Z true| .p (.slice _ (_::_))=>Z false| .p (.bW _)=>Z false| .cw _ _ _=>Z false| .aP _ _ _ (_::_)=>Z false| .aZ _ _ _ _ _=>Z false| .af _ _ _ _=>Z false|_=>Y
def pL(kd:Nat)(a b:D):Option Bool:=match kd with| 0=>(match a,b with| .p (.bool x),.p (.bool y)=>Z (x==y)|_,_=>Y)| 1=>(match a,b with| .p .i7,.p .i7=>Z true| .box _ _,.p .i7=>Z false| .ro _ _,.p .i7=>Z false| .dJ _ _,.p .i7=>Z false|_,_=>Y)| 2=>(match b with| .p .aj=>a.wM|_=>Y)| 3=>(match a,b with| .p .ly,.p .ly=>Z true| .fn _ _ _,.p .ly=>Z false|_,_=>Y)| 4=>(match a,b with| .p .iH,.p .iH=>Z true| .p (.iface _ _),.p .iH=>Z false| .dK _ _,.p .iH=>Z false|_,_=>Y)|_=>Y
def wN(op:BinOp)(a b:D):Option D:=match a,b with| .p (.int k x),.p (.int k' y)=>if op= .shl\/op= .shr\/k=k' then(jG op k x y).map .p else Y| .p (.str x),.p (.str y)=>(ui op x y).map .p|_,_=>Y
def wO(op:UnOp)(a:D):Option D:=match op,a with| .not,.p (.bool b)=>Z (.p (.bool (!b)))| .neg,.p (.int k n)=>Z (.p (.int k (k.wrap (0-n))))|_,_=>Y
def D.jH:D->Option Nat| .p (.int _ n)=>if 0<=n then Z n.toNat else Y|_=>Y
def D.qx:D->Option Int| .p (.int _ n)=>Z n|_=>Y
def D.fO:D->Option (Nat×List PD)| .p (.slice sz es)=>Z (sz,es)| .p (.bW sz)=>Z (sz,[])| .cw _ sz es=>Z (sz,es)| .aP _ _ sz es=>Z (sz,es)| .eJ sz=>Z (sz,[])| .eF sz es=>Z (sz,es)|_=>Y
variable{fv rv:D}{env:Env}{fc:FC}{H:Hp}{a as:List D}{res:List mQ}{f m:Nat}{G:Nat->Option (List PD)}{T:Nat->Option (Nat×FC)}{s':St}{α:Type}
def sub(l:List α)(lo hi:Nat):List α:=(l.take hi).drop lo
def cutAt(l:List α)(off:Nat)(n:Option Nat)(one:α->D)(m:List α->D):Option D:=match n with|none=>(l[off]?).map one|some k=>if off+k<=O l then Z (m (sub l off (off+k))) else Y
def aA(l:List D)(off:Nat)(cs:List D):List D:=l.take off++cs++l.drop (off+O cs)
def aI(cells:List D):List (Nat×Nat×D)->Option (List D)|[]=>Z cells|(off,n,x)::r=>if O x.cells=n/\off+n<=O cells/\x.cells.all D.one then aI (aA cells off x.cells) r else Y
def mR(sz:Nat)(es:List PD):List (Nat×D)->Option (List PD)|[]=>Z es|(i,x)::r=>match x.dW with|some y=>if O y.cells=sz/\y.cells.all PD.one/\i<O es then mR sz (es.set i y) r else Y|none=>Y
def jo(n:Nat)(lo hi:Option D):Option (Nat×Nat):=match(match lo with |none=>Z 0 |some d=>d.jH),(match hi with |none=>Z n |some d=>d.jH) with|some l,Z h=>if l<=h/\h<=n then Z (l,h) else Y|_,_=>Y
def zD(i off:Nat)(cap:Option Nat)(sz l h:Nat):D:=match cap with|some c=>if c<=l then .eJ sz else .aZ i (off+l*sz) (h-l) (Z (c-l)) sz|none=>if l=h then .p (.slice sz []) else .aZ i (off+l*sz) (h-l) Y sz
def zE(sz:Nat)(x:D)(lo hi:Option D):Option D:=match sz with| 0=>(match x with| .p (.str s)=>(jo (O s) lo hi).map λb=>.p (.str (sub s b.1 b.2))|_=>Y)|_+1=>match x with| .p .aj=>(jo 0 lo hi).map λ_=>.p .aj| .aZ i off n cap S=>if S=sz then(jo n lo hi).map λb=>zD i off cap sz b.1 b.2 else Y| .af i e n S=>if S=sz then(jo n lo hi).map λb=>if b.1=0 then .af i e b.2 sz else zD i 0 Y sz b.1 b.2 else Y|x=>match x.fO with|some (S,es)=>if S=sz then(jo (O es) lo hi).map λb=>.p (.slice sz (sub es b.1 b.2)) else Y|none=>Y
def CP(sz:Nat)(x:D)(lo:Option D)(hi mx:D):Option D:=match hi.jH,mx.jH with|some h,Z m=>if h=m then (match x with| .p .aj=>(jo 0 lo (Z hi)).map λ_=>.p .aj| .aZ i off n _ s=>if s=sz then(jo n lo (Z hi)).map λb=>if b.1=b.2 then .eJ sz else .aZ i (off+b.1*sz) (b.2-b.1) (Z (b.2-b.1)) sz else Y| .af i _ n s=>if s=sz then(jo n lo (Z hi)).map λb=>if b.1=b.2 then .eJ sz else .aZ i (b.1*sz) (b.2-b.1) (Z (b.2-b.1)) sz else Y|x=>match x.fO with|some (s,es)=>if s=sz then(jo (O es) lo (Z hi)).map λb=>.eF sz (sub es b.1 b.2) else Y|none=>Y) else Y|_,_=>Y
def cV(len:Option Nat)(sz:Nat)(x:D)(i:Int):Option D:=match len with|none=>(match x with| .aZ b off n _ s=>if s=sz/\0<=i/\i<n then Z (.box b (off+i.toNat*sz)) else Y| .af b _ n s=>if s=sz/\0<=i/\i<n then Z (.box b (i.toNat*sz)) else Y|x=>(match x.fO with|some (s,es)=>if s=sz/\0<=i then(es[i.toNat]?).map λe=>.ro e.cells 0 else Y|none=>Y))|some n=>if 0<=i/\i<n then match x with| .box b o=>Z (.box b (o+i.toNat*sz))| .dJ g o=>Z (.dJ g (o+i.toNat*sz))| .ro cs o=>Z (.ro cs (o+i.toNat*sz))|_=>Y else Y
def u8(b:UInt8):D:=.p (.int .u8 b.toNat)
def uj(a:Option (Nat×Nat×Bool))(x:D)(i:Int):Option D:=match a with|none=>(match x with| .p (.str s)=>if 0<=i then(s[i.toNat]?).map u8 else Y|_=>Y)|some (n,sz,g)=>if 0<=i/\i<n then match x with| .p (.agg cs)=>cutAt cs (i.toNat*sz) (if g then Z sz else Y) .p λl=>.p (.agg l)| .agg cs=>cutAt cs (i.toNat*sz) (if g then Z sz else Y) id bY|_=>Y else Y
def c9(kd:Nat)(x:D):Option Nat:=match kd,x with| 0,.p (.str s)=>Z (O s)| 1,.p .aj=>Z 0| 1,.aZ _ _ n _ _=>Z n| 1,.af _ _ n _=>Z n| 1,x=>x.fO.map λe=>O e.2|_,_=>Y
def chunks(sz:Nat):Nat->List PD->List PD| 0,_=>[]|n+1,cs=>(match sz,cs with| 1,c::_=>c|_,_=>.agg (cs.take sz))::chunks sz n (cs.drop sz)
def zF(H:Hp)(i off n sz:Nat):Option (List PD):=match H.bx[i]? with|some cs=>if az cs=false/\off+n*sz<=O cs then(D.gR (sub cs off (off+n*sz))).map (chunks sz n) else Y|none=>Y
def dA(sz:Nat):D->Option (List PD)| .p (.str s)=>if sz=1 then Z (s.map λb=>.int .u8 b.toNat) else Y| .p .aj=>Z []|d=>match d.fO with|some (S,es)=>if S=sz then Z es else Y|none=>Y
def uk(H:Hp)(sz:Nat)(d:D):Option (List PD):=match d with| .aZ i off n _ s=>if s=sz then zF H i off n sz else Y| .af i _ n s=>if s=sz then zF H i 0 n sz else Y|d=>dA sz d
def roomy(n bytes:Nat):Bool:=n<=140737488355328&&n*bytes<=140737488355328
def dB(e sz bytes:Nat)(s:D)(xs:List PD)(H:Hp):Option (D×Hp):=match s with| .p .aj=>if roomy (O xs) bytes then Z (.aP (O H.tk) e sz xs,{H with tk:=H.tk++[O xs]}) else Y| .cw e' S es=>if e'=e/\S=sz/\roomy (O es+O xs) bytes then Z (.aP (O H.tk) e sz (es++xs),{H with tk:=H.tk++[O es+O xs]}) else Y| .aP t e' S es=>if e'=e/\S=sz/\H.tk[t]? =Z (O es)/\roomy (O es+O xs) bytes then Z (.aP t e sz (es++xs),{H with tk:=H.tk.set t (O es+O xs)}) else Y|_=>Y
def fA(H:Hp)(sz:Nat)(d:D):Option (Nat×List D):=match d with| .aZ i off n _ s=>if s=sz then(match H.bx[i]? with|some cs=>if az cs=false/\off+n*sz<=O cs then Z (n,sub cs off (off+n*sz)) else Y|none=>Y) else Y| .af i _ n s=>if s=sz then(match H.bx[i]? with|some cs=>if az cs=false/\0+n*sz<=O cs then Z (n,sub cs 0 (0+n*sz)) else Y|none=>Y) else Y|d=>(dA sz d).map λes=>(O es,(es.flatMap PD.cells).map .p)
def gS(sz:Nat)(s:D):Option (List PD):=match s with| .p .aj=>Z []| .eJ S=>if S=sz then Z [] else Y| .cw _ S es=>if S=sz then Z es else Y| .eF S es=>if S=sz then Z es else Y|_=>Y
def cW(e sz bytes:Nat)(s:D)(m:Nat)(xs:List D)(H:Hp):Option (D×Hp):=match s with| .af i e' n S=>if e'=e/\S=sz then(if m=0 then Z (s,H) else match H.bx[i]? with|some cs=>if az cs=false/\n*sz<=O cs/\cs≠[] then (if(n+m)*sz<=O cs then Z (.af i e (n+m) sz,{H with bx:=H.bx.set i (aA cs (n*sz) xs)}) else if roomy (n+m) bytes then Z (.af (O H.bx) e (n+m) sz,{H with bx:=H.bx.set i []++[cs.take (n*sz)++xs]}) else Y) else Y|none=>Y) else Y| .aZ i off n (Z c) S=>if S=sz then(if m=0 then Z (s,H) else match H.bx[i]? with|some cs=>if az cs=false/\off+n*sz<=O cs then (if n+m<=c then(if off+(n+m)*sz<=O cs then Z (.aZ i off (n+m) (Z c) sz,{H with bx:=H.bx.set i (aA cs (off+n*sz) xs)}) else Y) else if roomy (n+m) bytes then Z (.af (O H.bx) e (n+m) sz,{H with bx:=H.bx++[sub cs off (off+n*sz)++xs]}) else Y) else Y|none=>Y) else Y|s=>match gS sz s with|some es=>if m=0 then Z (s,H) else if roomy (O es+m) bytes then Z (.af (O H.bx) e (O es+m) sz,{H with bx:=H.bx++[(es.flatMap PD.cells).map .p++xs]}) else Y|none=>Y
def wP(sz:Nat)(z:PD)(bytes:Nat)(n c:D)(H:Hp):Option (D×Hp):=match n.jH,c.jH with|some n,Z c=>if n<=c/\roomy c bytes/\O z.cells=sz/\z.cells.all PD.one then Z (.aZ (O H.bx) 0 n (Z c) sz,{H with bx:=H.bx++[((cZ c z).flatMap PD.cells).map .p]}) else Y|_,_=>Y
def Nh(t:Nat)(z:PD)(o:Bool)(x:D):Option D:=match x with| .p (.iface u y)=>if u=t then Z (if o then .aL [.p y,.p (.bool true)] else .p y) else if o then Z (.aL [.p z,.p (.bool false)]) else Y| .dK u y=>if u=t then Z (if o then .aL [y,.p (.bool true)] else y) else if o then Z (.aL [.p z,.p (.bool false)]) else Y| .p .iH=>if o then Z (.aL [.p z,.p (.bool false)]) else Y|_=>Y
def kL(G:Nat->Option (List PD))(H:Hp)(n:Option Nat)(x:D):Option D:=match x with| .box i off=>(match H.bx[i]? with|some cs=>if az cs then Y else cutAt cs off n id bY|none=>Y)| .ro cs off=>cutAt cs off n .p λl=>.p (.agg l)| .dJ g off=>(match G g with|some cs=>cutAt cs off n .p λl=>.p (.agg l)|none=>Y)|_=>Y
def um(H:Hp)(n:Nat)(a v:D):Option Hp:=match a with| .box i off=>(match H.bx[i]? with|some cs=>if az cs=false/\O v.cells=n/\v.cells.all D.one/\off+n<=O cs/\0<n then Z {H with bx:=H.bx.set i (aA cs off v.cells)} else Y|none=>Y)|_=>Y
def wQ(mx:Bool)(a b:D):Option D:=match a,b with| .p (.int k x),.p (.int _ y)=>Z (.p (.int k (if mx then(if y>x then y else x) else(if y<x then y else x))))|_,_=>Y
def j6:IntKind->Nat| .i8=>10 | .i16=>11 | .i32=>12 | .i64=>13 | .u8=>14 | .u16=>15 | .u32=>16 | .u64=>17
def dg:PD->Nat| .bool _=>0| .int k _=>j6 k| .str _=>2| .agg [.int k _,.int k' _,.int K _]=>if k=k'/\k=K then 100+j6 k else 1|_=>1
def cM:PD->Nat| .bool b=>if b then 1 else 0| .int _ n=>n.toNat| .str s=>s.foldl (λa b=>a*257+b.toNat+1) 0| .agg [.int _ a,.int _ b,.int _ c]=>(a.toNat*1009+b.toNat)*1009+c.toNat|_=>0
def eK:PD->PD->Bool| .bool a,.bool b=>a==b| .int _ a,.int _ b=>a==b| .str a,.str b=>a==b| .agg [.int _ a,.int _ b,.int _ c],.agg [.int _ x,.int _ y,.int _ z]=>a==x&&b==y&&c==z|_,_=>false
def dQ(k:PD):List PD->Option Nat|[]=>Y|a::r=>if eK k a then Z 0 else(dQ k r).map (· +1)
def fP(c:Nat):List PD->Nat|[]=>0|a::r=>if c<cM a then 0 else fP c r+1
def dm:Nat->α->List α->List α| 0,x,l=>x::l|_+1,x,[]=>[x]|n+1,x,a::l=>a::dm n x l
def oE(kd:Nat)(m k v:D)(H:Hp):Option (D×Hp):=match m,k with| .bO i,.p k=>(match H.bx[i]? with|some [.bu K ks vs]=>if dg k=kd/\K=kd/\kd≠1/\dQ k ks=Y/\O vs=O ks then Z (.undef,{H with bx:=H.bx.set i [.bu kd (dm (fP (cM k) ks) k ks) (dm (fP (cM k) ks) v vs)]}) else Y|_=>Y)|_,_=>Y
def zG(kd:Nat)(m k v:D)(H:Hp):Option (D×Hp):=match m,k with| .bO i,.p k'=>(match H.bx[i]? with|some [.bu K ks vs]=>if dg k'=kd/\K=kd/\kd≠1 then(match dQ k' ks with|some j=>Z (.undef,{H with bx:=H.bx.set i [.bu kd ks (vs.set j v)]})|none=>oE kd m k v H) else Y|_=>Y)|_,_=>Y
def sq(kd:Nat)(z:PD)(o:Bool)(m k:D)(H:Hp):Option D:=match m,k with| .p .nN,.p k=>if dg k=kd/\kd≠1 then Z (if o then .aL [.p z,.p (.bool false)] else .p z) else Y| .bO i,.p k=>(match H.bx[i]? with|some [.bu K ks vs]=>if dg k=kd/\K=kd/\kd≠1 then(match dQ k ks with|some j=>(vs[j]?).map λv=>if o then .aL [v,.p (.bool true)] else v|none=>Z (if o then .aL [.p z,.p (.bool false)] else .p z)) else Y|_=>Y)|_,_=>Y
def aY(G:Nat->Option (List PD))(env:Env)(H:Hp):SK->Option (D×Hp)| .move x=>Z (x.ev env,H)| .pick c a b=>(match c.ev env with| .p (.bool t)=>Z (if t then a.ev env else b.ev env,H)|_=>Y)| .alloc zs=>if zs.all PD.one then Z (.box (O H.bx) 0,{H with bx:=H.bx++[zs.map .p]}) else Y| .box x=>if(x.ev env).cells.all D.one then Z (.box (O H.bx) 0,{H with bx:=H.bx++[(x.ev env).cells]}) else Y| .build zs parts=>if zs.all PD.one then(aI (zs.map .p) (parts.map fun(o,n,x)=>(o,n,x.ev env))).map λcs=>(bY cs,H) else Y| .bslice e sz L z parts=>if O z.cells=sz/\z.cells.all PD.one then(mR sz (cZ L z) (parts.map fun(i,x)=>(i,x.ev env))).map λes=>(.cw e sz es,H) else Y| .load n x=>(kL G H n (x.ev env)).map λd=>(d,H)| .store n a v=>(um H n (a.ev env) (v.ev env)).map λH'=>(.undef,H')| .nilCheck x=>(match x.ev env with| .box i o=>Z (.box i o,H)| .dJ i o=>Z (.dJ i o,H)| .ro i o=>Z (.ro i o,H)| .fn f a c=>Z (.fn f a c,H)|_=>Y)| .bin h x y=>(wN h (x.ev env) (y.ev env)).map λd=>(d,H)| .eqk kd N x y=>(pL kd (x.ev env) (y.ev env)).map λr=>(.p (.bool (if N then !r else r)),H)| .eqs N T x y=>(match x.ev env,y.ev env with| .p (.agg a),.p (.agg b)=>(oD T a b).map λr=>(.p (.bool (if N then !r else r)),H)|_,_=>Y)| .un h x=>(wO h (x.ev env)).map λd=>(d,H)| .mkfn f first cap=>Z (.fn f (first.map (·.ev env)) (cap.map (·.ev env)),H)| .slice sz x lo hi=>(zE sz (x.ev env) (lo.map (·.ev env)) (hi.map (·.ev env))).map λd=>(d,H)| .faddr x off=>(match x.ev env with| .box i o=>Z (.box i (o+off),H)| .dJ g o=>Z (.dJ g (o+off),H)| .ro cs o=>Z (.ro cs (o+off),H)|_=>Y)| .field x off n=>(match x.ev env with| .p (.agg cs)=>(cutAt cs off n .p λl=>.p (.agg l)).map λd=>(d,H)| .agg cs=>(cutAt cs off n id bY).map λd=>(d,H)|_=>Y)| .iaddr L sz x i=>(match(i.ev env).qx with|some n=>(cV L sz (x.ev env) n).map λd=>(d,H)|none=>Y)| .index A x i=>(match(i.ev env).qx with|some n=>(uj A (x.ev env) n).map λd=>(d,H)|none=>Y)| .extract x i=>(match x.ev env with| .aL ds=>(ds[i]?).map λd=>(d,H)|_=>Y)| .len kd x=>(c9 kd (x.ev env)).map fun(n:Nat)=>(.p (.int .i64 (n:Int)),H)| .append e sz bytes s x=>(match uk H sz (x.ev env) with|some xs=>dB e sz bytes (s.ev env) xs H|none=>Y)| .conv k x=>(match(x.ev env).qx with|some n=>Z (.p (.int k (k.wrap n)),H)|none=>Y)| .minmax M x y=>(wQ M (x.ev env) (y.ev env)).map λd=>(d,H)| .makesl sz z bytes n c=>wP sz z bytes (n.ev env) (c.ev env) H| .iface t x=>(match(x.ev env).dW with|some y=>Z (.p (.iface t y),H)|none=>Z (.dK t (x.ev env),H))| .bsliceG e sz L z parts=>if O z.cells=sz/\z.cells.all PD.one/\0<L then (match aI (((cZ L z).flatMap PD.cells).map .p) (parts.map fun(o,n,x)=>(o,n,x.ev env)) with|some cs=>if O cs=L*sz then Z (.af (O H.bx) e L sz,{H with bx:=H.bx++[cs]}) else Y|none=>Y) else Y| .slice3 sz x lo hi M=>(CP sz (x.ev env) (lo.map (·.ev env)) (hi.ev env) (M.ev env)).map λd=>(d,H)| .stuck=>Y| .appendg e sz bytes s x=>(match fA H sz (x.ev env) with|some (m,xs)=>cW e sz bytes (s.ev env) m xs H|none=>Y)| .tassert t z j x=>(Nh t z j (x.ev env)).map λd=>(d,H)| .sj kd=>Z (.bO (O H.bx),{H with bx:=H.bx++[[.bu kd [] []]]})| .mapset kd m k v=>zG kd (m.ev env) (k.ev env) (v.ev env) H| .mapins kd m k v=>oE kd (m.ev env) (k.ev env) (v.ev env) H| .mapget kd z j m k=>(sq kd z j (m.ev env) (k.ev env) H).map λd=>(d,H)| .call .. =>Y| .panic _=>Y
inductive bB where|val (d:D)|bM (d:D)
abbrev bt:=Nat->List D->Hp->Option (bB×Hp)
def aF{β:Type}(f:α->Option β):List α->Option (List β)|[]=>Z []|a::r=>match f a with|some b=>(aF f r).map (b:: ·)|none=>Y
def idx(l:List Nat)(i:Nat):Option Nat:=match l with|[]=>Y|a::r=>if a=i then Z 0 else(idx r i).map (· +1)
mutual
def D.ren(bi ti:Nat->Option Nat):D->Option D
 | .box i o=>(bi i).map λj=>.box j o
 | .aP t e sz es=>match ti t with
  |some u=>Z (.aP u e sz es)
  |none=>Z (.p (.slice sz es))
 | .agg cs=>(D.aR bi ti cs).map .agg
 | .aL cs=>(D.aR bi ti cs).map .aL
 | .fn f a c=>match D.aR bi ti a,D.aR bi ti c with
  |some a',Z c'=>Z (.fn f a' c')
  |_,_=>Y
 | .aZ i off n c sz=>(bi i).map λj=>.aZ j off n c sz
 | .dK t d=>(d.ren bi ti).map (.dK t)
 | .bO i=>(bi i).map .bO
 | .bu kd ks vs=>(D.aR bi ti vs).map (.bu kd ks)
 | .af i e n sz=>(bi i).map λj=>.af j e n sz
 |d=>Z d
def D.aR(bi ti:Nat->Option Nat):List D->Option (List D)
 |[]=>Z []
 |d::r=>match d.ren bi ti with
  |some x=>(D.aR bi ti r).map (x:: ·)
  |none=>Y
end
mutual
def D.refs:D->List Nat
 | .box i _=>[i]
 | .agg cs=>D.aq cs
 | .aL cs=>D.aq cs
 | .fn _ a c=>D.aq a++D.aq c
 | .aZ i _ _ _ _=>[i]
 | .bO i=>[i]
 | .bu _ _ vs=>D.aq vs
 | .af i _ _ _=>[i]
 | .dK _ d=>d.refs
 |_=>[]
def D.aq:List D->List Nat
 |[]=>[]
 |d::r=>d.refs++D.aq r
end
mutual
def D.bh:D->List Nat
 | .aP t _ _ _=>[t]
 | .agg cs=>D.aJ cs
 | .aL cs=>D.aJ cs
 | .fn _ a c=>D.aJ a++D.aJ c
 | .dK _ d=>d.bh
 | .bu _ _ vs=>D.aJ vs
 |_=>[]
def D.aJ:List D->List Nat
 |[]=>[]
 |d::r=>d.bh++D.aJ r
end
def ins(l:List Nat):List Nat->List Nat|[]=>l|x::r=>if l.contains x then ins l r else ins (l++[x]) r
def dC(H:Hp):List Nat->List Nat|[]=>[]|i::r=>(match H.bx[i]? with |some cs=>D.aq cs |none=>[])++dC H r
def dS(H:Hp):List Nat->List Nat|[]=>[]|i::r=>(match H.bx[i]? with |some cs=>D.aJ cs |none=>[])++dS H r
def reach(H:Hp):Nat->List Nat->List Nat| 0,ids=>ids|n+1,ids=>match dC H ids with|[]=>ids|new=>reach H n (ins ids new)
def bP(l:List α):List Nat->List α->List α|i::s,x::xs=>bP (l.set i x) s xs|_,_=>l
def bB.ren(bi ti:Nat->Option Nat):bB->Option bB| .val d=>(d.ren bi ti).map .val| .bM d=>(d.ren bi ti).map .bM
def eo(l:List α)(n:Nat):Option (List α):=if n<=O l then Z (l.take n) else Y
def back(ids bw:List Nat)(H:Hp)(r:bB)(H':Hp):Option (bB×Hp):=match eo H'.bx (O ids),eo H'.tk (O bw) with|some bx,Z tk=>(let ti:=λt=>bw[t]?;match r.ren (λi=>ids[i]?) ti,aF (D.aR (λi=>ids[i]?) ti) bx with|some r',Z b=>Z (r',⟨bP H.bx ids b,bP H.tk bw tk⟩)|_,_=>(let bi:=λi=>if i<O ids then ids[i]? else Z (O H.bx+(i-O ids));match r.ren bi ti,aF (D.aR bi ti) bx,aF (D.aR bi ti) (H'.bx.drop (O ids)) with|some r',Z b,Z (n::w)=>Z (r',⟨bP H.bx ids b++(n::w),bP H.tk bw tk⟩)|_,_,_=>Y))|_,_=>Y
def nodupB:List Nat->Bool|[]=>true|a::r=>!(r.contains a)&&nodupB r
def ag(c:bt)(f:Nat)(args:List D)(H:Hp):Option (bB×Hp):=let ids:=reach H (O H.bx) (ins [] (D.aq args));let bw:=ins [] (D.aJ args++dS H ids);if nodupB ids&&nodupB bw then match D.aR (idx ids) (idx bw) args,aF (λi=>match H.bx[i]? with |some cs=>D.aR (idx ids) (idx bw) cs |none=>Y) ids,aF (λt=>H.tk[t]?) bw with|some as,Z bx,Z tk=>(match c f as ⟨bx,tk⟩ with|some (r,H')=>back ids bw H r H'|none=>Y)|_,_,_=>Y else Y
def di(c:bt)(f:D)(args:List D)(H:Hp):Option (bB×Hp):=match f with| .fn g first cap=>ag c g (first++args++cap) H|_=>Y
def CQ(d:D)(H:Hp):Option (bB×Hp):=match d with| .p (.iface t y)=>Z (.bM (.p (.iface t y)),H)| .dK t y=>Z (.bM (.dK t y),H)|_=>Y
def cz(c:bt)(G:Nat->Option (List PD))(env:Env)(H:Hp):SK->Option (bB×Hp)| .call f args=>di c (f.ev env) (args.map (·.ev env)) H| .panic x=>CQ (x.ev env) H|k=>match aY G env H k with|some (d,H')=>Z (.val d,H')|none=>Y
def eS(env:Env):Option (Nat×Bool)->Option Bool|none=>Z true|some (t,w)=>match env.get t with| .p (.bool b)=>Z (b==w)| .undef=>Z false|_=>Y
def put(dst:Option Nat)(d:D)(env:Env):Env:=match dst with|some t=>(t,d)::env|none=>env
inductive RO where|ok (env:Env) (H:Hp)|bM (d:D) (env:Env) (H:Hp)
def iq(c:bt)(G:Nat->Option (List PD)):List SO->Env->Hp->Option RO|[],env,H=>Z (.ok env H)|o::r,env,H=>match eS env o.g with|some true=>(match cz c G env H o.k with|some (.val d,H')=>iq c G r (put o.dst d env) H'|some (.bM d,H')=>Z (.bM d env H')|none=>Y)|some false=>iq c G r (put o.dst .undef env) H|none=>Y
def cls(env:Env):SK->Nat| .load _ x=>(match x.ev env with| .ro _ _ | .dJ _ _=>0|_=>1)| .alloc _ | .box _ | .store _ _ _ | .append _ _ _ _ _ | .appendg _ _ _ _ _ | .makesl _ _ _ _ _ | .bsliceG _ _ _ _ _ | .sj _ | .mapset _ _ _ _ | .mapins _ _ _ _=>2| .mapget _ _ _ _ _=>1| .panic _=>2| .call f args=>if(D.aq (f.ev env::args.map (·.ev env))).isEmpty&&(D.aJ (f.ev env::args.map (·.ev env))).isEmpty then 0 else 2|_=>0
def fQ(n:Nat)(env:Env)(k:SK):Nat×Nat:=match k with| .load n x=>(match x.ev env with| .box i _=>(3+2*i,0)|_=>(cls env (.load n x),0))| .store n a v=>(match a.ev env with| .box i _=>(4+2*i,0)|_=>(cls env (.store n a v),0))| .mapget g z o m k=>(match m.ev env with| .bO i=>(3+2*i,0)|_=>(cls env (.mapget g z o m k),0))| .mapins kd m k v=>(match m.ev env,k.ev env with| .bO i,.p k=>if i<2000000000 then(4+2*i,cM k+1) else(2,0)|_,_=>(cls env (.mapins kd m k v),0))| .alloc _ | .box _ | .sj _ | .bsliceG _ _ _ _ _ | .makesl _ _ _ _ _=>(4+2*n,0)| .appendg _ _ _ s _=>(match s.ev env with| .af i _ _ _ | .aZ i _ _ _ _=>if n<1000000 then(4+2*(4000000000+i*1000000+n),0) else(2,0)|_=>(4+2*n,0))| .append _ _ _ _ _=>(4+2*1000000007,0)|k=>(cls env k,0)
mutual
def PD.fB:PD->PD->Bool
 | .bool a,.bool b=>a==b
 | .int k a,.int l b=>decide (k=l)&&a==b
 | .str a,.str b=>a==b
 | .i7,.i7=>true
 | .aj,.aj=>true
 | .ly,.ly=>true
 | .iH,.iH=>true
 | .nN,.nN=>true
 | .slice s a,.slice t b=>s==t&&PD.fC a b
 | .bW s,.bW t=>s==t
 | .agg a,.agg b=>PD.fC a b
 | .iface s a,.iface t b=>s==t&&PD.fB a b
 |_,_=>false
def PD.fC:List PD->List PD->Bool
 |[],[]=>true
 |a::x,b::y=>PD.fB a b&&PD.fC x y
 |_,_=>false
end
mutual
def D.fB:D->D->Bool
 | .dead,.dead=>true
 | .undef,.undef=>true
 | .p a,.p b=>PD.fB a b
 | .cw e s a,.cw f t b=>e==f&&s==t&&PD.fC a b
 | .aP u e s a,.aP v f t b=>u==v&&e==f&&s==t&&PD.fC a b
 | .box i o,.box j q=>i==j&&o==q
 | .dJ i o,.dJ j q=>i==j&&o==q
 | .ro a o,.ro b q=>PD.fC a b&&o==q
 | .agg a,.agg b=>D.fC a b
 | .aL a,.aL b=>D.fC a b
 | .fn f a c,.fn g b d=>f==g&&D.fC a b&&D.fC c d
 | .aZ i o n c s,.aZ j q m d t=>i==j&&o==q&&n==m&&decide (c=d)&&s==t
 | .eJ s,.eJ t=>s==t
 | .dK s a,.dK t b=>s==t&&D.fB a b
 | .bO i,.bO j=>i==j
 | .bu k a x,.bu l b y=>k==l&&PD.fC a b&&D.fC x y
 | .af i e n s,.af j f m t=>i==j&&e==f&&n==m&&s==t
 | .eF s a,.eF t b=>s==t&&PD.fC a b
 |_,_=>false
def D.fC:List D->List D->Bool
 |[],[]=>true
 |a::x,b::y=>D.fB a b&&D.fC x y
 |_,_=>false
end
def su:List (List D)->List (List D)->Bool|[],[]=>true|a::x,b::y=>D.fC a b&&su x y|_,_=>false
def zH(H H':Hp):Bool:=su H.bx H'.bx&&H.tk==H'.tk
mutual
theorem PD.uo:∀(a b:PD),PD.fB a b=true->a=b
 |a,b,h=>by
  cases a<;>cases b<;>first |rfl |(simp[PD.fB] at h;done) |skip
  all_goals simp only[PD.fB,bG,beq_iff_eq,decide_eq_true_eq] at h
  all_goals first
   |(rw[h])
   |(rw[h.1,h.2])
   |(rw[h.1,PD.kM _ _ h.2])
   |(rw[PD.kM _ _ h])
   |(rw[h.1,PD.uo _ _ h.2])
theorem PD.kM:∀(a b:List PD),PD.fC a b=true->a=b
 |[],[],_=>rfl
 |a::x,b::y,h=>by
  simp only[PD.fC,bG] at h;rw[PD.uo a b h.1,PD.kM x y h.2]
 |[],_::_,h=>by simp[PD.fC] at h
 |_::_,[],h=>by simp[PD.fC] at h
end
mutual
theorem D.uo:∀(a b:D),D.fB a b=true->a=b
 |a,b,h=>by
  cases a<;>cases b<;>first |rfl |(simp[D.fB] at h;done) |skip
  all_goals simp only[D.fB,bG,beq_iff_eq,decide_eq_true_eq] at h
  all_goals first
   |(rw[h])
   |(rw[h.1,h.2])
   |(rw[PD.uo _ _ h])
   |(rw[h.1.1,h.1.2,PD.kM _ _ h.2])
   |(rw[h.1.1.1,h.1.1.2,h.1.2,PD.kM _ _ h.2])
   |(rw[h.1.1.1,h.1.1.2,h.1.2,h.2])
   |(rw[PD.kM _ _ h.1,h.2])
   |(rw[D.kM _ _ h])
   |(rw[h.1.1,D.kM _ _ h.1.2,D.kM _ _ h.2])
   |(rw[h.1.1.1.1,h.1.1.1.2,h.1.1.2,h.1.2,h.2])
   |(rw[h.1,PD.kM _ _ h.2])
   |(rw[h.1,D.uo _ _ h.2])
   |(rw[D.uo _ _ h])
   |(rw[h.1.1,h.1.2,h.2])
   |(rw[h.1.1,PD.kM _ _ h.1.2,D.kM _ _ h.2])
theorem D.kM:∀(a b:List D),D.fC a b=true->a=b
 |[],[],_=>rfl
 |a::x,b::y,h=>by
  simp only[D.fC,bG] at h;rw[D.uo a b h.1,D.kM x y h.2]
 |[],_::_,h=>by simp[D.fC] at h
 |_::_,[],h=>by simp[D.fC] at h
end
mutual
theorem PD.wR:∀a:PD,PD.fB a a=true
 | .slice s a=>by simp[PD.fB,PD.kN a]
 | .agg a=>by simp[PD.fB,PD.kN a]
 | .iface s a=>by simp[PD.fB,PD.wR a]
 | .bool _ | .int _ _ | .str _ | .i7 | .aj | .ly | .iH | .nN | .bW _=>by simp[PD.fB]
theorem PD.kN:∀a:List PD,PD.fC a a=true
 |[]=>rfl
 |a::x=>by simp[PD.fC,PD.wR a,PD.kN x]
end
mutual
theorem D.wR:∀a:D,D.fB a a=true
 | .p a=>by simp[D.fB,PD.wR a]
 | .cw e s a=>by simp[D.fB,PD.kN a]
 | .eF s a=>by simp[D.fB,PD.kN a]
 | .aP u e s a=>by simp[D.fB,PD.kN a]
 | .ro a o=>by simp[D.fB,PD.kN a]
 | .agg a=>by simp[D.fB,D.kN a]
 | .aL a=>by simp[D.fB,D.kN a]
 | .fn f a c=>by simp[D.fB,D.kN a,D.kN c]
 | .dK s a=>by simp[D.fB,D.wR a]
 | .bu k a x=>by simp[D.fB,PD.kN a,D.kN x]
 | .dead | .undef | .box _ _ | .dJ _ _ | .aZ _ _ _ _ _ | .eJ _ | .bO _ | .af _ _ _ _=>by simp[D.fB]
theorem D.kN:∀a:List D,D.fC a a=true
 |[]=>rfl
 |a::x=>by simp[D.fC,D.wR a,D.kN x]
end
theorem Ni:∀(a b:List (List D)),su a b=true->a=b|[],[],_=>rfl|a::x,b::y,h=>by simp only[su,bG] at h;rw[D.kM a b h.1,Ni x y h.2]|[],_::_,h=>by simp[su] at h|_::_,[],h=>by simp[su] at h
theorem Nj:∀a:List (List D),su a a=true|[]=>rfl|a::x=>by simp[su,D.kN a,Nj x]
theorem W0{H':Hp}(h:zH H H'=true):H'=H:=by obtain⟨a,b⟩:=H;obtain⟨c,d⟩:=H';simp only[zH,bG,beq_iff_eq] at h;rw[Ni a c h.1,h.2]
@[simp] theorem amm(H:Hp):zH H H=true:=by simp[zH,Nj]
def qy:SK->Bool| .call _ _=>true|_=>false
def wS(env:Env)(H:Hp):SK->List Nat| .call f as=>(match f.ev env with| .fn _ first cap=>reach H (O H.bx) (ins [] (D.aq (first++as.map (·.ev env)++cap)))|_=>[])|_=>[]
def ir(env:Env)(H:Hp):SK->Option Nat| .call f as=>(match f.ev env with| .fn _ first cap=>(match reach H (O H.bx) (ins [] (D.aq (first++as.map (·.ev env)++cap))),D.aJ (first++as.map (·.ev env)++cap)++dS H (reach H (O H.bx) (ins [] (D.aq (first++as.map (·.ev env)++cap)))) with|[i],[]=>Z i|_,_=>Y)|_=>Y)|_=>Y
def ur:List Nat->Nat|[]=>0|i::r=>max (i+1) (ur r)
def iL(env:Env)(H H':Hp)(k:SK):Nat×Nat:=if cls env k=0 then(if O H'.bx=O H.bx then(0,0) else if O H'.bx=O H.bx+1 then(4+2*O H.bx,0) else(2,0)) else if qy k&&zH H H' then(match ir env H k with |some i=>(3+2*i,0) |none=>(1,0)) else if qy k&&decide (O H'.bx=O H.bx/\ur (wS env H k)<2000000000) then(4+2*(2000000000+ur (wS env H k)),0) else fQ (O H.bx) env k
def ba(c:Nat):Bool:=c==2||(decide (4<=c)&&c%2==0)
def lX(x i:Nat):Bool:=if i<2000000000 then x !=i else if i<4000000000 then decide (i-2000000000<=x)&&decide (x<2000000000) else decide (x≠(i-4000000000)/1000000)&&decide (x<(i-4000000000)%1000000)
def jq(a b:Nat):Bool:=decide (3<=a)&&a%2==1&&decide (4<=b)&&b%2==0&&lX ((a-3)/2) ((b-4)/2)
def nO(a b:Nat×Nat):Bool:=a.2 !=0&&b.2 !=0&&a.1==b.1&&a.2 !=b.2
def dX(a b:Nat×Nat):Bool:=(a.1 !=0&&b.1 !=0)&&(ba a.1||ba b.1)&& !(jq a.1 b.1||jq b.1 a.1)&& !nO a b
def pM:List (Nat×Nat)->Bool|[]=>true|c::r=>(c.2==0|| !r.contains c)&&pM r
def fR(c:bt)(G:Nat->Option (List PD)):List SO->Env->Hp->Option (Env×Hp×List (Nat×Nat))|[],env,H=>Z (env,H,[])|o::r,env,H=>match eS env o.g with|some true=>(match cz c G env H o.k with|some (.val d,H')=>(match fR c G r (put o.dst d env) H' with|some (e,h,cs)=>Z (e,h,iL env H H' o.k::cs)|none=>Y)|_=>Y)|some false=>(match fR c G r (put o.dst .undef env) H with|some (e,h,cs)=>Z (e,h,(0,0)::cs)|none=>Y)|none=>Y
def aE.slots:aE->List Nat| .t i=>[i]| .c _=>[]
def wT:Option aE->List Nat|some x=>x.slots|none=>[]
def SK.slots:SK->List Nat| .move x | .box x | .load _ x | .nilCheck x | .un _ x | .faddr x _ | .field x _ _ | .extract x _ | .len _ x | .conv _ x | .iface _ x | .tassert _ _ _ x | .panic x=>x.slots| .pick c a b=>c.slots++a.slots++b.slots| .alloc _ | .stuck | .sj _=>[]| .mapset _ m k v | .mapins _ m k v=>m.slots++k.slots++v.slots| .mapget _ _ _ m k=>m.slots++k.slots| .build _ ps | .bsliceG _ _ _ _ ps=>ps.flatMap λp=>p.2.2.slots| .slice3 _ x lo hi M=>x.slots++wT lo++hi.slots++M.slots| .bslice _ _ _ _ ps=>ps.flatMap λp=>p.2.slots| .store _ a v=>a.slots++v.slots| .bin _ x y | .eqk _ _ x y | .eqs _ _ x y | .iaddr _ _ x y | .index _ x y | .append _ _ _ x y | .minmax _ x y | .makesl _ _ _ x y | .appendg _ _ _ x y=>x.slots++y.slots| .mkfn _ f c=>f.flatMap aE.slots++c.flatMap aE.slots| .slice _ x lo hi=>x.slots++wT lo++wT hi| .call f as=>f.slots++as.flatMap aE.slots
def SK.ep:SK->Bool| .load _ _ | .alloc _ | .box _ | .store _ _ _ | .append _ _ _ _ _ | .call _ _ | .appendg _ _ _ _ _ | .makesl _ _ _ _ _ | .bsliceG _ _ _ _ _ | .sj _ | .mapset _ _ _ _ | .mapins _ _ _ _ | .mapget _ _ _ _ _ | .panic _=>false|_=>true
def SO.uses(s:SO):List Nat:=s.k.slots++(match s.g with |some (t,_)=>[t] |none=>[])
def behind(aW:List (Nat×Nat))(k i:Nat)(d:List Nat)(o:SO):Bool:=o.uses.any d.contains||(!o.k.ep&& !aW.contains (k,i))
def lY(c:bt)(G:Nat->Option (List PD))(aW:List (Nat×Nat))(k:Nat):Nat->List Nat->List SO->Env->Hp->Option (List (Nat×Nat))|_,_,[],_,_=>Z []|i,a,o::r,env,H=>if behind aW k i a o then(lY c G aW k (i+1) (o.dst.toList++a) r (put o.dst .undef env) H).map ((0,0):: ·) else match eS env o.g with|some true=>(match cz c G env H o.k with|some (.val d,H')=>if ba (iL env H H' o.k).1 then Y else(lY c G aW k (i+1) a r (put o.dst d env) H').map (iL env H H' o.k:: ·)|_=>Y)|some false=>(lY c G aW k (i+1) a r (put o.dst .undef env) H).map ((0,0):: ·)|none=>Y
def gH(c:bt)(G:Nat->Option (List PD))(aW:List (Nat×Nat)):Nat->List SO->Env->Hp->Option (D×Hp×List (Nat×Nat)×Nat)|_,[],_,_=>Y|i,o::r,env,H=>match eS env o.g with|some true=>(match cz c G env H o.k with|some (.val d,H')=>(gH c G aW (i+1) r (put o.dst d env) H').map λx=>(x.1,x.2.1,iL env H H' o.k::x.2.2.1,x.2.2.2)|some (.bM d,H')=>(lY c G aW i (i+1) o.dst.toList r (put o.dst .undef env) H).map λcs=>(d,H',(0,0)::cs,i)|none=>Y)|some false=>(gH c G aW (i+1) r (put o.dst .undef env) H).map λx=>(x.1,x.2.1,(0,0)::x.2.2.1,x.2.2.2)|none=>Y
def qz(aW:List (Nat×Nat))(cs:List (Nat×Nat)):Bool:=aW.all (λp=>!dX (cs.getD p.1 (0,0)) (cs.getD p.2 (0,0)))&&pM cs
def CR(aW:List (Nat×Nat))(cs:List (Nat×Nat))(k:Nat):Bool:=aW.all λp=>decide (p.1<1000000)&&(p.2 !=k|| !ba (cs.getD p.1 (0,0)).1)
def uu(ops:List SO)(env:Env):Env:=env.filter λy=>!ops.any λo=>o.dst==Z y.1
inductive Out where|norm|exit (id:Nat)|ret|bM (d:D)
def mS(e sz:Nat)(d:D)(H:Hp):Option (D×Hp):=match d with| .p .aj=>Z (.aP (O H.tk) e sz [],{H with tk:=H.tk++[0]})| .cw e' s es=>if e'=e/\s=sz/\O es<=140737488355328 then Z (.aP (O H.tk) e sz es,{H with tk:=H.tk++[O es]}) else Y| .aP t e' s es=>if e'=e/\s=sz then Z (.aP t e sz es,H) else Y|_=>Y
def CS(t off e sz:Nat)(s:St):Option St:=match s.env.get t with| .box i o=>(match s.hp.bx[i]? with|some cs=>(if az cs then Z s else match cs[o+off]? with|some d=>(match mS e sz d s.hp with|some (d',H)=>Z ⟨s.env,{H with bx:=H.bx.set i (cs.set (o+off) d')}⟩|none=>Z s)|none=>Y)|none=>Y)|_=>Z s
def iter(body:St->Option (Out×St)):Nat->St->Option (Out×St)| 0,_=>Y|m+1,s=>match body s with|some (.norm,s')=>iter body m s'|r=>r
def Out.ren(bi ti:Nat->Option Nat):Out->Option Out| .bM d=>(d.ren bi ti).map .bM|o=>Z o
def below(n i:Nat):Option Nat:=if i<n then Z i else Y
def cx(nb nt:Nat)(x:Out×St):Out×St:=if nb<=O x.2.hp.bx/\nt<=O x.2.hp.tk then match aF (D.aR (below nb) (below nt)) (x.2.hp.bx.take nb),x.1.ren (below nb) (below nt) with|some bx,Z o=>(o,⟨x.2.env.map λy=>(y.1,(y.2.ren (below nb) (below nt)).getD .dead),⟨bx,x.2.hp.tk.take nt⟩⟩)|_,_=>x else x
def D.aB(k:Nat)(H:Hp):Nat->D->D| 0,d=>d|f+1,d=>match d with| .aZ i off n c sz=>if k<=i then(match H.bx[i]? with|some cs=>if az cs=false/\off+n*sz<=O cs/\0<sz then(match D.gR ((sub cs off (off+n*sz)).map (D.aB k H f)) with|some ps=>.p (.slice sz (chunks sz n ps))|none=>.aZ i off n c sz) else .aZ i off n c sz|none=>.aZ i off n c sz) else .aZ i off n c sz| .af i e n sz=>if k<=i then(match H.bx[i]? with|some cs=>if az cs=false/\0+n*sz<=O cs/\0<sz then(match D.gR ((sub cs 0 (0+n*sz)).map (D.aB k H f)) with|some ps=>.p (.slice sz (chunks sz n ps))|none=>.af i e n sz) else .af i e n sz|none=>.af i e n sz) else .af i e n sz| .box i off=>if k<=i then(match H.bx[i]? with|some cs=>if az cs then .box i off else(match D.gR (cs.map (D.aB k H f)) with |some ps=>.ro ps off |none=>.box i off)|none=>.box i off) else .box i off| .agg cs=>bY (cs.map (D.aB k H f))| .aL cs=>.aL (cs.map (D.aB k H f))| .fn g a c=>.fn g (a.map (D.aB k H f)) (c.map (D.aB k H f))| .dK t d=>(match D.aB k H f d with| .p y=>.p (.iface t y)|d'=>.dK t d')| .cw _ sz es=>.p (match es with |[]=>.bW sz |_::_=>.slice sz es)|d=>d
def lZ(k:Nat)(H:Hp)(cs:List D):List D:=if(D.aq cs).all (λi=>decide (i<k)) then cs else cs.map (D.aB k H 8)
def bB.aB(k:Nat)(H:Hp):bB->bB| .val d=>.val (d.aB k H 8)| .bM d=>.bM (d.aB k H 8)
def Out.aB(k:Nat)(H:Hp):Out->Out| .bM d=>.bM (d.aB k H 8)|o=>o
def sv(nb:Nat)(x:Out×St):Out×St:=match aF (λcs=>D.aR (below nb) Z (lZ nb x.2.hp cs)) (x.2.hp.bx.take nb),(x.1.aB nb x.2.hp).ren (below nb) Z with|some bx,Z o=>if nb<=O x.2.hp.bx then(o,⟨x.2.env.map λy=>(y.1,((y.2.aB nb x.2.hp 8).ren (below nb) Z).getD .dead),⟨bx,x.2.hp.tk⟩⟩) else x|_,_=>x
abbrev It:=(St->Option (Out×St))->St->Option (Out×St)
def zJ(f:Nat)(n:List D->List D->Hp->Option (List (List D)))(g:D)(H:Hp):Option (List (List D)):=match g with| .fn F fi cap=>if F=f then n fi cap H else Y|_=>Y
def lz(g:D)(H:Hp):List Nat:=match g with| .fn _ fi cap=>reach H (O H.bx) (ins [] (D.aq (fi++cap)))|_=>[]
def Nk(a b:Option (List D)):Bool:=match a,b with|some a,Z b=>D.fC a b|none,Y=>true|_,_=>false
def CT(ids:List Nat)(H H':Hp):Bool:=ids.all λi=>Nk H.bx[i]? H'.bx[i]?
theorem W2{a b:Option (List D)}(h:Nk a b=true):b=a:=by
 cases a<;>cases b<;>first |rfl |(cases h;done) |skip
 rw[D.kM _ _ h]
def j7(env:Env):List Nat->List D->Env|p::ps,x::xs=>j7 ((p,x)::env) ps xs|_,_=>env
def ja(e b:St->Option (Out×St))(env:Env)(ps:List Nat)(kb:Hp->Bool):List (List D)->Hp->Option (Out×St)|[],H=>Z (.norm,⟨env,H⟩)|x::xs,H=>if O x≠O ps then Y else match e ⟨j7 env ps x,H⟩ with|some (.norm,s1)=>(match b s1 with|some (.norm,s)=>if kb s.hp then ja e b env ps kb xs s.hp else Y|some (o,s)=>Z (o,⟨env,s.hp⟩)|none=>Y)|_=>Y
def ay(C:bt)(G:Nat->Option (List PD))(it:It):SC->St->Option (Out×St)| .skip,s=>Z (.norm,s)| .region K ops,s=>(match iq C G ops s.env s.hp with|some (.ok env H)=>Z (.norm,⟨env.keep K,H⟩)|some (.bM d env H)=>Z (.bM d,⟨env,H⟩)|none=>Y)| .draw K aW ops,s=>(match fR C G ops s.env s.hp with|some (env,H,cs)=>if aW.all (λp=>!dX (cs.getD p.1 (0,0)) (cs.getD p.2 (0,0)))&&pM cs then Z (.norm,⟨env.keep K,H⟩) else Y|none=>(match gH C G aW 0 ops s.env s.hp with|some (d,H,cs,k)=>if qz aW cs&&CR aW cs k then Z (.bM d,⟨uu ops s.env,H⟩) else Y|none=>Y))| .seq a b,s=>(match ay C G it a s with|some (.norm,s')=>ay C G it b s'|r=>r)| .cond c a b,s=>(match c.ev s.env with| .p (.bool t)=>if t then ay C G it a s else ay C G it b s|_=>Y)| .block id b,s=>(match ay C G it b s with|some (.exit i,s')=>if i=id then Z (.norm,s') else Z (.exit i,s')|r=>r)| .loop K b,s=>it (λs=>ay C G it b ⟨s.env.keep K,s.hp⟩) s| .tok S e sz,s=>(match mS e sz (s.env.get S) s.hp with|some (d,H)=>Z (.norm,⟨(S,d)::s.env,H⟩)|none=>Y)| .tokb S off e sz,s=>(CS S off e sz s).map λs'=>(.norm,s')| .stuck,_=>Y| .scope b,s=>ay C G it b s| .loc b,s=>(ay C G it b s).map (cx (O s.hp.bx) (O s.hp.tk))| .j4 b,s=>(ay C G it b s).map λx=>cx (O s.hp.bx) (O s.hp.tk) (sv (O s.hp.bx) x)| .j5 f n g ps A b,s=>(match zJ f n (g.ev s.env) s.hp with|some xs=>ja (ay C G it A) (ay C G it b) s.env ps (CT (lz (g.ev s.env) s.hp) s.hp) xs s.hp|none=>Y)| .exit id,s=>Z (.exit id,s)| .ret,s=>Z (.ret,s)
structure Pg where
 F:Nat->Option FC
 G:Nat->Option (List PD)
 lib:bt
 D:Nat->Option (Nat×FC):=λ_=>Y
def entry:Nat->List D->Env|_,[]=>[]|i,a::r=>(i,a)::entry (i+1) r
def lA(G:Nat->Option (List PD))(env:Env)(H:Hp):mQ->Option D| .t i=>Z (env.get i)| .cell i n=>kL G H n (env.get i)
def gT(G:Nat->Option (List PD))(env:Env)(H:Hp):List mQ->Option D|[]=>Z .undef|[r]=>lA G env H r|rs=>(aF (lA G env H) rs).map .aL
def finish(G:Nat->Option (List PD))(res:List mQ):Option (Out×St)->Option (bB×Hp)|some (.norm,s) |some (.ret,s)=>(match gT G s.env s.hp res with|some d=>Z (.val d,s.hp)|none=>Y)|some (.bM d,s)=>Z (.bM d,s.hp)|_=>Y
def nP(nb:Nat)(x:bB×Hp):bB×Hp:=match aF (λcs=>D.aR (below nb) Z (lZ nb x.2 cs)) (x.2.bx.take nb),(x.1.aB nb x.2).ren (below nb) Z with|some bx,Z r=>if nb<=O x.2.bx then(r,⟨bx,x.2.tk⟩) else x|_,_=>x
def jI(f:Bool)(nb:Nat)(x:Option (bB×Hp)):Option (bB×Hp):=if f then x.map (nP nb) else x
def mT(c:bt)(G:Nat->Option (List PD))(it:It):List SC->St->Option (Out×St)|[],s=>Z (.norm,s)|a::r,s=>match ay c G it a s with|some (.norm,s')=>mT c G it r s'|x=>x
def qA(c:bt)(T:Nat->Option (Nat×FC))(G:Nat->Option (List PD))(it:It):bt:=λf args H=>match T f,args with|some (t,fc),rv::as=>if O as=fc.np/\fc.plain=true then(match finish G fc.res (ay c G it fc.body ⟨(t,rv)::entry 0 as,H⟩) with|some (.val d,H')=>Z (.val d,H')|_=>Y) else Y|_,_=>Y
def nQ(c:bt)(T:Nat->Option (Nat×FC))(G:Nat->Option (List PD))(it:It)(res:List mQ)(fv:D)(as:List D)(rv:D)(s:St):Option (bB×Hp):=match fv with| .fn g first cap=>(match ag (qA c T G it) g (rv::(first++as++cap)) s.hp with|some (.val _,H)=>finish G res (Z (.ret,⟨s.env,H⟩))|_=>Y)|_=>Y
def fZ(c:bt)(T:Nat->Option (Nat×FC))(G:Nat->Option (List PD))(it:It)(fc:FC)(s:St):Option (bB×Hp):=match fc.fN with|none=>finish G fc.res (ay c G it fc.body s)|some x=>match mT c G it x.pre s with|some (.norm,s1)=>(match iq c G x.ops s1.env s1.hp with|some (.ok env H)=>(match ay c G it fc.body ⟨env.keep x.keep,H⟩ with|some (.norm,S) |some (.ret,S)=>nQ c T G it fc.res (x.f.ev env) (x.as.map (·.ev env)) (.p .iH) S|some (.bM d,S)=>nQ c T G it fc.res (x.f.ev env) (x.as.map (·.ev env)) d S|_=>Y)|some (.bM d _ H)=>Z (.bM d,H)|none=>Y)|r=>finish G fc.res r
def dY(p:Pg):Nat->bt| 0=>λ_ _ _=>Y|n+1=>λf args H=>match p.lib f args H with|some r=>Z r|none=>match p.F f with|some fc=>if O args=fc.np then jI fc.aB (O H.bx) (fZ (dY p n) p.D p.G (λb s=>iter b n s) fc ⟨entry 0 args,H⟩) else Y|none=>Y
def bt.le(c c':bt):Prop:=∀f a H r,c f a H=Z r->c' f a H=Z r
variable{c':bt}{r:bB×Hp}{b:St->Option (Out×St)}
section
variable{c:bt}(h:bt.le c c')
include h
theorem Nl(e:ag c f a H=Z r):ag c' f a H=Z r:=by unfold ag at e|-;dsimp only at e|-;split at e;{rename_i hn;(try rw[if_pos hn]);split at e;{split at e;{rename_i r' H' hc;rw[h _ _ _ _ hc];exact e};cases e};cases e};cases e
theorem W4{f:D}(e:di c f a H=Z r):di c' f a H=Z r:=by unfold di at e|-;split at e;{exact Nl h e};cases e
theorem oF{k:SK}(e:cz c G env H k=Z r):cz c' G env H k=Z r:=by unfold cz at e|-;split at e;{exact W4 h e};{exact e};exact e
theorem qB{G:Nat->Option (List PD)}:∀(s:List SO) env H r,iq c G s env H=Z r->iq c' G s env H=Z r|[],env,H,r,e=>e|o::s,env,H,r,e=>by unfold iq at e|-;split at e;{split at e;{rename_i hk;rw[oF h hk];exact qB s _ _ _ e};{rename_i hk;rw[oF h hk];exact e};cases e};{exact qB s _ _ _ e};cases e
theorem CU{G:Nat->Option (List PD)}:∀(s:List SO) env H (r:Env×Hp×List (Nat×Nat)),fR c G s env H=Z r->fR c' G s env H=Z r|[],env,H,r,e=>e|o::s,env,H,r,e=>by unfold fR at e|-;split at e;{split at e;{rename_i hk;rw[oF h hk];(try dsimp only);split at e;{rename_i hr;rw[CU s _ _ _ hr];exact e};cases e};cases e};{split at e;{rename_i hr;rw[CU s _ _ _ hr];exact e};cases e};cases e
theorem wU{G:Nat->Option (List PD)}{p:List (Nat×Nat)}{k:Nat}:∀(s:List SO) i (a:List Nat) env H (r:List (Nat×Nat)),lY c G p k i a s env H=Z r->lY c' G p k i a s env H=Z r|[],i,a,env,H,r,e=>e|o::s,i,a,env,H,r,e=>by simp only[lY] at e|-;split at e;{rename_i hb;rw[if_pos hb];obtain⟨x,b,rfl⟩:=au.1 e;rw[wU s _ _ _ _ _ b];rfl};rename_i hb;rw[if_neg hb];split at e;{split at e;{rename_i d H' hk;rw[oF h hk];dsimp only;split at e;{cases e};rename_i hw;rw[if_neg hw];obtain⟨x,b,rfl⟩:=au.1 e;rw[wU s _ _ _ _ _ b];rfl};cases e};{obtain⟨x,b,rfl⟩:=au.1 e;rw[wU s _ _ _ _ _ b];rfl};cases e
theorem CV{G:Nat->Option (List PD)}{p:List (Nat×Nat)}:∀(s:List SO) i env H (r:D×Hp×List (Nat×Nat)×Nat),gH c G p i s env H=Z r->gH c' G p i s env H=Z r|[],i,env,H,r,e=>e|o::s,i,env,H,r,e=>by simp only[gH] at e|-;split at e;{split at e;{rename_i d H' hk;rw[oF h hk];dsimp only;obtain⟨x,a,rfl⟩:=au.1 e;rw[CV s _ _ _ _ a];rfl};{rename_i d H' hk;rw[oF h hk];obtain⟨x,a,rfl⟩:=au.1 e;rw[wU h s _ _ _ _ _ a];rfl};cases e};{obtain⟨x,a,rfl⟩:=au.1 e;rw[CV s _ _ _ _ a];rfl};cases e
end
theorem CW{c:bt}{G:Nat->Option (List PD)}{p:List (Nat×Nat)}:∀ops i env H r,gH c G p i ops env H=Z r->fR c G ops env H=Y|[],i,env,H,r,e=>by cases e|o::ops,i,env,H,r,e=>by simp only[gH] at e;simp only[fR];split at e;{split at e;{rename_i d H' hk;rw[hk];obtain⟨x,h,rfl⟩:=au.1 e;dsimp only;rw[CW ops _ _ _ _ h]};{grind};cases e};{obtain⟨x,h,rfl⟩:=au.1 e;rw[CW ops _ _ _ _ h]};cases e
def It.le(i i':It):Prop:=∀b B,(∀s r,b s=Z r->B s=Z r)->∀s r,i b s=Z r->i' B s=Z r
theorem qC{M:Nat}(h:m<=M):It.le (λb s=>iter b m s) (λb s=>iter b M s):=by intro b B H;induction m generalizing M with|zero=>intro s r e;cases e|succ m i=>intro s r e;obtain⟨k,rfl⟩:∃k,M=k+1:=⟨M-1,by omega⟩;simp only[iter] at e|-;grind
theorem Hw{b c E a:St->Option (Out×St)}(h:∀s r,b s=Z r->E s=Z r)(d:∀s r,c s=Z r->a s=Z r){env:Env}{ps:List Nat}{kb:Hp->Bool}: ∀(xs:List (List D)) H (r:Out×St),ja b c env ps kb xs H=Z r->ja E a env ps kb xs H=Z r|[],H,r,e=>e|x::xs,H,r,e=>by simp only[ja] at e|-;split at e;{cases e};rename_i l;rw[if_neg l];split at e;{rename_i s1 h1;rw[h _ _ h1];dsimp only;split at e;{rename_i s2 h2;rw[d _ _ h2];dsimp only;split at e;{rename_i hk;rw[if_pos hk];exact Hw h d xs _ _ e};cases e};{grind};cases e};cases e
theorem jb{c C:bt}(h:bt.le c C){i I:It}(H:It.le i I){G:Nat->Option (List PD)}: ∀S s (r:Out×St),ay c G i S s=Z r->ay C G I S s=Z r| .skip,s,r,e=>e| .exit _,s,r,e=>e| .ret,s,r,e=>e| .tok ..,s,r,e=>e| .tokb ..,s,r,e=>e| .stuck,s,r,e=>e| .scope b,s,r,e=>jb h H b s r e| .loc b,s,r,e=>by unfold ay at e|-;obtain⟨x,d,rfl⟩:=au.1 e;rw[jb h H b s x d];rfl| .j4 b,s,r,e=>by unfold ay at e|-;obtain⟨x,d,rfl⟩:=au.1 e;rw[jb h H b s x d];rfl| .region k o,s,r,e=>by unfold ay at e|-;split at e;{rename_i he;rw[qB h _ _ _ _ he];exact e};{rename_i he;rw[qB h _ _ _ _ he];exact e};cases e| .draw k P o,s,r,e=>by simp only[ay] at e|-;split at e;{rename_i he;rw[CU h _ _ _ _ he];exact e};split at e;{rename_i hp;have p:=CV h _ _ _ _ _ hp;rw[CW _ _ _ _ _ p,p];exact e};cases e| .seq a b,s,r,e=>by unfold ay at e|-;split at e;{rename_i he;rw[jb h H a _ _ he];exact jb h H b _ _ e};rw[jb h H a _ _ e];grind| .cond j a b,s,r,e=>by unfold ay at e|-;split at e;{rename_i t ht;cases t with|true=>exact jb h H a _ _ e|false=>exact jb h H b _ _ e};cases e| .block id b,s,r,e=>by unfold ay at e|-;split at e;{rename_i he;rw[jb h H b _ _ he];exact e};rw[jb h H b _ _ e];grind| .loop k b,s,r,e=>by exact H _ _ (λs r e=>jb h H b _ _ e) _ _ e| .j5 f n g l A b,s,r,e=>by unfold ay at e|-;split at e;{exact Hw (λs r e=>jb h H A s r e) (λs r e=>jb h H b s r e) _ _ _ e};cases e
section
variable{c:bt}(h:bt.le c c'){i i':It}(hi:It.le i i')
include h hi
theorem wV:∀(l:List SC) s (r:Out×St),mT c G i l s=Z r->mT c' G i' l s=Z r|[],s,r,e=>e|a::l,s,r,e=>by simp only[mT] at e|-;split at e;{rename_i he;rw[jb h hi a _ _ he];exact wV l _ _ e};rw[jb h hi a _ _ e];grind
theorem Nn{b:SC}{s:St}(e:finish G res (ay c G i b s)=Z r):finish G res (ay c' G i' b s)=Z r:=by cases H:ay c G i b s with|none=>rw[H] at e;cases e|some x=>rw[jb h hi _ _ _ H,<-H];exact e
theorem W7:bt.le (qA c T G i) (qA c' T G i'):=by intro f a H r e;unfold qA at e|-;split at e;{split at e;{rename_i hl;rw[if_pos hl];split at e;{rename_i hf;rw[Nn h hi hf];exact e};cases e};cases e};cases e
theorem CX{s:St}(e:nQ c T G i res fv as rv s=Z r):nQ c' T G i' res fv as rv s=Z r:=by unfold nQ at e|-;split at e;{split at e;{rename_i hc;rw[Nl (W7 h hi) hc];exact e};cases e};cases e
theorem W8{s:St}(e:fZ c T G i fc s=Z r):fZ c' T G i' fc s=Z r:=by unfold fZ at e|-;split at e;{exact Nn h hi e};rename_i x hx;split at e;{rename_i H;(try dsimp only);rw[wV h hi _ _ _ H];(try dsimp only);split at e;{rename_i ho;rw[qB h _ _ _ _ ho];(try dsimp only);split at e;{rename_i hb;rw[jb h hi _ _ _ hb];exact CX h hi e};{rename_i hb;rw[jb h hi _ _ _ hb];exact CX h hi e};{rename_i hb;rw[jb h hi _ _ _ hb];exact CX h hi e};cases e};{rename_i ho;rw[qB h _ _ _ _ ho];exact e};cases e};rename_i hn;(try dsimp only);cases H:mT c G i x.pre s with|none=>rw[H] at e;cases e|some y=>rw[wV h hi _ _ _ H];rw[H] at e;obtain⟨o,S⟩:=y;cases o with|norm=>exact(hn _ H).elim|_=>exact e
end
theorem Np(p:Pg):∀n,bt.le (dY p n) (dY p (n+1))| 0=>λ_ _ _ _ e=>by cases e|n+1=>λf a H r e=>by have i:=Np p n;unfold dY at e|-;(try dsimp only at e|-);split at e;{rename_i hl;(try rw[hl]);exact e};rename_i hl;(try rw[hl]);(try dsimp only);split at e;{rename_i fc hf;(try rw[hf]);(try dsimp only);split at e;{rename_i hlen;(try rw[if_pos hlen]);cases h:fZ (dY p n) p.D p.G (λb s=>iter b n s) fc ⟨entry 0 a,H⟩ with|none=>rw[h] at e;unfold jI at e;split at e<;>cases e|some x=>rw[W8 i (qC (alD n)) h,<-h];exact e};cases e};cases e
theorem jr(p:Pg){n:Nat}(h:n<=m):bt.le (dY p n) (dY p m):=by induction h with|refl=>exact λ_ _ _ _ e=>e|step _ i=>exact λf a H r e=>Np p _ _ _ _ _ (i f a H r e)
open Classical in noncomputable def call (p:Pg):bt:=λf a H=>if h:∃r n,dY p n f a H=Z r then Z h.choose else Y
theorem uv{p:Pg}:call p f a H=Z r↔∃n,dY p n f a H=Z r:=by unfold call;constructor;{intro e;split at e;{rename_i h;obtain⟨n,b⟩:=h.choose_spec;cases e;exact⟨n,b⟩};cases e};rintro⟨n,b⟩;have h:∃r n,dY p n f a H=Z r:=⟨r,n,b⟩;rw[dif_pos h];obtain⟨m,d⟩:=h.choose_spec;have g:=jr p (mL n m) _ _ _ _ b;have c:=jr p (j1 n m) _ _ _ _ d;rw[g] at c;exact c.symm
open Classical in
noncomputable def aO:It:=λb s=>if h:∃r m,iter b m s=Z r then Z h.choose else Y
theorem pN{s:St}{r:Out×St}:aO b s=Z r↔∃m,iter b m s=Z r:=by unfold aO;constructor;{intro e;split at e;{rename_i h;obtain⟨n,H⟩:=h.choose_spec;cases e;exact⟨n,H⟩};cases e};rintro⟨n,H⟩;have h:∃r n,iter b n s=Z r:=⟨r,n,H⟩;rw[dif_pos h];obtain⟨m,d⟩:=h.choose_spec;have c:=qC (mL n m) b b (λ_ _ e=>e) _ _ H;have a:=qC (j1 n m) b b (λ_ _ e=>e) _ _ d;dsimp only at c a;rw[c] at a;exact a.symm
theorem W9{s:St}(h:b s=Z (.norm,s')):aO b s=aO b s':=by cases x:aO b s' with|some r=>obtain⟨m,H⟩:=pN.1 x;exact pN.2 ⟨m+1,by simp only[iter,h];exact H⟩|none=>cases y:aO b s with|none=>rfl|some r=>obtain⟨m,H⟩:=pN.1 y;cases m with|zero=>cases H|succ m=>simp only[iter,h] at H;rw[pN.2 ⟨m,H⟩] at x;cases x
theorem Xa{s:St}{o:Out}(h:b s=Z (o,s'))(H:o≠.norm):aO b s=Z (o,s'):=pN.2 ⟨1,by simp only[iter,h];split;{rename_i hh;cases hh;exact(H rfl).elim};rfl⟩
section
variable{p:Pg}
theorem wW{k:SK}(e:cz (call p) G env H k=Z r):∃n,cz (dY p n) G env H k=Z r:=by unfold cz at e|-;split at e;{rename_i f args;unfold di at e|-;split at e;{rename_i g first cap hf;unfold ag at e|-;dsimp only at e|-;split at e;{rename_i hn;split at e;{rename_i as bx tk h1 h2 h3;split at e;{rename_i r' H' hc;obtain⟨n,h⟩:=uv.1 hc;refine⟨n,?_⟩;(try rw[if_pos hn,h1,h2,h3]);(try dsimp only);rw[h];first |exact e |(rw[if_pos hn];exact e)};cases e};cases e};cases e};cases e};{exact⟨0,e⟩};exact⟨0,e⟩
theorem wX:∀(s:List SO) (env:Env) (H:Hp) (r:RO),iq (call p) G s env H=Z r->∃n,iq (dY p n) G s env H=Z r|[],env,H,r,e=>⟨0,e⟩|o::s,env,H,r,e=>by unfold iq at e;split at e;{rename_i hg;split at e;{rename_i hk;obtain⟨n,h⟩:=wW hk;obtain⟨m,a⟩:=wX s _ _ _ e;refine⟨max n m,?_⟩;unfold iq;(try rw[hg]);(try dsimp only);rw[oF (jr p (mL n m)) h];exact qB (jr p (j1 n m)) _ _ _ _ a};{rename_i hk;obtain⟨n,h⟩:=wW hk;refine⟨n,?_⟩;unfold iq;(try rw[hg]);(try dsimp only);rw[h];exact e};cases e};{rename_i hg;obtain⟨m,a⟩:=wX s _ _ _ e;refine⟨m,?_⟩;unfold iq;(try rw[hg]);exact a};cases e
theorem Hy:∀(s:List SO) (env:Env) (H:Hp) (r:Env×Hp×List (Nat×Nat)),fR (call p) G s env H=Z r->∃n,fR (dY p n) G s env H=Z r|[],env,H,r,e=>⟨0,e⟩|o::s,env,H,r,e=>by unfold fR at e;split at e;{rename_i hg;split at e;{rename_i hk;split at e;{rename_i hr;obtain⟨n,a⟩:=wW hk;obtain⟨m,h⟩:=Hy s _ _ _ hr;refine⟨max n m,?_⟩;unfold fR;(try rw[hg]);(try dsimp only);rw[oF (jr p (mL n m)) a];(try dsimp only);rw[CU (jr p (j1 n m)) _ _ _ _ h];exact e};cases e};cases e};{rename_i hg;split at e;{rename_i hr;obtain⟨m,h⟩:=Hy s _ _ _ hr;refine⟨m,?_⟩;unfold fR;(try rw[hg]);(try dsimp only);rw[h];exact e};cases e};cases e
theorem CY{P:List (Nat×Nat)}{k:Nat}:∀(s:List SO) (i:Nat) (a:List Nat) (env:Env) (H:Hp) (r:List (Nat×Nat)),lY (call p) G P k i a s env H=Z r->∃n,lY (dY p n) G P k i a s env H=Z r|[],i,a,env,H,r,e=>⟨0,e⟩|o::s,i,a,env,H,r,e=>by simp only[lY] at e|-;split at e;{rename_i hb;obtain⟨x,h,rfl⟩:=au.1 e;obtain⟨n,b⟩:=CY s _ _ _ _ _ h;exact⟨n,by rw[if_pos hb,b];rfl⟩};rename_i hb;split at e;{rename_i hg;split at e;{rename_i d H' hk;obtain⟨n,b⟩:=wW hk;split at e;{cases e};rename_i hw;obtain⟨x,h,rfl⟩:=au.1 e;obtain⟨m,c⟩:=CY s _ _ _ _ _ h;refine⟨max n m,?_⟩;rw[if_neg hb,oF (jr p (mL n m)) b];dsimp only;rw[if_neg hw,wU (jr p (j1 n m)) _ _ _ _ _ _ c];rfl};cases e};{rename_i hg;obtain⟨x,h,rfl⟩:=au.1 e;obtain⟨n,b⟩:=CY s _ _ _ _ _ h;exact⟨n,by rw[if_neg hb,b];rfl⟩};cases e
theorem Hz{P:List (Nat×Nat)}:∀(s:List SO) (i:Nat) (env:Env) (H:Hp) (r:D×Hp×List (Nat×Nat)×Nat),gH (call p) G P i s env H=Z r->∃n,gH (dY p n) G P i s env H=Z r|[],i,env,H,r,e=>⟨0,e⟩|o::s,i,env,H,r,e=>by simp only[gH] at e|-;split at e;{rename_i hg;split at e;{rename_i d H' hk;obtain⟨n,h⟩:=wW hk;obtain⟨x,a,rfl⟩:=au.1 e;obtain⟨m,b⟩:=Hz s _ _ _ _ a;refine⟨max n m,?_⟩;rw[oF (jr p (mL n m)) h];dsimp only;rw[CV (jr p (j1 n m)) _ _ _ _ _ b];rfl};{rename_i d H' hk;obtain⟨n,h⟩:=wW hk;obtain⟨x,a,rfl⟩:=au.1 e;obtain⟨m,b⟩:=CY s _ _ _ _ _ a;refine⟨max n m,?_⟩;rw[oF (jr p (mL n m)) h];dsimp only;rw[wU (jr p (j1 n m)) _ _ _ _ _ _ b];rfl};cases e};{rename_i hg;obtain⟨x,a,rfl⟩:=au.1 e;obtain⟨n,h⟩:=Hz s _ _ _ _ a;exact⟨n,by rw[h];rfl⟩};cases e
abbrev gz(p:Pg)(G:Nat->Option (List PD))(n:Nat):SC->St->Option (Out×St):=ay (dY p n) G (λb s=>iter b n s)
theorem mU{n:Nat}(h:n<=m){c:SC}{s:St}{r:Out×St}(e:gz p G n c s=Z r):gz p G m c s=Z r:=jb (jr p h) (qC h) c s r e
theorem js:∀(C:SC) (s:St) (r:Out×St),ay (call p) G aO C s=Z r->∃n,gz p G n C s=Z r| .skip,s,r,e=>⟨0,e⟩| .exit _,s,r,e=>⟨0,e⟩| .ret,s,r,e=>⟨0,e⟩| .tok ..,s,r,e=>⟨0,e⟩| .tokb ..,s,r,e=>⟨0,e⟩| .stuck,s,r,e=>⟨0,e⟩| .scope b,s,r,e=>js b s r e| .loc b,s,r,e=>by unfold ay at e;obtain⟨x,w,rfl⟩:=au.1 e;obtain⟨n,c⟩:=js b s x w;refine⟨n,?_⟩;unfold gz at c|-;unfold ay;rw[c];rfl| .j4 b,s,r,e=>by unfold ay at e;obtain⟨x,w,rfl⟩:=au.1 e;obtain⟨n,c⟩:=js b s x w;refine⟨n,?_⟩;unfold gz at c|-;unfold ay;rw[c];rfl| .region k O,s,r,e=>by unfold ay at e;split at e;{rename_i he;obtain⟨n,c⟩:=wX _ _ _ _ he;exact⟨n,by unfold gz ay;rw[c];exact e⟩};{rename_i he;obtain⟨n,c⟩:=wX _ _ _ _ he;exact⟨n,by unfold gz ay;rw[c];exact e⟩};cases e| .draw k P O,s,r,e=>by simp only[ay] at e;split at e;{rename_i he;obtain⟨n,c⟩:=Hy _ _ _ _ he;exact⟨n,by unfold gz;simp only[ay];rw[c];exact e⟩};rename_i he;split at e;{rename_i hp;obtain⟨n,c⟩:=Hz _ _ _ _ _ hp;exact⟨n,by unfold gz;simp only[ay];rw[CW _ _ _ _ _ c,c];exact e⟩};cases e| .seq a b,s,r,e=>(by unfold ay at e;split at e;{rename_i he;obtain⟨n,c⟩:=js a _ _ he;obtain⟨m,z⟩:=js b _ _ e;refine⟨max n m,?_⟩;unfold gz ay;have l:=mU (mL n m) c;unfold gz at l;rw[l];exact mU (j1 n m) z};rename_i c;obtain⟨n,d⟩:=js a _ _ e;refine⟨n,?_⟩;unfold gz at d|-;unfold ay;rw[d];obtain⟨o,S⟩:=r;(cases o with|norm=>exact(c _ e).elim|_=>rfl))| .cond R a b,s,r,e=>by unfold ay at e;split at e;{rename_i t ht;cases t with|true=>obtain⟨n,c⟩:=js a _ _ e;exact⟨n,by unfold gz ay;(try rw[ht]);exact c⟩|false=>obtain⟨n,c⟩:=js b _ _ e;exact⟨n,by unfold gz ay;(try rw[ht]);exact c⟩};cases e| .block id b,s,r,e=>(by unfold ay at e;split at e;{rename_i he;obtain⟨n,c⟩:=js b _ _ he;refine⟨n,?_⟩;unfold gz at c|-;unfold ay;rw[c];exact e};rename_i c;obtain⟨n,d⟩:=js b _ _ e;refine⟨n,?_⟩;unfold gz at d|-;unfold ay;rw[d];obtain⟨o,S⟩:=r;(cases o with|exit i=>exact(c _ _ e).elim|_=>rfl))| .j5 f L g E A b,s,r,e=>by unfold ay at e;split at e;{rename_i X hg;(have y:∀(K:Hp->Bool) (X:List (List D)) (H:Hp) (r:Out×St),ja (ay (call p) G aO A) (ay (call p) G aO b) s.env E K X H=Z r-> ∃n,ja (gz p G n A) (gz p G n b) s.env E K X H=Z r:=by intro K X;induction X with|nil=>intro H r h;exact⟨0,h⟩|cons x X I=>intro H r h;simp only[ja] at h;split at h;{cases h};rename_i F;split at h;{rename_i s1 l;obtain⟨j,J⟩:=js A _ _ l;split at h;{rename_i s2 u;obtain⟨N,B⟩:=js b _ _ u;split at h;(case isFalse=>cases h);rename_i M;obtain⟨v,Q⟩:=I _ _ h;refine⟨max j (max N v),?_⟩;simp only[ja];rw[if_neg F,mU (mL _ _) J];dsimp only;rw[mU (eR (mL N v) (j1 _ _)) B];dsimp only;rw[if_pos M];exact Hw (λs r e=>mU (eR (j1 N v) (j1 _ _)) e) (λs r e=>mU (eR (j1 N v) (j1 _ _)) e) _ _ _ Q};{rename_i o s2 c u;obtain⟨N,B⟩:=js b _ _ u;refine⟨max j N,?_⟩;simp only[ja];rw[if_neg F,mU (mL _ _) J];dsimp only;rw[mU (j1 _ _) B];cases o with|norm=>exact(c rfl).elim|_=>exact h};cases h};cases h);obtain⟨n,c⟩:=y _ _ _ _ e;refine⟨n,?_⟩;unfold gz at c|-;unfold ay;rw[hg];exact c};cases e| .loop k b,s,r,e=>by unfold ay at e;obtain⟨m,z⟩:=pN.1 e;clear e;(have y:∀m s,iter (λs=>ay (call p) G aO b ⟨s.env.keep k,s.hp⟩) m s=Z r-> ∃n,iter (λs=>gz p G n b ⟨s.env.keep k,s.hp⟩) n s=Z r:=by intro m;induction m with|zero=>intro s h;cases h|succ m I=>intro s h;simp only[iter] at h;split at h;{rename_i S hb;obtain⟨j,l⟩:=js b _ _ hb;obtain⟨N,u⟩:=I _ h;refine⟨max j N+1,?_⟩;simp only[iter];rw[mU (alE (mL j N)) l];exact qC (j1 j N) _ _ (λs r e=>mU (alE (j1 j N)) e) _ _ u};rename_i hb;obtain⟨j,l⟩:=js b _ _ h;refine⟨j+1,?_⟩;simp only[iter];rw[mU (alD j) l];obtain⟨o,S⟩:=r;cases o with|norm=>exact(hb _ h).elim|_=>rfl);obtain⟨n,c⟩:=y m s z;exact⟨n,by unfold gz ay;exact c⟩
theorem CZ{s:St}(e:finish G fc.res (ay (call p) G aO fc.body s)=Z r):∃n,finish G fc.res (gz p G n fc.body s)=Z r:=by cases h:ay (call p) G aO fc.body s with|none=>rw[h] at e;cases e|some x=>obtain⟨n,H⟩:=js _ _ _ h;exact⟨n,by rw[H,<-h];exact e⟩
theorem HA:∀(l:List SC) (s:St) (r:Out×St),mT (call p) G aO l s=Z r->∃n,mT (dY p n) G (λb s=>iter b n s) l s=Z r|[],s,r,e=>⟨0,e⟩|a::l,s,r,e=>by simp only[mT] at e|-;split at e;{rename_i he;obtain⟨n,H⟩:=js a _ _ he;obtain⟨m,d⟩:=HA l _ _ e;refine⟨max n m,?_⟩;have c:=mU (mL n m) H;unfold gz at c;rw[c];exact wV (jr p (j1 n m)) (qC (j1 n m)) l _ _ d};rename_i H;obtain⟨n,h⟩:=js a _ _ e;refine⟨n,?_⟩;unfold gz at h;rw[h];obtain⟨o,S⟩:=r;cases o with|norm=>exact(H _ e).elim|_=>rfl
theorem Xb(e:qA (call p) T G aO f a H=Z r):∃n,qA (dY p n) T G (λb s=>iter b n s) f a H=Z r:=by unfold qA at e|-;split at e;{split at e;{rename_i hl;split at e;{rename_i hf;obtain⟨n,h⟩:=CZ hf;refine⟨n,?_⟩;unfold gz at h;rw[if_pos hl,h];exact e};cases e};cases e};cases e
theorem Xc{s:St}(e:nQ (call p) T G aO res fv as rv s=Z r):∃n,nQ (dY p n) T G (λb s=>iter b n s) res fv as rv s=Z r:=by unfold nQ at e|-;split at e;{rename_i g first cap;split at e;{rename_i hc;unfold ag at hc;dsimp only at hc;split at hc;{rename_i hn;split at hc;{rename_i C0 bx tk h1 h2 h3;split at hc;{rename_i r' H' jJ;obtain⟨n,h⟩:=Xb jJ;refine⟨n,?_⟩;unfold ag;(try dsimp only);rw[if_pos hn,h1,h2,h3];(try dsimp only);rw[h];(try dsimp only);rw[hc];exact e};cases hc};cases hc};cases hc};cases e};cases e
theorem Xd{s:St}(e:fZ (call p) T G aO fc s=Z r):∃n,fZ (dY p n) T G (λb s=>iter b n s) fc s=Z r:=by unfold fZ at e|-;split at e;{exact CZ e};rename_i x hx;split at e;{rename_i s1 H;obtain⟨c,j⟩:=HA _ _ _ H;split at e;{rename_i sw H1 ho;obtain⟨a,i⟩:=wX _ _ _ _ ho;(have k:∀(o:Out) (S:St) (v:D),ay (call p) G aO fc.body ⟨sw.keep x.keep,H1⟩=Z (o,S)->nQ (call p) T G aO fc.res (x.f.ev sw) (x.as.map (·.ev sw)) v S=Z r-> ∃n,mT (dY p n) G (λb s=>iter b n s) x.pre s=Z (.norm,s1)/\iq (dY p n) G x.ops s1.env s1.hp=Z (.ok sw H1)/\ay (dY p n) G (λb s=>iter b n s) fc.body ⟨sw.keep x.keep,H1⟩=Z (o,S)/\ nQ (dY p n) T G (λb s=>iter b n s) fc.res (x.f.ev sw) (x.as.map (·.ev sw)) v S=Z r:=by intro o S v h u;obtain⟨l,w⟩:=js _ _ _ h;obtain⟨m,z⟩:=Xc u;let N:=max (max c a) (max l m);(have L:c<=N:=by omega);(have B:a<=N:=by omega);(have C:l<=N:=by omega);(have t:m<=N:=by omega);exact⟨N,wV (jr p L) (qC L) _ _ _ j,qB (jr p B) _ _ _ _ i,mU C w,CX (jr p t) (qC t) z⟩);split at e;{rename_i S h;obtain⟨n,A,f,a3,a4⟩:=k _ _ _ h e;exact⟨n,by(try dsimp only);rw[A];(try dsimp only);rw[f];(try dsimp only);rw[a3];exact a4⟩};{rename_i S h;obtain⟨n,A,f,a3,a4⟩:=k _ _ _ h e;exact⟨n,by(try dsimp only);rw[A];(try dsimp only);rw[f];(try dsimp only);rw[a3];exact a4⟩};{rename_i d S h;obtain⟨n,A,f,a3,a4⟩:=k _ _ _ h e;exact⟨n,by(try dsimp only);rw[A];(try dsimp only);rw[f];(try dsimp only);rw[a3];exact a4⟩};cases e};{rename_i d sw H1 ho;obtain⟨a,i⟩:=wX _ _ _ _ ho;refine⟨max c a,?_⟩;(try dsimp only);rw[wV (jr p (mL c a)) (qC (mL c a)) _ _ _ j];(try dsimp only);rw[qB (jr p (j1 c a)) _ _ _ _ i];exact e};cases e};rename_i hn;cases H:mT (call p) G aO x.pre s with|none=>rw[H] at e;cases e|some y=>obtain⟨n,g⟩:=HA _ _ _ H;refine⟨n,?_⟩;(try dsimp only);rw[g];rw[H] at e;obtain⟨o,E⟩:=y;cases o with|norm=>exact(hn _ H).elim|_=>exact e
theorem wY(l:p.lib f a H=Y)(b:p.F f=Z fc)(c:O a=fc.np) (z:fc.plain=true) (e:finish p.G fc.res (ay (call p) p.G aO fc.body ⟨entry 0 a,H⟩)=Z r):call p f a H=Z r:=by
 obtain⟨n,h⟩:=CZ e;have z:fc.aB=false/\fc.fN=Y:=by unfold FC.plain at z;simpa using z
 refine uv.2 ⟨n+1,?_⟩;unfold dY;try dsimp only
 rw[l,b];try dsimp only
 rw[if_pos c,z.1];unfold fZ;rw[z.2];exact h
theorem HB{R:bB×Hp}(l:p.lib f a H=Y)(c:p.F f=Z fc)(d:O a=fc.np) (z:fc.frozen=true) (e:finish p.G fc.res (ay (call p) p.G aO fc.body ⟨entry 0 a,H⟩)=Z r) (g:nP (O H.bx) r=R):call p f a H=Z R:=by
 obtain⟨n,h⟩:=CZ e;have z:fc.aB=true/\fc.fN=Y:=by unfold FC.frozen at z;simpa using z
 refine uv.2 ⟨n+1,?_⟩;unfold dY;try dsimp only
 rw[l,c];try dsimp only
 rw[if_pos d,z.1];simp only[jI,if_true];have :fZ (dY p n) p.D p.G (λb s=>iter b n s) fc ⟨entry 0 a,H⟩=Z r:=by unfold fZ;rw[z.2];exact h
 rw[this,eZ,g]
theorem HC(l:p.lib f a H=Z r):call p f a H=Z r:=uv.2 ⟨1,by unfold dY;dsimp only;rw[l]⟩
theorem HD(n:Nat)(h:dY p n f a H=Z r):call p f a H=Z r:=uv.2 ⟨n,h⟩
end
end
section
abbrev Mem:=Nat->Nat->Option Value
inductive aU (m:Mem):Value->PD->Prop where|bool b:aU m (.bool b) (.bool b)|int k n:aU m (.int k n) (.int k n)|str s:aU m (.string ⟨s.toArray⟩) (.str s)|i7:aU m (.pointer Y) .i7|aj:aU m (.slice Y 0 0) .aj|ly:aU m .nilFunc .ly|iH:aU m .nilIface .iH|nN:aU m (.map Y) .nN|jt (a:Option Addr) cap sz:aU m (.slice a 0 cap) (.slice sz [])|sl b o cap sz (es:List PD) (vs:Nat->Nat->Value) (hc:O es<=cap) (bR:∀e∈es,O e.cells=sz) (qD:∀e∈es,∀c∈e.cells,c.one=true) (hm:∀i j,i<O es->j<sz->m b (o+i*sz+j)=Z (vs i j)) (hr:∀i e j c,es[i]? =Z e->e.cells[j]? =Z c->aU m (vs i j) c):aU m (.slice (Z ⟨b,o,Y⟩) (O es) cap) (.slice sz es)|bW a cap sz:aU m (.slice (Z a) 0 cap) (.bW sz)|agg (cs:Array Value) (ds:List PD) (hl:cs.size=O ds) (qD:∀d∈ds,d.one=true) (hr:∀i d,ds[i]? =Z d->aU m (cs.getD i undef) d):aU m (.agg cs) (.agg ds)|iface (t:Nat) v x (h:aU m v x):aU m (.iface t v) (.iface t x)
def Mem.le(m m':Mem):Prop:=∀b o v,m b o=Z v->m' b o=Z v
variable{vs tmps:Array Value}{env:Env}{H H':Hp}{cs cA ds:List D}{us:List Value}{m:Mem}{b T t f a i off:Nat}{x fr:Nat×Nat}{G:Nat->Option (List PD)}{r:Option (Nat×Nat)}{o:Option Obj}{v:Value}{w w' w1:World}
theorem aU.mono{M:Mem}(h:Mem.le m M){d:PD}(r:aU m v d):aU M v d:=by induction r with|bool b=>exact .bool b|int k n=>exact .int k n|str s=>exact .str s|i7=>exact .i7|aj=>exact .aj|ly=>exact .ly|iH=>exact .iH|nN=>exact .nN|jt a c z=>exact .jt a c z|sl b o c z E V f H e g l I=>exact .sl b o c z E V f H e (λi j p u=>h _ _ _ (g i j p u)) I|bW a c z=>exact .bW a c z|agg C w y e l I=>exact .agg C w y e I|iface t v x _ I=>exact .iface t v x I
theorem aU.one{d:PD}(r:aU m v d)(h:d.one=true):v.oneCell'=true:=by cases r<;>first |rfl |cases h
theorem aU.cells{d:PD}(r:aU m v d):v.cells.size=O d.cells/\∀i c,d.cells[i]? =Z c->aU m (v.cells.getD i undef) c/\c.one=true:=by
 cases r with
 |agg s a l o H=>exact⟨l,λi c h=>⟨H i c h,o c (bK h)⟩⟩
 |_=>
  refine⟨rfl,λi c h=>?_⟩
  match i with
  | 0=>
   simp only[PD.cells,iY,cH] at h;subst h;refine⟨?_,rfl⟩
   first
    |exact .bool _ |exact .int _ _ |exact .str _ |exact .i7 |exact .aj |exact .ly |exact .iH |exact .nN |exact .jt _ _ _ |exact .bW _ _ _
    |exact .sl _ _ _ _ _ _ ‹_› ‹_› ‹_› ‹_› ‹_›
    |exact .iface _ _ _ ‹_›
  |i+1=>simp[PD.cells] at h
structure Row where
 e:Nat
 sz:Nat
 st:Nat->Option (Option (Nat×Nat))
structure Gh where
 base:Nat
 bq:Nat->Option (Nat×Nat)
 mem:Mem
 boxes:List Nat
 rows:List Row
def sx(r:Option (Nat×Nat))(n:Nat):Value:=match r with|none=>.slice Y 0 0|some (b,cap)=>.slice (Z ⟨b,0,Y⟩) n cap
inductive aG (γ:Gh):Value->D->Prop where|dead v:aG γ v .dead|undef:aG γ undef .undef|p v x (h:aU γ.mem v x):aG γ v (.p x)|cw b n e sz (es:List PD) (hb:γ.base<=b) (ht:γ.bq b=Z (2*e,n*sz)) (hn:n=O es) (h:aU γ.mem (.slice (Z ⟨b,0,Y⟩) n n) (.slice sz es)):aG γ (.slice (Z ⟨b,0,Y⟩) n n) (.cw e sz es)|aP v (t e sz:Nat) (es:List PD) row (r:Option (Nat×Nat)) (h1:γ.rows[t]? =Z row) (h2:row.e=e) (h3:row.sz=sz) (h4:aU γ.mem v (.slice sz es)) (h5:row.st (O es)=Z r) (h6:v=sx r (O es)):aG γ v (.aP t e sz es)|box i off b (h:γ.boxes[i]? =Z b):aG γ (.pointer (Z ⟨b,off,Y⟩)) (.box i off)|dJ g off:aG γ (.pointer (Z ⟨g,off,Y⟩)) (.dJ g off)|ro b o off (cs:List PD) (vs:Nat->Value) (hm:∀j,j<O cs->γ.mem b (o+j)=Z (vs j)) (hr:∀j c,cs[j]? =Z c->aU γ.mem (vs j) c/\c.one=true): aG γ (.pointer (Z ⟨b,o+off,Y⟩)) (.ro cs off)|agg (cs:Array Value) (ds:List D) (hl:cs.size=O ds) (qD:∀d∈ds,d.one=true) (hr:∀i d,ds[i]? =Z d->aG γ (cs.getD i Go.undef) d):aG γ (.agg cs) (.agg ds)|aL (cs:Array Value) (ds:List D) (hl:cs.size=O ds) (hr:∀i d,ds[i]? =Z d->aG γ (cs.getD i Go.undef) d):aG γ (.tuple cs) (.aL ds)|fn (f:Nat) (as cs:Array Value) (ds es:List D) (hl:as.size=O ds) (hr:∀i d,ds[i]? =Z d->aG γ (as.getD i Go.undef) d) (kl:cs.size=O es) (kr:∀i d,es[i]? =Z d->aG γ (cs.getD i Go.undef) d):aG γ (.func (.func f) as cs) (.fn f ds es)|aZ i off n (cap:Option Nat) sz b c (h:γ.boxes[i]? =Z b) (hc:n<=c) (mV:∀k,cap=Z k->c=k):aG γ (.slice (Z ⟨b,off,Y⟩) n c) (.aZ i off n cap sz)|eJ (a:Option Addr) sz:aG γ (.slice a 0 0) (.eJ sz)|dK (t:Nat) v d (h:aG γ v d):aG γ (.iface t v) (.dK t d)|bO i b (h:γ.boxes[i]? =Z b):aG γ (.map (Z b)) (.bO i)|bu (as cs:Array Value) kd (ks:List PD) (ds:List D) (s:Nat->Nat) (hl:as.size=O ks) (kl:cs.size=O ks) (dl:O ds=O ks) (hs:∀j,j<O ks->s j<O ks) (hj:∀j j',j<O ks->j'<O ks->s j=s j'->j=j') (hg:∀m,m<O ks->∃j,j<O ks/\s j=m) (hr:∀j x,ks[j]? =Z x->aU γ.mem (as.getD (s j) Go.undef) x/\dg x=kd) (hd:∀(j j':Nat) x y,ks[j]? =Z x->ks[j']? =Z y->eK x y=true->j=j') (kr:∀j d,ds[j]? =Z d->aG γ (cs.getD (s j) Go.undef) d):aG γ (.func (.func 0) as cs) (.bu kd ks ds)|eF (a:Option Addr) n sz (es:List PD) (hn:n=O es) (h:aU γ.mem (.slice a n n) (.slice sz es)):aG γ (.slice a n n) (.eF sz es)|af i e n sz b c (h:γ.boxes[i]? =Z b) (hc:n<=c) (hm:c<=maxLen) {k:Nat} (hk:k<1) (ht:γ.bq b=Z (2*e+k,c*sz)):aG γ (.slice (Z ⟨b,0,Y⟩) n c) (.af i e n sz)
def lB(cs:List D)(o:Option Obj):Option Obj:=if az cs then(match o with|some (.map es _)=>Z (.cells #[.func (.func 0) (es.map (·.key)) (es.map (·.val))] 0 (0,0))|_=>Y) else o
theorem gA(h:az cs=false)(o:Option Obj):lB cs o=o:=by simp[lB,h]
theorem C1(h:az cA=az cs)(o:Option Obj):lB cA o=lB cs o:=by simp[lB,h]
theorem Xe{x:Obj}(h:lB cs o=Z x):∃y,o=Z y:=by cases o with|some y=>grind|none=>unfold lB at h;grind
theorem zK(h:∀c∈cs,c.one=true):az cs=false:=by unfold az;split;{rename_i kd ks vs;have:=h (.bu kd ks vs) (by simp);cases this};rfl
structure Gh.le (γ γ':Gh):Prop where
 base:γ'.base=γ.base
 bq:∀b x,γ.bq b=Z x->γ'.bq b=Z x
 mem:Mem.le γ.mem γ'.mem
 boxes:∀(i b:Nat),γ.boxes[i]? =Z b->γ'.boxes[i]? =Z b
 rows:∀(t:Nat) r,γ.rows[t]? =Z r->∃r',γ'.rows[t]? =Z r'/\r'.e=r.e/\r'.sz=r.sz/\∀n x,r.st n=Z x->r'.st n=Z x
theorem Gh.le.refl(γ:Gh):γ.le γ:=⟨rfl,λ_ _ h=>h,λ_ _ _ h=>h,λ_ _ h=>h,λ_ r h=>⟨r,h,rfl,rfl,λ_ _ h=>h⟩⟩
theorem Gh.le.trans{a b c:Gh}(h:a.le b)(k:b.le c):a.le c:=⟨k.base.trans h.base,λ_ _ x=>k.bq _ _ (h.bq _ _ x),λ_ _ _ x=>k.mem _ _ _ (h.mem _ _ _ x),λ_ _ x=>k.boxes _ _ (h.boxes _ _ x),λt r x=>by obtain⟨R,A,d,a3,a4⟩:=h.rows t r x;obtain⟨e,B,f,g,i⟩:=k.rows t R A;grind⟩
variable{γ γ':Gh}
theorem aG.mono(h:γ.le γ'){d:D}(r:aG γ v d):aG γ' v d:=by induction r with|dead v=>exact .dead v|undef=>exact .undef|p v x k=>exact .p v x (k.mono h.mem)|cw b n e z E H B F k=>exact .cw b n e z E (h.base▸H) (h.bq _ _ B) F (k.mono h.mem)|aP v t e z E R r N P Q S T U=>obtain⟨V,W,X,a3,a4⟩:=h.rows t R N;exact .aP v t e z E V r W (X.trans P) (a3.trans Q) (S.mono h.mem) (a4 _ _ T) U|box i O b H=>exact .box i O b (h.boxes _ _ H)|dJ g O=>exact .dJ g O|ro b o O C Y G l=>exact .ro b o O C Y (λj J=>h.mem _ _ _ (G j J)) (λj c w=>⟨(l j c w).1.mono h.mem,(l j c w).2⟩)|agg C m u y l I=>exact .agg C m u y I|aL C m u l I=>exact .aL C m u I|fn f as C m E u l K Z I L=>exact .fn f as C m E u I K L|aZ i O n M z b c H w A=>exact .aZ i O n M z b c (h.boxes _ _ H) w A|eJ a z=>exact .eJ a z|dK t v d _ I=>exact .dK t v d I|bO i b H=>exact .bO i b (h.boxes _ _ H)|bu as C kd ks m s u K dl hs J hg l hd Z I=>exact .bu as C kd ks m s u K dl hs J hg (λi x k=>⟨(l i x k).1.mono h.mem,(l i x k).2⟩) hd I|eF a n z E F k=>exact .eF a n z E F (k.mono h.mem)|af i e n z b c H w G hk B=>exact .af i e n z b c (h.boxes _ _ H) w G hk (h.bq _ _ B)
def cp(γ:Gh)(vs:Array Value)(ds:List D):Prop:=vs.size=O ds/\∀i d,ds[i]? =Z d->aG γ (vs.getD i undef) d
theorem cp.mono(h:γ.le γ')(r:cp γ vs ds):cp γ' vs ds:=⟨r.1,λi d H=>(r.2 i d H).mono h⟩
def dT(γ:Gh)(vs:Array Value)(ds:List D):Prop:=O ds<=vs.size/\∀i d,ds[i]? =Z d->aG γ (vs.getD i undef) d
theorem cp.zM(r:cp γ vs ds):dT γ vs ds:=⟨Nat.le_of_eq r.1.symm,r.2⟩
theorem dT.mono(h:γ.le γ')(r:dT γ vs ds):dT γ' vs ds:=⟨r.1,λi d H=>(r.2 i d H).mono h⟩
theorem aG.Nq{d:D}(r:aG γ v d)(h:d.one=true):v.oneCell'=true:=by cases r with|p v x H=>exact H.one h|aP v t e s E w r b c f a g i=>exact a.one rfl|_=>first |rfl |cases h
theorem aG.cells{d:D}(r:aG γ v d)(h:d.cells.all D.one=true):cp γ v.cells d.cells/\∀c∈d.cells,c.one=true:=by
 have y:∀c∈d.cells,c.one=true:=by simpa[fy] using h
 refine⟨?_,y⟩;have s:∀(v:Value) (d:D),d.cells=[d]->v.cells= #[v]->aG γ v d->cp γ v.cells d.cells:=by intro v d u G r;rw[u,G];refine⟨rfl,λi c m=>?_⟩;match i with| 0=>simp_all|i+1=>simp at m
 have A:∀v:Value,v.oneCell'=true->v.cells= #[v]:=by intro v G;cases v<;>first |rfl |cases G
 cases r with|dead v=>simp[D.cells,D.one] at h|undef=>simp[D.cells,D.one] at h|p v x j=>by_cases H:x.one=true;{(have m:(D.p x).cells=[.p x]:=by cases x<;>first |rfl |cases H);exact s v _ m (A v (j.one H)) (.p v x j)};(cases j with|agg C F w N l=>refine⟨by simp[D.cells,Value.cells,w],λi d u=>?_⟩;simp only[D.cells,cC,au] at u;obtain⟨x,j,rfl⟩:=u;exact .p _ _ (l i x j)|_=>simp[PD.one] at H)|agg C F w N l=>exact⟨w,l⟩|aL C F w l=>simp[D.cells,D.one] at h|cw b n e z E k I J j=>exact s _ _ rfl rfl (.cw b n e z E k I J j)|aP v t e z E R r P Q S M T U=>exact s _ _ rfl (A _ (M.one rfl)) (.aP v t e z E R r P Q S M T U)|box i O b k=>exact s _ _ rfl rfl (.box i O b k)|dJ g O=>exact s _ _ rfl rfl (.dJ g O)|ro b o O C V K l=>exact s _ _ rfl rfl (.ro b o O C V K l)|fn f as C F E w l W X=>exact s _ _ rfl rfl (.fn f as C F E w l W X)|aZ i O n L z b c k m B=>exact s _ _ rfl rfl (.aZ i O n L z b c k m B)|eJ a z=>exact s _ _ rfl rfl (.eJ a z)|dK t v d u=>exact s _ _ rfl rfl (.dK t v d u)|bO i b k=>exact s _ _ rfl rfl (.bO i b k)|bu=>simp[D.cells,D.one] at h|eF a n z E J j=>exact s _ _ rfl rfl (.eF a n z E J j)|af i e n z b c k m K Y I=>exact s _ _ rfl rfl (.af i e n z b c k m K Y I)
def cO(γ:Gh)(H:Hp)(t b:Nat):Prop:=∃r f cap,γ.rows[t]? =Z r/\H.tk[t]? =Z f/\r.st f=Z (Z (b,cap))/\f<cap
def Lv(γ:Gh)(H:Hp)(b:Nat):Prop:=∃(i:Nat) (cs:List D),γ.boxes[i]? =Z b/\H.bx[i]? =Z cs/\cs≠[]
theorem Lv.mem(h:Lv γ H b):b∈γ.boxes:=by obtain⟨i,c,h,_⟩:=h;exact bK h
def iM(γ:Gh)(H:Hp)(b:Nat):Prop:=Lv γ H b\/∃t,cO γ H t b
def clear(fr:Nat×Nat)(m n:Nat):Prop:=∀k,m<=k->k<n->¬(fr.1<=k/\k<fr.2)
def mW(m:Nat->Option Value)(o o':Option Obj):Prop:=o'=o\/∃cs T fr f,o=Z (.cells cs T fr)/\o'=Z (.cells cs T f)/\∀k,k<cs.size->f.1<=k/\k<f.2->(fr.1<=k/\k<fr.2)\/m k≠Y
theorem mW.refl(m:Nat->Option Value)(o:Option Obj):mW m o o:=.inl rfl
theorem mW.trans{m M:Nat->Option Value}{o' O:Option Obj}(h:mW m o o')(k:mW M o' O)(d:∀j,m j≠Y->M j≠Y):mW M o O:=by rcases h with rfl |⟨c,T,r,F,H,a,e⟩;{exact k};rcases k with rfl |⟨C,l,g,f,K,i,n⟩;{exact .inr ⟨c,T,r,F,H,a,λj s b=>(e j s b).imp id (d j)⟩};rw[a] at K;cases K;exact .inr ⟨c,T,r,f,H,i,λj s b=>by grind⟩
def mX(γ:Gh)(w:World)(row:Row)(f:Nat):Option (Nat×Nat)->Prop|none=>f=0|some (b,cap)=>(f<=cap/\γ.bq b=Z (2*row.e,cap*row.sz))/\(f<cap->∃c fr,w.heap[b]? =Z (.cells c row.e fr)/\clear fr (f*row.sz) c.size/\c.size=cap*row.sz/\cap<=maxLen/\(∀o,f*row.sz<=o->γ.mem b o=Y)/\b∉γ.boxes)
structure Inv (G:Nat->Option (List PD)) (γ:Gh) (H:Hp) (w:World):Prop where
 size:γ.base<=w.heap.size
 bq:∀b T n,γ.bq b=Z (T,n)->∃vs fr,w.heap[b]? =Z (.cells vs (T/2) fr)/\vs.size=n/\(T%2=0->fr.2<=n/\fr.1<=fr.2)
 gI:∀(t:Nat) row n b cap,γ.rows[t]? =Z row->row.st n=Z (Z (b,cap))->γ.base<=b
 mem:∀b o v,γ.mem b o=Z v->w.cell? ⟨b,o,Y⟩=Z v
 gU:∀g cs,G g=Z cs->∀j c,cs[j]? =Z c->c.one=true/\∃v,γ.mem g j=Z v/\aU γ.mem v c
 cK:O γ.boxes=O H.bx
 nodup:∀(i j b:Nat) ci cj,γ.boxes[i]? =Z b->γ.boxes[j]? =Z b->H.bx[i]? =Z ci->H.bx[j]? =Z cj->ci≠[]->cj≠[]->i=j
 box:∀(i b:Nat) cs,γ.boxes[i]? =Z b->H.bx[i]? =Z cs->∃vs T fr,lB cs w.heap[b]? =Z (.cells vs T fr)/\dT γ vs cs/\(az cs=false->∀c∈cs,c.one=true)/\(cs≠[]->clear fr 0 vs.size)
 fS:∀b o,Lv γ H b->γ.mem b o=Y
 gJ:∀(i b:Nat),γ.boxes[i]? =Z b->H.bx[i]? =Z []->∃x,γ.bq b=Z x
 eT:O γ.rows=O H.tk
 row:∀(t:Nat) row f,γ.rows[t]? =Z row->H.tk[t]? =Z f->∃r,row.st f=Z r/\mX γ w row f r
 gV:∀(t:Nat) row f,γ.rows[t]? =Z row->H.tk[t]? =Z f->∀n x,row.st n=Z x->n<=f
 free:∀t t' b,cO γ H t b->cO γ H t' b->t=t'
theorem Inv.Xf(I:Inv G γ H w){n:Nat}(h:γ.bq b=Z (2*T,n)):∃vs fr,w.heap[b]? =Z (.cells vs T fr)/\vs.size=n/\fr.2<=n/\fr.1<=fr.2:=by obtain⟨vs,fr,a,c,d⟩:=I.bq b _ n h;grind
structure Frame γ H (w:World) (γ':Gh) H' (w':World):Prop where
 os:w'.os=w.os
 tape:w'.tape=w.tape
 output:w'.output=w.output
 size:w.heap.size<=w'.heap.size
 bI:∀b,b<w.heap.size->¬iM γ H b->(b<γ.base->w'.heap[b]? =w.heap[b]?)/\mW (γ'.mem b) (w.heap[b]?) (w'.heap[b]?)
 mem:∀b o,b<w.heap.size->¬iM γ H b->γ'.mem b o=γ.mem b o
 box:∀b,Lv γ' H' b->Lv γ H b\/w.heap.size<=b
 qE:∀t b,cO γ' H' t b->cO γ H t b\/w.heap.size<=b
 qF:∀b,b∈γ'.boxes->b∈γ.boxes\/w.heap.size<=b
theorem Frame.own(F:Frame γ H w γ' H' w') b (h:iM γ' H' b):iM γ H b\/w.heap.size<=b:=by rcases h with h |⟨t,h⟩;{rcases F.box b h with q |q;{exact .inl (.inl q)};grind};rcases F.qE t b h with q |q;{exact .inl (.inr ⟨t,q⟩)};grind
theorem Frame.refl γ H w:Frame γ H w γ H w:=⟨rfl,rfl,rfl,aS _,λ_ _ _=>⟨λ_=>rfl,.refl _ _⟩,λ_ _ _ _=>rfl,λ_ h=>.inl h,λ_ _ h=>.inl h,λ_ h=>.inl h⟩
theorem Frame.trans{d f:Gh}{i H2:Hp}{W:World}(L:d.base=γ.base)(a:Frame γ H w d i w1)(b:Frame d i w1 f H2 W):Frame γ H w f H2 W:=by (have y:∀k,k<w.heap.size->¬iM γ H k->¬iM d i k:=λk c e m=>by rcases a.own k m with h |h;{exact e h};omega);refine⟨b.os.trans a.os,b.tape.trans a.tape,b.output.trans a.output,eR a.size b.size,λk c e=>?_,λk o c e=>?_,λk g=>?_,λt k g=>?_,λk g=>?_⟩;{obtain⟨p1,p2⟩:=a.bI k c e;obtain⟨Q,n⟩:=b.bI k (r8 c a.size) (y k c e);refine⟨λl=>(Q (L▸l)).trans (p1 l),p2.trans n λj p=>?_⟩;rw[b.mem k j (r8 c a.size) (y k c e)];exact p};{exact(b.mem k o (r8 c a.size) (y k c e)).trans (a.mem k o c e)};{rcases b.box k g with h |h;{exact a.box k h};exact .inr (eR a.size h)};{rcases b.qE t k g with h |h;{exact a.qE t k h};exact .inr (eR a.size h)};rcases b.qF k g with h |h;{exact a.qF k h};exact .inr (eR a.size h)
theorem Inv.lC(I:Inv G γ H w)(a:b∈γ.boxes):b<w.heap.size:=by obtain⟨i,c⟩:=c8 a;obtain⟨v,T,f,h,_⟩:=I.box i b _ c (aw (by rw[<-I.cK];grind));obtain⟨y,d⟩:=Xe h;grind
theorem Inv.l5(I:Inv G γ H w)(c:cO γ H t b):b<w.heap.size:=by obtain⟨R,f,p,d,e,g,i⟩:=c;obtain⟨r,a,o⟩:=I.row t R f d e;rw[g] at a;cases a;obtain⟨C,F,h,_⟩:=o.2 i;grind
theorem Inv.Xg(I:Inv G γ H w)(a:iM γ H b):b<w.heap.size:=by rcases a with h |⟨t,h⟩;{exact I.lC h.mem};exact I.l5 h
theorem Inv.qG(I:Inv G γ H w){o:Nat}(h:γ.mem b o=Z v):b<w.heap.size:=World.block_lt_of_cell? w _ (I.mem b o v h)
def bf(γ:Gh)(env:Env)(tmps:Array Value):Prop:=∀t,aG γ (tmps.getD t undef) (env.get t)
theorem bf.mono(h:γ.le γ')(r:bf γ env tmps):bf γ' env tmps:=λt=>(r t).mono h
theorem bf.put(r:bf γ env tmps)(H:t<tmps.size){d:D}(h:aG γ v d): bf γ ((t,d)::env) (tmps.setIfInBounds t v):=by intro s;simp only[Env.get];by_cases a:t=s;{simp_all};have:=r s;simp_all
theorem Env.C2 ks (e:Env) t:(e.keep ks).get t=if t∈ks then e.get t else .dead:=by induction ks with|nil=>rfl|cons k ks i=>have I:Env.get (tW (λt=>(t,e.get t)) ks) t=if t∈ks then e.get t else .dead:=i;show(if k=t then e.get k else Env.get (tW (λt=>(t,e.get t)) ks) t)=_;grind
theorem bf.keep(r:bf γ env tmps) ks:bf γ (env.keep ks) tmps:=by intro t;rw[Env.C2];split;{exact r t};exact .dead _
theorem heap_alloc(w:World) o b:(w.alloc o).heap[b]? =if b=w.heap.size then Z o else w.heap[b]?:=by show(w.heap.push o)[b]? =_;grind
theorem sy{o:Nat}(h:w'.heap[b]? =w.heap[b]?):w'.cell? ⟨b,o,Y⟩=w.cell? ⟨b,o,Y⟩:=by unfold World.cell?;rw[h]
theorem cO.congr(r:∀(t:Nat) row,γ'.rows[t]? =Z row->γ.rows[t]? =Z row)(a:∀(t f:Nat),H'.tk[t]? =Z f->H.tk[t]? =Z f)(h:cO γ' H' t b):cO γ H t b:=by obtain⟨row,f,c,d,e,g,i⟩:=h;exact⟨row,f,c,r _ _ d,a _ _ e,g,i⟩
theorem mX.keep{row:Row}(h:mX γ w row f r)(t:∀b x,γ.bq b=Z x->γ'.bq b=Z x) (a:∀b cap,r=Z (b,cap)->f<cap->w'.heap[b]? =w.heap[b]?) (m:∀b cap,r=Z (b,cap)->f<cap->∀o,γ'.mem b o=γ.mem b o) (c:∀b cap,r=Z (b,cap)->f<cap->b∉γ.boxes->b∉γ'.boxes):mX γ' w' row f r:=by match r,h with|none,h=>exact h|some (b,cap),⟨l,h⟩=>refine⟨⟨l.1,t _ _ l.2⟩,λH=>?_⟩;grind
theorem mX.Nr{row:Row}(h:mX γ w row f r)(t:∀b x,γ.bq b=Z x->γ'.bq b=Z x) (d:∀b cap,r=Z (b,cap)->f<cap->mW (γ'.mem b) (w.heap[b]?) (w'.heap[b]?)) (A:∀b cap,r=Z (b,cap)->f<cap->∀o,γ'.mem b o=γ.mem b o) (g:∀b cap,r=Z (b,cap)->f<cap->b∉γ.boxes->b∉γ'.boxes):mX γ' w' row f r:=by match r,h with|none,h=>exact h|some (b,cap),⟨H,h⟩=>refine⟨⟨H.1,t _ _ H.2⟩,λl=>?_⟩;obtain⟨c,B,i,j,m,n,C,p⟩:=h l;rcases d b cap rfl l with e |⟨G,T,s,F,E,u,v⟩;{grind};rw[i] at E;cases E;refine⟨c,F,u,λk y a z=>?_,m,n,(by grind),g b cap rfl l p⟩;rcases v k a z with q |q;{exact j k y a q};grind
theorem Inv.Xh(I:Inv G γ H w)(h:γ.bq b=Z x):b<w.heap.size:=by obtain⟨u,f,a,c⟩:=I.bq b x.1 x.2 h;grind
theorem pO{bs:List Nat}{s:List (List D)}(l:O bs=O s){c:List D}(h:(bs++[a])[i]? =Z b)(H:(s++[cs])[i]? =Z c): (bs[i]? =Z b/\s[i]? =Z c)\/(i=O bs/\b=a/\c=cs):=by grind
theorem Lv.push(l:O γ.boxes=O H.bx)(f:γ'.boxes=γ.boxes++[a])(g:H'.bx=H.bx++[cs])(h:Lv γ' H' b):Lv γ H b\/(b=a/\cs≠[]):=by obtain⟨i,c,d,e,j⟩:=h;rw[f] at d;rw[g] at e;rcases pO l d e with⟨A,k⟩ |⟨_,rfl,rfl⟩;{exact .inl ⟨i,c,A,k,j⟩};grind
theorem Inv.C3(I:Inv G γ H w)(g:¬Lv γ H a)(m:γ'.boxes=γ.boxes++[a])(o:H'.bx=H.bx++[cs]): ∀(i j b:Nat) c C,γ'.boxes[i]? =Z b->γ'.boxes[j]? =Z b->H'.bx[i]? =Z c->H'.bx[j]? =Z C->c≠[]->C≠[]->i=j:=by intro i j b c C k h l e n N;rw[m] at k h;rw[o] at l e;rcases pO I.cK k l with⟨f,A⟩ |⟨f,A,a3⟩;{rcases pO I.cK h e with⟨d,B⟩ |⟨d,B,p⟩;{exact I.nodup i j b c C f d A B n N};subst B;exact(g ⟨i,c,f,A,n⟩).elim};rcases pO I.cK h e with⟨d,B⟩ |⟨d,B,p⟩;{subst A;exact(g ⟨j,C,d,B,N⟩).elim};omega
theorem Lv.set(f:H.bx[i]? =Z cs)(n:cs≠[])(h:Lv γ {H with bx:=H.bx.set i cA} b):Lv γ H b:=by obtain⟨j,c,d,e,g⟩:=h;by_cases a:i=j;{subst a;exact⟨i,cs,d,f,n⟩};rw[bH a] at e;exact⟨j,c,d,e,g⟩
theorem Inv.C4(I:Inv G γ H w)(f:H.bx[i]? =Z cs)(g:cs≠[]): ∀(j k b:Nat) C a,γ.boxes[j]? =Z b->γ.boxes[k]? =Z b->(H.bx.set i cA)[j]? =Z C->(H.bx.set i cA)[k]? =Z a->C≠[]->a≠[]->j=k:=by intro j k b C a l o p r N s;(have q:∀m c,(H.bx.set i cA)[m]? =Z c->c≠[]->∃d,H.bx[m]? =Z d/\d≠[]:=λm c h n=>by by_cases e:i=m;{subst e;exact⟨cs,f,g⟩};rw[bH e] at h;grind);obtain⟨t,E,M⟩:=q j C p N;obtain⟨u,v,x⟩:=q k a r s;exact I.nodup j k b t u l o E v M x
theorem Inv.HE(I:Inv G γ H w):¬Lv γ H w.heap.size:=λh=>by have:=I.lC h.mem;omega
theorem Inv.Xi(I:Inv G γ H w)(T k:Nat)(P:k<2) pP (s:k=0->pP.2<=vs.size/\pP.1<=pP.2)(C:clear pP 0 vs.size)(E:∀γ':Gh,γ.le γ'->γ'.boxes[O H.bx]? =Z w.heap.size->γ'.bq w.heap.size=Z (2*T+k,vs.size)->dT γ' vs cs)(g:∀c∈cs,c.one=true): ∃γ',γ.le γ'/\γ'.boxes[O H.bx]? =Z w.heap.size/\γ'.bq w.heap.size=Z (2*T+k,vs.size)/\Frame γ H w γ' {H with bx:=H.bx++[cs]} (w.alloc (.cells vs T pP))/\Inv G γ' {H with bx:=H.bx++[cs]} (w.alloc (.cells vs T pP)):=by let γ':={γ with boxes:=γ.boxes++[w.heap.size],bq:=λc=>if c=w.heap.size then Z (2*T+k,vs.size) else γ.bq c};have l:γ.le γ':=⟨rfl,λc x h=>by have:=I.Xh h;grind,λ_ _ _ h=>h,λi b h=>by grind,λt r h=>⟨r,h,rfl,rfl,λ_ _ h=>h⟩⟩;have e:∀t b,cO γ' {H with bx:=H.bx++[cs]} t b->cO γ H t b:=λt b h=>cO.congr (λ_ _ h=>h) (λ_ _ h=>h) h;(have u:γ'.boxes[O H.bx]? =Z w.heap.size:=by show(γ.boxes++[w.heap.size])[O H.bx]? =_;rw[<-I.cK];simp);have m:=E γ' l u (by grind);refine⟨γ',l,u,(by grind),?_,?_⟩;{refine⟨rfl,rfl,rfl,by simp,λb a _=>?_,λb o _ _=>rfl,λb a=>?_,λt b a=>.inl (e t b a),λb a=>by grind⟩;{rw[heap_alloc,if_neg (by omega)];exact⟨λ_=>rfl,.refl _ _⟩};rcases Lv.push I.cK rfl rfl a with h |h;{exact .inl h};exact .inr (by omega)};constructor;{have:=I.size;show γ.base<=(w.alloc (.cells vs T pP)).heap.size;simp;omega};{intro b z n a;have a:(if b=w.heap.size then Z (2*T+k,vs.size) else γ.bq b)=Z (z,n):=a;by_cases B:b=w.heap.size;{rw[if_pos B] at a;cases a;exact⟨vs,pP,by rw[heap_alloc,if_pos B,show(2*T+k)/2=T by omega],rfl,λJ=>s (by omega)⟩};rw[if_neg B] at a;obtain⟨U,L,j,M⟩:=I.bq b z n a;exact⟨U,L,by rw[heap_alloc,if_neg B];exact j,M⟩};{exact I.gI};{intro b o v h;have d:=I.qG h;rw[sy (w:=w) (by rw[heap_alloc,if_neg (by omega)])];exact I.mem b o v h};{exact I.gU};{show(γ.boxes++[w.heap.size]).length=O (H.bx++[cs]);simp[I.cK]};{exact I.C3 I.HE rfl rfl};{intro i b cA a hc;have a:(γ.boxes++[w.heap.size])[i]? =Z b:=a;by_cases K:i<O γ.boxes;{rw[bF K] at a;rw[bF (by rw[<-I.cK];exact K)] at hc;obtain⟨V,z,F,A,y,a3⟩:=I.box i b cA a hc;have:=I.lC (bK a);exact⟨V,z,F,by rw[heap_alloc,if_neg (by omega)];exact A,y.mono l,a3⟩};(have iN:i=O γ.boxes:=by have:=(ak.1 a).1;simp at this;omega);subst iN;rw[I.cK,dO (aS _)] at hc;simp at a hc;subst a;subst hc;exact⟨vs,T,pP,by rw[heap_alloc,if_pos rfl,gA (zK g)],m,λ_=>g,λ_=>C⟩};{intro b o a;rcases Lv.push I.cK rfl rfl a with h |⟨h,_⟩;{exact I.fS b o h};subst h;cases J:γ.mem w.heap.size o with|none=>rfl|some v=>have:=I.qG J;omega};{intro i b g j;rcases pO I.cK g j with⟨A,y⟩ |⟨_,rfl,_⟩;{obtain⟨x,hx⟩:=I.gJ i b A y;exact⟨x,l.bq _ _ hx⟩};grind};{exact I.eT};{intro t row f g j;obtain⟨r,A,y⟩:=I.row t row f g j;refine⟨r,A,y.keep l.bq (λb p m d=>?_) (λb p m d o=>rfl) (λb p m d a N=>?_)⟩;{have:=I.l5 ⟨row,f,p,g,j,m▸A,d⟩;rw[heap_alloc,if_neg (by omega)]};have:=I.l5 ⟨row,f,p,g,j,m▸A,d⟩;grind};{exact I.gV};intro t t' b h h';exact I.free t t' b (e t b h) (e t' b h')
theorem Inv.zN(I:Inv G γ H w)(T:Nat)(r:∀γ':Gh,γ.le γ'->γ'.boxes[O H.bx]? =Z w.heap.size->γ'.bq w.heap.size=Z (2*T,vs.size)->dT γ' vs cs)(h:∀c∈cs,c.one=true): ∃γ',γ.le γ'/\γ'.boxes[O H.bx]? =Z w.heap.size/\γ'.bq w.heap.size=Z (2*T,vs.size)/\Frame γ H w γ' {H with bx:=H.bx++[cs]} (w.alloc (.cells vs T))/\Inv G γ' {H with bx:=H.bx++[cs]} (w.alloc (.cells vs T)):=I.Xi T 0 (by decide) (0,0) (by grind) (λ_ _ _ k=>by omega) r h
theorem Inv.Ns(I:Inv G γ H w)(T:Nat)(r:dT γ vs cs)(a:∀c∈cs,c.one=true): ∃γ',γ.le γ'/\γ'.boxes[O H.bx]? =Z w.heap.size/\Frame γ H w γ' {H with bx:=H.bx++[cs]} (w.alloc (.cells vs T))/\Inv G γ' {H with bx:=H.bx++[cs]} (w.alloc (.cells vs T)):=by obtain⟨γ',A,b,_,a3,a4⟩:=I.zN T (λ_ h _ _=>r.mono h) a;grind
theorem Inv.Nt(I:Inv G γ H w) o:Frame γ H w γ H (w.alloc o)/\Inv G γ H (w.alloc o):=by refine⟨⟨rfl,rfl,rfl,by simp,λb a _=>?_,λb o _ _=>rfl,λb a=>.inl a,λt b a=>.inl a,λb a=>.inl a⟩,?_⟩;{rw[heap_alloc,if_neg (by omega)];exact⟨λ_=>rfl,.refl _ _⟩};constructor;{have:=I.size;simp;omega};{intro b T n a;obtain⟨u,e,c,g⟩:=I.bq b T n a;have:=(gp.1 c).1;exact⟨u,e,by rw[heap_alloc,if_neg (by omega)];exact c,g⟩};{exact I.gI};{intro b o v h;have l:=I.qG h;rw[sy (w:=w) (by rw[heap_alloc,if_neg (by omega)])];exact I.mem b o v h};{exact I.gU};{exact I.cK};{exact I.nodup};{intro i b cA a hc;obtain⟨V,T,F,A,d,a3⟩:=I.box i b cA a hc;have:=I.lC (bK a);exact⟨V,T,F,by rw[heap_alloc,if_neg (by omega)];exact A,d,a3⟩};{exact I.fS};{exact I.gJ};{exact I.eT};{intro t row f h1 c;obtain⟨r,A,d⟩:=I.row t row f h1 c;refine⟨r,A,d.keep (λ_ _ h=>h) (λb p j l=>?_) (by grind) (by grind)⟩;have:=I.l5 ⟨row,f,p,h1,c,j▸A,l⟩;rw[heap_alloc,if_neg (by omega)]};{exact I.gV};exact I.free
def Gh.dW(γ:Gh)(b T:Nat)(vs:Array Value):Gh:={γ with mem:=λc o=>if c=b then vs[o]? else γ.mem c o,bq:=λc=>if c=b then Z (2*T,vs.size) else γ.bq c}
theorem Inv.HF(I:Inv G γ H w)(h:γ.bq b=Z x):b<w.heap.size:=by obtain⟨u,f,a,_⟩:=I.bq b x.1 x.2 h;grind
theorem Gh.Xj(I:Inv G γ H w)(a:w.heap.size<=b) T vs:γ.le (γ.dW b T vs):=⟨rfl,λc x h=>by have:=I.HF h;show(if c=b then Z (2*T,vs.size) else γ.bq c)=Z x;grind,λc o v h=>by have:=I.qG h;show(if c=b then vs[o]? else γ.mem c o)=Z v;grind,λ_ _ h=>h,λt r h=>⟨r,h,rfl,rfl,λ_ _ h=>h⟩⟩
theorem Inv.newRow(I:Inv G γ H w) vs T fr (s:fr.2<=vs.size/\fr.1<=fr.2): γ.le (γ.dW w.heap.size T vs)/\Frame γ H w (γ.dW w.heap.size T vs) H (w.alloc (.cells vs T fr))/\Inv G (γ.dW w.heap.size T vs) H (w.alloc (.cells vs T fr)):=by have l:=Gh.Xj I (aS _) T vs;(have m:∀b o,b≠w.heap.size->(γ.dW w.heap.size T vs).mem b o=γ.mem b o:=λb o h=>by simp[Gh.dW,h]);refine⟨l,⟨rfl,rfl,rfl,by simp,λb a _=>?_,λb o a _=>m b o (by omega),λb a=>.inl a,λ_ _ a=>.inl a,λb a=>.inl a⟩,?_⟩;{rw[heap_alloc,if_neg (by omega)];exact⟨λ_=>rfl,.refl _ _⟩};constructor;{have:=I.size;show γ.base<=(w.alloc (.cells vs T fr)).heap.size;simp;omega};{intro b u n a;have a:(if b=w.heap.size then Z (2*T,vs.size) else γ.bq b)=Z (u,n):=a;by_cases y:b=w.heap.size;{rw[if_pos y] at a;cases a;exact⟨vs,fr,by rw[heap_alloc,if_pos y,alF T (by decide:0<2)],rfl,λ_=>s⟩};rw[if_neg y] at a;obtain⟨U,F,d,B⟩:=I.bq b u n a;exact⟨U,F,by rw[heap_alloc,if_neg y];exact d,B⟩};{exact I.gI};{intro b o v h;by_cases a:b=w.heap.size;{subst a;(have h:=by simpa[Gh.dW] using h);unfold World.cell?;simp only[(by rw[heap_alloc,if_pos rfl]:(w.alloc (.cells vs T fr)).heap[w.heap.size]? =Z (.cells vs T fr))];exact h};rw[m b o a] at h;rw[sy (w:=w) (by rw[heap_alloc,if_neg a])];exact I.mem b o v h};{intro g cs hg j c hc;obtain⟨k,v,d,B⟩:=I.gU g cs hg j c hc;exact⟨k,v,l.mem _ _ _ d,B.mono l.mem⟩};{exact I.cK};{exact I.nodup};{intro i b cs a hc;obtain⟨V,u,F,A,C,a3⟩:=I.box i b cs a hc;have:=I.lC (bK a);exact⟨V,u,F,by rw[heap_alloc,if_neg (by omega)];exact A,C.mono l,a3⟩};{intro b o a;have:=I.lC a.mem;rw[m b o (by omega)];exact I.fS b o a};{exact λi b k d=>(I.gJ i b k d).imp λx E=>l.bq _ _ E};{exact I.eT};{intro t row f k d;obtain⟨r,A,C⟩:=I.row t row f k d;refine⟨r,A,C.keep l.bq (λb p z e=>?_) (λb p z e o=>?_) (λb p z e a=>a)⟩;{have:=I.l5 ⟨row,f,p,k,d,z▸A,e⟩;rw[heap_alloc,if_neg (by omega)]};have:=I.l5 ⟨row,f,p,k,d,z▸A,e⟩;exact m b o (by omega)};{exact I.gV};exact I.free
theorem Inv.drew(I:Inv G γ H w):Inv G γ H w.drew:=⟨I.size,I.bq,I.gI,I.mem,I.gU,I.cK,I.nodup,I.box,I.fS,I.gJ,I.eT,I.row,I.gV,I.free⟩
theorem Frame.drew γ H w:Frame γ H w γ H w.drew:=⟨rfl,rfl,rfl,aS _,λ_ _ _=>⟨λ_=>rfl,.refl _ _⟩,λ_ _ _ _=>rfl,λ_ h=>.inl h,λ_ _ h=>.inl h,λ_ h=>.inl h⟩
theorem Nu l off cs (h:off+O cs<=O l) j: (aA l off cs)[j]? =if j<off then l[j]? else if j<off+O cs then cs[j-off]? else l[j]?:=by unfold aA;grind
theorem Nv{l:List D}{c:D}(h:c∈aA l off cs):c∈l\/c∈cs:=by rcases cu.1 h with h |h;{grind};grind
theorem HG l off cs (h:off+O cs<=O l):O (aA l off cs)=O l:=by unfold aA;simp;omega
theorem dT.aA(r:dT γ vs cs)(q:cp γ us.toArray ds) off (h:off+O ds<=O cs): dT γ (vs.toList.take off++us++vs.toList.drop (off+O us)).toArray (Vs.aA cs off ds):=by (have u:=by simpa using q.1);have v:=r.1;refine⟨by rw[HG _ _ _ h];simp;omega,λi d H=>?_⟩;rw[Nu _ _ _ h] at H;rw[(by simp[cg]:((vs.toList.take off++us++vs.toList.drop (off+O us)).toArray.getD i undef)=((vs.toList.take off++us++vs.toList.drop (off+O us))[i]?).getD undef)];by_cases a:i<off;{rw[if_pos a] at H;rw[jE,bF (by simp;omega),jF,if_pos a];have:=r.2 i d H;simpa[cg] using this};rw[if_neg a] at H;rw[jE,dO (by simp;omega)];rw[(by simp;omega:O (vs.toList.take off)=off)];by_cases b:i<off+O ds;{rw[if_pos b] at H;rw[bF (by omega)];have:=q.2 (i-off) d H;simp_all};rw[if_neg b] at H;rw[dO (by omega),lT];rw[(by omega:off+O us+(i-off-O us)=i)];have:=r.2 i d H;simpa[cg] using this
theorem Inv.store(I:Inv G γ H w)(z:γ.boxes[i]? =Z b)(m:H.bx[i]? =Z cs)(q:cp γ us.toArray ds) (M:∀d∈ds,d.one=true) (p:off+O ds<=O cs)    (J:w.heap[b]? =Z (.cells vs T fr)) (N:clear fr 0 vs.size) (P:dT γ vs cs) (Q:az cs=false) (a:cs≠[]): Frame γ H w γ {H with bx:=H.bx.set i (Vs.aA cs off ds)} (w.setRow b (vs.toList.take off++us++vs.toList.drop (off+O us)).toArray)/\ Inv G γ {H with bx:=H.bx.set i (Vs.aA cs off ds)} (w.setRow b (vs.toList.take off++us++vs.toList.drop (off+O us)).toArray):=by have A:b∈γ.boxes:=bK z;have B:Lv γ H b:=⟨i,cs,z,m,a⟩;have hi:i<O H.bx:=(ak.1 m).1;have g:∀t c,cO γ {H with bx:=H.bx.set i (Vs.aA cs off ds)} t c->cO γ H t c:=λt c h=>cO.congr (λ_ _ h=>h) (λ_ _ h=>h) h;refine⟨⟨rfl,rfl,rfl,by simp[World.setRow],λc _ ho=>by rw[setRow_other w b c _ (λe=>ho (.inl (e▸B)))];exact⟨λ_=>rfl,.refl _ _⟩,λ_ _ _ _=>rfl,λc l=>.inl (Lv.set m a l),λt c h=>.inl (g t c h),λ_ h=>.inl h⟩,?_⟩;constructor;{have:=I.size;simpa[World.setRow] using this};{intro c R n l;obtain⟨U,F,y,K⟩:=I.bq c R n l;by_cases C:c=b;{subst C;rw[J] at y;cases y;(have h5:O us=O ds:=by simpa using q.1);have h6:=P.1;refine⟨_,_,setRow_heap w c vs _ _ _ J,?_,K.2⟩;rw[<-K.1];simp;omega};exact⟨U,F,(setRow_other w b c _ C).trans y,K⟩};{exact I.gI};{intro c o v h;(have x:c≠b:=λe=>by subst e;rw[I.fS c o B] at h;cases h);rw[sy (w:=w) (setRow_other w b c _ x)];exact I.mem c o v h};{exact I.gU};{simp[I.cK]};{exact I.C4 m a};{intro j c cA hj s;by_cases k:i=j;{subst k;rw[z] at hj;cases hj;rw[fe hi] at s;cases s;(have S:(vs.toList.take off++us++vs.toList.drop (off+O us)).toArray.size=vs.size:=by (have y:O us=O ds:=by simpa using q.1);have K:=P.1;simp;omega);(have u:∀c∈Vs.aA cs off ds,c.one=true:=λc l=>by rcases Nv l with h |h;{obtain⟨_,_,_,_,_,a3,_⟩:=I.box i b cs z m;exact a3 Q c h};exact M c h);exact⟨_,T,fr,by rw[gA (zK u)];exact setRow_heap w b vs _ T fr J,P.aA q off p,λ_=>u,λ_=>by rw[S];exact N⟩};rw[bH k] at s;obtain⟨V,R,F,W,L,a3⟩:=I.box j c cA hj s;by_cases he:c=b;{subst he;have X:cA=[]:=mM λX=>k (I.nodup i j c cs cA z hj m s a X);subst X;exact⟨_,T,fr,by rw[gA rfl];exact setRow_heap w c vs _ T fr J,⟨bA _,λi d hd=>by simp at hd⟩,λ_ c m=>by simp at m,λh=>(h rfl).elim⟩};exact⟨V,R,F,by rw[setRow_other w b c _ he];exact W,L,a3⟩};{exact λc o h=>I.fS c o (Lv.set m a h)};{intro j c hj s;by_cases k:i=j;{subst k;rw[fe hi] at s;(have s:Vs.aA cs off ds=[]:=by simpa using s);have:=HG cs off ds p;rw[s] at this;exact(a (wB.1 this.symm)).elim};rw[bH k] at s;exact I.gJ j c hj s};{exact I.eT};{intro t row f M y;obtain⟨r,W,L⟩:=I.row t row f M y;refine⟨r,W,?_⟩;refine L.keep (λ_ _ h=>h) (λc Y hr E=>?_) (λ_ _ _ _ _=>rfl) (λc Y hr E h=>h);(have x:c≠b:=λe=>by subst e;subst hr;obtain⟨cur,_,_,_,_,_,_,pQ⟩:=L.2 E;exact pQ A);exact setRow_other w b c _ x};{exact I.gV};intro t t' c h h';exact I.free t t' c (g t c h) (g t' c h')
theorem Inv.C6(I:Inv G γ H w)(row:Row)(f:Nat) r (y:row.st f=Z r)(m:∀n x,row.st n=Z x->n<=f) (o:mX γ w row f r) (k:∀b cap,r=Z (b,cap)->f=cap) (d:∀n b cap,row.st n=Z (Z (b,cap))->γ.base<=b): γ.le {γ with rows:=γ.rows++[row]}/\Frame γ H w {γ with rows:=γ.rows++[row]} {H with tk:=H.tk++[f]} w/\Inv G {γ with rows:=γ.rows++[row]} {H with tk:=H.tk++[f]} w:=by
 have l:γ.le {γ with rows:=γ.rows++[row]}:=⟨rfl,λ_ _ h=>h,λ_ _ _ h=>h,λ_ _ h=>h,λt r h=>⟨r,by have z:=(ak.1 h).1;rw[bF z];exact h,rfl,rfl,λ_ _ h=>h⟩⟩;have split :∀(t:Nat) R F,(γ.rows++[row])[t]? =Z R->(H.tk++[f])[t]? =Z F->(γ.rows[t]? =Z R/\H.tk[t]? =Z F)\/(R=row/\F=f):=by intro t R F a b;by_cases c:t<O γ.rows;{rw[bF c] at a;rw[bF (by rw[<-I.eT];exact c)] at b;exact .inl ⟨a,b⟩};(have :t=O γ.rows:=by have:=(ak.1 a).1;simp at this;omega);subst this;rw[I.eT,dO (aS _)] at b;simp at a b;exact .inr ⟨a.symm,b.symm⟩
 have e:∀t b,cO {γ with rows:=γ.rows++[row]} {H with tk:=H.tk++[f]} t b->cO γ H t b:=by rintro t b ⟨R,F,cap,A,p,a3,a4⟩;rcases split t R F A p with⟨B,g⟩ |⟨rfl,rfl⟩;{exact⟨R,F,cap,B,g,a3,a4⟩};rw[y] at a3;cases a3;have:=k b cap rfl;omega
 refine⟨l,⟨rfl,rfl,rfl,aS _,λ_ _ _=>⟨λ_=>rfl,.refl _ _⟩,λ_ _ _ _=>rfl,λb j=>.inl j,λt b h=>.inl (e t b h),λ_ h=>.inl h⟩,?_⟩;constructor;{exact I.size};{intro b T n j;exact I.bq b T n j};{intro t R n b cap c hs;by_cases s:t<O γ.rows;{rw[bF s] at c;exact I.gI t R n b cap c hs};rw[dO (by omega)] at c;(have :row=R:=by (have C:=by have:=(ak.1 c).1;simp at this;omega);rw[C] at c;simpa using c);subst this;exact d n b cap hs};{exact I.mem};{exact I.gU};{exact I.cK};{exact I.nodup};{intro i b cs j hc;obtain⟨v,T,u,A,p,a3⟩:=I.box i b cs j hc;exact⟨v,T,u,A,p.mono l,a3⟩};{exact I.fS};{exact I.gJ};{simp[I.eT]};{intro t R F a b;rcases split t R F a b with⟨B,g⟩ |⟨rfl,rfl⟩;{obtain⟨r',c1,c2⟩:=I.row t R F B g;exact⟨r',c1,c2.keep l.bq (λ_ _ _ _=>rfl) (λ_ _ _ _ _=>rfl) (λ_ _ _ _ h=>h)⟩};exact⟨r,y,o.keep l.bq (λ_ _ _ _=>rfl) (λ_ _ _ _ _=>rfl) (λ_ _ _ _ h=>h)⟩};{intro t R F a b;rcases split t R F a b with⟨B,g⟩ |⟨rfl,rfl⟩;{exact I.gV t R F B g};exact m};intro t t' b h h';exact I.free t t' b (e t b h) (e t' b h')
def Row.grow(row:Row)(f' b cap:Nat):Row:={row with st:=λn=>if n=f' then Z (Z (b,cap)) else row.st n}
def Gh.grow(γ:Gh)(t:Nat)(row:Row)(f' b cap:Nat)(r:Array Value):Gh:={γ with mem:=λc o=>if c=b then(if o<f'*row.sz then r[o]? else Y) else γ.mem c o,rows:=γ.rows.set t (row.grow f' b cap),bq:=λc=>if c=b then Z (2*row.e,cap*row.sz) else γ.bq c}
theorem Inv.Nw(I:Inv G γ H w){row:Row}(X:γ.rows[t]? =Z row)(h2:H.tk[t]? =Z f){cap f':Nat}{C:Array Value}(hf:f<f')(mV:f'<=cap)(Xk:cap<=maxLen) (bR:C.size=cap*row.sz)  (K:w1.heap[b]? =Z (.cells C row.e fr)) (C7:clear fr (f'*row.sz) C.size) (p:∀c,c≠b->w1.heap[c]? =w.heap[c]?) (L:b∉γ.boxes) (hold:∀o v,γ.mem b o=Z v->o<f'*row.sz/\C[o]? =Z v) (m:∀t',t'≠t->¬cO γ H t' b) (u:b=w.heap.size\/cO γ H t b) (ju:∀x,γ.bq b=Z x->x=(2*row.e,cap*row.sz)) (Xl:fr.2<=cap*row.sz/\fr.1<=fr.2) (uw:w1.os=w.os) (M:w1.tape=w.tape) (zO:w1.output=w.output) (A:w.heap.size<=w1.heap.size): γ.le (γ.grow t row f' b cap C)/\Frame γ H w (γ.grow t row f' b cap C) {H with tk:=H.tk.set t f'} w1/\Inv G (γ.grow t row f' b cap C) {H with tk:=H.tk.set t f'} w1:=by
 have E:t<O γ.rows:=(ak.1 X).1;have hmx:=I.gV t row f X h2;have B:∀c o,c≠b->(γ.grow t row f' b cap C).mem c o=γ.mem c o:=λc o h=>by simp[Gh.grow,h]
 have y:γ.le (γ.grow t row f' b cap C):=by refine⟨rfl,λc x h=>?_,λc o v h=>?_,λ_ _ h=>h,λs r N=>?_⟩;{show(if c=b then Z (2*row.e,cap*row.sz) else γ.bq c)=Z x;by_cases k:c=b;{subst k;rw[if_pos rfl,ju x h]};rw[if_neg k];exact h};{by_cases k:c=b;{subst k;obtain⟨P,Q⟩:=hold o v h;simp[Gh.grow,P,Q]};rw[B c o k];exact h};by_cases z:t=s;{subst z;rw[X] at N;cases N;refine⟨row.grow f' b cap,by simp[Gh.grow,E],rfl,rfl,λn x F=>?_⟩;have:=hmx n x F;simp only[Row.grow];rw[if_neg (by omega)];exact F};exact⟨r,by simp only[Gh.grow];rw[bH z];exact N,rfl,rfl,λ_ _ h=>h⟩
 have split :∀(s:Nat) R g,(γ.grow t row f' b cap C).rows[s]? =Z R->(H.tk.set t f')[s]? =Z g->(s=t/\R=row.grow f' b cap/\g=f')\/(s≠t/\γ.rows[s]? =Z R/\H.tk[s]? =Z g):=by intro s R g a c;simp only[Gh.grow] at a;by_cases z:t=s;{subst z;rw[fe E] at a;rw[fe (by rw[<-I.eT];exact E)] at c;cases a;cases c;exact .inl ⟨rfl,rfl,rfl⟩};rw[bH z] at a c;exact .inr ⟨Ne.symm z,a,c⟩
 have J:∀s c,cO (γ.grow t row f' b cap C) {H with tk:=H.tk.set t f'} s c->(s=t/\c=b)\/(s≠t/\cO γ H s c):=by rintro s c ⟨R,g,l,P,Q,a3,a4⟩;rcases split s R g P Q with⟨rfl,rfl,rfl⟩ |⟨b0,S,T⟩;{simp only[Row.grow,if_pos] at a3;cases a3;exact .inl ⟨rfl,rfl⟩};exact .inr ⟨b0,R,g,l,S,T,a3,a4⟩
 refine⟨y,⟨uw,M,zO,A,λc k ho=>?_,λc o k ho=>?_,λc k=>.inl k,λs c h=>?_,λ_ h=>.inl h⟩,?_⟩;{(have :w1.heap[c]? =w.heap[c]?:=by refine p c λe=>?_;subst e;rcases u with h |h;{omega};exact ho (.inr ⟨t,h⟩));rw[this];exact⟨λ_=>rfl,.refl _ _⟩};{refine B c o λe=>?_;subst e;rcases u with h |h;{omega};exact ho (.inr ⟨t,h⟩)};{rcases J s c h with⟨rfl,rfl⟩ |⟨_,h⟩;{rcases u with h |h;{exact .inr (by omega)};exact .inl h};exact .inl h};constructor;{exact eR I.size A};{intro c T' n k;have k:(if c=b then Z (2*row.e,cap*row.sz) else γ.bq c)=Z (T',n):=k;by_cases he:c=b;{rw[if_pos he] at k;cases k;subst he;exact⟨C,fr,by rw[alF row.e (by decide:0<2)];exact K,bR,λ_=>Xl⟩};rw[if_neg he] at k;obtain⟨us,U,h2,h3⟩:=I.bq c T' n k;exact⟨us,U,(p c he).trans h2,h3⟩};{intro s R n c l ht z;simp only[Gh.grow] at ht;by_cases j8:t=s;{subst j8;rw[fe E] at ht;cases ht;simp only[Row.grow] at z;split at z;{cases z;rcases u with h |⟨Xm,f2,Nx,q1,q2,q3,_⟩;{have:=I.size;show γ.base<=_;omega};exact I.gI t Xm _ _ _ q1 q3};exact I.gI t row n c l X z};rw[bH j8] at ht;exact I.gI s R n c l ht z};{intro c o v h;by_cases k:c=b;{subst k;(have h:(if o<f'*row.sz then C[o]? else Y)=Z v:=by simpa[Gh.grow] using h);split at h;{unfold World.cell?;simp only[K];exact h};cases h};rw[B c o k] at h;rw[sy (w:=w) (p c k)];exact I.mem c o v h};{intro g cs hg j c k;obtain⟨P,v,Q,a3⟩:=I.gU g cs hg j c k;exact⟨P,v,y.mem _ _ _ Q,a3.mono y.mem⟩};{exact I.cK};{exact I.nodup};{intro i c cs hb k;obtain⟨ux,T',U,P,Q,a3⟩:=I.box i c cs hb k;have V:c≠b:=λe=>L (e▸bK hb);exact⟨ux,T',U,by rw[p c V];exact P,Q.mono y,a3⟩};{intro c o k;have V:c≠b:=λe=>L (e▸k.mem);rw[B c o V];exact I.fS c o k};{exact λi b X h2=>(I.gJ i b X h2).imp λx F=>y.bq _ _ F};{simp[Gh.grow,I.eT]};{intro s R g a c;rcases split s R g a c with⟨rfl,rfl,rfl⟩ |⟨b0,S,T⟩;{refine⟨Z (b,cap),by simp[Row.grow],⟨mV,by simp[Gh.grow,Row.grow]⟩,λ_=>⟨C,fr,K,C7,bR,Xk,λo ho=>?_,L⟩⟩;have ho:g*row.sz<=o:=ho;simp only[Gh.grow,if_true];rw[if_neg (by omega)]};obtain⟨r,c1,c2⟩:=I.row s R g S T;refine⟨r,c1,c2.keep y.bq (λd l N W=>?_) (λd l N W o=>?_) (λ_ _ _ _ h=>h)⟩;{refine p d λe=>?_;subst e;exact m s b0 ⟨R,g,l,S,T,N▸c1,W⟩};refine B d o λe=>?_;subst e;exact m s b0 ⟨R,g,l,S,T,N▸c1,W⟩};{intro s R g a c n x F;rcases split s R g a c with⟨rfl,rfl,rfl⟩ |⟨b0,S,T⟩;{simp only[Row.grow] at F;split at F;{omega};have:=hmx n x F;omega};exact I.gV s R g S T n x F};intro s s' c h h';rcases J s c h with⟨e1,e2⟩ |⟨hn,q⟩;{rcases J s' c h' with⟨e3,_⟩ |⟨wZ,q'⟩;{rw[e1,e3]};exact(m s' wZ (e2▸q')).elim};rcases J s' c h' with⟨_,e2⟩ |⟨wZ,q'⟩;{exact(m s hn (e2▸q)).elim};exact I.free s s' c q q'
end
section
def C8:Value->Option PD| .bool b=>Z (.bool b)| .int k n=>Z (.int k n)| .string s=>Z (.str s.data.toList)| .pointer Y=>Z .i7| .slice Y 0 0=>Z .aj| .nilFunc=>Z .ly| .nilIface=>Z .iH| .map Y=>Z .nN|_=>Y
def w9:Value->Option PD| .agg cs=>(aF C8 cs.toList).map .agg|v=>C8 v
def aN:Operand->Option aE| .tmp t=>Z (.t t)| .const v=>(w9 v).map λx=>.c (.p x)| .global g=>Z (.c (.dJ g 0))| .func f=>Z (.c (.fn f [] []))
def eL(P:Program)(t:TypeId):Option Nat:=(P.info? t).map (·.size)
def jK(P:Program)(t:TypeId):Option (Option Nat):=match P.underlying t,eL P t with|some (.struct _),Z n=>Z (Z n)|some (.array _ _),Z n=>Z (Z n)|some _,Z _=>Z Y|_,_=>Y
def zeroOf(P:Program)(t:TypeId):Option PD:=match P.info? t with|some i=>(match i.zero with|some z=>w9 z|none=>Y)|none=>Y
def zP(P:Program)(t:TypeId):Option Nat:=match P.underlying t with|some .bool=>Z 0|some (.int _)=>Z 1|some .string=>Z 2|_=>Y
def C9:TypeDesc->Option Nat| .bool=>Z 0| .int k=>Z (j6 k)| .string=>Z 2|_=>Y
def kindOf(P:Program)(t:TypeId):Option Nat:=match P.underlying t with|some (.array 3 e)=>(match P.underlying e,eL P e with|some (.int k),Z 1=>Z (100+j6 k)|_,_=>Y)|some d=>C9 d|none=>Y
def xd(P:Program)(i:Nat):List Field->Option (List Nat)|[]=>Z []|f::r=>match zP P f.type with|some t=>if f.offset=i/\(f.name== "_")=false then(xd P (i+1) r).map (t:: ·) else Y|none=>Y
def partsOf(P:Program)(place:Nat->Option (Nat×Nat)):List (Nat×Operand)->Option (List (Nat×Nat×aE))|[]=>Z []|(i,x)::r=>match place i,aN x with|some (o,n),Z y=>(partsOf P place r).map ((o,n,y):: ·)|_,_=>Y
def xf:List (Nat×Operand)->Option (List (Nat×aE))|[]=>Z []|(i,x)::r=>match aN x with|some y=>(xf r).map ((i,y):: ·)|none=>Y
def mY:Option Operand->Option (Option aE)|none=>Z Y|some x=>(aN x).map Z
def Da(P:Program)(s:List Field):Option (List (Nat×Nat)):=aF (λf=>(eL P f.type).map λn=>(f.offset,n)) s
def HH(du:TypeDesc)(e:TypeId)(i:TypeInfo)(z:Value):Bool:=(match du with | .slice e'=>e'==e | .string=>i.size==1 |_=>false)&&z.cells.size==i.size&&decide (0<i.size)
def zQ(P:Program)(c:Call):Option SK:=match c.callee with| .value f=>(match aN f,aF aN c.args.toList with|some g,Z as=>Z (.call g as)|_,_=>Y)| .invoke _ _=>Y| .builtin b=>match b,c.args.toList,c.argTypes.toList with| .len,[x],[t]=>(match P.underlying t,aN x with|some .string,Z y=>Z (.len 0 y)|some (.slice _),Z y=>Z (.len 1 y)|_,_=>Y)| .append,[s,x],[t,u]=>(match P.underlying t,P.underlying u,aN s,aN x with|some (.slice e),Z du,Z s',Z x'=>(match P.info? e with|some i=>(match i.zero with|some z=>if HH du e i z then Z (.append e i.size i.bytes s' x') else Y|none=>Y)|none=>Y)|_,_,_,_=>Y)| .max,[x,y],_=>(match aN x,aN y with|some a,Z b=>Z (.minmax true a b)|_,_=>Y)| .min,[x,y],_=>(match aN x,aN y with|some a,Z b=>Z (.minmax false a b)|_,_=>Y)|_,_,_=>Y
def Xn:Operand->Bool| .const _=>true|_=>false
def fD(P:Program):Op->Option SK| .move x=>(aN x).map .move| .assign x=>(aN x).map .move| .pick c a b=>(match aN c,aN a,aN b with|some c,Z a,Z b=>Z (.pick c a b)|_,_,_=>Y)| .alloc e=>(zeroOf P e).map λz=>.alloc z.cells| .box _ x=>(aN x).map .box| .build t parts=>(match P.underlying t,zeroOf P t with|some (.struct fs),Z (.agg zs)=>(match Da P fs.toList with|some pl=>(partsOf P (pl[·]?) parts.toList).map (.build zs)|none=>Y)|some (.array _ e),Z (.agg zs)=>(match eL P e with|some n=>(partsOf P (λi=>Z (i*n,n)) parts.toList).map (.build zs)|none=>Y)|_,_=>Y)| .buildSlice t L parts=>(match P.underlying t with|some (.slice e)=>(match eL P e,zeroOf P e,xf parts.toList with|some n,Z z,Z ps=>if L*n<=16777216/\0<n then Z (.bslice e n L z ps) else Y|_,_,_=>Y)|_=>Y)| .load t x=>(match jK P t,aN x with|some n,Z y=>Z (.load n y)|_,_=>Y)| .store t a v=>(match eL P t,aN a,aN v with|some n,Z a,Z v=>Z (.store n a v)|_,_,_=>Y)| .nilCheck x=>(aN x).map .nilCheck| .binOp o t x y _=>(match aN x,aN y,P.underlying t with|some a,Z b,Z (.int _)=>Z (.bin o a b)|some a,Z b,Z .string=>Z (.bin o a b)|some a,Z b,Z .bool=>if o= .eql\/o= .neq then Z (.eqk 0 (o== .neq) a b) else Y|some a,Z b,Z (.pointer _)=>if o= .eql\/o= .neq then Z (.eqk 1 (o== .neq) a b) else Y|some a,Z b,Z (.slice _)=>if o= .eql\/o= .neq then Z (.eqk 2 (o== .neq) a b) else Y|some a,Z b,Z (.func _ _ _)=>if o= .eql\/o= .neq then Z (.eqk 3 (o== .neq) a b) else Y|some a,Z b,Z (.interface _)=>if(o= .eql\/o= .neq)/\Xn y=true then Z (.eqk 4 (o== .neq) a b) else Y|some a,Z b,Z (.struct fs)=>if(o= .eql\/o= .neq)/\P.stoodInHeld t=false/\P.eqGuardType P.depth t=false then(xd P 0 fs.toList).map λT=>.eqs (o== .neq) T a b else Y|_,_,_=>Y)| .unOp o _ x=>(aN x).map (.un o)| .convert s d x=>(match P.underlying s,P.underlying d,aN x with|some (.int _),Z (.int k),Z y=>Z (.conv k y)|_,_,_=>Y)| .makeFunc (.func f) first cap=>(match aF aN first.toList,aF aN cap.toList with|some a,Z c=>Z (.mkfn f a c)|_,_=>Y)| .slice t x lo hi Y=>(match P.underlying t,aN x,mY lo,mY hi with|some .string,Z y,Z l,Z h=>Z (.slice 0 y l h)|some (.slice e),Z y,Z l,Z h=>(match eL P e with|some (n+1)=>Z (.slice (n+1) y l h)|_=>Y)|_,_,_,_=>Y)| .slice t x lo (Z hi) (Z M)=>(match P.underlying t,aN x,mY lo,aN hi,aN M with|some (.slice e),Z y,Z l,Z h,Z m=>(match eL P e with|some (n+1)=>Z (.slice3 (n+1) y l h m)|_=>Y)|_,_,_,_,_=>Y)| .makeSlice t l c=>(match P.underlying t,aN l,aN c with|some (.slice e),Z l',Z c'=>(match P.info? e,zeroOf P e with|some i,Z z=>Z (.makesl i.size z i.bytes l' c')|_,_=>Y)|_,_,_=>Y)| .fieldAddr t x f=>(match P.underlying t,aN x with|some (.struct fs),Z y=>(match fs[f]? with|some fd=>(match eL P fd.type with|some (_+1)=>Z (.faddr y fd.offset)|_=>Y)|none=>Y)|_,_=>Y)| .field t x f=>(match P.underlying t,aN x with|some (.struct fs),Z y=>(match fs[f]? with|some fd=>(jK P fd.type).map λn=>.field y fd.offset n|none=>Y)|_,_=>Y)| .indexAddr t x i=>(match P.underlying t,aN x,aN i with|some (.array n e),Z y,Z j=>(eL P e).map λs=>.iaddr (Z n) s y j|some (.slice e),Z y,Z j=>(eL P e).map λs=>.iaddr Y s y j|_,_,_=>Y)| .index t x i=>(match P.underlying t,aN x,aN i with|some (.array n e),Z y,Z j=>(match eL P e,jK P e with|some s,Z c=>Z (.index (Z (n,s,c.isSome)) y j)|_,_=>Y)|some .string,Z y,Z j=>Z (.index Y y j)|_,_,_=>Y)| .extract x i=>(aN x).map λy=>.extract y i| .makeInterface t x=>(match P.underlying t,aN x with|some (.interface _),_=>Y|some _,Z y=>Z (.iface t y)|_,_=>Y)| .call c=>zQ P c| .makeMap t Y=>(match P.underlying t with|some (.map kt _)=>(kindOf P kt).map .sj|_=>Y)| .mapUpdate t m k v=>(match P.underlying t,aN m,aN k,aN v with|some (.map kt _),Z m',Z k',Z V=>(kindOf P kt).map λg=>.mapset g m' k' V|_,_,_,_=>Y)| .insert t m k v=>(match P.underlying t,aN m,aN k,aN v with|some (.map kt _),Z m',Z k',Z V=>(kindOf P kt).map λg=>.mapins g m' k' V|_,_,_,_=>Y)| .typeAssert x _ t O=>(match P.underlying t,zeroOf P t,aN x with|some (.interface _),_,_=>Y|some _,Z z,Z y=>Z (.tassert t z O y)|_,_,_=>Y)| .lookup t m k O=>(match P.underlying t,aN m,aN k with|some (.map kt et),Z m',Z k'=>(match kindOf P kt,zeroOf P et with|some g,Z z=>Z (.mapget g z O m' k')|_,_=>Y)|_,_,_=>Y)|_=>Y
def SK.l6:SK->Bool| .call _ _ | .panic _=>true|_=>false
def xg:Op->Option (Option SK)| .call {callee:=.value f,args:=as,argTypes:=_}=>(match aN f,aF aN as.toList with|some g,Z xs=>Z (Z (.call g xs))|_,_=>Z Y)| .panic x=>Z ((aN x).map .panic)|_=>Y
def nR(P:Program)(op:Op):SK:=match xg op with|some r=>r.getD .stuck|none=>match fD P op with|some k=>if k.l6 then .stuck else k|none=>.stuck
def Db(P:Program)(op:Op)(h:Option SK):SK:=match h with|some (.appendg _ _ _ _ _)=>(match op,nR P op with| .call {callee:=.builtin .append,args:=_,argTypes:=_},.append e sz b s x=>.appendg e sz b s x|_,k=>k)|some (.bsliceG _ _ _ _ _)=>(match op with| .buildSlice t l parts=>(match P.underlying t with|some (.slice e)=>(match eL P e,zeroOf P e,partsOf P (λi=>Z (i*(eL P e).getD 0,(eL P e).getD 0)) parts.toList with|some n,Z z,Z ps=>if l*n<=16777216/\0<n then .bsliceG e n l z ps else nR P op|_,_,_=>nR P op)|_=>nR P op)|_=>nR P op)|_=>nR P op
def mZ(P:Program)(o:Oper)(h:Option SK):SK:=Db P o.op h
variable{fs:Array Field}{vs:Array Value}{fd:Field}{γ:Gh}{H':Hp}{ds:List D}{es:List PD}{m:Mem}{f off sz:Nat}{y j:aE}{x i:Operand}{α:Type}{t:TypeId}{v:Value}
variable{P:Program}{G:Nat->Option (List PD)}{H:Hp}{w:World}{env:Env}{a:Act}{o:Oper}
theorem lD{a c:Type}{f:a->Option c}:∀{l:List a} {l':List c},aF f l=Z l'->O l'=O l/\∀(i:Nat) x,l[i]? =Z x->∃y,f x=Z y/\l'[i]? =Z y|[],l',h=>by cases h;simp|x::r,l',h=>by unfold aF at h;split at h;{rename_i b hb;obtain⟨R,H,rfl⟩:=au.1 h;obtain⟨d,e⟩:=lD H;grind};cases h
theorem l7{a:Type}{f:α->Option a}{l:List α}{l':List a}(h:aF f l=Z l'){i:Nat}{y:a}(b:l'[i]? =Z y):∃x,l[i]? =Z x/\f x=Z y:=by obtain⟨c,H⟩:=lD h;obtain⟨Y,A,d⟩:=H i _ (aw (by grind));grind
theorem HI m {v:Value} {d:PD} (h:C8 v=Z d):aU m v d/\d.one=true:=by unfold C8 at h;split at h;{cases h;exact⟨.bool _,rfl⟩};{cases h;exact⟨.int _ _,rfl⟩};{rename_i s;cases h;(have :s=⟨s.data.toList.toArray⟩:=by simp);exact⟨by have h:=aU.str (m:=m) s.data.toList;rwa [<-this] at h,rfl⟩};{cases h;exact⟨.i7,rfl⟩};{cases h;exact⟨.aj,rfl⟩};{cases h;exact⟨.ly,rfl⟩};{cases h;exact⟨.iH,rfl⟩};{cases h;exact⟨.nN,rfl⟩};cases h
theorem qH m {v:Value} {d:PD} (h:w9 v=Z d):aU m v d:=by unfold w9 at h;split at h;{rename_i cs;obtain⟨s,H,rfl⟩:=au.1 h;obtain⟨c,_⟩:=lD H;refine .agg cs s (by grind) (λd a=>?_) (λi d b=>?_);{obtain⟨i,b⟩:=c8 a;obtain⟨x,_,A⟩:=l7 H b;exact(HI m A).2};obtain⟨x,a1,A⟩:=l7 H b;(have :cs.getD i undef=x:=by simp_all);rw[this];exact(HI m A).1};exact(HI m h).1
theorem bZ(E:bf γ env a.tmps)(h:aN x=Z y):aG γ (a.eval x) (y.ev env):=by cases x with|tmp t=>cases h;exact E t|const v=>obtain⟨d,H,rfl⟩:=au.1 h;exact .p _ _ (qH _ H)|global g=>cases h;exact .dJ g 0|func f=>cases h;exact .fn f #[] #[] [] [] rfl (by grind) rfl (by grind)
theorem Dd(E:bf γ env a.tmps){xs:Array Operand}{s:List aE}(h:aF aN xs.toList=Z s):cp γ (xs.map a.eval) (s.map (·.ev env)):=by
 obtain⟨c,_⟩:=lD h;refine⟨by grind,λi d H=>?_⟩;simp only[cC,au] at H;obtain⟨y,b,rfl⟩:=H;obtain⟨x,e,A⟩:=l7 h b;have :(xs.map a.eval).getD i undef=a.eval x:=by simp_all
 rw[this];exact bZ E A
theorem aG.cn{x:PD}(h:aG γ v (.p x)):aU γ.mem v x:=by cases h with |p v x h=>exact h
theorem aU.pR{b:Bool}(h:aU m v (.bool b)):v= .bool b:=by cases h;rfl
theorem aU.iu{k:IntKind}{n:Int}(h:aU m v (.int k n)):v= .int k n:=by cases h;rfl
theorem aU.sA{s:List UInt8}(h:aU m v (.str s)):v= .string ⟨s.toArray⟩:=by cases h;rfl
theorem aU.pS(h:aU m v .aj):v= .slice Y 0 0:=by cases h;rfl
theorem aU.HJ(h:aU m v .i7):v= .pointer Y:=by cases h;rfl
theorem aU.HK(h:aU m v .ly):v= .nilFunc:=by cases h;rfl
theorem aU.HL{ds:List PD}(h:aU m v (.agg ds)):∃cs:Array Value,v= .agg cs/\cs.size=O ds/\(∀d∈ds,d.one=true)/\∀i d,ds[i]? =Z d->aU m (cs.getD i undef) d:=by cases h with|agg cs ds l o r=>grind
theorem aG.Xo(h:aG γ v (.aL ds)):∃cs:Array Value,v= .tuple cs/\cp γ cs ds:=by cases h with|aL cs ds l r=>exact⟨cs,rfl,l,r⟩
theorem aG.De{es:List D}(h:aG γ v (.fn f ds es)):∃as cs:Array Value,v= .func (.func f) as cs/\cp γ as ds/\cp γ cs es:=by cases h with|fn f as cs ds es l r k K=>exact⟨as,cs,rfl,⟨l,r⟩,⟨k,K⟩⟩
def cP(P:Program)(G:Nat->Option (List PD))(γ:Gh)(H:Hp)(w:World)(a:Act)(o:Oper)(d:D)(H':Hp):Prop:=∃v w' γ',((execOp a.eval o).run P w= .ok (.value v) w'\/((execOp a.eval o).run P w= .ok .skip w'/\v=undef))/\γ.le γ'/\Frame γ H w γ' H' w'/\Inv G γ' H' w'/\aG γ' v d
theorem cP.same(I:Inv G γ H w){d:D}(r:(execOp a.eval o).run P w= .ok (.value v) w)(h:aG γ v d):cP P G γ H w a o d H:=⟨v,w,γ,.inl r,.refl γ,.refl γ H w,I,h⟩
theorem Xp{n:Nat}(h:eL P t=Z n):∃i,P.info? t=Z i/\i.size=n:=au.1 h
theorem jL{n:Nat}(h:eL P t=Z n) w:(sizeOf t).run P w= .ok n w:=by obtain⟨i,H,a⟩:=Xp h;simp[sizeOf,typeInfo,H,a]
theorem uy{z:PD}(h:zeroOf P t=Z z) w:∃v,(zeroValue t).run P w= .ok v w/\w9 v=Z z:=by unfold zeroOf at h;split at h;{rename_i i hi;split at h;{rename_i v hv;exact⟨v,by simp[zeroValue,typeInfo,hi,hv],h⟩};cases h};cases h
theorem Ny{n:Nat}(h:jK P t=Z (Z n)) w:(isAgg t).run P w= .ok true w/\(sizeOf t).run P w= .ok n w:=by unfold jK at h;split at h;{rename_i hu hs;cases h;exact⟨by simp[isAgg,run_underlying hu],jL hs w⟩};{rename_i hu hs;cases h;exact⟨by simp[isAgg,run_underlying hu],jL hs w⟩};{cases h};cases h
theorem Nz(h:jK P t=Z Y) w:(isAgg t).run P w= .ok false w:=by unfold jK at h;cases u:P.underlying t with|none=>grind|some d=>cases s:eL P t with|none=>grind|some n=>cases d<;>first |grind |simp[isAgg,run_underlying u]
theorem NA(I:Inv G γ H w)(E:bf γ env a.tmps)(h:o.op= .move x\/o.op= .assign x)(b:aN x=Z y):cP P G γ H w a o (y.ev env) H:=by refine .same I ?_ (bZ E b);rcases h with h |h<;>simp[execOp,h]
theorem Xq(I:Inv G γ H w)(E:bf γ env a.tmps){c y:Operand}{C X Y:aE}(b:o.op= .pick c x y)(e:aN c=Z C)(f:aN x=Z X)(g:aN y=Z Y) {t:Bool} (i:C.ev env= .p (.bool t)):cP P G γ H w a o (if t then X.ev env else Y.ev env) H:=by have h:=bZ E e;rw[i] at h;have d:=h.cn.pR;cases t with|true=>exact .same I (by simp[execOp,b,d,asBool]) (bZ E f)|false=>exact .same I (by simp[execOp,b,d,asBool]) (bZ E g)
theorem aG.addr{d:D}(h:aG γ v d)(H:(match d with | .box _ _ | .dJ _ _ | .ro _ _=>true |_=>false)=true):∃b off,v= .pointer (Z ⟨b,off,Y⟩):=by cases h<;>first |(done) |grind
theorem Xr(I:Inv G γ H w)(E:bf γ env a.tmps)(c:o.op= .nilCheck x)(g:aN x=Z y){d:D} (e:aY G env H (.nilCheck y)=Z (d,H')):cP P G γ H w a o d H':=by have r:=bZ E g;simp only[aY] at e;split at e<;>cases e<;>rename_i i<;>rw[i] at r;{refine .same I ?_ r;obtain⟨b,f,h⟩:=r.addr rfl;simp[execOp,c,h]};{refine .same I ?_ r;obtain⟨b,f,h⟩:=r.addr rfl;simp[execOp,c,h]};{refine .same I (v:=a.eval x) ?_ r;obtain⟨b,f,h⟩:=r.addr rfl;simp[execOp,c,h]};refine .same I ?_ r;obtain⟨as,s,h,_,_⟩:=r.De;simp[execOp,c,h]
theorem aG.shift{b:Nat}{d d':D}(h:aG γ (.pointer (Z ⟨b,off,Y⟩)) d)(n:Nat) (H:(match d with | .box i o=>Z (D.box i (o+n)) | .dJ g o=>Z (D.dJ g (o+n)) | .ro cs o=>Z (D.ro cs (o+n)) |_=>Y)=Z d'):aG γ (.pointer (Z ⟨b,off+n,Y⟩)) d':=by cases h with|box i off b a=>cases H;exact .box i _ b a|dJ=>cases H;exact .dJ _ _|ro b o off cs s m c=>cases H;rw[oy];exact .ro b o _ cs s m c|p v x h=>cases H|dead=>cases H|aP v t e z E w r f j k l u y=>cases H
theorem Xt(I:Inv G γ H w)(E:bf γ env a.tmps)(c:o.op= .fieldAddr t x f)(g:aN x=Z y) {n:Nat} (i:P.underlying t=Z (.struct fs)) (j:fs[f]? =Z fd) (k:eL P fd.type=Z (n+1)) {d:D} (e:aY G env H (.faddr y fd.offset)=Z (d,H')):cP P G γ H w a o d H':=by have h:=bZ E g;(have r:∀b O,a.eval x= .pointer (Z ⟨b,O,Y⟩)->(execOp a.eval o).run P w= .ok (.value (.pointer (Z ⟨b,O+fd.offset,Y⟩))) w:=by intro b O v;simp[execOp,c,v,Instr.fieldAt,run_underlying i,j,Instr.sureAddr,fieldPlace,jL k,Addr.add_lit]);simp only[aY] at e;split at e<;>cases e<;>rename_i l<;>rw[l] at h;{obtain⟨b,O,v⟩:=h.addr rfl;rw[v] at h;exact .same I (r b O v) (h.shift _ rfl)};{obtain⟨b,O,v⟩:=h.addr rfl;rw[v] at h;exact .same I (r b O v) (h.shift _ rfl)};obtain⟨b,O,v⟩:=h.addr rfl;rw[v] at h;exact .same I (r b O v) (h.shift _ rfl)
theorem zR{d:D}(h:aG γ v d){n:Int}(H:d.qx=Z n):∃k,v= .int k n:=by unfold D.qx at H;split at H;{cases H;cases h with|p v x h=>cases h;grind};cases H
theorem uz{d:D}(h:aG γ v d){n:Nat}(H:d.jH=Z n):∃k,v= .int k (n:Int):=by unfold D.jH at H;split at H;{split at H;{rename_i k i h0;cases H;cases h with|p v x h=>cases h;exact⟨k,by grind⟩};cases H};cases H
theorem xh{d:D}(h:aG γ v d)(H:d.fO=Z (sz,es)):aU γ.mem v (.slice sz es):=by unfold D.fO at H;split at H;{cases H;cases h with|p v x h=>exact h};{cases H;cases h with|p v x h=>cases h with|bW a c sz=>exact .jt _ _ _};{cases H;cases h with|cw b n e sz es i j f h=>exact h};{cases H;cases h with|aP v t e sz es w r k l m g o s=>exact g};{cases H;cases h with|eJ a sz=>exact .jt a 0 sz};{cases H;cases h with|eF a n sz es f h=>exact h};cases H
theorem nc(h:aU m v (.slice sz es)): ∃(a:Option Addr) (cap:Nat),v= .slice a (O es) cap/\O es<=cap/\(es≠[]->∃(b o:Nat) (vs:Nat->Nat->Value),a=Z ⟨b,o,Y⟩/\(∀e∈es,O e.cells=sz)/\(∀e∈es,∀c∈e.cells,c.one=true)/\ (∀i j,i<O es->j<sz->m b (o+i*sz+j)=Z (vs i j))/\∀i e j c,es[i]? =Z e->e.cells[j]? =Z c->aU m (vs i j) c):=by cases h with|jt a cap sz=>simp|sl b o cap sz es vs d s H f r=>exact⟨_,cap,rfl,d,λ_=>⟨b,o,vs,rfl,s,H,f,r⟩⟩
theorem Xu(I:Inv G γ H w)(E:bf γ env a.tmps){e:TypeId}{s:Nat}(F:o.op= .indexAddr t x i)(J:P.underlying t=Z (.slice e))(K:eL P e=Z s) (V:aN x=Z y) (W:aN i=Z j) {d:D}  (C:aY G env H (.iaddr Y s y j)=Z (d,H')):cP P G γ H w a o d H':=by have r:=bZ E V;simp only[aY] at C;split at C;{rename_i n hn;obtain⟨k,l⟩:=zR (bZ E W) hn;obtain⟨d',f,X⟩:=au.1 C;cases X;simp only[cV] at f;split at f;{rename_i bb m nn L gK hel;split at f;{rename_i p;obtain⟨rfl,u⟩:=p;cases f;rw[hel] at r;generalize z:a.eval x=v at r;cases r with|aZ _ _ _ _ _ b c M N A=>refine .same I ?_ (.box _ _ b M);simp[execOp,F,z,l,Instr.indexAt,run_underlying J,asIntOf,u,jL K,Addr.add_lit]};cases f};{rename_i bb ee nn gK hel;split at f;{rename_i p;obtain⟨rfl,u⟩:=p;cases f;rw[hel] at r;generalize z:a.eval x=v at r;cases r with|af _ _ _ _ b c M N S ju=>refine .same I ?_ (.box _ _ b M);simp[execOp,F,z,l,Instr.indexAt,run_underlying J,asIntOf,u,jL K,Addr.add_lit]};cases f};split at f;{rename_i gK es hel;split at f;{rename_i p;obtain⟨rfl,u⟩:=p;obtain⟨T,g,rfl⟩:=au.1 f;have B:=(ak.1 g).1;obtain⟨ad,L,z,A,Q⟩:=nc (xh r hel);obtain⟨b,m,vs,rfl,R,U,S,hr⟩:=Q (λh=>by subst h;simp at B);refine .same I (v:=.pointer (Z ⟨b,m+n.toNat*gK+0,Y⟩)) ?_ ?_;{simp[execOp,F,z,l,Instr.indexAt,run_underlying J,asIntOf,(⟨u,by omega⟩:0<=n/\n<(O es:Int)),jL K,Addr.add_lit]};refine .ro b (m+n.toNat*gK) 0 T.cells (vs n.toNat) (λjj hj=>S _ _ B ?_) (λjj c p=>⟨hr _ _ _ _ g p,?_⟩);{rw[<-R T (bK g)];exact hj};grind};cases f};cases f};cases C
theorem Xv(I:Inv G γ H w)(E:bf γ env a.tmps){e:TypeId}{len:Nat}{s:Nat}(p:o.op= .indexAddr t x i)(u:P.underlying t=Z (.array len e))(z:eL P e=Z s) (A:aN x=Z y) (B:aN i=Z j) {d:D}  (g:aY G env H (.iaddr (Z len) s y j)=Z (d,H')):cP P G γ H w a o d H':=by have h:=bZ E A;simp only[aY] at g;split at g;{rename_i n hn;obtain⟨k,l⟩:=zR (bZ E B) hn;obtain⟨F,c,C⟩:=au.1 g;cases C;simp only[cV] at c;split at c;{rename_i hc;(have r:∀b f,a.eval x= .pointer (Z ⟨b,f,Y⟩)->(execOp a.eval o).run P w= .ok (.value (.pointer (Z ⟨b,f+n.toNat*s,Y⟩))) w:=by intro b f v;simp[execOp,p,v,l,Instr.indexAt,run_underlying u,asIntOf,Instr.sureAddr,hc,jL z,Addr.add_lit]);split at c<;>cases c<;>rename_i m<;>rw[m] at h;{obtain⟨b,f,v⟩:=h.addr rfl;rw[v] at h;exact .same I (r b f v) (h.shift _ rfl)};{obtain⟨b,f,v⟩:=h.addr rfl;rw[v] at h;exact .same I (r b f v) (h.shift _ rfl)};obtain⟨b,f,v⟩:=h.addr rfl;rw[v] at h;exact .same I (r b f v) (h.shift _ rfl)};cases c};cases g
theorem NB:∀{ds:List D} {cs:List PD},eG ds=Z cs->ds=cs.map .p|[],cs,h=>by cases h;rfl| .p x::r,cs,h=>by simp only[eG] at h;obtain⟨c,H,rfl⟩:=au.1 h;simp[NB H]| .dead::_,cs,h=>by cases h| .undef::_,cs,h=>by cases h| .cw .. ::_,cs,h=>by cases h| .aP .. ::_,cs,h=>by cases h| .box .. ::_,cs,h=>by cases h| .dJ .. ::_,cs,h=>by cases h| .ro .. ::_,cs,h=>by cases h| .agg .. ::_,cs,h=>by cases h| .aL .. ::_,cs,h=>by cases h| .fn .. ::_,cs,h=>by cases h
theorem zT(h:cp γ vs ds)(H:∀d∈ds,d.one=true):aG γ (.agg vs) (bY ds):=by unfold bY;split;{rename_i cs cQ;have e:=NB cQ;subst e;refine .p _ _ (.agg vs cs (by simpa using h.1) (λd a=>H (.p d) (by grind)) (λi d a=>?_));exact(h.2 i (.p d) (by simp[a])).cn};exact .agg vs ds h.1 H h.2
theorem uA(l:List α) lo hi i:(sub l lo hi)[i]? =if lo+i<hi then l[lo+i]? else Y:=by unfold sub;grind
theorem sB(l:List α)(o i:Nat)(h:i<=O l):O (sub l o i)=i-o:=by unfold sub;simp;omega
theorem Xw(h:cp γ vs ds){k:Nat}(a:off+k<=O ds):cp γ (vs.extract off (off+k)) (sub ds off (off+k)):=by have s:=h.1;refine⟨by rw[sB _ _ _ a];simp;omega,λi d H=>?_⟩;rw[uA] at H;split at H;{have:=h.2 _ _ H;rw[(by simp[cg,alG];grind:(vs.extract off (off+k)).getD i undef=vs.getD (off+i) undef)];exact this};cases H
theorem Df{cs:Array Value}{ds:List PD}(l:cs.size=O ds)(r:∀i d,ds[i]? =Z d->aU γ.mem (cs.getD i undef) d):cp γ cs (ds.map .p):=by refine⟨by grind,λi d h=>?_⟩;simp only[cC,au] at h;obtain⟨x,H,rfl⟩:=h;exact .p _ _ (r i x H)
theorem NC{n:Option Nat}(a:jK P t=Z n)(h:cp γ vs ds)(b:∀d∈ds,d.one=true){d:D} (H:cutAt ds off n id bY=Z d) w:∃v,(part t vs off).run P w= .ok v w/\aG γ v d:=by unfold cutAt at H;split at H;{obtain⟨x,hx,rfl⟩:=au.1 H;refine⟨vs.getD off undef,?_,h.2 off x hx⟩;simp[part,Nz a,oz (by rw[h.1];exact(ak.1 hx).1),cg]};rename_i k;split at H;{rename_i hk;cases H;obtain⟨Q,c⟩:=Ny a w;refine⟨.agg (vs.extract off (off+k)),by simp[part,Q,c],zT (Xw h hk) (λd H=>b d ?_)⟩;exact gP (qp H)};cases H
theorem xj{cs:List PD}{n:Option Nat}{d:D}(h:cutAt cs off n .p (λl=>.p (.agg l))=Z d):cutAt (cs.map .p) off n id bY=Z d:=by unfold cutAt at h|-;split at h;{grind};rename_i k;split at h;{cases h;simp only[(by grind:off+k<=O (cs.map D.p)),if_true,cH];(have :sub (cs.map D.p) off (off+k)=(sub cs off (off+k)).map .p:=by simp[sub,G7,MT]);rw[this];unfold bY;rw[(by intro l;induction l with|nil=>rfl|cons x r i=>simp[eG,i]:∀l:List PD,eG (l.map .p)=Z l)]};cases h
theorem ND{d:D}(h:aG γ v d)(H:d= .agg ds\/∃cs,d= .p (.agg cs)/\ds=cs.map .p):∃vs,v= .agg vs/\cp γ vs ds/\∀d∈ds,d.one=true:=by rcases H with rfl |⟨cs,rfl,rfl⟩;{cases h with|agg cs ds l o r=>exact⟨cs,rfl,⟨l,r⟩,o⟩};cases h with|p v x h=>cases h with|agg vs ds l o r=>exact⟨vs,rfl,Df l r,λd H=>by obtain⟨x,a,rfl⟩:=cv.1 H;exact o x a⟩
theorem Xx(I:Inv G γ H w)(E:bf γ env a.tmps)(i:o.op= .field t x f)(j:aN x=Z y) {n:Option Nat} (l:P.underlying t=Z (.struct fs)) (m:fs[f]? =Z fd) (r:jK P fd.type=Z n) {d:D} (e:aY G env H (.field y fd.offset n)=Z (d,H')):cP P G γ H w a o d H':=by (have k:∀s,(y.ev env= .agg s\/∃c,y.ev env= .p (.agg c)/\s=c.map .p)->cutAt s fd.offset n id bY=Z d->cP P G γ H w a o d H:=by intro s b u;obtain⟨V,z,A,B⟩:=ND (bZ E j) b;obtain⟨v,Q,C⟩:=NC r A B u w;exact .same I (by simp[execOp,i,z,Instr.field,run_underlying l,m,asAgg,Q]) C);simp only[aY] at e;split at e;{rename_i c hd;obtain⟨F,h,g⟩:=au.1 e;cases g;exact k _ (by grind) (xj h)};{obtain⟨F,h,g⟩:=au.1 e;grind};cases e
theorem Xy(I:Inv G γ H w)(E:bf γ env a.tmps){i:Nat}(b:o.op= .extract x i)(f:aN x=Z y){d:D} (e:aY G env H (.extract y i)=Z (d,H')):cP P G γ H w a o d H':=by have r:=bZ E f;simp only[aY] at e;split at e;{rename_i ds hd;obtain⟨j,h,g⟩:=au.1 e;cases g;rw[hd] at r;obtain⟨s,c,l,r⟩:=r.Xo;refine .same I ?_ (r i d h);simp[execOp,b,c,Instr.extract,oz (by rw[l];exact(ak.1 h).1),cg]};cases e
theorem Xz(I:Inv G γ H w)(E:bf γ env a.tmps){fi C:Array Operand}{F c:List aE}(h:o.op= .makeFunc (.func f) fi C)(b:aF aN fi.toList=Z F)(d:aF aN C.toList=Z c): cP P G γ H w a o (.fn f (F.map (·.ev env)) (c.map (·.ev env))) H:=by obtain⟨A,e⟩:=Dd E b;obtain⟨B,g⟩:=Dd E d;exact .same I (by simp[execOp,h,Instr.makeFunc]) (.fn f _ _ _ _ A e B g)
theorem XA(I:Inv G γ H w)(b:o.op= .makeInterface t x)(c:(P.underlying t).isSome)(n:∀ms,P.underlying t≠Z (.interface ms)) {d:D}  (e:aY G env H (.iface t y)=Z (d,H')) (r:aG γ (a.eval x) (y.ev env)) (s:∀z,(y.ev env).dW=Z z->aU γ.mem (a.eval x) z):cP P G γ H w a o d H':=by simp only[aY] at e;split at e;{rename_i z hz;cases e;obtain⟨T,h⟩:=Wn.1 c;refine .same I ?_ (.p _ _ (.iface t _ z (s z hz)));(have :(Instr.makeInterface t (a.eval x)).run P w= .ok (.iface t (a.eval x)) w:=by cases T<;>first |grind |simp[Instr.makeInterface,run_underlying h]);simp[execOp,b,this]};cases e;obtain⟨T,h⟩:=Wn.1 c;refine .same I ?_ (.dK t _ _ r);(have :(Instr.makeInterface t (a.eval x)).run P w= .ok (.iface t (a.eval x)) w:=by cases T<;>first |exact(n _ h).elim |simp[Instr.makeInterface,run_underlying h]);simp[execOp,b,this]
end
section
variable{r:Array TypeId}{γ:Gh}{H':Hp}{k':IntKind}{es:List PD}{m:Mem}{kd l cap sz:Nat}{x' y':aE}{x y:Operand}{ad:Option Addr}{qI iN:Option aE}{lo hi:Option Operand}{yt:TypeId}{v u:Value}
variable{P:Program}{G:Nat->Option (List PD)}{H:Hp}{w:World}{env:Env}{a:Act}{o:Oper}
theorem Dg{op:BinOp}{k:IntKind}{x y:Int}{t:TypeId}(h:(Op.intBits op k x y).run P w= .ok v w)(o:(match op with | .and | .or | .xor | .andNot=>true |_=>false)=true:=by rfl): (binOp op t (.int k x) (.int k y)).run P w= .ok v w:=by (have :binOp op t (.int k x) (.int k y)=Op.intBits op k x y:=by cases op<;>first |grind |simp only[binOp,ne_eq,not_true_eq_false,if_false]);grind
theorem XB{op:BinOp}{k:IntKind}{x y:Int}{r:PD} t (H:op= .shl\/op= .shr\/k=k')(h:jG op k x y=Z r) w: ∃v,(binOp op t (.int k x) (.int k' y)).run P w= .ok v w/\∀m,aU m v r:=by
 have s:∀op:BinOp,¬(op= .shl\/op= .shr)->(op= .shl\/op= .shr\/k=k')->k=k':=by grind
 cases op<;>simp only[jG] at h;case shl=>split at h;{cases h};rename_i hn;cases h;exact⟨_,by simp[binOp,Op.shift,hn],λm=>.int _ _⟩
 case shr=>split at h;{cases h};rename_i hn;cases h;exact⟨_,by simp[binOp,Op.shift,hn],λm=>.int _ _⟩
 case quo=>split at h;{cases h};rename_i hn;cases h;cases s .quo (by simp) H;exact⟨_,by simp[binOp,Op.intDiv,hn],λm=>.int _ _⟩
 case rem=>split at h;{cases h};rename_i hn;cases h;cases s .rem (by simp) H;exact⟨_,by simp[binOp,Op.intDiv,hn],λm=>.int _ _⟩
 case and=>cases h;cases s .and (by simp) H;exact⟨_,Dg rfl,λm=>.int _ _⟩
 case or=>cases h;cases s .or (by simp) H;exact⟨_,Dg rfl,λm=>.int _ _⟩
 case xor=>cases h;cases s .xor (by simp) H;exact⟨_,Dg rfl,λm=>.int _ _⟩
 case andNot=>cases h;cases s .andNot (by simp) H;exact⟨_,Dg rfl,λm=>.int _ _⟩
 case add=>cases h;cases s .add (by simp) H;exact⟨_,by simp[binOp,Op.intArith],λm=>.int _ _⟩
 case sub=>cases h;cases s .sub (by simp) H;exact⟨_,by simp[binOp,Op.intArith],λm=>.int _ _⟩
 case mul=>cases h;cases s .mul (by simp) H;exact⟨_,by simp[binOp,Op.intArith],λm=>.int _ _⟩
 case eql=>cases h;cases s .eql (by simp) H;exact⟨_,by simp[binOp,Op.intCmp],λm=>.bool _⟩
 case neq=>cases h;cases s .neq (by simp) H;exact⟨_,by simp[binOp,Op.intCmp],λm=>.bool _⟩
 case lss=>cases h;cases s .lss (by simp) H;exact⟨_,by simp[binOp,Op.intCmp],λm=>.bool _⟩
 case leq=>cases h;cases s .leq (by simp) H;exact⟨_,by simp[binOp,Op.intCmp],λm=>.bool _⟩
 case gtr=>cases h;cases s .gtr (by simp) H;exact⟨_,by simp[binOp,Op.intCmp],λm=>.bool _⟩
 case geq=>cases h;cases s .geq (by simp) H;exact⟨_,by simp[binOp,Op.intCmp],λm=>.bool _⟩
theorem XC{op:BinOp}{x y:List UInt8}{r:PD} t (h:ui op x y=Z r) w: ∃v,(binOp op t (.string ⟨x.toArray⟩) (.string ⟨y.toArray⟩)).run P w= .ok v w/\∀m,aU m v r:=by
 cases op<;>simp only[ui] at h;case add=>split at h;{cases h;(have s:∀l:List UInt8,(⟨l.toArray⟩:ByteArray).size=O l:=λl=>by simp[ByteArray.size]);refine⟨.string ⟨(x++y).toArray⟩,?_,λm=>.str _⟩;have b:(binOp .add t (.string ⟨x.toArray⟩) (.string ⟨y.toArray⟩):Sem Value)=Op.stringOp .add ⟨x.toArray⟩ ⟨y.toArray⟩:=rfl;rw[b,run_string_add_sum _ _ _ (by grind),(by apply ByteArray.ext;simp:(⟨x.toArray⟩:ByteArray)++⟨y.toArray⟩=⟨(x++y).toArray⟩)]};cases h
 case eql=>cases h;exact⟨_,by simp[binOp,Op.stringOp],λm=>.bool _⟩
 case neq=>cases h;exact⟨_,by simp[binOp,Op.stringOp],λm=>.bool _⟩
 case lss=>cases h;exact⟨_,by simp[binOp,Op.stringOp],λm=>.bool _⟩
 case leq=>cases h;exact⟨_,by simp[binOp,Op.stringOp],λm=>.bool _⟩
 case gtr=>cases h;exact⟨_,by simp[binOp,Op.stringOp],λm=>.bool _⟩
 case geq=>cases h;exact⟨_,by simp[binOp,Op.stringOp],λm=>.bool _⟩
 all_goals cases h
theorem Dh{op:BinOp}{t:TypeId}(h:¬(u= .nilIface/\v= .nilIface))(H:∀cs ds,¬(u= .agg cs/\v= .agg ds)) w:(eqGuard op t x y u v).run P w= .ok () w:=by unfold eqGuard;all_goals simp_all
theorem NF(I:Inv G γ H w)(E:bf γ env a.tmps){op:BinOp}{t:TypeId}(g:o.op= .binOp op t x y yt)(i:aN x=Z x')(j:aN y=Z y') {d:D}  (l:aY G env H (.bin op x' y')=Z (d,H')):cP P G γ H w a o d H':=by have h:=bZ E i;have b:=bZ E j;obtain⟨n,c,m⟩:=au.1 l;cases m;unfold wN at c;split at c;{rename_i k p k' q e1 e2;split at c;{rename_i hk;obtain⟨r,e,rfl⟩:=au.1 c;rw[e1] at h;rw[e2] at b;obtain⟨v,Q,f⟩:=XB (P:=P) t hk e w;refine .same I ?_ (.p _ _ (f _));simp[execOp,g,h.cn.iu,b.cn.iu,Q,Dh (u:=.int k p) (by simp) (by simp) w]};cases c};{rename_i p q e1 e2;obtain⟨r,e,rfl⟩:=au.1 c;rw[e1] at h;rw[e2] at b;obtain⟨v,Q,f⟩:=XC (P:=P) t e w;refine .same I ?_ (.p _ _ (f _));simp[execOp,g,h.cn.sA,b.cn.sA,Q,Dh (u:=.string ⟨p.toArray⟩) (by simp) (by simp) w]};cases c
theorem HM{op:BinOp}(o:op= .eql\/op= .neq){t:TypeId}{b:Bool}(H:(match u with | .int _ _ | .float _ _ | .complex _ _ _ | .string _=>true |_=>false)=false) (h:(Op.equal t u v).run P w= .ok b w):(binOp op t u v).run P w= .ok (.bool (if op== .neq then !b else b)) w:=by rcases o with rfl |rfl<;>cases u<;>first |grind |(cases v<;>simp[binOp,h])
theorem XD(t:TypeId)(u v:Value):Op.equal t u v=Op.equalIn (9999+1) t u v:=rfl
section
variable(d:Nat)(t:TypeId)
theorem NG(h:P.underlying t=Z .bool) x y:(Op.equalIn (d+1) t (.bool x) (.bool y)).run P w= .ok (x==y) w:=by simp[Op.equalIn,run_underlying h]
theorem XE(h:P.underlying t=Z (.int k')) k x y:(Op.equalIn (d+1) t (.int k x) (.int k y)).run P w= .ok (x==y) w:=by simp[Op.equalIn,run_underlying h]
theorem XF(h:P.underlying t=Z .string) x y:(Op.equalIn (d+1) t (.string x) (.string y)).run P w= .ok (x==y) w:=by simp[Op.equalIn,run_underlying h]
theorem NH{e:TypeId}(h:P.underlying t=Z (.pointer e)) ad:(Op.equalIn (d+1) t (.pointer ad) (.pointer Y)).run P w= .ok ad.isNone w:=by cases ad<;>simp[Op.equalIn,run_underlying h]
theorem XG{e:TypeId}(h:P.underlying t=Z (.slice e)) ad n c:(Op.equalIn (d+1) t (.slice ad n c) (.slice Y 0 0)).run P w= .ok ad.isNone w:=by cases ad<;>simp[Op.equalIn,run_underlying h]
theorem XH{p:Array TypeId}{v:Bool}(h:P.underlying t=Z (.func p r v)):(Op.equalIn (d+1) t .nilFunc .nilFunc).run P w= .ok true w:=by simp[Op.equalIn,run_underlying h]
theorem XI{p:Array TypeId}{v:Bool}(h:P.underlying t=Z (.func p r v)) f as cs:(Op.equalIn (d+1) t (.func f as cs) .nilFunc).run P w= .ok false w:=by simp[Op.equalIn,run_underlying h]
end
theorem XJ{d:D}(h:aG γ v d){r:Bool}(H:d.wM=Z r):∃base n c,v= .slice base n c/\base.isNone=r:=by unfold D.wM at H;split at H;{cases H;exact⟨Y,0,0,h.cn.pS,rfl⟩};{cases H;obtain⟨a,C,g,_,f⟩:=nc h.cn;grind};{cases H;cases h with|p v x h=>cases h with|bW a C s=>exact⟨_,_,_,rfl,rfl⟩};{cases H;cases h with|cw b n e s E i t j k=>exact⟨_,_,_,rfl,rfl⟩};{cases H;obtain⟨a,C,g,_,f⟩:=nc (xh h rfl);grind};{cases H;cases h with|aZ=>simp};{cases H;cases h with|af=>simp};cases H
theorem Di(I:Inv G γ H w)(E:bf γ env a.tmps){op:BinOp}{t yt:TypeId}{x y:Operand}{x' y':aE}{kd:Nat}(ho:o.op= .binOp op t x y yt)(sC:op= .eql∨op= .neq)(hx:aN x=some x')(hy:aN y=some y')
    (ht:(kd=0∧P.underlying t=some .bool)∨(kd=1∧∃e,P.underlying t=some (.pointer e))∨(kd=2∧∃e,P.underlying t=some (.slice e))∨(kd=3∧∃p r v,P.underlying t=some (.func p r v)))
    {d:D} {H':Hp} (he:aY G env H (.eqk kd (op== .neq) x' y')=some (d,H')):cP P G γ H w a o d H':=by
 have iO:=bZ E hx;have j9:=bZ E hy;obtain⟨r,hd,hh⟩:=au.1 he;cases hh;have fin:∀u v,a.eval x=u→a.eval y=v→(match u with | .int _ _ | .float _ _ | .complex _ _ _ | .string _=>true |_=>false)=false→(∀cs,u≠.agg cs)→u≠.nilIface→(Op.equal t u v).run P w= .ok r w→
     cP P G γ H w a o (.p (.bool (if op== .neq then !r else r))) H:=by
  intro u v hu hv h1 h2 h3 h4;refine .same I ?_ (.p _ _ (.bool _));have e:=Dh (P:=P) (op:=op) (t:=t) (x:=x) (y:=y) (v:=v) (fun h=>h3 h.1) (by grind) w;have q:=HM sC h1 h4;simp[execOp,ho,hu,hv,e,q]
 rcases ht with⟨rfl,ht⟩ |⟨rfl,e,ht⟩ |⟨rfl,e,ht⟩ |⟨rfl,p,rr,vv,ht⟩
 ·simp only[pL] at hd;split at hd
  ·rename_i p q e1 e2;cases hd;rw[e1] at iO;rw[e2] at j9;exact fin _ _ iO.cn.pR j9.cn.pR rfl (by simp) (by simp) (by exact NG _ _ ht _ _)
  ·cases hd
 ·simp only[pL] at hd;split at hd<;>cases hd<;>rename_i e1 e2<;>rw[e1] at iO<;>rw[e2] at j9
  ·exact fin _ _ iO.cn.HJ j9.cn.HJ rfl (by simp) (by simp) (by exact NH _ _ ht _)
  all_goals
   obtain⟨b,off,hv⟩:=iO.addr rfl;exact fin _ _ hv j9.cn.HJ rfl (by simp) (by simp) (by exact NH _ _ ht _)
 ·simp only[pL] at hd;split at hd
  ·rename_i e2;rw[e2] at j9;obtain⟨base,n,c,hv,rfl⟩:=XJ iO hd;exact fin _ _ hv j9.cn.pS rfl (by simp) (by simp) (by exact XG _ _ ht _ _ _)
  ·cases hd
 ·simp only[pL] at hd;split at hd<;>cases hd<;>rename_i e1 e2<;>rw[e1] at iO<;>rw[e2] at j9
  ·exact fin _ _ iO.cn.HK j9.cn.HK rfl (by simp) (by simp) (by exact XH _ _ ht)
  ·obtain⟨as,cs,hv,_,_⟩:=iO.De;exact fin _ _ hv j9.cn.HK rfl (by simp) (by simp) (by exact XI _ _ ht _ _ _)
theorem XK(I:Inv G γ H w)(E:bf γ env a.tmps){op:UnOp}{t:TypeId}(c:o.op= .unOp op t x)(e:aN x=Z x') {d:D}  (f:aY G env H (.un op x')=Z (d,H')):cP P G γ H w a o d H':=by have h:=bZ E e;obtain⟨r,b,g⟩:=au.1 f;cases g;unfold wO at b;split at b;{rename_i e1;cases b;rw[e1] at h;exact .same I (by simp[execOp,c,h.cn.pR,Op.unary]) (.p _ _ (.bool _))};{rename_i e1;cases b;rw[e1] at h;exact .same I (by simp[execOp,c,h.cn.iu,Op.unary,Op.intArith]) (.p _ _ (.int _ _))};cases b
theorem XL(I:Inv G γ H w)(E:bf γ env a.tmps){s t:TypeId}{k:IntKind}(h:o.op= .convert s t x)(b:P.underlying s=Z (.int k'))(c:P.underlying t=Z (.int k))(f:aN x=Z x') {d:D}  (e:aY G env H (.conv k x')=Z (d,H')):cP P G γ H w a o d H':=by simp only[aY] at e;split at e;{rename_i n hn;cases e;obtain⟨K,v⟩:=zR (bZ E f) hn;exact .same I (by simp[execOp,h,v,convert,run_underlying b,run_underlying c,Conv.intToInt]) (.p _ _ (.int _ _))};cases e
theorem NI(I:Inv G γ H w)(E:bf γ env a.tmps){mx:Bool}{ts:Array TypeId}(e:o.op= .call {callee:=.builtin (if mx then .max else .min),args:=#[x,y],argTypes:=ts})(f:aN x=Z x')(g:aN y=Z y') {d:D}  (i:aY G env H (.minmax mx x' y')=Z (d,H')):cP P G γ H w a o d H':=by have h:=bZ E f;have b:=bZ E g;obtain⟨r,c,j⟩:=au.1 i;cases j;unfold wQ at c;split at c;{rename_i k p k' q e1 e2;cases c;rw[e1] at h;rw[e2] at b;refine .same I ?_ (.p _ _ (.int _ _));cases mx;{simp[execOp,e,resolve,invoke,builtin,h.cn.iu,b.cn.iu,Builtin.min_,Builtin.min2]};simp[execOp,e,resolve,invoke,builtin,h.cn.iu,b.cn.iu,Builtin.max_,Builtin.max2]};cases c
theorem NJ(I:Inv G γ H w)(E:bf γ env a.tmps){t:TypeId}(l:o.op= .call {callee:=.builtin .len,args:=#[x],argTypes:=#[t]}) (j:(kd=0/\P.underlying t=Z .string)\/(kd=1/\∃e,P.underlying t=Z (.slice e))) (u:aN x=Z x') {d:D}  (m:aY G env H (.len kd x')=Z (d,H')):cP P G γ H w a o d H':=by have h:=bZ E u;simp only[aY] at m;obtain⟨n,f,y⟩:=au.1 m;cases y;refine .same I (v:=.int .i64 n) ?_ (.p _ _ (.int _ _));rcases j with⟨rfl,j⟩ |⟨rfl,e,j⟩;{unfold c9 at f;split at f;{rename_i s _ g;cases f;rw[g] at h;(have g:(⟨s.toArray⟩:ByteArray).size=O s:=by simp[ByteArray.size]);simp[execOp,l,resolve,invoke,builtin,h.cn.sA,Builtin.len_,run_underlying j,goInt,g]};{rename_i h0 _;cases h0};{rename_i h0 _;cases h0};{rename_i h0 _;cases h0};{rename_i h0 _ _ _;cases h0};cases f};(have k:∃B c,a.eval x= .slice B n c:=by unfold c9 at f;split at f;{rename_i h0 _;cases h0};{rename_i g;cases f;rw[g] at h;exact⟨Y,0,h.cn.pS⟩};{rename_i g;cases f;rw[g] at h;generalize a.eval x=v at h;cases h with|aZ i z n C S b c A F r=>exact⟨_,_,rfl⟩};{rename_i g;cases f;rw[g] at h;generalize a.eval x=v at h;cases h with|af i e n S b c A F K J=>exact⟨_,_,rfl⟩};{obtain⟨el,hel,rfl⟩:=au.1 f;obtain⟨B,c,k,_⟩:=nc (xh h hel);exact⟨B,c,k⟩};cases f);obtain⟨B,c,k⟩:=k;simp[execOp,l,resolve,invoke,builtin,k,Builtin.len_,run_underlying j,goInt]
theorem uB{n h:Nat}{o i:Option D}(e:jo n o i=Z (l,h)): l<=h/\h<=n/\(match o with |none=>l=0 |some d=>d.jH=Z l)/\(match i with |none=>h=n |some d=>d.jH=Z h):=by unfold jo at e;split at e;{rename_i l' h' e1 e2;split at e;{rename_i hc;cases e;refine⟨hc.1,hc.2,?_,?_⟩;{cases o with|none=>cases e1;rfl|some d=>exact e1};cases i with|none=>cases e2;rfl|some d=>exact e2};cases e};cases e
theorem zU(E:bf γ env a.tmps)(o:mY lo=Z qI)(H:mY hi=Z iN){n h:Nat}(z:jo n (qI.map (·.ev env)) (iN.map (·.ev env))=Z (l,h)) (e:Bool) (cap:Nat) (j:n<=cap) (w:World):(Instr.sliceBounds e n cap (lo.map a.eval) (hi.map a.eval) Y).run P w= .ok (l,h,cap) w:=by
 obtain⟨m,p,r,t⟩:=uB z;have v:(hi=Y/\h=n)\/∃x k,hi=Z x/\a.eval x= .int k (h:Int):=by cases hi with|none=>cases H;exact .inl ⟨rfl,t⟩|some x=>simp only[mY] at H;obtain⟨y,d,rfl⟩:=au.1 H;obtain⟨k,f⟩:=uz (bZ E d) t;exact .inr ⟨x,k,rfl,f⟩
 have g:(lo=Y/\l=0)\/∃x k,lo=Z x/\a.eval x= .int k (l:Int):=by cases lo with|none=>cases o;exact .inl ⟨rfl,r⟩|some x=>simp only[mY] at o;obtain⟨y,d,rfl⟩:=au.1 o;obtain⟨k,f⟩:=uz (bZ E d) r;exact .inr ⟨x,k,rfl,f⟩
 have s:∀(k:IntKind) (i y:Nat) (c:BoundsCode),i<=y->(Instr.sliceBound (.int k (i:Int)) y c).run P w= .ok i w:=by intro k i y c hi;have:=run_sliceBound (P:=P) w k (i:Int) y c (by omega) (by omega);simpa using this
 rcases v with⟨rfl,rfl⟩ |⟨x,k,rfl,u⟩<;>rcases g with⟨rfl,rfl⟩ |⟨X,K,rfl,b⟩;{simp[Instr.sliceBounds]};{simp[Instr.sliceBounds,b,s _ _ _ _ m]};{simp[Instr.sliceBounds,u,s _ _ _ _ (eR p j)]};simp[Instr.sliceBounds,u,b,s _ _ _ _ (eR p j),s _ _ _ _ m]
theorem xk{a:Type}{l:List a}{o i:Nat}{x:a}(h:x∈sub l o i):x∈l:=gP (qp h)
theorem aU.narrow{n c:Nat}(h:aU m (.slice ad n cap) (.slice sz es))(H:n<=c):aU m (.slice ad n c) (.slice sz es):=by cases h with|jt a cap sz=>exact .jt _ _ _|sl b o cap sz es v d s e f r=>exact .sl b o c sz es v H s e f r
theorem NK(h:aU m (.slice ad (O es) cap) (.slice sz es)){a:Nat}(w:l<=a)(g:a<=O es): aU m (.slice (if cap=l then ad else ad.map (·.add (l*sz))) (a-l) (cap-l)) (.slice sz (sub es l a)):=by obtain⟨A,C,v,p,f⟩:=nc h;cases v;have n:O (sub es l a)=a-l:=sB _ _ _ g;by_cases H:sub es l a=[];{(have h0:a-l=0:=by rw[<-n,H];rfl);rw[H,h0];exact .jt _ _ _};(have NL:0<a-l:=by rw[<-n];exact r9.2 H);obtain⟨b,o,V,rfl,s,d,k,r⟩:=f (λe=>by subst e;simp at g;omega);rw[if_neg (by omega)];(have E:(Option.map (λx:Addr=>x.add (l*sz)) (Z ⟨b,o,Y⟩))=Z ⟨b,o+l*sz,Y⟩:=by simp[Addr.add_lit]);rw[E,<-n];refine .sl b (o+l*sz) _ sz _ (λi j=>V (l+i) j) (by omega) (λe H=>s e (xk H)) (λe H=>d e (xk H)) (λi j y t=>?_) (λi e j c H u=>?_);{have:=k (l+i) j (by omega) t;rw[<-this];congr 1;rw[eI];omega};rw[uA] at H;split at H;{exact r _ _ _ _ H u};cases H
theorem XM(I:Inv G γ H w)(E:bf γ env a.tmps){t:TypeId}(k:o.op= .slice t x lo hi Y)(m:P.underlying t=Z .string) (n:aN x=Z x') (f:mY lo=Z qI) (i:mY hi=Z iN) {d:D}  (g:aY G env H (.slice 0 x' qI iN)=Z (d,H')):cP P G γ H w a o d H':=by have r:=bZ E n;simp only[aY] at g;obtain⟨A,c,u⟩:=au.1 g;cases u;simp only[zE] at c;split at c;{rename_i s hs;obtain⟨⟨l,h⟩,j,rfl⟩:=au.1 c;rw[hs] at r;have b:=zU (P:=P) E f i j false (O s) (aS _) w;obtain⟨y,B,_⟩:=uB j;refine .same I (v:=.string ⟨(sub s l h).toArray⟩) ?_ (.p _ _ (.str _));(have e:(⟨s.toArray⟩:ByteArray).extract l h=⟨(sub s l h).toArray⟩:=by apply ByteArray.ext;rw[ByteArray.data_extract];apply wC;simp[sub,List.take_drop,Nat.add_sub_cancel' y]);(have z:(⟨s.toArray⟩:ByteArray).size=O s:=by simp[ByteArray.size]);rw[<-z] at b;simp[execOp,k,r.cn.sA,Instr.sliceAt,Instr.slice,run_underlying m,b,e]};cases c
theorem NM{i off b n c:Nat}{cap:Option Nat}{h:Nat}(g:γ.boxes[i]? =Z b)(j:n<=c)(H:∀k,cap=Z k->c=k)(m:l<=h)(o:h<=n): aG γ (.slice (if c=l then Z ⟨b,off,Y⟩ else(Z (⟨b,off,Y⟩:Addr)).map (·.add (l*sz))) (h-l) (c-l)) (zD i off cap sz l h):=by unfold zD;cases cap with|some k=>have a:=H k rfl;subst a;by_cases f:c<=l;{(have e:c=l:=by omega);(have E:h-l=0:=by omega);subst e;simp only[aS,if_true,E,wA];exact .eJ _ _};simp only[f,if_false];rw[if_neg (by omega)];simp only[eZ,Addr.add_lit];exact .aZ _ _ _ _ _ b _ g (by omega) (λk a=>by cases a;rfl)|none=>by_cases d:l=h;{subst d;simp only[if_true,wA];exact .p _ _ (.jt _ _ _)};simp only[d,if_false];rw[if_neg (by omega)];simp only[eZ,Addr.add_lit];exact .aZ _ _ _ _ _ b _ g (by omega) (λk a=>by cases a)
theorem XN(I:Inv G γ H w)(E:bf γ env a.tmps){t e:TypeId}{n:Nat}(T:o.op= .slice t x lo hi Y)(U:P.underlying t=Z (.slice e))(V:eL P e=Z (n+1)) (W:aN x=Z x') (s:mY lo=Z qI) (u:mY hi=Z iN) {d:D}  (S:aY G env H (.slice (n+1) x' qI iN)=Z (d,H')):cP P G γ H w a o d H':=by have f:=bZ E W;simp only[aY] at S;obtain⟨d',g,K⟩:=au.1 S;cases K;(have R:∀(B:Option Addr) (L C l h:Nat),a.eval x= .slice B L C->(Instr.sliceBounds true L C (lo.map a.eval) (hi.map a.eval) Y).run P w= .ok (l,h,C) w-> (execOp a.eval o).run P w= .ok (.value (.slice (if C=l then B else B.map (·.add (l*(n+1)))) (h-l) (C-l))) w:=by intro B L C l h z j;simp[execOp,T,z,Instr.sliceAt,Instr.slice,run_underlying U,j,jL V]);simp only[zE] at g;split at g;{rename_i hs;rw[hs] at f;obtain⟨⟨l,h⟩,j,rfl⟩:=au.1 g;obtain⟨F,A,_⟩:=uB j;(have X:l=0:=by omega);(have K:h=0:=by omega);subst X;subst K;have r:=R Y 0 0 0 0 f.cn.pS (zU E s u j true 0 (aS _) w);exact .same I (v:=.slice Y 0 0) (by simpa using r) (.p _ _ .aj)};{rename_i i off nn C gK hs;split at g;{rename_i bR;subst bR;rw[hs] at f;obtain⟨⟨l,h⟩,j,rfl⟩:=au.1 g;obtain⟨F,A,_⟩:=uB j;generalize z:a.eval x=v at f;cases f with|aZ _ _ _ _ _ b c y J m=>exact .same I (R _ _ _ l h z (zU E s u j true c J w)) (NM y J m F A)};cases g};{rename_i i e nn gK hs;split at g;{rename_i bR;subst bR;rw[hs] at f;obtain⟨⟨l,h⟩,j,rfl⟩:=au.1 g;obtain⟨F,A,_⟩:=uB j;generalize z:a.eval x=v at f;cases f with|af _ _ _ _ b c y J M N Q=>have r:=R _ _ _ l h z (zU E s u j true c J w);dsimp only;split;{rename_i HN;subst HN;refine .same I r ?_;(have e0:(if c=0 then Z ⟨b,0,Y⟩ else(Z (⟨b,0,Y⟩:Addr)).map (·.add (0*(n+1))))=Z ⟨b,0,Y⟩:=by split<;>simp[Addr.add_lit]);rw[e0];simp only[Nat.sub_zero];exact .af _ _ _ _ b c y (eR A J) M N Q};exact .same I r (NM y J (λk N=>by cases N) F A)};cases g};split at g;{rename_i gK es hel;split at g;{rename_i bR;subst bR;obtain⟨⟨l,h⟩,j,rfl⟩:=au.1 g;obtain⟨F,A,_⟩:=uB j;have q:=xh f hel;obtain⟨B,C,z,m,_⟩:=nc q;rw[z] at q;exact .same I (R B (O es) C l h z (zU E s u j true C m w)) (.p _ _ (NK q F A))};cases g};cases g
theorem XO(I:Inv G γ H w)(E:bf γ env a.tmps){t e:TypeId}{n:Nat}{hi mx:Operand}{A T:aE}(ho:o.op= .slice t x lo (Z hi) (Z mx))(ht:P.underlying t=Z (.slice e))(hn:eL P e=Z (n+1)) (hx:aN x=Z x') (N:mY lo=Z qI) (XP:aN hi=Z A) (hmx:aN mx=Z T) {d:D}  (he:aY G env H (.slice3 (n+1) x' qI A T)=Z (d,H')):cP P G γ H w a o d H':=by have g:=bZ E hx;simp only[aY] at he;obtain⟨d',j,hh⟩:=au.1 he;cases hh;unfold CP at j;split at j;{rename_i h m Dj HO;split at j;{rename_i XQ;subst XQ;obtain⟨kh,U⟩:=uz (bZ E XP) Dj;obtain⟨km,V⟩:=uz (bZ E hmx) HO;(have W:∀(k:IntKind) (i y:Nat) (c:BoundsCode),i<=y->(Instr.sliceBound (.int k (i:Int)) y c).run P w= .ok i w:=by intro k i y c hi;have:=run_sliceBound (P:=P) w k (i:Int) y c (by omega) (by omega);simpa using this);(have R:∀(B:Option Addr) (L C l f:Nat),a.eval x= .slice B L C->L<=C->jo L (qI.map (·.ev env)) (Z (A.ev env))=Z (l,f)-> (f=h/\l<=h/\h<=L)/\(execOp a.eval o).run P w= .ok (.value (.slice (if h=l then B else B.map (·.add (l*(n+1)))) (h-l) (h-l))) w:=by intro B L C l f F S z;obtain⟨J,K,h3,h4⟩:=uB z;have h4:D.jH (A.ev env)=Z f:=h4;rw[Dj] at h4;cases h4;(have HP:(lo=Y/\l=0)\/∃x k,lo=Z x/\a.eval x= .int k (l:Int):=by cases lo with|none=>cases N;exact .inl ⟨rfl,h3⟩|some x=>simp only[mY] at N;obtain⟨y,hy,rfl⟩:=au.1 N;obtain⟨k,hk⟩:=uz (bZ E hy) h3;exact .inr ⟨x,k,rfl,hk⟩);refine⟨⟨rfl,J,K⟩,?_⟩;rcases HP with⟨rfl,rfl⟩ |⟨x',k',rfl,xl⟩;{simp[execOp,ho,F,Instr.sliceAt,Instr.slice,Instr.sliceBounds,run_underlying ht,jL hn,U,V,W _ _ _ _ (eR K S),W _ _ _ _ (aS h)]};simp[execOp,ho,F,Instr.sliceAt,Instr.slice,Instr.sliceBounds,run_underlying ht,jL hn,U,V,xl,W _ _ _ _ (eR K S),W _ _ _ _ (aS h),W _ _ _ _ J]);(have X:∀(i s b nn c l f:Nat),γ.boxes[i]? =Z b->l<=h->aG γ (.slice (if h=l then Z ⟨b,s,Y⟩ else(Z (⟨b,s,Y⟩:Addr)).map (·.add (l*(n+1)))) (h-l) (h-l)) (if l=h then .eJ (n+1) else .aZ i (s+l*(n+1)) (h-l) (Z (h-l)) (n+1)):=by intro i s b nn c l f z hl;by_cases u:l=h;{subst u;simp only[if_true,wA];exact .eJ _ _};rw[if_neg u,if_neg (Ne.symm u)];simp only[eZ,Addr.add_lit];exact .aZ _ _ _ _ _ b _ z (aS _) (λk hk=>by cases hk;rfl));split at j;{rename_i hs;rw[hs] at g;obtain⟨⟨l,f⟩,z,rfl⟩:=au.1 j;obtain⟨⟨rfl,J,K⟩,r⟩:=R Y 0 0 l f g.cn.pS (aS _) z;(have hh:f=0:=by omega);(have hl:l=0:=by omega);subst hh;subst hl;exact .same I (v:=.slice Y 0 0) (by simpa using r) (.p _ _ .aj)};{rename_i i s nn C gK hs;split at j;{rename_i bR;subst bR;rw[hs] at g;obtain⟨⟨l,f⟩,z,rfl⟩:=au.1 j;generalize F:a.eval x=v at g;cases g with|aZ _ _ _ _ _ b c Q S M=>obtain⟨⟨rfl,J,K⟩,r⟩:=R _ _ _ l f F S z;exact .same I r (X i s b nn c l f Q J)};cases j};{rename_i i e nn gK hs;split at j;{rename_i bR;subst bR;rw[hs] at g;obtain⟨⟨l,f⟩,z,rfl⟩:=au.1 j;generalize F:a.eval x=v at g;cases g with|af _ _ _ _ b c Q S uC hk ju=>obtain⟨⟨rfl,J,K⟩,r⟩:=R _ _ _ l f F S z;have:=X i 0 b nn c l f Q J;simp only[dD] at this;exact .same I r this};cases j};split at j;{rename_i gK es hel;split at j;{rename_i bR;subst bR;obtain⟨⟨l,f⟩,z,rfl⟩:=au.1 j;have q:=xh g hel;obtain⟨B,C,F,M,_⟩:=nc q;rw[F] at q;obtain⟨⟨rfl,J,K⟩,r⟩:=R B (O es) C l f F M z;have lF:O (sub es l f)=f-l:=sB _ _ _ K;refine .same I r ?_;have pc:=NK q J K;(have :aU γ.mem (.slice (if f=l then B else B.map (·.add (l*(n+1)))) (f-l) (f-l)) (.slice (n+1) (sub es l f)):=by by_cases u:f=l;{rw[if_pos u];have :sub es l f=[]:=pE (by omega);rw[this,show f-l=0 by omega];exact .jt _ _ _};rw[if_neg u];rw[if_neg (show ¬C=l by omega)] at pc;exact pc.narrow (by omega));exact .eF _ _ _ _ lF.symm this};cases j};cases j};cases j};cases j
end
section
variable{fs:Array Field}{r:Bool}{γ:Gh}{tag:Nat}{x:PD}{t:TypeId}{v:Value}
variable{P:Program}{G:Nat->Option (List PD)}{H:Hp}{w:World}{env:Env}{a:Act}{o:Oper}
theorem uD:∀{ds:List D} {xs:List PD},D.gR ds=Z xs->O xs=O ds/\∀(i:Nat) x,xs[i]? =Z x->∃d,ds[i]? =Z d/\d.dW=Z x|[],xs,h=>by simp only[D.gR] at h;cases h;exact⟨rfl,λi x H=>by simp at H⟩|d::r,xs,h=>by simp only[D.gR] at h;split at h;{rename_i x H;obtain⟨s,y,rfl⟩:=au.1 h;obtain⟨b,c⟩:=uD y;refine⟨by simp[b],λi z a=>?_⟩;match i with| 0=>simp only[iY,cH] at a;subst a;exact⟨d,rfl,H⟩|i+1=>exact c i z (by simpa using a)};cases h
theorem zV{d:D}(h:d.dW=Z x)(H:d.one=true):x.one=true:=by cases d<;>simp only[D.dW] at h<;>first |(cases h;done) |(rename_i e;cases e<;>(cases h;rfl)) |(cases h;first |rfl |exact H) |(simp[D.one] at H;done) |(obtain⟨z,_,rfl⟩:=au.1 h;rfl)
theorem uE{d:D}(r:aG γ v d):∀{x:PD},d.dW=Z x->aU γ.mem v x:=by induction r with|p v x H=>intro y h;simp only[D.dW] at h;cases h;exact H|cw b n e S s E F k H=>intro y h;simp only[D.dW,cH] at h;subst h;(cases s with|nil=>subst k;exact .bW _ _ _|cons x s=>exact H)|eJ a S=>intro y h;simp only[D.dW] at h;cases h;exact .jt _ _ _|eF a n S s k H=>intro y h;simp only[D.dW] at h;cases h;exact H|dK t v d _ I=>intro y h;simp only[D.dW] at h;obtain⟨z,m,rfl⟩:=au.1 h;exact .iface t v z (I m)|aP v t e S s w r l c G u J K=>intro y h;simp only[D.dW] at h;cases h;exact u|agg C L B o M I=>intro y h;simp only[D.dW] at h;obtain⟨X,H,rfl⟩:=au.1 h;obtain⟨l,c⟩:=uD H;refine .agg C X (B.trans l.symm) (λx f=>?_) (λi x g=>?_);{obtain⟨i,g⟩:=c8 f;obtain⟨d,A,j⟩:=c i x g;exact zV j (o d (bK A))};obtain⟨d,A,j⟩:=c i x g;exact I i d A j|_=>intro y h;simp only[D.dW] at h;cases h
theorem bytes_beq(x y:List UInt8):((⟨x.toArray⟩:ByteArray)==⟨y.toArray⟩)=(x==y):=by have h:((⟨x.toArray⟩:ByteArray)==⟨y.toArray⟩)=(x.toArray==y.toArray):=rfl;rw[h,Bool.eq_iff_iff];simp
theorem XR(a:zP P t=Z tag){m:Mem}{u:Value}{y:PD}(b:aU m u x)(c:aU m v y)(h:PD.eqv tag x y=Z r)(d:Nat)(w:World):(Op.equalIn (d+1) t u v).run P w= .ok r w:=by unfold zP at a;split at a<;>cases a<;>rename_i H;{simp only[PD.eqv] at h;(split at h<;>first |(cases h;done) |skip);{cases h;rw[b.pR,c.pR];exact NG _ _ H _ _};{rename_i h0;cases h0};rename_i h0;cases h0};{simp only[PD.eqv] at h;(split at h<;>first |(cases h;done) |skip);{rename_i h0;cases h0};{split at h;{rename_i hk;subst hk;cases h;rw[b.iu,c.iu];exact XE _ _ H _ _ _};cases h};rename_i h0;cases h0};simp only[PD.eqv] at h;(split at h<;>first |(cases h;done) |skip);{rename_i h0;cases h0};{rename_i h0;cases h0};cases h;rw[b.sA,c.sA,XF _ _ H,bytes_beq]
theorem NN(h:zP P t=Z tag)(w:World):(isAgg t).run P w= .ok false w:=by unfold zP at h;split at h<;>cases h<;>rename_i y<;>simp[isAgg,run_underlying y]
def eqFields(d:Nat)(xs y:Array Value):List Field->Sem (Option Bool)
 |[]=>pure Y
 |f::r=>do
  if f.name≠ "_" then
   if !(<-Op.equalIn d f.type (<-part f.type xs f.offset) (<-part f.type y f.offset)) then return Z false
  eqFields d xs y r
theorem NO{m:Mem}{xs y:Array Value}{ps s:List PD}(x:∀i d,ps[i]? =Z d->aU m (xs.getD i undef) d)(k:∀i d,s[i]? =Z d->aU m (y.getD i undef) d) (L:xs.size=O ps) (o:y.size=O s) (c:Nat) (w:World):∀(F:List Field) (i:Nat) (ts:List Nat) (r:Bool),xd P i F=Z ts->oD ts (ps.drop i) (s.drop i)=Z r-> (eqFields (c+1) xs y F).run P w= .ok (if r then Y else Z false) w|[],i,ts,r,h,H=>by simp only[xd] at h;cases h;(have C:r=true:=by cases a:ps.drop i<;>cases b:s.drop i<;>rw[a,b] at H<;>simp[oD] at H;exact H);subst C;simp[eqFields]|f::F,i,ts,r,h,H=>by simp only[xd] at h;split at h;{rename_i tg HQ;split at h;{rename_i hc;obtain⟨t,j,rfl⟩:=au.1 h;(have n:f.name≠ "_" :=by simpa using hc.2);cases a:ps.drop i with|nil=>rw[a] at H;simp[oD] at H|cons p G=>cases b:s.drop i with|nil=>rw[a,b] at H;simp[oD] at H|cons q I=>rw[a,b] at H;(have E:ps[i]? =Z p:=by have:=congrArg (λl=>l[0]?) a;simpa using this);(have z:s[i]? =Z q:=by have:=congrArg (λl=>l[0]?) b;simpa using this);(have d1:ps.drop (i+1)=G:=by have:=congrArg (List.drop 1) a;simpa[zk] using this);(have d2:s.drop (i+1)=I:=by have:=congrArg (List.drop 1) b;simpa[zk] using this);simp only[oD] at H;split at H;{rename_i e g uF XS;cases H;(have J:i<xs.size:=by rw[L];exact(ak.1 E).1);(have K:i<y.size:=by rw[o];exact(ak.1 z).1);obtain⟨u,A,R⟩:∃u,(part f.type xs f.offset).run P w= .ok u w/\aU m u p:=⟨xs.getD i undef,by simp[part,NN HQ,hc.1,oz J,cg],x i p E⟩;obtain⟨v,B,M⟩:∃u,(part f.type y f.offset).run P w= .ok u w/\aU m u q:=⟨y.getD i undef,by simp[part,NN HQ,hc.1,oz K,cg],k i q z⟩;have Q:=XR HQ R M uF c w;cases e with|false=>simp[eqFields,n,A,B,Q]|true=>have N:=NO x k L o c w F (i+1) t g j (by rw[d1,d2];exact XS);simp[eqFields,n,A,B,Q,N]};cases H};cases h};cases h
theorem XT(a:P.underlying t=Z (.struct fs))(c:P.stoodInHeld t=false){xs y:Array Value}(n:Nat)(w:World) (h:(eqFields n xs y fs.toList).run P w= .ok (if r then Y else Z false) w):(Op.equalIn (n+1) t (.agg xs) (.agg y)).run P w= .ok r w:=by simp only[Op.equalIn,Sem.run_bind,run_underlying a,Result.andThen_ok,run_program,c,lh,if_false];rw[<-Array.forIn_toList];(have k:∀(l:List Field),(forIn l ((Y:Option Bool),()) λf __s=>if f.name≠ "_" then do let HR <-part f.type xs f.offset let XU <-part f.type y f.offset let HR <-Op.equalIn n f.type HR XU if(!HR)=true then pure (ForInStep.done (Z false,())) else pure (ForInStep.yield (Y,())) else pure (ForInStep.yield (Y,())):Sem (Option Bool×Unit))=(do let x <-eqFields n xs y l;pure (x,())):=by intro l;induction l with|nil=>simp[eqFields]|cons f l i=>rw[List.forIn_cons];simp only[eqFields];by_cases H:f.name= "_";{rw[if_neg (by simp[H]),if_neg (by simp[H])];simp only[pure_bind];exact i};rw[if_pos (by simp[H]),if_pos (by simp[H])];simp only[bind_assoc];congr 1;funext u;congr 1;funext v;congr 1;funext b;cases b;{simp};simp only[Bool.not_true,lh,if_false,pure_bind];exact i);rw[k];simp only[Sem.run_bind,h,Result.andThen_ok,Sem.run_pure];cases r<;>simp
theorem XV(I:Inv G γ H w)(E:bf γ env a.tmps){op:BinOp}{l:TypeId}{x y:Operand}{j k:aE}(m:o.op= .binOp op t x y l)(h:op= .eql\/op= .neq)(n:aN x=Z j)(z:aN y=Z k) (A:P.underlying t=Z (.struct fs)) (B:P.stoodInHeld t=false) (C:P.eqGuardType P.depth t=false) {ts:List Nat} (s:xd P 0 fs.toList=Z ts) {d:D} {H':Hp} (e:aY G env H (.eqs (op== .neq) ts j k)=Z (d,H')):cP P G γ H w a o d H':=by have b:=bZ E n;have c:=bZ E z;simp only[aY] at e;split at e;{rename_i p q e1 e2;obtain⟨r,F,J⟩:=au.1 e;cases J;rw[e1] at b;rw[e2] at c;obtain⟨X,f,L,_,R⟩:=b.cn.HL;obtain⟨Y,i,K,_,M⟩:=c.cn.HL;refine .same I (v:=.bool (if op== .neq then !r else r)) ?_ (.p _ _ (.bool _));(have g:(eqGuard op t x y (.agg X) (.agg Y)).run P w= .ok () w:=by unfold eqGuard;rcases h with rfl |rfl<;>simp[C]);(have q:(Op.equal t (.agg X) (.agg Y)).run P w= .ok r w:=by rw[XD];have:=NO (P:=P) R M L K 9998 w fs.toList 0 ts r s (by simpa using F);exact XT A B 9999 w this);have Q:=HM h (u:=.agg X) (v:=.agg Y) rfl q;simp[execOp,m,f,i,g,Q]};cases e
end
section
variable{parts:Array (Nat×Operand)}{us cs:Array Value}{γ:Gh}{H':Hp}{pl:List (Nat×Nat)}{qs:List (Nat×Nat×aE)}{ds:List D}{es:List PD}{m:Mem}{b off sz:Nat}{f:Nat->Value}{y j:aE}{x i:Operand}{z:PD}{t:TypeId}
variable{P:Program}{G:Nat->Option (List PD)}{H:Hp}{w:World}{env:Env}{a:Act}{o:Oper}
theorem XW(I:Inv G γ H w)(E:bf γ env a.tmps)(f:o.op= .index t x i)(g:P.underlying t=Z .string) (m:aN x=Z y) (u:aN i=Z j) {d:D}  (e:aY G env H (.index Y y j)=Z (d,H')):cP P G γ H w a o d H':=by have r:=bZ E m;simp only[aY] at e;split at e;{rename_i n hn;obtain⟨k,v⟩:=zR (bZ E u) hn;obtain⟨A,h,z⟩:=au.1 e;cases z;simp only[uj] at h;split at h;{rename_i s hs;split at h;{rename_i h0;obtain⟨c,b,rfl⟩:=au.1 h;rw[hs] at r;have l:=(ak.1 b).1;refine .same I ?_ (.p _ _ (.int _ _));simp[execOp,f,r.cn.sA,v,Instr.index,run_underlying g,asIntOf,h0,(by rw[getElem?_pos _ _ (by exact l),<-((ak.1 b).2)];rfl:(⟨s.toArray⟩:ByteArray)[n.toNat]? =Z c)]};cases h};cases h};cases e
theorem XX{e:TypeId}{s:Nat}{c:Option Nat}(H:eL P e=Z s)(h:jK P e=Z c):c=if c.isSome then Z s else Y:=by cases c with|none=>rfl|some n=>(have :n=s:=by unfold jK at h;grind);grind
theorem XY(I:Inv G γ H w)(E:bf γ env a.tmps){t e:TypeId}{len s:Nat}{c:Option Nat}{x i:Operand}{y j:aE}(ho:o.op= .index t x i)(ht:P.underlying t=some (.array len e))(hs:eL P e=some s)(hc:jK P e=some c)
    (hx:aN x=some y) (hi:aN i=some j) {d:D} {H':Hp} (he:aY G env H (.index (some (len,s,c.isSome)) y j)=some (d,H')):cP P G γ H w a o d H':=by
 simp only[aY] at he;split at he
 ·rename_i n hn;obtain⟨k,XZ⟩:=zR (bZ E hi) hn;obtain⟨d',hd,hh⟩:=au.1 he;cases hh;simp only[uj] at hd;split at hd
  ·rename_i hb;have key:∀ds,(y.ev env= .agg ds∨∃cs,y.ev env= .p (.agg cs)∧ds=cs.map .p)→cutAt ds (n.toNat*s) (if c.isSome=true then some s else none) id bY=some d→cP P G γ H w a o d H:=by
    intro ds X0 hcut;obtain⟨vs,hv,h1,h2⟩:=ND (bZ E hx) X0;rw[←(XX hs hc)] at hcut;obtain⟨v,q1,q2⟩:=NC hc h1 h2 hcut w;exact .same I (by simp[execOp,ho,hv,XZ,Instr.index,run_underlying ht,asIntOf,hb,jL hs,q1]) q2
   split at hd
   ·exact key _ (by grind) (xj hd)
   ·grind
   ·cases hd
  ·cases hd
 ·cases he
theorem Dk(g o:Nat)(t:TypeId)(fr:Nat×Nat):∀(vs:List Value) (i:Nat) (c:Array Value) (w:World),w.heap[g]? =Z (.cells c t fr)->clear fr (o+i) c.size->o+i+O vs<=c.size->(∀v∈vs,v.oneCell'=true)->
    (storeCells ⟨g,o,Y⟩ vs i).run P w= .ok () (w.setRow g (c.toList.take (o+i)++vs++c.toList.drop (o+i+O vs)).toArray)
 |[],i,c,w,H,_,_,_=>by
  simp only[storeCells,gu,dG,lU,tX,Array.toArray_toList];rw[setRow_self w g c t fr H];rfl
 |v::r,i,c,w,H,u,l,d=>by
  have e:o+i<c.size:=by simp at l;omega
  have a:(⟨g,o,Y⟩:Addr).add i=⟨g,o+i,Y⟩:=Addr.add_lit _ _ _;have h:w.cell? ⟨g,o+i,Y⟩=Z c[o+i]:=by simp[World.cell?,H,e]
  have f:w.frozen? ⟨g,o+i,Y⟩=false:=by
   have:=u (o+i) (aS _) e;simp only[World.frozen?,H];obtain⟨f1,f2⟩:=fr;simp only at this|-;cases j:(decide (f1<=o+i)&&decide (o+i<f2)) with
   |false=>rfl
   |true=>simp at j;exact(this j).elim
  have s:(store ((⟨g,o,Y⟩:Addr).add i) v).run P w= .ok () (w.setRow g (c.setIfInBounds (o+i) v)):=by
   rw[a,run_store P w _ v _ (d v (by simp)),h];simp[f,setCell_eq_setRow w g (o+i) c t fr v H]
  have I:=Dk g o t fr r (i+1) (c.setIfInBounds (o+i) v) (w.setRow g (c.setIfInBounds (o+i) v)) (setRow_heap w g c _ t _ H) (λk p b=>u k (by omega) (by simpa using b)) (by simp at l|-;omega) (λx m=>d x (by simp[m]));simp only[storeCells,Sem.run_bind,s,Result.andThen_ok,I,setRow_setRow];congr 3
  have:=list_seg_step c.toList (o+i) v r (by simp at l|-;omega);have E:o+(i+1)=o+i+1:=by omega
  have n:o+i+O (v::r)=o+i+(O r+1):=by simp
  rw[E,n];simpa[Array.toList_setIfInBounds] using this
theorem Dl{n:Option Nat}(H:jK P t=Z n)(h:∀j,j<n.getD 1->w.cell? ⟨b,off+j,Y⟩=Z (f j)): (loadVar t ⟨b,off,Y⟩).run P w= .ok (match n with |none=>f 0 |some k=>.agg ((dH k).map f).toArray) w:=by cases n with|none=>have a:=h 0 (by simp);simp only[lU] at a;simp[loadVar,Nz H,a]|some k=>obtain⟨Q,c⟩:=Ny H w;have q:=run_loadCells (P:=P) w ⟨b,off,Y⟩ k f (λj d=>by rw[Addr.add_lit];exact h j (by simpa using d));simp[loadVar,Q,c,q]
theorem NP{k:Nat}(b:off+k<=O ds)(h:∀j d,j<k->ds[off+j]? =Z d->aG γ (f j) d):cp γ ((dH k).map f).toArray (sub ds off (off+k)):=by refine⟨by rw[sB _ _ _ b];simp,λi d H=>?_⟩;rw[uA] at H;split at H;{rename_i dZ;(have a:i<k:=by omega);(have e:(((dH k).map f).toArray).getD i undef=f i:=by simp[cg,a]);rw[e];exact h i d a H};cases H
theorem HS(I:Inv G γ H w){n:Option Nat}(g:o.op= .load t x)(i:jK P t=Z n){base:Nat}(m:a.eval x= .pointer (Z ⟨b,base+off,Y⟩)) (c:∀j,j<O ds->w.cell? ⟨b,base+j,Y⟩=Z (f j)) (r:∀j d,ds[j]? =Z d->aG γ (f j) d) (p:∀d∈ds,d.one=true) {d:D} (h:cutAt ds off n id bY=Z d):cP P G γ H w a o d H:=by unfold cutAt at h;split at h;{obtain⟨d',fE,rfl⟩:=au.1 h;have l:=(ak.1 fE).1;have q:=Dl (P:=P) (w:=w) i (b:=b) (off:=base+off) (f:=λj=>f (off+j)) (λj e=>by (have :j=0:=by simpa using e);subst this;exact c off l);exact .same I (v:=f off) (by simp[execOp,g,m,Instr.loadAt,Instr.sureAddr,q]) (r off _ fE)};rename_i k;split at h;{rename_i hk;cases h;have q:=Dl (P:=P) (w:=w) i (b:=b) (off:=base+off) (f:=λj=>f (off+j)) (λj e=>by (have e:j<k:=by simpa using e);rw[oy];exact c (off+j) (by omega));refine .same I (v:=.agg ((dH k).map λj=>f (off+j)).toArray) (by simp[execOp,g,m,Instr.loadAt,Instr.sureAddr,q]) (zT (NP hk λj d e h=>r _ _ h) (λd h=>p d (xk h)))};cases h
theorem X1(I:Inv G γ H w)(E:bf γ env a.tmps){n:Option Nat}(u:o.op= .load t x)(A:jK P t=Z n)(L:aN x=Z y) {d:D}  (J:aY G env H (.load n y)=Z (d,H')):cP P G γ H w a o d H':=by have r:=bZ E L;simp only[aY] at J;obtain⟨R,h,M⟩:=au.1 J;cases M;unfold kL at h;split at h;{rename_i i off hp;split at h;{rename_i cs cQ;rw[hp] at r;split at h;{cases h};rename_i m;(have m:az cs=false:=by simpa using m);generalize e:a.eval x=v at r;cases r with|box _ _ b N=>obtain⟨s,T,S,Q,l,B,_⟩:=I.box i b cs N cQ;rw[gA m] at Q;have B:=B m;refine HS I u A (b:=b) (base:=0) (off:=off) (by rw[e,dD]) (ds:=cs) (f:=λj=>s.getD j undef) (λj c=>?_) l.2 B h;have C:j<s.size:=r8 c l.1;simp[World.cell?,Q,C,cg]};cases h};{rename_i cs off hp;rw[hp] at r;generalize e:a.eval x=v at r;cases r with|ro b base _ _ s m K=>refine HS I u A (b:=b) (base:=base) (off:=off) e (ds:=cs.map .p) (f:=s) (λj c=>I.mem _ _ _ (m j (by simpa using c))) (λj d h=>?_) (λd h=>?_) (xj h);{simp only[cC,au] at h;obtain⟨z,k,rfl⟩:=h;exact .p _ _ (K j z k).1};obtain⟨z,k,rfl⟩:=cv.1 h;obtain⟨j,c⟩:=c8 k;exact(K j z c).2};{rename_i g off hp;split at h;{rename_i cs cQ;rw[hp] at r;generalize e:a.eval x=v at r;cases r with|dJ _ _=>have F:=I.gU g cs cQ;refine HS I u A (b:=g) (base:=0) (off:=off) (by rw[e,dD]) (ds:=cs.map .p) (f:=λj=>(γ.mem g j).getD undef) (λj c=>?_) (λj d h=>?_) (λd h=>?_) (xj h);{(have c:j<O cs:=by simpa using c);obtain⟨_,v,Q,l⟩:=F j _ (aw c);rw[Q];simp only[dD,kG];exact I.mem _ _ _ Q};{simp only[cC,au] at h;obtain⟨z,k,rfl⟩:=h;obtain⟨_,v,Q,l⟩:=F j z k;rw[Q];exact .p _ _ l};obtain⟨z,k,rfl⟩:=cv.1 h;obtain⟨j,c⟩:=c8 k;exact(F j z c).1};cases h};cases h
theorem X2(I:Inv G γ H w)(E:bf γ env a.tmps){y:Operand}{X Y:aE}{n:Nat}(M:o.op= .store t x y)(N:eL P t=Z n)(U:aN x=Z X)(V:aN y=Z Y) {d:D}  (A:aY G env H (.store n X Y)=Z (d,H')):cP P G γ H w a o d H':=by have r:=bZ E U;have l:=bZ E V;simp only[aY] at A;obtain⟨H1,h,W⟩:=au.1 A;cases W;unfold um at h;split at h;{rename_i i off hp;split at h;{rename_i cs cQ;split at h;{rename_i hc;obtain⟨B,C,h1,f,m⟩:=hc;cases h;rw[hp] at r;generalize p:a.eval x=v at r;cases r with|box _ _ b F=>obtain⟨vs,T,fr,z,J,q3,Q⟩:=I.box i b cs F cQ;rw[gA B] at z;(have c:cs≠[]:=λe=>by subst e;simp at f;omega);have Q:=Q c;have q21:=J.1;obtain⟨R,K⟩:=l.cells h1;(have s:(a.eval y).cells.size=n:=by rw[R.1,C]);(have one:∀u∈(a.eval y).cells.toList,u.oneCell'=true:=by intro u hu;obtain⟨j,L⟩:=c8 hu;(have g:j<O (Y.ev env).cells:=by rw[<-R.1];simpa using (ak.1 L).1);have q:=R.2 j _ (aw g);(have e:(a.eval y).cells.getD j undef=u:=by (have :(a.eval y).cells[j]? =Z u:=by simpa using L);simp[cg,this]);rw[e] at q;exact q.Nq (K _ (br g)));have S:=Dk (P:=P) b off T fr (a.eval y).cells.toList 0 vs w z (λk _ hk=>Q k (bA _) hk) (by simp[s];omega) one;simp only[lU] at S;(have hl':O (Y.ev env).cells=O (a.eval y).cells.toList:=by rw[<-R.1];simp);obtain⟨s1,s2⟩:=I.store F cQ (us:=(a.eval y).cells.toList) (ds:=(Y.ev env).cells) (off:=off) (by simpa using R) K (by rw[C];exact f) z Q J B c;refine⟨undef,_,γ,.inr ⟨?_,rfl⟩,.refl γ,s1,s2,.undef⟩;(have e2:((a.eval y).cells.size≠n)=False:=by simp[s]);simp[execOp,M,p,Instr.storeAt,Instr.sureAddr,storeVar,jL N,s,S]};cases h};cases h};cases h
theorem X3(I:Inv G γ H w){e:TypeId}(f:o.op= .alloc e)(g:zeroOf P e=Z z){d:D}(h:aY G env H (.alloc z.cells)=Z (d,H')):cP P G γ H w a o d H':=by simp only[aY] at h;split at h;{rename_i h1;cases h;obtain⟨v,Q,j⟩:=uy g w;obtain⟨r,R⟩:=(qH γ.mem j).cells;obtain⟨b,A,k,a3,a4⟩:=I.Ns (vs:=v.cells) (cs:=z.cells.map .p) e (Df r λi d l=>(R i d l).1).zM (λc m=>by obtain⟨x,n,rfl⟩:=cv.1 m;exact fy.1 h1 x n);exact⟨.pointer (Z ⟨w.heap.size,0,Y⟩),_,b,.inl (by simp[execOp,f,Instr.alloc,Q,newVar,newRow]),A,a3,a4,.box _ _ _ k⟩};cases h
theorem X4(I:Inv G γ H w)(E:bf γ env a.tmps){e:TypeId}(c:o.op= .box e x)(f:aN x=Z y){d:D}(h:aY G env H (.box y)=Z (d,H')):cP P G γ H w a o d H':=by have r:=bZ E f;simp only[aY] at h;split at h;{rename_i h1;cases h;obtain⟨R,g⟩:=r.cells h1;obtain⟨b,A,i,a3,a4⟩:=I.Ns (vs:=(a.eval x).cells) (cs:=(y.ev env).cells) e R.zM g;exact⟨.pointer (Z ⟨w.heap.size,0,Y⟩),_,b,.inl (by simp[execOp,c,Instr.box,newVar,newRow]),A,a3,a4,.box _ _ _ i⟩};cases h
theorem HT(off:Nat):∀(us:List Value) (k:Nat) (c:Array Value),((us.zipIdx k).foldl (λcs (x:Value×Nat)=>cs.setIfInBounds (off+x.2) x.1) c).size=c.size/\ ∀i,((us.zipIdx k).foldl (λcs (x:Value×Nat)=>cs.setIfInBounds (off+x.2) x.1) c)[i]? = if off+k<=i/\i<off+k+O us then(if i<c.size then us[i-(off+k)]? else Y) else c[i]?|[],k,c=>⟨rfl,λi=>by simp;intro h H;omega⟩|u::us,k,c=>by simp only[List.zipIdx_cons,tY];obtain⟨h,H⟩:=HT off us (k+1) (c.setIfInBounds (off+k) u);refine⟨by rw[h];simp,λi=>?_⟩;rw[H];simp only[Array.size_setIfInBounds,cY];by_cases a:off+(k+1)<=i/\i<off+(k+1)+O us;{have hc:off+k<=i/\i<off+k+(O us+1):=⟨by omega,by omega⟩;(have :i-(off+k)=(i-(off+(k+1)))+1:=by omega);simp only[a,hc,and_self,if_true,this,r7]};rw[if_neg a,MU];by_cases b:off+k=i;{subst b;simp};(have hc:¬(off+k<=i/\i<off+k+(O us+1)):=by omega);rw[if_neg b,if_neg hc]
theorem X5{c:Array Value}(r:cp γ c ds){xs:List D}(q:cp γ us xs)(h:off+O xs<=O ds): cp γ (us.zipIdx.foldl (λcs (x:Value×Nat)=>cs.setIfInBounds (off+x.2) x.1) c) (aA ds off xs):=by (have e:us.zipIdx.foldl (λcs (x:Value×Nat)=>cs.setIfInBounds (off+x.2) x.1) c=(us.toList.zipIdx 0).foldl (λcs (x:Value×Nat)=>cs.setIfInBounds (off+x.2) x.1) c:=by rw[<-Wo];simp);rw[e];obtain⟨f,g⟩:=HT off us.toList 0 c;have u:us.size=O xs:=q.1;have l:c.size=O ds:=r.1;refine⟨by rw[f,HG _ _ _ h];exact r.1,λi d a=>?_⟩;rw[Nu _ _ _ h] at a;have H:=g i;simp only[lU,pF] at H;by_cases A:i<off;{rw[if_pos A] at a;rw[if_neg (by omega)] at H;have:=r.2 i d a;simpa[cg,H] using this};rw[if_neg A] at a;by_cases b:i<off+O xs;{rw[if_pos b] at a;rw[if_pos (by omega),if_pos (by omega)] at H;have:=q.2 (i-off) d a;simpa[cg,H] using this};rw[if_neg b] at a;rw[if_neg (by omega)] at H;have:=r.2 i d a;simpa[cg,H] using this
theorem Dm(E:bf γ env a.tmps){place:Nat->Option (Nat×Nat)}:∀(ps:List (Nat×Operand)) (s:List (Nat×Nat×aE)) (c:Array Value) (ds b:List D),partsOf P place ps=Z s-> cp γ c ds->(∀d∈ds,d.one=true)->aI ds (s.map λq=>(q.1,q.2.1,q.2.2.ev env))=Z b-> ∃C,Instr.fill place c (ps.map λp=>(p.1,a.eval p.2))=Z C/\cp γ C b/\∀d∈b,d.one=true|[],s,c,ds,b,H,r,e,h=>by simp only[partsOf] at H;cases H;simp only[eE,aI] at h;cases h;exact⟨c,rfl,r,e⟩|(i,x)::ps,s,c,ds,b,H,r,e,h=>by simp only[partsOf] at H;split at H;{rename_i off n y jc hy;obtain⟨Q,g,rfl⟩:=au.1 H;simp only[bQ,aI] at h;split at h;{rename_i hc;obtain⟨j,A,k⟩:=hc;have f:=bZ E hy;obtain⟨R,m⟩:=f.cells k;(have z:(a.eval x).cells.size=n:=by rw[R.1,j]);have o:c.size=O ds:=r.1;have l:=X5 r R (off:=off) (by omega);obtain⟨C,t,u,v⟩:=Dm E ps Q _ _ b g l (λd w=>by rcases Nv w with h |h;{exact e d h};exact m d h) h;refine⟨C,?_,u,v⟩;simp only[bQ,Instr.fill,jc,z];rw[if_neg (by simp;omega)];exact t};cases h};cases H
theorem X6{s:List Field}(h:Da P s=Z pl)(w:World):(s.mapM λf=>(do pure (f.offset,<-sizeOf f.type):Sem (Nat×Nat))).run P w= .ok pl w:=by unfold Da at h;induction s generalizing pl with|nil=>simp only[aF] at h;cases h;rfl|cons f s i=>simp only[aF] at h;split at h;{rename_i b hb;obtain⟨p,H,rfl⟩:=au.1 h;obtain⟨n,a,rfl⟩:=au.1 hb;have:=i H;simp[List.mapM_cons,jL a] at this|-;rw[this];simp};cases h
theorem NQ(I:Inv G γ H w){zs:List PD}(h:o.op= .build t parts)(b:zeroOf P t=Z (.agg zs)){place:Nat->Option (Nat×Nat)} (e:∀(z:Value) (c:Array Value),(zeroValue t).run P w= .ok z w->Instr.fill place z.cells (parts.toList.map λp=>(p.1,a.eval p.2))=Z c->(execOp a.eval o).run P w= .ok (.value (.agg c)) w) (f:∀(s:Array Value),cp γ s (zs.map .p)->∃c,Instr.fill place s (parts.toList.map λp=>(p.1,a.eval p.2))=Z c/\cp γ c ds/\∀d∈ds,d.one=true):cP P G γ H w a o (bY ds) H:=by have _:=h;obtain⟨z,Q,g⟩:=uy b w;obtain⟨r,R⟩:=(qH γ.mem g).cells;obtain⟨c,j,k,l⟩:=f z.cells (Df r λi d m=>(R i d m).1);exact .same I (v:=.agg c) (e z c Q j) (zT k l)
theorem Dn(parts:Array (Nat×Operand))(a:Operand->Value):(parts.map fun(x:Nat×Operand)=>(x.1,a x.2)).toList=parts.toList.map λp=>(p.1,a p.2):=by simp
theorem X7(I:Inv G γ H w)(E:bf γ env a.tmps){zs:List PD}{s:Array Field}(k:o.op= .build t parts)(l:P.underlying t=Z (.struct s)) (n:zeroOf P t=Z (.agg zs)) (h:Da P s.toList=Z pl) (r:partsOf P (pl[·]?) parts.toList=Z qs) {d:D}  (e:aY G env H (.build zs qs)=Z (d,H')):cP P G γ H w a o d H':=by simp only[aY] at e;split at e;{rename_i h1;obtain⟨u,b,v⟩:=au.1 e;cases v;refine NQ I k n (place:=(pl[·]?)) (λz C g y=>?_) (λc A=>?_);{have hm:=X6 h w;(have m:(s.mapM λf=>(do pure (f.offset,<-sizeOf f.type):Sem (Nat×Nat))).run P w= .ok pl.toArray w:=by rw[Array.mapM_eq_mapM_toList];simp only[Sem.run_map,hm,Result.andThen_ok]);(have B:∀i:Nat,pl.toArray[i]? =pl[i]?:=λi=>by simp);have j:(λi:Nat=>pl.toArray[i]?)=(λi=>pl[i]?):=funext B;have F:(parts.map fun(x:Nat×Operand)=>(x.1,a.eval x.2)).toList=parts.toList.map λp=>(p.1,a.eval p.2):=Dn parts a.eval;simp only[execOp,k,Instr.build,Sem.run_bind,g,Result.andThen_ok,run_underlying l,m,j,F,y,Sem.run_pure]};exact Dm E parts.toList qs c (zs.map .p) u r A (λd J=>by obtain⟨x,K,rfl⟩:=cv.1 J;exact fy.1 h1 x K) b};cases e
theorem X8(I:Inv G γ H w)(E:bf γ env a.tmps){e:TypeId}{len n:Nat}{zs:List PD}(f:o.op= .build t parts)(g:P.underlying t=Z (.array len e)) (j:zeroOf P t=Z (.agg zs)) (k:eL P e=Z n) (l:partsOf P (λi=>Z (i*n,n)) parts.toList=Z qs) {d:D}  (h:aY G env H (.build zs qs)=Z (d,H')):cP P G γ H w a o d H':=by simp only[aY] at h;split at h;{rename_i h1;obtain⟨m,s,r⟩:=au.1 h;cases r;refine NQ I f j (place:=λi=>Z (i*n,n)) (λz C b u=>?_) (λc v=>?_);{have hp:(parts.map fun(x:Nat×Operand)=>(x.1,a.eval x.2)).toList=parts.toList.map λp=>(p.1,a.eval p.2):=Dn parts a.eval;simp only[execOp,f,Instr.build,Sem.run_bind,b,Result.andThen_ok,run_underlying g,jL k,hp,u,Sem.run_pure]};exact Dm E parts.toList qs c (zs.map .p) m l v (λd y=>by obtain⟨x,A,rfl⟩:=cv.1 y;exact fy.1 h1 x A) s};cases h
def fF(m:Mem)(sz:Nat)(cs:Array Value)(es:List PD):Prop:=cs.size=O es*sz/\(∀e∈es,O e.cells=sz/\∀c∈e.cells,c.one=true)/\∀(i:Nat) e (j:Nat) c,es[i]? =Z e->e.cells[j]? =Z c->aU m (cs.getD (i*sz+j) undef) c
theorem fF.set{e:PD}{i:Nat}(r:fF m sz cs es)(g:i<O es)(u:us.size=sz)(n:O e.cells=sz)(p:∀c∈e.cells,c.one=true)
    (v:∀j c,e.cells[j]? =Z c->aU m (us.getD j undef) c):fF m sz (us.zipIdx.foldl (λcs (x:Value×Nat)=>cs.setIfInBounds (i*sz+x.2) x.1) cs) (es.set i e):=by
 have E:us.zipIdx.foldl (λcs (x:Value×Nat)=>cs.setIfInBounds (i*sz+x.2) x.1) cs=(us.toList.zipIdx 0).foldl (λcs (x:Value×Nat)=>cs.setIfInBounds (i*sz+x.2) x.1) cs:=by
  rw[<-Wo];simp
 rw[E];obtain⟨s,w⟩:=HT (i*sz) us.toList 0 cs;obtain⟨R,t,z⟩:=r;refine⟨by rw[s];simpa using R,λx A=>?_,λk x j c H d=>?_⟩
 .rcases MV A with h |rfl
  .exact t x h
  .exact⟨n,p⟩
 .have xm:=w (k*sz+j);simp only[lU,pF] at xm;have f:∀y:PD,y.cells[j]? =Z c->O y.cells=sz->j<sz:=λy B C=>by rw[<-C];exact(ak.1 B).1
  by_cases b:i=k
  .subst b;rw[fe g] at H;cases H;have f:=f e d n;have l:i*sz+j<cs.size:=by
    rw[R]
    calc i*sz+j<i*sz+sz:=by omega
     _=(i+1)*sz:=by rw[eI,lj]
     _<=O es*sz:=fW _ g
   rw[if_pos ⟨by omega,by omega⟩,if_pos l] at xm;have:=v j c d;have F:i*sz+j-i*sz=j:=by omega
   rw[F] at xm;simpa[cg,xm] using this
  .rw[bH b] at H;have f:=f x d (t x (bK H)).1;have o:¬(i*sz<=k*sz+j/\k*sz+j<i*sz+us.size):=by
    rw[u];intro G;have p:i<k+1:=by
     apply alH (a:=sz);rw[eI,lj];omega
    have s:k<i+1:=by
     apply alH (a:=sz);rw[eI,lj];omega
    omega
   rw[if_neg o] at xm;have:=z k x j c H d;simpa[cg,xm] using this
theorem NR(E:bf γ env a.tmps)(sz:Nat):∀(ps:List (Nat×Operand)) (Q:List (Nat×aE)) (s:Array Value) (es b:List PD),xf ps=Z Q->
    fF γ.mem sz s es->mR sz es (Q.map λq=>(q.1,q.2.ev env))=Z b->
    ∃C,Instr.fill (λi=>Z (i*sz,sz)) s (ps.map λp=>(p.1,a.eval p.2))=Z C/\fF γ.mem sz C b
 |[],Q,s,es,b,H,r,h=>by
  simp only[xf] at H;cases H;simp only[eE,mR] at h;cases h;exact⟨s,rfl,r⟩
 |(i,x)::ps,Q,s,es,b,H,r,h=>by
  simp only[xf] at H;split at H
  .rename_i y hy;obtain⟨f,o,rfl⟩:=au.1 H;simp only[bQ,mR] at h;split at h
   .rename_i z hz;split at h
    .rename_i g;obtain⟨m,u,n⟩:=g;have k:=uE (bZ E hy) hz;obtain⟨R,v⟩:=k.cells;have d:(a.eval x).cells.size=sz:=by rw[R,m]
     have t:i*sz+sz<=s.size:=by
      rw[r.1]
      calc i*sz+sz=(i+1)*sz:=by rw[eI,lj]
       _<=O es*sz:=fW _ n
     have l:=r.set (us:=(a.eval x).cells) (e:=z) n d m (fy.1 u) (λj c g=>(v j c g).1);obtain⟨C,w,A⟩:=NR E sz ps f _ _ b o l h;refine⟨C,?_,A⟩;simp only[bQ,Instr.fill,d];rw[if_neg (by simp;omega)];exact w
    .cases h
   .cases h
  .cases H
theorem fF.slice(r:fF m sz cs es){cap:Nat}(c:O es<=cap)(H:∀o,o<O es*sz->m b o=cs[o]?):aU m (.slice (Z ⟨b,0,Y⟩) (O es) cap) (.slice sz es):=by
 obtain⟨a,R,d⟩:=r;refine .sl b 0 cap sz es (λi j=>cs.getD (i*sz+j) undef) c (λe h=>(R e h).1) (λe h=>(R e h).2) (λi j f g=>?_) d;have l:i*sz+j<O es*sz:=by
  calc i*sz+j<i*sz+sz:=by omega
   _=(i+1)*sz:=by rw[eI,lj]
   _<=O es*sz:=fW _ f
 rw[dD,H _ l];have :i*sz+j<cs.size:=by rw[a];exact l
 simp[this,cg]
theorem fF.mono{M:Mem}(h:Mem.le m M)(r:fF m sz cs es):fF M sz cs es:=⟨r.1,r.2.1,λi e j c H a=>(r.2.2 i e j c H a).mono h⟩
theorem HU{v:Value}(g:aU m v z){len:Nat}(H:O z.cells=sz)(k:∀c∈z.cells,c.one=true):fF m sz ((G8 (len*sz)).map λi=>v.cells[i%v.cells.size]!) (cZ len z):=by
 obtain⟨r,R⟩:=g.cells;refine⟨by simp,λe a=>?_,λi e j c a d=>?_⟩
 .obtain⟨_,rfl⟩:=Wp.1 a;exact⟨H,k⟩
 .have X9:=Wp.1 (bK a);obtain⟨_,rfl⟩:=X9;have n:i<len:=by have:=(ak.1 a).1;simpa using this
  have f:j<sz:=by rw[<-H];exact(ak.1 d).1
  have l:i*sz+j<len*sz:=by
   calc i*sz+j<i*sz+sz:=by omega
    _=(i+1)*sz:=by rw[eI,lj]
    _<=len*sz:=fW _ n
  have h:(i*sz+j)%v.cells.size=j:=by
   rw[r,H,wD,alI,alJ f]
  have b:j<v.cells.size:=by rw[r,H];exact f
  have:=(R j c d).1;have e:((G8 (len*sz)).map λi=>v.cells[i%v.cells.size]!).getD (i*sz+j) undef=v.cells.getD j undef:=by
   simp[cg,l,h,b]
  rw[e];exact this
theorem Ya(I:Inv G γ H w)(E:bf γ env a.tmps){e:TypeId}{len n:Nat}{Q:List (Nat×aE)}(L:o.op= .buildSlice t len parts)(M:P.underlying t=Z (.slice e)) (N:eL P e=Z n) (R:zeroOf P e=Z z) (S:xf parts.toList=Z Q) (r:len*n<=16777216/\0<n) {d:D}  (k:aY G env H (.bslice e n len z Q)=Z (d,H')):cP P G γ H w a o d H':=by simp only[aY] at k;split at k;{rename_i h1;obtain⟨s,u,T⟩:=au.1 k;cases T;obtain⟨v,U,V⟩:=uy R w;have W:=qH γ.mem V;have X:(parts.map fun(x:Nat×Operand)=>(x.1,a.eval x.2)).toList=parts.toList.map λp=>(p.1,a.eval p.2):=Dn parts a.eval;(have zr:fF γ.mem n ((G8 (len*n)).map λi=>(if len*n=0 then #[] else v.cells)[i%(if len*n=0 then(#[]:Array Value) else v.cells).size]!) (cZ len z):=by by_cases m:len*n=0;{(have :len=0:=by rcases Nat.mul_eq_zero.1 m with h |h;{exact h};omega);subst this;refine⟨by simp,λe k=>by simp at k,λi e j c k _=>by simp at k⟩};simp only[m,if_false];exact HU W h1.1 (fy.1 h1.2));obtain⟨C,F,J⟩:=NR E n parts.toList Q _ _ s S zr u;(have f:O s=len:=by have bR:=J.1;(have :∀(l:List (Nat×D)) (s g:List PD),mR n s l=Z g->O g=O s:=by intro l;induction l with|nil=>intro s g h;simp only[mR] at h;cases h;rfl|cons x l ih=>intro s g h;obtain⟨i,y⟩:=x;simp only[mR] at h;split at h;{split at h;{rw[ih _ _ h];simp};cases h};cases h);rw[this _ _ _ u];simp);obtain⟨K,a2,a3⟩:=I.newRow C e (0,0) ⟨bA _,aS _⟩;(have A:(execOp a.eval o).run P w= .ok (.value (.slice (Z ⟨w.heap.size,0,Y⟩) len len)) (w.alloc (.cells C e)):=by (have e1:¬(len*n>2 ^ 24):=by have:=r.1;omega);simp only[execOp,L,Instr.buildSlice,Sem.run_bind,Result.andThen_ok,run_underlying M,jL N,e1,if_false,X];by_cases m:len*n=0;{have hr:G8 0= #[]:=rfl;simp only[m,if_true,hr,Array.map_empty] at F;simp[m,hr,F,newRow]};simp only[m,if_false] at F;simp[m,U,F,newRow]);refine⟨_,_,_,.inl A,K,a2,a3,?_⟩;have:=(J.mono K.mem).slice (b:=w.heap.size) (cap:=O s) (aS _) (λo _=>by simp[Gh.dW]);rw[f] at this;refine .cw _ _ _ _ _ I.size ?_ f.symm this;have B:=J.1;rw[f] at B;simp[Gh.dW,B]};cases k
end
section
variable{P:Program}{G:Nat->Option (List PD)}{γ:Gh}{H:Hp}{w:World}{env:Env}{a:Act}{o:Oper}
structure Src (P:Program) (m:Mem) (w:World) (sz:Nat) (x:Value) (xs:List PD) (news:Array Value):Prop where
 len:∀w',(Builtin.lenOf x).run P w'= .ok (O xs) w'
 cells:∀w',(∀ad,w'.cell? ad=w.cell? ad)->(Builtin.firstCells sz (O xs) x).run P w'= .ok news w'
 gB:fF m sz news xs
variable{es xs:List PD}{m:Mem}{sz i off b:Nat}{v:Value}
theorem fF.one{cs:Array Value}(r:fF m sz cs es)(s:0<sz):∀v∈cs.toList,v.oneCell'=true:=by
 intro v H;obtain⟨k,a⟩:=c8 H;have h:cs[k]? =Z v:=by simpa using a
 have l:k<cs.size:=(gp.1 h).1;obtain⟨R,b,d⟩:=r;have i:k/sz<O es:=by rw[alK s,<-R];exact l
 have e:=aw i;obtain⟨E,f⟩:=b _ (br i);have j:k%sz<O (es[k/sz]).cells:=by rw[E];exact Nat.mod_lt _ s
 have c:=aw j;have q:=d _ _ _ _ e c;have g:k/sz*sz+k%sz=k:=by rw[pG];exact alL k sz
 rw[g] at q;have :cs.getD k undef=v:=by simp[cg,h]
 rw[this] at q;exact q.one (f _ (bK c))
theorem HV(I:Inv G γ H w)(s:0<sz)(h:aU γ.mem v (.slice sz es)):∃news,Src P γ.mem w sz v es news:=by
 obtain⟨A,C,rfl,p,n⟩:=nc h;by_cases o:es=[]
 .subst o;refine⟨#[],⟨λW=>by simp[Builtin.lenOf],λW _=>?_,by simp,λe a=>by simp at a,λi e j c a=>by simp at a⟩⟩;cases A<;>simp[Builtin.firstCells,loadCells,loadCellsFrom]
 .obtain⟨b,off,vs,rfl,bR,qD,hm,hr⟩:=n o;refine⟨((dH (O es*sz)).map λk=>vs (k/sz) (k%sz)).toArray,⟨λW=>by simp[Builtin.lenOf],λW f=>?_,?_⟩⟩
  .refine run_firstCells_some (P:=P) W sz (O es) _ _ _ _ (by simp) (λj v d=>?_);have l:j<O es*sz:=by have:=(ak.1 d).1;simpa using this
   have t:vs (j/sz) (j%sz)=v:=by simpa[l] using d
   rw[Addr.add_lit,f,<-t];have g:j/sz<O es:=by rw[alK s];exact l
   have:=I.mem _ _ _ (hm (j/sz) (j%sz) g (Nat.mod_lt _ s));have E:off+j/sz*sz+j%sz=off+j:=by rw[oy];congr 1;rw[pG];exact alL j sz
   rw[E] at this;exact this
  .refine⟨by simp,λe a=>⟨bR e a,qD e a⟩,λi e j c a r=>?_⟩;have g:i<O es:=(ak.1 a).1;have d:j<sz:=by rw[<-bR e (bK a)];exact(ak.1 r).1
   have l:i*sz+j<O es*sz:=by
    calc i*sz+j<i*sz+sz:=by omega
     _=(i+1)*sz:=by rw[eI,lj]
     _<=O es*sz:=fW _ g
   have u:(i*sz+j)/sz=i:=by rw[pG,Nat.mul_add_div s,Nat.div_eq_of_lt d,lU]
   have m:(i*sz+j)%sz=j:=by rw[wD,alI,alJ d]
   have x:(((dH (O es*sz)).map λk=>vs (k/sz) (k%sz)).toArray).getD (i*sz+j) undef=vs i j:=by
    simp[cg,l,u,m]
   rw[x];exact hr i _ _ c a r
theorem NS(I:Inv G γ H w)(g:0<sz){d:D}(r:aG γ v d)(h:dA sz d=Z xs): (∃news,Src P γ.mem w sz v xs news)/\((∃s,v= .string s)\/∃ad n c,v= .slice ad n c):=by unfold dA at h;split at h;{rename_i s;split at h;{rename_i h1;subst h1;cases h;rw[r.cn.sA];refine⟨⟨(s.map λb=>Value.int .u8 b.toNat).toArray,⟨λW=>?_,λW _=>?_,by simp,λe a=>?_,λi e j c a f=>?_⟩⟩,.inl ⟨_,rfl⟩⟩;{simp[Builtin.lenOf,ByteArray.size]};{(have e:(⟨s.toArray⟩:ByteArray).extract 0 (O (tW (λb:UInt8=>PD.int IntKind.u8 (b.toNat:Int)) s))=⟨s.toArray⟩:=by apply ByteArray.ext;rw[ByteArray.data_extract];simp);simp only[Builtin.firstCells,e];simp};{obtain⟨b,_,rfl⟩:=cv.1 a;exact⟨rfl,λc f=>by simp[PD.cells] at f;subst f;rfl⟩};simp only[cC,au] at a;obtain⟨b,k,rfl⟩:=a;match j with| 0=>simp only[PD.cells,iY,cH] at f;subst f;(have :((s.map λb=>Value.int .u8 b.toNat).toArray).getD (i*1+0) undef= .int .u8 b.toNat:=by simp[cg,k]);rw[this];exact .int _ _|j+1=>simp[PD.cells] at f};cases h};{cases h;have h:=r.cn.pS;subst h;refine⟨⟨#[],⟨λW=>by simp[Builtin.lenOf],λW _=>by simp[Builtin.firstCells],by simp,λe a=>by simp at a,λi e j c a=>by simp at a⟩⟩,.inr ⟨_,_,_,rfl⟩⟩};split at h;{rename_i gK es hel;split at h;{rename_i bR;subst bR;cases h;have q:=xh r hel;refine⟨HV I g q,.inr ?_⟩;obtain⟨ad,p,l,_⟩:=nc q;exact⟨_,_,_,l⟩};cases h};cases h
theorem Dp{sz:Nat}(s:0<sz):∀(n:Nat) (ps:List PD),O ps=n*sz->(∀p∈ps,p.one=true)->O (chunks sz n ps)=n/\∀(i:Nat) e,(chunks sz n ps)[i]? =Z e->e.cells=(ps.drop (i*sz)).take sz
 | 0,ps,_,_=>⟨rfl,λi e h=>by simp[chunks] at h⟩
 |n+1,ps,a,b=>by
  have l:O (ps.drop sz)=n*sz:=by
   rw[qq,a,eI,lj];omega
  obtain⟨Q,d⟩:=Dp s n (ps.drop sz) l (λp f=>b p (qp f));have g:sz<=O ps:=by rw[a,eI,lj];omega
  refine⟨by simp only[chunks,cY,Q],λi e H=>?_⟩;cases i with
  |zero=>
   simp only[chunks,iY,cH] at H;subst H;rw[Wq,pH];split
   .rename_i c r;have j:=b c (by simp);have :c.cells=[c]:=by cases c<;>first |rfl |cases j
    rw[this];rfl
   .rfl
  |succ i=>
   simp only[chunks,r7] at H;rw[d i e H,zk];congr 2
   rw[eI,lj,wD]
theorem Yb:∀{ds:List D} {ps:List PD},D.gR ds=Z ps->(∀d∈ds,d.one=true)->∀p∈ps,p.one=true:=by intro ds ps h H p a;obtain⟨k,b⟩:=c8 a;obtain⟨_,c⟩:=uD h;obtain⟨d,A,e⟩:=c k p b;exact zV e (H d (bK A))
theorem Yc(I:Inv G γ H w){n:Nat}(K:0<sz)(L:γ.boxes[i]? =Z b)(h:zF H i off n sz=Z xs):
    O xs=n/\∃news:Array Value,fF γ.mem sz news xs/\∀j v,news[j]? =Z v->w.cell? ⟨b,off+j,Y⟩=Z v:=by
 unfold zF at h;split at h
 .rename_i cs cQ;split at h
  .rename_i f;obtain⟨A,f⟩:=f;obtain⟨P,p,rfl⟩:=au.1 h;obtain⟨s,T,fr,B,E,Q,_⟩:=I.box i b cs L cQ;rw[gA A] at B;have Q:=Q A;have t:O (sub cs off (off+n*sz))=n*sz:=by rw[sB _ _ _ f];omega
   obtain⟨M,N⟩:=uD p;have u:O P=n*sz:=M.trans t;have o:=Yb p (λd R=>Q d (xk R));obtain⟨C,F⟩:=Dp K n P u o;refine⟨C,((dH (n*sz)).map λk=>s.getD (off+k) undef).toArray,⟨by simp[C],λe S=>?_,λk e j c m a=>?_⟩,λj v x=>?_⟩
   .obtain⟨k,m⟩:=c8 S;have g:k<n:=by rw[<-C];exact(ak.1 m).1
    have a:=F k e m;have U:k*sz+sz<=n*sz:=by
     calc k*sz+sz=(k+1)*sz:=by rw[eI,lj]
      _<=n*sz:=fW _ g
    refine⟨by rw[a];simp;omega,λc r=>?_⟩;rw[a] at r;exact o c (qp (gP r))
   .have g:k<n:=by rw[<-C];exact(ak.1 m).1
    have y:=F k e m;rw[y,jF] at a;split at a
    .rename_i x;rw[lT] at a;have l:k*sz+j<n*sz:=by
      calc k*sz+j<k*sz+sz:=by omega
       _=(k+1)*sz:=by rw[eI,lj]
       _<=n*sz:=fW _ g
     obtain⟨d,J,V⟩:=N (k*sz+j) c a;rw[uA,if_pos (by omega)] at J;have W:=E.2 _ d J;have X:(((dH (n*sz)).map λk=>s.getD (off+k) undef).toArray).getD (k*sz+j) undef=s.getD (off+(k*sz+j)) undef:=by
      simp[cg,l]
     rw[X];exact uE W V
    .cases a
   .have l:j<n*sz:=by have:=(gp.1 x).1;simpa using this
    have hv:s.getD (off+j) undef=v:=by simpa[l] using x
    have z:off+j<s.size:=by have:=E.1;omega
    rw[<-hv];simp[World.cell?,B,z,cg]
  .cases h
 .cases h
theorem NT(I:Inv G γ H w){n c:Nat}(s:0<sz)(e:γ.boxes[i]? =Z b)(h:zF H i off n sz=Z xs):∃news,Src P γ.mem w sz (.slice (Z ⟨b,off,Y⟩) n c) xs news:=by obtain⟨l,news,d,f⟩:=Yc I s e h;refine⟨news,⟨λW=>by simp[Builtin.lenOf,l],λW a=>?_,d⟩⟩;refine run_firstCells_some (P:=P) W sz (O xs) _ _ _ _ (by simpa using d.1) (λj v g=>?_);rw[Addr.add_lit,a];exact f j v (by simpa using g)
theorem Yd(I:Inv G γ H w)(a:0<sz){d:D}(r:aG γ v d)(h:uk H sz d=Z xs): (∃news,Src P γ.mem w sz v xs news)/\((∃s,v= .string s)\/∃ad n c,v= .slice ad n c):=by unfold uk at h;split at h;{rename_i i off n cap gK;split at h;{rename_i bR;subst bR;cases r with|aZ _ _ _ _ _ b c f g p=>exact⟨NT I a f h,.inr ⟨_,_,_,rfl⟩⟩};cases h};{rename_i i e n gK;split at h;{rename_i bR;subst bR;cases r with|af _ _ _ _ b c f g m t=>exact⟨NT I a f h,.inr ⟨_,_,_,rfl⟩⟩};cases h};exact NS I a r h
section
variable{t u ty e:TypeId}{i:TypeInfo}{z:Value}{du:TypeDesc}(ht:P.underlying t = Z (.slice e))(hu:P.underlying u = Z du)(gL:(∃ e', du = .slice e') \/ du = .string)(hi:P.info? e = Z i)(hz:i.zero = Z z)
 {x:Value}  {news:Array Value}  (S:Src P m w i.size x xs news)
include ht hu gL hi S
theorem NU(h:xs=[])(base:Option Addr)(n cap:Nat)(H:n<=cap):(Builtin.append_ #[t,u] ty #[.slice base n cap,x]).run P w= .ok (.slice base n cap) w:=by
 subst h;have a:news= #[]:=by have:=S.gB.1;simpa using this
 subst a;have l:=S.len w;have c:=S.cells w (λ_=>rfl);simp only[dG] at l c;rcases gL with⟨e,rfl⟩ |rfl<;>cases base<;>simp[Builtin.append_,run_underlying ht,run_underlying hu,sizeOf,typeInfo,hi,l,H,c,storeCells]
theorem Ye(g n cap:Nat)(c:Array Value)(fr:Nat×Nat)(a:w.heap[g]? =Z (.cells c e fr))(h:clear fr (n*i.size) c.size)(r:n+O xs<=cap)(f:n*i.size+news.size<=c.size)(b:0<i.size): (Builtin.append_ #[t,u] ty #[.slice (Z ⟨g,0,Y⟩) n cap,x]).run P w= .ok (.slice (Z ⟨g,0,Y⟩) (n+O xs) cap) (w.setRow g (c.toList.take (n*i.size)++news.toList++c.toList.drop (n*i.size+news.size)).toArray):=by have l:=S.len w;have H:=S.cells w (λ_=>rfl);have s:=Dk (P:=P) g (n*i.size) e fr news.toList 0 c w a (by simpa using h) (by simpa using f) (S.gB.one b);simp only[lU,pF] at s;rcases gL with⟨E,rfl⟩ |rfl<;>simp[Builtin.append_,run_underlying ht,run_underlying hu,sizeOf,typeInfo,hi,l,r,H,Addr.add_lit,s]
include hz
theorem Yf(base:Option Addr)(n cap:Nat)(o:Array Value)(h:∀w',(∀ad,w'.cell? ad=w.cell? ad)->(Builtin.firstCells i.size n (.slice base n cap)).run P w'= .ok o w') (b:cap<n+O xs) (d:((n+O xs:Nat):Int)<=9223372036854775807) (f:(n+O xs)*i.bytes<=140737488355328): (Builtin.append_ #[t,u] ty #[.slice base n cap,x]).run P w= .ok (.slice (Z ⟨w.heap.size,0,Y⟩) (n+O xs) (grownCap w (n+O xs) cap e)) (w.drew.alloc (.cells (o++news++Builtin.zeroCells z.cells (grownCap w (n+O xs) cap e-(n+O xs))) e)):=by
 have l:=S.len w;have c:=S.cells w.drew (λ_=>rfl);have s:=h w.drew (λ_=>rfl);have g:¬(n+O xs<=cap):=by omega
 have H:¬(9223372036854775807<((n:Int)+(O xs:Int))):=by omega
 have a:¬(281474976710656<Builtin.nextslicecap (n+O xs) cap*i.bytes):=by have:=growslice_fits b f;omega
 rcases gL with⟨E,rfl⟩ |rfl<;>simp[Builtin.append_,run_underlying ht,run_underlying hu,sizeOf,typeInfo,zeroValue,hi,hz,l,g,H,a,Question.forced,s,c,newRow,grownCap]
end
end
section
variable{P:Program}{G:Nat->Option (List PD)}{γ:Gh}{H:Hp}{w:World}{env:Env}{a:Act}{o:Oper}
variable{es:List PD}{m:Mem}{sz:Nat}{du:TypeDesc}{t u:TypeId}{i:TypeInfo}{z:Value}
theorem fF.append{C a:Array Value}{E f:List PD}(r:fF m sz C E)(q:fF m sz a f):fF m sz (C++a) (E++f):=by
 obtain⟨R,k,n⟩:=r;obtain⟨Q,o,p⟩:=q;refine⟨by simp[R,Q,eI],λe H=>?_,λi e j c H b=>?_⟩
 .rcases cu.1 H with h |h
  .exact k e h
  .exact o e h
 .by_cases hi:i<O E
  .rw[bF hi] at H;have t:j<sz:=by rw[<-(k e (bK H)).1];exact(ak.1 b).1
   have l:i*sz+j<C.size:=by
    rw[R]
    calc i*sz+j<i*sz+sz:=by omega
     _=(i+1)*sz:=by rw[eI,lj]
     _<=O E*sz:=fW _ hi
   have:=n i e j c H b;have d:(C++a).getD (i*sz+j) undef=C.getD (i*sz+j) undef:=by
    simp[cg,zp,l]
   rw[d];exact this
  .rw[dO (by omega)] at H;have g:C.size<=i*sz+j:=by
    rw[R]
    calc O E*sz<=i*sz:=fW _ (by omega)
     _<=i*sz+j:=by omega
   have:=p _ e j c H b;have s:i*sz+j-C.size=(i-O E)*sz+j:=by
    rw[R,Nat.sub_mul];have :O E*sz<=i*sz:=fW _ (by omega);omega
   have d:(C++a).getD (i*sz+j) undef=a.getD ((i-O E)*sz+j) undef:=by
    simp only[cg];rw[Array.getElem?_append_right g,s]
   rw[d];exact this
theorem Yg{b cap:Nat}(h:aU m (.slice (Z ⟨b,0,Y⟩) (O es) cap) (.slice sz es)){pre:Array Value}(p:pre.size=O es*sz)(g:∀o v,o<O es*sz->m b o=Z v->pre[o]? =Z v):fF m sz pre es:=by
 obtain⟨A,C,k,_,n⟩:=nc h;cases k;refine⟨p,λe H=>?_,λi e j c H d=>?_⟩
 .obtain⟨b',o',vs,hb,h1,h2,_⟩:=n (λE=>by subst E;simp at H);exact⟨h1 e H,h2 e H⟩
 .obtain⟨b',o',vs,hb,h1,h2,h3,h4⟩:=n (λE=>by subst E;simp at H);cases hb;have f:i<O es:=(ak.1 H).1;have r:j<sz:=by rw[<-h1 e (bK H)];exact(ak.1 d).1
  have l:i*sz+j<O es*sz:=by
   calc i*sz+j<i*sz+sz:=by omega
    _=(i+1)*sz:=by rw[eI,lj]
    _<=O es*sz:=fW _ f
  have a:=g _ _ l (by have:=h3 i j f r;rwa [dD] at this);have s:pre.getD (i*sz+j) undef=vs i j:=by simp[cg,a]
  rw[s];exact h4 i e j c H d
section
variable{ty e:TypeId}(ht:P.underlying t = Z (.slice e))(hu:P.underlying u = Z du)(gL:(∃ e', du = .slice e') \/ du = .string)(hi:P.info? e = Z i)(hz:i.zero = Z z)
 (Dq:z.cells.size=i.size) (hs:0<i.size) {x:Value} {xs:List PD} {news:Array Value} (S:Src P γ.mem w i.size x xs news)
include ht hu gL hi hz Dq hs S
theorem HW(I:Inv G γ H w){tk:Nat}{row:Row}{r:Option (Nat×Nat)}(h1:γ.rows[tk]? =Z row)(h2:H.tk[tk]? =Z (O es))(he:row.e=e)(bR:row.sz=i.size)(hr:row.st (O es)=Z r)
    (hv:aU γ.mem (sx r (O es)) (.slice i.size es)) (HX:roomy (O es+O xs) i.bytes=true):
    ∃v' w' γ',(Builtin.append_ #[t,u] ty #[sx r (O es),x]).run P w= .ok v' w'/\γ.le γ'/\Frame γ H w γ' {H with tk:=H.tk.set tk (O es+O xs)} w'/\
     Inv G γ' {H with tk:=H.tk.set tk (O es+O xs)} w'/\aG γ' v' (.aP tk e i.size (es++xs)):=by
 obtain⟨r',NV,iv⟩:=I.row tk row (O es) h1 h2;rw[hr] at NV;cases NV;have HY:O es+O xs<=140737488355328/\(O es+O xs)*i.bytes<=140737488355328:=by simpa[roomy] using HX
 by_cases h0:xs=[]
 .
  have HZ:H.tk.set tk (O es+O xs)=H.tk:=by
   subst h0;apply j2;intro k;by_cases hk:tk=k
   .subst hk;have dZ:=(ak.1 h2).1;rw[fe dZ,h2];rfl
   .rw[bH hk]
  rw[HZ];have oG:(Builtin.append_ #[t,u] ty #[sx r (O es),x]).run P w= .ok (sx r (O es)) w:=by
   cases r with
   |none=>exact NU ht hu gL hi S h0 Y 0 0 (aS _)
   |some bc=>exact NU ht hu gL hi S h0 _ _ _ iv.1.1
  refine⟨_,w,γ,oG,.refl γ,.refl γ H w,I,?_⟩;subst h0;rw[gu];exact .aP _ tk e i.size es row r h1 he bR hv hr rfl
 .have NL:0<O xs:=r9.2 h0;have pT:O es+O xs<=maxLen:=by simp only[maxLen];omega
  have Dr:=S.gB.1;have NW:∀γ':Gh,∀(b cap:Nat) (cells:Array Value),γ'=γ.grow tk row (O es+O xs) b cap cells->γ.le γ'->O es+O xs<=cap->fF γ.mem i.size (cells.extract 0 ((O es+O xs)*i.size)) (es++xs)->
      aG γ' (.slice (Z ⟨b,0,Y⟩) (O es+O xs) cap) (.aP tk e i.size (es++xs)):=by
   intro γ' b cap cells hγ hle mV xn;subst hγ;have Ds:tk<O γ.rows:=(ak.1 h1).1;have Yh:=(xn.mono hle.mem).slice (b:=b) (cap:=cap) (by simpa using mV) (λo ho=>by
    have ho:o<(O es+O xs)*i.size:=by simpa using ho
    simp only[Gh.grow,if_true,bR];rw[if_pos ho,alG];simp;intro h;have bR:=xn.1;simp at bR;omega)
   refine .aP _ tk e i.size (es++xs) (row.grow (O es+O xs) b cap) (Z (b,cap)) (by simp[Gh.grow,Ds]) he bR (by simpa using Yh) (by simp[Row.grow]) (by simp[sx])
  -- a new block
  have fresh:∀(base:Option Addr) (n cap:Nat),sx r (O es)= .slice base n cap->n=O es->cap<O es+O xs->
      ∃v' w' γ',(Builtin.append_ #[t,u] ty #[sx r (O es),x]).run P w= .ok v' w'/\γ.le γ'/\Frame γ H w γ' {H with tk:=H.tk.set tk (O es+O xs)} w'/\
       Inv G γ' {H with tk:=H.tk.set tk (O es+O xs)} w'/\aG γ' v' (.aP tk e i.size (es++xs)):=by
   intro base n cap hval hn mV;subst hn;rw[hval] at hv|-;obtain⟨oH,So⟩:=HV (P:=P) I hs hv;have oG:=Yf (ty:=ty) ht hu gL hi hz S base (O es) cap oH (λw' hw'=>So.cells w' hw') mV (by omega) HY.2;have ka:=grownCap_ge w (O es+O xs) cap e;have uC:=grownCap_le_maxLen w (O es+O xs) cap e pT;have H7:(oH++news++Builtin.zeroCells z.cells (grownCap w (O es+O xs) cap e-(O es+O xs))).size=grownCap w (O es+O xs) cap e*row.sz:=by
    rw[bR];simp only[MW,size_zeroCells,Dq,So.gB.1,Dr,<-eI];congr 1;omega
   have qJ:(w.drew.alloc (.cells (oH++news++Builtin.zeroCells z.cells (grownCap w (O es+O xs) cap e-(O es+O xs))) e)).heap[w.heap.size]? =
       Z (.cells (oH++news++Builtin.zeroCells z.cells (grownCap w (O es+O xs) cap e-(O es+O xs))) row.e (0,0)):=by
    rw[he];have:=heap_alloc w.drew (.cells (oH++news++Builtin.zeroCells z.cells (grownCap w (O es+O xs) cap e-(O es+O xs))) e) w.heap.size;rw[this];exact if_pos rfl
   obtain⟨b1,b2,b3⟩:=I.Nw h1 h2 (b:=w.heap.size) (cap:=grownCap w (O es+O xs) cap e) (f':=O es+O xs) (by omega) ka uC H7 qJ (λk hk=>by simp)
    (λc hc=>by rw[heap_alloc];exact if_neg hc) (λhb=>by have:=I.lC hb;omega) (λo v hm=>by have:=I.qG hm;omega) (λt' _ hf=>by have:=I.l5 hf;omega) (.inl rfl) (λx hx=>by have:=I.HF hx;omega) ⟨bA _,aS _⟩ rfl rfl rfl (by simp)
   refine⟨_,_,_,oG,b1,b2,b3,NW _ _ _ _ rfl b1 ka ?_⟩;have hex:(oH++news++Builtin.zeroCells z.cells (grownCap w (O es+O xs) cap e-(O es+O xs))).extract 0 ((O es+O xs)*i.size)=oH++news:=by
    have :(O es+O xs)*i.size=(oH++news).size:=by simp[So.gB.1,Dr,eI]
    rw[this];apply wC;simp[fg]
   rw[hex];exact So.gB.append S.gB
  cases r with
  |none=>
   have Yi:O es=0:=iv;exact fresh Y 0 0 rfl Yi.symm (by omega)
  |some bc=>
   obtain⟨b,cap⟩:=bc;obtain⟨⟨hle,NX⟩,xo⟩:=iv;by_cases zW:O es+O xs<=cap
   .obtain⟨cur,fr,q1,q0,q2,q3,q4,q5⟩:=xo (by omega);rw[bR] at q2 q4;have NY:O es*i.size+news.size<=cur.size:=by
     rw[Dr,q2,<-eI];exact fW _ zW
    rw[he] at q1;rw[bR] at q0;have oG:=Ye (ty:=ty) ht hu gL hi S b (O es) cap cur fr q1 q0 zW NY hs;have hold:∀o v,γ.mem b o=Z v->o<O es*i.size/\cur[o]? =Z v:=by
     intro o v hm;have dZ:o<O es*i.size:=by
      rcases dI o (O es*i.size) with h |h
      .exact h
      .rw[q4 o h] at hm;cases hm
     have:=I.mem b o v hm;simp only[World.cell?,q1] at this;exact⟨dZ,by simpa using this⟩
    have qK:∀o,o<O es*i.size->(cur.toList.take (O es*i.size)++news.toList++cur.toList.drop (O es*i.size+news.size)).toArray[o]? =cur[o]?:=by
     intro o ho;have h1:o<(cur.toList.take (O es*i.size)).length:=by simp;omega
     simp only[alM,jE];rw[bF h1,jF,if_pos ho];simp
    have xp:(cur.toList.take (O es*i.size)++news.toList++cur.toList.drop (O es*i.size+news.size)).toArray.size=cap*row.sz:=by
     rw[bR,<-q2];simp;omega
    have amq:O es*i.size<=(O es+O xs)*row.sz:=by rw[bR,eI];omega
    obtain⟨b1,b2,b3⟩:=I.Nw h1 h2 (b:=b) (cap:=cap) (f':=O es+O xs) (fr:=fr) (by omega) zW q3 xp (by rw[he];exact setRow_heap w b cur _ e fr q1) (λk hk fk=>q0 k (by rw[bR,eI] at hk;omega) (by rw[xp,bR,<-q2] at fk;exact fk))
     (λc hc=>setRow_other w b c _ hc) q5 (λo v hm=>by
      obtain⟨c1,c2⟩:=hold o v hm;exact⟨by omega,by rw[qK o c1];exact c2⟩) (λt' dt hf=>dt (I.free t' tk b hf ⟨row,O es,cap,h1,h2,hr,by omega⟩)) (.inr ⟨row,O es,cap,h1,h2,hr,by omega⟩) (λx hx=>by rw[NX] at hx;exact(lq hx).symm) (by
     obtain⟨us,fru,z1,z2,z3⟩:=I.Xf NX;rw[he,q1] at z1;cases z1;exact z3) rfl rfl rfl (by simp[World.setRow])
    refine⟨_,_,_,oG,b1,b2,b3,NW _ _ _ _ rfl b1 zW ?_⟩;have hex:((cur.toList.take (O es*i.size)++news.toList++cur.toList.drop (O es*i.size+news.size)).toArray).extract 0 ((O es+O xs)*i.size)=(cur.toList.take (O es*i.size)).toArray++news:=by
     have hl:(cur.toList.take (O es*i.size)).length=O es*i.size:=by simp;omega
     have :(O es+O xs)*i.size=((cur.toList.take (O es*i.size))++news.toList).length:=by simp only[dF,hl,pF,Dr,eI]
     apply wC;simp only[Array.toList_extract,List.extract_eq_take_drop,pH,Nat.sub_zero,Wr];rw[this];exact List.take_left
    rw[hex];refine(Yg hv ?_ (λo v ho hm=>?_)).append S.gB
    .simp;omega
    .obtain⟨c1,c2⟩:=hold o v hm;simp only[alM,jF,if_pos c1];simpa using c2
   .exact fresh _ _ cap rfl rfl (by omega)
end
theorem NZ(l:List Nat)(x y:Nat):(l++[x]).set (O l) y=l++[y]:=by simp
theorem Yj(I:Inv G γ H w)(E:bf γ env a.tmps){e:TypeId}{s x:Operand}{s' x':aE}(ho:o.op= .call {callee:=.builtin .append,args:=#[s,x],argTypes:=#[t,u]}) (R:P.underlying t=Z (.slice e)) (T:P.underlying u=Z du) (k:(∃e',du= .slice e')\/du= .string) (U:P.info? e=Z i) (X:i.zero=Z z) (l:z.cells.size=i.size) (p:0<i.size) (hs:aN s=Z s') (c:aN x=Z x') {d:D} {H':Hp} (g:aY G env H (.append e i.size i.bytes s' x')=Z (d,H')):cP P G γ H w a o d H':=by have f:=bZ E hs;have iO:=bZ E c;simp only[aY] at g;split at g;{rename_i xs nS;obtain⟨⟨news,S⟩,_⟩:=Yd (P:=P) I p iO nS;(have fin:∀V W,(Builtin.append_ #[t,u] o.type #[a.eval s,a.eval x]).run P w= .ok V W->(execOp a.eval o).run P w= .ok (.value V) W:=by intro V W h;simp[execOp,ho,resolve,invoke,builtin,h]);unfold dB at g;split at g;{rename_i J;split at g;{rename_i m;cases g;rw[J] at f;have hv:=f.cn.pS;let row:Row:=⟨e,i.size,λn=>if n=0 then Z Y else Y⟩;obtain⟨K,b2,b3⟩:=I.C6 row 0 Y rfl (λn x c=>by simp only[row] at c;split at c;{omega};cases c) rfl (λ_ _ h=>by cases h) (λn b cap c=>by simp only[row] at c;split at c<;>cases c);obtain⟨V,W,j,L,M,C,y,A⟩:=HW (ty:=o.type) R T k U X l p (γ:={γ with rows:=γ.rows++[row]}) S b3 (tk:=O H.tk) (row:=row) (es:=[]) (r:=Y) (by show(γ.rows++[row])[O H.tk]? =_;rw[<-I.eT];simp) (by simp) rfl rfl rfl (.jt _ _ _) (by simpa using m);simp only[dG,dD,NZ,eD] at C y A;refine⟨V,W,j,.inl (fin V W ?_),K.trans M,b2.trans K.base C,y,A⟩;rw[hv];exact L};cases g};{rename_i e' gK es J;split at g;{rename_i hc;obtain⟨rfl,rfl,m⟩:=hc;cases g;rw[J] at f;generalize B:a.eval s=v at f;cases f with|cw b n e sz N0 F ju N Q=>subst N;let row:Row:=⟨e',i.size,λn=>if n=O es then Z (Z (b,O es)) else Y⟩;obtain⟨K,b2,b3⟩:=I.C6 row (O es) (Z (b,O es)) (by simp[row]) (λn x c=>by simp only[row] at c;split at c;{omega};cases c) ⟨⟨aS _,ju⟩,λh=>by omega⟩ (λ_ _ h=>by cases h;rfl) (λn b' cap c=>by simp only[row] at c;split at c;{cases c;exact F};cases c);obtain⟨V,W,j,L,M,C,y,A⟩:=HW (ty:=o.type) R T k U X l p (γ:={γ with rows:=γ.rows++[row]}) S b3 (tk:=O H.tk) (row:=row) (es:=es) (r:=Z (b,O es)) (by show(γ.rows++[row])[O H.tk]? =_;rw[<-I.eT];simp) (by simp) rfl rfl (by simp[row]) Q m;simp only[NZ] at C y A;refine⟨V,W,j,.inl (fin V W ?_),K.trans M,b2.trans K.base C,y,A⟩;rw[B];exact L};cases g};{rename_i tk e' gK es J;split at g;{rename_i hc;obtain⟨rfl,rfl,ec,m⟩:=hc;cases g;rw[J] at f;generalize B:a.eval s=v at f;cases f with|aP _ _ _ _ _ row r h1 h2 h3 h4 h5 h6=>subst h6;obtain⟨V,W,j,L,M,C,y,A⟩:=HW (ty:=o.type) R T k U X l p S I h1 ec h2 h3 h5 h4 m;refine⟨V,W,j,.inl (fin V W ?_),M,C,y,A⟩;rw[B];exact L};cases g};cases g};cases g
end
section
variable{ms:Array (String×TypeId)}{vs u news:Array Value}{γ:Gh}{H':Hp}{cs ds:List D}{b T sz m:Nat}{fr:Nat×Nat}{x':aE}{x:Operand}{du:TypeDesc}{t:TypeId}{i:TypeInfo}{z:Value}{w:World}
variable{P:Program}{G:Nat->Option (List PD)}{H:Hp}{env:Env}{a:Act}{o:Oper}
def zX(fr:Nat×Nat)(n:Nat):Nat×Nat:=if fr.1==fr.2 then(0,0+n) else(min fr.1 0,max fr.2 (0+n))
theorem Yk{n:Nat}{cs:Array Value}(d:0<n)(a:w.heap[b]? =Z (.cells cs T fr)) c: (w.freeze ⟨b,0,Y⟩ n).heap[c]? =if c=b then Z (.cells cs T (zX fr n)) else w.heap[c]?:=by (have H:¬n=0:=by omega);simp only[World.freeze,H,if_false,Array.getElem?_modify];by_cases h:c=b;{subst h;rw[if_pos rfl,if_pos rfl,a];rfl};grind
theorem Inv.freeze(I:Inv G γ H w){n:Nat}{cs:Array Value}(y:0<n)(j:w.heap[b]? =Z (.cells cs T fr))(l:γ.base<=b)(E:∀k,k<n->γ.mem b k≠Y) (J:n<=cs.size) (o:∀k,k<cs.size->(zX fr n).1<=k/\k<(zX fr n).2->(fr.1<=k/\k<fr.2)\/γ.mem b k≠Y): Frame γ H w γ H (w.freeze ⟨b,0,Y⟩ n)/\Inv G γ H (w.freeze ⟨b,0,Y⟩ n):=by
 have p:=Yk y j;have a:¬n=0:=by omega
 have s:∀c,mW (γ.mem c) (w.heap[c]?) ((w.freeze ⟨b,0,Y⟩ n).heap[c]?):=by intro c;rw[p c];by_cases h:c=b;{subst h;rw[if_pos rfl];exact .inr ⟨cs,T,fr,zX fr n,j,rfl,o⟩};rw[if_neg h];exact .refl _ _
 have z:(w.freeze ⟨b,0,Y⟩ n).heap.size=w.heap.size:=by simp[World.freeze,a]
 refine⟨⟨by simp[World.freeze,a],by simp[World.freeze,a],by simp[World.freeze,a],by omega,λc _ _=>⟨λe=>?_,s c⟩,λ_ _ _ _=>rfl,λ_ h=>.inl h,λ_ _ h=>.inl h,λ_ h=>.inl h⟩,?_⟩;{grind};constructor;{rw[z];exact I.size};{intro c A m e;obtain⟨U,F,g,K,M⟩:=I.bq c A m e;rw[p c];by_cases h:c=b;{subst h;rw[if_pos rfl];rw[j] at g;cases g;refine⟨_,_,rfl,K,λN=>?_⟩;unfold zX;split<;>simp<;>omega};grind};{exact I.gI};{intro c q v h;rw[(by unfold World.cell?;grind:∀c q,(w.freeze ⟨b,0,Y⟩ n).cell? ⟨c,q,Y⟩=w.cell? ⟨c,q,Y⟩)];exact I.mem c q v h};{exact I.gU};{exact I.cK};{exact I.nodup};{intro i c cA e cQ;obtain⟨V,A,F,B,C⟩:=I.box i c cA e cQ;by_cases u:c=b;{subst u;have x:=mM λx=>E 0 y (I.fS c 0 ⟨i,cA,e,cQ,x⟩);subst x;exact⟨_,_,_,by rw[gA rfl,p c,if_pos rfl],⟨bA _,λi d L=>by simp at L⟩,λ_ c e=>by simp at e,λh=>(h rfl).elim⟩};grind};{exact I.fS};{exact I.gJ};{exact I.eT};{intro t row f h1 g;obtain⟨r,B,C⟩:=I.row t row f h1 g;exact⟨r,B,C.Nr (λ_ _ h=>h) (λc _ _ _=>s c) (λ_ _ _ _ _=>rfl) (λ_ _ _ _ h=>h)⟩};{exact I.gV};exact I.free
theorem Yl d (h:P.underlying t=Z (.interface ms)):(Op.equalIn (d+1) t .nilIface .nilIface).run P w= .ok true w:=by simp[Op.equalIn,run_underlying h]
theorem N2 d (h:P.underlying t=Z (.interface ms)) u v:(Op.equalIn (d+1) t (.iface u v) .nilIface).run P w= .ok false w:=by simp[Op.equalIn,run_underlying h]
theorem Ym(I:Inv G γ H w)(E:bf γ env a.tmps){op:BinOp}{t yt:TypeId}{x y:Operand}{x' y':aE}{ms:Array (String×TypeId)}{yc:Value}(ho:o.op= .binOp op t x y yt)(sC:op= .eql∨op= .neq)(Yn:y= .const yc)(hx:aN x=some x')(hy:aN y=some y')
    (ht:P.underlying t=some (.interface ms)) {d:D} {H':Hp} (he:aY G env H (.eqk 4 (op== .neq) x' y')=some (d,H')):cP P G γ H w a o d H':=by
 have iO:=bZ E hx;have j9:=bZ E hy;simp only[aY] at he;obtain⟨r,hd,hh⟩:=au.1 he;cases hh;have fin:∀u v,a.eval x=u→a.eval y=v→(match u with | .int _ _ | .float _ _ | .complex _ _ _ | .string _=>true |_=>false)=false→(∀cs,u≠.agg cs)→(Op.equal t u v).run P w= .ok r w→
     cP P G γ H w a o (.p (.bool (if op== .neq then !r else r))) H:=by
  intro u v hu hv h1 h2 h4;refine .same I ?_ (.p _ _ (.bool _));simp[execOp,ho,hu,hv,(by
   by_cases hb:u= .nilIface∧v= .nilIface
   ·obtain⟨rfl,rfl⟩:=hb;rcases sC with rfl |rfl<;>simp[eqGuard,Yn]
   ·exact Dh hb (by grind) w:(eqGuard op t x y u v).run P w= .ok () w),(HM sC h1 h4)]
 simp only[pL] at hd;split at hd
 ·rename_i e1 e2;cases hd;rw[e1] at iO;rw[e2] at j9;have h1:a.eval x= .nilIface:=by have:=iO.cn;generalize a.eval x=v at this;cases this;rfl
  exact fin _ _ h1 (by have:=j9.cn;generalize a.eval y=v at this;cases this;rfl) rfl (by simp) (by exact Yl _ ht)
 ·rename_i e1 e2;cases hd;rw[e1] at iO;rw[e2] at j9;have h1:∃t v,a.eval x= .iface t v:=by have:=iO.cn;generalize a.eval x=v at this;cases this;grind
  obtain⟨t',v',h1⟩:=h1;exact fin _ _ h1 (by have:=j9.cn;generalize a.eval y=v at this;cases this;rfl) rfl (by simp) (by exact N2 _ ht _ _)
 ·rename_i e1 e2;cases hd;rw[e1] at iO;rw[e2] at j9;have h1:∃t v,a.eval x= .iface t v:=by generalize a.eval x=v at iO;cases iO;grind
  obtain⟨t',v',h1⟩:=h1;exact fin _ _ h1 (by have:=j9.cn;generalize a.eval y=v at this;cases this;rfl) rfl (by simp) (by exact N2 _ ht _ _)
 ·cases hd
theorem N3{m:Mem}{sz:Nat}{cs:Array Value}:∀(es:List PD) base,(∀e∈es,O e.cells=sz)->(∀(i:Nat) e j c,es[i]? =Z e->e.cells[j]? =Z c->aU m (cs.getD ((base+i)*sz+j) undef) c)-> ∀k c,(es.flatMap PD.cells)[k]? =Z c->aU m (cs.getD (base*sz+k) undef) c|[],base,_,_,k,c,h=>by simp at h|e::es,base,d,H,k,c,h=>by rw[nG] at h;by_cases f:k<O e.cells;{rw[bF f] at h;have:=H 0 e k c rfl h;grind};rw[dO (by omega)] at h;have:=N3 es (base+1) (λe g=>d e (by simp[g])) (λi e j c a b=>by have:=H (i+1) e j c (by grind) b;rw[(by omega:base+1+i=base+(i+1))];exact this) _ c h;grind
theorem sD:∀(es:List PD),(∀e∈es,O e.cells=sz)->O (es.flatMap PD.cells)=O es*sz|[],_=>by simp|e::es,h=>by rw[nG,dF,sD es (λe H=>h e (by simp[H])),h e (by simp),cY,eI];omega
theorem fF.flat{m:Mem}{cs:Array Value}{es:List PD}(r:fF m sz cs es){tail:Array Value} γ (l:γ.mem=m):dT γ (cs++tail) ((es.flatMap PD.cells).map .p)/\∀c∈(es.flatMap PD.cells).map D.p,c.one=true:=by subst l;obtain⟨o,R,n⟩:=r;have s:=sD es (λe h=>(R e h).1);refine⟨⟨by grind,λk d g=>?_⟩,λc H=>?_⟩;{simp only[cC,au] at g;obtain⟨c,H,rfl⟩:=g;have:=N3 es 0 (λe h=>(R e h).1) (λi e j c a b=>by rw[dD];exact n i e j c a b) k c H;rw[Wq,dD] at this;rw[(by simp[cg,zp,(by grind:k<cs.size)]:(cs++tail).getD k undef=cs.getD k undef)];exact .p _ _ this};obtain⟨x,f,rfl⟩:=cv.1 H;obtain⟨e,h,f⟩:=CC.1 f;exact(R e h).2 x f
theorem Inv.Ia(I:Inv G γ H w){i:Nat}(g:γ.boxes[i]? =Z b)(e:H.bx[i]? =Z cs)(n:cs≠[]){x:Nat×Nat}(k:γ.bq b=Z x): Frame γ H w γ {H with bx:=H.bx.set i []} w/\Inv G γ {H with bx:=H.bx.set i []} w:=by have f:∀t c,cO γ {H with bx:=H.bx.set i []} t c->cO γ H t c:=λt c h=>cO.congr (λ_ _ h=>h) (λ_ _ h=>h) h;refine⟨⟨rfl,rfl,rfl,aS _,λ_ _ _=>⟨λ_=>rfl,.refl _ _⟩,λ_ _ _ _=>rfl,λ_ h=>.inl (Lv.set e n h),λt b h=>.inl (f t b h),λ_ h=>.inl h⟩,I.size,I.bq,I.gI,I.mem,I.gU,by simp[I.cK],I.C4 e n,?_,λc o h=>I.fS c o (Lv.set e n h),?_,I.eT,I.row,I.gV,λt T b h l=>I.free t T b (f t b h) (f T b l)⟩;{intro j c cA hj cQ;by_cases a:i=j;{subst a;rw[g] at hj;cases hj;rw[fe (by grind)] at cQ;cases cQ;obtain⟨v,r,Q,_⟩:=I.bq b x.1 x.2 k;exact⟨v,x.1/2,r,by exact Q,⟨bA _,λi d m=>by simp at m⟩,λ_ c e=>by simp at e,λh=>(h rfl).elim⟩};rw[bH a] at cQ;exact I.box j c cA hj cQ};intro j c hj cQ;by_cases a:i=j;{grind};rw[bH a] at cQ;exact I.gJ j c hj cQ
theorem Inv.Ib(I:Inv G γ H w){i:Nat}(L:γ.boxes[i]? =Z b)(y:H.bx[i]? =Z cs)(E:cs≠[])(_:az cs=false){V:Array Value}(Y:w.heap[b]? =Z (.cells vs T fr))(M:clear fr 0 vs.size) (N:V.size=vs.size) {T2:Nat} (S:γ.bq b=Z (T2,m)) (J:dT γ V (ds)) (K:∀c∈ds,c.one=true): γ.le {γ with boxes:=γ.boxes++[b]}/\Frame γ H w {γ with boxes:=γ.boxes++[b]} {H with bx:=H.bx.set i []++[ds]} (w.setRow b V)/\Inv G {γ with boxes:=γ.boxes++[b]} {H with bx:=H.bx.set i []++[ds]} (w.setRow b V):=by
 have s:Lv γ H b:=⟨i,cs,L,y,E⟩;have u:γ.le {γ with boxes:=γ.boxes++[b]}:=⟨rfl,λ_ _ h=>h,λ_ _ _ h=>h,λj c h=>by grind,λt r h=>⟨r,h,rfl,rfl,λ_ _ h=>h⟩⟩;have x:O γ.boxes=O ({H with bx:=H.bx.set i []}:Hp).bx:=by simp[I.cK]
 have l:∀c,Lv {γ with boxes:=γ.boxes++[b]} {H with bx:=H.bx.set i []++[ds]} c->Lv γ H c:=λc h=>by rcases Lv.push x rfl rfl h with h |⟨rfl,_⟩;{exact Lv.set y E h};exact s
 have z:¬Lv γ {H with bx:=H.bx.set i []} b:=λh=>by obtain⟨j,c,k,A,a3⟩:=h;by_cases B:i=j;{grind};rw[bH B] at A;exact B (I.nodup i j b cs c L k y A E a3)
 have P:=(I.Ia L y E S).2;have a:∀t c,cO {γ with boxes:=γ.boxes++[b]} {H with bx:=H.bx.set i []++[ds]} t c->cO γ H t c:=λt c h=>cO.congr (λ_ _ h=>h) (λ_ _ h=>h) h;have g:∀c,c≠b->(w.setRow b V).heap[c]? =w.heap[c]?:=λc h=>setRow_other w b c _ h;have p:=setRow_heap w b vs V T fr Y;refine⟨u,⟨rfl,rfl,rfl,by simp[World.setRow],λc _ ho=>by rw[g c (λe=>ho (.inl (e▸s)))];exact⟨λ_=>rfl,.refl _ _⟩,λ_ _ _ _=>rfl,λc h=>.inl (l c h),λt c h=>.inl (a t c h),λc h=>by grind⟩,?_⟩;constructor;{have:=I.size;simp_all};{intro c T' n zY;obtain⟨us',F,U,h3⟩:=I.bq c T' n zY;grind};{exact I.gI};{intro c o v h;rw[sy (g c (λe=>by subst e;rw[I.fS c o s] at h;cases h))];exact I.mem c o v h};{exact I.gU};{simp[I.cK]};{exact P.C3 z rfl rfl};{intro j c cA hj cQ;rcases pO x hj cQ with⟨k,A⟩ |⟨_,rfl,rfl⟩;{obtain⟨us,T',F,q1,q2,q3,q4⟩:=P.box j c cA k A;by_cases W:c=b;{subst W;have Q:=mM λQ=>z ⟨j,cA,k,A,Q⟩;subst Q;exact⟨_,_,_,by exact p,⟨bA _,λi d hd=>by simp at hd⟩,λ_ c y=>by simp at y,λh=>(h rfl).elim⟩};exact⟨us,T',F,by rw[g c W];exact q1,q2.mono u,q3,q4⟩};exact⟨V,T,fr,by rw[gA (zK K)];exact p,J.mono u,λ_=>K,λ_=>by rw[N];exact M⟩};{exact λc o h=>I.fS c o (l c h)};{intro j c hj cQ;rcases pO x hj cQ with⟨k,A⟩ |⟨_,rfl,_⟩;{exact P.gJ j c k A};exact⟨_,S⟩};{exact I.eT};{intro t row f K U;obtain⟨r,k,A⟩:=I.row t row f K U;refine⟨r,k,?_⟩;refine A.keep (λ_ _ h=>h) (λc R J C=>?_) (λ_ _ _ _ _=>rfl) (λc R J C h X=>?_);{exact g c (λe=>by subst e;subst J;obtain⟨cur,_,_,_,_,_,_,pQ⟩:=A.2 C;grind)};grind};{exact I.gV};intro t t' c h X;exact I.free t t' c (a t c h) (a t' c X)
theorem dT.Yo{v:Array Value}(a:u.size=O cs)(r:dT γ u cs)(q:dT γ v ds):dT γ (u++v) (cs++ds):=by refine⟨by have:=q.1;simp;omega,λi d h=>?_⟩;by_cases H:i<O cs;{rw[bF H] at h;have:=r.2 i d h;rw[(by simp[cg,zp,a,H]:(u++v).getD i undef=u.getD i undef)];exact this};rw[dO (by omega)] at h;have:=q.2 _ d h;rw[(by simp[cg,zp,a,H]:(u++v).getD i undef=v.getD (i-O cs) undef)];exact this
structure zZ P γ (w:World) sz x m ds news:Prop where
 len:∀w',(Builtin.lenOf x).run P w'= .ok m w'
 cells:∀w',(∀ad,w'.cell? ad=w.cell? ad)->(Builtin.firstCells sz m x).run P w'= .ok news w'
 gB:cp γ news ds
 one:∀c∈ds,c.one=true
 size:news.size=m*sz
theorem zZ.Yp{x:Value}(S:zZ P γ w sz x m ds news):∀v∈news.toList,v.oneCell'=true:=by
 intro v h;obtain⟨k,H⟩:=c8 h;have a:=by simpa using H
 have q:=S.gB.2 k _ (aw (by rw[<-S.gB.1];grind));have :news.getD k undef=v:=by simp_all
 rw[this] at q;exact q.Nq (S.one _ (by grind))
theorem Ic(I:Inv G γ H w){i off n c:Nat}(r:γ.boxes[i]? =Z b)(h:H.bx[i]? =Z cs)(m:az cs=false)(f:off+n*sz<=O cs): ∃news,zZ P γ w sz (.slice (Z ⟨b,off,Y⟩) n c) n (sub cs off (off+n*sz)) news:=by obtain⟨s,T,F,Q,g,t,_⟩:=I.box i b cs r h;rw[gA m] at Q;(have a:O (sub cs off (off+n*sz))=n*sz:=by rw[sB _ _ _ f];omega);refine⟨((dH (n*sz)).map λk=>s.getD (off+k) undef).toArray,⟨λW=>by simp[Builtin.lenOf],λW e=>?_,⟨by simp[a],λk d o=>?_⟩,λc u=>(t m) c (xk u),by simp⟩⟩;{refine run_firstCells_some W sz n _ _ _ _ (by simp) (λj v p=>?_);(have l:=by have:=(ak.1 p).1;simpa using this);(have x:=by simpa[l] using p);rw[Addr.add_lit,e,<-x];simp[World.cell?,Q,(by have:=g.1;omega:off+j<s.size)]};(have l:k<n*sz:=by grind);rw[uA,if_pos (by omega)] at o;have:=g.2 _ d o;rw[(by simp_all:(((dH (n*sz)).map λk=>s.getD (off+k) undef).toArray).getD k undef=s.getD (off+k) undef)];exact this
theorem cp.N4(h:dT γ vs ds)(e:vs.size=O ds):cp γ vs ds:=⟨e,h.2⟩
theorem Yq(I:Inv G γ H w)(f:0<sz){v:Value}{d:D}(r:aG γ v d)(h:fA H sz d=Z (m,ds)):∃news,zZ P γ w sz v m ds news:=by unfold fA at h;split at h;{split at h;{split at h;{rename_i cs cQ;split at h;{rename_i hc;cases h;cases r with|aZ _ _ _ _ _ b c a _ _=>exact Ic I a cQ hc.1 hc.2};cases h};cases h};cases h};{split at h;{split at h;{rename_i cs cQ;split at h;{rename_i hc;cases h;cases r with|af _ _ _ _ b c a _ _ _ _=>exact Ic I a cQ hc.1 hc.2};cases h};cases h};cases h};obtain⟨es,kc,heq⟩:=au.1 h;cases heq;obtain⟨⟨news,S⟩,_⟩:=NS (P:=P) I f r kc;obtain⟨i,Q⟩:=fF.flat S.gB (tail:=#[]) γ rfl;have s:=S.gB.1;refine⟨news,⟨S.len,S.cells,cp.N4 (by grind) ?_,Q,s⟩⟩;rw[bL,sD es λe g=>(S.gB.2.1 e g).1,s]
section
variable{u ty e:TypeId}(ht:P.underlying t = Z (.slice e))(hu:P.underlying u = Z du)(gL:(∃ e', du = .slice e') \/ du = .string)(hi:P.info? e = Z i)(hz:i.zero = Z z)
 {x:Value}    (S:zZ P γ w i.size x m ds news)
include ht hu gL hi S
theorem Ie(h0:m=0) base n cap (hc:n<=cap):(Builtin.append_ #[t,u] ty #[.slice base n cap,x]).run P w= .ok (.slice base n cap) w:=by
 subst h0;have hn:news= #[]:=CD (by have:=S.size;omega);subst hn;rcases gL with⟨e',rfl⟩ |rfl<;>cases base<;>simp[Builtin.append_,run_underlying ht,run_underlying hu,sizeOf,typeInfo,hi,S.len w,hc,S.cells w (λ_=>rfl),storeCells]
theorem N5(g off n cap T:Nat) cur fr (hg:w.heap[g]? =Z (.cells cur T fr))(C7:clear fr (off+n*i.size) cur.size)(HX:n+m<=cap)(zW:off+n*i.size+news.size<=cur.size):
    (Builtin.append_ #[t,u] ty #[.slice (Z ⟨g,off,Y⟩) n cap,x]).run P w=
     .ok (.slice (Z ⟨g,off,Y⟩) (n+m) cap) (w.setRow g (cur.toList.take (off+n*i.size)++news.toList++cur.toList.drop (off+n*i.size+news.size)).toArray):=by
 rcases gL with⟨e',rfl⟩ |rfl<;>simp[Builtin.append_,run_underlying ht,run_underlying hu,sizeOf,typeInfo,hi,S.len w,HX,S.cells w (λ_=>rfl),Addr.add_lit,Dk g (off+n*i.size) T fr news.toList 0 cur w hg (by grind) (by grind) S.Yp]
include hz
theorem Yr base (n cap:Nat) (oH:Array Value) (hold:∀w',(∀ad,w'.cell? ad=w.cell? ad)->(Builtin.firstCells i.size n (.slice base n cap)).run P w'= .ok oH w')
    (jv:cap<n+m) (Ig:((n+m:Nat):Int)<=9223372036854775807) (hb:(n+m)*i.bytes<=140737488355328):
    (Builtin.append_ #[t,u] ty #[.slice base n cap,x]).run P w=
     .ok (.slice (Z ⟨w.heap.size,0,Y⟩) (n+m) (grownCap w (n+m) cap e))
      (w.drew.alloc (.cells (oH++news++Builtin.zeroCells z.cells (grownCap w (n+m) cap e-(n+m))) e)):=by
 have hl:=S.len w;have uw:=hold w.drew (λ_=>rfl);have hn:¬(n+m<=cap):=by omega
 have Yt:¬(9223372036854775807<((n:Int)+(m:Int))):=by omega
 have Yu:¬(281474976710656<Builtin.nextslicecap (n+m) cap*i.bytes):=by have:=growslice_fits jv hb;omega
 rcases gL with⟨e',rfl⟩ |rfl<;>simp[Builtin.append_,run_underlying ht,run_underlying hu,sizeOf,typeInfo,zeroValue,hi,hz,hl,hn,Yt,Yu,Question.forced,uw,S.cells w.drew (λ_=>rfl),newRow,grownCap]
end
theorem N6{tail:Array Value}(h:u.size=O cs)(r:dT γ u cs)(q:cp γ news ds):dT γ (u++(news++tail)) (cs++ds):=by refine dT.Yo h r ⟨by have:=q.1;simp;omega,λk d H=>?_⟩;rw[(by simp[cg,zp,(by rw[q.1];grind:k<news.size)]:(news++tail).getD k undef=news.getD k undef)];exact q.2 k d H
theorem Yv(q:dT γ vs cs) k (H:k<=O cs):dT γ (vs.toList.take k).toArray (cs.take k):=by have:=q.1;refine⟨by simp;omega,λj d h=>?_⟩;rw[jF] at h;split at h;{rw[(by simp_all:(vs.toList.take k).toArray.getD j undef=vs.getD j undef)];exact q.2 j d h};cases h
theorem Yw(I:Inv G γ H w)(E:bf γ env a.tmps){u e:TypeId}{s:Operand}{s':aE}(ho:o.op= .call {callee:=.builtin .append,args:=#[s,x],argTypes:=#[t,u]}) (ht:P.underlying t=Z (.slice e)) (hu:P.underlying u=Z du) (gL:(∃e',du= .slice e')\/du= .string) (hi:P.info? e=Z i) (hz:i.zero=Z z) (Dq:z.cells.size=i.size) (nT:0<i.size) (hs:aN s=Z s') (hx:aN x=Z x') {d:D}  (f:aY G env H (.appendg e i.size i.bytes s' x')=Z (d,H')):cP P G γ H w a o d H':=by have g:=bZ E hs;have iO:=bZ E hx;simp only[aY] at f;split at f;{rename_i m ds nS;obtain⟨N,S⟩:=Yq (P:=P) I nT iO nS;(have fin:∀v' w',(Builtin.append_ #[t,u] o.type #[a.eval s,a.eval x]).run P w= .ok v' w'->(execOp a.eval o).run P w= .ok (.value v') w':=by intro v' w' h;simp[execOp,ho,resolve,invoke,builtin,h]);have R:=S.size;(have Yx:O ds=m*i.size:=by rw[<-S.gB.1,R]);(have fresh:∀(γ1:Gh) (H1:Hp) (B:Option Addr) (n p:Nat) (l:Array Value) (C:List D),γ.le γ1->Frame γ H w γ1 H1 w->Inv G γ1 H1 w->a.eval s= .slice B n p->p<n+m->roomy (n+m) i.bytes=true-> (∀w',(∀ad,w'.cell? ad=w.cell? ad)->(Builtin.firstCells i.size n (.slice B n p)).run P w'= .ok l w')->l.size=O C->l.size=n*i.size->dT γ1 l C->(∀c∈C,c.one=true)-> cP P G γ H w a o (.af (O H1.bx) e (n+m) i.size) {H1 with bx:=H1.bx++[C++ds]}:=by intro γ1 H1 B n p l C L1 F1 I1 V jv r hold W uw y qD;(have HY:=by simpa[roomy] using r);(have pT:n+m<=maxLen:=by simp only[maxLen];omega);have Q:=Yr (ty:=o.type) ht hu gL hi hz S B n p l hold jv (by omega) HY.2;have ka:=grownCap_ge w (n+m) p e;have Yy:=grownCap_le_maxLen w (n+m) p e pT;(have H7:(l++N++Builtin.zeroCells z.cells (grownCap w (n+m) p e-(n+m))).size=grownCap w (n+m) p e*i.size:=by simp only[MW,size_zeroCells,Dq,uw,R,<-eI];congr 1;omega);(have Yz:dT γ1 (l++N++Builtin.zeroCells z.cells (grownCap w (n+m) p e-(n+m))) (C++ds):=by rw[Array.append_assoc];exact N6 W y (S.gB.mono L1));obtain⟨γ',a1,a2,a5,a3,a4⟩:=I1.drew.zN e (λ_ h _ _=>Yz.mono h) (λc hc=>by rcases cu.1 hc with h |h;{exact qD c h};exact S.one c h);rw[H7] at a5;exact⟨_,_,γ',.inl (fin _ _ (by rw[V];exact Q)),L1.trans a1,(F1.trans L1.base (Frame.drew γ1 H1 w)).trans L1.base a3,a4,.af _ _ _ _ _ _ (by simpa using a2) ka Yy (k:=0) (by decide) a5⟩);(have N7:∀(k b off n p:Nat) (C:List D) (d':D),a.eval s= .slice (Z ⟨b,off,Y⟩) n p->n+m<=p->0<m->γ.boxes[k]? =Z b->H.bx[k]? =Z C->az C=false->off+(n+m)*i.size<=O C-> (aG γ (.slice (Z ⟨b,off,Y⟩) (n+m) p) d')-> cP P G γ H w a o d' {H with bx:=H.bx.set k (aA C (off+n*i.size) ds)}:=by intro k b off n p C d' V r U hb M A X fE;obtain⟨vs,T,fr,q1,q2,q3,q4⟩:=I.box k b C hb M;rw[gA A] at q1;have q3:=q3 A;have NL:0<(n+m)*i.size:=Nat.mul_pos (by omega) nT;(have xq:C≠[]:=λh=>by subst h;simp at X;omega);have q4:=q4 xq;(have YA:off+n*i.size+N.size<=O C:=by (have e1:off+n*i.size+m*i.size=off+(n+m)*i.size:=by rw[eI];omega);omega);have Q:=N5 (ty:=o.type) ht hu gL hi S b off n p T vs fr q1 (λk hk fk=>q4 k (bA _) fk) r (by have:=q2.1;omega);obtain⟨F,J⟩:=I.store hb M (us:=N.toList) (ds:=ds) (by simpa using S.gB) S.one (off:=off+n*i.size) (by rw[Yx,<-R];exact YA) q1 q4 q2 A xq;exact⟨_,_,γ,.inl (fin _ _ (by rw[V];exact Q)),.refl γ,by simpa using F,by simpa using J,fE⟩);unfold cW at f;split at f;{rename_i k e' n gK hn;split at f;{rename_i Ih;obtain⟨rfl,rfl⟩:=Ih;have K:=g;rw[hn] at K;generalize V:a.eval s=v at K;cases K with|af _ _ _ _ b c hb jJ uC fk ju=>split at f;{rename_i U;cases f;exact .same I (fin _ _ (by rw[V];exact Ie (ty:=o.type) ht hu gL hi S U _ n c jJ)) (by rw[V] at g;exact g)};rename_i U;split at f;{rename_i C M;split at f;{rename_i uG;obtain⟨A,L,xq⟩:=uG;obtain⟨vs,T,fr,q1,q2,q3,q4⟩:=I.box k b C hb M;rw[gA A] at q1;have q3:=q3 A;have q4:=q4 xq;obtain⟨ux,N8,z1,z2,z3⟩:=I.bq b _ _ ju;rw[q1] at z1;cases z1;split at f;{rename_i X;cases f;(have r:n+m<=c:=by exact Nat.le_of_mul_le_mul_right (by have:=q2.1;omega) nT);have:=N7 k b 0 n c C (.af k e' (n+m) i.size) V r (by omega) hb M A (by omega) (.af _ _ _ _ b c hb r uC fk ju);simpa using this};rename_i X;split at f;{rename_i r;cases f;have N9:=Yv q2 (n*i.size) L;(have W:(vs.toList.take (n*i.size)).toArray.size=n*i.size:=by have:=q2.1;simp;omega);(have Ds:O (C.take (n*i.size))=n*i.size:=by simp;omega);by_cases z7:n+m<=c;{(have NY:n*i.size+N.size<=vs.size:=by rw[R,z2,<-eI];exact fW _ z7);have Q:=N5 (ty:=o.type) ht hu gL hi S b 0 n c _ vs fr q1 (λk hk fk=>q4 k (bA _) fk) z7 (by omega);simp only[dD] at Q;(have y:dT γ (vs.toList.take (n*i.size)++N.toList++vs.toList.drop (n*i.size+N.size)).toArray (C.take (n*i.size)++ds):=by (have e1:(vs.toList.take (n*i.size)++N.toList++vs.toList.drop (n*i.size+N.size)).toArray=(vs.toList.take (n*i.size)).toArray++(N++(vs.toList.drop (n*i.size+N.size)).toArray):=by apply wC;simp);rw[e1];exact N6 (by rw[W,Ds]) N9 S.gB);obtain⟨g1,g2,g3⟩:=I.Ib hb M xq A q1 q4 (by simp;omega) ju y (λc hc=>by rcases cu.1 hc with h |h;{exact q3 c (gP h)};exact S.one c h);refine⟨_,_,_,.inl (fin _ _ (by rw[V];exact Q)),g1,g2,g3,.af _ _ _ _ b c ?_ z7 uC fk ju⟩;rw[<-I.cK];simp};(have hold:∀w',(∀ad,w'.cell? ad=w.cell? ad)->(Builtin.firstCells i.size n (.slice (Z ⟨b,0,Y⟩) n c)).run P w'= .ok (vs.toList.take (n*i.size)).toArray w':=λw' hw'=>by refine run_firstCells_some (P:=P) w' i.size n _ _ _ _ (by have:=q2.1;simp;omega) (λj v hj=>?_);rw[Addr.add_lit,hw'];rw[jF] at hj;split at hj;{simp only[World.cell?,q1,dD];simpa using hj};cases hj);obtain⟨f1,I1⟩:=I.Ia hb M xq ju;have:=fresh γ {H with bx:=H.bx.set k []} (Z ⟨b,0,Y⟩) n c (vs.toList.take (n*i.size)).toArray (C.take (n*i.size)) (.refl γ) f1 I1 V (by omega) r hold (by rw[W,Ds]) W N9 (λc hc=>q3 c (gP hc));simpa using this};cases f};cases f};cases f};cases f};{rename_i k off n c gK hn;split at f;{rename_i bR;subst bR;have K:=g;rw[hn] at K;generalize V:a.eval s=v at K;cases K with|aZ _ _ _ _ _ b c' hb jJ mV=>have mV:=mV c rfl;subst mV;split at f;{rename_i U;cases f;exact .same I (fin _ _ (by rw[V];exact Ie (ty:=o.type) ht hu gL hi S U _ n _ jJ)) (by rw[V] at g;exact g)};rename_i U;split at f;{rename_i C M;split at f;{rename_i uG;obtain⟨A,L⟩:=uG;split at f;{rename_i r;split at f;{rename_i X;cases f;exact N7 k b off n _ C _ V r (by omega) hb M A X (.aZ _ _ _ _ _ b _ hb r (λk hk=>by cases hk;rfl))};cases f};rename_i r;split at f;{rename_i YB;cases f;obtain⟨l,So⟩:=Ic (P:=P) (c:=c') I (sz:=i.size) hb M A L;exact fresh γ H _ n _ l _ (.refl γ) (.refl γ H w) I V (by omega) YB So.cells (by rw[So.gB.1]) So.size So.gB.zM So.one};cases f};cases f};cases f};cases f};split at f;{rename_i es kc;(have YC:∃B,a.eval s= .slice B (O es) (O es)/\aU γ.mem (.slice B (O es) (O es)) (.slice i.size es):=by unfold gS at kc;split at kc;{rename_i hn;cases kc;rw[hn] at g;exact⟨Y,g.cn.pS,.jt _ _ _⟩};{rename_i gK hn;split at kc;{rename_i bR;subst bR;cases kc;rw[hn] at g;generalize a.eval s=v at g;cases g with|eJ ad _=>exact⟨ad,rfl,.jt _ _ _⟩};cases kc};{rename_i e' gK N0 hn;split at kc;{rename_i bR;subst bR;cases kc;rw[hn] at g;generalize a.eval s=v at g;cases g with|cw b n _ _ _ hb ju L y=>subst L;exact⟨_,rfl,y⟩};cases kc};{rename_i gK N0 hn;split at kc;{rename_i bR;subst bR;cases kc;rw[hn] at g;generalize a.eval s=v at g;cases g with|eF ad n _ _ L y=>subst L;exact⟨_,rfl,y⟩};cases kc};cases kc);obtain⟨B,V,y⟩:=YC;split at f;{rename_i U;cases f;exact .same I (fin _ _ (by rw[V];exact Ie (ty:=o.type) ht hu gL hi S U _ _ _ (aS _))) (by rw[V] at g;exact g)};rename_i U;split at f;{rename_i r;cases f;obtain⟨l,So⟩:=HV (P:=P) I nT y;obtain⟨q1,q2⟩:=fF.flat So.gB (tail:=#[]) γ rfl;have W:=So.gB.1;(have z8:O ((es.flatMap PD.cells).map D.p)=O es*i.size:=by rw[bL,sD es λe f=>(So.gB.2.1 e f).1]);exact fresh γ H B (O es) (O es) l _ (.refl γ) (.refl γ H w) I V (by omega) r So.cells (by rw[z8,W]) W (by simpa using q1) q2};cases f};cases f};cases f
theorem YD(I:Inv G γ H w)(E:bf γ env a.tmps){e:TypeId}{l c:Operand}{l' J:aE}{z:PD}(L:o.op= .makeSlice t l c)(M:P.underlying t=Z (.slice e))(K:P.info? e=Z i)(g:zeroOf P e=Z z) (N:aN l=Z l') (O:aN c=Z J) {d:D}  (b:aY G env H (.makesl i.size z i.bytes l' J)=Z (d,H')):cP P G γ H w a o d H':=by simp only[aY] at b;unfold wP at b;split at b;{rename_i n m hn hm;split at b;{rename_i Ih;obtain⟨s,f,u,x⟩:=Ih;cases b;obtain⟨Q,y⟩:=uz (bZ E N) hn;obtain⟨R,A⟩:=uz (bZ E O) hm;(obtain⟨v,B,S⟩:∃v,i.zero=Z v/\w9 v=Z z:=by unfold zeroOf at g;rw[K] at g;dsimp only at g;split at g;{rename_i v C;exact⟨v,C,g⟩};cases g);have C:=qH γ.mem S;(have j:m<=140737488355328/\m*i.bytes<=140737488355328:=by simpa[roomy] using f);(have T:(i.bytes:Int)*(m:Int)<=281474976710656:=by have :m*i.bytes=i.bytes*m:=pG _ _;(have h2:i.bytes*m<=281474976710656:=by omega);rw[<-Int.natCast_mul];omega);have r:=run_make (P:=P) w t e i v M K B Q R (n:Int) (m:Int) (by omega) (by omega) T (by omega);simp only[nH] at r;(have U:fF γ.mem i.size (madeCells v.cells (m*i.size)) (cZ m z):=by have:=HU C (len:=m) u (fy.1 x);simpa[madeCells] using this);obtain⟨V,W⟩:=fF.flat U (tail:=#[]) γ rfl;obtain⟨F,X,Y,_,a3,a4⟩:=I.zN e (vs:=madeCells v.cells (m*i.size)) (cs:=((cZ m z).flatMap PD.cells).map .p) (λ_ h _ _=>(show dT γ _ _ by simpa using V).mono h) W;exact⟨_,_,F,.inl (by simp[execOp,L,y,A,r]),X,a3,a4,.aZ _ _ _ _ _ _ _ Y s (λk hk=>by cases hk;rfl)⟩};cases b};cases b
theorem YE(I:Inv G γ H w)(E:bf γ env a.tmps){e:TypeId}{len n:Nat}{parts:Array (Nat×Operand)}{z:PD}{Q:List (Nat×Nat×aE)}(y:o.op= .buildSlice t len parts)(A:P.underlying t=Z (.slice e)) (B:eL P e=Z n) (F:zeroOf P e=Z z) (J:partsOf P (λi=>Z (i*n,n)) parts.toList=Z Q) (l:len*n<=16777216/\0<n) {d:D}  (b:aY G env H (.bsliceG e n len z Q)=Z (d,H')):cP P G γ H w a o d H':=by simp only[aY] at b;split at b;{rename_i g;obtain⟨g,K,h3⟩:=g;(obtain⟨cs,s,f,L⟩:∃cs,aI (((cZ len z).flatMap PD.cells).map .p) (Q.map fun(o,n,x)=>(o,n,x.ev env))=Z cs/\O cs=len*n/\(D.af (O H.bx) e len n,({H with bx:=H.bx++[cs]}:Hp))=(d,H'):=by split at b;{rename_i cs s;split at b;{rename_i f;exact⟨cs,s,f,lq b⟩};cases b};cases b);cases L;obtain⟨v,M,N⟩:=uy F w;have R:=qH γ.mem N;have S:(parts.map fun(x:Nat×Operand)=>(x.1,a.eval x.2)).toList=parts.toList.map λp=>(p.1,a.eval p.2):=Dn parts a.eval;have T:len*n≠0:=Nat.mul_ne_zero (by omega) (by omega);have U:=HU R (len:=len) g (fy.1 K);obtain⟨r,V⟩:=fF.flat U (tail:=#[]) γ rfl;(have r:dT γ ((G8 (len*n)).map λi=>v.cells[i%v.cells.size]!) (((cZ len z).flatMap PD.cells).map D.p):=by simpa using r);(have j:O (((cZ len z).flatMap PD.cells).map D.p)=len*n:=by rw[bL,sD (sz:=n) _ λe b=>by rw[(Wp.1 b).2];exact g,se]);obtain⟨c,W,C,X⟩:=Dm E parts.toList Q _ _ cs J (cp.N4 r (by rw[j];simp)) V s;obtain⟨m,Y,a2,a5,a3,a4⟩:=I.zN e (vs:=c) (cs:=cs) (λ_ h _ _=>C.zM.mono h) X;rw[C.1,f] at a5;(have u:len<=maxLen:=by have h5:len*1<=len*n:=Nat.mul_le_mul_left _ l.2;have h6:=l.1;simp only[maxLen];omega);refine⟨_,_,m,.inl ?_,Y,a3,a4,.af _ _ _ _ _ _ a2 (aS _) u (k:=0) (by decide) a5⟩;(have e1:¬(len*n>2 ^ 24):=by have:=l.1;omega);simp only[execOp,y,Instr.buildSlice,Sem.run_bind,Result.andThen_ok,run_underlying A,jL B,e1,if_false,S];simp[T,M,W,newRow]};cases b
end
end Go.Vs
